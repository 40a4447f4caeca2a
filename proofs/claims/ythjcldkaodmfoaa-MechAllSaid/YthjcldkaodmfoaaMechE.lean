/-
  What begun of the nineteenth law package returns. Conditions: those that each theorem types.
-/
import Derived.Test.YthjcldkaodmfoaaMechD
namespace Go.Proofs.Ythjcldkaodmfoaa
open Go.RowKit Go.Shelf

attribute [local go_sem] Oper.semAt_some

set_option maxRecDepth 100000 in
set_option maxHeartbeats 4000000 in
theorem law19_begun (w : World) : Calls Try.prog 17 #[] w fun e w' => e = .returned (.bool true) ∧ Below w.heap.size w w' := by
  refine calls_of_marks Try.func17 rfl ?_
  simp only [Try.ntmps17, List.size_toArray, List.length_cons, List.length_nil, Nat.reduceAdd, Nat.reduceSub, Array.replicate_succ, Array.replicate_zero, List.push_toArray, List.append_toArray, List.nil_append, List.cons_append]
  have hnn := fun W fn a b => run_eql_func_nil (P := Try.prog) W fn a b Try.underlying49
  go_wp2_with fail
  refine (mechs_Key 4231 w).mono ?_
  rw [of4231]
  rintro e w1 ⟨rfl, hb1⟩
  have HB1 := Ho.mk hb1
  clear hb1
  go_wp2_with fail
  refine (mechs_All w1).mono ?_
  rintro e w2 ⟨rfl, rfl⟩
  go_wp2_with fail
  obtain ⟨W0, hW0⟩ : ∃ W0, w1.alloc (.cells #[.int .i64 0] 3) = W0 := ⟨_, rfl⟩
  have HB0 : Ho (Below w.heap.size w W0) := ⟨hW0 ▸ HB1.out.alloc HB1.out.size _⟩
  have HR0 : Ho (Boxed W0 w1.heap.size 3 (.int .i64 (0 : Nat))) := ⟨hW0 ▸ Boxed.new w1 _ _⟩
  have hz0 : W0.heap.size = w1.heap.size + 1 := by rw [← hW0]; simp
  have hz1 : w.heap.size ≤ w1.heap.size := HB1.out.size
  rw [hW0]
  have HZ0 := Ho.mk hz0
  clear hW0 hz0
  refine wp_rangeW (gf := 36) (lb := #[]) rfl (enters_of Try.func36 (by kernel_rfl) rfl) all1_yields
    (fun x hx => by obtain ⟨m, _, rfl⟩ := List.mem_map.1 hx; rfl)
    (fun k X => Boxed X w1.heap.size 3 (.int .i64 (k : Nat)) ∧ Below w.heap.size w X)
    (fun _ _ _ => False)
    (((boxed_own w1.heap.size 3 (fun k : Nat => Value.int .i64 k)).from _).and (ownFrom_below (Nat.le_refl _) (by have := HZ0.out; omega)))
    (fun _ _ _ _ _ hs _ _ => hs)
    (fun _ _ _ => trivial) ⟨HR0.out, HB0.out⟩ ?round ?done ?stop
  case round =>
    rintro F l k x X hF hro hdep hx hl hr ⟨hbx, hBX⟩
    have hk : k < 24 := by
      have := (List.getElem?_eq_some_iff.1 hx).1
      rw [List.length_map] at this
      exact this
    rw [List.getElem?_map] at hx
    obtain ⟨m, hm, rfl⟩ := Option.map_eq_some_iff.1 hx
    clear hm
    gi_wp2
    refine ⟨.inl rfl, ?_⟩
    rintro Y ⟨hbY, hBY⟩ hc hfz hrY hsz
    have c1 := hbY.cell
    have f1 := hbY.frozen
    have HBY := Ho.mk hBY
    have HBX := Ho.mk hbY
    clear hbx hBX hx hc hfz hrY hsz hbY hBY
    gi_wp2
    exact ⟨KeepUp.setCell _ _ _ (by have := HZ0.out; simp; omega), HBX.out.set _, HBY.out.setCell (p := ⟨w1.heap.size, 0, none⟩) (by simp; omega) _⟩
  case done =>
    rintro D X hD ⟨hbX, hBX⟩ hK
    rw [List.length_map] at hbX
    have HK := Ho.mk hK
    have HBX := Ho.mk hBX
    have HbX := Ho.mk hbX
    clear hbX hBX hK
    go_wp2_with fail
    refine (mechs_Uses 4176 X).mono ?_
    rw [of4176]
    rintro e w3 ⟨rfl, hb3⟩
    have HB3 := Ho.mk (below_base HBX.out HBX.out.size hb3)
    have HK3 := Ho.mk (rowB hb3 HK.out)
    have c1 : w3.cell? ⟨w1.heap.size, 0, none⟩ = some (.int .i64 24) := cell_below hb3 (HbX.out.cell)
    clear hb3
    go_wp2_with fail
    refine (mechs_Param_none 592 (.slice none 0 0) [] _ (SlI.nil _ _) (by rw [of592]) (by rw [of592]; decide)).mono ?_
    rintro e w4 ⟨rfl, hb4⟩
    have HB4 := Ho.mk (below_base HB3.out HB3.out.size hb4)
    have HK4 := Ho.mk (rowB hb4 HK3.out)
    clear hb4 c1
    go_wp2_with fail
    refine (mechs_Multi 544 w4).mono ?_
    rw [of544]
    rintro e w5 ⟨rfl, hb5⟩
    have HB5 := Ho.mk (below_base HB4.out HB4.out.size hb5)
    have HK5 := Ho.mk (rowB hb5 HK4.out)
    clear hb5
    go_wp2_with fail
    refine (mechs_May_544 w5).mono ?_
    rintro e w6 ⟨rfl, hb6⟩
    have HB6 := Ho.mk (below_base HB5.out HB5.out.size hb6)
    have HK6 := Ho.mk (rowB hb6 HK5.out)
    clear hb6
    go_wp2
    refine ⟨by simp, .inl ⟨_, _, rfl, run_takeDeferred HK6.out, ?_⟩⟩
    exact ⟨_, results_tmp rfl _ _ _, rfl, HB6.out.trans (belowK_b (w := w) (Nat.le_refl _) _ D _ _ (by have := HZ0.out; omega) HK6.out rfl rfl)⟩
  case stop =>
    rintro D c k X _ _ h _
    exact h.elim

end Go.Proofs.Ythjcldkaodmfoaa
