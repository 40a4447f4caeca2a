/-
  What MechAll returns. Conditions: those that each theorem types.
-/
import Derived.Test.YthjcldkaodmfoaaMechE
namespace Go.Proofs.Ythjcldkaodmfoaa
open Go.RowKit Go.Shelf

attribute [local go_sem] Oper.semAt_some

def kindCells : Array Value := (mcs.map fun m => Value.int .i64 m.kind).toArray
theorem kind_at {w : World} {b : Nat} {t : TypeId} (h : w.heap[b]? = some (.cells kindCells t (0, 0))) {k : Nat} {m : Mc} (hm : mcs[k]? = some m) : w.cell? ⟨b, k, none⟩ = some (.int .i64 m.kind) := by
  rw [cell_of_row w b k _ _ _ h]
  unfold kindCells
  rw [List.getElem?_toArray, List.getElem?_map, hm]
  rfl

set_option maxRecDepth 100000 in
theorem ref19_All (w : World) : Calls Try.prog 18 #[] w fun e w' => e = .returned (.slice (some ⟨w.heap.size, 0, none⟩) 24 24) ∧ w' = w.alloc (.cells kindCells 3) := by
  go_enter Try.func18, Try.ntmps18
  go_wp2
  go_ret
  exact ⟨rfl, rfl⟩

theorem mechAll_results (tmps : Array Value) (b : Nat) (ht : tmps.getD 2 undef = .pointer (some ⟨b, 0, none⟩)) (r : Bool) (Z : World) (c0 : Z.cell? ⟨b, 0, none⟩ = some (.bool r)) : (results Try.f4 tmps).run Try.prog Z = .ok (.bool r) Z := by
  have ht2 : tmps[2]?.getD undef = .pointer (some ⟨b, 0, none⟩) := by rw [← ht]; simp
  simp [results, Try.results4, go_sem, ht, ht2, c0]

set_option maxRecDepth 100000 in
set_option maxHeartbeats 4000000 in
theorem mechAll_walk (most : Int) (w : World) : Calls Try.prog 4 #[.int .i64 most] w fun e w' => e = .returned (.bool true) ∧ Below w.heap.size w w' := by
  refine calls_of_marks Try.func4 rfl ?_
  simp only [Try.ntmps4, List.size_toArray, List.length_cons, List.length_nil, Nat.reduceAdd, Nat.reduceSub, Array.replicate_succ, Array.replicate_zero, List.push_toArray, List.append_toArray, List.nil_append, List.cons_append]
  have hnn := fun W fn a b => run_eql_func_nil (P := Try.prog) W fn a b Try.underlying49
  go_wp2_with fail
  have hba : Below w.heap.size w ((w.alloc (.cells #[.int .i64 most] 3)).alloc (.cells #[.bool false] 4)) := ((Below.refl _ _).alloc (Nat.le_refl _) _).alloc (by simp) _
  have hR0 := (Boxed.new w 3 (.int .i64 most)).alloc (.cells #[.bool false] 4)
  have hR1 := Boxed.new (w.alloc (.cells #[.int .i64 most] 3)) 4 (.bool false)
  rw [World.size_alloc] at hR1
  refine (law19_begun _).mono ?_
  rintro e w1 ⟨rfl, hb1⟩
  have HB1 := Ho.mk (below_base hba hba.size hb1)
  have HR0 : Ho (Boxed w1 w.heap.size 3 (.int .i64 most)) := ⟨rowB hb1 hR0⟩
  have HR1 : Ho (Boxed w1 (w.heap.size + 1) 4 (.bool false)) := ⟨rowB hb1 hR1⟩
  have hz1 : w.heap.size + 2 ≤ w1.heap.size := by have := hb1.size; simp at this; omega
  clear hba hR0 hR1 hb1
  go_wp2_with fail
  refine (ref19_All _).mono ?_
  rintro e w2 ⟨rfl, e2⟩
  have E2 := Ho.mk e2
  clear e2
  go_wp2_with fail
  refine (mechs_All _).mono ?_
  rintro e w3 ⟨rfl, rfl⟩
  go_wp2_with fail
  obtain ⟨W5, hW5⟩ : ∃ W5, (w2.alloc (.cells #[.slice (some ⟨w1.heap.size + 1, 0, none⟩) 24 24] 46)).alloc (.cells #[.int .i64 0] 3) = W5 := ⟨_, rfl⟩
  have hb2 : Below w1.heap.size w1 w2 := E2.out ▸ ((Below.refl _ _).alloc (Nat.le_refl _) _).alloc (by simp) _
  have hz2 : w2.heap.size = w1.heap.size + 2 := by rw [E2.out]; simp
  have hb5 : Below w2.heap.size w2 W5 := hW5 ▸ ((Below.refl _ _).alloc (Nat.le_refl _) _).alloc (by simp) _
  have hz5 : W5.heap.size = w1.heap.size + 4 := by rw [← hW5]; simp; omega
  have HZ2 := Ho.mk hz2
  have HZ5 := Ho.mk hz5
  have R0 : Boxed W5 w.heap.size 3 (.int .i64 most) := rowB hb5 (rowB hb2 HR0.out)
  have R1 : Boxed W5 (w.heap.size + 1) 4 (.bool false) := rowB hb5 (rowB hb2 HR1.out)
  have R3 : Boxed W5 w1.heap.size 4 (.bool true) := rowB hb5 (E2.out ▸ (Boxed.new w1 4 (.bool true)).alloc _)
  have R4 : W5.heap[w1.heap.size + 1]? = some (.cells kindCells 3 (0, 0)) := rowB hb5 (by
    have := heap_alloc_new (w1.alloc (.cells #[.bool true] 4)) (.cells kindCells 3)
    rw [World.size_alloc, ← E2.out] at this
    exact this)
  have R5 : Boxed W5 w2.heap.size 46 (.slice (some ⟨w1.heap.size + 1, 0, none⟩) 24 24) := hW5 ▸ (Boxed.new w2 46 _).alloc _
  have R6 : Boxed W5 (w2.heap.size + 1) 3 (.int .i64 (0 : Nat)) := by
    have := Boxed.new (w2.alloc (.cells #[.slice (some ⟨w1.heap.size + 1, 0, none⟩) 24 24] 46)) 3 (.int .i64 (0 : Nat))
    rw [World.size_alloc] at this
    exact hW5 ▸ this
  have HB5 : Below w.heap.size w W5 := below_base (below_base HB1.out HB1.out.size hb2) (by omega) hb5
  rw [hW5]
  clear hW5 hb2 hb5 hz2 hz5
  refine wp_rangeW (gf := 36) (lb := #[]) rfl (enters_of Try.func36 (by kernel_rfl) rfl) all1_yields
    (fun x hx => by obtain ⟨m, _, rfl⟩ := List.mem_map.1 hx; rfl)
    (fun k X => (Boxed X w.heap.size 3 (.int .i64 most) ∧ (Boxed X w1.heap.size 4 (.bool true) ∧ (X.heap[w1.heap.size + 1]? = some (.cells kindCells 3 (0, 0)) ∧ Boxed X w2.heap.size 46 (.slice (some ⟨w1.heap.size + 1, 0, none⟩) 24 24)))) ∧
      (Boxed X (w.heap.size + 1) 4 (.bool false) ∧ (Boxed X (w2.heap.size + 1) 3 (.int .i64 (k : Nat)) ∧ Below w.heap.size w X)))
    (fun c _ X => c = .ret ∧ (Boxed X (w.heap.size + 1) 4 (.bool true) ∧ Below w.heap.size w X))
    ((((boxed_own _ _ _).from _).and (((boxed_own _ _ _).from _).and (((row_own _ _ rfl).from _).and ((boxed_own _ _ _).from _)))).and (((boxed_own _ _ _).from _).and (((boxed_own (w2.heap.size + 1) 3 (fun k : Nat => Value.int .i64 k)).from _).and (ownFrom_below (Nat.le_refl _) (by have := HZ5.out; omega)))))
    (fun c => (ownFrom_pure _ _).and (((boxed_own _ _ _).from _).and (ownFrom_below (Nat.le_refl _) (by have := HZ5.out; omega))))
    (fun _ _ _ => trivial) ⟨⟨R0, R3, R4, R5⟩, R1, R6, HB5⟩ ?round ?done ?stop
  case round =>
    rintro F l k x X hF hro hdep hx hl hr hI
    clear R0 R1 R3 R4 R5 R6
    have hk : k < 24 := by
      have := (List.getElem?_eq_some_iff.1 hx).1
      rw [List.length_map] at this
      exact this
    rw [List.getElem?_map] at hx
    obtain ⟨m, hm, rfl⟩ := Option.map_eq_some_iff.1 hx
    clear hI
    gi_wp2
    refine ⟨.inl rfl, ?_⟩
    rintro Y ⟨⟨b0, b3, b4, b5⟩, b1, b6, hBY⟩ hc hfz hrY hsz
    have c0 := b0.cell
    have c3 := b3.cell
    have c5 := b5.cell
    have c6 := b6.cell
    have f6 := b6.frozen
    have c1 := b1.cell
    have f1 := b1.frozen
    have c4 := kind_at b4 hm
    have HBY := Ho.mk hBY
    have HbY := Ho.mk (And.intro b0 (And.intro b3 (And.intro b4 (And.intro b5 (And.intro b1 b6)))))
    have q1 : decide ((24 : Int) ≤ (k : Int)) = false := decf (by omega)
    have hn1 : w.heap.size + 1 ≠ w2.heap.size + 1 := by have := HZ2.out; omega
    have hn2 : w.heap.size ≠ w2.heap.size + 1 := by have := HZ2.out; omega
    have hn3 : w1.heap.size ≠ w2.heap.size + 1 := by have := HZ2.out; omega
    clear hx hm hc hfz hrY hsz b0 b3 b4 b5 b1 b6 hBY
    by_cases hmk : (k : Int) + 1 = most
    · have q2 : ((k : Int) + 1 == most) = true := beq_iff_eq.2 hmk
      clear hmk
      gi_wp2
      obtain ⟨b0, b3, b4, b5, b1, b6⟩ := HbY.out
      refine ⟨(KeepUp.setCell _ _ _ (by have := HZ5.out; have := HZ2.out; simp; omega)).trans (KeepUp.setCell _ _ _ (by have := HZ5.out; have := HZ2.out; simp; omega)), rfl, (b1.other hn1 _).set _, ?_⟩
      exact (HBY.out.setCell (p := ⟨w2.heap.size + 1, 0, none⟩) (by have := HZ2.out; simp; omega) _).setCell (p := ⟨w.heap.size + 1, 0, none⟩) (by simp) _
    · have q2 : ((k : Int) + 1 == most) = false := beq_eq_false_iff_ne.2 hmk
      clear hmk
      gi_wp2
      obtain ⟨b0, b3, b4, b5, b1, b6⟩ := HbY.out
      refine ⟨KeepUp.setCell _ _ _ (by have := HZ5.out; have := HZ2.out; simp; omega), ⟨b0.other hn2 _, b3.other hn3 _, ?_, b5.other (by omega) _⟩, b1.other hn1 _, b6.set _, ?_⟩
      · exact (heap_setCell_other _ _ _ _ (by have := HZ2.out; simp; omega)).trans b4
      · exact HBY.out.setCell (p := ⟨w2.heap.size + 1, 0, none⟩) (by have := HZ2.out; simp; omega) _
  case done =>
    rintro D X hD ⟨⟨b0, b3, b4, b5⟩, b1, b6, hBY⟩ hK
    rw [List.length_map] at b6
    have c3 := b3.cell
    have c5 := b5.cell
    have c6 : X.cell? ⟨w2.heap.size + 1, 0, none⟩ = some (.int .i64 24) := b6.cell
    have c1 := b1.cell
    have f1 := b1.frozen
    have HBY := Ho.mk hBY
    have HK := Ho.mk hK
    have Hb1 := Ho.mk b1
    clear b0 b3 b4 b5 b1 b6 hBY hK
    go_wp2
    have hK2 := (KeepUp.setCell (B := W5.heap.size) X ⟨w.heap.size + 1, 0, none⟩ (.bool true) (by have := HZ5.out; simp; omega)).same D _ hD HK.out
    refine ⟨by simp, .inl ⟨_, _, rfl, run_takeDeferred hK2, ?_⟩⟩
    have hc : ((X.setCell ⟨w.heap.size + 1, 0, none⟩ (.bool true)).putObj D (.deferred none)).cell? ⟨w.heap.size + 1, 0, none⟩ = some (.bool true) :=
      cell_of_row _ _ 0 _ _ _ ((World.putObj_heap_other (by have := HZ5.out; omega)).trans (show (X.setCell ⟨w.heap.size + 1, 0, none⟩ (.bool true)).heap[w.heap.size + 1]? = some (.cells #[.bool true] 4 (0, 0)) from Hb1.out.set _))
    refine ⟨.bool true, mechAll_results _ _ rfl _ _ hc, rfl, ?_⟩
    exact (HBY.out.setCell (p := ⟨w.heap.size + 1, 0, none⟩) (by simp) _).trans (belowK_b (w := w) (Nat.le_refl _) _ D _ _ (by have := HZ5.out; omega) hK2 rfl rfl)
  case stop =>
    rintro D c k X hD hk ⟨rfl, b1, hB⟩ hK
    go_wp2
    refine ⟨by simp, .inl ⟨_, _, rfl, run_takeDeferred hK, ?_⟩⟩
    have hc : (X.putObj D (.deferred none)).cell? ⟨w.heap.size + 1, 0, none⟩ = some (.bool true) :=
      cell_of_row _ _ 0 _ _ _ ((World.putObj_heap_other (by have := HZ5.out; omega)).trans (show X.heap[w.heap.size + 1]? = some (.cells #[.bool true] 4 (0, 0)) from b1))
    exact ⟨.bool true, mechAll_results _ _ rfl _ _ hc, rfl, hB.trans (belowK_b (w := w) (Nat.le_refl _) _ D _ _ (by have := HZ5.out; omega) hK rfl rfl)⟩

end Go.Proofs.Ythjcldkaodmfoaa
