/-
  What the iterator of mechs.All yields. Conditions: those that each theorem types.
-/
import Derived.Test.YthjcldkaodmfoaaMechB
namespace Go.Proofs.Ythjcldkaodmfoaa
open Go.RowKit Go.Shelf

attribute [local go_sem] Oper.semAt_some

set_option maxRecDepth 100000 in
set_option maxHeartbeats 4000000 in
theorem all1_yields : Yields Try.prog 36 #[] (mcs.map fun m => #[.int .i64 m.kind]) (fun _ => True) := by
  intro l J Jx W hJ hJx _ hY h0
  have HJ := Ho.mk hJ
  have HJx := Ho.mk hJx
  have HY := Ho.mk hY
  have H0 := Ho.mk h0
  have hlen : (mcs.map fun m => #[Value.int .i64 m.kind]).length = mcs.length := List.length_map _
  rw [hlen]
  clear hJ hJx hY hlen
  refine callsIn_wide.2 (calls_of_marks Try.func36 rfl ?_)
  simp only [Try.ntmps36, List.size_toArray, List.length_cons, List.length_nil, Nat.reduceAdd, Nat.reduceSub, Array.replicate_succ, Array.replicate_zero, List.push_toArray, List.append_toArray, List.nil_append, List.cons_append]
  obtain ⟨W0, hW0⟩ : ∃ W0, W.alloc (.cells #[.func (.yield l) #[] #[]] 45) = W0 := ⟨_, rfl⟩
  have HR0 : Ho (W0.heap[W.heap.size]? = some (.cells #[.func (.yield l) #[] #[]] 45 (0, 0))) := ⟨hW0 ▸ heap_alloc_new W _⟩
  have hz0 : W0.heap.size = W.heap.size + 1 := by rw [← hW0]; simp
  have HZ0 := Ho.mk hz0
  have HJ0 : Ho (J 0 W0) := ⟨hW0 ▸ HJ.out.alloc _ h0⟩
  clear hz0 h0 H0
  go_wp2_with fail
  refine (mechs_all W0).mono ?_
  rintro e w1 ⟨B, rfl, hb1, b, hbb, hbB, hrows, hy⟩
  have HRows := Ho.mk hrows
  have HYY := Ho.mk hy
  have hz1 : W.heap.size + 1 ≤ w1.heap.size := by have := hb1.size; have := HZ0.out; omega
  have HR1 := Ho.mk (rowB hb1 HR0.out)
  have HB1 := Ho.mk hb1
  have HBb : Ho (W.heap.size + 1 ≤ b ∧ W.heap.size + 1 ≤ B) := ⟨by have := HZ0.out; omega⟩
  have HJ1 : Ho (J 0 w1) := ⟨HJ.out 0 W0 w1 none HJ0.out ⟨hb1.os, hb1.tape, hb1.output, hb1.size, fun k hk _ => hb1.block k hk⟩ (fun r e => by cases e)⟩
  clear hrows hy hb1 hW0 hbb hbB
  go_wp2_with fail
  refine wp_rangeW (gf := 68) (lb := #[.pointer (some ⟨B, 0, none⟩)]) rfl (enters_of Try.func68 (by kernel_rfl) rfl) HYY.out
    (fun x hx => by obtain ⟨m, _, rfl⟩ := List.mem_map.1 hx; rfl)
    (fun k X => J k X ∧ (X.heap[W.heap.size]? = some (.cells #[.func (.yield l) #[] #[]] 45 (0, 0)) ∧ (X.heap[B]? = some (.cells #[.slice (some ⟨b, 0, none⟩) 24 24] 103 (0, 0)) ∧ X.heap[b]? = some (.cells mcsCells 82 (0, 0)))))
    (fun c k X => c = .ret ∧ Jx k X)
    ((ownFrom_wider HJ.out (by omega)).and (((row_own _ _ rfl).from _).and (((row_own _ _ rfl).from _).and ((row_own _ _ rfl).from _))))
    (fun c => (ownFrom_pure _ _).and (ownFrom_wider HJx.out (by omega)))
    (fun k X h => h.2.2) ⟨HJ1.out, HR1.out, HRows.out⟩ ?round ?done ?stop
  case round =>
    rintro F l2 k x X hF hro hdep hx hl hr ⟨hJX, hRX⟩
    rw [List.getElem?_map] at hx
    obtain ⟨m, hm, rfl⟩ := Option.map_eq_some_iff.1 hx
    have HX : Ho ((mcs.map fun m => #[Value.int .i64 m.kind])[k]? = some #[.int .i64 m.kind]) := ⟨by rw [List.getElem?_map, hm]; rfl⟩
    have HM := Ho.mk hm
    clear hm hx hJX hRX
    obtain ⟨pk, pu, py, pm, pp⟩ := m
    cases pp with
    | none =>
      simp only [Mc.enc, parV]
      gi_wp2
      refine ⟨.inr ⟨_, _, rfl⟩, ?_⟩
      rintro Y ⟨hJY, hRY⟩ hc hfz hrY hsz
      have HRY := Ho.mk hRY
      have a0 := hc ⟨X.heap.size, 0, none⟩ _ (cell5 (heap_alloc_new X _)).1.1
      have yc := cell_of_row _ W.heap.size 0 _ _ _ hRY.1
      obtain ⟨fn, tmps, assign, body, hy, hR⟩ := yield_in (n := 8) hF.out (HY.out k _ Y HX.out hJY)
      clear hc hfz hrY hsz hRY
      gi_wp2
      refine hR.mono ?_
      rintro e W3 ⟨hk3, ⟨rfl, hJ3⟩ | ⟨rfl, hJx3⟩⟩
      · have HK3 := Ho.mk hk3
        clear hk3
        gi_wp2
        exact ⟨HK3.out.wider (by omega), hJ3, HK3.out.same _ _ (Nat.le_refl _) HRY.out.1, HK3.out.same _ _ (by have := HBb.out; omega) HRY.out.2.1, HK3.out.same _ _ (by have := HBb.out; omega) HRY.out.2.2⟩
      · have HK3 := Ho.mk hk3
        clear hk3
        gi_wp2
        exact ⟨HK3.out.wider (by omega), rfl, hJx3⟩
    | some f =>
      simp only [Mc.enc, parV]
      gi_wp2
      refine ⟨.inr ⟨_, _, rfl⟩, ?_⟩
      rintro Y ⟨hJY, hRY⟩ hc hfz hrY hsz
      have HRY := Ho.mk hRY
      have a0 := hc ⟨X.heap.size, 0, none⟩ _ (cell5 (heap_alloc_new X _)).1.1
      have yc := cell_of_row _ W.heap.size 0 _ _ _ hRY.1
      obtain ⟨fn, tmps, assign, body, hy, hR⟩ := yield_in (n := 8) hF.out (HY.out k _ Y HX.out hJY)
      clear hc hfz hrY hsz hRY
      gi_wp2
      refine hR.mono ?_
      rintro e W3 ⟨hk3, ⟨rfl, hJ3⟩ | ⟨rfl, hJx3⟩⟩
      · have HK3 := Ho.mk hk3
        clear hk3
        gi_wp2
        exact ⟨HK3.out.wider (by omega), hJ3, HK3.out.same _ _ (Nat.le_refl _) HRY.out.1, HK3.out.same _ _ (by have := HBb.out; omega) HRY.out.2.1, HK3.out.same _ _ (by have := HBb.out; omega) HRY.out.2.2⟩
      · have HK3 := Ho.mk hk3
        clear hk3
        gi_wp2
        exact ⟨HK3.out.wider (by omega), rfl, hJx3⟩
  case done =>
    rintro D X hD ⟨hJX, _⟩ hK
    refine ⟨by simp, .inl ⟨_, _, rfl, run_takeDeferred hK, ?_⟩⟩
    have hJ' := HJ.out.putObj (.deferred none) hJX (by omega) hK rfl
    rw [List.length_map] at hJ'
    exact ⟨_, results_none rfl _ _ _, ⟨_, rfl⟩, .inl hJ'⟩
  case stop =>
    rintro D c k X hD hk ⟨rfl, hJX⟩ hK
    go_wp2
    refine ⟨by simp, .inl ⟨_, _, rfl, run_takeDeferred hK, ?_⟩⟩
    rw [List.length_map] at hk
    exact ⟨_, results_none rfl _ _ _, ⟨_, rfl⟩, .inr ⟨k, hk, HJx.out.putObj (.deferred none) hJX (by omega) hK rfl⟩⟩

end Go.Proofs.Ythjcldkaodmfoaa
