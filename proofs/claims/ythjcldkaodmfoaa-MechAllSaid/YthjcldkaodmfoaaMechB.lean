/-
  What mechs.of returns. Conditions: those that each theorem types.
-/
import Derived.Test.YthjcldkaodmfoaaMechA
import Derived.Shelf.Abstract
namespace Go.Proofs.Ythjcldkaodmfoaa
open Go.RowKit Go.Shelf

attribute [local go_sem] Oper.semAt_some

theorem row_own {β : Type} (B : Nat) (o : Obj) (ho : o.isCells = true) : Own (fun (_ : β) W => W.heap[B]? = some o) := fun s X Y row hs hg hrow =>
  (hg.block B (Array.getElem?_eq_some_iff.1 hs).1 (fun e => by
    obtain ⟨o', ho', hc⟩ := hrow B e.symm
    rw [hs] at ho'
    cases ho'
    rw [ho] at hc
    cases hc)).trans hs
/-- The mechanism of a kind; one without uses, if there is none. -/
def ofM (k : Int) : Mc := (mcs.find? fun m => m.kind == k).getD ⟨0, 0, -1, false, none⟩
theorem ofM_none {k : Int} (h : ∀ j m, j < mcs.length → mcs[j]? = some m → m.kind ≠ k) : ofM k = ⟨0, 0, -1, false, none⟩ := by
  unfold ofM
  rw [List.find?_eq_none.2]
  · rfl
  · intro m hm
    obtain ⟨j, hj⟩ := List.mem_iff_getElem?.1 hm
    have := h j m (List.getElem?_eq_some_iff.1 hj).1 hj
    simpa using this
theorem ofM_some {k : Int} {n : Nat} {m : Mc} (h : ∀ j m, j < n → mcs[j]? = some m → m.kind ≠ k) (hm : mcs[n]? = some m) (hk : m.kind = k) : ofM k = m := by
  unfold ofM
  have : mcs.find? (fun m => m.kind == k) = some m := by
    rw [List.find?_eq_some_iff_getElem]
    obtain ⟨hn, e⟩ := List.getElem?_eq_some_iff.1 hm
    refine ⟨by simpa using hk, n, hn, e, fun j hj => ?_⟩
    have := h j _ hj (List.getElem?_eq_getElem (by omega))
    simpa using this
  rw [this]; rfl

theorem rowB {w w1 : World} {b : Nat} {r : Obj} (h : Below w.heap.size w w1) (hr : w.heap[b]? = some r) : w1.heap[b]? = some r := (h.block b (Array.getElem?_eq_some_iff.1 hr).1).trans hr
theorem cell5 {w : World} {b : Nat} {x y z u v : Value} {T : TypeId} (h : w.heap[b]? = some (.cells #[x, y, z, u, v] T (0, 0))) :
    (w.cell? ⟨b, 0, none⟩ = some x ∧ w.cell? ⟨b, 1, none⟩ = some y ∧ w.cell? ⟨b, 2, none⟩ = some z ∧ w.cell? ⟨b, 3, none⟩ = some u ∧ w.cell? ⟨b, 4, none⟩ = some v) ∧
    (w.frozen? ⟨b, 0, none⟩ = false ∧ w.frozen? ⟨b, 1, none⟩ = false ∧ w.frozen? ⟨b, 2, none⟩ = false ∧ w.frozen? ⟨b, 3, none⟩ = false ∧ w.frozen? ⟨b, 4, none⟩ = false) :=
  ⟨⟨cell_of_row _ _ _ _ _ _ h, cell_of_row _ _ _ _ _ _ h, cell_of_row _ _ _ _ _ _ h, cell_of_row _ _ _ _ _ _ h, cell_of_row _ _ _ _ _ _ h⟩, frozen_of_row _ _ _ _ _ h, frozen_of_row _ _ _ _ _ h, frozen_of_row _ _ _ _ _ h, frozen_of_row _ _ _ _ _ h, frozen_of_row _ _ _ _ _ h⟩
/-- Five stores over a block of five cells. -/
def set5 (w : World) (b : Nat) (x y z u v : Value) : World := ((((w.setCell ⟨b, 0, none⟩ x).setCell ⟨b, 1, none⟩ y).setCell ⟨b, 2, none⟩ z).setCell ⟨b, 3, none⟩ u).setCell ⟨b, 4, none⟩ v
theorem set5_row {w : World} {b : Nat} {x' y' z' u' v' : Value} {T : TypeId} (h : w.heap[b]? = some (.cells #[x', y', z', u', v'] T (0, 0))) (x y z u v : Value) :
    (set5 w b x y z u v).heap[b]? = some (.cells #[x, y, z, u, v] T (0, 0)) :=
  heap_setCell_same _ b 4 _ _ _ (heap_setCell_same _ b 3 _ _ _ (heap_setCell_same _ b 2 _ _ _ (heap_setCell_same _ b 1 _ _ _ (heap_setCell_same _ b 0 _ _ _ h))))
theorem set5_keeps {B : Nat} (w : World) (b : Nat) (hb : b < B) (x y z u v : Value) : KeepUp B w (set5 w b x y z u v) :=
  ((((KeepUp.setCell _ ⟨b, 0, none⟩ _ hb).trans (KeepUp.setCell _ ⟨b, 1, none⟩ _ hb)).trans (KeepUp.setCell _ ⟨b, 2, none⟩ _ hb)).trans (KeepUp.setCell _ ⟨b, 3, none⟩ _ hb)).trans (KeepUp.setCell _ ⟨b, 4, none⟩ _ hb)
theorem set5_below {B : Nat} {w w1 : World} {b : Nat} (h : Below B w w1) (hb : B ≤ b) (x y z u v : Value) : Below B w (set5 w1 b x y z u v) :=
  ((((h.setCell (p := ⟨b, 0, none⟩) hb _).setCell (p := ⟨b, 1, none⟩) hb _).setCell (p := ⟨b, 2, none⟩) hb _).setCell (p := ⟨b, 3, none⟩) hb _).setCell (p := ⟨b, 4, none⟩) hb _

theorem of_results (tmps : Array Value) (b : Nat) (ht : tmps.getD 2 undef = .pointer (some ⟨b, 0, none⟩)) (m : Mc) (Z : World) (c0 : Z.cell? ⟨b, 0, none⟩ = some (.int .i64 m.kind)) (c1 : Z.cell? ⟨b, 1, none⟩ = some (.int .i64 m.uses)) (c2 : Z.cell? ⟨b, 2, none⟩ = some (.int .i64 m.key))
    (c3 : Z.cell? ⟨b, 3, none⟩ = some (.bool m.multi)) (c4 : Z.cell? ⟨b, 4, none⟩ = some (parV m.par)) : (results Try.f48 tmps).run Try.prog Z = .ok m.enc Z := by
  have ht2 : tmps[2]?.getD undef = .pointer (some ⟨b, 0, none⟩) := by rw [← ht]; simp
  simp [results, Try.results48, go_sem, ht, ht2, c0, c1, c2, c3, c4, Mc.enc]

def OfPost (k : Int) (w : World) (e : Ending) (w' : World) : Prop := e = .returned (ofM k).enc ∧ Below w.heap.size w w'

set_option maxRecDepth 100000 in
set_option maxHeartbeats 4000000 in
theorem mechs_of (kind : Int) (w : World) : Calls Try.prog 48 #[.int .i64 kind] w (OfPost kind w) := by
  refine calls_of_marks Try.func48 rfl ?_
  simp only [Try.ntmps48, List.size_toArray, List.length_cons, List.length_nil, Nat.reduceAdd, Nat.reduceSub, Array.replicate_succ, Array.replicate_zero, List.push_toArray, List.append_toArray, List.nil_append, List.cons_append]
  go_wp2_with fail
  obtain ⟨W0, hW0⟩ : ∃ W0, (w.alloc (.cells #[.int .i64 kind] 3)).alloc (.cells #[.int .i64 0, .int .i64 0, .int .i64 0, .bool false, .nilFunc] 82) = W0 := ⟨_, rfl⟩
  have HB0 : Ho (Below w.heap.size w W0) := ⟨hW0 ▸ ((Below.refl _ _).alloc (Nat.le_refl _) _).alloc (by simp) _⟩
  have hz0 : W0.heap.size = w.heap.size + 2 := by rw [← hW0]; simp
  have HR0 : Ho (W0.heap[w.heap.size]? = some (.cells #[.int .i64 kind] 3 (0, 0))) := ⟨hW0 ▸ (Below.heap_alloc _ _ _ (by simp)).trans (heap_alloc_new w _)⟩
  have HR1 : Ho (W0.heap[w.heap.size + 1]? = some (.cells #[.int .i64 0, .int .i64 0, .int .i64 0, .bool false, .nilFunc] 82 (0, 0))) := ⟨by
    have := heap_alloc_new (w.alloc (.cells #[.int .i64 kind] 3)) (.cells #[.int .i64 0, .int .i64 0, .int .i64 0, .bool false, .nilFunc] 82)
    rw [World.size_alloc, hW0] at this
    exact this⟩
  rw [hW0]
  have HZ0 := Ho.mk hz0
  clear hW0 hz0
  refine (mechs_all W0).mono ?_
  rintro e w1 ⟨B, rfl, hb1, b, hbb, hbB, hrows, hy⟩
  have HRows := Ho.mk hrows
  clear hrows
  have HY := Ho.mk hy
  have HB1 := Ho.mk (below_base HB0.out HB0.out.size hb1)
  have HR2 := Ho.mk ((hb1.block _ (Array.getElem?_eq_some_iff.1 HR0.out).1).trans HR0.out)
  have HR3 := Ho.mk ((hb1.block _ (Array.getElem?_eq_some_iff.1 HR1.out).1).trans HR1.out)
  have hz1 : w.heap.size + 2 ≤ w1.heap.size := by have := hb1.size; have := HZ0.out; omega
  clear hy hb1 HR0 HR1
  go_wp2_with fail
  refine wp_rangeW (gf := 68) (lb := #[.pointer (some ⟨B, 0, none⟩)]) rfl (enters_of Try.func68 (by kernel_rfl) rfl) HY.out
    (fun x hx => by obtain ⟨m, _, rfl⟩ := List.mem_map.1 hx; rfl)
    (fun k X => Below w1.heap.size w1 X ∧ ∀ j m, j < k → mcs[j]? = some m → m.kind ≠ kind)
    (fun c _ X => c = .ret ∧ (Below w.heap.size w X ∧ X.heap[w.heap.size + 1]? = some (.cells (ofM kind).cells.toArray 82 (0, 0))))
    ((ownFrom_below (Nat.le_refl _) (Nat.le_refl _)).and (ownFrom_pure _ _))
    (fun c => (ownFrom_pure _ _).and ((ownFrom_below (Nat.le_refl _) (by omega)).and ((row_own _ _ rfl).from _)))
    (fun k X h => ⟨rowB h.1 HRows.out.1, rowB h.1 HRows.out.2⟩) ⟨Below.refl _ _, fun j m hj => absurd hj (by omega)⟩ ?round ?done ?stop
  case round =>
    rintro F l k x X hF hro hdep hx hl hr ⟨hB, hne⟩
    rw [List.getElem?_map] at hx
    obtain ⟨m, hm, rfl⟩ := Option.map_eq_some_iff.1 hx
    have HX := Ho.mk hB
    have HN := Ho.mk hne
    have HM := Ho.mk hm
    have hsX : w.heap.size + 2 ≤ X.heap.size := Nat.le_trans hz1 hB.size
    clear hB hne hm hx
    obtain ⟨pk, pu, py, pm, pp⟩ := m
    cases pp with
    | none =>
      simp only [Mc.enc, parV]
      gi_wp2
      refine ⟨.inr ⟨_, _, rfl⟩, ?_⟩
      rintro Y ⟨hBY, _⟩ hc hfz hrY hsz
      have HBY := Ho.mk hBY
      have a0 := hc ⟨X.heap.size, 0, none⟩ _ (cell5 (heap_alloc_new X _)).1.1
      have a1 := hc ⟨X.heap.size, 1, none⟩ _ (cell5 (heap_alloc_new X _)).1.2.1
      have a2 := hc ⟨X.heap.size, 2, none⟩ _ (cell5 (heap_alloc_new X _)).1.2.2.1
      have a3 := hc ⟨X.heap.size, 3, none⟩ _ (cell5 (heap_alloc_new X _)).1.2.2.2.1
      have a4 := hc ⟨X.heap.size, 4, none⟩ _ (cell5 (heap_alloc_new X _)).1.2.2.2.2
      have kc := cell_of_row _ w.heap.size 0 _ _ _ (rowB hBY HR2.out)
      obtain ⟨⟨b0, b1, b2, b3, b4⟩, f0, f1, f2, f3, f4⟩ := cell5 (rowB hBY HR3.out)
      have HRY := Ho.mk (rowB hBY HR3.out)
      have hne : X.heap.size ≠ w.heap.size + 1 := by omega
      clear hc hfz hrY hsz hBY
      by_cases hk : pk = kind
      · have HO := Ho.mk (ofM_some HN.out HM.out hk)
        have HK := Ho.mk hk
        have q : (pk == kind) = true := beq_iff_eq.2 hk
        clear hk
        gi_wp2
        refine ⟨set5_keeps Y _ (by omega) _ _ _ _ _, rfl, set5_below (below_base HB1.out HB1.out.size HBY.out) (by omega) _ _ _ _ _, ?_⟩
        rw [HO.out]
        exact set5_row HRY.out _ _ _ _ _
      · have q : (pk == kind) = false := beq_eq_false_iff_ne.2 hk
        have HK := Ho.mk hk
        clear hk
        gi_wp2
        refine ⟨KeepUp.refl _ _, HBY.out, fun j m hj hm => ?_⟩
        rcases Nat.lt_or_ge j k with h | h
        · exact HN.out j m h hm
        · obtain rfl : j = k := by omega
          rw [HM.out] at hm
          cases hm
          exact HK.out
    | some f =>
      simp only [Mc.enc, parV]
      gi_wp2
      refine ⟨.inr ⟨_, _, rfl⟩, ?_⟩
      rintro Y ⟨hBY, _⟩ hc hfz hrY hsz
      have HBY := Ho.mk hBY
      have a0 := hc ⟨X.heap.size, 0, none⟩ _ (cell5 (heap_alloc_new X _)).1.1
      have a1 := hc ⟨X.heap.size, 1, none⟩ _ (cell5 (heap_alloc_new X _)).1.2.1
      have a2 := hc ⟨X.heap.size, 2, none⟩ _ (cell5 (heap_alloc_new X _)).1.2.2.1
      have a3 := hc ⟨X.heap.size, 3, none⟩ _ (cell5 (heap_alloc_new X _)).1.2.2.2.1
      have a4 := hc ⟨X.heap.size, 4, none⟩ _ (cell5 (heap_alloc_new X _)).1.2.2.2.2
      have kc := cell_of_row _ w.heap.size 0 _ _ _ (rowB hBY HR2.out)
      obtain ⟨⟨b0, b1, b2, b3, b4⟩, f0, f1, f2, f3, f4⟩ := cell5 (rowB hBY HR3.out)
      have HRY := Ho.mk (rowB hBY HR3.out)
      have hne : X.heap.size ≠ w.heap.size + 1 := by omega
      clear hc hfz hrY hsz hBY
      by_cases hk : pk = kind
      · have HO := Ho.mk (ofM_some HN.out HM.out hk)
        have HK := Ho.mk hk
        have q : (pk == kind) = true := beq_iff_eq.2 hk
        clear hk
        gi_wp2
        refine ⟨set5_keeps Y _ (by omega) _ _ _ _ _, rfl, set5_below (below_base HB1.out HB1.out.size HBY.out) (by omega) _ _ _ _ _, ?_⟩
        rw [HO.out]
        exact set5_row HRY.out _ _ _ _ _
      · have q : (pk == kind) = false := beq_eq_false_iff_ne.2 hk
        have HK := Ho.mk hk
        clear hk
        gi_wp2
        refine ⟨KeepUp.refl _ _, HBY.out, fun j m hj hm => ?_⟩
        rcases Nat.lt_or_ge j k with h | h
        · exact HN.out j m h hm
        · obtain rfl : j = k := by omega
          rw [HM.out] at hm
          cases hm
          exact HK.out
  case done =>
    rintro D X hD ⟨hB, hne⟩ hK
    have HK := Ho.mk hK
    have HO := Ho.mk (ofM_none hne)
    have HX := Ho.mk hB
    have HRX := Ho.mk (rowB hB HR3.out)
    obtain ⟨⟨b0, b1, b2, b3, b4⟩, f0, f1, f2, f3, f4⟩ := cell5 (rowB hB HR3.out)
    clear hK hne hB
    go_wp2
    have hK2 := (set5_keeps (B := w1.heap.size) X (w.heap.size + 1) (by omega) (.int .i64 0) (.int .i64 0) (.int .i64 (-1)) (.bool false) .nilFunc).same D _ hD HK.out
    refine ⟨by simp, .inl ⟨_, _, rfl, run_takeDeferred hK2, ?_⟩⟩
    have hR := (World.putObj_heap_other (o := .deferred none) (show w.heap.size + 1 ≠ D by omega)).trans (set5_row HRX.out (.int .i64 0) (.int .i64 0) (.int .i64 (-1)) (.bool false) .nilFunc)
    obtain ⟨⟨c0, c1, c2, c3, c4⟩, _⟩ := cell5 hR
    have HBf : Below w.heap.size w ((set5 X (w.heap.size + 1) (.int .i64 0) (.int .i64 0) (.int .i64 (-1)) (.bool false) .nilFunc).putObj D (.deferred none)) := by
      have h1 := set5_below (below_base HB1.out HB1.out.size HX.out) (b := w.heap.size + 1) (by omega) (.int .i64 0) (.int .i64 0) (.int .i64 (-1)) (.bool false) .nilFunc
      exact h1.trans (belowK_b (w := w) (Nat.le_refl _) _ D _ _ (by have := HB1.out.size; omega) hK2 rfl rfl)
    refine ⟨(ofM kind).enc, ?_, rfl, HBf⟩
    rw [HO.out]
    exact of_results _ _ rfl ⟨0, 0, -1, false, none⟩ _ c0 c1 c2 c3 c4
  case stop =>
    rintro D c k X hD hk ⟨rfl, hB, hR⟩ hK
    go_wp2
    refine ⟨by simp, .inl ⟨_, _, rfl, run_takeDeferred hK, ?_⟩⟩
    have hR2 := (World.putObj_heap_other (o := .deferred none) (show w.heap.size + 1 ≠ D by omega)).trans hR
    obtain ⟨⟨c0, c1, c2, c3, c4⟩, _⟩ := cell5 hR2
    refine ⟨(ofM kind).enc, ?_, rfl, hB.trans (belowK_b (w := w) (Nat.le_refl _) _ D _ _ (by have := HB1.out.size; omega) hK rfl rfl)⟩
    exact of_results _ _ rfl (ofM kind) _ c0 c1 c2 c3 c4

end Go.Proofs.Ythjcldkaodmfoaa
