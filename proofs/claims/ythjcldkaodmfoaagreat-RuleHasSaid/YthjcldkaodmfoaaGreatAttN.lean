/-
  What rules.Made returns where an object is created. Conditions: those that each theorem types.
-/
import Derived.Test.YthjcldkaodmfoaaGreatAttM
import Derived.Shelf.RegionOpen
namespace Go.Proofs.YthjcldkaodmfoaaGreat
open Go.RowKit Go.Shelf

attribute [local go_sem] Oper.semAt_some

def madeS (all : List At) (c k : Int) (oo : Option (List At)) (t : Int) : Option (List At) :=
  match oo with
  | none => none
  | some o => if hasL c k t then (if cameL all t then some (o ++ [(t, valL all t)]) else if mustL c t then none else some (o ++ [stdA c t])) else some o
/-- The attributes of an object, before what is reckoned; none: one is lacking. -/
def madeT (all : List At) (c k : Int) (ts : List Int) : Option (List At) := ts.foldl (madeS all c k) (some [])
theorem madeT_snoc {all : List At} {c k : Int} {ts : List Int} {i : Nat} (h : i < ts.length) : madeT all c k (ts.take (i + 1)) = madeS all c k (madeT all c k (ts.take i)) (ts[i]'h) := by
  unfold madeT
  rw [List.take_succ_eq_append_getElem h, List.foldl_append]
  rfl
theorem foldl_none {all : List At} {c k : Int} (ts : List Int) : ts.foldl (madeS all c k) none = none := by
  induction ts with
  | nil => rfl
  | cons t ts ih => exact ih
theorem madeT_none {all : List At} {c k : Int} {ts : List Int} {i : Nat} (h : madeT all c k (ts.take i) = none) : madeT all c k ts = none := by
  have e := List.take_append_drop i ts
  unfold madeT at h ⊢
  rw [← e, List.foldl_append, h, foldl_none]
theorem madeS_len {all : List At} {c k t : Int} {o o' : List At} (h : madeS all c k (some o) t = some o') : o'.length ≤ o.length + 1 := by
  unfold madeS at h
  dsimp only at h
  split at h
  · split at h
    · cases h; simp
    · split at h
      · cases h
      · cases h; simp
  · cases h; omega
theorem madeT_len {all : List At} {c k : Int} {ts : List Int} : ∀ {i : Nat} {o : List At}, madeT all c k (ts.take i) = some o → o.length ≤ i := by
  intro i
  induction i with
  | zero => intro o h; simp [madeT] at h; subst h; simp
  | succ i ih =>
    intro o h
    rcases Nat.lt_or_ge i ts.length with hi | hi
    · rw [madeT_snoc hi] at h
      cases hm : madeT all c k (ts.take i) with
      | none => rw [hm] at h; cases h
      | some o1 =>
        rw [hm] at h
        have := ih hm
        have := madeS_len h
        omega
    · rw [List.take_of_length_le (by omega)] at h
      rw [List.take_of_length_le hi] at ih
      have := ih h
      omega

theorem valL_len {l : List At} (hok : AtsOk l) (t : Int) : (valL l t).length ≤ 140737488351232 := by
  unfold valL
  cases h : getL l t with
  | none => simp
  | some b => exact (getL_ok h hok).2
theorem madeS_ok {all : List At} {c k t : Int} {o o' : List At} (hok : AtsOk all) (ho : AtsOk o) (h : madeS all c k (some o) t = some o') : AtsOk o' := by
  unfold madeS at h
  dsimp only at h
  split at h
  · split at h
    · cases h
      intro a ha
      rcases List.mem_append.1 ha with ha | ha
      · exact ho a ha
      · obtain rfl := List.mem_singleton.1 ha
        exact ⟨valL_dg hok t, valL_len hok t⟩
    · split at h
      · cases h
      · cases h
        intro a ha
        rcases List.mem_append.1 ha with ha | ha
        · exact ho a ha
        · obtain rfl := List.mem_singleton.1 ha
          exact stdA_ok c t
  · cases h; exact ho
theorem madeT_ok {all : List At} {c k : Int} {ts : List Int} {o : List At} (hok : AtsOk all) (h : madeT all c k ts = some o) : AtsOk o := by
  have key : ∀ i o, madeT all c k (ts.take i) = some o → AtsOk o := by
    intro i
    induction i with
    | zero => intro o h; simp [madeT] at h; subst h; intro a ha; cases ha
    | succ i ih =>
      intro o h
      rcases Nat.lt_or_ge i ts.length with hi | hi
      · rw [madeT_snoc hi] at h
        cases hm : madeT all c k (ts.take i) with
        | none => rw [hm] at h; cases h
        | some o1 =>
          rw [hm] at h
          exact madeS_ok hok (ih _ hm) h
      · rw [List.take_of_length_le (by omega)] at h
        rw [List.take_of_length_le hi] at ih
        exact ih _ h
  exact key ts.length o (by rwa [List.take_length])

/-! ### What growth beside cells leaves -/
def NCRow (W : World) (row : Option Nat) : Prop := ∀ r, row = some r → ∃ o, W.heap[r]? = some o ∧ o.isCells = false
theorem heap_cells {W : World} {b o : Nat} {v : Value} (h : W.cell? ⟨b, o, none⟩ = some v) : ∃ cs T fr, W.heap[b]? = some (.cells cs T fr) := by
  unfold World.cell? at h
  split at h <;> simp_all
theorem cell_nc {W W' : World} {row : Option Nat} (hg : W.grownBy W' row) (hr : NCRow W row) {b o : Nat} {v : Value} (h : W.cell? ⟨b, o, none⟩ = some v) : W'.cell? ⟨b, o, none⟩ = some v := by
  rw [World.cell?_of_block (w := W) (w' := W') (a := ⟨b, o, none⟩) (hg.block b (World.block_lt_of_cell? W _ h) (fun e => by
    obtain ⟨ob, h1, h2⟩ := hr b e.symm
    obtain ⟨cs, T, fr, h3⟩ := heap_cells h
    rw [h3] at h1
    cases h1
    cases h2))]
  exact h
theorem SlI.nc {W W' : World} {row : Option Nat} (hg : W.grownBy W' row) (hr : NCRow W row) {k : IntKind} {v : Value} {xs : List Int} (h : SlI W k v xs) : SlI W' k v xs := by
  obtain ⟨A, c, e, h1, h2, h3, h4⟩ := h
  refine ⟨A, c, e, h1, h2, h3, fun hp => ?_⟩
  obtain ⟨b, o, eA, hc⟩ := h4 hp
  exact ⟨b, o, eA, fun j hj => cell_nc hg hr (hc j hj)⟩
theorem SlA.nc {W W' : World} {row : Option Nat} (hg : W.grownBy W' row) (hr : NCRow W row) {v : Value} {l : List At} (h : SlA W v l) : SlA W' v l := by
  obtain ⟨A, c, e, h1, h2, h3, h4⟩ := h
  refine ⟨A, c, e, h1, h2, h3, fun hp => ?_⟩
  obtain ⟨b, o, eA, hc⟩ := h4 hp
  refine ⟨b, o, eA, fun j hj => ?_⟩
  obtain ⟨bv, c1, c2, hs⟩ := hc j hj
  exact ⟨bv, cell_nc hg hr c1, cell_nc hg hr c2, hs.nc hg hr⟩
theorem OwA.nc {W W' : World} {row : Option Nat} (hg : W.grownBy W' row) (hr : NCRow W row) {base : Nat} {v : Value} {l : List At} (h : OwA W base v l) : OwA W' base v l := by
  obtain ⟨q, hq, ho, hs⟩ := h
  refine ⟨q, hq, World.ownsRow.kept ho hg ?_, fun p hp => ⟨(hs p hp).1.nc hg hr, (hs p hp).2⟩⟩
  cases e : v.ownBlock with
  | none => exact .inl rfl
  | some b =>
    refine .inr fun er => ?_
    obtain ⟨ob, h1, h2⟩ := hr b er.symm
    rcases ho with ⟨_, ⟨rfl, _⟩ | ⟨g, cap, cur, rfl, _, hg2, _⟩⟩
    · cases e
    · simp only [Value.ownBlock, Option.some.injEq] at e
      subst e
      rw [hg2] at h1
      cases h1
      cases h2
theorem row_nc {W W' : World} {row : Option Nat} (hg : W.grownBy W' row) (hr : NCRow W row) {b : Nat} {cs : Array Value} {T : TypeId} (h : W.heap[b]? = some (.cells cs T (0, 0))) : W'.heap[b]? = some (.cells cs T (0, 0)) :=
  (hg.block b (Array.getElem?_eq_some_iff.1 h).1 (fun e => by
    obtain ⟨ob, h1, h2⟩ := hr b e.symm
    rw [h] at h1
    cases h1
    cases h2)).trans h

theorem SlI.setVar {W : World} {k : IntKind} {v : Value} {xs : List Int} (h : SlI W k v xs) {N : Nat} {x0 : Value} {T : TypeId} {fr : Nat × Nat} (hr : W.heap[N]? = some (.cells #[x0] T fr)) (hx : ∀ z, x0 ≠ .int k z) (y : Value) : SlI (W.setCell ⟨N, 0, none⟩ y) k v xs := by
  obtain ⟨A, cc, e, h1, h2, h3, h4⟩ := h
  refine ⟨A, cc, e, h1, h2, h3, fun hp => ?_⟩
  obtain ⟨b, o, eA, hc⟩ := h4 hp
  have hne : b ≠ N := by
    intro e1
    subst e1
    have := hc 0 hp
    unfold World.cell? at this
    simp only [hr] at this
    cases o with
    | zero => exact hx _ (by simpa using this)
    | succ o => simp at this
  refine ⟨b, o, eA, fun j hj => ?_⟩
  rw [World.cell?_of_block (w := W) (w' := W.setCell ⟨N, 0, none⟩ y) (a := ⟨b, o + j, none⟩) (heap_setCell_other W ⟨N, 0, none⟩ b y hne)]
  exact hc j hj
theorem OwA.setVar {W : World} {base : Nat} {v : Value} {l : List At} (h : OwA W base v l) {N : Nat} {x0 : Value} {T : TypeId} {fr : Nat × Nat} (hN : N < base) (hr : W.heap[N]? = some (.cells #[x0] T fr)) (hx : ∀ z, x0 ≠ .int .u8 z) (y : Value) : OwA (W.setCell ⟨N, 0, none⟩ y) base v l := by
  obtain ⟨q, hq, ho, hs⟩ := h
  have hb := (Below.refl N W).setCell (p := ⟨N, 0, none⟩) (Nat.le_refl _) y
  refine ⟨q, hq, World.ownsRow.kept (row := some N) ho ⟨hb.os, hb.tape, hb.output, hb.size, fun i hi hne => heap_setCell_other W ⟨N, 0, none⟩ i y (fun e => hne (by rw [e]))⟩ ?_, fun p hp => ⟨(hs p hp).1.setVar hr hx y, (hs p hp).2⟩⟩
  cases e : v.ownBlock with
  | none => exact .inl rfl
  | some g =>
    refine .inr fun er => ?_
    have := World.ownsRow.lt ho g e
    cases er
    omega

/-- What a range's rounds leave of Made's own cells. -/
structure MadeI (w4 : World) (c k : Int) (allv : Value) (all : List At) (i : Nat) (X : World) : Prop where
  ex : ∃ ov o, madeT all c k (tys.take i) = some o ∧ X.heap[w4.heap.size]? = some (.cells #[allv] 32 (0, 0)) ∧ X.heap[w4.heap.size + 1]? = some (.cells #[ov] 32 (0, 0)) ∧ OwA X (w4.heap.size + 2) ov o
  below : Below w4.heap.size w4 X
theorem MadeI.nc {w4 X X' : World} {i : Nat} {c k : Int} {allv : Value} {all : List At} {row : Option Nat} (h : MadeI w4 c k allv all i X) (hg : X.grownBy X' row) (hr : NCRow X row) (hw : ∀ r, row = some r → w4.heap.size ≤ r) : MadeI w4 c k allv all i X' := by
  obtain ⟨⟨ov, o, h1, h6, h7, h8⟩, hb⟩ := h
  exact ⟨⟨ov, o, h1, row_nc hg hr h6, row_nc hg hr h7, h8.nc hg hr⟩, hb.grown hg hb.size hw⟩
theorem MadeI.own {w4 : World} {c k : Int} {allv : Value} {all : List At} {B : Nat} (hB : w4.heap.size ≤ B) : OwnFrom B (MadeI w4 c k allv all) :=
  fun i X X' row h hg hr => h.nc hg (fun r e => (hr r e).2) (fun r e => Nat.le_trans hB (hr r e).1)
/-- An object's row put into its cell. -/
theorem MadeI.put {w4 X X' : World} {i : Nat} {c k : Int} {allv ov : Value} {all o o' : List At} {m cc : Nat} {p : Option Addr}
    (h13 : X.heap[w4.heap.size]? = some (.cells #[allv] 32 (0, 0))) (h15 : X.heap[w4.heap.size + 1]? = some (.cells #[.slice p m cc] 32 (0, 0))) (hB : Below w4.heap.size w4 X)
    (ho : OwA X (w4.heap.size + 2) (.slice p m cc) o) (hg : X.grownBy X' (Value.ownBlock (.slice p m cc))) (hm : madeT all c k (tys.take i) = some o') (ho' : OwA X' (w4.heap.size + 2) ov o') :
    MadeI w4 c k allv all i (X'.setCell ⟨w4.heap.size + 1, 0, none⟩ ov) ∧ KeepNC X (X'.setCell ⟨w4.heap.size + 1, 0, none⟩ ov) ∧ X'.heap[w4.heap.size + 1]? = some (.cells #[.slice p m cc] 32 (0, 0)) := by
  have low : ∀ b cs T, b < w4.heap.size + 2 → X.heap[b]? = some (.cells cs T (0, 0)) → X'.heap[b]? = some (.cells cs T (0, 0)) := fun b cs T hb h => (hg.block b (Array.getElem?_eq_some_iff.1 h).1 (fun e => by have := (ho.lt e.symm).1; omega)).trans h
  have h13' := low _ _ _ (by omega) h13
  have h15' := low _ _ _ (by omega) h15
  have hB' : Below w4.heap.size w4 X' := hB.grown hg hB.size (fun r e => Nat.le_trans (by omega) (ho.lt e).1)
  refine ⟨⟨⟨ov, o', hm, (heap_setCell_other X' _ _ _ (by show _ ≠ w4.heap.size + 1; omega)).trans h13', heap_setCell_same X' (w4.heap.size + 1) 0 _ _ _ h15', ho'.setVar (by omega) h15' (fun z => by simp) _⟩, hB'.setCell (p := ⟨w4.heap.size + 1, 0, none⟩) (by show _ ≤ w4.heap.size + 1; omega) _⟩, ?_, h15'⟩
  refine KeepNC.trans (KeepNC.grown hg fun r e => ?_) (KeepNC.setCell h15' 0 _)
  obtain ⟨q, _, ho1, _⟩ := ho
  rcases ho1 with ⟨_, ⟨e0, _⟩ | ⟨g, cap, cur, e0, _, hg2, _⟩⟩
  · rw [e0] at e; cases e
  · rw [e0] at e
    simp only [Value.ownBlock, Option.some.injEq] at e
    subst e
    exact ⟨_, hg2, rfl⟩
structure MadeX (w : World) (X : World) : Prop where
  r8 : X.heap[w.heap.size]? = some (.cells #[.slice none 0 0] 32 (0, 0))
  r9 : X.heap[w.heap.size + 1]? = some (.cells #[.int .i64 208] 34 (0, 0))
  below : Below w.heap.size w X
theorem MadeX.own {w : World} {B : Nat} (hB : w.heap.size ≤ B) : OwnFrom B (fun (_ : Nat) X => MadeX w X) :=
  fun i X X' row h hg hr => ⟨row_nc hg (fun r e => (hr r e).2) h.r8, row_nc hg (fun r e => (hr r e).2) h.r9, h.below.grown hg h.below.size (fun r e => Nat.le_trans hB (hr r e).1)⟩


/-- What comes of a template from which an object is created, 'wb' telling whether its values are ones. -/
def madeR (l : List At) (wb : Bool) : List At × Int :=
  if checkL l ≠ 0 then ([], checkL l)
  else match madeT (joinL l) (kindsL l).1 (kindsL l).2.1 tys with
    | none => ([], 208)
    | some o => if wb then (reckL o, 0) else ([], 19)
def MadePost (r : List At × Int) (w : World) (e : Ending) (w' : World) : Prop := ∃ v1, e = .returned (.tuple #[v1, .int .i64 r.2]) ∧ OwA w' w.heap.size v1 r.1 ∧ Below w.heap.size w w'
theorem made_results (tmps : Array Value) (b : Nat) (ht : tmps[8]?.getD undef = .pointer (some ⟨b, 0, none⟩)) (ht2 : tmps[9]?.getD undef = .pointer (some ⟨b + 1, 0, none⟩)) (x y : Value) (Z : World) (c0 : Z.cell? ⟨b, 0, none⟩ = some x) (c1 : Z.cell? ⟨b + 1, 0, none⟩ = some y) : (results Tryz.f65 tmps).run Tryz.prog Z = .ok (.tuple #[x, y]) Z := by
  simp [results, Tryz.results65, go_sem, ht, ht2, c0, c1]

theorem made_end {w W : World} {v1 : Value} {l : List At} {n : Int} {base : Nat} (hr8 : W.heap[w.heap.size]? = some (.cells #[.slice none 0 0] 32 (0, 0))) (hr9 : W.heap[w.heap.size + 1]? = some (.cells #[.int .i64 0] 34 (0, 0)))
    (hB : Below w.heap.size w W) (ho : OwA W base v1 l) (hbase : w.heap.size + 2 ≤ base) :
    ((W.setCell ⟨w.heap.size, 0, none⟩ v1).setCell ⟨w.heap.size + 1, 0, none⟩ (.int .i64 n)).heap[w.heap.size]? = some (.cells #[v1] 32 (0, 0)) ∧
    ((W.setCell ⟨w.heap.size, 0, none⟩ v1).setCell ⟨w.heap.size + 1, 0, none⟩ (.int .i64 n)).heap[w.heap.size + 1]? = some (.cells #[.int .i64 n] 34 (0, 0)) ∧
    OwA ((W.setCell ⟨w.heap.size, 0, none⟩ v1).setCell ⟨w.heap.size + 1, 0, none⟩ (.int .i64 n)) w.heap.size v1 l ∧
    Below w.heap.size w ((W.setCell ⟨w.heap.size, 0, none⟩ v1).setCell ⟨w.heap.size + 1, 0, none⟩ (.int .i64 n)) ∧
    ∀ (D : Nat) (o : Obj), W.heap[D]? = some o → o.isCells = false → ((W.setCell ⟨w.heap.size, 0, none⟩ v1).setCell ⟨w.heap.size + 1, 0, none⟩ (.int .i64 n)).heap[D]? = some o := by
  have hr9' := (heap_setCell_other W ⟨w.heap.size, 0, none⟩ (w.heap.size + 1) v1 (by show _ ≠ w.heap.size; omega)).trans hr9
  refine ⟨(heap_setCell_other _ ⟨w.heap.size + 1, 0, none⟩ _ _ (by show _ ≠ w.heap.size + 1; omega)).trans (heap_setCell_same W w.heap.size 0 _ _ _ hr8), heap_setCell_same _ (w.heap.size + 1) 0 _ _ _ hr9', ?_, ?_, fun D o hD ho => ?_⟩
  · exact ((ho.setVar (by omega) hr8 (fun z => by simp) _).setVar (by omega) hr9' (fun z => by simp) _).weaken (by omega)
  · exact (hB.setCell (p := ⟨w.heap.size, 0, none⟩) (Nat.le_refl _) _).setCell (p := ⟨w.heap.size + 1, 0, none⟩) (by show _ ≤ w.heap.size + 1; omega) _
  · exact (KeepNC.setCell hr9' 0 _).same D o ((KeepNC.setCell hr8 0 _).same D o hD ho) ho
theorem made_put {w Z : World} {v1 : Value} {l : List At} {n : Int} {D : Nat} (hr8 : Z.heap[w.heap.size]? = some (.cells #[v1] 32 (0, 0))) (hr9 : Z.heap[w.heap.size + 1]? = some (.cells #[.int .i64 n] 34 (0, 0)))
    (ho : OwA Z w.heap.size v1 l) (hB : Below w.heap.size w Z) (hK : Z.heap[D]? = some (.deferred (some []))) (hD : w.heap.size ≤ D) :
    (Z.putObj D (.deferred none)).cell? ⟨w.heap.size, 0, none⟩ = some v1 ∧ (Z.putObj D (.deferred none)).cell? ⟨w.heap.size + 1, 0, none⟩ = some (.int .i64 n) ∧ OwA (Z.putObj D (.deferred none)) w.heap.size v1 l ∧ Below w.heap.size w (Z.putObj D (.deferred none)) := by
  have hb := belowK_b (w := w) (Nat.le_refl _) Z D _ (.deferred none) hD hK rfl rfl
  have ne : ∀ b cs T, Z.heap[b]? = some (.cells cs T (0, 0)) → b ≠ D := fun b cs T h e => by
    subst e
    rw [hK] at h
    cases h
  refine ⟨cell_of_row _ _ 0 _ _ _ ((World.putObj_heap_other (o := .deferred none) (ne _ _ _ hr8)).trans hr8), cell_of_row _ _ 0 _ _ _ ((World.putObj_heap_other (o := .deferred none) (ne _ _ _ hr9)).trans hr9), ?_, hB.trans hb⟩
  exact ho.nc (row := some D) ⟨hb.os, hb.tape, hb.output, hb.size, fun i _ hne => World.putObj_heap_other (fun e => hne (by rw [e]))⟩ (fun r e => by cases e; exact ⟨_, hK, rfl⟩)

theorem attrs_Types (w : World) : Calls Tryz.prog 157 #[] w fun e w' => e = .returned (.func (.func 225) #[] #[]) ∧ w = w' := by
  go_enter Tryz.func157, Tryz.ntmps157
  go_wp2
  go_ret
  exact ⟨rfl, rfl⟩

theorem run_appA {W : World} (base : Nat) (v bv : Value) (l : List At) (t : Int) (b : List Int) (HO : OwA W base v l) (HS : SlI W .u8 bv b) (Hap : Apart b bv v) (hbase : base ≤ W.heap.size) (hl : l.length ≤ 1000000) :
    ∃ v1 w1, (Builtin.append_ #[32, 32] 32 #[v, .slice (some ⟨W.heap.size, 0, none⟩) 1 1]).run Tryz.prog (W.alloc (.cells #[.int .i64 t, bv] 91)) = .ok v1 w1 ∧ OwA w1 base v1 (l ++ [(t, b)]) ∧
      (W.alloc (.cells #[.int .i64 t, bv] 91)).grownBy w1 v.ownBlock := by
  obtain ⟨q, hq, hown, hsq⟩ := HO
  obtain ⟨i0, hi, hzz⟩ := Option.map_eq_some_iff.1 info_at
  simp only [Prod.mk.injEq] at hzz
  obtain ⟨hz0, hz1, hz2⟩ := hzz
  obtain ⟨v1, w1, hr, hown1, hg, _, hat⟩ := run_append_own_at (P := Tryz.prog) (W.alloc (.cells #[.int .i64 t, bv] 91)) base 32 32 91 i0 _ 2 32 Tryz.underlying32 hi hz0 hz1 hz2 rfl (by decide) v l.length _ (hown.alloc _) ⟨W.heap.size, 0, none⟩ 1 1 [.int .i64 t, bv] rfl
    (World.news_of_block (cs := #[.int .i64 t, bv]) (t := 91) (fr := (0, 0)) (heap_alloc_new W _)) (fun u hu => by
      rcases List.mem_cons.1 hu with rfl | hu
      · rfl
      · obtain rfl := List.mem_singleton.1 hu
        exact HS.oneCell) (by simp only [maxLen]; omega) (by omega) (by simp; omega)
  exact ⟨v1, w1, hr, appA_core hq hsq HS Hap hown1 hg (by simpa using hat), hg⟩

attribute [-go_sem] Builtin.append_
set_option maxRecDepth 100000 in
set_option maxHeartbeats 8000000 in
theorem rules_Made (l : List At) (wb : Bool) (v : Value) (w : World) (h : SlA w v l) (hok : AtsOk l) (hl : l.length ≤ 900) (hnd : checkL l = 0 → noDup l)
    (hworth : checkL l = 0 → ∀ o, madeT (joinL l) (kindsL l).1 (kindsL l).2.1 tys = some o → natsOk o ∧ ∀ x W, SlA W x o → Calls Tryz.prog 160 #[x, .int .i64 (kindsL l).1, .int .i64 (kindsL l).2.1] W (BoolPost wb W)) :
    Calls Tryz.prog 65 #[.int .i64 1, v, .slice none 0 0, .slice none 0 0] w (MadePost (madeR l wb) w) := by
  have H := Ho.mk h
  have HOK := Ho.mk hok
  have HND := Ho.mk hnd
  have HWo := Ho.mk hworth
  obtain ⟨A, cc, rfl, h1, h2, h3, hr⟩ := h
  clear h3 hr hok hnd hworth
  obtain ⟨f, HFE⟩ : ∃ f, Ho (checkL l = f) := ⟨_, ⟨rfl⟩⟩
  refine calls_of_marks Tryz.func65 rfl ?_
  simp only [Tryz.ntmps65, List.size_toArray, List.length_cons, List.length_nil, Nat.reduceAdd, Nat.reduceSub, Array.replicate_succ, Array.replicate_zero, List.push_toArray, List.append_toArray, List.nil_append, List.cons_append]
  go_wp2_with fail
  obtain ⟨W0, hW0⟩ : ∃ W0, (((w.alloc (.cells #[.slice none 0 0] 32)).alloc (.cells #[.int .i64 0] 34)).alloc (.cells #[.int .i64 (-1)] 3)).alloc (.cells #[.int .i64 0] 3) = W0 := ⟨_, rfl⟩
  have HB0 : Ho (Below w.heap.size w W0) := ⟨hW0 ▸ ((((Below.refl _ _).alloc (Nat.le_refl _) _).alloc (by simp) _).alloc (by simp; omega) _).alloc (by simp; omega) _⟩
  have HR8 : Ho (W0.heap[w.heap.size]? = some (.cells #[.slice none 0 0] 32 (0, 0))) := ⟨hW0 ▸ (Below.heap_alloc _ _ _ (by simp; omega)).trans ((Below.heap_alloc _ _ _ (by simp; omega)).trans ((Below.heap_alloc _ _ _ (by simp)).trans (heap_alloc_new w _)))⟩
  have HR9 : Ho (W0.heap[w.heap.size + 1]? = some (.cells #[.int .i64 0] 34 (0, 0))) := ⟨by
    have := heap_alloc_new (w.alloc (.cells #[.slice none 0 0] 32)) (.cells #[.int .i64 0] 34)
    rw [World.size_alloc] at this
    rw [← hW0]
    exact (Below.heap_alloc _ _ _ (by simp)).trans ((Below.heap_alloc _ _ _ (by simp)).trans this)⟩
  have HR10 : Ho (W0.heap[w.heap.size + 2]? = some (.cells #[.int .i64 (-1)] 3 (0, 0))) := ⟨by
    have := heap_alloc_new ((w.alloc (.cells #[.slice none 0 0] 32)).alloc (.cells #[.int .i64 0] 34)) (.cells #[.int .i64 (-1)] 3)
    rw [World.size_alloc, World.size_alloc] at this
    rw [← hW0]
    exact (Below.heap_alloc _ _ _ (by simp)).trans this⟩
  have HR11 : Ho (W0.heap[w.heap.size + 3]? = some (.cells #[.int .i64 0] 3 (0, 0))) := ⟨by
    have := heap_alloc_new (((w.alloc (.cells #[.slice none 0 0] 32)).alloc (.cells #[.int .i64 0] 34)).alloc (.cells #[.int .i64 (-1)] 3)) (.cells #[.int .i64 0] 3)
    rw [World.size_alloc, World.size_alloc, World.size_alloc] at this
    rw [← hW0]
    exact this⟩
  have HZ0 : Ho (W0.heap.size = w.heap.size + 4) := ⟨by rw [← hW0]; simp⟩
  rw [hW0]
  clear hW0
  refine (rules_Check l _ W0 (H.out.below HB0.out) HOK.out (by omega)).mono ?_
  rw [HFE.out]
  rintro e w1 ⟨rfl, hb1⟩
  have HB1 := Ho.mk (below_base HB0.out HB0.out.size hb1)
  have HR8 := Ho.mk (rowKept hb1 HR8.out)
  have HR9 := Ho.mk (rowKept hb1 HR9.out)
  have HR10 := Ho.mk (rowKept hb1 HR10.out)
  have HR11 := Ho.mk (rowKept hb1 HR11.out)
  have HZ1 : Ho (w.heap.size + 4 ≤ w1.heap.size) := ⟨by have := hb1.size; have := HZ0.out; omega⟩
  clear hb1 HZ0 HB0
  by_cases hf : f = 0
  · have qf : (f != 0) = false := by simp [hf]
    have HF0 := Ho.mk (HFE.out.trans hf)
    clear hf HFE
    obtain ⟨c, k, rv, HKE⟩ : ∃ c k rv, Ho (kindsL l = (c, k, rv)) := ⟨_, _, _, ⟨rfl⟩⟩
    have a10 : w1.cell? ⟨w.heap.size + 1 + 1, 0, none⟩ = some (.int .i64 (-1)) := cell_of_row _ _ _ _ _ _ HR10.out
    have a11 : w1.cell? ⟨w.heap.size + 1 + 1 + 1, 0, none⟩ = some (.int .i64 0) := cell_of_row _ _ _ _ _ _ HR11.out
    go_wp2_with fail
    refine (rules_Kinds l _ _ (H.out.below HB1.out) HOK.out).mono ?_
    rw [HKE.out]
    rintro e w2 ⟨rfl, hb2⟩
    have HB2 := Ho.mk (below_base HB1.out HB1.out.size hb2)
    have HR8 := Ho.mk (rowKept hb2 HR8.out)
    have HR9 := Ho.mk (rowKept hb2 HR9.out)
    have HR10 := Ho.mk (rowKept hb2 HR10.out)
    have HR11 := Ho.mk (rowKept hb2 HR11.out)
    have HZ2 : Ho (w.heap.size + 4 ≤ w2.heap.size) := ⟨by have := hb2.size; have := HZ1.out; omega⟩
    clear hb2 HZ1 HB1 a10 a11
    have a10 : w2.cell? ⟨w.heap.size + 1 + 1, 0, none⟩ = some (.int .i64 (-1)) := cell_of_row _ _ _ _ _ _ HR10.out
    have a11 : w2.cell? ⟨w.heap.size + 1 + 1 + 1, 0, none⟩ = some (.int .i64 0) := cell_of_row _ _ _ _ _ _ HR11.out
    have b10 : w2.frozen? ⟨w.heap.size + 1 + 1, 0, none⟩ = false := frozen_of_row _ _ _ _ _ HR10.out
    have b11 : w2.frozen? ⟨w.heap.size + 1 + 1 + 1, 0, none⟩ = false := frozen_of_row _ _ _ _ _ HR11.out
    go_wp2_with fail
    obtain ⟨W3, hW3⟩ : ∃ W3, (w2.setCell ⟨w.heap.size + 1 + 1, 0, none⟩ (.int .i64 c)).setCell ⟨w.heap.size + 1 + 1 + 1, 0, none⟩ (.int .i64 k) = W3 := ⟨_, rfl⟩
    have hx := heap_setCell_other w2 ⟨w.heap.size + 1 + 1, 0, none⟩
    have hx2 := heap_setCell_other (w2.setCell ⟨w.heap.size + 1 + 1, 0, none⟩ (.int .i64 c)) ⟨w.heap.size + 1 + 1 + 1, 0, none⟩
    have HR8 : Ho (W3.heap[w.heap.size]? = some (.cells #[.slice none 0 0] 32 (0, 0))) := ⟨by rw [← hW3]; exact (hx2 _ _ (by show _ ≠ w.heap.size + 1 + 1 + 1; omega)).trans ((hx _ _ (by show _ ≠ w.heap.size + 1 + 1; omega)).trans HR8.out)⟩
    have HR9 : Ho (W3.heap[w.heap.size + 1]? = some (.cells #[.int .i64 0] 34 (0, 0))) := ⟨by rw [← hW3]; exact (hx2 _ _ (by show _ ≠ w.heap.size + 1 + 1 + 1; omega)).trans ((hx _ _ (by show _ ≠ w.heap.size + 1 + 1; omega)).trans HR9.out)⟩
    have HR10 : Ho (W3.heap[w.heap.size + 2]? = some (.cells #[.int .i64 c] 3 (0, 0))) := ⟨by rw [← hW3]; exact (hx2 _ _ (by show _ ≠ w.heap.size + 1 + 1 + 1; omega)).trans (heap_setCell_same w2 (w.heap.size + 2) 0 _ _ _ HR10.out)⟩
    have HR11 : Ho (W3.heap[w.heap.size + 3]? = some (.cells #[.int .i64 k] 3 (0, 0))) := ⟨by rw [← hW3]; exact heap_setCell_same _ (w.heap.size + 3) 0 _ _ _ ((hx _ _ (by show _ ≠ w.heap.size + 1 + 1; omega)).trans HR11.out)⟩
    have HB3 : Ho (Below w.heap.size w W3) := ⟨hW3 ▸ (HB2.out.setCell (p := ⟨w.heap.size + 1 + 1, 0, none⟩) (by show _ ≤ w.heap.size + 1 + 1; omega) _).setCell (p := ⟨w.heap.size + 1 + 1 + 1, 0, none⟩) (by show _ ≤ w.heap.size + 1 + 1 + 1; omega) _⟩
    have HZ3 : Ho (w.heap.size + 4 ≤ W3.heap.size) := ⟨by rw [← hW3]; simpa using HZ2.out⟩
    rw [hW3]
    clear hW3 hx hx2 a10 a11 b10 b11 HB2 HZ2
    refine (rules_joined l _ _ (H.out.below HB3.out) HOK.out (by omega) (HND.out HF0.out)).mono ?_
    rintro e w4 ⟨jv, rfl, hj, hb4⟩
    have HB4 := Ho.mk (below_base HB3.out HB3.out.size hb4)
    have HR8 := Ho.mk (rowKept hb4 HR8.out)
    have HR9 := Ho.mk (rowKept hb4 HR9.out)
    have HR10 := Ho.mk (rowKept hb4 HR10.out)
    have HR11 := Ho.mk (rowKept hb4 HR11.out)
    have HZ4 : Ho (w.heap.size + 4 ≤ w4.heap.size) := ⟨by have := hb4.size; have := HZ3.out; omega⟩
    have HJ := Ho.mk hj.sl
    obtain ⟨Aj, cj, rfl, _⟩ := hj.shape
    clear hb4 HZ3 HB3 hj
    go_wp2_with fail
    obtain ⟨W5, hW5⟩ : ∃ W5, (w4.alloc (.cells #[.slice Aj (joinL l).length cj] 32)).alloc (.cells #[.slice none 0 0] 32) = W5 := ⟨_, rfl⟩
    have hb5 : Below w4.heap.size w4 W5 := hW5 ▸ ((Below.refl _ _).alloc (Nat.le_refl _) _).alloc (by simp) _
    have HR13 : Ho (W5.heap[w4.heap.size]? = some (.cells #[.slice Aj (joinL l).length cj] 32 (0, 0))) := ⟨hW5 ▸ (Below.heap_alloc _ _ _ (by simp)).trans (heap_alloc_new w4 _)⟩
    have HR15 : Ho (W5.heap[w4.heap.size + 1]? = some (.cells #[.slice none 0 0] 32 (0, 0))) := ⟨by
      have := heap_alloc_new (w4.alloc (.cells #[.slice Aj (joinL l).length cj] 32)) (.cells #[.slice none 0 0] 32)
      rw [World.size_alloc, hW5] at this
      exact this⟩
    have HI0 : Ho (MadeI w4 c k (.slice Aj (joinL l).length cj) (joinL l) 0 W5) := ⟨⟨⟨_, [], rfl, HR13.out, HR15.out, OwA.nil _ _⟩, hb5⟩⟩
    have HZ5 : Ho (W5.heap.size = w4.heap.size + 2) := ⟨by rw [← hW5]; simp⟩
    rw [hW5]
    clear hW5 hb5 HR13 HR15
    refine (attrs_Types W5).mono ?_
    rintro e w6 ⟨rfl, rfl⟩
    go_wp2_with fail
    have HKK : Ho (∀ o, madeT (joinL l) c k tys = some o → natsOk o ∧ ∀ x W, SlA W x o → Calls Tryz.prog 160 #[x, .int .i64 c, .int .i64 k] W (BoolPost wb W)) := ⟨fun o ho => by have := HWo.out HF0.out o; rw [HKE.out] at this; exact this ho⟩
    have HMR : Ho (madeR l wb = match madeT (joinL l) c k tys with | none => ([], 208) | some o => if wb then (reckL o, 0) else ([], 19)) := ⟨by unfold madeR; rw [if_neg (by rw [HF0.out]; simp), HKE.out]⟩
    have HJO : Ho (AtsOk (joinL l)) := ⟨joinL_ok HOK.out⟩
    obtain ⟨J, HJE⟩ : ∃ J, Ho (joinL l = J) := ⟨_, ⟨rfl⟩⟩
    rw [HJE.out] at HI0 HKK HMR HJO HJ ⊢
    have hN1 := HZ4.out
    have hN2 := HZ5.out
    clear HKE HWo HND HZ4 HZ5 HJE HF0
    refine wp_rangeQ (gf := 225) (lb := #[]) rfl (enters_of Tryz.func225 (by kernel_rfl) rfl) types1_yields
      (fun x hx => by obtain ⟨m, _, rfl⟩ := List.mem_map.1 hx; rfl)
      (MadeI w4 c k (.slice Aj J.length cj) J)
      (fun cd _ X => cd = .ret ∧ (MadeX w X ∧ madeT J c k tys = none))
      (MadeI.own (by omega))
      (fun cd => (ownFrom_pure _ _).and ((MadeX.own (by omega)).and (ownFrom_pure _ _)))
      HI0.out ?round ?done ?stop
    case round =>
      rintro F l2 i x X hF hro hdep hx hl hr hIX
      rw [List.getElem?_map] at hx
      obtain ⟨t, ht, rfl⟩ := Option.map_eq_some_iff.1 hx
      obtain ⟨hi, hte⟩ := List.getElem?_eq_some_iff.1 ht
      have HTS : Ho (madeT J c k (tys.take (i + 1)) = madeS J c k (madeT J c k (tys.take i)) t) := ⟨by rw [madeT_snoc hi, hte]⟩
      have HI := Ho.mk hi
      have HFn : Ho (∀ f, F.fn f) := ⟨fun f => hF.out ▸ trivial⟩
      have HHas : Ho (∀ n Y, CallsIn F n Tryz.prog 56 #[.int .i64 c, .int .i64 k, .int .i64 t] Y (BoolPost (hasL c k t) Y)) := ⟨fun n Y => hF.out ▸ CallsIn.inRound l2 (callsIn_wide.2 (rules_Has c k t Y))⟩
      have HGet : Ho (∀ n Y x, SlA Y x J → CallsIn F n Tryz.prog 152 #[x, .int .i64 t] Y (GetPost J t Y)) := ⟨fun n Y x hx => hF.out ▸ CallsIn.inRound l2 (callsIn_wide.2 (attrs_Get J t x Y hx HJO.out))⟩
      have HMust : Ho (∀ n Y, CallsIn F n Tryz.prog 158 #[.int .i64 c, .int .i64 t] Y fun e w' => e = .returned (.bool (mustL c t)) ∧ Y = w') := ⟨fun n Y => hF.out ▸ CallsIn.inRound l2 (callsIn_wide.2 (rules_must c t Y))⟩
      have HStd : Ho (∀ n Y, CallsIn F n Tryz.prog 159 #[.int .i64 c, .int .i64 t] Y (AtPost (stdA c t) Y)) := ⟨fun n Y => hF.out ▸ CallsIn.inRound l2 (callsIn_wide.2 (rules_standard c t Y))⟩
      clear hx ht hte hi hIX
      gi_wp2
      refine ⟨.inl rfl, ?_⟩
      rintro Y ⟨⟨ov, o, hm, h13, h15, hoo⟩, hbY⟩ hc hfz hrY hsz
      have HM := Ho.mk hm
      have H13 := Ho.mk h13
      have H15 := Ho.mk h15
      have HO := Ho.mk hoo
      have HBY := Ho.mk hbY
      have hol : o.length ≤ 386 := Nat.le_trans (madeT_len hm) (by have := HI.out; have : tys.length ≤ 386 := by decide +kernel
                                                                   omega)
      obtain ⟨Ao, co, rfl, _⟩ := hoo.shape
      have a10 : Y.cell? ⟨w.heap.size + 1 + 1, 0, none⟩ = some (.int .i64 c) := cell_of_row _ _ _ _ _ _ (rowKept hbY HR10.out)
      have a11 : Y.cell? ⟨w.heap.size + 1 + 1 + 1, 0, none⟩ = some (.int .i64 k) := cell_of_row _ _ _ _ _ _ (rowKept hbY HR11.out)
      clear hc hfz hrY hsz hm h13 h15 hoo hbY
      rw [HM.out] at HTS
      obtain ⟨y, HYE⟩ : ∃ y, Ho (hasL c k t = y) := ⟨_, ⟨rfl⟩⟩
      rw [HYE.out] at HHas
      gi_wp2_with fail
      refine ⟨HFn.out _, (HHas.out _ _).mono ?_⟩
      rintro e X1 ⟨rfl, hb1⟩
      have HNC1 := Ho.mk (KeepNC.below hb1)
      have H13 := Ho.mk (rowKept hb1 H13.out)
      have H15 := Ho.mk (rowKept hb1 H15.out)
      have HO := Ho.mk (HO.out.below hb1)
      have HBY := Ho.mk (below_base HBY.out HBY.out.size hb1)
      clear hb1 a10 a11
      cases y with
      | false =>
        have HI2 : Ho (MadeI w4 c k (.slice Aj J.length cj) J (i + 1) X1) := ⟨⟨⟨_, o, by rw [HTS.out]; simp [madeS, HYE.out], H13.out, H15.out, HO.out⟩, HBY.out⟩⟩
        gi_wp2
        exact ⟨HNC1.out, HI2.out⟩
      | true =>
        have a13 := cell_of_row _ w4.heap.size 0 _ _ _ H13.out
        gi_wp2_with fail
        refine ⟨HFn.out _, (HGet.out _ _ _ (HJ.out.below HBY.out)).mono ?_⟩
        rintro e X2 hp2
        obtain ⟨v2, rfl, ho2, hb2⟩ := get_val hp2
        obtain ⟨A2, c2, rfl⟩ := ho2.sl.shape
        have HAp := Ho.mk (apart_new HO.out ho2 (Nat.le_refl _))
        have HS2 := Ho.mk ho2.sl
        have HNC2 := Ho.mk (HNC1.out.trans (KeepNC.below hb2))
        have H13 := Ho.mk (rowKept hb2 H13.out)
        have H15 := Ho.mk (rowKept hb2 H15.out)
        have HO := Ho.mk (HO.out.below hb2)
        have HBY := Ho.mk (below_base HBY.out HBY.out.size hb2)
        have hz2 : w4.heap.size + 1 < X2.heap.size := (Array.getElem?_eq_some_iff.1 H15.out).1
        clear hb2 ho2 hp2 a13 HNC1
        have a15 := cell_of_row _ (w4.heap.size + 1) 0 _ _ _ H15.out
        have f15 := frozen_of_row _ (w4.heap.size + 1) 0 _ _ H15.out
        obtain ⟨y2, HYE2⟩ : ∃ y, Ho (cameL J t = y) := ⟨_, ⟨rfl⟩⟩
        rw [HYE2.out]
        cases y2 with
        | true =>
          have HM1 : Ho (madeT J c k (tys.take (i + 1)) = some (o ++ [(t, valL J t)])) := ⟨by rw [HTS.out]; simp [madeS, HYE.out, HYE2.out]⟩
          have HBA : Ho (Below X2.heap.size X2 (X2.alloc (.cells #[.int .i64 t, .slice A2 (valL J t).length c2] 91))) := ⟨(Below.refl _ _).alloc (Nat.le_refl _) _⟩
          gi_wp2_with (gi_at_builtin; refine wpListIn_appA rfl (.tmp 71) (.tmp 75) rfl (w4.heap.size + 2) _ _ _ t (valL J t) rfl rfl HO.out HS2.out HAp.out hz2 (by omega) ?_; intro v3 w3 ho3 hg3; obtain ⟨hi3, hk3, k15⟩ := MadeI.put (rowKept HBA.out H13.out) (rowKept HBA.out H15.out) (below_base HBY.out HBY.out.size HBA.out) (HO.out.below HBA.out) hg3 HM1.out ho3; obtain ⟨A3, c3, e3, _⟩ := ho3.shape; obtain ⟨m3, hm3⟩ : ∃ m, (o ++ [(t, valL J t)]).length = m := ⟨_, rfl⟩; rw [hm3] at e3; clear hm3; subst e3; have HI3 := Ho.mk hi3; have HK3 := Ho.mk hk3; have q15 := cell_of_row _ (w4.heap.size + 1) 0 _ _ _ k15; have g15 := frozen_of_row _ (w4.heap.size + 1) 0 _ _ k15; clear hi3 hk3 k15 ho3 hg3)
          exact ⟨HNC2.out.trans ((KeepNC.below HBA.out).trans HK3.out), HI3.out⟩
        | false =>
          have a10 : X2.cell? ⟨w.heap.size + 1 + 1, 0, none⟩ = some (.int .i64 c) := cell_of_row _ _ _ _ _ _ (rowKept HBY.out HR10.out)
          obtain ⟨y3, HYE3⟩ : ∃ y, Ho (mustL c t = y) := ⟨_, ⟨rfl⟩⟩
          rw [HYE3.out] at HMust
          gi_wp2_with fail
          refine ⟨HFn.out _, (HMust.out _ _).mono ?_⟩
          rintro e X3 ⟨rfl, rfl⟩
          cases y3 with
          | true =>
            have HM1 : Ho (madeT J c k tys = none) := ⟨madeT_none (i := i + 1) (by rw [HTS.out]; simp [madeS, HYE.out, HYE2.out, HYE3.out])⟩
            have a8 := cell_of_row _ w.heap.size 0 _ _ _ (rowKept HBY.out HR8.out)
            have b8 := frozen_of_row _ w.heap.size 0 _ _ (rowKept HBY.out HR8.out)
            have a9 := cell_of_row _ (w.heap.size + 1) 0 _ _ _ (rowKept HBY.out HR9.out)
            have b9 := frozen_of_row _ (w.heap.size + 1) 0 _ _ (rowKept HBY.out HR9.out)
            gi_wp2
            refine ⟨?_, rfl, ⟨?_, ?_, ?_⟩, HM1.out⟩
            · exact HNC2.out.trans ((KeepNC.setCell (rowKept HBY.out HR8.out) 0 _).trans (KeepNC.setCell ((heap_setCell_other X2 _ _ _ (by show _ ≠ w.heap.size; omega)).trans (rowKept HBY.out HR9.out)) 0 _))
            · exact (heap_setCell_other _ ⟨w.heap.size + 1, 0, none⟩ _ _ (by show _ ≠ w.heap.size + 1; omega)).trans (heap_setCell_same X2 w.heap.size 0 _ _ _ (rowKept HBY.out HR8.out))
            · exact heap_setCell_same _ (w.heap.size + 1) 0 _ _ _ ((heap_setCell_other X2 ⟨w.heap.size, 0, none⟩ _ _ (by show _ ≠ w.heap.size; omega)).trans (rowKept HBY.out HR9.out))
            · exact ((below_base HB4.out HB4.out.size HBY.out).setCell (p := ⟨w.heap.size, 0, none⟩) (Nat.le_refl _) _).setCell (p := ⟨w.heap.size + 1, 0, none⟩) (by show _ ≤ w.heap.size + 1; omega) _
          | false =>
            have HM1 : Ho (madeT J c k (tys.take (i + 1)) = some (o ++ [stdA c t])) := ⟨by rw [HTS.out]; simp [madeS, HYE.out, HYE2.out, HYE3.out]⟩
            have hmx : Tryz.prog.follows .mixedOrders = true := by kernel_rfl
            gi_wp2
            gi_region_with_o (first
              | (refine ⟨HFn.out _, (HStd.out _ _).mono ?_⟩; rintro e X4 ⟨v4, rfl, ho4, hb4⟩
                 obtain ⟨A4, c4, rfl⟩ := ho4.sl.shape
                 have q13 := Ho.mk (rowKept hb4 (show X2.drew.heap[w4.heap.size]? = _ from H13.out))
                 have q15 := Ho.mk (rowKept hb4 (show X2.drew.heap[w4.heap.size + 1]? = _ from H15.out))
                 have HO4 := Ho.mk (OwA.below (OwA.drewN HO.out 1) hb4)
                 have HB4' := Ho.mk (below_base (Below.drew HBY.out) HBY.out.size hb4)
                 have HNC4 := Ho.mk (HNC2.out.trans ((KeepNC.drewN X2 1).trans (KeepNC.below hb4)))
                 have HAp4 := Ho.mk (apart_new (OwA.drewN HO.out 1) ho4 (Nat.le_refl _))
                 have HS4 := Ho.mk ho4.sl
                 have a15' := cell_of_row _ (w4.heap.size + 1) 0 _ _ _ q15.out
                 have hz4 : w4.heap.size + 1 < X4.heap.size := (Array.getElem?_eq_some_iff.1 q15.out).1
                 clear hb4 ho4)
              | (have hba := (Below.refl X4.heap.size X4).alloc (Nat.le_refl _) (.cells #[.int .i64 (stdA c t).1, .slice A4 (stdA c t).2.length c4] 91)
                 obtain ⟨v5, w5, hr5, ho5, hg5⟩ := run_appA (W := X4) (w4.heap.size + 2) (.slice Ao o.length co) (.slice A4 (stdA c t).2.length c4) o (stdA c t).1 (stdA c t).2 HO4.out HS4.out HAp4.out hz4 (by omega)
                 obtain ⟨hi5, hk5, k15⟩ := MadeI.put (rowKept hba q13.out) (rowKept hba q15.out) (below_base HB4'.out HB4'.out.size hba) (HO4.out.below hba) hg5 HM1.out ho5
                 obtain ⟨A5, c5, e5, _⟩ := ho5.shape
                 obtain ⟨m5, hm5⟩ : ∃ m, (o ++ [((stdA c t).1, (stdA c t).2)]).length = m := ⟨_, rfl⟩
                 rw [hm5] at e5
                 clear hm5
                 subst e5
                 have HI5 := Ho.mk hi5
                 have HK5 := Ho.mk (HNC4.out.trans ((KeepNC.below hba).trans hk5))
                 have r15 := cell_of_row _ (w4.heap.size + 1) 0 _ _ _ k15
                 have g15 := frozen_of_row _ (w4.heap.size + 1) 0 _ _ k15
                 clear hi5 hk5 k15 ho5 hg5 hba
                 rw [hr5]
                 clear hr5))
            all_goals gi_wp2
            all_goals exact ⟨HK5.out, HI5.out⟩
    case done =>
      rintro D X hD ⟨⟨ov, o, hm, h13, h15, hoo⟩, hbX⟩ hK
      have hm2 : madeT J c k tys = some o := by rw [← hm, List.length_map, List.take_length]
      have HK := Ho.mk hK
      have HO := Ho.mk hoo
      have HBX := Ho.mk hbX
      have hol : o.length ≤ 386 := Nat.le_trans (madeT_len hm) (by rw [List.length_map]; decide +kernel)
      have HM2 : Ho (madeR l wb = if wb then (reckL o, 0) else ([], 19)) := ⟨by rw [HMR.out, hm2]⟩
      have HN := Ho.mk (HKK.out o hm2).1
      have HWt := Ho.mk (HKK.out o hm2).2
      have HOO := Ho.mk (madeT_ok HJO.out hm2)
      obtain ⟨Ao, co, rfl, _⟩ := hoo.shape
      have a10 : X.cell? ⟨w.heap.size + 1 + 1, 0, none⟩ = some (.int .i64 c) := cell_of_row _ _ _ _ _ _ (rowKept hbX HR10.out)
      have a11 : X.cell? ⟨w.heap.size + 1 + 1 + 1, 0, none⟩ = some (.int .i64 k) := cell_of_row _ _ _ _ _ _ (rowKept hbX HR11.out)
      have a15 := cell_of_row _ (w4.heap.size + 1) 0 _ _ _ h15
      have H15 := Ho.mk h15
      have hbs : w4.heap.size + 2 ≤ X.heap.size := (Array.getElem?_eq_some_iff.1 h15).1
      clear hK hoo hbX hm h13 hm2 h15 HMR HKK
      go_wp2_with fail
      refine (HWt.out _ _ HO.out.sl).mono ?_
      rintro e X1 ⟨rfl, hb1⟩
      have HK := Ho.mk (rowKept hb1 HK.out)
      have HO := Ho.mk (HO.out.below hb1)
      have H15 := Ho.mk (rowKept hb1 H15.out)
      have HBX := Ho.mk (below_base HBX.out HBX.out.size hb1)
      have hbs : w4.heap.size + 2 ≤ X1.heap.size := Nat.le_trans hbs hb1.size
      clear hb1 a10 a11 a15
      cases wb with
      | false =>
        have a8 := cell_of_row _ w.heap.size 0 _ _ _ (rowKept HBX.out HR8.out)
        have b8 := frozen_of_row _ w.heap.size 0 _ _ (rowKept HBX.out HR8.out)
        have a9 := cell_of_row _ (w.heap.size + 1) 0 _ _ _ (rowKept HBX.out HR9.out)
        have b9 := frozen_of_row _ (w.heap.size + 1) 0 _ _ (rowKept HBX.out HR9.out)
        obtain ⟨e1, e2, e3, e4, e5⟩ := made_end (n := 19) (rowKept HBX.out HR8.out) (rowKept HBX.out HR9.out) (below_base HB4.out HB4.out.size HBX.out) (OwA.nil X1 (w4.heap.size + 2)) (by omega)
        have hK2 := e5 D _ HK.out rfl
        obtain ⟨p1, p2, p3, p4⟩ := made_put e1 e2 e3 e4 hK2 (by have := HB4.out.size; omega)
        have HP := Ho.mk (And.intro p1 (And.intro p2 (And.intro p3 p4)))
        have HK2 := Ho.mk hK2
        clear e1 e2 e3 e4 e5 hK2 p1 p2 p3 p4
        go_wp2
        refine ⟨by simp, .inl ⟨_, _, rfl, run_takeDeferred HK2.out, ?_⟩⟩
        obtain ⟨p1, p2, p3, p4⟩ := HP.out
        exact ⟨_, made_results _ w.heap.size rfl rfl _ _ _ p1 p2, by rw [HM2.out]; exact ⟨_, rfl, p3, p4⟩⟩
      | true =>
        have a15 := cell_of_row _ (w4.heap.size + 1) 0 _ _ _ H15.out
        go_wp2_with fail
        refine (rules_reckoned o _ _ _ HO.out HOO.out HN.out (by omega) hbs).mono ?_
        rintro e X2 ⟨v1, rfl, ho2, hb2⟩
        have HK := Ho.mk (rowKept hb2 HK.out)
        have HBX := Ho.mk (below_base HBX.out HBX.out.size hb2)
        clear a15
        obtain ⟨A1, c1, e0, _⟩ := ho2.shape
        obtain ⟨m1, hm1⟩ : ∃ m, (reckL o).length = m := ⟨_, rfl⟩
        rw [hm1] at e0
        clear hm1
        subst e0
        have a8 := cell_of_row _ w.heap.size 0 _ _ _ (rowKept HBX.out HR8.out)
        have b8 := frozen_of_row _ w.heap.size 0 _ _ (rowKept HBX.out HR8.out)
        have a9 := cell_of_row _ (w.heap.size + 1) 0 _ _ _ (rowKept HBX.out HR9.out)
        have b9 := frozen_of_row _ (w.heap.size + 1) 0 _ _ (rowKept HBX.out HR9.out)
        obtain ⟨e1, e2, e3, e4, e5⟩ := made_end (n := 0) (rowKept HBX.out HR8.out) (rowKept HBX.out HR9.out) (below_base HB4.out HB4.out.size HBX.out) ho2 (by omega)
        have hK2 := e5 D _ HK.out rfl
        obtain ⟨p1, p2, p3, p4⟩ := made_put e1 e2 e3 e4 hK2 (by have := HB4.out.size; omega)
        have HP := Ho.mk (And.intro p1 (And.intro p2 (And.intro p3 p4)))
        have HK2 := Ho.mk hK2
        clear e1 e2 e3 e4 e5 hK2 p1 p2 p3 p4 ho2 hb2
        go_wp2
        refine ⟨by simp, .inl ⟨_, _, rfl, run_takeDeferred HK2.out, ?_⟩⟩
        obtain ⟨p1, p2, p3, p4⟩ := HP.out
        exact ⟨_, made_results _ w.heap.size rfl rfl _ _ _ p1 p2, by rw [HM2.out]; exact ⟨_, rfl, p3, p4⟩⟩
    case stop =>
      rintro D c' i X hD hi ⟨rfl, hX, hh⟩ hK
      have HM2 : Ho (madeR l wb = ([], 208)) := ⟨by rw [HMR.out, hh]⟩
      have HX := Ho.mk hX
      have HK := Ho.mk hK
      clear hh hX hK
      go_wp2
      refine ⟨by simp, .inl ⟨_, _, rfl, run_takeDeferred HK.out, ?_⟩⟩
      obtain ⟨p1, p2, p3, p4⟩ := made_put HX.out.r8 HX.out.r9 (OwA.nil _ _) HX.out.below HK.out (by have := HB4.out.size; omega)
      exact ⟨_, made_results _ w.heap.size rfl rfl _ _ _ p1 p2, by rw [HM2.out]; exact ⟨_, rfl, p3, p4⟩⟩
  · have qf : (f != 0) = true := by simp [hf]
    have HMR : Ho (madeR l wb = ([], f)) := ⟨by unfold madeR; rw [if_pos (by rw [HFE.out]; exact hf), HFE.out]⟩
    have a8 := cell_of_row _ _ 0 _ _ _ HR8.out
    have a9 := cell_of_row _ _ 0 _ _ _ HR9.out
    have b8 := frozen_of_row _ _ 0 _ _ HR8.out
    have b9 := frozen_of_row _ _ 0 _ _ HR9.out
    obtain ⟨e1, e2, e3, e4, _⟩ := made_end (n := f) HR8.out HR9.out HB1.out (OwA.nil w1 (w.heap.size + 2)) (Nat.le_refl _)
    have HP := Ho.mk (And.intro e1 (And.intro e2 (And.intro e3 e4)))
    clear hf HFE e1 e2 e3 e4
    go_wp2
    obtain ⟨e1, e2, e3, e4⟩ := HP.out
    exact ⟨_, made_results _ w.heap.size rfl rfl _ _ _ (cell_of_row _ _ 0 _ _ _ e1) (cell_of_row _ _ 0 _ _ _ e2), by rw [HMR.out]; exact ⟨_, rfl, e3, e4⟩⟩

end Go.Proofs.YthjcldkaodmfoaaGreat
