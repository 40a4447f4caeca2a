/-
  Lists of attributes that the call owns: the append law. Conditions: those that each theorem types.
-/
import Derived.Test.YthjcldkaodmfoaaGreatAttC
import Derived.Maps.OwnIn
namespace Go.Proofs.YthjcldkaodmfoaaGreat
open Go.RowKit

/-- The cells of a row of attributes. -/
def flatA (q : List (At × Value)) : List Value := q.flatMap fun p => [.int .i64 p.1.1, p.2]
theorem flatA_length (q : List (At × Value)) : (flatA q).length = q.length * 2 := by
  induction q with
  | nil => rfl
  | cons p q ih => simp [flatA] at ih ⊢; omega
theorem flatA_append (q r : List (At × Value)) : flatA (q ++ r) = flatA q ++ flatA r := by simp [flatA]
theorem flatA_at : ∀ (q : List (At × Value)) (j : Nat) (p : At × Value), q[j]? = some p → (flatA q)[j * 2]? = some (.int .i64 p.1.1) ∧ (flatA q)[j * 2 + 1]? = some p.2
  | [], j, p, h => by simp at h
  | p0 :: q, 0, p, h => by
    simp only [List.getElem?_cons_zero, Option.some.injEq] at h
    subst h
    exact ⟨rfl, rfl⟩
  | p0 :: q, j + 1, p, h => by
    rw [List.getElem?_cons_succ] at h
    have := flatA_at q j p h
    simp only [flatA, List.flatMap_cons] at this ⊢
    rw [List.getElem?_append_right (by simp; omega), List.getElem?_append_right (by simp; omega)]
    rw [show (j + 1) * 2 - [Value.int IntKind.i64 p0.1.1, p0.2].length = j * 2 by simp; omega, show (j + 1) * 2 + 1 - [Value.int IntKind.i64 p0.1.1, p0.2].length = j * 2 + 1 by simp; omega]
    exact this
/-- Bytes beside a row: not in its block. -/
def Apart (b : List Int) (bv v : Value) : Prop := b = [] ∨ bv.ownBlock ≠ v.ownBlock
/-- A slice of attributes that the call owns. -/
def OwA (w : World) (base : Nat) (v : Value) (l : List At) : Prop :=
  ∃ q : List (At × Value), q.map (·.1) = l ∧ w.ownsRow base 91 2 v l.length (flatA q) ∧ ∀ p ∈ q, SlI w .u8 p.2 p.1.2 ∧ Apart p.1.2 p.2 v

theorem SlI.oneCell {w : World} {k : IntKind} {v : Value} {xs : List Int} (h : SlI w k v xs) : v.oneCell' = true := by
  obtain ⟨A, c, rfl, _⟩ := h; rfl
theorem SlI.blk {w : World} {k : IntKind} {v : Value} {xs : List Int} (h : SlI w k v xs) (hn : xs ≠ []) : ∃ b, v.ownBlock = some b ∧ b < w.heap.size := by
  obtain ⟨A, c, rfl, _, _, _, hr⟩ := h
  have hp : 0 < xs.length := List.length_pos_iff.2 hn
  obtain ⟨b, o, rfl, hc⟩ := hr hp
  exact ⟨b, rfl, World.block_lt_of_cell? w _ (hc 0 hp)⟩
theorem SlI.keepOther {w w1 : World} {k : IntKind} {v : Value} {xs : List Int} {row : Option Nat} (h : SlI w k v xs) (hg : w.grownBy w1 row) (hne : xs = [] ∨ v.ownBlock ≠ row) : SlI w1 k v xs := by
  obtain ⟨A, c, rfl, h1, h2, h3, hr⟩ := h
  refine ⟨A, c, rfl, h1, h2, h3, fun hp => ?_⟩
  obtain ⟨b, o, rfl, hc⟩ := hr hp
  refine ⟨b, o, rfl, fun j hj => ?_⟩
  have hb := World.block_lt_of_cell? w _ (hc j hj)
  rw [World.cell?_of_block (w := w) (w' := w1) (a := ⟨b, o + j, none⟩) (hg.block b hb (by
    rcases hne with rfl | hne
    · simp at hp
    · exact hne))]
  exact hc j hj

section
variable {w w1 : World} {base : Nat} {v : Value} {l : List At}
theorem OwA.nil (w : World) (base : Nat) : OwA w base (.slice none 0 0) [] := ⟨[], rfl, World.ownsRow_nil _ _ _ _, fun p hp => by simp at hp⟩
theorem OwA.below (h : OwA w base v l) (hb : Below w.heap.size w w1) : OwA w1 base v l := by
  obtain ⟨q, hq, ho, hs⟩ := h
  exact ⟨q, hq, World.ownsRow.kept (row := none) ho ⟨hb.os, hb.tape, hb.output, hb.size, fun i hi _ => hb.block i hi⟩ (by cases v.ownBlock <;> simp), fun p hp => ⟨(hs p hp).1.below hb, (hs p hp).2⟩⟩
theorem OwA.weaken {base' : Nat} (h : OwA w base v l) (hb : base' ≤ base) : OwA w base' v l := by
  obtain ⟨q, hq, ho, hs⟩ := h
  refine ⟨q, hq, ?_, hs⟩
  rcases ho with ⟨h0, h1 | ⟨g', cap', cur, h', hb', r⟩⟩
  · exact ⟨h0, .inl h1⟩
  · exact ⟨h0, .inr ⟨g', cap', cur, h', Nat.le_trans hb hb', r⟩⟩
theorem OwA.alloc (h : OwA w base v l) (o : Obj) : OwA (w.alloc o) base v l := h.below ((Below.refl _ _).alloc (Nat.le_refl _) o)
theorem OwA.drewN (h : OwA w base v l) (n : Nat) : OwA (w.drewN n) base v l := h
theorem OwA.lt (h : OwA w base v l) {k : Nat} (hk : v.ownBlock = some k) : base ≤ k ∧ k < w.heap.size := by
  obtain ⟨q, hq, ho, hs⟩ := h
  exact World.ownsRow.lt ho k hk
theorem OwA.sl (h : OwA w base v l) : SlA w v l := by
  obtain ⟨q, hq, ho, hs⟩ := h
  have hlq : q.length = l.length := by rw [← hq]; simp
  obtain ⟨h0, ⟨rfl, hl⟩ | ⟨g, cap, cur, rfl, hb, hg, h1, h2, h3, h4⟩⟩ := ho
  · obtain rfl : l = [] := List.eq_nil_of_length_eq_zero hl
    exact SlA.nil w
  · have ho : w.ownsRow base 91 2 (.slice (some ⟨g, 0, none⟩) l.length cap) l.length (flatA q) := ⟨h0, .inr ⟨g, cap, cur, rfl, hb, hg, h1, h2, h3, h4⟩⟩
    refine ⟨_, cap, rfl, h1, by simpa [maxLen] using h2, fun e => by simp at e, fun _ => ⟨g, 0, rfl, fun j hj => ?_⟩⟩
    have hqj : q[j]? = some (q[j]'(by omega)) := List.getElem?_eq_getElem _
    have hlj : l[j] = (q[j]'(by omega)).1 := by simp only [← hq, List.getElem_map]
    have hf := flatA_at q j _ hqj
    refine ⟨(q[j]'(by omega)).2, ?_, ?_, ?_⟩
    · rw [Nat.zero_add, World.ownsRow.cellAt ho (j * 2) (by omega), hf.1, hlj]
    · rw [Nat.zero_add, World.ownsRow.cellAt ho (j * 2 + 1) (by omega), hf.2]
    · rw [hlj]; exact (hs _ (List.getElem_mem _)).1
end
theorem apart_new {w W : World} {base base' : Nat} {v bv : Value} {l : List At} {b : List Int} {e : TypeId} {k : IntKind} (h : OwA w base v l) (hb : OwV W base' e k bv b) (hle : w.heap.size ≤ base') : Apart b bv v := by
  rcases hb.cases with ⟨rfl, rfl⟩ | ⟨g, cap, rfl, q⟩
  · exact .inl rfl
  · refine .inr fun er => ?_
    have h1 := OwI.lt q
    have h2 : base ≤ g ∧ g < w.heap.size := h.lt er.symm
    omega
theorem apart_old {w W : World} {base : Nat} {v bv : Value} {l : List At} {b : List Int} (h : OwA w base v l) (hb : SlI W .u8 bv b) (hle : W.heap.size ≤ base) : Apart b bv v := by
  by_cases hn : b = []
  · exact .inl hn
  · refine .inr fun er => ?_
    obtain ⟨g, eg, hg⟩ := hb.blk hn
    rw [eg] at er
    have h2 := h.lt er.symm
    omega

theorem info_at : (Tryz.prog.info? 91).map (fun i => (i.zero, i.size, i.bytes)) = some (some (.agg #[.int .i64 0, .slice none 0 0]), 2, 32) := by kernel_rfl

theorem appA_core {W w1 : World} {base : Nat} {v v1 bv : Value} {l : List At} {q : List (At × Value)} {t : Int} {b : List Int} (hq : q.map (·.1) = l) (hs : ∀ p ∈ q, SlI W .u8 p.2 p.1.2 ∧ Apart p.1.2 p.2 v) (HS : SlI W .u8 bv b) (Hap : Apart b bv v)
    (hown : w1.ownsRow base 91 2 v1 (l.length + 1) (flatA q ++ [.int .i64 t, bv])) (hg : (W.alloc (.cells #[.int .i64 t, bv] 91)).grownBy w1 v.ownBlock) (hat : v1.ownBlock = v.ownBlock ∨ v1.ownBlock = some (W.heap.size + 1)) :
    OwA w1 base v1 (l ++ [(t, b)]) := by
  have key : ∀ (x : Value) (y : List Int), SlI W .u8 x y → Apart y x v → SlI w1 .u8 x y ∧ Apart y x v1 := fun x y hx hap => by
    refine ⟨(hx.below ((Below.refl _ _).alloc (Nat.le_refl _) _)).keepOther hg hap, ?_⟩
    rcases hat with e | e
    · rw [Apart, e]; exact hap
    · by_cases hn : y = []
      · exact .inl hn
      · obtain ⟨g, eg, hg⟩ := hx.blk hn
        refine .inr ?_
        rw [e, eg]
        intro e2
        simp only [Option.some.injEq] at e2
        omega
  refine ⟨q ++ [((t, b), bv)], by simp [hq], ?_, fun p hp => ?_⟩
  · rw [flatA_append, show flatA [((t, b), bv)] = [.int .i64 t, bv] from rfl]
    simpa using hown
  · rcases List.mem_append.1 hp with hp | hp
    · exact key _ _ (hs p hp).1 (hs p hp).2
    · simp only [List.mem_singleton] at hp
      subst hp
      exact key _ _ HS Hap

section
variable {ops : Array Oper} {rest : List Oper} {o : Oper} {a : Act} {Q : Exit → Act → World → Prop}
/-- 'append(v, x)' of an attribute, v the call's own. -/
theorem wpList_appA {W : World} (hgd : o.guard = none) (s x : Operand) (ho : o.op = .call { callee := .builtin .append, args := #[s, x], argTypes := #[32, 32] })
    (base : Nat) (v bv : Value) (l : List At) (t : Int) (b : List Int) (hs : a.eval s = v) (hx : a.eval x = .slice (some ⟨W.heap.size, 0, none⟩) 1 1)
    (HO : OwA W base v l) (HS : SlI W .u8 bv b) (Hap : Apart b bv v) (hbase : base ≤ W.heap.size) (hl : l.length ≤ 1000000)
    (h : ∀ v1 w1, OwA w1 base v1 (l ++ [(t, b)]) → (W.alloc (.cells #[.int .i64 t, bv] 91)).grownBy w1 v.ownBlock → wpList Tryz.prog ops Q rest (a.put o.dst v1) w1) :
    wpList Tryz.prog ops Q (o :: rest) a (W.alloc (.cells #[.int .i64 t, bv] 91)) := by
  obtain ⟨q, hq, hown, hsq⟩ := HO
  obtain ⟨i0, hi, hzz⟩ := Option.map_eq_some_iff.1 info_at
  simp only [Prod.mk.injEq] at hzz
  obtain ⟨hz0, hz1, hz2⟩ := hzz
  refine wpList_append_own_at (W.alloc (.cells #[.int .i64 t, bv] 91)) hgd s x 32 ho base 91 i0 _ 2 32 Tryz.underlying32 hi hz0 hz1 hz2 rfl (by decide) v l.length _ hs (hown.alloc _) ⟨W.heap.size, 0, none⟩ 1 1 [.int .i64 t, bv] hx rfl
    (World.news_of_block (cs := #[.int .i64 t, bv]) (t := 91) (fr := (0, 0)) (heap_alloc_new W _)) (fun u hu => by
      rcases List.mem_cons.1 hu with rfl | hu
      · rfl
      · obtain rfl := List.mem_singleton.1 hu
        exact HS.oneCell) (by simp only [maxLen]; omega) (by omega) (by simp; omega) ?_
  intro v1 w1 hown1 hg _ hat
  exact h v1 w1 (appA_core hq hsq HS Hap hown1 hg (by simpa using hat)) hg
end
section
variable {F : Fence} {n : Nat} {ops : Array Oper} {rest : List Oper} {o : Oper} {a : Act} {Q : Exit → Act → World → Prop}
theorem wpListIn_appA {W : World} (hgd : o.guard = none) (s x : Operand) (ho : o.op = .call { callee := .builtin .append, args := #[s, x], argTypes := #[32, 32] })
    (base : Nat) (v bv : Value) (l : List At) (t : Int) (b : List Int) (hs : a.eval s = v) (hx : a.eval x = .slice (some ⟨W.heap.size, 0, none⟩) 1 1)
    (HO : OwA W base v l) (HS : SlI W .u8 bv b) (Hap : Apart b bv v) (hbase : base ≤ W.heap.size) (hl : l.length ≤ 1000000)
    (h : ∀ v1 w1, OwA w1 base v1 (l ++ [(t, b)]) → (W.alloc (.cells #[.int .i64 t, bv] 91)).grownBy w1 v.ownBlock → wpListIn F n Tryz.prog ops Q rest (a.put o.dst v1) w1) :
    wpListIn F n Tryz.prog ops Q (o :: rest) a (W.alloc (.cells #[.int .i64 t, bv] 91)) := by
  obtain ⟨q, hq, hown, hsq⟩ := HO
  obtain ⟨i0, hi, hzz⟩ := Option.map_eq_some_iff.1 info_at
  simp only [Prod.mk.injEq] at hzz
  obtain ⟨hz0, hz1, hz2⟩ := hzz
  refine wpListIn_append_own_at (W.alloc (.cells #[.int .i64 t, bv] 91)) hgd s x 32 ho base 91 i0 _ 2 32 Tryz.underlying32 hi hz0 hz1 hz2 rfl (by decide) v l.length _ hs (hown.alloc _) ⟨W.heap.size, 0, none⟩ 1 1 [.int .i64 t, bv] hx rfl
    (World.news_of_block (cs := #[.int .i64 t, bv]) (t := 91) (fr := (0, 0)) (heap_alloc_new W _)) (fun u hu => by
      rcases List.mem_cons.1 hu with rfl | hu
      · rfl
      · obtain rfl := List.mem_singleton.1 hu
        exact HS.oneCell) (by simp only [maxLen]; omega) (by omega) (by simp; omega) ?_
  intro v1 w1 hown1 hg _ hat
  exact h v1 w1 (appA_core hq hsq HS Hap hown1 hg (by simpa using hat)) hg
end

end Go.Proofs.YthjcldkaodmfoaaGreat
