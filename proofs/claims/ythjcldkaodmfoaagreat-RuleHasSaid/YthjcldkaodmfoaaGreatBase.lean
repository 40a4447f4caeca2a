/-
  Slices of whole numbers: what they read as, rows of the call's own, the append law. Conditions: those that each theorem types.
-/
import Derived.Test.YthjcldkaodmfoaaGreatProg
import Derived.Below
import Derived.Deep.Draws
import Derived.Deep.AppendLies
import Derived.Maps.AppendAt
import Derived.OwnWalk
import Derived.Laws.BytesArg
import Derived.Laws.MakeOwn
import Derived.Laws.OwnMore
import Derived.Deep.OwnRows
import Derived.Tactics
import Derived.Lib.ConvBytes
import Derived.Laws.Slices
import Derived.WalkKit
import Derived.KernelRfl
import Derived.RowKit3
import Derived.Deep.LoopGhost
import Derived.Deep.QuietTactic
import Derived.BigQuiet
import Derived.WideLaws
import Derived.Deep.DeepCutAuto
import Derived.Deep.CutBlock
import Derived.Deep.RegionHeld3
import Derived.Laws.Rows
import Derived.Lib.AppendStr
import Derived.ArgAppend
import Derived.Laws.IdiomCopy
import Derived.OrdersHeld
import Derived.Laws.BitsLemmas
import Derived.RowKit
import Derived.Lib.Hide
import Derived.Laws.AppendOwnNone
namespace Go.Proofs.YthjcldkaodmfoaaGreat
open Go.RowKit

/-- A fact that the walk's simp does not look into. -/
structure Ho (p : Prop) : Prop where mk :: (out : p)

/-- An element, 0 beyond. -/
def gx (xs : List Int) (j : Nat) : Int := xs.getD j 0
theorem gx_lt {xs : List Int} {j : Nat} (h : j < xs.length) : gx xs j = xs[j] := by simp [gx, List.getD_eq_getElem?_getD, h]
theorem gx_ge {xs : List Int} {j : Nat} (h : xs.length ≤ j) : gx xs j = 0 := by simp [gx, List.getD_eq_getElem?_getD, h]

theorem gx_append_left {xs ys : List Int} {j : Nat} (h : j < xs.length) : gx (xs ++ ys) j = gx xs j := by simp [gx, List.getD_eq_getElem?_getD, List.getElem?_append_left h]
theorem gx_append_right {xs ys : List Int} {j : Nat} (h : xs.length ≤ j) : gx (xs ++ ys) j = gx ys (j - xs.length) := by simp [gx, List.getD_eq_getElem?_getD, List.getElem?_append_right h]
theorem gx_take {xs : List Int} {n j : Nat} (h : j < n) : gx (xs.take n) j = gx xs j := by simp [gx, List.getD_eq_getElem?_getD, List.getElem?_take, h]
theorem gx_drop {xs : List Int} {n j : Nat} : gx (xs.drop n) j = gx xs (n + j) := by simp [gx, List.getD_eq_getElem?_getD, List.getElem?_drop]
theorem gx_set {xs : List Int} {i j : Nat} {u : Int} (h : i < xs.length) : gx (xs.set i u) j = if j = i then u else gx xs j := by
  simp only [gx, List.getD_eq_getElem?_getD, List.getElem?_set]
  by_cases e : i = j
  · subst e; simp [h]
  · rw [if_neg e, if_neg (fun k => e k.symm)]
theorem gx_replicate {n j : Nat} : gx (List.replicate n (0 : Int)) j = 0 := by
  simp only [gx, List.getD_eq_getElem?_getD, List.getElem?_replicate]
  split <;> rfl
theorem take_succ_gx {xs : List Int} {n : Nat} (h : n < xs.length) : xs.take (n + 1) = xs.take n ++ [gx xs n] := by
  rw [List.take_succ_eq_append_getElem h, gx_lt h]
theorem drop_gx {xs : List Int} {n : Nat} (h : n < xs.length) : xs.drop n = gx xs n :: xs.drop (n + 1) := by
  rw [List.drop_eq_getElem_cons h, gx_lt h]
theorem ext_gx {xs ys : List Int} (hl : xs.length = ys.length) (h : ∀ j, j < xs.length → gx xs j = gx ys j) : xs = ys := by
  refine List.ext_getElem hl fun j h1 h2 => ?_
  have := h j h1
  rwa [gx_lt h1, gx_lt h2] at this

/-! ### Slices of whole numbers that are read -/
/-- What a slice of whole numbers reads as: 'xs', at address A. -/
def RdI (w : World) (k : IntKind) (A : Option Addr) (xs : List Int) : Prop :=
  0 < xs.length → ∃ b o, A = some ⟨b, o, none⟩ ∧ ∀ j, j < xs.length → w.cell? ⟨b, o + j, none⟩ = some (.int k (gx xs j))

theorem cell_below {w w1 : World} (h : Below w.heap.size w w1) {a : Addr} {v : Value} (hc : w.cell? a = some v) : w1.cell? a = some v := (h.cell (World.block_lt_of_cell? w a hc)).trans hc
theorem RdI.below {w w1 : World} {k : IntKind} {A : Option Addr} {xs : List Int} (h : RdI w k A xs) (hb : Below w.heap.size w w1) : RdI w1 k A xs := fun hn =>
  let ⟨b, o, e, hc⟩ := h hn
  ⟨b, o, e, fun j hj => cell_below hb (hc j hj)⟩
theorem RdI.nil (w : World) (k : IntKind) (A : Option Addr) : RdI w k A [] := fun h => absurd h (by simp)
theorem RdI.take {w : World} {k : IntKind} {A : Option Addr} {xs : List Int} (h : RdI w k A xs) (n : Nat) : RdI w k A (xs.take n) := fun hn => by
  have hl : (xs.take n).length ≤ xs.length := List.length_take_le' _ _
  obtain ⟨b, o, e, hc⟩ := h (by omega)
  refine ⟨b, o, e, fun j hj => ?_⟩
  have hj2 : j < n := by have := List.length_take_le n xs; omega
  rw [gx_take hj2]
  exact hc j (by omega)
theorem RdI.drop {w : World} {k : IntKind} {b o : Nat} {xs : List Int} (h : RdI w k (some ⟨b, o, none⟩) xs) (n : Nat) : RdI w k (some ⟨b, o + n, none⟩) (xs.drop n) := fun hn => by
  have hl : (xs.drop n).length = xs.length - n := List.length_drop
  obtain ⟨b', o', e, hc⟩ := h (by omega)
  simp only [Option.some.injEq, Addr.mk.injEq, and_true] at e
  obtain ⟨rfl, rfl⟩ := e
  refine ⟨b, o + n, rfl, fun j hj => ?_⟩
  rw [gx_drop, Nat.add_assoc]
  exact hc (n + j) (by omega)
theorem RdI.drewN {w : World} {k : IntKind} {A : Option Addr} {xs : List Int} (h : RdI w k A xs) (n : Nat) : RdI (w.drewN n) k A xs := h
theorem RdI.lt {w : World} {k : IntKind} {b o : Nat} {xs : List Int} (h : RdI w k (some ⟨b, o, none⟩) xs) (hn : 0 < xs.length) : b < w.heap.size := by
  obtain ⟨b', o', e, hc⟩ := h hn
  simp only [Option.some.injEq, Addr.mk.injEq, and_true] at e
  obtain ⟨rfl, rfl⟩ := e
  exact World.block_lt_of_cell? w _ (hc 0 hn)

/-! ### Rows of the call's own -/
/-- A slice of whole numbers at the head of block g, of n elements, that the call owns: it may be written. -/
def OwI (w : World) (base : Nat) (e : TypeId) (k : IntKind) (g cap : Nat) (xs : List Int) : Prop :=
  w.ownsRow base e 1 (.slice (some ⟨g, 0, none⟩) xs.length cap) xs.length (xs.map (Value.int k))
section
variable {w w1 : World} {base : Nat} {e : TypeId} {k : IntKind} {g cap : Nat} {xs : List Int}
theorem OwI.cell (h : OwI w base e k g cap xs) {j : Nat} (hj : j < xs.length) : w.cell? ⟨g, j, none⟩ = some (.int k (gx xs j)) := by
  rw [World.ownsRow.cellAt h j (by omega), List.getElem?_map, List.getElem?_eq_getElem hj, gx_lt hj]; rfl
theorem OwI.frozen (h : OwI w base e k g cap xs) (j : Nat) : w.frozen? ⟨g, j, none⟩ = false := World.ownsRow.frozenAt h j
theorem OwI.set (h : OwI w base e k g cap xs) (j : Nat) (u : Int) : OwI (w.setCell ⟨g, j, none⟩ (.int k u)) base e k g cap (xs.set j u) := by
  have := (World.ownsRow.stored h j (.int k u)).1
  unfold OwI
  rw [List.length_set, List.map_set]
  exact this
theorem OwI.lt (h : OwI w base e k g cap xs) : base ≤ g ∧ g < w.heap.size := World.ownsRow.lt h g rfl
theorem OwI.room (h : OwI w base e k g cap xs) : xs.length ≤ cap ∧ cap ≤ maxLen := by
  rcases h.2 with ⟨h', _⟩ | ⟨g', cap', cur, h', _, hg, h1, h2, _⟩
  · simp at h'
  · simp only [Value.slice.injEq, Option.some.injEq, Addr.mk.injEq, and_true, true_and] at h'
    obtain ⟨rfl, rfl⟩ := h'
    exact ⟨h1, h2⟩
theorem OwI.reads (h : OwI w base e k g cap xs) : RdI w k (some ⟨g, 0, none⟩) xs := fun _ => ⟨g, 0, rfl, fun j hj => by rw [Nat.zero_add]; exact h.cell hj⟩
theorem OwI.alloc (h : OwI w base e k g cap xs) (o : Obj) : OwI (w.alloc o) base e k g cap xs := World.ownsRow.alloc h o
theorem OwI.drewN (h : OwI w base e k g cap xs) (n : Nat) : OwI (w.drewN n) base e k g cap xs := h
theorem OwI.below (h : OwI w base e k g cap xs) (hb : Below w.heap.size w w1) : OwI w1 base e k g cap xs :=
  World.ownsRow.kept (row := none) h ⟨hb.os, hb.tape, hb.output, hb.size, fun i hi _ => hb.block i hi⟩ (.inr (by simp [Value.ownBlock]))
theorem OwI.other (h : OwI w base e k g cap xs) {a : Addr} (ha : g ≠ a.block) (u : Value) : OwI (w.setCell a u) base e k g cap xs :=
  World.ownsRow.kept (row := some a.block) h ⟨rfl, rfl, rfl, by simp, fun i _ hk => heap_setCell_other w a i u (fun e => hk (by rw [e]))⟩ (.inr (by simp [Value.ownBlock]; exact ha))
theorem OwI.take (h : OwI w base e k g cap xs) (n : Nat) (hn : n ≤ xs.length) : OwI w base e k g cap (xs.take n) := by
  rcases h with ⟨h0, ⟨h', _⟩ | ⟨g', cap', cur, h', hb, hg, h1, h2, h3, h4⟩⟩
  · simp at h'
  · simp only [Value.slice.injEq, Option.some.injEq, Addr.mk.injEq, and_true, true_and] at h'
    obtain ⟨rfl, rfl⟩ := h'
    have hl : (xs.take n).length = n := by simp; omega
    refine ⟨by simp, .inr ⟨g, cap, cur, rfl, hb, hg, by omega, h2, h3, ?_⟩⟩
    rw [hl, List.map_take, ← h4, List.take_take]
    congr 1
    omega
theorem OwI.weaken {base' : Nat} (h : OwI w base e k g cap xs) (hb : base' ≤ base) : OwI w base' e k g cap xs := by
  rcases h with ⟨h0, h1 | ⟨g', cap', cur, h', hb', r⟩⟩
  · exact ⟨h0, .inl h1⟩
  · exact ⟨h0, .inr ⟨g', cap', cur, h', Nat.le_trans hb hb', r⟩⟩
end
theorem OwI.make (w : World) (e : TypeId) (k : IntKind) (n base : Nat) (hb : base ≤ w.heap.size) (hn : n ≤ 9223372036854775807) :
    OwI (w.alloc (.cells (madeCells #[.int k 0] n) e)) base e k w.heap.size n (List.replicate n 0) := by
  unfold OwI
  have h := World.ownsRow_lit (base := base) (e := e) (size := 1) w (madeCells #[.int k 0] n) n hb (by simpa [maxLen] using hn) (by simp [size_madeCells])
  rw [toList_madeCells_one] at h
  simpa using h

/-! ### Slices of whole numbers as values -/
/-- The value is a slice that reads as 'xs'. -/
def SlI (w : World) (k : IntKind) (v : Value) (xs : List Int) : Prop :=
  ∃ A c, v = .slice A xs.length c ∧ xs.length ≤ c ∧ c ≤ 9223372036854775807 ∧ (A = none → c = 0) ∧ RdI w k A xs
theorem SlI.mk {w : World} {k : IntKind} {A : Option Addr} {c : Nat} {xs : List Int} (h1 : xs.length ≤ c) (h2 : c ≤ 9223372036854775807) (h3 : A = none → c = 0) (h : RdI w k A xs) : SlI w k (.slice A xs.length c) xs := ⟨A, c, rfl, h1, h2, h3, h⟩
theorem SlI.below {w w1 : World} {k : IntKind} {v : Value} {xs : List Int} (h : SlI w k v xs) (hb : Below w.heap.size w w1) : SlI w1 k v xs :=
  let ⟨A, c, e, h1, h2, h3, hr⟩ := h
  ⟨A, c, e, h1, h2, h3, hr.below hb⟩
theorem SlI.nil (w : World) (k : IntKind) : SlI w k (.slice none 0 0) [] := ⟨none, 0, rfl, by simp, by omega, fun _ => rfl, RdI.nil _ _ _⟩
theorem SlI.drewN {w : World} {k : IntKind} {v : Value} {xs : List Int} (h : SlI w k v xs) (n : Nat) : SlI (w.drewN n) k v xs := h
/-- A slice of the call's own, nil if nothing is in it (or none). -/
def OwV (w : World) (base : Nat) (e : TypeId) (k : IntKind) (v : Value) (xs : List Int) : Prop := w.ownsRow base e 1 v xs.length (xs.map (Value.int k))
section
variable {w w1 : World} {base : Nat} {e : TypeId} {k : IntKind} {v : Value} {xs : List Int}
theorem OwV.nil (w : World) (base : Nat) (e : TypeId) (k : IntKind) : OwV w base e k (.slice none 0 0) [] := World.ownsRow_nil _ _ _ _
theorem OwI.val {g cap : Nat} (h : OwI w base e k g cap xs) : OwV w base e k (.slice (some ⟨g, 0, none⟩) xs.length cap) xs := h
theorem OwV.cases (h : OwV w base e k v xs) : (v = .slice none 0 0 ∧ xs = []) ∨ ∃ g cap, v = .slice (some ⟨g, 0, none⟩) xs.length cap ∧ OwI w base e k g cap xs := by
  rcases h with ⟨h0, ⟨h1, h2⟩ | ⟨g, cap, cur, rfl, r⟩⟩
  · exact .inl ⟨h1, List.eq_nil_of_length_eq_zero h2⟩
  · exact .inr ⟨g, cap, rfl, h0, .inr ⟨g, cap, cur, rfl, r⟩⟩
theorem OwV.sl (h : OwV w base e k v xs) : SlI w k v xs := by
  rcases h.cases with ⟨rfl, rfl⟩ | ⟨g, cap, rfl, q⟩
  · exact SlI.nil _ _
  · exact SlI.mk q.room.1 (by have := q.room.2; simpa [maxLen] using this) (fun e => by simp at e) q.reads
theorem OwV.below (h : OwV w base e k v xs) (hb : Below w.heap.size w w1) : OwV w1 base e k v xs :=
  World.ownsRow.kept (row := none) h ⟨hb.os, hb.tape, hb.output, hb.size, fun i hi _ => hb.block i hi⟩ (by cases v.ownBlock <;> simp)
theorem OwV.weaken {base' : Nat} (h : OwV w base e k v xs) (hb : base' ≤ base) : OwV w base' e k v xs := by
  rcases h.cases with ⟨rfl, rfl⟩ | ⟨g, cap, rfl, q⟩
  · exact OwV.nil _ _ _ _
  · exact (q.weaken hb).val
theorem OwV.alloc (h : OwV w base e k v xs) (o : Obj) : OwV (w.alloc o) base e k v xs := World.ownsRow.alloc h o
theorem OwV.drewN (h : OwV w base e k v xs) (n : Nat) : OwV (w.drewN n) base e k v xs := h
end
theorem below_trans {w w1 w2 : World} (h : Below w.heap.size w w1) (k : Below w1.heap.size w1 w2) : Below w.heap.size w w2 :=
  h.trans (k.mono h.size)
theorem below_base {B : Nat} {w w1 w2 : World} (h : Below B w w1) (hB : B ≤ w1.heap.size) (k : Below w1.heap.size w1 w2) : Below B w w2 :=
  h.trans (k.mono hB)
theorem below_drewN {B : Nat} {w W : World} (h : Below B w W) (n : Nat) : Below B w (W.drewN n) := ⟨h.os, h.tape, h.output, h.size, h.block⟩

section
variable {P : Program} {ops : Array Oper} {rest : List Oper} {o : Oper} {a : Act} {Q : Exit → Act → World → Prop}
/-- 'append(v, ys...)' of whole numbers, v the call's own. -/
theorem wpList_app {w : World} (hgd : o.guard = none) (s x : Operand) (t : TypeId) (e : TypeId) (k : IntKind) (bytes : Nat)
    (ho : o.op = .call { callee := .builtin .append, args := #[s, x], argTypes := #[t, t] })
    (ht : P.underlying t = some (.slice e)) (hinfo : (P.info? e).map (fun i => (i.zero, i.size, i.bytes)) = some (some (.int k 0), 1, bytes))
    (base : Nat) (v : Value) (xs : List Int) (u : Value) (ys : List Int) (hs : a.eval s = v) (hx : a.eval x = u)
    (HO : OwV w base e k v xs) (HR : SlI w k u ys) (hbase : base ≤ w.heap.size) (hl : (xs.length + ys.length) * bytes ≤ 140737488355328) (h63 : xs.length + ys.length ≤ 9223372036854775807)
    (h : ∀ v1 w1, OwV w1 base e k v1 (xs ++ ys) → w.grownBy w1 v.ownBlock → (v1.ownBlock = v.ownBlock ∨ v1.ownBlock = some w.heap.size) → wpList P ops Q rest (a.put o.dst v1) w1) :
    wpList P ops Q (o :: rest) a w := by
  obtain ⟨i0, hi, hzz⟩ := Option.map_eq_some_iff.1 hinfo
  simp only [Prod.mk.injEq] at hzz
  obtain ⟨hz0, hz1, hz2⟩ := hzz
  obtain ⟨A, c, rfl, h1, h2, h3, hr⟩ := HR
  cases A with
  | none =>
    have hc : c = 0 := h3 rfl
    have hy : ys = [] := List.eq_nil_of_length_eq_zero (by omega)
    subst hc hy
    refine wpList_append_own_none hgd s x t ho base e i0 1 ht hi v xs.length _ hs HO hx ?_
    exact h v w (by simpa using HO) (World.grownBy.refl _ _) (.inl rfl)
  | some ad =>
    refine wpList_append_own_at w hgd s x t ho base e i0 (.int k 0) 1 bytes ht hi hz0 hz1 hz2 rfl (by decide) v xs.length _ hs HO ad ys.length c (ys.map (Value.int k)) hx (by simp) ?_ (by simp [Value.oneCell']) (by simpa [maxLen] using h63) hl hbase ?_
    · intro j u hj
      rw [List.getElem?_map] at hj
      obtain ⟨y, hy, rfl⟩ := Option.map_eq_some_iff.1 hj
      have hlt : j < ys.length := (List.getElem?_eq_some_iff.1 hy).1
      obtain ⟨b, o', eA, hc⟩ := hr (by omega)
      simp only [Option.some.injEq] at eA
      subst eA
      rw [Addr.add_lit, hc j hlt, gx_lt hlt]
      rw [(List.getElem?_eq_some_iff.1 hy).2]
    · intro v1 w1 ho1 hg _ hat
      exact h v1 w1 (by unfold OwV; simpa using ho1) hg hat
end

end Go.Proofs.YthjcldkaodmfoaaGreat
