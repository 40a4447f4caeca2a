/-
  Lists of attributes: what they read as; what bytes.Clone, attrs.Form, attrs.Get return. Conditions: those that each theorem types.
-/
import Derived.Test.YthjcldkaodmfoaaGreatDerG
import Derived.Test.YthjcldkaodmfoaaGreatDerF
namespace Go.Proofs.YthjcldkaodmfoaaGreat
open Go.RowKit

/-! ### Attributes -/
abbrev At : Type := Int × List Int
/-- Bytes that a list may hold. -/
def AtsOk (l : List At) : Prop := ∀ a ∈ l, Dg 256 a.2 ∧ a.2.length ≤ 140737488351232
/-- The value is a slice of attributes that reads as 'l'. -/
def SlA (w : World) (v : Value) (l : List At) : Prop :=
  ∃ A c, v = .slice A l.length c ∧ l.length ≤ c ∧ c ≤ 9223372036854775807 ∧ (A = none → c = 0) ∧
    (0 < l.length → ∃ b o, A = some ⟨b, o, none⟩ ∧ ∀ j, (hj : j < l.length) → ∃ bv, w.cell? ⟨b, o + j * 2, none⟩ = some (.int .i64 (l[j]'hj).1) ∧ w.cell? ⟨b, o + j * 2 + 1, none⟩ = some bv ∧ SlI w .u8 bv (l[j]'hj).2)
theorem SlA.below {w w1 : World} {v : Value} {l : List At} (h : SlA w v l) (hb : Below w.heap.size w w1) : SlA w1 v l := by
  obtain ⟨A, c, e, h1, h2, h3, hr⟩ := h
  refine ⟨A, c, e, h1, h2, h3, fun hp => ?_⟩
  obtain ⟨b, o, eA, hk⟩ := hr hp
  refine ⟨b, o, eA, fun j hj => ?_⟩
  obtain ⟨bv, c1, c2, hs⟩ := hk j hj
  exact ⟨bv, cell_below hb c1, cell_below hb c2, hs.below hb⟩
theorem SlA.nil (w : World) : SlA w (.slice none 0 0) [] := ⟨none, 0, rfl, by simp, by omega, fun _ => rfl, fun h => absurd h (by simp)⟩
theorem SlA.drewN {w : World} {v : Value} {l : List At} (h : SlA w v l) (n : Nat) : SlA (w.drewN n) v l := h

/-- The first value of a type. -/
def getL : List At → Int → Option (List Int)
  | [], _ => none
  | a :: l, t => if a.1 = t then some a.2 else getL l t
theorem getL_take_succ {l : List At} {k : Nat} {t : Int} (h : k < l.length) (hn : getL (l.take k) t = none) : getL (l.take (k + 1)) t = if (l[k]'h).1 = t then some (l[k]'h).2 else none := by
  induction l generalizing k with
  | nil => simp at h
  | cons a l ih =>
    cases k with
    | zero => simp [getL]
    | succ k =>
      simp only [List.take_succ_cons, getL] at hn ⊢
      by_cases e : a.1 = t
      · rw [if_pos e] at hn; cases hn
      · rw [if_neg e] at hn ⊢
        rw [ih (by simpa using h) hn]
        rfl
theorem getL_of_take {l : List At} {k : Nat} {t : Int} {b : List Int} (h : getL (l.take k) t = some b) : getL l t = some b := by
  induction l generalizing k with
  | nil => simp [getL] at h
  | cons a l ih =>
    cases k with
    | zero => simp [getL] at h
    | succ k =>
      simp only [List.take_succ_cons, getL] at h ⊢
      split
      · rename_i e; rwa [if_pos e] at h
      · rename_i e; rw [if_neg e] at h; exact ih h
theorem getL_mem {l : List At} {t : Int} {b : List Int} (h : getL l t = some b) : (t, b) ∈ l := by
  induction l with
  | nil => simp [getL] at h
  | cons a l ih =>
    simp only [getL] at h
    split at h
    · rename_i e
      simp only [Option.some.injEq] at h
      subst e h
      exact List.mem_cons_self
    · exact List.mem_cons_of_mem _ (ih h)

/-! ### attrs.Get -/
def GetPost (l : List At) (t : Int) (w : World) (e : Ending) (w' : World) : Prop := Below w.heap.size w w' ∧
  ((getL l t = none ∧ e = .returned (.tuple #[.slice none 0 0, .bool false])) ∨
   (∃ b v1, getL l t = some b ∧ e = .returned (.tuple #[v1, .bool true]) ∧ OwV w' w.heap.size 5 .u8 v1 b))

set_option maxRecDepth 100000 in
theorem attrs_Get (l : List At) (t : Int) (v : Value) (w : World) (h : SlA w v l) (hok : AtsOk l) :
    Calls Tryz.prog 152 #[v, .int .i64 t] w (GetPost l t w) := by
  obtain ⟨A, c, rfl, h1, h2, h3, hr⟩ := h
  have HR := Ho.mk hr
  have HOK := Ho.mk hok
  clear hr h3 hok
  go_enter Tryz.func152, Tryz.ntmps152
  go_wp2
  go_loopw [10] (fun i wr => ∃ k : Nat, k ≤ l.length ∧ i = .int .i64 k ∧ Ho (getL (l.take k) t = none) ∧ Below w.heap.size w wr) (fun i _ => l.length - (intOf i).toNat)
  case atStart => exact ⟨0, Nat.zero_le _, rfl, ⟨by simp [getL]⟩, Below.refl _ _⟩
  case round =>
    obtain ⟨k, hk, rfl, hg, hB⟩ := hrel
    by_cases hlt : k < l.length
    · obtain ⟨b, o, rfl, hcell⟩ := HR.out (by omega)
      obtain ⟨bv, c1, c2, hs⟩ := hcell k hlt
      have hc1 := cell_below hB c1
      have hc2 := cell_below hB c2
      have HS := Ho.mk (hs.below hB)
      have HB := Ho.mk hB
      obtain ⟨A1, e1, rfl, _⟩ := hs
      have HG := Ho.mk (getL_take_succ hlt hg.out)
      clear hcell c1 c2 hg hB
      by_cases he : (l[k]'hlt).1 = t
      · have q : ((l[k]'hlt).1 == t) = true := beq_iff_eq.2 he
        have HE := Ho.mk he
        clear he
        go_wp2_with fail
        refine (bytes_Clone _ _ _ (HS.out.below (((Below.refl _ _).alloc (Nat.le_refl _) _))) (HOK.out _ (List.getElem_mem hlt)).2).mono ?_
        rintro e w1 ⟨v1, rfl, ho1, hb1⟩
        have HP : Ho (GetPost l t w (.returned (.tuple #[v1, .bool true])) w1) := ⟨below_base (HB.out.alloc HB.out.size _) (by have := HB.out.size; simp; omega) hb1, .inr ⟨_, v1, getL_of_take (by rw [HG.out, if_pos HE.out]), rfl, ho1.weaken (by have := HB.out.size; simp; omega)⟩⟩
        clear ho1 hb1
        go_wp2
        go_ret2
        exact HP.out
      · have q : ((l[k]'hlt).1 == t) = false := beq_eq_false_iff_ne.2 he
        have HE := Ho.mk he
        clear he
        go_wp2
        go_roundw
        case rel => exact ⟨k + 1, by omega, by go_num, ⟨by rw [HG.out, if_neg HE.out]⟩, HB.out.alloc HB.out.size _⟩
        case measure => simp [intOf]; omega
    · have e : k = l.length := by omega
      have HP : Ho (GetPost l t w (.returned (.tuple #[.slice none 0 0, .bool false])) wr) := ⟨hB, .inl ⟨by rw [← hg.out, e, List.take_length], rfl⟩⟩
      clear e hB hg
      go_wp2
      go_ret2
      exact HP.out

end Go.Proofs.YthjcldkaodmfoaaGreat
