/-
  What bytes.Clone returns. Conditions: those that each theorem types.
-/
import Derived.Test.YthjcldkaodmfoaaGreatDerF
import Derived.WalkSpells
namespace Go.Proofs.YthjcldkaodmfoaaGreat
open Go.RowKit

/-! ### bytes.Clone -/
theorem OwI.lit0 (w : World) (base : Nat) (e : TypeId) (k : IntKind) (hb : base ≤ w.heap.size) : OwI (w.alloc (.cells #[] e)) base e k w.heap.size 0 [] := by
  have h := World.ownsRow_lit (base := base) (e := e) (size := 1) w #[] 0 hb (by simp [maxLen]) (by simp)
  exact h
def ClonePost (xs : List Int) (w : World) (e : Ending) (w' : World) : Prop := ∃ v1, e = .returned v1 ∧ OwV w' w.heap.size 5 .u8 v1 xs ∧ Below w.heap.size w w'

set_option maxRecDepth 100000 in
theorem bytes_Clone (v : Value) (xs : List Int) (w : World) (h : SlI w .u8 v xs) (hl : xs.length ≤ 140737488351232) :
    Calls Tryz.prog 223 #[v] w (ClonePost xs w) := by
  have hs := h
  obtain ⟨A, c, rfl, h1, h2, h3, hr⟩ := h
  cases A with
  | none =>
    obtain rfl : c = 0 := h3 rfl
    have hx : xs = [] := List.eq_nil_of_length_eq_zero (by omega)
    subst hx
    have hq := fun W => Lib.run_eql_slice_nil (P := Tryz.prog) W 22 5 none 0 0 0 0 Tryz.underlying22
    go_enter Tryz.func223, Tryz.ntmps223
    go_wp2
    go_ret
    exact ⟨_, rfl, OwV.nil _ _ _ _, Below.refl _ _⟩
  | some ad =>
    have hq := fun W => Lib.run_eql_slice_nil (P := Tryz.prog) W 22 5 (some ad) xs.length c 0 0 Tryz.underlying22
    have ho0 := (OwI.lit0 w w.heap.size 5 .u8 (Nat.le_refl _)).val
    have hs0 := hs.below ((Below.refl w.heap.size w).alloc (Nat.le_refl _) (.cells #[] 5))
    go_enter Tryz.func223, Tryz.ntmps223
    go_wp2_with (at_builtin; refine wpList_app rfl (.tmp 5) (.tmp 6) 22 5 .u8 1 rfl Tryz.underlying22 info_u8 w.heap.size _ [] _ xs rfl rfl ho0 hs0 (by simp) (by simp; omega) (by simp; omega) ?_; intro v2 w2 ho2 hg2 hat2; simp only [List.nil_append] at ho2; have HO2 := Ho.mk ho2; have HB2 := Ho.mk (((Below.refl w.heap.size w).alloc (Nat.le_refl _) (.cells #[] 5)).grown hg2 (by simp) (fun b hb => (ho0.block b hb).1)); clear ho2 hg2 hat2)
    go_ret
    exact ⟨_, rfl, HO2.out, HB2.out⟩

end Go.Proofs.YthjcldkaodmfoaaGreat
