/-
  Numbers in a base, digit lists in normal form, bits of a number. Conditions: those that each theorem types.
-/
import Derived.Test.YthjcldkaodmfoaaGreatBase
namespace Go.Proofs.YthjcldkaodmfoaaGreat

/-! ### Numbers to a base: plain lists of digits, the lowest first -/
def nvB (B : Nat) : List Int → Nat
  | [] => 0
  | x :: xs => x.toNat + B * nvB B xs
/-- Digits are ones of the base. -/
def Dg (B : Nat) (xs : List Int) : Prop := ∀ j, 0 ≤ gx xs j ∧ gx xs j < B

section
variable {B : Nat} {xs ys : List Int}
theorem Dg.nil (hB : 0 < B) : Dg B [] := fun j => by rw [gx_ge (by simp)]; omega
theorem Dg.take (h : Dg B xs) (n : Nat) : Dg B (xs.take n) := fun j => by
  rcases Nat.lt_or_ge j n with hj | hj
  · rw [gx_take hj]; exact h j
  · rw [gx_ge (by have := List.length_take_le n xs; omega)]; have := h xs.length; rw [gx_ge (Nat.le_refl _)] at this; exact this
theorem Dg.drop (h : Dg B xs) (n : Nat) : Dg B (xs.drop n) := fun j => by rw [gx_drop]; exact h _
theorem Dg.set (h : Dg B xs) {i : Nat} {u : Int} (h0 : 0 ≤ u) (h1 : u < B) : Dg B (xs.set i u) := fun j => by
  rcases Nat.lt_or_ge i xs.length with hi | hi
  · rw [gx_set hi]
    split
    · exact ⟨h0, h1⟩
    · exact h j
  · rw [List.set_eq_of_length_le hi]; exact h j
theorem Dg.append (h : Dg B xs) (k : Dg B ys) : Dg B (xs ++ ys) := fun j => by
  rcases Nat.lt_or_ge j xs.length with hj | hj
  · rw [gx_append_left hj]; exact h j
  · rw [gx_append_right hj]; exact k _
theorem Dg.replicate (hB : 0 < B) (n : Nat) : Dg B (List.replicate n 0) := fun j => by rw [gx_replicate]; omega
theorem Dg.one {u : Int} (h0 : 0 ≤ u) (h1 : u < B) : Dg B [u] := fun j => by
  rcases Nat.lt_or_ge j 1 with hj | hj
  · obtain rfl : j = 0 := by omega
    exact ⟨h0, h1⟩
  · rw [gx_ge (by simpa using hj)]; omega
theorem Dg.cons {u : Int} (h0 : 0 ≤ u) (h1 : u < B) (h : Dg B xs) : Dg B (u :: xs) := (Dg.one h0 h1).append h
theorem Dg.tail {u : Int} (h : Dg B (u :: xs)) : Dg B xs := fun j => h (j + 1)
theorem Dg.pos (h : Dg B xs) : 0 < B := by have := h xs.length; rw [gx_ge (Nat.le_refl _)] at this; omega

theorem nvB_append : nvB B (xs ++ ys) = nvB B xs + B ^ xs.length * nvB B ys := by
  induction xs with
  | nil => simp [nvB]
  | cons x xs ih => simp only [List.cons_append, nvB, ih, List.length_cons, Nat.pow_succ]; grind
theorem nvB_lt (h : Dg B xs) : nvB B xs < B ^ xs.length := by
  induction xs with
  | nil => simp [nvB]
  | cons x xs ih =>
    have hx := h 0
    have := ih h.tail
    simp only [gx, List.getD_cons_zero] at hx
    simp only [nvB, List.length_cons, Nat.pow_succ]
    have h2 : B * nvB B xs + B ≤ B ^ xs.length * B := by
      have : B * (nvB B xs + 1) ≤ B * B ^ xs.length := Nat.mul_le_mul_left _ this
      rw [Nat.mul_comm (B ^ xs.length)]; rw [Nat.mul_add] at this; omega
    omega
theorem nvB_take_succ {n : Nat} (hn : n < xs.length) : nvB B (xs.take (n + 1)) = nvB B (xs.take n) + B ^ n * (gx xs n).toNat := by
  rw [take_succ_gx hn, nvB_append, List.length_take, Nat.min_eq_left (by omega)]
  simp [nvB]
theorem nvB_split (n : Nat) (hn : n ≤ xs.length) : nvB B xs = nvB B (xs.take n) + B ^ n * nvB B (xs.drop n) := by
  have := nvB_append (B := B) (xs := xs.take n) (ys := xs.drop n)
  rw [List.take_append_drop, List.length_take, Nat.min_eq_left hn] at this
  exact this
theorem nvB_drop {n : Nat} (hn : n < xs.length) : nvB B (xs.drop n) = (gx xs n).toNat + B * nvB B (xs.drop (n + 1)) := by
  rw [drop_gx hn]; rfl
theorem nvB_zero (h : ∀ j, gx xs j = 0) : nvB B xs = 0 := by
  induction xs with
  | nil => rfl
  | cons x xs ih =>
    have h0 : x = 0 := h 0
    have := ih (fun j => h (j + 1))
    simp [nvB, h0, this]
theorem nvB_replicate (n : Nat) : nvB B (List.replicate n 0) = 0 := nvB_zero fun _ => gx_replicate
theorem nvB_set {i : Nat} {u : Int} (hi : i < xs.length) : nvB B (xs.set i u) + B ^ i * (gx xs i).toNat = nvB B xs + B ^ i * u.toNat := by
  have e : xs = xs.take i ++ gx xs i :: xs.drop (i + 1) := by rw [← drop_gx hi, List.take_append_drop]
  have e2 : xs.set i u = xs.take i ++ u :: xs.drop (i + 1) := List.set_eq_take_append_cons_drop.trans (by rw [if_pos hi])
  have l : (xs.take i).length = i := by rw [List.length_take]; omega
  have h1 : nvB B xs = nvB B (xs.take i) + B ^ i * ((gx xs i).toNat + B * nvB B (xs.drop (i + 1))) := by
    conv => lhs; rw [e]
    rw [nvB_append, l]; rfl
  have h2 : nvB B (xs.set i u) = nvB B (xs.take i) + B ^ i * (u.toNat + B * nvB B (xs.drop (i + 1))) := by
    rw [e2, nvB_append, l]; rfl
  rw [h1, h2]; grind

/-! ### Without zeros at the end -/
/-- How many digits are left when the zeros at the end are cut. -/
def IsTrim (xs : List Int) (n : Nat) : Prop := n ≤ xs.length ∧ (∀ j, n ≤ j → gx xs j = 0) ∧ (n = 0 ∨ gx xs (n - 1) ≠ 0)
/-- Digits of the base, none at the end that is 0. -/
def Nm (B : Nat) (xs : List Int) : Prop := Dg B xs ∧ (xs.length = 0 ∨ gx xs (xs.length - 1) ≠ 0)
theorem IsTrim.nv {n : Nat} (h : IsTrim xs n) : nvB B (xs.take n) = nvB B xs := by
  rw [nvB_split (B := B) n h.1 (xs := xs), nvB_zero (xs := xs.drop n) (fun j => by rw [gx_drop]; exact h.2.1 _ (by omega))]
  simp
theorem IsTrim.nm {n : Nat} (h : IsTrim xs n) (hd : Dg B xs) : Nm B (xs.take n) := by
  have hl : (xs.take n).length = n := by rw [List.length_take]; exact Nat.min_eq_left h.1
  refine ⟨hd.take n, ?_⟩
  rw [hl]
  rcases h.2.2 with h0 | h0
  · exact .inl h0
  · rcases Nat.eq_zero_or_pos n with hn | hn
    · exact .inl hn
    · exact .inr (by rwa [gx_take (by omega)])
theorem Nm.nil (hB : 0 < B) : Nm B [] := ⟨Dg.nil hB, .inl rfl⟩
theorem Nm.isTrim (h : Nm B xs) : IsTrim xs xs.length := ⟨Nat.le_refl _, fun j hj => gx_ge hj, h.2⟩
theorem IsTrim.unique {n m : Nat} (h : IsTrim xs n) (k : IsTrim xs m) : n = m := by
  rcases Nat.lt_trichotomy n m with hl | hl | hl
  · rcases k.2.2 with k0 | k0
    · omega
    · exact absurd (h.2.1 (m - 1) (by omega)) k0
  · exact hl
  · rcases h.2.2 with k0 | k0
    · omega
    · exact absurd (k.2.1 (n - 1) (by omega)) k0
theorem Nm.lower (h : Nm B xs) (hn : 0 < xs.length) : B ^ (xs.length - 1) ≤ nvB B xs := by
  have hs := nvB_split (B := B) (xs := xs) (xs.length - 1) (by omega)
  have hd := nvB_drop (B := B) (xs := xs) (n := xs.length - 1) (by omega)
  have hg := h.1 (xs.length - 1)
  have hne : gx xs (xs.length - 1) ≠ 0 := h.2.resolve_left (by omega)
  have h1 : 1 ≤ nvB B (xs.drop (xs.length - 1)) := by omega
  have := Nat.mul_le_mul_left (B ^ (xs.length - 1)) h1
  omega
theorem Nm.zero_iff (h : Nm B xs) : nvB B xs = 0 ↔ xs = [] := by
  constructor
  · intro h0
    rcases Nat.eq_zero_or_pos xs.length with hn | hn
    · exact List.eq_nil_of_length_eq_zero hn
    · have := h.lower hn
      have := Nat.pow_pos (n := xs.length - 1) h.1.pos
      omega
  · rintro rfl; rfl
theorem nvB_inj (h : Dg B xs) (k : Dg B ys) (hl : xs.length = ys.length) (e : nvB B xs = nvB B ys) : xs = ys := by
  induction xs generalizing ys with
  | nil => exact (List.eq_nil_of_length_eq_zero hl.symm).symm
  | cons x xs ih =>
    cases ys with
    | nil => simp at hl
    | cons y ys =>
      have hx : 0 ≤ x ∧ x < B := h 0
      have hy : 0 ≤ y ∧ y < B := k 0
      simp only [nvB] at e
      have e1 : x.toNat = y.toNat := by
        have := congrArg (· % B) e
        simpa [Nat.add_mul_mod_self_left, Nat.mod_eq_of_lt (show x.toNat < B by omega), Nat.mod_eq_of_lt (show y.toNat < B by omega)] using this
      have e2 : nvB B xs = nvB B ys := Nat.eq_of_mul_eq_mul_left h.pos (by omega : B * nvB B xs = B * nvB B ys)
      obtain rfl : x = y := by omega
      rw [ih h.tail k.tail (by simpa using hl) e2]
theorem Nm.len_le (h : Nm B xs) (k : Dg B ys) (hB : 1 < B) (e : nvB B xs ≤ nvB B ys) : xs.length ≤ ys.length := by
  rcases Nat.lt_or_ge ys.length xs.length with hl | hl
  · have h1 := h.lower (by omega)
    have h2 := nvB_lt k
    have h3 : B ^ ys.length ≤ B ^ (xs.length - 1) := Nat.pow_le_pow_right (by omega) (by omega)
    omega
  · exact hl
theorem Nm.inj (h : Nm B xs) (k : Nm B ys) (hB : 1 < B) (e : nvB B xs = nvB B ys) : xs = ys :=
  nvB_inj h.1 k.1 (Nat.le_antisymm (h.len_le k.1 hB (by omega)) (k.len_le h.1 hB (by omega))) e
theorem Nm.lt_of_len (h : Nm B ys) (k : Dg B xs) (hB : 1 < B) (hl : xs.length < ys.length) : nvB B xs < nvB B ys := by
  have h1 := h.lower (by omega)
  have h2 := nvB_lt k
  have h3 : B ^ xs.length ≤ B ^ (ys.length - 1) := Nat.pow_le_pow_right (by omega) (by omega)
  omega
/-- The top digits decide. -/
theorem nvB_lt_of_top {n : Nat} (h : Dg B xs) (hn : n < xs.length) (hm : n < ys.length) (he : xs.drop (n + 1) = ys.drop (n + 1)) (hd : gx xs n < gx ys n) (hp : 0 ≤ gx xs n) : nvB B xs < nvB B ys := by
  rw [nvB_split (B := B) (xs := xs) n (by omega), nvB_split (B := B) (xs := ys) n (by omega), nvB_drop hn, nvB_drop hm, he]
  have h1 := nvB_lt (h.take n)
  rw [List.length_take, Nat.min_eq_left (by omega)] at h1
  have h2 : (gx xs n).toNat + 1 ≤ (gx ys n).toNat := by omega
  have h3 := Nat.mul_le_mul_left (B ^ n) h2
  rw [Nat.mul_add, Nat.mul_add]
  rw [Nat.mul_add] at h3
  omega
end

/-! ### How many bits -/
def nbits (n : Nat) : Nat := if n = 0 then 0 else Nat.log2 n + 1
theorem nbits_lt (n : Nat) : n < 2 ^ nbits n := by
  unfold nbits
  split
  · subst n; simp
  · exact Nat.lt_log2_self
theorem nbits_ge {n : Nat} (h : n ≠ 0) : 2 ^ (nbits n - 1) ≤ n := by
  unfold nbits
  rw [if_neg h]
  exact Nat.log2_self_le h
theorem nbits_le_iff {n k : Nat} : nbits n ≤ k ↔ n < 2 ^ k := by
  constructor
  · intro h
    exact Nat.lt_of_lt_of_le (nbits_lt n) (Nat.pow_le_pow_right (by decide) h)
  · intro h
    rcases Nat.eq_zero_or_pos n with h0 | h0
    · simp [nbits, h0]
    · rcases Nat.lt_or_ge k (nbits n) with hk | hk
      · have h1 := nbits_ge (n := n) (by omega)
        have h2 : 2 ^ k ≤ 2 ^ (nbits n - 1) := Nat.pow_le_pow_right (by decide) (by omega)
        omega
      · exact hk
theorem nbits_unique {n k : Nat} (h : n < 2 ^ k) (h2 : k = 0 ∨ 2 ^ (k - 1) ≤ n) : nbits n = k := by
  apply Nat.le_antisymm (nbits_le_iff.2 h)
  rcases h2 with rfl | h2
  · omega
  · rcases Nat.lt_or_ge (nbits n) k with hk | hk
    · have := Nat.lt_of_lt_of_le (nbits_lt n) (Nat.pow_le_pow_right (by decide) (show nbits n ≤ k - 1 by omega) : 2 ^ nbits n ≤ 2 ^ (k - 1))
      omega
    · exact hk
theorem nbits_zero : nbits 0 = 0 := rfl
theorem nbits_eq_zero {n : Nat} : nbits n = 0 ↔ n = 0 := by
  constructor
  · intro h; have := nbits_lt n; rw [h] at this; omega
  · rintro rfl; rfl

end Go.Proofs.YthjcldkaodmfoaaGreat
