/-
  The bases in use, digits, big-endian bytes. Conditions: those that each theorem types.
-/
import Derived.Test.YthjcldkaodmfoaaGreatNum
namespace Go.Proofs.YthjcldkaodmfoaaGreat

/-! ### Limbs and bytes -/
def W64 : Nat := 18446744073709551616
def B32 : Nat := 4294967296
theorem W64_pow : W64 = 2 ^ 64 := by decide
theorem W64_256 : W64 = 256 ^ 8 := by decide
theorem W64_pos : 0 < W64 := by decide
theorem W64_one : 1 < W64 := by decide
theorem W64_lit : W64 = 18446744073709551616 := rfl
theorem B32_lit : B32 = 4294967296 := rfl
theorem B32_pow : B32 = 2 ^ 32 := by decide
theorem B32_256 : B32 = 256 ^ 4 := by decide
theorem B32_pos : 0 < B32 := by decide
theorem B32_one : 1 < B32 := by decide

/-- A digit, out of the number. -/
theorem digit_of {B : Nat} {xs : List Int} (h : Dg B xs) (j : Nat) : (gx xs j).toNat = nvB B xs / B ^ j % B := by
  induction j generalizing xs with
  | zero =>
    cases xs with
    | nil => simp [nvB, gx]
    | cons x xs =>
      have := h 0
      simp only [gx, List.getD_cons_zero] at this
      simp only [nvB, gx, List.getD_cons_zero, Nat.pow_zero, Nat.div_one]
      rw [Nat.add_mul_mod_self_left, Nat.mod_eq_of_lt (by omega)]
  | succ j ih =>
    cases xs with
    | nil => simp [nvB, gx]
    | cons x xs =>
      have hx := h 0
      simp only [gx, List.getD_cons_zero] at hx
      have e : gx (x :: xs) (j + 1) = gx xs j := rfl
      rw [e, ih h.tail]
      simp only [nvB]
      rw [Nat.pow_succ, Nat.mul_comm (B ^ j), ← Nat.div_div_eq_div_mul, Nat.add_mul_div_left _ _ h.pos, Nat.div_eq_of_lt (show x.toNat < B by omega), Nat.zero_add]
/-- A byte of a number, out of its digit: B is 256^s. -/
theorem byte_of {B s : Nat} (hB : B = 256 ^ s) (hs : 0 < s) {xs : List Int} (h : Dg B xs) (k : Nat) : (gx xs (k / s)).toNat / 256 ^ (k % s) % 256 = nvB B xs / 256 ^ k % 256 := by
  rw [digit_of h, hB, ← Nat.pow_mul]
  have hk : 256 ^ k = 256 ^ (s * (k / s)) * 256 ^ (k % s) := by rw [← Nat.pow_add, Nat.div_add_mod]
  rw [hk, ← Nat.div_div_eq_div_mul]
  generalize nvB (256 ^ s) xs / 256 ^ (s * (k / s)) = X
  have hr : k % s < s := Nat.mod_lt _ hs
  have h1 : (256 : Nat) ^ s = 256 ^ (k % s) * (256 * 256 ^ (s - k % s - 1)) := by
    rw [← Nat.pow_succ', ← Nat.pow_add]; congr 1; omega
  rw [h1, Nat.mod_mul_right_div_self, Nat.mod_mul_right_mod]

/-- The number of bytes, the highest first. -/
def bev : List Int → Nat
  | [] => 0
  | x :: xs => x.toNat * 256 ^ xs.length + bev xs
theorem bev_append (xs ys : List Int) : bev (xs ++ ys) = bev xs * 256 ^ ys.length + bev ys := by
  induction xs with
  | nil => simp [bev]
  | cons x xs ih => simp only [List.cons_append, bev, ih, List.length_append, Nat.pow_add]; grind
theorem bev_lt {xs : List Int} (h : Dg 256 xs) : bev xs < 256 ^ xs.length := by
  induction xs with
  | nil => simp [bev]
  | cons x xs ih =>
    have hx := h 0
    simp only [gx, List.getD_cons_zero] at hx
    have := ih h.tail
    simp only [bev, List.length_cons, Nat.pow_succ]
    have h2 : x.toNat * 256 ^ xs.length ≤ 255 * 256 ^ xs.length := Nat.mul_le_mul_right _ (by omega)
    omega
theorem bev_take_succ {xs : List Int} {n : Nat} (hn : n < xs.length) : bev (xs.take (n + 1)) = bev (xs.take n) * 256 + (gx xs n).toNat := by
  rw [take_succ_gx hn, bev_append]; simp [bev]
/-- The n bytes of a number, the highest first. -/
def beb (n N : Nat) : List Int := (List.range n).map fun i => ((N / 256 ^ (n - 1 - i) % 256 : Nat) : Int)
theorem beb_length (n N : Nat) : (beb n N).length = n := by simp [beb]
theorem beb_at {n N i : Nat} (h : i < n) : gx (beb n N) i = ((N / 256 ^ (n - 1 - i) % 256 : Nat) : Int) := by
  simp [gx, beb, List.getD_eq_getElem?_getD, h]
theorem beb_dg (n N : Nat) : Dg 256 (beb n N) := fun j => by
  rcases Nat.lt_or_ge j n with h | h
  · rw [beb_at h]; have := Nat.mod_lt (N / 256 ^ (n - 1 - j)) (show 0 < 256 by decide); omega
  · rw [gx_ge (by rw [beb_length]; exact h)]; omega
theorem beb_succ (n N : Nat) : beb (n + 1) N = ((N / 256 ^ n % 256 : Nat) : Int) :: beb n N := by
  refine ext_gx (by simp [beb_length]) fun j hj => ?_
  rw [beb_length] at hj
  rw [beb_at hj]
  cases j with
  | zero => simp [gx]
  | succ j =>
    have : gx (((N / 256 ^ n % 256 : Nat) : Int) :: beb n N) (j + 1) = gx (beb n N) j := rfl
    rw [this, beb_at (by omega), show n + 1 - 1 - (j + 1) = n - 1 - j by omega]
theorem bev_beb (n N : Nat) : bev (beb n N) = N % 256 ^ n := by
  induction n with
  | zero => simp [beb, bev, Nat.mod_one]
  | succ n ih =>
    rw [beb_succ, bev, ih, beb_length, Int.toNat_natCast, Nat.pow_succ, Nat.mod_mul, Nat.mul_comm (256 ^ n) (N / 256 ^ n % 256)]
    omega
theorem beb_bev {xs : List Int} (h : Dg 256 xs) : beb xs.length (bev xs) = xs := by
  induction xs with
  | nil => rfl
  | cons x xs ih =>
    have hx := h 0
    simp only [gx, List.getD_cons_zero] at hx
    have hl := bev_lt h.tail
    have e1 : bev (x :: xs) / 256 ^ xs.length % 256 = x.toNat := by
      simp only [bev]
      rw [Nat.add_comm, Nat.add_mul_div_right _ _ (Nat.pow_pos (by decide)), Nat.div_eq_of_lt hl, Nat.zero_add, Nat.mod_eq_of_lt (by omega)]
    have e2 : beb xs.length (bev (x :: xs)) = beb xs.length (bev xs) := by
      refine ext_gx (by simp [beb_length]) fun j hj => ?_
      rw [beb_length] at hj
      rw [beb_at hj, beb_at hj]
      congr 1
      have hp : (256 : Nat) ^ xs.length = 256 ^ (xs.length - 1 - j) * (256 * 256 ^ j) := by
        rw [← Nat.pow_succ', ← Nat.pow_add]; congr 1; omega
      simp only [bev]
      rw [hp, Nat.mul_left_comm, Nat.mul_add_div (Nat.pow_pos (by decide)), Nat.mul_left_comm, Nat.mul_add_mod]
    rw [List.length_cons, beb_succ, e1, e2, ih h.tail]
    congr 1; omega

/-- The bits of a number out of its top digit. -/
theorem nbits_top {s : Nat} {xs : List Int} (h : Nm (2 ^ s) xs) (hn : 0 < xs.length) : nbits (nvB (2 ^ s) xs) = s * (xs.length - 1) + nbits (gx xs (xs.length - 1)).toNat := by
  have hs := nvB_split (B := 2 ^ s) (xs := xs) (xs.length - 1) (by omega)
  have hd := nvB_drop (B := 2 ^ s) (xs := xs) (n := xs.length - 1) (by omega)
  rw [List.drop_eq_nil_of_le (show xs.length ≤ xs.length - 1 + 1 by omega)] at hd
  simp only [nvB, Nat.mul_zero, Nat.add_zero] at hd
  have hne : gx xs (xs.length - 1) ≠ 0 := h.2.resolve_left (by omega)
  have hg := h.1 (xs.length - 1)
  have hl := nvB_lt (h.1.take (xs.length - 1))
  rw [List.length_take, Nat.min_eq_left (by omega), ← Nat.pow_mul] at hl
  rw [hd, ← Nat.pow_mul] at hs
  have e : nvB (2 ^ s) xs / 2 ^ (s * (xs.length - 1)) = (gx xs (xs.length - 1)).toNat := by
    rw [hs, Nat.add_mul_div_left _ _ (Nat.two_pow_pos _), Nat.div_eq_of_lt hl, Nat.zero_add]
  have hq : nbits (nvB (2 ^ s) xs / 2 ^ (s * (xs.length - 1))) ≠ 0 := fun q => by
    rw [e, nbits_eq_zero] at q; omega
  have h1 := nbits_lt (nvB (2 ^ s) xs / 2 ^ (s * (xs.length - 1)))
  have h2 := nbits_ge (n := nvB (2 ^ s) xs / 2 ^ (s * (xs.length - 1))) (by rw [e]; omega)
  rw [← e]
  refine nbits_unique ?_ (.inr ?_)
  · rw [Nat.add_comm, Nat.pow_add]
    exact (Nat.div_lt_iff_lt_mul (Nat.two_pow_pos _)).1 h1
  · have : s * (xs.length - 1) + nbits (nvB (2 ^ s) xs / 2 ^ (s * (xs.length - 1))) - 1 = (nbits (nvB (2 ^ s) xs / 2 ^ (s * (xs.length - 1))) - 1) + s * (xs.length - 1) := by omega
    rw [this, Nat.pow_add]
    exact (Nat.le_div_iff_mul_le (Nat.two_pow_pos _)).1 h2
theorem pow8 (n : Nat) : (256 : Nat) ^ n = 2 ^ (8 * n) := by rw [Nat.pow_mul]
theorem lt_of_nbits {N n : Nat} (h : nbits N ≤ 8 * n) : N < 256 ^ n := by rw [pow8]; exact nbits_le_iff.1 h

end Go.Proofs.YthjcldkaodmfoaaGreat
