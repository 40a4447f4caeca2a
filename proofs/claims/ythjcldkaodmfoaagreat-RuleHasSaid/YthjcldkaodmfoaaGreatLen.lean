/-
  What bits.Len64 returns. Conditions: those that each theorem types.
-/
import Derived.Test.YthjcldkaodmfoaaGreatNum
namespace Go.Proofs.YthjcldkaodmfoaaGreat
open Go.RowKit

/-- The table of math/bits: how many bits a byte has. -/
def len8 : ByteArray := ⟨#[0, 1, 2, 2, 3, 3, 3, 3, 4, 4, 4, 4, 4, 4, 4, 4, 5, 5, 5, 5, 5, 5, 5, 5, 5, 5, 5, 5, 5, 5, 5, 5, 6, 6, 6, 6, 6, 6, 6, 6, 6, 6, 6, 6, 6, 6, 6, 6, 6, 6, 6, 6, 6, 6, 6, 6, 6, 6, 6, 6, 6, 6, 6, 6, 7, 7, 7, 7, 7, 7, 7, 7, 7, 7, 7, 7, 7, 7, 7, 7, 7, 7, 7, 7, 7, 7, 7, 7, 7, 7, 7, 7, 7, 7, 7, 7, 7, 7, 7, 7, 7, 7, 7, 7, 7, 7, 7, 7, 7, 7, 7, 7, 7, 7, 7, 7, 7, 7, 7, 7, 7, 7, 7, 7, 7, 7, 7, 7, 8, 8, 8, 8, 8, 8, 8, 8, 8, 8, 8, 8, 8, 8, 8, 8, 8, 8, 8, 8, 8, 8, 8, 8, 8, 8, 8, 8, 8, 8, 8, 8, 8, 8, 8, 8, 8, 8, 8, 8, 8, 8, 8, 8, 8, 8, 8, 8, 8, 8, 8, 8, 8, 8, 8, 8, 8, 8, 8, 8, 8, 8, 8, 8, 8, 8, 8, 8, 8, 8, 8, 8, 8, 8, 8, 8, 8, 8, 8, 8, 8, 8, 8, 8, 8, 8, 8, 8, 8, 8, 8, 8, 8, 8, 8, 8, 8, 8, 8, 8, 8, 8, 8, 8, 8, 8, 8, 8, 8, 8, 8, 8, 8, 8, 8, 8, 8, 8, 8, 8, 8, 8, 8, 8, 8, 8, 8, 8]⟩
theorem len8_size : len8.size = 256 := by decide +kernel
theorem len8_all : ∀ y : Fin 256, (len8.data[y.1]?).map UInt8.toNat = some (nbits y.1) := by decide +kernel
theorem len8_at (y : Nat) (h : y < len8.size) : ((len8[y]'h).toNat : Int) = nbits y := by
  have h2 : y < 256 := by rw [len8_size] at h; exact h
  have := len8_all ⟨y, h2⟩
  have h3 : y < len8.data.size := h
  rw [Array.getElem?_eq_getElem h3] at this
  simp only [Option.map_some, Option.some.injEq] at this
  show ((len8.data[y]'h3).toNat : Int) = nbits y
  rw [this]
theorem nbits_shift {n k : Nat} (h : n / 2 ^ k ≠ 0) : nbits n = nbits (n / 2 ^ k) + k := by
  have h1 := nbits_lt (n / 2 ^ k)
  have h2 := nbits_ge h
  have h4 : nbits (n / 2 ^ k) ≠ 0 := fun e => h (nbits_eq_zero.1 e)
  refine nbits_unique ?_ (.inr ?_)
  · rw [Nat.pow_add]
    exact (Nat.div_lt_iff_lt_mul (Nat.two_pow_pos k)).1 h1
  · have : nbits (n / 2 ^ k) + k - 1 = (nbits (n / 2 ^ k) - 1) + k := by omega
    rw [this, Nat.pow_add]
    exact (Nat.le_div_iff_mul_le (Nat.two_pow_pos k)).1 h2
theorem ret_int {k : IntKind} {a b : Int} (h : a = b) : Ending.returned (.int k a) = .returned (.int k b) := by rw [h]
theorem len_sum (n : Int) (y : Int) (hn : 0 ≤ n ∧ n ≤ 56) (h0 : 0 ≤ y) (h1 : y < 256) (h : y.toNat < len8.size) (N : Nat) (e : N = nbits y.toNat + n.toNat) :
    wrap64 (n + wrap64 ((len8[y.toNat]'h).toNat : Int)) = (N : Int) := by
  rw [len8_at, e]
  have : nbits y.toNat ≤ 8 := nbits_le_iff.2 (by omega)
  unfold wrap64
  omega

set_option maxRecDepth 100000 in
theorem bits_Len64 (x : Int) (w : World) (h0 : 0 ≤ x) (h1 : x < 18446744073709551616) :
    Calls Tryz.prog 210 #[.int .u64 x] w fun e w' => e = .returned (.int .i64 (nbits x.toNat)) ∧ w = w' := by
  by_cases h2 : 4294967296 ≤ x
  · have q2 : decide (4294967296 ≤ x) = true := by simpa using h2
    by_cases h3 : 65536 ≤ x / 4294967296
    · have q3 : decide (65536 ≤ x / 4294967296) = true := by simpa using h3
      by_cases h4 : 256 ≤ x / 4294967296 / 65536
      · have q4 : decide (256 ≤ x / 4294967296 / 65536) = true := by simpa using h4
        go_enter Tryz.func210, Tryz.ntmps210
        go_wp2
        go_ret
        refine ⟨ret_int (len_sum 56 (x / 4294967296 / 65536 / 256) (by omega) (by omega) (by omega) _ _ ?_), rfl⟩
        have hk := nbits_shift (n := x.toNat) (k := 56) (by omega)
        have e : x.toNat / 2 ^ 56 = (x / 4294967296 / 65536 / 256).toNat := by omega
        rw [hk, e]; rfl
      · have q4 : decide (256 ≤ x / 4294967296 / 65536) = false := by simpa using h4
        go_enter Tryz.func210, Tryz.ntmps210
        go_wp2
        go_ret
        refine ⟨ret_int (len_sum 48 (x / 4294967296 / 65536) (by omega) (by omega) (by omega) _ _ ?_), rfl⟩
        have hk := nbits_shift (n := x.toNat) (k := 48) (by omega)
        have e : x.toNat / 2 ^ 48 = (x / 4294967296 / 65536).toNat := by omega
        rw [hk, e]; rfl
    · have q3 : decide (65536 ≤ x / 4294967296) = false := by simpa using h3
      by_cases h4 : 256 ≤ x / 4294967296
      · have q4 : decide (256 ≤ x / 4294967296) = true := by simpa using h4
        go_enter Tryz.func210, Tryz.ntmps210
        go_wp2
        go_ret
        refine ⟨ret_int (len_sum 40 (x / 4294967296 / 256) (by omega) (by omega) (by omega) _ _ ?_), rfl⟩
        have hk := nbits_shift (n := x.toNat) (k := 40) (by omega)
        have e : x.toNat / 2 ^ 40 = (x / 4294967296 / 256).toNat := by omega
        rw [hk, e]; rfl
      · have q4 : decide (256 ≤ x / 4294967296) = false := by simpa using h4
        go_enter Tryz.func210, Tryz.ntmps210
        go_wp2
        go_ret
        refine ⟨ret_int (len_sum 32 (x / 4294967296) (by omega) (by omega) (by omega) _ _ ?_), rfl⟩
        have hk := nbits_shift (n := x.toNat) (k := 32) (by omega)
        have e : x.toNat / 2 ^ 32 = (x / 4294967296).toNat := by omega
        rw [hk, e]; rfl
  · have q2 : decide (4294967296 ≤ x) = false := by simpa using h2
    by_cases h3 : 65536 ≤ x
    · have q3 : decide (65536 ≤ x) = true := by simpa using h3
      by_cases h4 : 256 ≤ x / 65536
      · have q4 : decide (256 ≤ x / 65536) = true := by simpa using h4
        go_enter Tryz.func210, Tryz.ntmps210
        go_wp2
        go_ret
        refine ⟨ret_int (len_sum 24 (x / 65536 / 256) (by omega) (by omega) (by omega) _ _ ?_), rfl⟩
        have hk := nbits_shift (n := x.toNat) (k := 24) (by omega)
        have e : x.toNat / 2 ^ 24 = (x / 65536 / 256).toNat := by omega
        rw [hk, e]; rfl
      · have q4 : decide (256 ≤ x / 65536) = false := by simpa using h4
        go_enter Tryz.func210, Tryz.ntmps210
        go_wp2
        go_ret
        refine ⟨ret_int (len_sum 16 (x / 65536) (by omega) (by omega) (by omega) _ _ ?_), rfl⟩
        have hk := nbits_shift (n := x.toNat) (k := 16) (by omega)
        have e : x.toNat / 2 ^ 16 = (x / 65536).toNat := by omega
        rw [hk, e]; rfl
    · have q3 : decide (65536 ≤ x) = false := by simpa using h3
      by_cases h4 : 256 ≤ x
      · have q4 : decide (256 ≤ x) = true := by simpa using h4
        go_enter Tryz.func210, Tryz.ntmps210
        go_wp2
        go_ret
        refine ⟨ret_int (len_sum 8 (x / 256) (by omega) (by omega) (by omega) _ _ ?_), rfl⟩
        have hk := nbits_shift (n := x.toNat) (k := 8) (by omega)
        have e : x.toNat / 2 ^ 8 = (x / 256).toNat := by omega
        rw [hk, e]; rfl
      · have q4 : decide (256 ≤ x) = false := by simpa using h4
        go_enter Tryz.func210, Tryz.ntmps210
        go_wp2
        go_ret
        refine ⟨ret_int ?_, rfl⟩
        have := len_sum 0 x (by omega) (by omega) (by omega) (by rw [len8_size]; omega) (nbits x.toNat) (by simp)
        rw [Int.zero_add] at this
        first | exact this | (simp only [wrap64] at this ⊢; exact this)
end Go.Proofs.YthjcldkaodmfoaaGreat
