/-
  Laws on the node of a number. Conditions: those that each theorem types.
-/
import Derived.Test.YthjcldkaodmfoaaDerJ
namespace Go.Proofs.Ythjcldkaodmfoaa
open Go.RowKit

/-! ### A number's node: laws -/
theorem gx_zero (x : Int) (xs : List Int) : gx (x :: xs) 0 = x := rfl
theorem gx_succ (x : Int) (xs : List Int) (j : Nat) : gx (x :: xs) (j + 1) = gx xs j := rfl

theorem plain_int (N : Nat) : plainB 2 (beb (nbits N / 8 + 1) N) = true := by
  unfold plainB
  rw [if_pos rfl]
  refine decide_eq_true ?_
  have h1 := nbits_lt N
  have h2 := @nbits_ge N
  obtain ⟨k, hk⟩ : ∃ k, nbits N / 8 = k := ⟨_, rfl⟩
  obtain ⟨r, hr⟩ : ∃ r, nbits N % 8 = r := ⟨_, rfl⟩
  have hn : nbits N = 8 * k + r := by omega
  have hr8 : r < 8 := by omega
  have hz : N = 0 → nbits N = 0 := fun e => by rw [e]; rfl
  rw [hk, beb_length]
  have e0 := beb_at (n := k + 1) (N := N) (i := 0) (by omega)
  rw [show k + 1 - 1 - 0 = k by omega] at e0
  have hq : N / 256 ^ k < 2 ^ r := by
    refine (Nat.div_lt_iff_lt_mul (Nat.pow_pos (by decide))).2 ?_
    rw [pow8, ← Nat.pow_add, show r + 8 * k = nbits N by omega]
    exact h1
  have hr2 : 2 ^ r ≤ 2 ^ 7 := Nat.pow_le_pow_right (by decide) (by omega)
  have h128 : (2 : Nat) ^ 7 = 128 := by decide
  have hq2 : N / 256 ^ k % 256 = N / 256 ^ k := Nat.mod_eq_of_lt (by omega)
  rw [hq2] at e0
  refine ⟨by omega, by rw [e0]; omega, ?_⟩
  by_cases hN : N = 0
  · have := hz hN
    exact .inr (.inl (by omega))
  have h2 := h2 hN
  by_cases h0 : r = 0
  · rcases Nat.eq_zero_or_pos k with hk0 | hk0
    · exact .inr (.inl (by omega))
    · refine .inr (.inr ?_)
      have e1 := beb_at (n := k + 1) (N := N) (i := 1) (by omega)
      rw [show k + 1 - 1 - 1 = k - 1 by omega] at e1
      rw [e1]
      have a1 : 128 ≤ N / 256 ^ (k - 1) := by
        refine (Nat.le_div_iff_mul_le (Nat.pow_pos (by decide))).2 ?_
        rw [pow8, ← h128, ← Nat.pow_add, show 7 + 8 * (k - 1) = nbits N - 1 by omega]
        exact h2
      have a2 : N / 256 ^ (k - 1) < 256 := by
        refine (Nat.div_lt_iff_lt_mul (Nat.pow_pos (by decide))).2 ?_
        rw [pow8, show (256 : Nat) = 2 ^ 8 by decide, ← Nat.pow_add, show 8 + 8 * (k - 1) = nbits N by omega]
        exact h1
      rw [Nat.mod_eq_of_lt a2]
      omega
  · refine .inl ?_
    rw [e0]
    have a1 : 1 ≤ N / 256 ^ k := by
      refine (Nat.le_div_iff_mul_le (Nat.pow_pos (by decide))).2 ?_
      rw [Nat.one_mul, pow8]
      exact Nat.le_trans (Nat.pow_le_pow_right (by decide) (by omega)) h2
    omega
theorem leaf_ok (t : Int) (b : List Int) (ht : t ≠ 48) (h : plainB t b = true) : (Nd.mk t b []).ok = true := by
  unfold Nd.ok
  rw [Nd.may, if_neg (by omega), if_pos ht]
  simp [h]
theorem int_ok (N : Nat) : (intNd N).ok = true := leaf_ok _ _ (by decide) (plain_int N)
theorem hd3_enc (t : Int) (xs : List Int) (hl : xs.length < 16777216) : hd3 (t :: (hdr xs.length ++ xs)) = some (t, xs, []) := by
  obtain ⟨n, hn⟩ : ∃ n, xs.length = n := ⟨_, rfl⟩
  rw [hn] at hl ⊢
  unfold hdr
  split
  · rename_i h
    unfold hd3
    rw [if_neg (by simp)]
    simp only [List.singleton_append, gx_succ, gx_zero, List.drop_succ_cons, List.drop_zero]
    rw [if_pos (by omega), if_pos (by omega)]
    simp [← hn]
  · rename_i h
    obtain ⟨m, hm⟩ : ∃ m, (nbits n + 7) / 8 = m := ⟨_, rfl⟩
    rw [hm]
    have hb24 : nbits n ≤ 24 := nbits_le_iff.2 hl
    have hb8 : 8 ≤ nbits n := by
      refine Nat.le_of_not_lt fun hh => ?_
      have := nbits_le_iff.1 (show nbits n ≤ 7 by omega)
      have e : (2 : Nat) ^ 7 = 128 := by decide
      omega
    have hlt : n < 256 ^ m := lt_of_nbits (by omega)
    have hge : 256 ^ (m - 1) ≤ n := by
      rw [pow8]
      exact Nat.le_trans (Nat.pow_le_pow_right (by decide) (by omega)) (nbits_ge (by omega))
    have hg0 : gx (beb m n) 0 ≠ 0 := by
      rw [beb_at (by omega), show m - 1 - 0 = m - 1 by omega, Nat.mod_eq_of_lt]
      · have := (Nat.le_div_iff_mul_le (Nat.pow_pos (n := m - 1) (show 0 < 256 by decide))).2 (show 1 * 256 ^ (m - 1) ≤ n by omega)
        omega
      · refine (Nat.div_lt_iff_lt_mul (Nat.pow_pos (by decide))).2 ?_
        rw [← Nat.pow_add_one', show m - 1 + 1 = m by omega]
        exact hlt
    have hbv : bev (beb m n) = n := by rw [bev_beb, Nat.mod_eq_of_lt hlt]
    have hbl := beb_length m n
    have hm1 : 1 ≤ m ∧ m ≤ 3 := by omega
    clear hm hb24 hb8 hlt hge
    generalize beb m n = q at *
    unfold hd3
    rw [if_neg (by simp)]
    simp only [List.cons_append, gx_succ, gx_zero, List.drop_succ_cons, List.drop_zero]
    rw [if_neg (by omega), show ((128 + m : Nat) : Int) - 128 = m by omega, if_neg, Int.toNat_natCast, ← hbl, List.take_left, hbv, if_neg h, List.drop_left, if_pos (by omega)]
    · simp [← hn]
    · rw [List.length_append, gx_append_left (by omega)]
      omega

/-- What begun asks of its number. -/
theorem int_enc (N : Nat) : (intNd N).enc = 2 :: (hdr (nbits N / 8 + 1) ++ beb (nbits N / 8 + 1) N) := by
  unfold intNd
  rw [Nd.enc]
  simp [Nd.encs, beb_length]
theorem int_hd3 (N : Nat) (hN : nbits N ≤ 100000) : hd3 (intNd N).enc = some (2, beb (nbits N / 8 + 1) N, []) := by
  have := hd3_enc 2 (beb (nbits N / 8 + 1) N) (by rw [beb_length]; omega)
  rw [beb_length] at this
  rw [int_enc, this]
theorem int_len (N : Nat) (hN : nbits N ≤ 100000) : (intNd N).enc.length ≤ 65536 := by
  rw [int_enc, List.length_cons, List.length_append, hdr_length, beb_length]
  have : nbits (nbits N / 8 + 1) ≤ 24 := nbits_le_iff.2 (by have : (2 : Nat) ^ 24 = 16777216 := by decide
                                                            omega)
  split <;> omega
theorem int_dg (N : Nat) (hN : nbits N ≤ 100000) : Dg 256 (intNd N).enc := by
  rw [int_enc]
  refine Dg.cons (by decide) (by decide) (Dg.append ?_ (beb_dg _ _))
  unfold hdr
  have : nbits (nbits N / 8 + 1) ≤ 24 := nbits_le_iff.2 (by have : (2 : Nat) ^ 24 = 16777216 := by decide
                                                            omega)
  split
  · exact Dg.one (by omega) (by omega)
  · exact Dg.cons (by omega) (by omega) (beb_dg _ _)
theorem int_bev (N : Nat) : bev (beb (nbits N / 8 + 1) N) = N := by
  rw [bev_beb]
  exact Nat.mod_eq_of_lt (lt_of_nbits (by omega))

end Go.Proofs.Ythjcldkaodmfoaa
