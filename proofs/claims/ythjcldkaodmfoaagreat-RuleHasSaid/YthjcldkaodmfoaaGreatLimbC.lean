/-
  What limb.FromBytes returns. Conditions: those that each theorem types.
-/
import Derived.Test.YthjcldkaodmfoaaGreatLimbB
namespace Go.Proofs.YthjcldkaodmfoaaGreat
open Go.RowKit

/-! ### limb.FromBytes -/
def FBPost (xs : List Int) (w : World) (e : Ending) (w' : World) : Prop := ∃ v1 ys, e = .returned v1 ∧ Nm W64 ys ∧ nvB W64 ys = bev xs ∧ ys.length ≤ (xs.length + 7) / 8 ∧ OwV w' w.heap.size 112 .u64 v1 ys ∧ Below w.heap.size w w'

theorem wraps_u64 (n : Int) (h0 : 0 ≤ n) (h1 : n < 2 ^ 64) : IntKind.u64.wrap n = n := IntWalk.u64_in n ⟨h0, by omega⟩
/-- A byte is put into a digit at a place below which all is 0. -/
theorem or_byte (x c : Int) (r : Nat) (hx0 : 0 ≤ x) (hx1 : x < W64) (hx : x.toNat % 256 ^ (r + 1) = 0) (hc0 : 0 ≤ c) (hc1 : c < 256) (hr : r < 8) :
    bits .or .u64 x (IntKind.u64.wrap (IntKind.u64.wrap c * 2 ^ (r * 8))) = x + c * 256 ^ r ∧ x + c * 256 ^ r < W64 := by
  obtain ⟨X, rfl⟩ := Int.eq_ofNat_of_zero_le hx0
  obtain ⟨C, rfl⟩ := Int.eq_ofNat_of_zero_le hc0
  have hC : C < 256 := by omega
  have e1 : ((2 : Int) ^ (r * 8)) = ((256 ^ r : Nat) : Int) := by rw [pow8, Nat.mul_comm 8 r]; exact (Int.natCast_pow 2 (r * 8)).symm
  have e2 : ((256 : Int) ^ r) = ((256 ^ r : Nat) : Int) := (Int.natCast_pow 256 r).symm
  have h1 : C * 256 ^ r < 256 ^ (r + 1) := by rw [Nat.pow_succ, Nat.mul_comm]; exact Nat.mul_lt_mul_of_pos_left hC (Nat.pow_pos (by decide))
  have h2 : 256 ^ (r + 1) ≤ 256 ^ 8 := Nat.pow_le_pow_right (by decide) (by omega)
  have h3 : (256 : Nat) ^ 8 = 18446744073709551616 := by decide
  have h4 : W64 = 18446744073709551616 := rfl
  have h5 : (2 : Int) ^ 64 = 18446744073709551616 := by decide
  simp only [Int.toNat_natCast] at hx
  have e3 : ((C : Int) * ((256 ^ r : Nat) : Int)) = ((C * 256 ^ r : Nat) : Int) := (Int.natCast_mul _ _).symm
  rw [wraps_u64 (C : Int) (by omega) (by omega), e1, e2, e3, wraps_u64 _ (by omega) (by omega)]
  have e4 : ((2 : Int) ^ (8 * (r + 1))) = ((256 ^ (r + 1) : Nat) : Int) := by rw [pow8]; exact (Int.natCast_pow 2 (8 * (r + 1))).symm
  refine ⟨bits_join .u64 64 (by decide) (fun n a b => wraps_u64 n a b) (8 * (r + 1)) _ _ (by omega) ?_ (by omega) (by omega) ?_ (by omega), ?_⟩
  · rw [e4]; omega
  · rw [e4]; omega
  · have hd : X / 256 ^ (r + 1) * 256 ^ (r + 1) = X := Nat.div_mul_cancel (Nat.dvd_of_mod_eq_zero hx)
    have hp : (256 : Nat) ^ 8 = 256 ^ (7 - r) * 256 ^ (r + 1) := by rw [← Nat.pow_add]; congr 1; omega
    have h6 : X / 256 ^ (r + 1) + 1 ≤ 256 ^ (7 - r) := (Nat.div_lt_iff_lt_mul (Nat.pow_pos (by decide))).2 (by rw [← hp]; omega)
    have h7 := Nat.mul_le_mul_right (256 ^ (r + 1)) h6
    rw [Nat.add_mul, hd, ← hp] at h7
    omega
/-- What FromBytes has after one byte more. -/
theorem fb_step {n k : Nat} {xs zs : List Int} (hd : Dg 256 xs) (hn : xs.length = n) (hk : k < n) (hl : zs.length = (n + 7) / 8) (hz : Dg W64 zs) (hv : nvB W64 zs = bev (xs.take k) * 256 ^ (n - k)) :
    bits .or .u64 (gx zs ((n - 1 - k) / 8)) (IntKind.u64.wrap (IntKind.u64.wrap (gx xs k) * 2 ^ ((n - 1 - k) % 8 * 8))) = gx zs ((n - 1 - k) / 8) + gx xs k * 256 ^ ((n - 1 - k) % 8) ∧
    Dg W64 (zs.set ((n - 1 - k) / 8) (gx zs ((n - 1 - k) / 8) + gx xs k * 256 ^ ((n - 1 - k) % 8))) ∧
    nvB W64 (zs.set ((n - 1 - k) / 8) (gx zs ((n - 1 - k) / 8) + gx xs k * 256 ^ ((n - 1 - k) % 8))) = bev (xs.take (k + 1)) * 256 ^ (n - (k + 1)) := by
  have hx := hd k
  have hg := hz ((n - 1 - k) / 8)
  have hr : (n - 1 - k) % 8 < 8 := Nat.mod_lt _ (by decide)
  have hdg : (gx zs ((n - 1 - k) / 8)).toNat % 256 ^ ((n - 1 - k) % 8 + 1) = 0 := by
    rw [digit_of hz, hv, W64_256, ← Nat.pow_mul]
    have e : n - k = 8 * ((n - 1 - k) / 8) + ((n - 1 - k) % 8 + 1) := by omega
    rw [e, Nat.pow_add, ← Nat.mul_assoc, Nat.mul_right_comm, Nat.mul_div_cancel _ (Nat.pow_pos (by decide))]
    have e2 : (256 : Nat) ^ 8 = 256 ^ ((n - 1 - k) % 8 + 1) * 256 ^ (7 - (n - 1 - k) % 8) := by rw [← Nat.pow_add]; congr 1; omega
    rw [e2, Nat.mod_mul_right_mod]
    exact Nat.mul_mod_left _ _
  have ho := or_byte _ _ _ hg.1 hg.2 hdg hx.1 (by omega) hr
  have hge : 0 ≤ gx xs k * 256 ^ ((n - 1 - k) % 8) := Int.mul_nonneg hx.1 (Int.pow_nonneg (by decide))
  refine ⟨ho.1, hz.set (by omega) ho.2, ?_⟩
  have hs := nvB_set (B := W64) (xs := zs) (i := (n - 1 - k) / 8) (u := gx zs ((n - 1 - k) / 8) + gx xs k * 256 ^ ((n - 1 - k) % 8)) (by omega)
  have e3 : (gx zs ((n - 1 - k) / 8) + gx xs k * 256 ^ ((n - 1 - k) % 8)).toNat = (gx zs ((n - 1 - k) / 8)).toNat + (gx xs k).toNat * 256 ^ ((n - 1 - k) % 8) := by
    rw [Int.toNat_add hg.1 hge, Int.toNat_mul hx.1 (Int.pow_nonneg (by decide)), Int.toNat_pow_of_nonneg (by decide)]; rfl
  rw [e3, Nat.mul_add] at hs
  have e4 : W64 ^ ((n - 1 - k) / 8) * ((gx xs k).toNat * 256 ^ ((n - 1 - k) % 8)) = (gx xs k).toNat * 256 ^ (n - (k + 1)) := by
    rw [W64_256, ← Nat.pow_mul, Nat.mul_left_comm, ← Nat.pow_add]; congr 2; omega
  rw [e4] at hs
  have e5 : bev (xs.take (k + 1)) * 256 ^ (n - (k + 1)) = bev (xs.take k) * 256 ^ (n - k) + (gx xs k).toNat * 256 ^ (n - (k + 1)) := by
    rw [bev_take_succ (by omega), Nat.add_mul, Nat.mul_assoc, ← Nat.pow_succ']; congr 3; omega
  rw [e5, ← hv]
  omega

set_option maxRecDepth 100000 in
theorem limb_FromBytes (v : Value) (xs : List Int) (w : World) (h : SlI w .u8 v xs) (hd : Dg 256 xs) (hl : xs.length ≤ 17592186044416) :
    Calls Tryz.prog 115 #[v] w (FBPost xs w) := by
  obtain ⟨A, c, rfl, h1, h2, h3, hr⟩ := h
  have hmk := @run_make_row' Tryz.prog 38 112 (.int .u64 0) 8 Tryz.underlying38 info_u64 rfl .i64 .i64 ((xs.length + 7) / 8) (by omega) (by omega)
  rw [show (((xs.length + 7) / 8 : Nat) : Int) = ((xs.length : Int) + 7) / 8 by omega] at hmk
  have HD := Ho.mk hd
  clear hd
  go_enter Tryz.func115, Tryz.ntmps115
  go_wp2
  go_loopw [14] (fun i wr => ∃ (k : Nat) (zs : List Int), k ≤ xs.length ∧ i = .int .i64 k ∧ Ho (zs.length = (xs.length + 7) / 8) ∧ OwI wr w.heap.size 112 .u64 w.heap.size ((xs.length + 7) / 8) zs ∧ Ho (Dg W64 zs ∧ nvB W64 zs = bev (xs.take k) * 256 ^ (xs.length - k)) ∧ Below w.heap.size w wr) (fun i _ => xs.length - (intOf i).toNat)
  case atStart => exact ⟨0, List.replicate _ 0, Nat.zero_le _, rfl, ⟨by simp⟩, OwI.make w _ _ _ _ (Nat.le_refl _) (by omega), ⟨Dg.replicate W64_pos _, by rw [nvB_replicate]; simp [bev]⟩, (Below.refl _ _).alloc (Nat.le_refl _) _⟩
  case round =>
    obtain ⟨k, zs, hk, rfl, hzl, hown, hz, hB⟩ := hrel
    by_cases hlt : k < xs.length
    · have hzl2 : (xs.length - 1 - k) / 8 < zs.length := by have := hzl.out; omega
      have hzl3 : (xs.length - 1 - k) / 8 < (xs.length + 7) / 8 := by omega
      have hcz := hown.cell hzl2
      have hfz := hown.frozen ((xs.length - 1 - k) / 8)
      obtain ⟨b, o, rfl, hcell⟩ := hr (by omega)
      have hcx := cell_below hB (hcell k hlt)
      clear hcell
      go_wp2
      go_region
      go_wp2
      go_roundw
      case rel =>
        have st := fb_step HD.out rfl hlt hzl.out hz.out.1 hz.out.2
        rw [st.1]
        exact ⟨k + 1, _, by omega, by go_num, ⟨by rw [List.length_set]; exact hzl.out⟩, hown.set _ _, ⟨st.2⟩, (hB.setCell (p := ⟨w.heap.size, (xs.length - 1 - k) / 8, none⟩) (Nat.le_refl _) _).drew⟩
      case measure => simp [intOf]; omega
    · have e : k = xs.length := by omega
      subst e
      have hle : zs.length = (xs.length + 7) / 8 := hzl.out
      go_wp2_with fail
      rw [← hle]
      refine (limb_trim_ow _ zs w.heap.size wr (by have := hown.val; rwa [← hle] at this)).mono ?_
      rintro e w1 ⟨v1, n, rfl, rfl, ht, ho⟩
      have HT := Ho.mk ht
      have HL := Ho.mk hle
      clear ht hle
      go_wp2
      go_ret
      refine ⟨v1, _, rfl, HT.out.nm hz.out.1, ?_, ?_, ho, hB⟩
      · rw [HT.out.nv, hz.out.2]; simp
      · have := HT.out.1; have := HL.out; simp; omega

end Go.Proofs.YthjcldkaodmfoaaGreat
