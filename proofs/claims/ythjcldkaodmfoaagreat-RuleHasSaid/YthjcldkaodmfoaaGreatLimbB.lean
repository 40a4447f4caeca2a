/-
  What limb.Bytes returns. Conditions: those that each theorem types.
-/
import Derived.Test.YthjcldkaodmfoaaGreatLimbA
namespace Go.Proofs.YthjcldkaodmfoaaGreat
open Go.RowKit

/-! ### limb.Bytes -/
def BytesPost (N : Nat) (n : Int) (w : World) (e : Ending) (w' : World) : Prop := Below w.heap.size w w' ∧
      ((n < 0 ∨ 65536 < n ∨ 8 * n < nbits N) ∧ e = .returned (.tuple #[.slice none 0 0, .bool false]) ∨
       (0 ≤ n ∧ n ≤ 65536 ∧ N < 256 ^ n.toNat) ∧ ∃ v1, e = .returned (.tuple #[v1, .bool true]) ∧ OwV w' w.heap.size 5 .u8 v1 (beb n.toNat N))
theorem u8_mod (x : Int) : IntKind.u8.wrap x = x % 256 := IntKind.wrap_u8 x
theorem byte_shr (x : Int) (r : Nat) (h0 : 0 ≤ x) : (x / 2 ^ (r * 8)) % 256 = ((x.toNat / 256 ^ r % 256 : Nat) : Int) := by
  obtain ⟨X, rfl⟩ := Int.eq_ofNat_of_zero_le h0
  rw [pow8, Nat.mul_comm 8 r, Int.toNat_natCast, Int.natCast_emod, Int.natCast_ediv, Int.natCast_pow]
  rfl
/-- One byte more has been written. -/
theorem beb_step {m N i : Nat} {zs : List Int} {u : Int} (hl : zs.length = m) (hi : i < m) (hz : ∀ j, j < i → gx zs j = gx (beb m N) j) (hu : u = ((N / 256 ^ (m - 1 - i) % 256 : Nat) : Int)) :
    ∀ j, j < i + 1 → gx (zs.set i u) j = gx (beb m N) j := fun j hj => by
  rw [gx_set (by omega)]
  split
  · rename_i e; subst e; rw [hu, beb_at hi]
  · exact hz j (by omega)
theorem beb_zero {N k s : Nat} {xs : List Int} {B : Nat} (hB : B = 256 ^ s) (hs : 0 < s) (h : Dg B xs) (hN : nvB B xs = N) (hk : xs.length ≤ k / s) : N / 256 ^ k % 256 = 0 := by
  rw [← hN, ← byte_of hB hs h, gx_ge hk]; simp

/-- limb.Bytes: the bytes, the highest first, if the number fits. -/
theorem limb_Bytes (v : Value) (xs : List Int) (n : Int) (w : World) (h : SlI w .u64 v xs) (hd : Dg W64 xs) (hl : xs.length ≤ 17592186044416) :
    Calls Tryz.prog 93 #[v, .int .i64 n] w (BytesPost (nvB W64 xs) n w) := by
  by_cases hn0 : n < 0
  · have q : decide (n < 0) = true := by simpa using hn0
    go_enter Tryz.func93, Tryz.ntmps93
    go_wp2
    go_ret2
    exact ⟨Below.refl _ _, .inl ⟨.inl hn0, rfl⟩⟩
  have q : decide (n < 0) = false := by simpa using hn0
  by_cases hn1 : 65536 < n
  · have q1 : decide (65536 < n) = true := by simpa using hn1
    go_enter Tryz.func93, Tryz.ntmps93
    go_wp2
    go_ret2
    exact ⟨Below.refl _ _, .inl ⟨.inr (.inl hn1), rfl⟩⟩
  have q1 : decide (65536 < n) = false := by simpa using hn1
  obtain ⟨N, HN⟩ : ∃ N, Ho (nvB W64 xs = N) := ⟨_, ⟨rfl⟩⟩
  have hc := limb_Bits v xs w h hd hl
  rw [HN.out] at hc ⊢
  by_cases hn2 : 8 * n < nbits N
  · have q2 : decide (8 * n < (nbits N : Int)) = true := by simpa using hn2
    have HD := Ho.mk hd
    clear hd
    go_enter Tryz.func93, Tryz.ntmps93
    go_wp2_with fail
    refine hc.mono ?_
    rintro e w1 ⟨rfl, rfl⟩
    go_wp2
    go_ret2
    exact ⟨Below.refl _ _, .inl ⟨.inr (.inr hn2), rfl⟩⟩
  have q2 : decide (8 * n < (nbits N : Int)) = false := by simpa using hn2
  obtain ⟨m, rfl⟩ := Int.eq_ofNat_of_zero_le (show 0 ≤ n by omega)
  have HNL : Ho (N < 256 ^ m) := ⟨lt_of_nbits (by omega)⟩
  have hm : m ≤ 65536 := by omega
  have hmk := @run_make_row' Tryz.prog 22 5 (.int .u8 0) 1 Tryz.underlying22 info_u8 rfl .i64 .i64 m (by omega) (by omega)
  have HD := Ho.mk hd
  clear hd hn0 hn1 hn2
  go_enter Tryz.func93, Tryz.ntmps93
  go_wp2_with fail
  refine hc.mono ?_
  rintro e w1 ⟨rfl, rfl⟩
  go_wp2
  obtain ⟨A, c, rfl, h1, h2, h3, hr⟩ := h
  go_loopw [26] (fun i wr => ∃ (k : Nat) (zs : List Int), k ≤ m ∧ i = .int .i64 k ∧ Ho (zs.length = m) ∧ OwI wr w.heap.size 5 .u8 w.heap.size m zs ∧ Ho (∀ j, j < k → gx zs j = gx (beb m N) j) ∧ Ho (∀ j, k ≤ j → gx zs j = 0) ∧ Below w.heap.size w wr) (fun i _ => m - (intOf i).toNat)
  case atStart => exact ⟨0, List.replicate m 0, Nat.zero_le _, rfl, ⟨by simp⟩, OwI.make w _ _ _ _ (Nat.le_refl _) (by omega), ⟨fun j hj => absurd hj (by omega)⟩, ⟨fun j _ => gx_replicate⟩, (Below.refl _ _).alloc (Nat.le_refl _) _⟩
  case round =>
    obtain ⟨k, zs, hk, rfl, hzl, hown, hz, hz0, hB⟩ := hrel
    by_cases hlt : k < m
    · have hzl2 : k < zs.length := by have := hzl.out; omega
      have hcz := hown.cell hzl2
      have hfz := hown.frozen k
      by_cases hin : (m - 1 - k) / 8 < xs.length
      · obtain ⟨b, o, rfl, hcell⟩ := hr (by omega)
        have hcx := cell_below hB (hcell ((m - 1 - k) / 8) hin)
        clear hcell
        go_wp2
        go_roundw
        case rel =>
          have hx := HD.out ((m - 1 - k) / 8)
          refine ⟨k + 1, _, by omega, by go_num, ⟨by rw [List.length_set]; exact hzl.out⟩, hown.set k _, ⟨?_⟩, ⟨?_⟩, hB.setCell (p := ⟨w.heap.size, k, none⟩) (Nat.le_refl _) _⟩
          · refine beb_step hzl.out hlt hz.out ?_
            rw [byte_shr _ _ hx.1, byte_of W64_256 (by decide) HD.out, HN.out]
          · intro j hj
            rw [gx_set hzl2, if_neg (by omega)]
            exact hz0.out j (by omega)
        case measure => simp [intOf]; omega
      · go_wp2
        go_roundw
        case rel =>
          refine ⟨k + 1, zs, by omega, by go_num, hzl, hown, ⟨fun j hj => ?_⟩, ⟨fun j hj => hz0.out j (by omega)⟩, hB⟩
          by_cases e : j = k
          · subst e
            rw [hz0.out j (Nat.le_refl _), beb_at hlt, beb_zero W64_256 (by decide) HD.out HN.out (by omega)]
            rfl
          · exact hz.out j (by omega)
        case measure => simp [intOf]; omega
    · go_wp2
      go_ret2
      have e : k = m := by omega
      subst e
      refine ⟨hB, .inr ⟨⟨by omega, by omega, HNL.out⟩, _, rfl, ?_⟩⟩
      have hl := hzl.out
      have : zs = beb k N := ext_gx (by rw [hl, beb_length]) (fun j hj => hz.out j (by omega))
      subst this
      have := hown.val
      rwa [hl] at this

end Go.Proofs.YthjcldkaodmfoaaGreat
