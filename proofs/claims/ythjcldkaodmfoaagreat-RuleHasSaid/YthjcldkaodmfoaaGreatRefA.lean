/-
  What baileyref1.trim, From and Of return. Conditions: those that each theorem types.
-/
import Derived.Test.YthjcldkaodmfoaaGreatLimbC
namespace Go.Proofs.YthjcldkaodmfoaaGreat
open Go.RowKit

/-- A number of the reference's comes back, in normal form. -/
def RPost (N : Nat) (w : World) (e : Ending) (w' : World) : Prop := ∃ v1 ys, e = .returned v1 ∧ Nm B32 ys ∧ nvB B32 ys = N ∧ SlI w' .u64 v1 ys ∧ Below w.heap.size w w'

/-! ### baileyref1.trim -/
theorem ref1_trim (A : Option Addr) (xs : List Int) (c : Nat) (w : World) (h : RdI w .u64 A xs) (hc : xs.length ≤ c) (hl : c ≤ 9223372036854775807) :
    Calls Tryz.prog 86 #[.slice A xs.length c] w fun e w' => ∃ n, e = .returned (.slice A n n) ∧ w = w' ∧ IsTrim xs n := by
  go_enter Tryz.func86, Tryz.ntmps86
  go_wp2
  go_loop [3] (fun v => ∃ n : Nat, n ≤ xs.length ∧ v = .int .i64 n ∧ Ho (∀ j, n ≤ j → gx xs j = 0)) (fun v => (intOf v).toNat)
  case atStart => exact ⟨xs.length, Nat.le_refl _, rfl, ⟨fun j hj => gx_ge hj⟩⟩
  case round =>
    obtain ⟨n, hn, rfl, hz⟩ := hrel
    by_cases h0 : n = 0
    · subst h0
      cases A <;>
      · go_wp2
        go_ret
        exact ⟨0, rfl, rfl, hn, hz.out, .inl rfl⟩
    · obtain ⟨b, o, rfl, hcell⟩ := h (by omega)
      have hcell1 := hcell (n - 1) (by omega)
      by_cases hv : gx xs (n - 1) = 0
      · have hb : (gx xs (n - 1) == 0) = true := by simp [hv]
        have HV := Ho.mk hv
        clear hv
        go_wp2
        go_round
        case rel => exact ⟨n - 1, by omega, by go_num, ⟨fun j hj => if e : j = n - 1 then e ▸ HV.out else hz.out j (by omega)⟩⟩
        case measure => simp [intOf]; omega
      · have hb : (gx xs (n - 1) == 0) = false := by simp [hv]
        have HV := Ho.mk hv
        clear hv
        go_wp2
        go_ret
        exact ⟨n, rfl, rfl, hn, hz.out, .inr HV.out⟩

theorem ref1_trim_sl (v : Value) (xs : List Int) (w : World) (h : SlI w .u64 v xs) :
    Calls Tryz.prog 86 #[v] w fun e w' => ∃ v1 n, e = .returned v1 ∧ w = w' ∧ IsTrim xs n ∧ SlI w .u64 v1 (xs.take n) := by
  obtain ⟨A, c, rfl, h1, h2, h3, hr⟩ := h
  refine (ref1_trim A xs c w hr h1 h2).mono ?_
  rintro e w' ⟨n, rfl, rfl, ht⟩
  have hl : (xs.take n).length = n := by rw [List.length_take]; exact Nat.min_eq_left ht.1
  exact ⟨_, n, rfl, rfl, ht, A, n, by rw [hl], by rw [hl]; exact Nat.le_refl _, by have := ht.1; omega, fun e => by have := h3 e; have := ht.1; omega, hr.take n⟩
theorem ref1_trim_nm (v : Value) (xs : List Int) (w : World) (h : SlI w .u64 v xs) (hd : Dg B32 xs) :
    Calls Tryz.prog 86 #[v] w (RPost (nvB B32 xs) w) :=
  (ref1_trim_sl v xs w h).mono fun e w' ⟨v1, n, he, hw, ht, hs⟩ => ⟨v1, _, he, ht.nm hd, ht.nv, hw ▸ hs, hw ▸ Below.refl _ _⟩

/-! ### baileyref1.From, Of -/
theorem W64_B32 : W64 = B32 * B32 := by decide
theorem dm32 (g : Int) (h0 : 0 ≤ g) : g.toNat = (g % 4294967296).toNat + B32 * (g / 4294967296).toNat := by
  have : B32 = 4294967296 := rfl
  rw [this]; omega
theorem pow_dm {B W : Nat} (hW : W = B * B) (k : Nat) (a b c : Nat) (h : a = b + B * c) : W ^ k * a = B ^ (2 * k) * b + B ^ (2 * k + 1) * c := by
  rw [hW, Nat.mul_pow, ← Nat.pow_add, ← Nat.two_mul, Nat.pow_succ, Nat.mul_assoc (B ^ (2 * k)), ← Nat.mul_add, h]
theorem lt32 (g : Int) (h0 : 0 ≤ g) (h : g < W64) : 0 ≤ g % 4294967296 ∧ g % 4294967296 < B32 ∧ 0 ≤ g / 4294967296 ∧ g / 4294967296 < B32 := by
  have hW : (W64 : Int) = 18446744073709551616 := by decide
  have hB : (B32 : Int) = 4294967296 := by decide
  omega
theorem le_W64 {g : Int} (h : g < W64) : g ≤ 18446744073709551615 := by
  have hW : (W64 : Int) = 18446744073709551616 := by decide
  omega
theorem from_gen {B W : Nat} (hW : W = B * B) {k : Nat} {xs zs : List Int} (u1 u2 : Int) (hb : 0 ≤ u1 ∧ u1 < B ∧ 0 ≤ u2 ∧ u2 < B) (hu : (gx xs k).toNat = u1.toNat + B * u2.toNat) (hk : k < xs.length) (hl : zs.length = 2 * xs.length) (hz : Dg B zs) (hv : nvB B zs = nvB W (xs.take k)) (h0 : ∀ j, 2 * k ≤ j → gx zs j = 0) :
    Dg B ((zs.set (2 * k) u1).set (2 * k + 1) u2) ∧
    nvB B ((zs.set (2 * k) u1).set (2 * k + 1) u2) = nvB W (xs.take (k + 1)) ∧
    (∀ j, 2 * (k + 1) ≤ j → gx ((zs.set (2 * k) u1).set (2 * k + 1) u2) j = 0) := by
  have h1 := nvB_set (B := B) (xs := zs) (i := 2 * k) (u := u1) (by omega)
  have h2 := nvB_set (B := B) (xs := zs.set (2 * k) u1) (i := 2 * k + 1) (u := u2) (by rw [List.length_set]; omega)
  rw [h0 _ (by omega)] at h1
  rw [gx_set (by omega), if_neg (by omega), h0 _ (by omega)] at h2
  refine ⟨(hz.set hb.1 hb.2.1).set hb.2.2.1 hb.2.2.2, ?_, fun j hj => ?_⟩
  · rw [nvB_take_succ hk, ← hv]
    have e := pow_dm hW k _ _ _ hu
    simp only [Int.toNat_zero, Nat.mul_zero, Nat.add_zero] at h1 h2
    omega
  · rw [gx_set (by rw [List.length_set]; omega), if_neg (by omega), gx_set (by omega), if_neg (by omega)]
    exact h0 j (by omega)
theorem from_step {k : Nat} {xs zs : List Int} (hx : Dg W64 xs) (hk : k < xs.length) (hl : zs.length = 2 * xs.length) (hz : Dg B32 zs) (hv : nvB B32 zs = nvB W64 (xs.take k)) (h0 : ∀ j, 2 * k ≤ j → gx zs j = 0) :
    Dg B32 ((zs.set (2 * k) (gx xs k % 4294967296)).set (2 * k + 1) (gx xs k / 4294967296)) ∧
    nvB B32 ((zs.set (2 * k) (gx xs k % 4294967296)).set (2 * k + 1) (gx xs k / 4294967296)) = nvB W64 (xs.take (k + 1)) ∧
    (∀ j, 2 * (k + 1) ≤ j → gx ((zs.set (2 * k) (gx xs k % 4294967296)).set (2 * k + 1) (gx xs k / 4294967296)) j = 0) :=
  from_gen W64_B32 _ _ (lt32 _ (hx k).1 (hx k).2) (dm32 _ (hx k).1) hk hl hz hv h0

set_option maxRecDepth 100000 in
theorem ref1_From (v : Value) (xs : List Int) (w : World) (h : SlI w .u64 v xs) (hd : Dg W64 xs) (hl : xs.length ≤ 1099511627776) :
    Calls Tryz.prog 28 #[v] w (RPost (nvB W64 xs) w) := by
  obtain ⟨A, c, rfl, h1, h2, h3, hr⟩ := h
  have hmk := @run_make_row' Tryz.prog 40 112 (.int .u64 0) 8 Tryz.underlying40 info_u64 rfl .i64 .i64 (2 * xs.length) (by omega) (by omega)
  rw [show ((2 * xs.length : Nat) : Int) = 2 * (xs.length : Int) by omega] at hmk
  have HD := Ho.mk hd
  clear hd
  go_enter Tryz.func28, Tryz.ntmps28
  go_wp2
  go_loopw [4] (fun i wr => ∃ (k : Nat) (zs : List Int), k ≤ xs.length ∧ i = .int .i64 k ∧ Ho (zs.length = 2 * xs.length) ∧ OwI wr w.heap.size 112 .u64 w.heap.size (2 * xs.length) zs ∧ Ho (Dg B32 zs ∧ nvB B32 zs = nvB W64 (xs.take k) ∧ ∀ j, 2 * k ≤ j → gx zs j = 0) ∧ Below w.heap.size w wr) (fun i _ => xs.length - (intOf i).toNat)
  case atStart => exact ⟨0, List.replicate _ 0, Nat.zero_le _, rfl, ⟨by simp⟩, OwI.make w _ _ _ _ (Nat.le_refl _) (by omega), ⟨Dg.replicate B32_pos _, by rw [nvB_replicate]; simp [nvB], fun j _ => gx_replicate⟩, (Below.refl _ _).alloc (Nat.le_refl _) _⟩
  case round =>
    obtain ⟨k, zs, hk, rfl, hzl, hown, hz, hB⟩ := hrel
    by_cases hlt : k < xs.length
    · have hzl2 : 2 * k < zs.length := by have := hzl.out; omega
      have hzl3 : 2 * k + 1 < zs.length := by have := hzl.out; omega
      have hzb : 2 * k + 1 < 2 * xs.length := by omega
      have hcz := hown.cell hzl2
      have hfz := hown.frozen (2 * k)
      have hown2 := hown.set (2 * k) (gx xs k % 4294967296)
      have hcz2 := hown2.cell (j := 2 * k + 1) (by rw [List.length_set]; exact hzl3)
      have hfz2 := hown2.frozen (2 * k + 1)
      obtain ⟨b, o, rfl, hcell⟩ := hr (by omega)
      have hcx := cell_below hB (hcell k hlt)
      have hcx2 : (wr.setCell ⟨w.heap.size, 2 * k, none⟩ (.int .u64 (gx xs k % 4294967296))).cell? ⟨b, o + k, none⟩ = some (.int .u64 (gx xs k)) := by
        have hlt2 : b < w.heap.size := RdI.lt hr (by omega)
        rw [cell_below (hB.setCell (p := ⟨w.heap.size, 2 * k, none⟩) (Nat.le_refl _) _) (hcell k hlt)]
      have hgx := (HD.out k).1
      have hgx2 := le_W64 (HD.out k).2
      clear hcell
      go_wp2
      go_roundw
      case rel =>
        have st := from_step HD.out hlt hzl.out hz.out.1 hz.out.2.1 hz.out.2.2
        exact ⟨k + 1, _, by omega, by go_num, ⟨by rw [List.length_set, List.length_set]; exact hzl.out⟩, hown2.set _ _, ⟨st⟩, (hB.setCell (p := ⟨w.heap.size, 2 * k, none⟩) (Nat.le_refl _) _).setCell (p := ⟨w.heap.size, 2 * k + 1, none⟩) (Nat.le_refl _) _⟩
      case measure => simp [intOf]; omega
    · have e : k = xs.length := by omega
      subst e
      have hle : zs.length = 2 * xs.length := hzl.out
      go_wp2_with fail
      rw [← hle]
      refine (ref1_trim_nm _ zs wr (by have := hown.val.sl; rwa [← hle] at this) hz.out.1).mono ?_
      rintro e w1 ⟨v1, ys, rfl, hn, hv, hs, hb⟩
      have HN := Ho.mk hn
      have HV := Ho.mk hv
      clear hn hv hle
      go_wp2
      go_ret
      refine ⟨v1, ys, rfl, HN.out, ?_, hs, below_base hB hB.size hb⟩
      rw [HV.out, hz.out.2.1]; simp

theorem ref1_Of (x : Int) (w : World) (h0 : 0 ≤ x) (h1 : x < W64) :
    Calls Tryz.prog 128 #[.int .u64 x] w (RPost x.toNat w) := by
  have H1 := Ho.mk h1
  clear h1
  go_enter Tryz.func128, Tryz.ntmps128
  go_wp2_with fail
  have hs : SlI (w.alloc (.cells #[.int .u64 x] 112)) .u64 (.slice (some ⟨w.heap.size, 0, none⟩) 1 1) [x] :=
    SlI.mk (xs := [x]) (by simp) (by omega) (fun e => by simp at e) (fun _ => ⟨_, 0, rfl, fun j hj => by
      obtain rfl : j = 0 := by simpa using hj
      simp [gx]⟩)
  refine (ref1_From _ [x] _ hs (Dg.one h0 H1.out) (by simp)).mono ?_
  rintro e w1 ⟨v1, ys, rfl, hn, hv, ho, hb⟩
  have HN := Ho.mk hn
  have HV := Ho.mk hv
  clear hn hv
  go_wp2
  go_ret
  refine ⟨v1, ys, rfl, HN.out, ?_, ho, ((Below.refl _ _).alloc (Nat.le_refl _) _).trans (hb.mono (by simp))⟩
  rw [HV.out]; simp [nvB]

end Go.Proofs.YthjcldkaodmfoaaGreat
