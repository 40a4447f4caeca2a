/-
  What baileyref1.Sub returns. Conditions: those that each theorem types.
-/
import Derived.Test.YthjcldkaodmfoaaRefD
namespace Go.Proofs.Ythjcldkaodmfoaa
open Go.RowKit

/-! ### baileyref1.Sub -/
theorem sub_step {B : Nat} {ms ns zs : List Int} {i : Nat} {c c' : Nat} (u : Int) (hu : u + c + gx ns i = gx ms i + B * c') (hu0 : 0 ≤ u) (hu1 : u < B) (ha : Dg B ms) (hb : Dg B ns) (hz : Dg B zs) (hl : zs.length = ms.length) (hi : i < ms.length)
    (h0 : ∀ j, i ≤ j → gx zs j = 0) (hv : nvB B zs + nvB B (ns.take i) = nvB B (ms.take i) + c * B ^ i) :
    Dg B (zs.set i u) ∧ (∀ j, i + 1 ≤ j → gx (zs.set i u) j = 0) ∧
    nvB B (zs.set i u) + nvB B (ns.take (i + 1)) + c * B ^ i = nvB B (ms.take (i + 1)) + c' * B ^ (i + 1) + c * B ^ i := by
  have ga := ha i
  have gb := hb i
  have hs := nvB_set (B := B) (xs := zs) (i := i) (u := u) (by omega)
  rw [h0 i (Nat.le_refl _)] at hs
  simp only [Int.toNat_zero, Nat.mul_zero, Nat.add_zero] at hs
  have ta : nvB B (ms.take (i + 1)) = nvB B (ms.take i) + B ^ i * (gx ms i).toNat := nvB_take_succ hi
  have tb : nvB B (ns.take (i + 1)) = nvB B (ns.take i) + B ^ i * (gx ns i).toNat := by
    rcases Nat.lt_or_ge i ns.length with hlt | hge
    · exact nvB_take_succ hlt
    · rw [List.take_of_length_le (by omega), List.take_of_length_le (by omega), gx_ge hge]; simp
  refine ⟨hz.set hu0 hu1, fun j hj => ?_, ?_⟩
  · rw [gx_set (by omega), if_neg (by omega)]
    exact h0 j (by omega)
  · have hn : u.toNat + c + (gx ns i).toNat = (gx ms i).toNat + B * c' := by
      have : ((B * c' : Nat) : Int) = B * c' := by push_cast; rfl
      omega
    rw [hs, ta, tb, Nat.pow_succ]
    have e : B ^ i * (u.toNat + c + (gx ns i).toNat) = B ^ i * ((gx ms i).toNat + B * c') := by rw [hn]
    generalize (gx ns i).toNat = y at *
    generalize (gx ms i).toNat = x at *
    generalize u.toNat = v at *
    have e2 : B ^ i * v + c * B ^ i + B ^ i * y = B ^ i * x + c' * (B ^ i * B) := by grind
    omega
theorem sub_step' {ms ns zs : List Int} {i : Nat} {c c' : Nat} (u : Int) (hu : u + c + gx ns i = gx ms i + 4294967296 * c') (hu0 : 0 ≤ u) (hu1 : u < 4294967296) (ha : Dg B32 ms) (hb : Dg B32 ns) (hz : Dg B32 zs) (hl : zs.length = ms.length) (hi : i < ms.length)
    (h0 : ∀ j, i ≤ j → gx zs j = 0) (hv : nvB B32 zs + nvB B32 (ns.take i) = nvB B32 (ms.take i) + c * B32 ^ i) :
    Dg B32 (zs.set i u) ∧ (∀ j, i + 1 ≤ j → gx (zs.set i u) j = 0) ∧
    nvB B32 (zs.set i u) + nvB B32 (ns.take (i + 1)) = nvB B32 (ms.take (i + 1)) + c' * B32 ^ (i + 1) := by
  have hB : (B32 : Int) = 4294967296 := by decide
  have := sub_step (B := B32) (c := c) (c' := c') u (by rw [hB]; exact hu) hu0 (by rw [hB]; exact hu1) ha hb hz hl hi h0 hv
  exact ⟨this.1, this.2.1, Nat.add_right_cancel this.2.2⟩

set_option maxRecDepth 100000 in
set_option maxHeartbeats 1000000 in
theorem ref1_Sub (u v : Value) (ms ns : List Int) (w : World) (h : SlI w .u64 u ms) (h' : SlI w .u64 v ns) (hm : Nm B32 ms) (hn : Nm B32 ns) (hle : nvB B32 ns ≤ nvB B32 ms) (hl : ms.length ≤ 1099511627776) :
    Calls Try.prog 8 #[u, v] w (RPost (nvB B32 ms - nvB B32 ns) w) := by
  obtain ⟨A, c, rfl, h1, h2, h3, hr⟩ := h
  obtain ⟨A', c1, rfl, h1', h2', h3', hr'⟩ := h'
  have hlen := hn.len_le hm.1 B32_one hle
  have HM := Ho.mk hm.1
  have HN := Ho.mk hn.1
  have HL := Ho.mk hle
  clear hm hn hle
  have hmk := @run_make_row' Try.prog 24 26 (.int .u64 0) 8 Try.underlying24 info_u64 rfl .i64 .i64 ms.length (by omega) (by omega)
  go_enter Try.func8, Try.ntmps8
  go_wp2
  go_loopw [6, 7] (fun cv i wr => ∃ (c k : Nat) (zs : List Int), k ≤ ms.length ∧ c ≤ 1 ∧ cv = .int .u64 c ∧ i = .int .i64 k ∧ Ho (zs.length = ms.length) ∧ OwI wr w.heap.size 26 .u64 w.heap.size ms.length zs ∧ Ho (Dg B32 zs ∧ (∀ j, k ≤ j → gx zs j = 0) ∧ nvB B32 zs + nvB B32 (ns.take k) = nvB B32 (ms.take k) + c * B32 ^ k) ∧ Below w.heap.size w wr) (fun _ i _ => ms.length - (intOf i).toNat)
  case atStart => exact ⟨0, 0, List.replicate _ 0, Nat.zero_le _, Nat.zero_le _, rfl, rfl, ⟨by simp⟩, OwI.make w _ _ _ _ (Nat.le_refl _) (by omega), ⟨Dg.replicate B32_pos _, fun j _ => gx_replicate, by rw [nvB_replicate]; simp [nvB]⟩, (Below.refl _ _).alloc (Nat.le_refl _) _⟩
  case round =>
    obtain ⟨c, k, zs, hk, hc, rfl, rfl, hzl, hown, hz, hB⟩ := hrel
    by_cases hlt : k < ms.length
    · have hzl2 : k < zs.length := by have := hzl.out; omega
      have hcz := hown.cell hzl2
      have hfz := hown.frozen k
      obtain ⟨b, o, rfl, hcell⟩ := hr (by omega)
      have hcx := cell_below hB (hcell k hlt)
      have hga := (HM.out k).1
      have hga2 : gx ms k < 4294967296 := (HM.out k).2
      clear hcell
      by_cases hN : k < ns.length
      · obtain ⟨b', o', rfl, hcell'⟩ := hr' (by omega)
        have hcx' := cell_below hB (hcell' k hN)
        have hgb := (HN.out k).1
        have hgb2 : gx ns k < 4294967296 := (HN.out k).2
        clear hcell'
        by_cases hq : gx ms k < (c : Int) + gx ns k
        · go_wp2
          go_roundw
          case rel =>
            obtain ⟨e3, e4, e5⟩ := sub_step' (c := c) (c' := 1) (gx ms k + 4294967296 - ((c : Int) + gx ns k)) (by omega) (by omega) (by omega) HM.out HN.out hz.out.1 hzl.out hlt hz.out.2.1 hz.out.2.2
            exact ⟨1, k + 1, _, by omega, Nat.le_refl _, rfl, by go_num, ⟨by rw [List.length_set]; exact hzl.out⟩, hown.set _ _, ⟨e3, e4, e5⟩, hB.setCell (p := ⟨w.heap.size, k, none⟩) (Nat.le_refl _) _⟩
          case measure => simp [intOf]; omega
        · go_wp2
          go_roundw
          case rel =>
            obtain ⟨e3, e4, e5⟩ := sub_step' (c := c) (c' := 0) (gx ms k - ((c : Int) + gx ns k)) (by omega) (by omega) (by omega) HM.out HN.out hz.out.1 hzl.out hlt hz.out.2.1 hz.out.2.2
            exact ⟨0, k + 1, _, by omega, Nat.zero_le _, rfl, by go_num, ⟨by rw [List.length_set]; exact hzl.out⟩, hown.set _ _, ⟨e3, e4, e5⟩, hB.setCell (p := ⟨w.heap.size, k, none⟩) (Nat.le_refl _) _⟩
          case measure => simp [intOf]; omega
      · have HGB : Ho (gx ns k = 0) := ⟨gx_ge (by omega)⟩
        by_cases hq : gx ms k < (c : Int)
        · go_wp2
          go_roundw
          case rel =>
            obtain ⟨e3, e4, e5⟩ := sub_step' (c := c) (c' := 1) (gx ms k + 4294967296 - ((c : Int))) (by have := HGB.out; omega) (by omega) (by omega) HM.out HN.out hz.out.1 hzl.out hlt hz.out.2.1 hz.out.2.2
            exact ⟨1, k + 1, _, by omega, Nat.le_refl _, rfl, by go_num, ⟨by rw [List.length_set]; exact hzl.out⟩, hown.set _ _, ⟨e3, e4, e5⟩, hB.setCell (p := ⟨w.heap.size, k, none⟩) (Nat.le_refl _) _⟩
          case measure => simp [intOf]; omega
        · go_wp2
          go_roundw
          case rel =>
            obtain ⟨e3, e4, e5⟩ := sub_step' (c := c) (c' := 0) (gx ms k - ((c : Int))) (by have := HGB.out; omega) (by omega) (by omega) HM.out HN.out hz.out.1 hzl.out hlt hz.out.2.1 hz.out.2.2
            exact ⟨0, k + 1, _, by omega, Nat.zero_le _, rfl, by go_num, ⟨by rw [List.length_set]; exact hzl.out⟩, hown.set _ _, ⟨e3, e4, e5⟩, hB.setCell (p := ⟨w.heap.size, k, none⟩) (Nat.le_refl _) _⟩
          case measure => simp [intOf]; omega
    · have e : k = ms.length := by omega
      subst e
      have hle : zs.length = ms.length := hzl.out
      have HV : Ho (nvB B32 zs = nvB B32 ms - nvB B32 ns) := ⟨by
        have hlt := nvB_lt hz.out.1
        rw [hle] at hlt
        have e := hz.out.2.2
        rw [List.take_of_length_le hlen, List.take_of_length_le (Nat.le_refl _)] at e
        have hl := HL.out
        rcases Nat.le_one_iff_eq_zero_or_eq_one.1 hc with rfl | rfl
        · omega
        · exfalso
          omega⟩
      go_wp2_with fail
      rw [← hle]
      refine (ref1_trim_nm _ zs wr (by have := hown.val.sl; rwa [← hle] at this) hz.out.1).mono ?_
      rintro e w1 ⟨v1, ys, rfl, hn, hv, hs, hb⟩
      have HN := Ho.mk hn
      have HV2 := Ho.mk hv
      clear hn hv hle
      go_wp2
      go_ret
      exact ⟨v1, ys, rfl, HN.out, by rw [HV2.out, HV.out], hs, below_base hB hB.size hb⟩

end Go.Proofs.Ythjcldkaodmfoaa
