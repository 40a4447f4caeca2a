/-
  What baileyref1.Bits and Add return. Conditions: those that each theorem types.
-/
import Derived.Test.YthjcldkaodmfoaaRefC
import Derived.Test.YthjcldkaodmfoaaDerB
namespace Go.Proofs.Ythjcldkaodmfoaa
open Go.RowKit

/-! ### baileyref1.Bits -/
theorem nbits_half {t : Nat} (h : 0 < t) : nbits t = nbits (t / 2) + 1 := by
  have h1 := nbits_lt t
  have h2 := nbits_ge (n := t) (by omega)
  have h3 : nbits t ≠ 0 := fun e => by rw [nbits_eq_zero] at e; omega
  obtain ⟨k, hk⟩ : ∃ k, nbits t = k + 1 := ⟨nbits t - 1, by omega⟩
  rw [hk] at h1 h2 ⊢
  rw [Nat.pow_succ] at h1
  congr 1
  symm
  refine nbits_unique (by omega) ?_
  rcases Nat.eq_zero_or_pos k with h0 | h0
  · exact .inl h0
  · refine .inr ?_
    obtain ⟨j, rfl⟩ : ∃ j, k = j + 1 := ⟨k - 1, by omega⟩
    simp only [Nat.add_sub_cancel] at h2 ⊢
    rw [Nat.pow_succ] at h2
    omega

set_option maxRecDepth 100000 in
theorem ref1_Bits (v : Value) (xs : List Int) (w : World) (h : SlI w .u64 v xs) (hn : Nm B32 xs) (hl : xs.length ≤ 1099511627776) :
    Calls Try.prog 16 #[v] w fun e w' => e = .returned (.int .i64 (nbits (nvB B32 xs))) ∧ w = w' := by
  obtain ⟨A, c, rfl, h1, h2, h3, hr⟩ := h
  have HN := Ho.mk hn
  clear hn
  by_cases h0 : xs.length = 0
  · have q : ((xs.length : Int) == 0) = true := beq_iff_eq.2 (by omega)
    have hx : xs = [] := List.eq_nil_of_length_eq_zero h0
    have HX := Ho.mk hx
    clear hx h0
    go_enter Try.func16, Try.ntmps16
    go_wp2
    go_ret
    exact ⟨by rw [HX.out]; rfl, rfl⟩
  · have q : ((xs.length : Int) == 0) = false := beq_eq_false_iff_ne.2 (by omega)
    obtain ⟨b, o, rfl, hcell⟩ := hr (by omega)
    have hc := hcell (xs.length - 1) (by omega)
    have hd := HN.out.1 (xs.length - 1)
    obtain ⟨t0, ht0⟩ := Int.eq_ofNat_of_zero_le hd.1
    rw [ht0] at hc hd
    have ht1 : t0 < 4294967296 := by have : (B32 : Int) = 4294967296 := by decide
                                     omega
    have HT := Ho.mk ht0
    have hnb : nbits t0 ≤ 32 := nbits_le_iff.2 (by have : (2 : Nat) ^ 32 = 4294967296 := by decide
                                                   omega)
    clear hcell hd ht0
    go_enter Try.func16, Try.ntmps16
    go_wp2
    go_loop [4, 5] (fun kv tv => ∃ (k t : Nat), kv = .int .i64 k ∧ tv = .int .u64 t ∧ t < 4294967296 ∧ k ≤ 32 ∧ Ho (nbits t + k = nbits t0)) (fun _ tv => (intOf tv).toNat)
    case atStart => exact ⟨0, t0, rfl, rfl, ht1, by omega, ⟨rfl⟩⟩
    case round =>
      obtain ⟨k, t, rfl, rfl, ht, hk, hz⟩ := hrel
      by_cases hp : 0 < t
      · have q1 : decide (0 < (t : Int)) = true := dect (by omega)
        have HH := Ho.mk (nbits_half hp)
        go_wp2
        go_round
        case rel => exact ⟨k + 1, t / 2, by go_num, by go_num, by omega, by have := hz.out; have := HH.out; omega, ⟨by have := hz.out; have := HH.out; omega⟩⟩
        case measure => simp [intOf]; omega
      · have ht00 : t = 0 := by omega
        subst ht00
        have hk2 : k = nbits t0 := by have := hz.out; rw [nbits_zero] at this; omega
        have HK := Ho.mk hk2
        clear hk2
        go_wp2
        go_ret
        refine ⟨ret_int ?_, rfl⟩
        rw [B32_pow, nbits_top (s := 32) (by rw [← B32_pow]; exact HN.out) (by omega), HT.out, HK.out]
        simp only [Int.toNat_natCast]
        omega

/-! ### baileyref1.Add -/
theorem add_step {B : Nat} {ms ns zs : List Int} {i n : Nat} {c : Nat} (ha : Dg B ms) (hb : Dg B ns) (hz : Dg B zs) (hl : zs.length = n + 1) (hi : i ≤ n) (hB : 1 < B)
    (hna : ms.length ≤ n) (hnb : ns.length ≤ n) (h0 : ∀ j, i ≤ j → gx zs j = 0) (hv : nvB B zs + c * B ^ i = nvB B (ms.take i) + nvB B (ns.take i)) (hc : c ≤ 1) :
    Dg B (zs.set i (((c + (gx ms i).toNat + (gx ns i).toNat) % B : Nat) : Int)) ∧
    (c + (gx ms i).toNat + (gx ns i).toNat) / B ≤ 1 ∧
    nvB B (zs.set i (((c + (gx ms i).toNat + (gx ns i).toNat) % B : Nat) : Int)) + (c + (gx ms i).toNat + (gx ns i).toNat) / B * B ^ (i + 1) = nvB B (ms.take (i + 1)) + nvB B (ns.take (i + 1)) := by
  have ga := ha i
  have gb := hb i
  have hBp : 0 < B := by omega
  have hs := nvB_set (B := B) (xs := zs) (i := i) (u := (((c + (gx ms i).toNat + (gx ns i).toNat) % B : Nat) : Int)) (by omega)
  rw [h0 i (Nat.le_refl _)] at hs
  simp only [Int.toNat_zero, Nat.mul_zero, Nat.add_zero, Int.toNat_natCast] at hs
  have ta : nvB B (ms.take (i + 1)) = nvB B (ms.take i) + B ^ i * (gx ms i).toNat := by
    rcases Nat.lt_or_ge i ms.length with hlt | hge
    · exact nvB_take_succ hlt
    · rw [List.take_of_length_le (by omega), List.take_of_length_le (by omega), gx_ge hge]; simp
  have tb : nvB B (ns.take (i + 1)) = nvB B (ns.take i) + B ^ i * (gx ns i).toNat := by
    rcases Nat.lt_or_ge i ns.length with hlt | hge
    · exact nvB_take_succ hlt
    · rw [List.take_of_length_le (by omega), List.take_of_length_le (by omega), gx_ge hge]; simp
  have hx : (gx ms i).toNat < B := by omega
  have hy : (gx ns i).toNat < B := by omega
  generalize (gx ms i).toNat = x at *
  generalize (gx ns i).toNat = y at *
  have hm : (c + x + y) % B < B := Nat.mod_lt _ hBp
  have hdm := Nat.div_add_mod (c + x + y) B
  refine ⟨hz.set (Int.natCast_nonneg _) (Int.ofNat_lt.2 hm), ?_, ?_⟩
  · refine Nat.le_of_lt_succ ((Nat.div_lt_iff_lt_mul hBp).2 ?_)
    omega
  · rw [hs, ta, tb]
    have e : B ^ i * ((c + x + y) % B) + (c + x + y) / B * B ^ (i + 1) = B ^ i * (c + x + y) := by
      rw [Nat.pow_succ]
      conv => rhs; rw [← hdm]
      grind
    have e2 : B ^ i * (c + x + y) = c * B ^ i + B ^ i * x + B ^ i * y := by grind
    omega

theorem add_step' {ms ns zs : List Int} {i n : Nat} {c : Nat} (u : Int) (hu : u = c + gx ms i + gx ns i) (ha : Dg B32 ms) (hb : Dg B32 ns) (hz : Dg B32 zs) (hl : zs.length = n + 1) (hi : i ≤ n)
    (hna : ms.length ≤ n) (hnb : ns.length ≤ n) (h0 : ∀ j, i ≤ j → gx zs j = 0) (hv : nvB B32 zs + c * B32 ^ i = nvB B32 (ms.take i) + nvB B32 (ns.take i)) (hc : c ≤ 1) :
    ∃ c' : Nat, u / 4294967296 = c' ∧ c' ≤ 1 ∧ Dg B32 (zs.set i (u % 4294967296)) ∧ (∀ j, i + 1 ≤ j → gx (zs.set i (u % 4294967296)) j = 0) ∧
    nvB B32 (zs.set i (u % 4294967296)) + c' * B32 ^ (i + 1) = nvB B32 (ms.take (i + 1)) + nvB B32 (ns.take (i + 1)) := by
  have hs := add_step ha hb hz hl hi B32_one hna hnb h0 hv hc
  have ga := (ha i).1
  have gb := (hb i).1
  have hB : (B32 : Int) = 4294967296 := by decide
  have e1 : u = ((c + (gx ms i).toNat + (gx ns i).toNat : Nat) : Int) := by omega
  have e2 : u % 4294967296 = (((c + (gx ms i).toNat + (gx ns i).toNat) % B32 : Nat) : Int) := by rw [Int.natCast_emod, hB, ← e1]
  have e3 : u / 4294967296 = (((c + (gx ms i).toNat + (gx ns i).toNat) / B32 : Nat) : Int) := by rw [Int.natCast_ediv, hB, ← e1]
  rw [e2]
  refine ⟨_, e3, hs.2.1, hs.1, fun j hj => ?_, hs.2.2⟩
  rw [gx_set (by omega), if_neg (by omega)]
  exact h0 j (by omega)

set_option maxRecDepth 100000 in
set_option maxHeartbeats 1000000 in
theorem ref1_Add (u v : Value) (ms ns : List Int) (w : World) (h : SlI w .u64 u ms) (h' : SlI w .u64 v ns) (hm : Nm B32 ms) (hn : Nm B32 ns) (hl : ms.length ≤ 1099511627776) (hl' : ns.length ≤ 1099511627776) :
    Calls Try.prog 9 #[u, v] w (RPost (nvB B32 ms + nvB B32 ns) w) := by
  obtain ⟨A, c, rfl, h1, h2, h3, hr⟩ := h
  obtain ⟨A', c1, rfl, h1', h2', h3', hr'⟩ := h'
  have HM := Ho.mk hm.1
  have HN := Ho.mk hn.1
  clear hm hn
  obtain ⟨n, hn1, hna, hnb, hnl⟩ : ∃ n, (if ms.length < ns.length then ns.length else ms.length) = n ∧ ms.length ≤ n ∧ ns.length ≤ n ∧ n ≤ 1099511627776 := ⟨_, rfl, by split <;> omega, by split <;> omega, by split <;> omega⟩
  have hmk := @run_make_row' Try.prog 24 26 (.int .u64 0) 8 Try.underlying24 info_u64 rfl .i64 .i64 (n + 1) (by omega) (by omega)
  rw [show ((n + 1 : Nat) : Int) = (n : Int) + 1 by omega] at hmk
  have Hn1 := Ho.mk hn1
  clear hn1
  go_enter Try.func9, Try.ntmps9
  go_upto_if 14 with fail
  go_cut [5] (fun n' wc => n' = .int .i64 n ∧ wc = w)
  case first =>
    by_cases hq : ms.length < ns.length
    · have e : n = ns.length := by rw [← Hn1.out, if_pos hq]
      have HE := Ho.mk e
      clear e
      go_wp2
      go_meet
      case rel => exact ⟨by rw [HE.out], rfl⟩
    · have e : n = ms.length := by rw [← Hn1.out, if_neg hq]
      have HE := Ho.mk e
      clear e
      go_wp2
      go_meet
      case rel => exact ⟨by rw [HE.out], rfl⟩
  case rest =>
  obtain ⟨rfl, rfl⟩ := hcut
  go_wp2
  go_loopw [7, 8] (fun cv i wr => ∃ (c k : Nat) (zs : List Int), k ≤ n + 1 ∧ c ≤ 1 ∧ cv = .int .u64 c ∧ i = .int .i64 k ∧ Ho (zs.length = n + 1) ∧ OwI wr wc.heap.size 26 .u64 wc.heap.size (n + 1) zs ∧ Ho (Dg B32 zs ∧ (∀ j, k ≤ j → gx zs j = 0) ∧ nvB B32 zs + c * B32 ^ k = nvB B32 (ms.take k) + nvB B32 (ns.take k)) ∧ Below wc.heap.size wc wr) (fun _ i _ => n + 1 - (intOf i).toNat)
  case atStart => exact ⟨0, 0, List.replicate _ 0, Nat.zero_le _, Nat.zero_le _, rfl, rfl, ⟨by simp⟩, OwI.make wc _ _ _ _ (Nat.le_refl _) (by omega), ⟨Dg.replicate B32_pos _, fun j _ => gx_replicate, by rw [nvB_replicate]; simp [nvB]⟩, (Below.refl _ _).alloc (Nat.le_refl _) _⟩
  case round =>
    obtain ⟨c, k, zs, hk, hc, rfl, rfl, hzl, hown, hz, hB⟩ := hrel
    by_cases hlt : k ≤ n
    · have hzl2 : k < zs.length := by have := hzl.out; omega
      have hcz := hown.cell hzl2
      have hfz := hown.frozen k
      by_cases hA : k < ms.length <;> by_cases hN : k < ns.length
      · obtain ⟨b, o, rfl, hcell⟩ := hr (by omega)
        have hcx := cell_below hB (hcell k hA)
        have hga := (HM.out k).1
        have hga2 : gx ms k < 4294967296 := (HM.out k).2
        clear hcell
        obtain ⟨b', o', rfl, hcell'⟩ := hr' (by omega)
        have hcx' := cell_below hB (hcell' k hN)
        have hgb := (HN.out k).1
        have hgb2 : gx ns k < 4294967296 := (HN.out k).2
        clear hcell'
        go_wp2
        go_roundw
        case rel =>
          obtain ⟨c', e1, e2, e3, e4, e5⟩ := add_step' ((c : Int) + gx ms k + gx ns k) (rfl) HM.out HN.out hz.out.1 hzl.out hlt hna hnb hz.out.2.1 hz.out.2.2 hc
          exact ⟨c', k + 1, _, by omega, e2, congrArg (Value.int .u64) e1, by go_num, ⟨by rw [List.length_set]; exact hzl.out⟩, hown.set _ _, ⟨e3, e4, e5⟩, hB.setCell (p := ⟨wc.heap.size, k, none⟩) (Nat.le_refl _) _⟩
        case measure => simp [intOf]; omega
      · obtain ⟨b, o, rfl, hcell⟩ := hr (by omega)
        have hcx := cell_below hB (hcell k hA)
        have hga := (HM.out k).1
        have hga2 : gx ms k < 4294967296 := (HM.out k).2
        clear hcell
        have HGB : Ho (gx ns k = 0) := ⟨gx_ge (by omega)⟩
        go_wp2
        go_roundw
        case rel =>
          obtain ⟨c', e1, e2, e3, e4, e5⟩ := add_step' ((c : Int) + gx ms k) (by rw [HGB.out]; omega) HM.out HN.out hz.out.1 hzl.out hlt hna hnb hz.out.2.1 hz.out.2.2 hc
          exact ⟨c', k + 1, _, by omega, e2, congrArg (Value.int .u64) e1, by go_num, ⟨by rw [List.length_set]; exact hzl.out⟩, hown.set _ _, ⟨e3, e4, e5⟩, hB.setCell (p := ⟨wc.heap.size, k, none⟩) (Nat.le_refl _) _⟩
        case measure => simp [intOf]; omega
      · have HGA : Ho (gx ms k = 0) := ⟨gx_ge (by omega)⟩
        obtain ⟨b', o', rfl, hcell'⟩ := hr' (by omega)
        have hcx' := cell_below hB (hcell' k hN)
        have hgb := (HN.out k).1
        have hgb2 : gx ns k < 4294967296 := (HN.out k).2
        clear hcell'
        go_wp2
        go_roundw
        case rel =>
          obtain ⟨c', e1, e2, e3, e4, e5⟩ := add_step' ((c : Int) + gx ns k) (by rw [HGA.out]; omega) HM.out HN.out hz.out.1 hzl.out hlt hna hnb hz.out.2.1 hz.out.2.2 hc
          exact ⟨c', k + 1, _, by omega, e2, congrArg (Value.int .u64) e1, by go_num, ⟨by rw [List.length_set]; exact hzl.out⟩, hown.set _ _, ⟨e3, e4, e5⟩, hB.setCell (p := ⟨wc.heap.size, k, none⟩) (Nat.le_refl _) _⟩
        case measure => simp [intOf]; omega
      · have HGA : Ho (gx ms k = 0) := ⟨gx_ge (by omega)⟩
        have HGB : Ho (gx ns k = 0) := ⟨gx_ge (by omega)⟩
        go_wp2
        go_roundw
        case rel =>
          obtain ⟨c', e1, e2, e3, e4, e5⟩ := add_step' ((c : Int)) (by rw [HGA.out, HGB.out]; omega) HM.out HN.out hz.out.1 hzl.out hlt hna hnb hz.out.2.1 hz.out.2.2 hc
          exact ⟨c', k + 1, _, by omega, e2, congrArg (Value.int .u64) e1, by go_num, ⟨by rw [List.length_set]; exact hzl.out⟩, hown.set _ _, ⟨e3, e4, e5⟩, hB.setCell (p := ⟨wc.heap.size, k, none⟩) (Nat.le_refl _) _⟩
        case measure => simp [intOf]; omega
    · have e : k = n + 1 := by omega
      subst e
      have hle : zs.length = n + 1 := hzl.out
      have HV : Ho (nvB B32 zs = nvB B32 ms + nvB B32 ns) := ⟨by
        have hlt := nvB_lt hz.out.1
        rw [hle] at hlt
        have e := hz.out.2.2
        rw [List.take_of_length_le (by omega), List.take_of_length_le (by omega)] at e
        rcases Nat.le_one_iff_eq_zero_or_eq_one.1 hc with rfl | rfl
        · omega
        · exfalso
          have ha := nvB_lt HM.out
          have hb := nvB_lt HN.out
          have h1 := Nat.pow_le_pow_right B32_pos hna
          have h2 := Nat.pow_le_pow_right B32_pos hnb
          have h3 : 2 * B32 ^ n ≤ B32 ^ (n + 1) := by rw [Nat.pow_succ, Nat.mul_comm]; exact Nat.mul_le_mul_left _ B32_one
          omega⟩
      go_wp2_with fail
      rw [← hle]
      refine (ref1_trim_nm _ zs wr (by have := hown.val.sl; rwa [← hle] at this) hz.out.1).mono ?_
      rintro e w1 ⟨v1, ys, rfl, hn, hv, hs, hb⟩
      have HN := Ho.mk hn
      have HV2 := Ho.mk hv
      clear hn hv hle
      go_wp2
      go_ret
      exact ⟨v1, ys, rfl, HN.out, by rw [HV2.out, HV.out], hs, below_base hB hB.size hb⟩

end Go.Proofs.Ythjcldkaodmfoaa
