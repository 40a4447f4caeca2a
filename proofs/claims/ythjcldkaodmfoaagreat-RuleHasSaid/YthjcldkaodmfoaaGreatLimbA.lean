/-
  What limb.trim, limb.Of and limb.Bits return. Conditions: those that each theorem types.
-/
import Derived.Test.YthjcldkaodmfoaaGreatNum2
import Derived.Test.YthjcldkaodmfoaaGreatLen
namespace Go.Proofs.YthjcldkaodmfoaaGreat
open Go.RowKit

theorem info_u64 : (Tryz.prog.info? 112).map (fun i => (i.zero, i.size, i.bytes)) = some (some (.int .u64 0), 1, 8) := by kernel_rfl
theorem info_u8 : (Tryz.prog.info? 5).map (fun i => (i.zero, i.size, i.bytes)) = some (some (.int .u8 0), 1, 1) := by kernel_rfl
theorem info_int : (Tryz.prog.info? 3).map (fun i => (i.zero, i.size, i.bytes)) = some (some (.int .i64 0), 1, 8) := by kernel_rfl

/-! ### limb.trim -/
theorem limb_trim (A : Option Addr) (xs : List Int) (c : Nat) (w : World) (h : RdI w .u64 A xs) (hc : xs.length ≤ c) (hl : c ≤ 9223372036854775807) :
    Calls Tryz.prog 191 #[.slice A xs.length c] w fun e w' => ∃ n, e = .returned (.slice A n c) ∧ w = w' ∧ IsTrim xs n := by
  go_enter Tryz.func191, Tryz.ntmps191
  go_wp2
  go_loop [3] (fun v => ∃ n : Nat, n ≤ xs.length ∧ v = .int .i64 n ∧ Ho (∀ j, n ≤ j → gx xs j = 0)) (fun v => (intOf v).toNat)
  case atStart => exact ⟨xs.length, Nat.le_refl _, rfl, ⟨fun j hj => gx_ge hj⟩⟩
  case round =>
    obtain ⟨n, hn, rfl, hz⟩ := hrel
    by_cases h0 : n = 0
    · subst h0
      cases A <;>
      · go_wp2
        go_ret
        exact ⟨0, rfl, rfl, hn, hz.out, .inl rfl⟩
    · obtain ⟨b, o, rfl, hcell⟩ := h (by omega)
      have hcell1 := hcell (n - 1) (by omega)
      by_cases hv : gx xs (n - 1) = 0
      · have hb : (gx xs (n - 1) == 0) = true := by simp [hv]
        have HV := Ho.mk hv
        clear hv
        go_wp2
        go_round
        case rel => exact ⟨n - 1, by omega, by go_num, ⟨fun j hj => if e : j = n - 1 then e ▸ HV.out else hz.out j (by omega)⟩⟩
        case measure => simp [intOf]; omega
      · have hb : (gx xs (n - 1) == 0) = false := by simp [hv]
        have HV := Ho.mk hv
        clear hv
        go_wp2
        go_ret
        exact ⟨n, rfl, rfl, hn, hz.out, .inr HV.out⟩

theorem limb_trim_sl (v : Value) (xs : List Int) (w : World) (h : SlI w .u64 v xs) :
    Calls Tryz.prog 191 #[v] w fun e w' => ∃ v1 n, e = .returned v1 ∧ w = w' ∧ IsTrim xs n ∧ SlI w .u64 v1 (xs.take n) := by
  obtain ⟨A, c, rfl, h1, h2, h3, hr⟩ := h
  refine (limb_trim A xs c w hr h1 h2).mono ?_
  rintro e w' ⟨n, rfl, rfl, ht⟩
  have hl : (xs.take n).length = n := by rw [List.length_take]; exact Nat.min_eq_left ht.1
  exact ⟨_, n, rfl, rfl, ht, A, c, by rw [hl], by rw [hl]; exact Nat.le_trans ht.1 h1, h2, h3, hr.take n⟩
theorem limb_trim_ow (v : Value) (xs : List Int) (base : Nat) (w : World) (h : OwV w base 112 .u64 v xs) :
    Calls Tryz.prog 191 #[v] w fun e w' => ∃ v1 n, e = .returned v1 ∧ w = w' ∧ IsTrim xs n ∧ OwV w base 112 .u64 v1 (xs.take n) := by
  rcases h.cases with ⟨rfl, rfl⟩ | ⟨g, cap, rfl, q⟩
  · refine (limb_trim none [] 0 w (RdI.nil _ _ _) (by simp) (by omega)).mono ?_
    rintro e w' ⟨n, rfl, rfl, ht⟩
    have : n = 0 := by have := ht.1; simpa using this
    subst this
    exact ⟨_, 0, rfl, rfl, ht, OwV.nil _ _ _ _⟩
  · have hq := q.room
    refine (limb_trim _ xs cap w q.reads hq.1 (by simpa [maxLen] using hq.2)).mono ?_
    rintro e w' ⟨n, rfl, rfl, ht⟩
    have hl : (xs.take n).length = n := by rw [List.length_take]; exact Nat.min_eq_left ht.1
    refine ⟨_, n, rfl, rfl, ht, ?_⟩
    have := (q.take n ht.1).val
    rwa [hl] at this

/-! ### limb.made, Of -/
theorem limb_made (v : Value) (xs : List Int) (w : World) (h : SlI w .u64 v xs) (hl : xs.length ≤ 17592186044416) :
    Calls Tryz.prog 258 #[v] w fun e w' => ∃ v1 n, e = .returned v1 ∧ IsTrim xs n ∧ OwV w' w.heap.size 112 .u64 v1 (xs.take n) ∧ Below w.heap.size w w' := by
  go_enter Tryz.func258, Tryz.ntmps258
  go_wp2_with fail
  refine (limb_trim_sl v xs w h).mono ?_
  rintro e w1 ⟨v1, n, rfl, rfl, ht, hs⟩
  have hlen : (xs.take n).length ≤ xs.length := List.length_take_le' _ _
  have HT := Ho.mk ht
  clear ht
  go_wp2_with (at_builtin; refine wpList_app rfl _ _ 38 112 .u64 8 rfl Tryz.underlying38 info_u64 w.heap.size (.slice none 0 0) [] _ _ rfl rfl (OwV.nil _ _ _ _) hs (Nat.le_refl _) (by simp; omega) (by simp; omega) ?_; intro v2 w2 ho hg hat; simp only [List.nil_append] at ho)
  go_ret
  exact ⟨v2, n, rfl, HT.out, ho, (Below.refl _ _).grown hg (Nat.le_refl _) (by simp [Value.ownBlock])⟩

theorem limb_Of (x : Int) (w : World) (h0 : 0 ≤ x) (h1 : x < W64) :
    Calls Tryz.prog 183 #[.int .u64 x] w fun e w' => ∃ v1 ys, e = .returned v1 ∧ Nm W64 ys ∧ nvB W64 ys = x.toNat ∧ ys.length ≤ 1 ∧ OwV w' w.heap.size 112 .u64 v1 ys ∧ Below w.heap.size w w' := by
  have H1 := Ho.mk h1
  clear h1
  go_enter Tryz.func183, Tryz.ntmps183
  go_wp2_with fail
  have hs : SlI (w.alloc (.cells #[.int .u64 x] 112)) .u64 (.slice (some ⟨w.heap.size, 0, none⟩) 1 1) [x] :=
    SlI.mk (xs := [x]) (by simp) (by omega) (fun e => by simp at e) (fun _ => ⟨_, 0, rfl, fun j hj => by
      obtain rfl : j = 0 := by simpa using hj
      simp [gx]⟩)
  refine (limb_made _ [x] _ hs (by simp)).mono ?_
  rintro e w1 ⟨v1, n, rfl, ht, ho, hb⟩
  go_wp2
  go_ret
  have hd : Dg W64 [x] := Dg.one h0 H1.out
  refine ⟨v1, _, rfl, ht.nm hd, ?_, ?_, ho.weaken (by simp), ((Below.refl _ _).alloc (Nat.le_refl _) _).trans (hb.mono (by simp))⟩
  · rw [ht.nv]; simp [nvB]
  · have := ht.1; simp at this ⊢; omega

/-! ### limb.Bits -/
theorem limb_Bits (v : Value) (xs : List Int) (w : World) (h : SlI w .u64 v xs) (hd : Dg W64 xs) (hl : xs.length ≤ 17592186044416) :
    Calls Tryz.prog 134 #[v] w fun e w' => e = .returned (.int .i64 (nbits (nvB W64 xs))) ∧ w = w' := by
  have HD := Ho.mk hd
  clear hd
  go_enter Tryz.func134, Tryz.ntmps134
  go_wp2_with fail
  refine (limb_trim_sl v xs w h).mono ?_
  rintro e w1 ⟨v1, n, rfl, rfl, ht, hs⟩
  have hn := ht.1
  have hlen : (xs.take n).length = n := by rw [List.length_take]; exact Nat.min_eq_left hn
  have hnm := ht.nm HD.out
  have HV := Ho.mk (ht.nv (B := W64))
  obtain ⟨ys, HY⟩ : ∃ ys, Ho (xs.take n = ys) := ⟨_, ⟨rfl⟩⟩
  rw [HY.out] at hs hlen hnm
  have HN := Ho.mk hnm
  have HL := Ho.mk hlen
  have hyl : ys.length ≤ 17592186044416 := by omega
  have HT := Ho.mk ht
  clear ht hnm hlen hn hl h
  obtain ⟨A, c, rfl, h1, h2, h3, hr⟩ := hs
  by_cases h0 : ys.length = 0
  · have hy : ys = [] := List.eq_nil_of_length_eq_zero h0
    have H0 : Ho (nvB W64 xs = 0) := ⟨by rw [← HV.out, HY.out, hy]; rfl⟩
    have hb : ((ys.length : Int) == 0) = true := by simp [h0]
    clear hy
    go_wp2
    go_ret
    exact ⟨by rw [H0.out]; rfl, rfl⟩
  · obtain ⟨b, o, rfl, hcell⟩ := hr (by omega)
    have hc1 := hcell (ys.length - 1) (by omega)
    have hg := HN.out.1 (ys.length - 1)
    have hg0 := hg.1
    have HG := Ho.mk hg.2
    have hb : ((ys.length : Int) == 0) = false := by simp [h0]
    clear hcell hg
    go_wp2_with fail
    refine (bits_Len64 _ _ hg0 HG.out).mono ?_
    rintro e w1 ⟨rfl, rfl⟩
    have hnb : nbits (gx ys (ys.length - 1)).toNat ≤ 64 := nbits_le_iff.2 (by have := HG.out; rw [← W64_pow]; omega)
    go_wp2
    go_ret
    refine ⟨ret_int ?_, rfl⟩
    rw [← HV.out, HY.out, W64_pow, nbits_top (s := 64) (by rw [← W64_pow]; exact HN.out) (by omega)]
    omega

end Go.Proofs.YthjcldkaodmfoaaGreat
