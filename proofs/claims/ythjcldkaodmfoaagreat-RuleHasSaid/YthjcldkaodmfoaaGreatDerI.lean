/-
  What der.digits, der.OID and der.Nat return. Conditions: those that each theorem types.
-/
import Derived.Test.YthjcldkaodmfoaaGreatDerH
import Derived.StillTailTactics
namespace Go.Proofs.YthjcldkaodmfoaaGreat
open Go.RowKit

/-! ### der.digits -/
def digF : Nat → Nat → List Int → List Int
  | 0, _, acc => acc
  | f + 1, n, acc => if n = 0 then acc else digF f (n / 128) (((n % 128 + 128 : Nat) : Int) :: acc)
/-- A number to the base 128, as object identifiers have them. -/
def dig (n : Nat) : List Int := digF 9 (n / 128) [((n % 128 : Nat) : Int)]
theorem digF_len : ∀ (f n : Nat) (acc : List Int), acc.length ≤ (digF f n acc).length ∧ (digF f n acc).length ≤ acc.length + f
  | 0, _, acc => by simp [digF]
  | f + 1, n, acc => by
    unfold digF
    split
    · omega
    · have := digF_len f (n / 128) (((n % 128 + 128 : Nat) : Int) :: acc)
      simp only [List.length_cons] at this
      omega
theorem dig_len (n : Nat) : 1 ≤ (dig n).length ∧ (dig n).length ≤ 10 := by
  have := digF_len 9 (n / 128) [((n % 128 : Nat) : Int)]
  simp only [List.length_cons, List.length_nil] at this
  unfold dig
  omega
theorem digF_dg : ∀ (f n : Nat) (acc : List Int), Dg 256 acc → Dg 256 (digF f n acc)
  | 0, _, acc, h => h
  | f + 1, n, acc, h => by
    unfold digF
    split
    · exact h
    · exact digF_dg f (n / 128) _ (Dg.cons (Int.natCast_nonneg _) (by omega) h)
theorem dig_dg (n : Nat) : Dg 256 (dig n) := digF_dg _ _ _ (Dg.one (Int.natCast_nonneg _) (by omega))
theorem i64_and127 (n : Nat) (h : n < 9223372036854775808) : bits .and .i64 (n : Int) 127 = ((n % 128 : Nat) : Int) := by
  have h5 : (2 : Int) ^ 63 = 9223372036854775808 := by decide
  have h6 : (2 : Int) ^ 7 - 1 = 127 := by decide
  have := bits_mask .i64 63 (by decide) (fun n a b => wraps_i64 n a b) 7 (by decide) (n : Int) (by omega) (by omega)
  rw [h6] at this
  rw [this]
  have h7 : (2 : Int) ^ 7 = 128 := by decide
  rw [h7]; omega
theorem i64_or128 (r : Nat) (h : r < 128) : bits .or .i64 (r : Int) 128 = ((r + 128 : Nat) : Int) := by
  have h5 : (2 : Int) ^ 63 = 9223372036854775808 := by decide
  have h7 : (2 : Int) ^ 7 = 128 := by decide
  have hs : bits .or .i64 (r : Int) 128 = bits .or .i64 128 (r : Int) := by
    simp only [bits]
    rw [BitVec.or_comm]
  rw [hs, bits_join .i64 63 (by decide) (fun n a b => wraps_i64 n a b) 7 128 (r : Int) (by decide) (by decide) (by omega) (by omega) (by omega) (by omega)]
  omega

def DigPost (n : Nat) (w : World) (e : Ending) (w' : World) : Prop := ∃ v1, e = .returned v1 ∧ OwV w' w.heap.size 5 .u8 v1 (dig n) ∧ Below w.heap.size w w'

set_option maxRecDepth 100000 in
theorem der_digits (n : Nat) (w : World) (hn : n < 9223372036854775808) :
    Calls Tryz.prog 293 #[.int .i64 n] w (DigPost n w) := by
  have e1 : bits .and .i64 (n : Int) 127 = (n : Int) % 128 := by rw [i64_and127 n hn]; omega
  have ho0 := (OwI.lit1 w w.heap.size 5 .u8 ((n : Int) % 128) (Nat.le_refl _)).val
  have HO0 := Ho.mk ho0
  have hb0 : Below w.heap.size w (w.alloc (.cells #[.int .u8 ((n : Int) % 128)] 5)) := (Below.refl _ _).alloc (Nat.le_refl _) _
  have HB0 := Ho.mk hb0
  clear ho0 hb0
  go_enter Tryz.func293, Tryz.ntmps293
  go_wp2
  clear e1
  go_loopw [0, 3] (fun x l wr => ∃ (m f : Nat) (acc : List Int), x = .int .i64 m ∧ m < 9223372036854775808 ∧ Ho (m < 128 ^ f ∧ digF f m acc = dig n ∧ acc.length + f ≤ 10 ∧ OwV wr w.heap.size 5 .u8 l acc ∧ Below w.heap.size w wr)) (fun x _ _ => (intOf x).toNat)
  case atStart =>
    refine ⟨n / 128, 9, [((n % 128 : Nat) : Int)], by go_num, by omega, ⟨?_, rfl, by simp, ?_, HB0.out⟩⟩
    · have : (128 : Nat) ^ 9 = 9223372036854775808 := by decide
      omega
    · have := HO0.out
      rwa [show ((n % 128 : Nat) : Int) = (n : Int) % 128 by omega]
  case round =>
    obtain ⟨m, f, acc, rfl, hm, hz⟩ := hrel
    by_cases h0 : 0 < m
    · have q : decide (0 < (m : Int)) = true := dect (by omega)
      have e1 : bits .and .i64 (m : Int) 127 = (m : Int) % 128 := by rw [i64_and127 m hm]; omega
      have e2 : bits .or .i64 ((m : Int) % 128) 128 = (m : Int) % 128 + 128 := by
        have := i64_or128 (m % 128) (by omega)
        rw [show ((m % 128 : Nat) : Int) = (m : Int) % 128 by omega] at this
        rw [this]; omega
      have ho1 := (OwI.lit1 wr w.heap.size 5 .u8 ((m : Int) % 128 + 128) hz.out.2.2.2.2.size).val
      have hs1 := (hz.out.2.2.2.1.alloc (.cells #[.int .u8 ((m : Int) % 128 + 128)] 5)).sl
      have HB1 := Ho.mk (hz.out.2.2.2.2.alloc hz.out.2.2.2.2.size (.cells #[.int .u8 ((m : Int) % 128 + 128)] 5))
      have hal : acc.length ≤ 10 := by have := hz.out.2.2.1; omega
      go_wp2_with (at_builtin; refine wpList_app rfl (.tmp 18) (.tmp 19) 22 5 .u8 1 rfl Tryz.underlying22 info_u8 w.heap.size _ [(m : Int) % 128 + 128] _ acc rfl rfl ho1 hs1 HB1.out.size (by simp; omega) (by simp; omega) ?_; intro v2 w2 ho2 hg2 hat2; have HB2 := Ho.mk (HB1.out.grown hg2 HB1.out.size (fun b hb => (ho1.block b hb).1)); have HO2 := Ho.mk ho2; clear ho2 hg2 hat2 ho1 hs1 e1 e2)
      go_roundw
      case rel =>
        obtain ⟨f, rfl⟩ : ∃ g, f = g + 1 := by
          cases f with
          | zero => have := hz.out.1; simp at this; omega
          | succ g => exact ⟨g, rfl⟩
        have hd := hz.out.2.1
        rw [digF, if_neg (by omega)] at hd
        refine ⟨m / 128, f, _, by go_num, by omega, ⟨?_, hd, ?_, ?_, HB2.out⟩⟩
        · have := hz.out.1
          rw [Nat.pow_succ] at this
          exact (Nat.div_lt_iff_lt_mul (by decide)).2 this
        · have := hz.out.2.2.1; simp only [List.length_cons]; omega
        · have := HO2.out
          rw [show ((m % 128 + 128 : Nat) : Int) = (m : Int) % 128 + 128 by omega]
          exact this
      case measure => simp [intOf]; omega
    · have h00 : m = 0 := by omega
      subst h00
      go_wp2
      go_ret
      refine ⟨_, rfl, ?_, hz.out.2.2.2.2⟩
      have hd := hz.out.2.1
      have e : digF f 0 acc = acc := by cases f <;> simp [digF]
      rw [e] at hd
      rw [← hd]
      exact hz.out.2.2.2.1

/-! ### der.OID -/
def oidB : List Int → List Int
  | x :: y :: r => dig (40 * x + y).toNat ++ (r.map fun a => dig a.toNat).flatten
  | _ => []
def arcsOk (xs : List Int) : Prop := 2 ≤ xs.length ∧ gx xs 0 ≤ 2 ∧ (gx xs 0 < 2 → gx xs 1 ≤ 39) ∧ ∀ j, j < xs.length → 0 ≤ gx xs j ∧ gx xs j ≤ 268435456

theorem size_int (w : World) : (sizeOf (Tryz.prog.elem 82)).run Tryz.prog w = .ok 1 w := by kernel_rfl
theorem flat_take (xr : List Int) (k : Nat) (h : k < xr.length) : ((xr.take (k + 1)).map fun a => dig a.toNat).flatten = ((xr.take k).map fun a => dig a.toNat).flatten ++ dig (gx xr k).toNat := by
  rw [take_succ_gx h]; simp
theorem flat_len (xr : List Int) : ((xr.map fun a => dig a.toNat).flatten).length ≤ 10 * xr.length := by
  induction xr with
  | nil => simp
  | cons x xr ih => have := (dig_len x.toNat).2; simp at ih ⊢; omega
theorem flat_dg (xr : List Int) : Dg 256 ((xr.map fun a => dig a.toNat).flatten) := by
  induction xr with
  | nil => exact Dg.nil (by decide)
  | cons x xr ih => simp only [List.map_cons, List.flatten_cons]; exact (dig_dg _).append ih

set_option maxHeartbeats 1000000 in
set_option maxRecDepth 100000 in
theorem der_OID (v : Value) (xs : List Int) (w : World) (h : SlI w .i64 v xs) (ho : arcsOk xs) (hl : xs.length ≤ 1000) :
    Calls Tryz.prog 249 #[v] w fun e w' => ∃ v1, e = .returned (.tuple #[v1, .bool true]) ∧ NdV 1 w' v1 (.mk 6 (oidB xs) []) ∧ Below w.heap.size w w' := by
  obtain ⟨A, c, rfl, h1, h2, h3, hr⟩ := h
  have hsl := SlI.mk h1 h2 h3 hr
  obtain ⟨ho1, ho2, ho3, ho4⟩ := ho
  obtain ⟨bl, o, rfl, hcell⟩ := hr (by omega)
  obtain ⟨p, hp⟩ := Int.eq_ofNat_of_zero_le (ho4 0 (by omega)).1
  obtain ⟨q, hq⟩ := Int.eq_ofNat_of_zero_le (ho4 1 (by omega)).1
  have hp2 : p ≤ 2 := by omega
  have hq2 : q ≤ 268435456 := by have := (ho4 1 (by omega)).2; omega
  have hpq : p < 2 → q ≤ 39 := fun hh => by have := ho3 (by omega); omega
  obtain ⟨xr, hxr⟩ : ∃ xr, xs = (p : Int) :: (q : Int) :: xr := by
    cases xs with
    | nil => simp at ho1
    | cons x xs => cases xs with
      | nil => simp at ho1
      | cons y xr => exact ⟨xr, by simp only [gx] at hp hq; simp at hp hq; rw [hp, hq]⟩
  have HXR := Ho.mk hxr
  have HCell := Ho.mk hcell
  have H4 := Ho.mk ho4
  have HP := Ho.mk hp
  have HQ := Ho.mk hq
  have hc0 : w.cell? ⟨bl, o, none⟩ = some (.int .i64 (p : Int)) := by have := hcell 0 (by omega); rw [hp] at this; exact this
  have hc1 : w.cell? ⟨bl, o + 1, none⟩ = some (.int .i64 (q : Int)) := by have := hcell 1 (by omega); rw [hq] at this; exact this
  have hl0 : (0 : Int) < xs.length := by omega
  have hl1 : (1 : Int) < xs.length := by omega
  have hn0 : 0 < xs.length := by omega
  have hn1 : 1 < xs.length := by omega
  have q0 : decide ((xs.length : Int) < 2) = false := decf (by omega)
  have q1 : decide (2 < (p : Int)) = false := decf (by omega)
  have hdig : ∀ W, Calls Tryz.prog 293 #[.int .i64 (40 * (p : Int) + (q : Int))] W (DigPost (40 * p + q) W) := fun W => by
    have := der_digits (40 * p + q) W (by omega)
    rwa [show ((40 * p + q : Nat) : Int) = 40 * (p : Int) + q by omega] at this
  have HDig := Ho.mk hdig
  obtain ⟨m, hm⟩ : ∃ m, xs.length - 2 = m := ⟨_, rfl⟩
  obtain ⟨c2, hc2⟩ : ∃ c2, c - 2 = c2 := ⟨_, rfl⟩
  obtain ⟨A2, hA2⟩ : ∃ A2, cutA (some ⟨bl, o, none⟩) 2 c = A2 := ⟨_, rfl⟩
  have hcut : ∀ W, (Instr.slice 82 (.slice (some ⟨bl, o, none⟩) xs.length c) (some (.int .i64 2)) none none).run Tryz.prog W = .ok (.slice A2 m c2) W := fun W => by
    have := run_cut_l (t := 82) (A := some ⟨bl, o, none⟩) (n := xs.length) (c := c) (k := 2) Tryz.underlying82 size_int (by omega) W
    rw [hA2, hm, hc2] at this
    exact this
  have hsr := hsl.cut_l 2 (by omega)
  rw [hA2, hm, hc2] at hsr
  have hxr2 : xs.drop 2 = xr := by rw [hxr]; rfl
  rw [hxr2] at hsr
  have hxl : xr.length = m := by rw [← hxr2, List.length_drop]; exact hm
  have HSR := Ho.mk hsr
  have HXL := Ho.mk hxl
  have HXD := Ho.mk hxr2
  have hml : m + 2 ≤ xs.length := by omega
  clear hm hc2 hA2 hsr hxl hxr2
  obtain ⟨W0, hW0⟩ : ∃ W0, w.alloc (.cells #[.int .i64 0, .slice none 0 0, .slice none 0 0] 123) = W0 := ⟨_, rfl⟩
  have hB0 : Below w.heap.size w W0 := hW0 ▸ (Below.refl _ _).alloc (Nat.le_refl _) _
  have HRow0 : Ho (W0.heap[w.heap.size]? = some (.cells #[.int .i64 0, .slice none 0 0, .slice none 0 0] 123 (0, 0))) := ⟨hW0 ▸ heap_alloc_new w _⟩
  have HB0 := Ho.mk hB0
  have d0 := cell_below hB0 hc0
  have d1 := cell_below hB0 hc1
  clear hp hq hxr hcell ho4 ho2 ho3 hdig hB0
  have hgo : ∀ (hsplit : (decide ((p : Int) < 2) = false) ∨ (decide ((p : Int) < 2) = true ∧ decide (39 < (q : Int)) = false)), Calls Tryz.prog 249 #[.slice (some ⟨bl, o, none⟩) xs.length c] w fun e w' => ∃ v1, e = .returned (.tuple #[v1, .bool true]) ∧ NdV 1 w' v1 (.mk 6 (oidB xs) []) ∧ Below w.heap.size w w' := by
    intro hsplit
    rcases hsplit with s1 | ⟨s1, s2⟩
    all_goals
      go_enter Tryz.func249, Tryz.ntmps249
      go_wp2_with fail
      go_loop [33] (fun i => ∃ k : Nat, k ≤ xs.length ∧ i = .int .i64 k) (fun i => xs.length - (intOf i).toNat)
      case atStart => exact ⟨0, Nat.zero_le _, rfl⟩
      case round =>
        obtain ⟨k, hk, rfl⟩ := hrel
        by_cases hlt : k < xs.length
        · have hck := cell_below HB0.out (HCell.out k hlt)
          have hr1 := H4.out k hlt
          have s3 : decide (gx xs k < 0) = false := decf (by omega)
          have s4 : decide (268435456 < gx xs k) = false := decf (by omega)
          clear hr1
          go_wp2
          go_round
          case rel => exact ⟨k + 1, by omega, by go_num⟩
          case measure => simp [intOf]; omega
        · go_wp2_with fail
          go_still_tail 8, (by kernel_rfl)
          change wpList _ _ _ _ _ W0.drew
          rw [IntWalk.i64_in (40 * (p : Int)) (by omega), IntWalk.i64_in (40 * (p : Int) + (q : Int)) (by omega)]
          go_wp2_with fail
          refine (HDig.out _).mono ?_
          rintro e w1 ⟨v1, rfl, ho1, hb1⟩
          have HO1 := Ho.mk (show OwV w1 W0.heap.size _ _ _ _ from ho1)
          have HB1 := Ho.mk (show Below W0.heap.size W0 w1 from ⟨hb1.os, hb1.tape, hb1.output, hb1.size, hb1.block⟩)
          clear ho1 hb1
          go_wp2_with fail
          go_loopw [6, 57] (fun bv i wr => ∃ k : Nat, k ≤ m ∧ i = .int .i64 k ∧ Ho (OwV wr W0.heap.size 5 .u8 bv (dig (40 * p + q) ++ ((xr.take k).map fun a => dig a.toNat).flatten) ∧ Below W0.heap.size W0 wr)) (fun _ i _ => m - (intOf i).toNat)
          case atStart => exact ⟨0, Nat.zero_le _, rfl, ⟨by simpa using HO1.out, HB1.out⟩⟩
          case round =>
            obtain ⟨j, hj, rfl, hz⟩ := hrel
            by_cases hltj : j < m
            · obtain ⟨b2, o2, hA2, hcj⟩ : ∃ b2 o2, A2 = some ⟨b2, o2, none⟩ ∧ w.cell? ⟨b2, o2 + j, none⟩ = some (.int .i64 (gx xr j)) := by
                obtain ⟨A', c', e, _, _, _, hr'⟩ := HSR.out
                simp only [Value.slice.injEq] at e
                obtain ⟨rfl, e2, rfl⟩ := e
                obtain ⟨b2, o2, e3, hq⟩ := hr' (by rw [HXL.out]; omega)
                exact ⟨b2, o2, e3, hq j (by rw [HXL.out]; exact hltj)⟩
              subst hA2
              have hcj2 := cell_below (below_base HB0.out HB0.out.size hz.out.2) hcj
              have hxj : 0 ≤ gx xr j ∧ gx xr j ≤ 268435456 := by
                have h1 := H4.out (2 + j) (by omega)
                rw [← gx_drop, HXD.out] at h1
                exact h1
              obtain ⟨a, ha⟩ := Int.eq_ofNat_of_zero_le hxj.1
              rw [ha] at hcj2
              have HA := Ho.mk ha
              have ha2 : a ≤ 268435456 := by omega
              have HF := Ho.mk (flat_take xr j (by rw [HXL.out]; exact hltj))
              have hfl := flat_len (xr.take j)
              have hjl : (xr.take j).length ≤ j := List.length_take_le _ _
              have hdl := (dig_len (40 * p + q)).2
              have hda := (dig_len a).2
              clear hxj ha hcj
              go_wp2_with fail
              refine (der_digits a wr (by omega)).mono ?_
              rintro e w2 ⟨v2, rfl, ho2, hb2⟩
              have HO2 := Ho.mk (hz.out.1.below hb2)
              have HS2 := Ho.mk ho2.sl
              have HB2 := Ho.mk (below_base hz.out.2 hz.out.2.size hb2)
              clear ho2 hb2
              go_wp2_with (at_builtin; refine wpList_app rfl (.tmp 61) (.tmp 63) 22 5 .u8 1 rfl Tryz.underlying22 info_u8 W0.heap.size _ _ _ _ rfl rfl HO2.out HS2.out HB2.out.size (by simp only [List.length_append]; omega) (by simp only [List.length_append]; omega) ?_; intro v3 w3 ho3 hg3 hat3; have HB3 := Ho.mk (HB2.out.grown hg3 HB2.out.size (fun b hb => (HO2.out.block b hb).1)); have HO3 := Ho.mk ho3; clear ho3 hg3 hat3)
              go_roundw
              case rel =>
                refine ⟨j + 1, by omega, by go_num, ⟨?_, HB3.out⟩⟩
                rw [HF.out, HA.out, ← List.append_assoc]
                exact HO3.out
              case measure => simp [intOf]; omega
            · have hje : j = m := by omega
              subst hje
              have HOf := Ho.mk hz.out.1
              rw [List.take_of_length_le (by rw [HXL.out]; exact Nat.le_refl _)] at HOf
              obtain ⟨f0, f1, f2, z0, z1, z2⟩ := cell3 ((hz.out.2.block _ (Array.getElem?_eq_some_iff.1 HRow0.out).1).trans HRow0.out)
              obtain ⟨bs, HE⟩ : ∃ bs, Ho (dig (40 * p + q) ++ (xr.map fun a => dig a.toNat).flatten = bs) := ⟨_, ⟨rfl⟩⟩
              rw [HE.out] at HOf
              obtain ⟨A3, c3, rfl, _⟩ := HOf.out.sl
              have HZ0 := Ho.mk (Array.getElem?_eq_some_iff.1 HRow0.out).1
              have HBf := Ho.mk (below_base HB0.out HB0.out.size hz.out.2)
              clear hz
              go_wp2_with fail
              refine bodyPost_ret (v := .tuple #[.agg #[.int .i64 6, .slice A3 bs.length c3, .slice none 0 0], .bool true]) (by simp [results, Tryz.results249, go_sem, f0, f1, f2]) rfl ⟨_, rfl, ?_, ?_⟩
              · have hne : ∀ j, (Value.slice A3 bs.length c3).ownBlock ≠ some (⟨w.heap.size, j, none⟩ : Addr).block := fun j e => by
                  have h1 : W0.heap.size ≤ w.heap.size := (HOf.out.block _ e).1
                  have h2 := HZ0.out
                  omega
                have hbs : bs = oidB xs := by
                  rw [← HE.out, HXR.out]
                  simp only [oidB]
                  congr 2
                have hdb : Dg 256 bs := by rw [← HE.out]; exact (dig_dg _).append (flat_dg _)
                have hlb : bs.length ≤ 17592186044416 := by
                  rw [← HE.out, List.length_append]
                  have h1 := (dig_len (40 * p + q)).2
                  have h2 := flat_len xr
                  have h3 := HXL.out
                  omega
                rw [← hbs]
                exact NdV.leaf (((HOf.out.other (hne 0) _).other (hne 1) _).other (hne 2) _).sl hdb hlb
              · exact ((HBf.out.setCell (p := ⟨w.heap.size, 0, none⟩) (Nat.le_refl _) _).setCell (p := ⟨w.heap.size, 1, none⟩) (Nat.le_refl _) _).setCell (p := ⟨w.heap.size, 2, none⟩) (Nat.le_refl _) _
  by_cases hp3 : (p : Int) < 2
  · exact hgo (.inr ⟨dect hp3, decf (by omega)⟩)
  · exact hgo (.inl (decf hp3))

/-! ### der.Nat at a number's node -/
set_option maxRecDepth 100000 in
theorem der_Nat_num (n : Nat) (b : List Int) (v : Value) (w : World) (h : NdV n w v (.mk 2 b [])) (hok : (Nd.mk 2 b []).ok = true) :
    Calls Tryz.prog 213 #[v] w fun e w' => ∃ v1 ys, e = .returned (.tuple #[v1, .bool true]) ∧ Nm W64 ys ∧ nvB W64 ys = bev b ∧ OwV w' w.heap.size 112 .u64 v1 ys ∧ Below w.heap.size w w' := by
  cases n with
  | zero => exact h.elim
  | succ n =>
    have HN := Ho.mk h
    obtain ⟨bv, A, c, rfl, hb, hd, hbl, _⟩ := h
    have HB := Ho.mk hb
    have HD := Ho.mk hd
    obtain ⟨A0, c0, rfl, hsl⟩ := hb
    have hbx : Below w.heap.size w (w.alloc (.cells #[.int .i64 2, .slice A0 b.length c0, .slice A ([] : List Nd).length c] 123)) := (Below.refl _ _).alloc (Nat.le_refl _) _
    have HBX := Ho.mk hbx
    obtain ⟨f0, f1, f2, z0, z1, z2⟩ := cell3 (heap_alloc_new w (.cells #[.int .i64 2, .slice A0 b.length c0, .slice A ([] : List Nd).length c] 123))
    have hzz : w.heap.size < (w.alloc (.cells #[.int .i64 2, .slice A0 b.length c0, .slice A ([] : List Nd).length c] 123)).heap.size := by simp
    clear hd hsl hbx
    go_enter Tryz.func213, Tryz.ntmps213
    go_wp2_with fail
    refine (der_May (n + 1) (.mk 2 b []) _ _ (HN.out.below HBX.out)).mono ?_
    rintro e w1 ⟨rfl, hb1⟩
    rw [hok]
    have g1 := cell_below hb1 f1
    have HB1 := Ho.mk (below_base HBX.out HBX.out.size hb1)
    have HS1 := Ho.mk (HB.out.below HB1.out)
    clear hb1 f0 f1 f2 z0 z1 z2 hzz
    go_wp2_with fail
    refine (limb_FromBytes _ b _ HS1.out HD.out hbl).mono ?_
    rintro e w2 ⟨v1, ys, rfl, hm, hv, hyl, ho, hb2⟩
    have HM := Ho.mk hm
    have HV := Ho.mk hv
    have HO := Ho.mk (ho.weaken HB1.out.size)
    have HB2 := Ho.mk (below_base HB1.out HB1.out.size hb2)
    clear hm hv ho hb2
    go_wp2
    go_ret2
    exact ⟨v1, ys, rfl, HM.out, HV.out, HO.out, HB2.out⟩

end Go.Proofs.YthjcldkaodmfoaaGreat
