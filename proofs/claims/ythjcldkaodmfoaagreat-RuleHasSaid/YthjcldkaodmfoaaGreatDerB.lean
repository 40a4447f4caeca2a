/-
  What der.headed returns. Conditions: those that each theorem types.
-/
import Derived.Test.YthjcldkaodmfoaaGreatDerA
namespace Go.Proofs.YthjcldkaodmfoaaGreat
open Go.RowKit

theorem OwI.lit1 (w : World) (base : Nat) (e : TypeId) (k : IntKind) (x : Int) (hb : base ≤ w.heap.size) : OwI (w.alloc (.cells #[.int k x] e)) base e k w.heap.size 1 [x] := by
  have h := World.ownsRow_lit (base := base) (e := e) (size := 1) w #[.int k x] 1 hb (by simp [maxLen]) (by simp)
  exact h

theorem OwV.grown {w w1 : World} {base : Nat} {e : TypeId} {k : IntKind} {v : Value} {xs : List Int} (h : OwV w base e k v xs) {row : Option Nat} (hg : w.grownBy w1 row) (hne : ∀ b, v.ownBlock = some b → row ≠ some b) : OwV w1 base e k v xs :=
  World.ownsRow.kept h hg (by cases e : v.ownBlock with
    | none => exact .inl rfl
    | some b => exact .inr fun q => hne b e q.symm)
theorem OwV.past {w w1 : World} {base b0 : Nat} {e : TypeId} {k : IntKind} {v : Value} {xs : List Int} (h : OwV w base e k v xs) {row : Option Nat} (hg : w.grownBy w1 row) (hr : row = some b0) (hz : b0 < base) : OwV w1 base e k v xs :=
  h.grown hg fun b hb e => by
    have := (h.block b hb).1
    rw [hr] at e
    simp only [Option.some.injEq] at e
    omega
/-! ### der.headed -/
/-- The bytes of a length. -/
def hdr (n : Nat) : List Int := if n < 128 then [(n : Int)] else ((128 + (nbits n + 7) / 8 : Nat) : Int) :: beb ((nbits n + 7) / 8) n
theorem hdr_length (n : Nat) : (hdr n).length = if n < 128 then 1 else 1 + (nbits n + 7) / 8 := by
  unfold hdr; split
  · rfl
  · simp [beb_length]; omega
theorem nbits_mono {a b : Nat} (h : a ≤ b) : nbits a ≤ nbits b := nbits_le_iff.2 (Nat.lt_of_le_of_lt h (nbits_lt b))
def HeadPost (t : Int) (xs : List Int) (w : World) (e : Ending) (w' : World) : Prop := ∃ v1, e = .returned v1 ∧ OwV w' w.heap.size 5 .u8 v1 (t % 256 :: (hdr xs.length ++ xs)) ∧ Below w.heap.size w w'

theorem dect {p : Prop} [Decidable p] (h : p) : decide p = true := decide_eq_true h
theorem decf {p : Prop} [Decidable p] (h : ¬ p) : decide p = false := decide_eq_false h

set_option maxRecDepth 100000 in
theorem der_headed (t : Int) (v : Value) (xs : List Int) (w : World) (h : SlI w .u8 v xs) (hl : xs.length ≤ 17592186044416) :
    Calls Tryz.prog 286 #[.int .i64 t, v] w (HeadPost t xs w) := by
  obtain ⟨A, c, rfl, h1, h2, h3, hr⟩ := h
  have hs0 := SlI.mk h1 h2 h3 hr
  by_cases hn : xs.length < 128
  · have q : decide ((xs.length : Int) < 128) = true := dect (by omega)
    have hb0 : Below w.heap.size w (w.alloc (.cells #[.int .u8 (t % 256)] 5)) := (Below.refl _ _).alloc (Nat.le_refl _) _
    have hb1 : Below w.heap.size w ((w.alloc (.cells #[.int .u8 (t % 256)] 5)).alloc (.cells #[.int .u8 (xs.length : Int)] 5)) := hb0.alloc hb0.size _
    have ho0 := (OwI.lit1 w w.heap.size 5 .u8 (t % 256) (Nat.le_refl _)).val
    have ho1 := ho0.alloc (.cells #[.int .u8 (xs.length : Int)] 5)
    have hs1 : SlI ((w.alloc (.cells #[.int .u8 (t % 256)] 5)).alloc (.cells #[.int .u8 (xs.length : Int)] 5)) .u8 (.slice (some ⟨w.heap.size + 1, 0, none⟩) 1 1) [(xs.length : Int)] := by
      have := sl_one (w.alloc (.cells #[.int .u8 (t % 256)] 5)) 5 .u8 (xs.length : Int)
      rwa [World.size_alloc] at this
    go_enter Tryz.func286, Tryz.ntmps286
    go_wp2_with (first | (at_builtin; refine wpList_app rfl (.tmp 16) (.tmp 19) 22 5 .u8 1 rfl Tryz.underlying22 info_u8 w.heap.size _ [t % 256] _ [(xs.length : Int)] rfl rfl ho1 hs1 hb1.size (by simp) (by simp) ?_; intro v2 w2 ho2 hg2 hat2; have HB2 := Ho.mk (hb1.grown hg2 hb1.size (fun b hb => (ho1.block b hb).1)); have hs2 := hs0.below HB2.out; have HX := Ho.mk ho2; have hz2 := HB2.out.size; clear hg2 hat2 ho2) | (at_builtin; refine wpList_app rfl (.tmp 43) (.tmp 44) 22 5 .u8 1 rfl Tryz.underlying22 info_u8 w.heap.size _ _ _ xs rfl rfl HX.out hs2 hz2 (by simp; omega) (by simp; omega) ?_; intro v3 w3 ho3 hg3 hat3; have HB3 := Ho.mk (HB2.out.grown hg3 hz2 (fun b hb => (HX.out.block b hb).1)); have HY := Ho.mk ho3; clear hg3 hat3 ho3))
    go_ret
    have e : hdr xs.length = [(xs.length : Int)] := by unfold hdr; rw [if_pos hn]
    refine ⟨_, rfl, ?_, HB3.out⟩
    rw [e]
    exact HY.out
  · have q : decide ((xs.length : Int) < 128) = false := decf (by omega)
    have hnb : nbits xs.length ≤ 64 := nbits_le_iff.2 (by have : (2 : Nat) ^ 64 = 18446744073709551616 := by decide
                                                          omega)
    have hW : (xs.length : Int) < W64 := by have : (W64 : Int) = 18446744073709551616 := by decide
                                            omega
    have HW := Ho.mk hW
    clear hW
    have hb0 : Below w.heap.size w (w.alloc (.cells #[.int .u8 (t % 256)] 5)) := (Below.refl _ _).alloc (Nat.le_refl _) _
    have ho0 := (OwI.lit1 w w.heap.size 5 .u8 (t % 256) (Nat.le_refl _)).val
    have HB0 := Ho.mk hb0
    have HO0 := Ho.mk ho0
    clear hb0 ho0
    go_enter Tryz.func286, Tryz.ntmps286
    go_wp2_with fail
    refine (limb_Of _ _ (by omega) HW.out).mono ?_
    rintro e w1 ⟨v1, ys, rfl, hm1, hv1, hl1, ho1, hb1⟩
    have HM1 := Ho.mk hm1
    have HV1 := Ho.mk hv1
    have HS1 := Ho.mk ho1.sl
    have HB1 := Ho.mk (below_base HB0.out HB0.out.size hb1)
    have HO1 := Ho.mk (HO0.out.below hb1)
    clear hm1 hv1 ho1 hb1
    go_wp2_with fail
    refine (limb_Of _ _ (by omega) HW.out).mono ?_
    rintro e w2 ⟨v2, zs, rfl, hm2, hv2, hl2, ho2, hb2⟩
    have HM2 := Ho.mk hm2
    have HV2 := Ho.mk hv2
    have HS2 := Ho.mk ho2.sl
    have HS1 := Ho.mk (HS1.out.below hb2)
    have HB2 := Ho.mk (below_base HB1.out HB1.out.size hb2)
    have HO2 := Ho.mk (HO1.out.below hb2)
    clear hm2 hv2 ho2 hb2
    go_wp2_with fail
    refine (limb_Bits _ zs _ HS2.out HM2.out.1 (by omega)).mono ?_
    rw [HV2.out, Int.toNat_natCast]
    rintro e w3 ⟨rfl, rfl⟩
    go_wp2_with fail
    refine (limb_Bytes _ ys _ _ HS1.out HM1.out.1 (by omega)).mono ?_
    rw [HV1.out, Int.toNat_natCast]
    rintro e w3 ⟨hb3, ⟨hbad, _⟩ | ⟨_, v3, rfl, ho3⟩⟩
    · omega
    have eL : ((nbits xs.length + 7 : Int) / 8).toNat = (nbits xs.length + 7) / 8 := by omega
    rw [eL] at ho3
    have HB3 := Ho.mk (below_base HB2.out HB2.out.size hb3)
    have HO3 := Ho.mk (HO2.out.below hb3)
    have hs3 := ho3.sl
    have hll := beb_length ((nbits xs.length + 7) / 8) xs.length
    obtain ⟨A3, c3, e3, b31, b32, b33, r3⟩ := hs3
    rw [hll] at e3 b31
    subst e3
    have HV3 := Ho.mk ho3
    have hz2 := (HO2.out.block _ rfl).2
    have hq3 : (nbits xs.length + 7) / 8 ≤ 8 := by omega
    have HL := Ho.mk hll
    clear hb3 ho3 hll r3 eL
    go_wp2_with (first | (at_builtin; refine wpList_app rfl (.tmp 34) (.tmp 39) 22 5 .u8 1 rfl Tryz.underlying22 info_u8 w.heap.size _ [t % 256] _ [128 + ((nbits xs.length : Int) + 7) / 8] rfl rfl (HO3.out.alloc _) (sl_one _ _ _ _) (by have := HB3.out.size; simp; omega) (by simp) (by simp) ?_; intro v4 w4 ho4 hg4 hat4; have HB4 := Ho.mk ((HB3.out.alloc HB3.out.size _).grown hg4 (by have := HB3.out.size; simp; omega) (fun b hb => (HO3.out.block b hb).1)); have HX4 := Ho.mk ho4; have hs4 := ((HV3.out.alloc _).past hg4 rfl hz2).sl; clear hg4 hat4 ho4) | (at_builtin; refine wpList_app rfl (.tmp 40) (.tmp 41) 22 5 .u8 1 rfl Tryz.underlying22 info_u8 w.heap.size _ _ _ (beb ((nbits xs.length + 7) / 8) xs.length) rfl rfl HX4.out hs4 HB4.out.size (by simp [beb_length]; omega) (by simp [beb_length]; omega) ?_; intro v5 w5 ho5 hg5 hat5; have HB5 := Ho.mk (HB4.out.grown hg5 HB4.out.size (fun b hb => (HX4.out.block b hb).1)); have HX5 := Ho.mk ho5; have hs5 := hs0.below HB5.out; clear hg5 hat5 ho5) | (at_builtin; refine wpList_app rfl (.tmp 43) (.tmp 44) 22 5 .u8 1 rfl Tryz.underlying22 info_u8 w.heap.size _ _ _ xs rfl rfl HX5.out hs5 HB5.out.size (by simp [beb_length]; omega) (by simp [beb_length]; omega) ?_; intro v6 w6 ho6 hg6 hat6; have HB6 := Ho.mk (HB5.out.grown hg6 HB5.out.size (fun b hb => (HX5.out.block b hb).1)); have HX6 := Ho.mk ho6; clear hg6 hat6 ho6))
    go_ret
    refine ⟨_, rfl, ?_, HB6.out⟩
    have e : hdr xs.length = (128 + ((nbits xs.length : Int) + 7) / 8) :: beb ((nbits xs.length + 7) / 8) xs.length := by
      unfold hdr; rw [if_neg hn]; congr 1
    rw [e]
    have := HX6.out
    simpa using this

end Go.Proofs.YthjcldkaodmfoaaGreat
