/-
  What DerEdges returns. Conditions: those that each theorem types.
-/
import Derived.Test.YthjcldkaodmfoaaEdgeA
import Derived.Test.YthjcldkaodmfoaaRefE
namespace Go.Proofs.Ythjcldkaodmfoaa
open Go.RowKit

theorem ref1_Is_true (u v : Value) (ms ns : List Int) (w : World) (ha : SlI w .u64 u ms) (h : SlI w .u64 v ns) (hm : Nm W64 ms) (hn : Nm B32 ns) (hl : ns.length ≤ 1099511627776) (he : nvB W64 ms = nvB B32 ns) :
    Calls Try.prog 15 #[u, v] w fun e w' => e = .returned (.bool true) ∧ Below w.heap.size w w' :=
  (ref1_Is u v ms ns w ha h hn hl).mono fun e w' ⟨r, he', hr, hb⟩ => ⟨by rw [he', hr.2 ⟨hm, he⟩], hb⟩
theorem nm_len {xs : List Int} (h : Nm B32 xs) {k : Nat} (hk : nbits (nvB B32 xs) ≤ 32 * k) : xs.length ≤ k := by
  refine Nat.le_of_not_lt fun hh => ?_
  have h1 := h.lower (by omega)
  have h2 := nbits_le_iff.1 hk
  have h3 : B32 ^ k ≤ B32 ^ (xs.length - 1) := Nat.pow_le_pow_right B32_pos (by omega)
  rw [Nat.pow_mul, ← B32_pow] at h2
  omega

theorem edge_bits {N M : Nat} (h : M ≤ 2 ^ N + 1) : nbits M ≤ N + 2 := nbits_le_iff.2 (by
  rw [Nat.pow_add]
  have := Nat.two_pow_pos N
  omega)
theorem int_wr (N : Nat) (hN : nbits N ≤ 100000) : (intNd N).wr = some (intNd N).enc := by
  unfold Nd.wr
  rw [if_pos ⟨int_ok N, int_len N hN⟩]
/-- A round's number. -/
def EdgeNum (w : World) (g k : Nat) : Prop := ∃ A c xs, w.cell? ⟨g, k, none⟩ = some (.slice A xs.length c) ∧ SlI w .u64 (.slice A xs.length c) xs ∧ Nm B32 xs ∧ nbits (nvB B32 xs) ≤ 640

set_option maxHeartbeats 1000000 in
set_option maxRecDepth 100000 in
theorem edge_walk (n : Int) (w : World) :
    Calls Try.prog 3 #[.int .i64 n] w fun e w' => e = .returned (.bool true) ∧ Below w.heap.size w w' := by
  by_cases hn0 : n < 0
  · have q1 : decide (n < 0) = true := dect hn0
    go_enter Try.func3, Try.ntmps3
    go_wp2_with fail
    refine (law11_begun w).mono ?_
    rintro e w1 ⟨rfl, hb1⟩
    go_wp2
    go_ret
    exact ⟨rfl, hb1⟩
  by_cases hn6 : 600 < n
  · have q1 : decide (n < 0) = false := decf hn0
    have q2 : decide (600 < n) = true := dect hn6
    go_enter Try.func3, Try.ntmps3
    go_wp2_with fail
    refine (law11_begun w).mono ?_
    rintro e w1 ⟨rfl, hb1⟩
    go_wp2
    go_ret
    exact ⟨rfl, hb1⟩
  have q1 : decide (n < 0) = false := decf hn0
  have q2 : decide (600 < n) = false := decf hn6
  obtain ⟨N, rfl⟩ := Int.eq_ofNat_of_zero_le (show 0 ≤ n by omega)
  have hN : N ≤ 600 := by omega
  go_enter Try.func3, Try.ntmps3
  go_wp2_with fail
  refine (law11_begun w).mono ?_
  rintro e w1 ⟨rfl, hb1⟩
  have HB1 := Ho.mk hb1
  clear hb1
  go_wp2_with fail
  refine (ref1_Of 1 w1 (by decide) (by decide)).mono ?_
  rintro e w2 ⟨v2, ys2, rfl, hm2, hv2, hs2, hb2⟩
  have HS2 := Ho.mk hs2
  obtain ⟨A2, c2, rfl, _⟩ := hs2
  have HM2 := Ho.mk hm2
  have HV2 := Ho.mk (show nvB B32 ys2 = 1 from hv2)
  have HB2 := Ho.mk (below_base HB1.out HB1.out.size hb2)
  clear hm2 hv2 hb2
  go_wp2_with fail
  refine (ref1_Power2 N w2 (by omega)).mono ?_
  rintro e w3 ⟨v3, ys3, rfl, hm3, hv3, hs3, hb3⟩
  have HS3 := Ho.mk hs3
  obtain ⟨A3, c3, rfl, _⟩ := hs3
  have HM3 := Ho.mk hm3
  have HV3 := Ho.mk hv3
  have HS2 := Ho.mk (HS2.out.below hb3)
  have HB3 := Ho.mk (below_base HB2.out HB2.out.size hb3)
  have hl2 : ys2.length ≤ 20 := nm_len HM2.out (by rw [HV2.out]; exact Nat.le_trans (edge_bits (N := 0) (by decide)) (by decide))
  have hl3 : ys3.length ≤ 20 := nm_len HM3.out (by rw [HV3.out]; exact Nat.le_trans (edge_bits (N := N) (Nat.le_succ _)) (by omega))
  have hpos : 0 < 2 ^ N := Nat.two_pow_pos N
  have HPos := Ho.mk hpos
  clear hm3 hv3 hb3 hpos
  go_wp2_with fail
  refine (ref1_Sub _ _ ys3 ys2 w3 HS3.out HS2.out HM3.out HM2.out (by rw [HV2.out, HV3.out]; exact HPos.out) (by omega)).mono ?_
  rintro e w4 ⟨v4, ys4, rfl, hm4, hv4, hs4, hb4⟩
  rw [HV3.out, HV2.out] at hv4
  have HS4 := Ho.mk hs4
  obtain ⟨A4, c4, rfl, _⟩ := hs4
  have HM4 := Ho.mk hm4
  have HV4 := Ho.mk hv4
  have HS3 := Ho.mk (HS3.out.below hb4)
  have HS2 := Ho.mk (HS2.out.below hb4)
  have HB4 := Ho.mk (below_base HB3.out HB3.out.size hb4)
  clear hm4 hv4 hb4
  go_wp2_with fail
  refine (ref1_Add _ _ ys3 ys2 w4 HS3.out HS2.out HM3.out HM2.out (by omega) (by omega)).mono ?_
  rintro e w5 ⟨v5, ys5, rfl, hm5, hv5, hs5, hb5⟩
  rw [HV3.out, HV2.out] at hv5
  have HS5 := Ho.mk hs5
  obtain ⟨A5, c5, rfl, _⟩ := hs5
  have HM5 := Ho.mk hm5
  have HV5 := Ho.mk hv5
  have HS4 := Ho.mk (HS4.out.below hb5)
  have HS3 := Ho.mk (HS3.out.below hb5)
  have HB5 := Ho.mk (below_base HB4.out HB4.out.size hb5)
  clear hm5 hv5 hb5
  go_wp2_with fail
  obtain ⟨W5, hW5⟩ : ∃ W5, w5.alloc (.cells #[.slice A4 ys4.length c4, .slice A3 ys3.length c3, .slice A5 ys5.length c5] 24) = W5 := ⟨_, rfl⟩
  have hx5 : Below w5.heap.size w5 W5 := hW5 ▸ (Below.refl _ _).alloc (Nat.le_refl _) _
  obtain ⟨r0, r1, r2, _⟩ := cell3 (show W5.heap[w5.heap.size]? = _ from hW5 ▸ heap_alloc_new w5 (.cells #[.slice A4 ys4.length c4, .slice A3 ys3.length c3, .slice A5 ys5.length c5] 24))
  have HE : Ho (∀ k, k < 3 → EdgeNum W5 w5.heap.size k) := ⟨fun k hk => by
    match k, hk with
    | 0, _ => exact ⟨A4, c4, ys4, r0, HS4.out.below hx5, HM4.out, by rw [HV4.out]; exact Nat.le_trans (edge_bits (N := N) (Nat.le_trans (Nat.sub_le _ _) (Nat.le_succ _))) (by omega)⟩
    | 1, _ => exact ⟨A3, c3, ys3, r1, HS3.out.below hx5, HM3.out, by rw [HV3.out]; exact Nat.le_trans (edge_bits (N := N) (Nat.le_succ _)) (by omega)⟩
    | 2, _ => exact ⟨A5, c5, ys5, r2, HS5.out.below hx5, HM5.out, by rw [HV5.out]; exact Nat.le_trans (edge_bits (N := N) (Nat.le_refl _)) (by omega)⟩⟩
  have HB5 := Ho.mk (below_base HB5.out HB5.out.size hx5)
  rw [hW5]
  clear r0 r1 r2 hx5 hW5
  go_loopw [7] (fun i wr => ∃ k : Nat, k ≤ 3 ∧ i = .int .i64 k ∧ Ho (Below W5.heap.size W5 wr)) (fun i _ => 3 - (intOf i).toNat)
  case atStart => exact ⟨0, by omega, rfl, ⟨Below.refl _ _⟩⟩
  case round =>
    obtain ⟨k, hk, rfl, hB⟩ := hrel
    by_cases hlt : k < 3
    · obtain ⟨A, c, xs, hc, hs, hm, hbits⟩ := HE.out k hlt
      have hc1 := cell_below hB.out hc
      have HC := Ho.mk hc
      have HS := Ho.mk (hs.below hB.out)
      have HS0 := Ho.mk hs
      have HM := Ho.mk hm
      obtain ⟨M, HMM⟩ : ∃ M, Ho (nvB B32 xs = M) := ⟨_, ⟨rfl⟩⟩
      have hlen : xs.length ≤ 20 := nm_len hm hbits
      rw [HMM.out] at hbits
      have hM : nbits M ≤ 100000 := by omega
      clear hc hs hm
      go_wp2_with fail
      refine (ref1_To _ xs wr HS.out HM.out.1 (by omega)).mono ?_
      rintro e w6 ⟨v6, ys6, rfl, hd6, hl6, hv6, ho6, hb6⟩
      rw [HMM.out] at hv6
      have HS6 := Ho.mk ho6.sl
      have HD6 := Ho.mk hd6
      have hy6 : ys6.length ≤ 4096 := by omega
      have HV6 := Ho.mk hv6
      have HB6 := Ho.mk (below_base hB.out hB.out.size hb6)
      obtain ⟨A6, c6, rfl, _⟩ := ho6.sl
      clear hd6 hv6 ho6 hb6 hc1 hl6
      go_wp2_with fail
      refine (der_Int _ ys6 w6 HS6.out HD6.out hy6).mono ?_
      rintro e w7 ⟨v7, rfl, hn7, hb7⟩
      rw [HV6.out] at hn7
      have HN7 := Ho.mk hn7
      have HB7 := Ho.mk (below_base HB6.out HB6.out.size hb7)
      clear hn7 hb7
      go_wp2_with fail
      refine (der_Write 1 _ _ w7 HN7.out).mono ?_
      rintro e w8 ⟨hb8, ⟨hbad, _⟩ | ⟨_, v8, rfl, ho8⟩⟩
      · rw [int_wr M hM] at hbad
        exact absurd hbad (by simp)
      have HS8 := Ho.mk ho8.sl
      obtain ⟨A8, c8, rfl, _⟩ := ho8.sl
      have HB8 := Ho.mk (below_base HB7.out HB7.out.size hb8)
      have hel := int_len M hM
      clear hb8 ho8
      go_wp2_with fail
      refine (der_Read_leaf _ _ 2 _ [] w8 HS8.out (int_dg M hM) (int_hd3 M hM) (by decide) (plain_int M) (by simp; omega) (by omega)).mono ?_
      rintro e w9 ⟨v9, rfl, hs9, hb9⟩
      rw [show (intNd M).enc.length - ([] : List Int).length = (intNd M).enc.length from rfl]
      have HS9 := Ho.mk hs9
      obtain ⟨A9, c9, rfl, _⟩ := hs9
      have HB9 := Ho.mk (below_base HB8.out HB8.out.size hb9)
      clear hb9
      go_wp2_with fail
      obtain ⟨bb, HBB⟩ : ∃ bb, Ho (beb (nbits M / 8 + 1) M = bb) := ⟨_, ⟨rfl⟩⟩
      have hbl : bb.length = nbits M / 8 + 1 := by rw [← HBB.out, beb_length]
      have HBL := Ho.mk hbl
      rw [HBB.out] at HS9 ⊢
      have hx9 : Below w9.heap.size w9 (w9.alloc (.cells #[.int .i64 2, .slice A9 bb.length c9, .slice none 0 0] 35)) := (Below.refl _ _).alloc (Nat.le_refl _) _
      have hr9 := heap_alloc_new w9 (.cells #[.int .i64 2, .slice A9 bb.length c9, .slice none 0 0] 35)
      refine (der_Nat_num 1 bb _ _ (NdV.leaf (HS9.out.below hx9) (by rw [← HBB.out]; exact beb_dg _ _) (by omega)) (by rw [← HBB.out]; exact int_ok M)).mono ?_
      rintro e w10 ⟨v10, zs, rfl, hm10, hv10, ho10, hb10⟩
      rw [← HBB.out, int_bev] at hv10
      have HB10 := Ho.mk (below_base HB9.out HB9.out.size (below_base hx9 hx9.size hb10))
      have HM10 := Ho.mk hm10
      have HV10 := Ho.mk hv10
      have HS10 := Ho.mk ho10.sl
      have HR10 := Ho.mk (row_below hb10 hr9)
      obtain ⟨A10, c10, rfl, _⟩ := ho10.sl
      have HSx := Ho.mk (HS0.out.below HB10.out)
      have HCx := Ho.mk (cell_below HB10.out HC.out)
      clear hbl hx9 hr9 hm10 hv10 ho10 hb10
      go_wp2_with fail
      obtain ⟨m0, m1, m2, _⟩ := cell3 HR10.out
      have hcx := HCx.out
      have hxl : xs.length ≤ 1099511627776 := by omega
      have HVE : Ho (nvB W64 zs = nvB B32 xs) := ⟨by rw [HV10.out, HMM.out]⟩
      have hk0 : (0 : Int) ≤ (k : Int) := by omega
      have hk3 : (k : Int) < 3 := by omega
      go_region_held3 (fun w' => w'.cell? ⟨w5.heap.size, k, none⟩ = some (.slice A xs.length c) ∧ w'.cell? ⟨w9.heap.size, 1, none⟩ = some (.slice A9 bb.length c9) ∧ Below w10.heap.size w10 w')
        (first | exact ⟨hcx, m1, below_drewN (Below.refl _ _) 1⟩ | exact ⟨cell_below (w := w10.drew) hbI hcx, cell_below (w := w10.drew) hbI m1, below_base (below_drewN (Below.refl _ _) 1) (Nat.le_refl _) hbI⟩)
        (first
          | (go_at_call 15; refine (ref1_Is_true _ _ zs xs w10.drew (HS10.out.drewN 1) (HSx.out.drewN 1) HM10.out HM.out hxl HVE.out).mono ?_; rintro e w' ⟨rfl, hbI⟩)
          | (go_at_call 16; refine (ref1_Bits _ xs _ ?_ HM.out hxl).mono ?_; exact HSx.out.below (below_base (below_drewN (Below.refl _ _) 1) (Nat.le_refl _) hbI); rintro e w' ⟨rfl, rfl⟩))
      have HBI := Ho.mk (below_base (below_drewN (Below.refl w10.heap.size w10) 1) (Nat.le_refl _) hbI)
      have hq1 : ((bb.length : Int) != IntKind.i64.wrap (IntKind.i64.wrap ((nbits (nvB B32 xs) : Int) / 8) + 1)) = false := by
        rw [HMM.out, HBL.out, IntWalk.i64_in ((nbits M : Int) / 8) (by omega), IntWalk.i64_in ((nbits M : Int) / 8 + 1) (by omega)]
        simp
      go_wp2
      go_roundw
      case rel => exact ⟨k + 1, by omega, by go_num, ⟨below_base HB10.out HB10.out.size HBI.out⟩⟩
      case measure => simp [intOf]; omega
    · go_wp2
      go_ret
      exact ⟨rfl, below_base HB5.out HB5.out.size hB.out⟩

end Go.Proofs.Ythjcldkaodmfoaa
