/-
  What der.head returns. Conditions: those that each theorem types.
-/
import Derived.Test.YthjcldkaodmfoaaGreatDerE
namespace Go.Proofs.YthjcldkaodmfoaaGreat
open Go.RowKit

/-! ### Slices of slices -/
/-- The address of 'x[k:]'. -/
def cutA (A : Option Addr) (k c : Nat) : Option Addr := if c = k then A else A.map (·.add k)
theorem run_cut_l {t : TypeId} {A : Option Addr} {n c k : Nat} (ht : Tryz.prog.underlying t = some (.slice (Tryz.prog.elem t))) (hs : ∀ w, (sizeOf (Tryz.prog.elem t)).run Tryz.prog w = .ok 1 w) (hk : k ≤ n) (w : World) :
    (Instr.slice t (.slice A n c) (some (.int .i64 (k : Int))) none none).run Tryz.prog w = .ok (.slice (cutA A k c) (n - k) (c - k)) w := by
  rw [run_slice_l w t A n c ht .i64 k (by omega) (by omega), hs]
  simp [Result.andThen, sliced, cutA]
theorem SlI.cut_l {w : World} {k : IntKind} {A : Option Addr} {c : Nat} {xs : List Int} (h : SlI w k (.slice A xs.length c) xs) (j : Nat) (hj : j ≤ xs.length) : SlI w k (.slice (cutA A j c) (xs.length - j) (c - j)) (xs.drop j) := by
  obtain ⟨A', c', e, h1, h2, h3, hr⟩ := h
  simp only [Value.slice.injEq, true_and] at e
  obtain ⟨rfl, rfl⟩ := e
  refine ⟨cutA A j c, c - j, by rw [List.length_drop], by rw [List.length_drop]; omega, by omega, fun e => ?_, fun hn => ?_⟩
  · unfold cutA at e
    split at e
    · omega
    · simp only [Option.map_eq_none_iff] at e
      have := h3 e; omega
  · rw [List.length_drop] at hn
    obtain ⟨b, o, rfl, _⟩ := hr (by omega)
    have hq := hr.drop j
    unfold cutA
    rw [if_neg (by omega)]
    simp only [Option.map_some, Addr.add_lit]
    obtain ⟨b2, o2, e2, hc2⟩ := hq (by rw [List.length_drop]; omega)
    exact ⟨b2, o2, e2, hc2⟩
theorem SlI.cut_h {w : World} {k : IntKind} {A : Option Addr} {c : Nat} {xs : List Int} (h : SlI w k (.slice A xs.length c) xs) (j : Nat) (hj : j ≤ xs.length) : SlI w k (.slice A j c) (xs.take j) := by
  obtain ⟨A', c', e, h1, h2, h3, hr⟩ := h
  simp only [Value.slice.injEq, true_and] at e
  obtain ⟨rfl, rfl⟩ := e
  have hl : (xs.take j).length = j := by rw [List.length_take]; omega
  exact ⟨A, c, by rw [hl], by omega, h2, h3, hr.take j⟩
theorem size_u8 (w : World) : (sizeOf (Tryz.prog.elem 22)).run Tryz.prog w = .ok 1 w := by kernel_rfl

/-! ### der.head -/
def hd3 (b : List Int) : Option (Int × List Int × List Int) :=
  if b.length < 2 then none
  else if gx b 1 < 128 then (if gx b 1 ≤ ((b.drop 2).length : Int) then some (gx b 0, (b.drop 2).take (gx b 1).toNat, (b.drop 2).drop (gx b 1).toNat) else none)
  else if gx b 1 - 128 < 1 ∨ 3 < gx b 1 - 128 ∨ ((b.drop 2).length : Int) < gx b 1 - 128 ∨ gx (b.drop 2) 0 = 0 then none
  else if bev ((b.drop 2).take (gx b 1 - 128).toNat) < 128 then none
  else if bev ((b.drop 2).take (gx b 1 - 128).toNat) ≤ ((b.drop 2).drop (gx b 1 - 128).toNat).length then
    some (gx b 0, ((b.drop 2).drop (gx b 1 - 128).toNat).take (bev ((b.drop 2).take (gx b 1 - 128).toNat)), ((b.drop 2).drop (gx b 1 - 128).toNat).drop (bev ((b.drop 2).take (gx b 1 - 128).toNat)))
  else none
def HdPost (b : List Int) (w : World) (e : Ending) (w' : World) : Prop := (∃ q, w' = w.drewN q) ∧
  ((hd3 b = none ∧ e = .returned (.tuple #[.int .i64 0, .slice none 0 0, .slice none 0 0, .bool false])) ∨
   ∃ t h r v1 v2, hd3 b = some (t, h, r) ∧ e = .returned (.tuple #[.int .i64 t, v1, v2, .bool true]) ∧ SlI w .u8 v1 h ∧ SlI w .u8 v2 r)

theorem wraps_i64 (n : Int) (h0 : 0 ≤ n) (h1 : n < 2 ^ 63) : IntKind.i64.wrap n = n := IntWalk.i64_in n ⟨by omega, by omega⟩
/-- n<<8 | x -/
theorem or_shift8 (N : Nat) (x : Int) (hN : N < 281474976710656) (h0 : 0 ≤ x) (h1 : x < 256) : bits .or .i64 ((N : Int) * 256) x = ((N * 256 + x.toNat : Nat) : Int) := by
  have h5 : (2 : Int) ^ 63 = 9223372036854775808 := by decide
  have h6 : (2 : Int) ^ 8 = 256 := by decide
  rw [bits_join .i64 63 (by decide) (fun n a b => wraps_i64 n a b) 8 _ _ (by omega) (by rw [h6]; omega) (by omega) h0 (by rw [h6]; exact h1) (by omega)]
  omega

set_option maxHeartbeats 1000000 in
set_option maxRecDepth 100000 in
theorem der_head (v : Value) (b : List Int) (w : World) (h : SlI w .u8 v b) (hd : Dg 256 b) :
    Calls Tryz.prog 299 #[v] w (HdPost b w) := by
  have hs := h
  obtain ⟨A, c, rfl, h1, h2, h3, hr⟩ := h
  have HD := Ho.mk hd
  clear hd
  by_cases hlen : b.length < 2
  · have q : decide ((b.length : Int) < 2) = true := dect (by omega)
    go_enter Tryz.func299, Tryz.ntmps299
    go_wp2
    refine bodyPost_ret (v := .tuple #[.int .i64 0, .slice none 0 0, .slice none 0 0, .bool false]) (by simp [results, Tryz.results299, go_sem]) rfl ⟨⟨0, rfl⟩, .inl ⟨?_, rfl⟩⟩
    unfold hd3; rw [if_pos hlen]
  · have q : decide ((b.length : Int) < 2) = false := decf (by omega)
    obtain ⟨bl, o, rfl, hcell⟩ := hr (by omega)
    have hc0 : w.cell? ⟨bl, o, none⟩ = some (.int .u8 (gx b 0)) := hcell 0 (by omega)
    have hc1 := hcell 1 (by omega)
    have hl0 : (0 : Int) < b.length := by omega
    have hl1 : (1 : Int) < b.length := by omega
    have hrs := hs.cut_l 2 (by omega)
    obtain ⟨A2, HA2⟩ : ∃ A2, Ho (cutA (some ⟨bl, o, none⟩) 2 c = A2) := ⟨_, ⟨rfl⟩⟩
    obtain ⟨m, Hm⟩ : ∃ m, Ho (b.length - 2 = m) := ⟨_, ⟨rfl⟩⟩
    obtain ⟨c2, Hc2⟩ : ∃ c2, Ho (c - 2 = c2) := ⟨_, ⟨rfl⟩⟩
    have hcut : ∀ W, (Instr.slice 22 (.slice (some ⟨bl, o, none⟩) b.length c) (some (.int .i64 2)) none none).run Tryz.prog W = .ok (.slice A2 m c2) W := fun W => by
      have := run_cut_l (t := 22) (A := some ⟨bl, o, none⟩) (n := b.length) (c := c) (k := 2) Tryz.underlying22 size_u8 (by omega) W
      rw [HA2.out, Hm.out, Hc2.out] at this
      exact this
    rw [HA2.out, Hm.out, Hc2.out] at hrs
    have Hrl : Ho ((b.drop 2).length = m) := ⟨by rw [List.length_drop]; exact Hm.out⟩
    obtain ⟨rs, HR⟩ : ∃ rs, Ho (b.drop 2 = rs) := ⟨_, ⟨rfl⟩⟩
    rw [HR.out] at hrs
    have Hrl2 : Ho (rs.length = m) := ⟨by rw [← HR.out]; exact Hrl.out⟩
    have hm63 : m ≤ 9223372036854775807 := by have := Hm.out; omega
    have hmc : m ≤ c2 ∧ c2 ≤ 9223372036854775807 := by have := Hm.out; have := Hc2.out; omega
    have HRS := Ho.mk hrs
    obtain ⟨n1, hn1⟩ := Int.eq_ofNat_of_zero_le (HD.out 1).1
    have hn256 : n1 < 256 := by have := (HD.out 1).2; omega
    have HN1 := Ho.mk hn1
    have hg00 := (HD.out 0).1
    have hg01 : gx b 0 < 256 := (HD.out 0).2
    rw [hn1] at hc1
    clear hcell hrs hs hn1
    by_cases hn : n1 < 128
    · have q1 : decide (128 ≤ (n1 : Int)) = false := decf (by omega)
      by_cases hfit : n1 ≤ m
      · have q2 : decide ((m : Int) < (n1 : Int)) = false := decf (by omega)
        obtain ⟨A3, HA3⟩ : ∃ A3, Ho (cutA A2 n1 c2 = A3) := ⟨_, ⟨rfl⟩⟩
        have hcut3 : ∀ W, (Instr.slice 22 (.slice A2 m c2) (some (.int .i64 (n1 : Int))) none none).run Tryz.prog W = .ok (.slice A3 (m - n1) (c2 - n1)) W := fun W => by
          have := run_cut_l (t := 22) (A := A2) (n := m) (c := c2) (k := n1) Tryz.underlying22 size_u8 hfit W
          rw [HA3.out] at this
          exact this
        have hnc : n1 ≤ c2 := by omega
        go_enter Tryz.func299, Tryz.ntmps299
        go_wp2
        go_region
        go_wp2
        go_region
        go_wp2
        refine bodyPost_ret (v := .tuple #[.int .i64 (gx b 0), .slice A2 n1 c2, .slice A3 (m - n1) (c2 - n1), .bool true]) (by simp [results, Tryz.results299, go_sem]) rfl ⟨⟨2, rfl⟩, .inr ⟨gx b 0, rs.take n1, rs.drop n1, _, _, ?_, rfl, ?_, ?_⟩⟩
        · unfold hd3
          rw [if_neg hlen, HN1.out, if_pos (by omega), HR.out, Hrl2.out, if_pos (by omega)]
          rfl
        · have hx := HRS.out
          rw [← Hrl2.out] at hx
          exact hx.cut_h n1 (by rw [Hrl2.out]; exact hfit)
        · have hx := HRS.out
          rw [← Hrl2.out] at hx
          have := hx.cut_l n1 (by rw [Hrl2.out]; exact hfit)
          rwa [HA3.out, Hrl2.out] at this
      · have q2 : decide ((m : Int) < (n1 : Int)) = true := dect (by omega)
        go_enter Tryz.func299, Tryz.ntmps299
        go_wp2
        go_region
        go_wp2
        refine bodyPost_ret (v := .tuple #[.int .i64 0, .slice none 0 0, .slice none 0 0, .bool false]) (by simp [results, Tryz.results299, go_sem]) rfl ⟨⟨1, rfl⟩, .inl ⟨?_, rfl⟩⟩
        unfold hd3
        rw [if_neg hlen, HN1.out, if_pos (by omega), HR.out, Hrl2.out, if_neg (by omega)]
    · have q1 : decide (128 ≤ (n1 : Int)) = true := dect (by omega)
      have hbad : ∀ (p : (n1 : Int) - 128 < 1 ∨ 3 < (n1 : Int) - 128 ∨ (m : Int) < (n1 : Int) - 128 ∨ gx rs 0 = 0), hd3 b = none := fun p => by
        unfold hd3
        rw [if_neg hlen, HN1.out, if_neg (by omega), HR.out, Hrl2.out, if_pos p]
      have HBad := Ho.mk hbad
      clear hbad
      by_cases p1 : (n1 : Int) - 128 < 1
      · have r1 : decide ((n1 : Int) - 128 < 1) = true := dect p1
        go_enter Tryz.func299, Tryz.ntmps299
        go_wp2
        go_region
        go_wp2
        refine bodyPost_ret (v := .tuple #[.int .i64 0, .slice none 0 0, .slice none 0 0, .bool false]) (by simp [results, Tryz.results299, go_sem]) rfl ⟨⟨1, rfl⟩, .inl ⟨?_, rfl⟩⟩
        exact HBad.out (.inl p1)
      have r1 : decide ((n1 : Int) - 128 < 1) = false := decf p1
      by_cases p2 : 3 < (n1 : Int) - 128
      · have r2 : decide (3 < (n1 : Int) - 128) = true := dect p2
        go_enter Tryz.func299, Tryz.ntmps299
        go_wp2
        go_region
        go_wp2
        refine bodyPost_ret (v := .tuple #[.int .i64 0, .slice none 0 0, .slice none 0 0, .bool false]) (by simp [results, Tryz.results299, go_sem]) rfl ⟨⟨1, rfl⟩, .inl ⟨?_, rfl⟩⟩
        exact HBad.out (.inr (.inl p2))
      have r2 : decide (3 < (n1 : Int) - 128) = false := decf p2
      by_cases p3 : (m : Int) < (n1 : Int) - 128
      · have r3 : decide ((m : Int) < (n1 : Int) - 128) = true := dect p3
        go_enter Tryz.func299, Tryz.ntmps299
        go_wp2
        go_region
        go_wp2
        refine bodyPost_ret (v := .tuple #[.int .i64 0, .slice none 0 0, .slice none 0 0, .bool false]) (by simp [results, Tryz.results299, go_sem]) rfl ⟨⟨1, rfl⟩, .inl ⟨?_, rfl⟩⟩
        exact HBad.out (.inr (.inr (.inl p3)))
      have r3 : decide ((m : Int) < (n1 : Int) - 128) = false := decf p3
      obtain ⟨b2, o2, hA2, hcell2⟩ : ∃ b2 o2, A2 = some ⟨b2, o2, none⟩ ∧ ∀ j, j < m → w.cell? ⟨b2, o2 + j, none⟩ = some (.int .u8 (gx rs j)) := by
        obtain ⟨A', c', e, _, _, _, hr'⟩ := HRS.out
        simp only [Value.slice.injEq] at e
        obtain ⟨rfl, e2, rfl⟩ := e
        obtain ⟨b2, o2, e3, hq⟩ := hr' (by omega)
        exact ⟨b2, o2, e3, fun j hj => hq j (by omega)⟩
      subst hA2
      have hd0 : w.cell? ⟨b2, o2, none⟩ = some (.int .u8 (gx rs 0)) := hcell2 0 (by omega)
      have hmp : (0 : Int) < m := by omega
      by_cases p4 : gx rs 0 = 0
      · have r4 : (gx rs 0 == 0) = true := beq_iff_eq.2 p4
        have HP := Ho.mk p4
        clear p4 hcell2
        go_enter Tryz.func299, Tryz.ntmps299
        go_wp2
        go_region
        go_wp2
        refine bodyPost_ret (v := .tuple #[.int .i64 0, .slice none 0 0, .slice none 0 0, .bool false]) (by simp [results, Tryz.results299, go_sem]) rfl ⟨⟨1, rfl⟩, .inl ⟨?_, rfl⟩⟩
        exact HBad.out (.inr (.inr (.inr HP.out)))
      have r4 : (gx rs 0 == 0) = false := beq_eq_false_iff_ne.2 p4
      have hkm : n1 - 128 ≤ m := by omega
      have hk3 : n1 - 128 ≤ 3 := by omega
      obtain ⟨A4, HA4⟩ : ∃ A4, Ho (cutA (some ⟨b2, o2, none⟩) (n1 - 128) c2 = A4) := ⟨_, ⟨rfl⟩⟩
      obtain ⟨m4, Hm4⟩ : ∃ m4, Ho (m - (n1 - 128) = m4) := ⟨_, ⟨rfl⟩⟩
      obtain ⟨c4, Hc4⟩ : ∃ c4, Ho (c2 - (n1 - 128) = c4) := ⟨_, ⟨rfl⟩⟩
      have hcut4 : ∀ W, (Instr.slice 22 (.slice (some ⟨b2, o2, none⟩) m c2) (some (.int .i64 ((n1 : Int) - 128))) none none).run Tryz.prog W = .ok (.slice A4 m4 c4) W := fun W => by
        have := run_cut_l (t := 22) (A := some ⟨b2, o2, none⟩) (n := m) (c := c2) (k := n1 - 128) Tryz.underlying22 size_u8 hkm W
        rw [HA4.out, Hm4.out, Hc4.out, show ((n1 - 128 : Nat) : Int) = (n1 : Int) - 128 by omega] at this
        exact this
      have hrs4 : Ho (SlI w .u8 (.slice A4 m4 c4) (rs.drop (n1 - 128))) := ⟨by
        have hx := HRS.out
        rw [← Hrl2.out] at hx
        have := hx.cut_l (n1 - 128) (by rw [Hrl2.out]; exact hkm)
        rwa [HA4.out, Hrl2.out, Hm4.out, Hc4.out] at this⟩
      obtain ⟨M, HM⟩ : ∃ M, Ho (bev (rs.take (n1 - 128)) = M) := ⟨_, ⟨rfl⟩⟩
      have hdr : Ho (Dg 256 rs) := ⟨by rw [← HR.out]; exact HD.out.drop 2⟩
      have hM : M < 16777216 := by
        have h1 := bev_lt (hdr.out.take (n1 - 128))
        rw [HM.out] at h1
        have h2 : (256 : Nat) ^ (rs.take (n1 - 128)).length ≤ 256 ^ 3 := Nat.pow_le_pow_right (by decide) (by rw [List.length_take]; omega)
        have h3 : (256 : Nat) ^ 3 = 16777216 := by decide
        omega
      have hM4 : m4 ≤ c4 ∧ c4 ≤ 9223372036854775807 := by have := Hm4.out; have := Hc4.out; omega
      have hcc : n1 - 128 ≤ c2 := by omega
      go_enter Tryz.func299, Tryz.ntmps299
      go_wp2
      go_region
      go_wp2
      go_loop [7, 51] (fun nv i => ∃ (j N : Nat), j ≤ n1 - 128 ∧ i = .int .i64 j ∧ nv = .int .i64 N ∧ N < 16777216 ∧ Ho (N = bev (rs.take j))) (fun _ i => n1 - 128 - (intOf i).toNat)
      case atStart => exact ⟨0, 0, by omega, rfl, rfl, by omega, ⟨by simp [bev]⟩⟩
      case round =>
        obtain ⟨j, N, hj, rfl, rfl, hN, hz⟩ := hrel
        by_cases hlt : j < n1 - 128
        · have hcj := hcell2 j (by omega)
          have hxj := hdr.out j
          have hxj0 := hxj.1
          have hxj1 : gx rs j < 256 := hxj.2
          have HS := Ho.mk (bev_take_succ (xs := rs) (n := j) (by have := Hrl2.out; omega))
          have hlt' : (j : Int) < (n1 : Int) - 128 := by omega
          clear hxj hcell2
          go_wp2
          go_round
          case rel =>
            have hNb : bev (rs.take (j + 1)) < 16777216 := by
              have h1 := bev_lt (hdr.out.take (j + 1))
              have h2 : (256 : Nat) ^ (rs.take (j + 1)).length ≤ 256 ^ 3 := Nat.pow_le_pow_right (by decide) (by rw [List.length_take]; omega)
              have h3 : (256 : Nat) ^ 3 = 16777216 := by decide
              omega
            refine ⟨j + 1, bev (rs.take (j + 1)), by omega, by go_num, ?_, hNb, ⟨rfl⟩⟩
            rw [or_shift8 N _ (by omega) hxj0 hxj1, HS.out, hz.out]
          case measure => simp [intOf]; omega
        · have hje : j = n1 - 128 := by omega
          have hNM : N = M := by rw [hz.out, hje, HM.out]
          subst hNM
          clear hz hcell2
          by_cases hM1 : N < 128
          · have s1 : decide ((N : Int) < 128) = true := dect (by omega)
            go_wp2
            refine bodyPost_ret (v := .tuple #[.int .i64 0, .slice none 0 0, .slice none 0 0, .bool false]) (by simp [results, Tryz.results299, go_sem]) rfl ⟨⟨1, rfl⟩, .inl ⟨?_, rfl⟩⟩
            unfold hd3
            rw [if_neg hlen, HN1.out, if_neg (by omega), HR.out, Hrl2.out, if_neg (by omega), show ((n1 : Int) - 128).toNat = n1 - 128 by omega, HM.out, if_pos hM1]
          have s1 : decide ((N : Int) < 128) = false := decf (by omega)
          have hl4 : (rs.drop (n1 - 128)).length = m4 := by rw [List.length_drop, Hrl2.out]; exact Hm4.out
          have HL4 := Ho.mk hl4
          clear hl4
          by_cases hfit : N ≤ m4
          · have s2 : decide ((m4 : Int) < (N : Int)) = false := decf (by omega)
            obtain ⟨A5, HA5⟩ : ∃ A5, Ho (cutA A4 N c4 = A5) := ⟨_, ⟨rfl⟩⟩
            have hcut5 : ∀ W, (Instr.slice 22 (.slice A4 m4 c4) (some (.int .i64 (N : Int))) none none).run Tryz.prog W = .ok (.slice A5 (m4 - N) (c4 - N)) W := fun W => by
              have := run_cut_l (t := 22) (A := A4) (n := m4) (c := c4) (k := N) Tryz.underlying22 size_u8 hfit W
              rw [HA5.out] at this
              exact this
            have hnc : N ≤ c4 := by omega
            go_wp2
            go_region
            go_wp2
            refine bodyPost_ret (v := .tuple #[.int .i64 (gx b 0), .slice A4 N c4, .slice A5 (m4 - N) (c4 - N), .bool true]) (by simp [results, Tryz.results299, go_sem]) rfl ⟨⟨2, rfl⟩, .inr ⟨gx b 0, (rs.drop (n1 - 128)).take N, (rs.drop (n1 - 128)).drop N, _, _, ?_, rfl, ?_, ?_⟩⟩
            · unfold hd3
              rw [if_neg hlen, HN1.out, if_neg (by omega), HR.out, Hrl2.out, if_neg (by omega), show ((n1 : Int) - 128).toNat = n1 - 128 by omega, HM.out, if_neg hM1, HL4.out, if_pos hfit]
            · have hx := hrs4.out
              rw [← HL4.out] at hx
              exact hx.cut_h N (by rw [HL4.out]; exact hfit)
            · have hx := hrs4.out
              rw [← HL4.out] at hx
              have := hx.cut_l N (by rw [HL4.out]; exact hfit)
              rwa [HA5.out, HL4.out] at this
          · have s2 : decide ((m4 : Int) < (N : Int)) = true := dect (by omega)
            go_wp2
            refine bodyPost_ret (v := .tuple #[.int .i64 0, .slice none 0 0, .slice none 0 0, .bool false]) (by simp [results, Tryz.results299, go_sem]) rfl ⟨⟨1, rfl⟩, .inl ⟨?_, rfl⟩⟩
            unfold hd3
            rw [if_neg hlen, HN1.out, if_neg (by omega), HR.out, Hrl2.out, if_neg (by omega), show ((n1 : Int) - 128).toNat = n1 - 128 by omega, HM.out, if_neg hM1, HL4.out, if_neg hfit]

end Go.Proofs.YthjcldkaodmfoaaGreat
