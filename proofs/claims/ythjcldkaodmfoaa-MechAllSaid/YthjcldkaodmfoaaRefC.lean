/-
  What baileyref1.Is and Power2 return. Conditions: those that each theorem types.
-/
import Derived.Test.YthjcldkaodmfoaaRefB
namespace Go.Proofs.Ythjcldkaodmfoaa
open Go.RowKit

/-! ### baileyref1.Is -/
def IsPost (ms ns : List Int) (w : World) (e : Ending) (w' : World) : Prop := ∃ r : Bool, e = .returned (.bool r) ∧ (r = true ↔ Nm W64 ms ∧ nvB W64 ms = nvB B32 ns) ∧ Below w.heap.size w w'
theorem is_iff {ms ns zs : List Int} (hn : Nm B32 ns) (hz : Dg W64 zs) (hl : zs.length = (ns.length + 1) / 2) (hv : nvB W64 zs = nvB B32 ns) : ms = zs ↔ Nm W64 ms ∧ nvB W64 ms = nvB B32 ns := by
  have hm := to_nm W64_B32 hn hz hl hv
  constructor
  · rintro rfl; exact ⟨hm, hv⟩
  · rintro ⟨h1, h2⟩
    exact h1.inj hm W64_one (by rw [h2, hv])

set_option maxRecDepth 100000 in
theorem ref1_Is (u v : Value) (ms ns : List Int) (w : World) (ha : SlI w .u64 u ms) (h : SlI w .u64 v ns) (hn : Nm B32 ns) (hl : ns.length ≤ 1099511627776) :
    Calls Try.prog 15 #[u, v] w (IsPost ms ns w) := by
  have HN := Ho.mk hn
  clear hn
  go_enter Try.func15, Try.ntmps15
  go_wp2_with fail
  refine (ref1_To v ns w h HN.out.1 hl).mono ?_
  rintro e w1 ⟨v1, zs, rfl, hd, hzl, hv, ho, hb⟩
  have HD := Ho.mk hd
  have HL := Ho.mk hzl
  have HV := Ho.mk hv
  have ha1 := ha.below hb
  have hs1 := ho.sl
  have HB := Ho.mk hb
  clear hd hzl hv ho hb ha h
  obtain ⟨A1, c1, rfl, a1, a2, a3, ar⟩ := ha1
  obtain ⟨A2, c2, rfl, b1, b2, b3, br⟩ := hs1
  by_cases hlen : ms.length = zs.length
  · have hq : ((ms.length : Int) != (zs.length : Int)) = false := by simp [hlen]
    have HE := Ho.mk hlen
    clear hlen
    go_wp2
    go_loopw [6] (fun i wr => ∃ k : Nat, k ≤ ms.length ∧ i = .int .i64 k ∧ Ho (∀ j, j < k → gx ms j = gx zs j) ∧ ∃ nq, wr = w1.drewN nq) (fun i _ => ms.length - (intOf i).toNat)
    case atStart => exact ⟨0, Nat.zero_le _, rfl, ⟨fun j hj => absurd hj (by omega)⟩, 0, rfl⟩
    case round =>
      obtain ⟨k, hk, rfl, hz, nq, rfl⟩ := hrel
      by_cases hlt : k < ms.length
      · obtain ⟨b, o, rfl, hcell⟩ := ar (by omega)
        obtain ⟨b', o', rfl, hcell'⟩ := br (by have := HE.out; omega)
        have hc := hcell k hlt
        have hc' := hcell' k (by have := HE.out; omega)
        have hlt' : k < zs.length := by have := HE.out; omega
        clear hcell hcell'
        by_cases he : gx ms k = gx zs k
        · have hq1 : (gx ms k != gx zs k) = false := by simp [he]
          have HK := Ho.mk he
          clear he
          go_wp2
          go_region
          go_wp2
          go_roundw
          case rel => exact ⟨k + 1, by omega, by go_num, ⟨fun j hj => if e : j = k then e ▸ HK.out else hz.out j (by omega)⟩, nq + 1, rfl⟩
          case measure => simp [intOf]; omega
        · have hq1 : (gx ms k != gx zs k) = true := by simp [he]
          have HK := Ho.mk he
          clear he
          go_wp2
          go_region
          go_wp2
          go_ret
          exact ⟨false, rfl, ⟨fun e => by simp at e, fun e => absurd ((is_iff HN.out HD.out HL.out HV.out).2 e ▸ rfl) HK.out⟩, below_drewN HB.out _⟩
      · go_wp2
        go_ret
        have : ms = zs := ext_gx HE.out (fun j hj => hz.out j (by omega))
        exact ⟨true, rfl, ⟨fun _ => (is_iff HN.out HD.out HL.out HV.out).1 this, fun _ => rfl⟩, below_drewN HB.out _⟩
  · have hq : ((ms.length : Int) != (zs.length : Int)) = true := by simp; omega
    have HE := Ho.mk hlen
    clear hlen
    go_wp2
    go_ret
    exact ⟨false, rfl, ⟨fun e => by simp at e, fun e => absurd ((is_iff HN.out HD.out HL.out HV.out).2 e ▸ rfl) HE.out⟩, HB.out⟩

/-! ### baileyref1.Power2 -/
theorem pow2_gen {B s : Nat} (hB : B = 2 ^ s) (n q r : Nat) (hn : n = s * q + r) (hr : r < s) :
    Nm B ((List.replicate (q + 1) 0).set q ((2 ^ r : Nat) : Int)) ∧ nvB B ((List.replicate (q + 1) 0).set q ((2 ^ r : Nat) : Int)) = 2 ^ n := by
  have hBp : 0 < B := by rw [hB]; exact Nat.two_pow_pos _
  have hlt : 2 ^ r < B := by rw [hB]; exact Nat.pow_lt_pow_right (by decide) hr
  have hs := nvB_set (B := B) (xs := List.replicate (q + 1) (0 : Int)) (i := q) (u := ((2 ^ r : Nat) : Int)) (by simp)
  rw [gx_replicate, nvB_replicate] at hs
  simp only [Int.toNat_zero, Nat.mul_zero, Nat.add_zero, Int.toNat_natCast, Nat.zero_add] at hs
  have hp : 0 < 2 ^ r := Nat.two_pow_pos r
  refine ⟨⟨(Dg.replicate hBp _).set (Int.natCast_nonneg _) (Int.ofNat_lt.2 hlt), .inr ?_⟩, ?_⟩
  · rw [List.length_set, List.length_replicate, show q + 1 - 1 = q by omega, gx_set (by simp), if_pos rfl]
    exact Int.natCast_ne_zero.2 (by omega)
  · rw [hs, hB, ← Nat.pow_mul, ← Nat.pow_add, hn]

set_option maxRecDepth 100000 in
theorem ref1_Power2 (n : Nat) (w : World) (hn : n ≤ 1099511627776) :
    Calls Try.prog 7 #[.int .i64 n] w (RPost (2 ^ n) w) := by
  have hmk := @run_make_row' Try.prog 24 26 (.int .u64 0) 8 Try.underlying24 info_u64 rfl .i64 .i64 (n / 32 + 1) (by omega) (by omega)
  rw [show ((n / 32 + 1 : Nat) : Int) = (n : Int) / 32 + 1 by omega] at hmk
  have ho := OwI.make w 26 .u64 (n / 32 + 1) w.heap.size (Nat.le_refl _) (by omega)
  have hc := ho.cell (j := n / 32) (by simp)
  have hf := ho.frozen (n / 32)
  have HO := Ho.mk ho
  clear ho
  go_enter Try.func7, Try.ntmps7
  go_wp2
  go_ret
  have hg := pow2_gen B32_pow n (n / 32) (n % 32) (by omega) (by omega)
  have hs := HO.out.set (n / 32) ((2 ^ (n % 32) : Nat) : Int)
  have hw : IntKind.u64.wrap (2 ^ (n % 32)) = ((2 ^ (n % 32) : Nat) : Int) := by
    have : (2 : Nat) ^ (n % 32) < 2 ^ 32 := Nat.pow_lt_pow_right (by decide) (by omega)
    have h2 : (2 : Nat) ^ 32 = 4294967296 := by decide
    have h3 : (2 : Int) ^ 64 = 18446744073709551616 := by decide
    have h4 : ((2 : Int) ^ (n % 32)) = ((2 ^ (n % 32) : Nat) : Int) := (Int.natCast_pow 2 (n % 32)).symm
    rw [h4]
    exact wraps_u64 _ (Int.natCast_nonneg _) (by omega)
  rw [World.setCell_alloc_at _ _ _ _ _ rfl] at hs
  rw [hw]
  have hv := hs.val.sl
  rw [List.length_set, List.length_replicate] at hv
  exact ⟨_, _, rfl, hg.1, hg.2, hv, (Below.refl _ _).alloc (Nat.le_refl _) _⟩

end Go.Proofs.Ythjcldkaodmfoaa
