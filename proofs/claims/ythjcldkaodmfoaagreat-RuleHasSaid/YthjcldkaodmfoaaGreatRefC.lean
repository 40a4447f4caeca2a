/-
  What baileyref1.Is returns. Conditions: those that each theorem types.
-/
import Derived.Test.YthjcldkaodmfoaaGreatRefB
namespace Go.Proofs.YthjcldkaodmfoaaGreat
open Go.RowKit

/-! ### baileyref1.Is -/
def IsPost (ms ns : List Int) (w : World) (e : Ending) (w' : World) : Prop := ∃ r : Bool, e = .returned (.bool r) ∧ (r = true ↔ Nm W64 ms ∧ nvB W64 ms = nvB B32 ns) ∧ Below w.heap.size w w'
theorem is_iff {ms ns zs : List Int} (hn : Nm B32 ns) (hz : Dg W64 zs) (hl : zs.length = (ns.length + 1) / 2) (hv : nvB W64 zs = nvB B32 ns) : ms = zs ↔ Nm W64 ms ∧ nvB W64 ms = nvB B32 ns := by
  have hm := to_nm W64_B32 hn hz hl hv
  constructor
  · rintro rfl; exact ⟨hm, hv⟩
  · rintro ⟨h1, h2⟩
    exact h1.inj hm W64_one (by rw [h2, hv])

set_option maxRecDepth 100000 in
theorem ref1_Is (u v : Value) (ms ns : List Int) (w : World) (ha : SlI w .u64 u ms) (h : SlI w .u64 v ns) (hn : Nm B32 ns) (hl : ns.length ≤ 1099511627776) :
    Calls Tryz.prog 36 #[u, v] w (IsPost ms ns w) := by
  have HN := Ho.mk hn
  clear hn
  go_enter Tryz.func36, Tryz.ntmps36
  go_wp2_with fail
  refine (ref1_To v ns w h HN.out.1 hl).mono ?_
  rintro e w1 ⟨v1, zs, rfl, hd, hzl, hv, ho, hb⟩
  have HD := Ho.mk hd
  have HL := Ho.mk hzl
  have HV := Ho.mk hv
  have ha1 := ha.below hb
  have hs1 := ho.sl
  have HB := Ho.mk hb
  clear hd hzl hv ho hb ha h
  obtain ⟨A1, c1, rfl, a1, a2, a3, ar⟩ := ha1
  obtain ⟨A2, c2, rfl, b1, b2, b3, br⟩ := hs1
  by_cases hlen : ms.length = zs.length
  · have hq : ((ms.length : Int) != (zs.length : Int)) = false := by simp [hlen]
    have HE := Ho.mk hlen
    clear hlen
    go_wp2
    go_loopw [6] (fun i wr => ∃ k : Nat, k ≤ ms.length ∧ i = .int .i64 k ∧ Ho (∀ j, j < k → gx ms j = gx zs j) ∧ ∃ nq, wr = w1.drewN nq) (fun i _ => ms.length - (intOf i).toNat)
    case atStart => exact ⟨0, Nat.zero_le _, rfl, ⟨fun j hj => absurd hj (by omega)⟩, 0, rfl⟩
    case round =>
      obtain ⟨k, hk, rfl, hz, nq, rfl⟩ := hrel
      by_cases hlt : k < ms.length
      · obtain ⟨b, o, rfl, hcell⟩ := ar (by omega)
        obtain ⟨b', o', rfl, hcell'⟩ := br (by have := HE.out; omega)
        have hc := hcell k hlt
        have hc' := hcell' k (by have := HE.out; omega)
        have hlt' : k < zs.length := by have := HE.out; omega
        clear hcell hcell'
        by_cases he : gx ms k = gx zs k
        · have hq1 : (gx ms k != gx zs k) = false := by simp [he]
          have HK := Ho.mk he
          clear he
          go_wp2
          go_region
          go_wp2
          go_roundw
          case rel => exact ⟨k + 1, by omega, by go_num, ⟨fun j hj => if e : j = k then e ▸ HK.out else hz.out j (by omega)⟩, nq + 1, rfl⟩
          case measure => simp [intOf]; omega
        · have hq1 : (gx ms k != gx zs k) = true := by simp [he]
          have HK := Ho.mk he
          clear he
          go_wp2
          go_region
          go_wp2
          go_ret
          exact ⟨false, rfl, ⟨fun e => by simp at e, fun e => absurd ((is_iff HN.out HD.out HL.out HV.out).2 e ▸ rfl) HK.out⟩, below_drewN HB.out _⟩
      · go_wp2
        go_ret
        have : ms = zs := ext_gx HE.out (fun j hj => hz.out j (by omega))
        exact ⟨true, rfl, ⟨fun _ => (is_iff HN.out HD.out HL.out HV.out).1 this, fun _ => rfl⟩, below_drewN HB.out _⟩
  · have hq : ((ms.length : Int) != (zs.length : Int)) = true := by simp; omega
    have HE := Ho.mk hlen
    clear hlen
    go_wp2
    go_ret
    exact ⟨false, rfl, ⟨fun e => by simp at e, fun e => absurd ((is_iff HN.out HD.out HL.out HV.out).2 e ▸ rfl) HE.out⟩, HB.out⟩

end Go.Proofs.YthjcldkaodmfoaaGreat
