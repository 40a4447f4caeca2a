/-
  What der.Arcs returns at 1.2.840, and der.Walk. Conditions: those that each theorem types.
-/
import Derived.Test.YthjcldkaodmfoaaDerI
namespace Go.Proofs.Ythjcldkaodmfoaa
open Go.RowKit

/-! ### der.Arcs of 1.2.840, der.Walk -/
def arB : List Int := [42, 134, 72]
theorem ar_oid : oidB [1, 2, 840] = arB := by decide
theorem ar_ok : (Nd.mk 6 arB []).ok = true := by decide
def arL : Nat → List Int
  | 0 => [] | 1 => [1, 2] | 2 => [1, 2] | _ => [1, 2, 840]
def arV : Nat → Int
  | 2 => 6 | _ => 0

set_option maxHeartbeats 1000000 in
set_option maxRecDepth 100000 in
theorem der_Arcs_ar (n : Nat) (v : Value) (w : World) (h : NdV n w v (.mk 6 arB [])) :
    Calls Try.prog 21 #[v] w fun e w' => ∃ v1, e = .returned (.tuple #[v1, .bool true]) ∧ OwV w' w.heap.size 3 .i64 v1 [1, 2, 840] ∧ Below w.heap.size w w' := by
  cases n with
  | zero => exact h.elim
  | succ n =>
    have HN := Ho.mk h
    obtain ⟨bv, A, c, rfl, hb, hd, hbl, _⟩ := h
    have HB := Ho.mk hb
    obtain ⟨A0, c0, e, k1, k2, k3, hr⟩ := hb
    change bv = .slice A0 3 c0 at e
    subst e
    obtain ⟨bl, o, rfl, hcell⟩ := hr (by decide)
    obtain ⟨W0, hW0⟩ : ∃ W0, w.alloc (.cells #[.int .i64 6, .slice (some ⟨bl, o, none⟩) 3 c0, .slice A 0 c] 35) = W0 := ⟨_, rfl⟩
    have hbx : Below w.heap.size w W0 := hW0 ▸ (Below.refl _ _).alloc (Nat.le_refl _) _
    have HBX := Ho.mk hbx
    have HCell := Ho.mk hcell
    obtain ⟨f0, f1, f2, z0, z1, z2⟩ := cell3 (show W0.heap[w.heap.size]? = _ from hW0 ▸ heap_alloc_new w (.cells #[.int .i64 6, .slice (some ⟨bl, o, none⟩) 3 c0, .slice A 0 c] 35))
    clear hd hbx hcell
    have c00 : (3 : Nat) ≤ c0 := k1
    go_enter Try.func21, Try.ntmps21
    go_wp2_with fail
    refine (der_May (n + 1) (.mk 6 arB []) _ _ (HN.out.below HBX.out)).mono ?_
    rintro e w1 ⟨rfl, hb1⟩
    rw [ar_ok]
    have g1 := cell_below hb1 f1
    have HB1 := Ho.mk (below_base HBX.out HBX.out.size hb1)
    clear hb1 f0 f1 f2 z0 z1 z2
    go_wp2_with fail
    go_loopw [4, 5, 20] (fun l x i wr => ∃ k : Nat, k ≤ 3 ∧ i = .int .i64 k ∧ x = .int .i64 (arV k) ∧ Ho (OwV wr w.heap.size 3 .i64 l (arL k) ∧ Below w.heap.size w wr)) (fun _ _ i _ => 3 - (intOf i).toNat)
    case atStart => exact ⟨0, by omega, rfl, rfl, ⟨OwV.nil _ _ _ _, HB1.out⟩⟩
    case round =>
      obtain ⟨k, hk, rfl, rfl, hz⟩ := hrel
      have HB2 := Ho.mk (hz.out.2)
      have HO2 := Ho.mk (hz.out.1)
      clear hz
      have b1 : bits .and .u8 42 127 = 42 := by decide
      have b2 : bits .or .i64 0 42 = 42 := by decide
      have b3 : bits .and .u8 134 127 = 6 := by decide
      have b4 : bits .or .i64 0 6 = 6 := by decide
      have b5 : bits .and .u8 72 127 = 72 := by decide
      have b6 : bits .or .i64 768 72 = 840 := by decide
      have w1 : wrap64 42 = 42 := IntWalk.wrap64_in _ (by omega)
      have w2 : wrap64 6 = 6 := IntWalk.wrap64_in _ (by omega)
      have w3 : wrap64 72 = 72 := IntWalk.wrap64_in _ (by omega)
      match k, hk with
      | 0, _ =>
        have hc0 : wr.cell? ⟨bl, o, none⟩ = some (.int .u8 42) := cell_below HB2.out (HCell.out 0 (by decide))
        change Ho (OwV _ _ _ _ _ []) at HO2
        simp only [arV]
        have hs1 := (OwI.lit1 wr w.heap.size 3 .i64 1 HB2.out.size).val.sl
        have HB3 := Ho.mk (HB2.out.alloc HB2.out.size (.cells #[.int .i64 1] 3))
        have HO3 := Ho.mk (HO2.out.alloc (.cells #[.int .i64 1] 3))
        rcases HO2.out.cases with ⟨rfl, _⟩ | ⟨g, cap, rfl, _⟩
        all_goals
        go_wp2_with (first | (at_builtin; refine wpList_app rfl (.tmp 40) (.tmp 42) 46 3 .i64 8 rfl Try.underlying46 info_int w.heap.size _ [] _ [1] rfl rfl HO3.out hs1 HB3.out.size (by simp) (by simp) ?_; intro v2 w2 ho2 hg2 hat2; have HB4 := Ho.mk (HB3.out.grown hg2 HB3.out.size (fun b hb => (HO3.out.block b hb).1)); have HO4 := Ho.mk ho2; clear ho2 hg2 hat2) | (at_builtin; refine wpList_app rfl (.tmp 50) (.tmp 52) 46 3 .i64 8 rfl Try.underlying46 info_int w.heap.size _ [1] _ [2] rfl rfl (HO4.out.alloc _) (OwI.lit1 _ w.heap.size 3 .i64 2 HB4.out.size).val.sl (HB4.out.alloc HB4.out.size _).size (by simp) (by simp) ?_; intro v3 w3 ho3 hg3 hat3; have HB5 := Ho.mk ((HB4.out.alloc HB4.out.size _).grown hg3 (HB4.out.alloc HB4.out.size _).size (fun b hb => (HO4.out.block b hb).1)); have HO5 := Ho.mk ho3; clear ho3 hg3 hat3))
        go_roundw
        case rel => exact ⟨1, by omega, rfl, rfl, ⟨HO5.out, HB5.out⟩⟩
        case measure => simp [intOf]
      | 1, _ =>
        have hc0 : wr.cell? ⟨bl, o + 1, none⟩ = some (.int .u8 134) := cell_below HB2.out (HCell.out 1 (by decide))
        change Ho (OwV _ _ _ _ _ [1, 2]) at HO2
        simp only [arV]
        go_wp2
        go_roundw
        case rel => exact ⟨2, by omega, rfl, rfl, ⟨HO2.out, HB2.out⟩⟩
        case measure => simp [intOf]
      | 2, _ =>
        have hc0 : wr.cell? ⟨bl, o + 2, none⟩ = some (.int .u8 72) := cell_below HB2.out (HCell.out 2 (by decide))
        change Ho (OwV _ _ _ _ _ [1, 2]) at HO2
        simp only [arV]
        obtain ⟨A4, c4, e4, _⟩ := HO2.out.sl
        change _ = Value.slice A4 2 c4 at e4
        subst e4
        have hs1 := (OwI.lit1 wr w.heap.size 3 .i64 840 HB2.out.size).val.sl
        have HB3 := Ho.mk (HB2.out.alloc HB2.out.size (.cells #[.int .i64 840] 3))
        have HO3 := Ho.mk (HO2.out.alloc (.cells #[.int .i64 840] 3))
        go_wp2_with (at_builtin; refine wpList_app rfl (.tmp 50) (.tmp 52) 46 3 .i64 8 rfl Try.underlying46 info_int w.heap.size _ [1, 2] _ [840] rfl rfl HO3.out hs1 HB3.out.size (by simp) (by simp) ?_; intro v2 w2 ho2 hg2 hat2; have HB4 := Ho.mk (HB3.out.grown hg2 HB3.out.size (fun b hb => (HO3.out.block b hb).1)); have HO4 := Ho.mk ho2; clear ho2 hg2 hat2)
        go_roundw
        case rel => exact ⟨3, by omega, rfl, rfl, ⟨HO4.out, HB4.out⟩⟩
        case measure => simp [intOf]
      | 3, _ =>
        change Ho (OwV _ _ _ _ _ [1, 2, 840]) at HO2
        go_wp2
        go_ret2
        exact ⟨_, rfl, HO2.out, HB2.out⟩

theorem der_Walk (n : Nat) (nd : Nd) (v : Value) (w : World) (h : NdV n w v nd) :
    Calls Try.prog 22 #[v] w fun e w' => ∃ fn a b, e = .returned (.func fn a b) ∧ Below w.heap.size w w' := by
  obtain ⟨t, A1, n1, c1, A2, n2, c2, rfl⟩ := h.agg
  go_enter Try.func22, Try.ntmps22
  go_wp2
  go_ret
  exact ⟨_, _, _, rfl, (Below.refl _ _).alloc (Nat.le_refl _) _⟩

end Go.Proofs.Ythjcldkaodmfoaa
