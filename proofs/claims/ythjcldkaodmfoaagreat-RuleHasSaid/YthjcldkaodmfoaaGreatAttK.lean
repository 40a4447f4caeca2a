/-
  What rules.nat, RSAKey, Curve, worth return. Conditions: those that each theorem types.
-/
import Derived.Test.YthjcldkaodmfoaaGreatAttH
import Derived.Test.YthjcldkaodmfoaaGreatAttJ
import Derived.Test.YthjcldkaodmfoaaGreatLimbC
namespace Go.Proofs.YthjcldkaodmfoaaGreat
open Go.RowKit

def valL (l : List At) (t : Int) : List Int := (getL l t).getD []
def natOf (l : List At) (t : Int) : Nat := bev (valL l t)
def NatPost (N : Nat) (w : World) (e : Ending) (w' : World) : Prop := ∃ v1 ys, e = .returned v1 ∧ Nm W64 ys ∧ nvB W64 ys = N ∧ ys.length ≤ 17592186044416 ∧ OwV w' w.heap.size 112 .u64 v1 ys ∧ Below w.heap.size w w'
theorem valL_dg {l : List At} (hok : AtsOk l) (t : Int) : Dg 256 (valL l t) := by
  unfold valL
  cases h : getL l t with
  | none => exact Dg.nil (by decide)
  | some b => exact (getL_ok h hok).1

/-- What attrs.Get leaves, in one form. -/
theorem get_val {l : List At} {t : Int} {w : World} {e : Ending} {w' : World} (h : GetPost l t w e w') : ∃ v1, e = .returned (.tuple #[v1, .bool (cameL l t)]) ∧ OwV w' w.heap.size 5 .u8 v1 (valL l t) ∧ Below w.heap.size w w' := by
  obtain ⟨hB, ⟨hg, rfl⟩ | ⟨b, v1, hg, rfl, ho⟩⟩ := h
  · exact ⟨.slice none 0 0, by unfold cameL; rw [hg]; rfl, by unfold valL; rw [hg]; exact OwV.nil _ _ _ _, hB⟩
  · exact ⟨v1, by unfold cameL; rw [hg]; rfl, by unfold valL; rw [hg]; exact ho, hB⟩

set_option maxRecDepth 100000 in
theorem rules_nat (l : List At) (t : Int) (v : Value) (w : World) (h : SlA w v l) (hok : AtsOk l) (hl : (valL l t).length ≤ 17592186044416) :
    Calls Tryz.prog 231 #[v, .int .i64 t] w (NatPost (natOf l t) w) := by
  have H := Ho.mk h
  have HOK := Ho.mk hok
  obtain ⟨A, cc, rfl, h1, h2, h3, hr⟩ := h
  clear h3 hr hok
  go_enter Tryz.func231, Tryz.ntmps231
  go_wp2_with fail
  refine (attrs_Get l t _ w H.out HOK.out).mono ?_
  rintro e w1 hp1
  obtain ⟨v1, rfl, ho, hB⟩ := get_val hp1
  have HS := Ho.mk ho.sl
  have HB := Ho.mk hB
  obtain ⟨A1, c1, rfl, _⟩ := ho.sl
  clear hp1 ho hB
  go_wp2_with fail
  refine (limb_FromBytes _ _ _ HS.out (valL_dg HOK.out t) hl).mono ?_
  rintro e w2 ⟨v2, ys, rfl, hm, hv, hyl, ho2, hb2⟩
  have HP : Ho (NatPost (natOf l t) w (.returned v2) w2) := ⟨v2, ys, rfl, hm, hv, by omega, ho2.weaken HB.out.size, below_base HB.out HB.out.size hb2⟩
  clear hm hv ho2 hb2
  go_wp2
  go_ret
  exact HP.out

def SlN (w : World) (v : Value) (N : Nat) : Prop := ∃ ys, SlI w .u64 v ys ∧ Nm W64 ys ∧ nvB W64 ys = N ∧ ys.length ≤ 17592186044416
theorem SlN.below {w w1 : World} {v : Value} {N : Nat} (h : SlN w v N) (hb : Below w.heap.size w w1) : SlN w1 v N := by
  obtain ⟨ys, h1, h2⟩ := h
  exact ⟨ys, h1.below hb, h2⟩
def KeyPost (l : List At) (w : World) (e : Ending) (w' : World) : Prop := ∃ v1 v2 v3 v4 v5, e = .returned (.agg #[v1, v2, v3, v4, v5]) ∧ (SlN w' v1 (natOf l 288) ∧ SlN w' v2 (natOf l 290) ∧ SlN w' v3 (natOf l 291) ∧ SlN w' v4 (natOf l 292) ∧ SlN w' v5 (natOf l 293)) ∧ Below w.heap.size w w'
def natsOk (l : List At) : Prop := ∀ t, (valL l t).length ≤ 17592186044416
theorem cellsK {w : World} {b : Nat} {x y z u v : Value} {T : TypeId} (h : w.heap[b]? = some (.cells #[x, y, z, u, v] T (0, 0))) :
    (w.cell? ⟨b, 0, none⟩ = some x ∧ w.cell? ⟨b, 1, none⟩ = some y ∧ w.cell? ⟨b, 2, none⟩ = some z ∧ w.cell? ⟨b, 3, none⟩ = some u ∧ w.cell? ⟨b, 4, none⟩ = some v) ∧
    (w.frozen? ⟨b, 0, none⟩ = false ∧ w.frozen? ⟨b, 1, none⟩ = false ∧ w.frozen? ⟨b, 2, none⟩ = false ∧ w.frozen? ⟨b, 3, none⟩ = false ∧ w.frozen? ⟨b, 4, none⟩ = false) :=
  ⟨⟨cell_of_row _ _ _ _ _ _ h, cell_of_row _ _ _ _ _ _ h, cell_of_row _ _ _ _ _ _ h, cell_of_row _ _ _ _ _ _ h, cell_of_row _ _ _ _ _ _ h⟩, frozen_of_row _ _ _ _ _ h, frozen_of_row _ _ _ _ _ h, frozen_of_row _ _ _ _ _ h, frozen_of_row _ _ _ _ _ h, frozen_of_row _ _ _ _ _ h⟩
theorem SlI.shape {w : World} {k : IntKind} {v : Value} {xs : List Int} (h : SlI w k v xs) : ∃ A c, v = .slice A xs.length c := by
  obtain ⟨A, c, e, _⟩ := h
  exact ⟨A, c, e⟩

set_option maxRecDepth 100000 in
set_option maxHeartbeats 1000000 in
theorem rules_RSAKey (l : List At) (v : Value) (w : World) (h : SlA w v l) (hok : AtsOk l) (hl : natsOk l) :
    Calls Tryz.prog 228 #[v] w (KeyPost l w) := by
  have H := Ho.mk h
  have HOK := Ho.mk hok
  have HL := Ho.mk hl
  obtain ⟨A, cc, rfl, h1, h2, h3, hr⟩ := h
  clear h3 hr hok hl
  go_enter Tryz.func228, Tryz.ntmps228
  go_wp2_with fail
  obtain ⟨W0, hW0⟩ : ∃ W0, w.alloc (.cells #[.slice none 0 0, .slice none 0 0, .slice none 0 0, .slice none 0 0, .slice none 0 0] 61) = W0 := ⟨_, rfl⟩
  have HB0 : Ho (Below w.heap.size w W0) := ⟨hW0 ▸ (Below.refl _ _).alloc (Nat.le_refl _) _⟩
  have HR0 : Ho (W0.heap[w.heap.size]? = some (.cells #[.slice none 0 0, .slice none 0 0, .slice none 0 0, .slice none 0 0, .slice none 0 0] 61 (0, 0))) := ⟨hW0 ▸ heap_alloc_new w _⟩
  rw [hW0]
  clear hW0
  refine (rules_nat l 288 _ _ (H.out.below HB0.out) HOK.out (HL.out _)).mono ?_
  rintro e w1 ⟨v1, y1, rfl, m1, n1, l1, o1, hb1⟩
  have HO1 := Ho.mk (o1.weaken (Nat.le_refl W0.heap.size))
  have HN1 : Ho (Nm W64 y1 ∧ nvB W64 y1 = natOf l 288 ∧ y1.length ≤ 17592186044416) := ⟨m1, n1, l1⟩
  have HB1 := Ho.mk hb1
  obtain ⟨A1, c1, rfl⟩ := o1.sl.shape
  clear m1 n1 l1 o1 hb1
  go_wp2_with fail
  refine (rules_nat l 290 _ _ (H.out.below (below_base HB0.out HB0.out.size HB1.out)) HOK.out (HL.out _)).mono ?_
  rintro e w2 ⟨v2, y2, rfl, m2, n2, l2, o2, hb2⟩
  have HO1 := Ho.mk (HO1.out.below hb2)
  have HO2 := Ho.mk (o2.weaken HB1.out.size)
  have HN2 : Ho (Nm W64 y2 ∧ nvB W64 y2 = natOf l 290 ∧ y2.length ≤ 17592186044416) := ⟨m2, n2, l2⟩
  have HB2 := Ho.mk (below_base HB1.out HB1.out.size hb2)
  obtain ⟨A2, c2, rfl⟩ := o2.sl.shape
  clear m2 n2 l2 o2 hb2 HB1
  go_wp2_with fail
  refine (rules_nat l 291 _ _ (H.out.below (below_base HB0.out HB0.out.size HB2.out)) HOK.out (HL.out _)).mono ?_
  rintro e w3 ⟨v3, y3, rfl, m3, n3, l3, o3, hb3⟩
  have HO1 := Ho.mk (HO1.out.below hb3)
  have HO2 := Ho.mk (HO2.out.below hb3)
  have HO3 := Ho.mk (o3.weaken HB2.out.size)
  have HN3 : Ho (Nm W64 y3 ∧ nvB W64 y3 = natOf l 291 ∧ y3.length ≤ 17592186044416) := ⟨m3, n3, l3⟩
  have HB3 := Ho.mk (below_base HB2.out HB2.out.size hb3)
  obtain ⟨A3, c3, rfl⟩ := o3.sl.shape
  clear m3 n3 l3 o3 hb3 HB2
  go_wp2_with fail
  refine (rules_nat l 292 _ _ (H.out.below (below_base HB0.out HB0.out.size HB3.out)) HOK.out (HL.out _)).mono ?_
  rintro e w4 ⟨v4, y4, rfl, m4, n4, l4, o4, hb4⟩
  have HO1 := Ho.mk (HO1.out.below hb4)
  have HO2 := Ho.mk (HO2.out.below hb4)
  have HO3 := Ho.mk (HO3.out.below hb4)
  have HO4 := Ho.mk (o4.weaken HB3.out.size)
  have HN4 : Ho (Nm W64 y4 ∧ nvB W64 y4 = natOf l 292 ∧ y4.length ≤ 17592186044416) := ⟨m4, n4, l4⟩
  have HB4 := Ho.mk (below_base HB3.out HB3.out.size hb4)
  obtain ⟨A4, c4, rfl⟩ := o4.sl.shape
  clear m4 n4 l4 o4 hb4 HB3
  go_wp2_with fail
  refine (rules_nat l 293 _ _ (H.out.below (below_base HB0.out HB0.out.size HB4.out)) HOK.out (HL.out _)).mono ?_
  rintro e w5 ⟨v5, y5, rfl, m5, n5, l5, o5, hb5⟩
  have HO1 := Ho.mk (HO1.out.below hb5)
  have HO2 := Ho.mk (HO2.out.below hb5)
  have HO3 := Ho.mk (HO3.out.below hb5)
  have HO4 := Ho.mk (HO4.out.below hb5)
  have HO5 := Ho.mk (o5.weaken HB4.out.size)
  have HN5 : Ho (Nm W64 y5 ∧ nvB W64 y5 = natOf l 293 ∧ y5.length ≤ 17592186044416) := ⟨m5, n5, l5⟩
  have HB5 := Ho.mk (below_base HB4.out HB4.out.size hb5)
  obtain ⟨A5, c5, rfl⟩ := o5.sl.shape
  clear m5 n5 l5 o5 hb5 HB4
  have HR5 := Ho.mk ((HB5.out.block w.heap.size (Array.getElem?_eq_some_iff.1 HR0.out).1).trans HR0.out)
  obtain ⟨⟨k0, k1, k2, k3, k4⟩, f0, f1, f2, f3, f4⟩ := cellsK HR5.out
  go_wp2
  have hr := heap_setCell_same _ w.heap.size 4 _ _ (.slice A5 y5.length c5) (heap_setCell_same _ w.heap.size 3 _ _ (.slice A4 y4.length c4) (heap_setCell_same _ w.heap.size 2 _ _ (.slice A3 y3.length c3) (heap_setCell_same _ w.heap.size 1 _ _ (.slice A2 y2.length c2) (heap_setCell_same w5 w.heap.size 0 _ _ (.slice A1 y1.length c1) HR5.out))))
  obtain ⟨⟨x0, x1, x2, x3, x4⟩, _⟩ := cellsK hr
  have hz : w.heap.size < W0.heap.size := (Array.getElem?_eq_some_iff.1 HR0.out).1
  have fin : ∀ (x : Value) (ys : List Int) (N : Nat), OwV w5 W0.heap.size 112 .u64 x ys → (Nm W64 ys ∧ nvB W64 ys = N ∧ ys.length ≤ 17592186044416) →
      SlN (((((w5.setCell ⟨w.heap.size, 0, none⟩ (.slice A1 y1.length c1)).setCell ⟨w.heap.size, 1, none⟩ (.slice A2 y2.length c2)).setCell ⟨w.heap.size, 2, none⟩ (.slice A3 y3.length c3)).setCell ⟨w.heap.size, 3, none⟩ (.slice A4 y4.length c4)).setCell ⟨w.heap.size, 4, none⟩ (.slice A5 y5.length c5)) x N := fun x ys N ho hn => by
    have hne : x.ownBlock ≠ some w.heap.size := fun e => by have := (ho.block _ e).1; omega
    exact ⟨ys, (OwV.other (a := ⟨w.heap.size, 4, none⟩) (OwV.other (a := ⟨w.heap.size, 3, none⟩) (OwV.other (a := ⟨w.heap.size, 2, none⟩) (OwV.other (a := ⟨w.heap.size, 1, none⟩) (OwV.other (a := ⟨w.heap.size, 0, none⟩) ho hne _) hne _) hne _) hne _) hne _).sl, hn⟩
  refine bodyPost_ret (v := .agg #[.slice A1 y1.length c1, .slice A2 y2.length c2, .slice A3 y3.length c3, .slice A4 y4.length c4, .slice A5 y5.length c5]) (by simp [results, Tryz.results228, go_sem, x0, x1, x2, x3, x4]) rfl
    ⟨_, _, _, _, _, rfl, ⟨fin _ _ _ HO1.out HN1.out, fin _ _ _ HO2.out HN2.out, fin _ _ _ HO3.out HN3.out, fin _ _ _ HO4.out HN4.out, fin _ _ _ HO5.out HN5.out⟩, ?_⟩
  have hB := below_base HB0.out HB0.out.size HB5.out
  exact ((((hB.setCell (p := ⟨w.heap.size, 0, none⟩) (Nat.le_refl _) _).setCell (p := ⟨w.heap.size, 1, none⟩) (Nat.le_refl _) _).setCell (p := ⟨w.heap.size, 2, none⟩) (Nat.le_refl _) _).setCell (p := ⟨w.heap.size, 3, none⟩) (Nat.le_refl _) _).setCell (p := ⟨w.heap.size, 4, none⟩) (Nat.le_refl _) _

set_option maxRecDepth 100000 in
theorem rules_Curve_none (l : List At) (v : Value) (w : World) (h : SlA w v l) (hok : AtsOk l) (hn : getL l 384 = none) :
    Calls Tryz.prog 229 #[v] w fun e w' => e = .returned (.int .i64 0) ∧ Below w.heap.size w w' := by
  have H := Ho.mk h
  have HOK := Ho.mk hok
  have HN := Ho.mk hn
  obtain ⟨A, cc, rfl, h1, h2, h3, hr⟩ := h
  clear h3 hr hok hn
  go_enter Tryz.func229, Tryz.ntmps229
  go_wp2_with fail
  refine (attrs_Get l 384 _ w H.out HOK.out).mono ?_
  rintro e w1 ⟨hB, ⟨_, rfl⟩ | ⟨b, v1, hg, _⟩⟩
  · have HB := Ho.mk hB
    clear hB
    go_wp2_with fail
    refine (keyfmt_ReadParams_nil _).mono ?_
    rintro e w2 ⟨rfl, hb⟩
    have HB2 := Ho.mk (below_base HB.out HB.out.size hb)
    clear hb
    go_wp2
    go_ret
    exact ⟨rfl, HB2.out⟩
  · rw [HN.out] at hg; cases hg

def aesL (l : List At) : Bool := decide ((valL l 17).length = 16 ∨ (valL l 17).length = 24 ∨ (valL l 17).length = 32)
set_option maxRecDepth 100000 in
set_option maxHeartbeats 2000000 in
theorem rules_worth_aes (l : List At) (v : Value) (w : World) (h : SlA w v l) (hok : AtsOk l) (hl : natsOk l) (hn : getL l 384 = none) :
    Calls Tryz.prog 160 #[v, .int .i64 4, .int .i64 31] w (BoolPost (aesL l) w) := by
  have H := Ho.mk h
  have HOK := Ho.mk hok
  have HN := Ho.mk hn
  have HL := Ho.mk hl
  obtain ⟨A, cc, rfl, h1, h2, h3, hr⟩ := h
  obtain ⟨N, HNE⟩ : ∃ N, Ho ((valL l 17).length = N) := ⟨_, ⟨rfl⟩⟩
  have HAE : Ho (aesL l = decide (N = 16 ∨ N = 24 ∨ N = 32)) := ⟨by unfold aesL; rw [HNE.out]⟩
  have hN : N ≤ 17592186044416 := by rw [← HNE.out]; exact HL.out _
  clear h3 hr hok hn hl
  rcases (show N = 16 ∨ N = 24 ∨ N = 32 ∨ (N ≠ 16 ∧ N ≠ 24 ∧ N ≠ 32) by omega) with hc | hc | hc | hc
  · have HR : Ho (aesL l = true) := ⟨by rw [HAE.out]; simp [hc]⟩
    subst hc
    clear HAE
    go_enter Tryz.func160, Tryz.ntmps160
    go_wp2_with fail
    refine (attrs_Get l 17 _ w H.out HOK.out).mono ?_
    rintro e w1 hp1
    obtain ⟨v1, rfl, ho, hB⟩ := get_val hp1
    obtain ⟨A1, c1, rfl⟩ := ho.sl.shape
    rw [HNE.out]
    have HB1 := Ho.mk hB
    clear hp1 ho hB
    go_wp2_with fail
    refine (rules_RSAKey l _ _ (H.out.below HB1.out) HOK.out HL.out).mono ?_
    rintro e w2 ⟨x1, x2, x3, x4, x5, rfl, ⟨⟨_, s1, _⟩, ⟨_, s2, _⟩, ⟨_, s3, _⟩, ⟨_, s4, _⟩, ⟨_, s5, _⟩⟩, hb2⟩
    obtain ⟨B1, d1, rfl⟩ := s1.shape
    obtain ⟨B2, d2, rfl⟩ := s2.shape
    obtain ⟨B3, d3, rfl⟩ := s3.shape
    obtain ⟨B4, d4, rfl⟩ := s4.shape
    obtain ⟨B5, d5, rfl⟩ := s5.shape
    have HB2 := Ho.mk (below_base HB1.out HB1.out.size hb2)
    clear s1 s2 s3 s4 s5 hb2
    go_wp2_with fail
    refine (rules_Curve_none l _ _ (H.out.below HB2.out) HOK.out HN.out).mono ?_
    rintro e w3 ⟨rfl, hb3⟩
    have HB3 := Ho.mk (below_base HB2.out HB2.out.size hb3)
    clear hb3
    go_wp2
    go_ret
    exact ⟨ret_bool HR.out.symm, HB3.out.alloc HB3.out.size _⟩
  · have HR : Ho (aesL l = true) := ⟨by rw [HAE.out]; simp [hc]⟩
    subst hc
    clear HAE
    go_enter Tryz.func160, Tryz.ntmps160
    go_wp2_with fail
    refine (attrs_Get l 17 _ w H.out HOK.out).mono ?_
    rintro e w1 hp1
    obtain ⟨v1, rfl, ho, hB⟩ := get_val hp1
    obtain ⟨A1, c1, rfl⟩ := ho.sl.shape
    rw [HNE.out]
    have HB1 := Ho.mk hB
    clear hp1 ho hB
    go_wp2_with fail
    refine (rules_RSAKey l _ _ (H.out.below HB1.out) HOK.out HL.out).mono ?_
    rintro e w2 ⟨x1, x2, x3, x4, x5, rfl, ⟨⟨_, s1, _⟩, ⟨_, s2, _⟩, ⟨_, s3, _⟩, ⟨_, s4, _⟩, ⟨_, s5, _⟩⟩, hb2⟩
    obtain ⟨B1, d1, rfl⟩ := s1.shape
    obtain ⟨B2, d2, rfl⟩ := s2.shape
    obtain ⟨B3, d3, rfl⟩ := s3.shape
    obtain ⟨B4, d4, rfl⟩ := s4.shape
    obtain ⟨B5, d5, rfl⟩ := s5.shape
    have HB2 := Ho.mk (below_base HB1.out HB1.out.size hb2)
    clear s1 s2 s3 s4 s5 hb2
    go_wp2_with fail
    refine (rules_Curve_none l _ _ (H.out.below HB2.out) HOK.out HN.out).mono ?_
    rintro e w3 ⟨rfl, hb3⟩
    have HB3 := Ho.mk (below_base HB2.out HB2.out.size hb3)
    clear hb3
    go_wp2
    go_ret
    exact ⟨ret_bool HR.out.symm, HB3.out.alloc HB3.out.size _⟩
  · have HR : Ho (aesL l = true) := ⟨by rw [HAE.out]; simp [hc]⟩
    subst hc
    clear HAE
    go_enter Tryz.func160, Tryz.ntmps160
    go_wp2_with fail
    refine (attrs_Get l 17 _ w H.out HOK.out).mono ?_
    rintro e w1 hp1
    obtain ⟨v1, rfl, ho, hB⟩ := get_val hp1
    obtain ⟨A1, c1, rfl⟩ := ho.sl.shape
    rw [HNE.out]
    have HB1 := Ho.mk hB
    clear hp1 ho hB
    go_wp2_with fail
    refine (rules_RSAKey l _ _ (H.out.below HB1.out) HOK.out HL.out).mono ?_
    rintro e w2 ⟨x1, x2, x3, x4, x5, rfl, ⟨⟨_, s1, _⟩, ⟨_, s2, _⟩, ⟨_, s3, _⟩, ⟨_, s4, _⟩, ⟨_, s5, _⟩⟩, hb2⟩
    obtain ⟨B1, d1, rfl⟩ := s1.shape
    obtain ⟨B2, d2, rfl⟩ := s2.shape
    obtain ⟨B3, d3, rfl⟩ := s3.shape
    obtain ⟨B4, d4, rfl⟩ := s4.shape
    obtain ⟨B5, d5, rfl⟩ := s5.shape
    have HB2 := Ho.mk (below_base HB1.out HB1.out.size hb2)
    clear s1 s2 s3 s4 s5 hb2
    go_wp2_with fail
    refine (rules_Curve_none l _ _ (H.out.below HB2.out) HOK.out HN.out).mono ?_
    rintro e w3 ⟨rfl, hb3⟩
    have HB3 := Ho.mk (below_base HB2.out HB2.out.size hb3)
    clear hb3
    go_wp2
    go_ret
    exact ⟨ret_bool HR.out.symm, HB3.out.alloc HB3.out.size _⟩
  · have q1 : ((N : Int) == 16) = false := beq_eq_false_iff_ne.2 (by omega)
    have q2 : ((N : Int) == 24) = false := beq_eq_false_iff_ne.2 (by omega)
    have q3 : ((N : Int) == 32) = false := beq_eq_false_iff_ne.2 (by omega)
    have HR : Ho (aesL l = false) := ⟨by rw [HAE.out]; exact decide_eq_false (by omega)⟩
    clear HAE hc
    go_enter Tryz.func160, Tryz.ntmps160
    go_wp2_with fail
    refine (attrs_Get l 17 _ w H.out HOK.out).mono ?_
    rintro e w1 hp1
    obtain ⟨v1, rfl, ho, hB⟩ := get_val hp1
    obtain ⟨A1, c1, rfl⟩ := ho.sl.shape
    rw [HNE.out]
    have HB1 := Ho.mk hB
    clear hp1 ho hB
    go_wp2_with fail
    refine (rules_RSAKey l _ _ (H.out.below HB1.out) HOK.out HL.out).mono ?_
    rintro e w2 ⟨x1, x2, x3, x4, x5, rfl, ⟨⟨_, s1, _⟩, ⟨_, s2, _⟩, ⟨_, s3, _⟩, ⟨_, s4, _⟩, ⟨_, s5, _⟩⟩, hb2⟩
    obtain ⟨B1, d1, rfl⟩ := s1.shape
    obtain ⟨B2, d2, rfl⟩ := s2.shape
    obtain ⟨B3, d3, rfl⟩ := s3.shape
    obtain ⟨B4, d4, rfl⟩ := s4.shape
    obtain ⟨B5, d5, rfl⟩ := s5.shape
    have HB2 := Ho.mk (below_base HB1.out HB1.out.size hb2)
    clear s1 s2 s3 s4 s5 hb2
    go_wp2_with fail
    refine (rules_Curve_none l _ _ (H.out.below HB2.out) HOK.out HN.out).mono ?_
    rintro e w3 ⟨rfl, hb3⟩
    have HB3 := Ho.mk (below_base HB2.out HB2.out.size hb3)
    clear hb3
    go_wp2
    go_ret
    exact ⟨ret_bool HR.out.symm, HB3.out.alloc HB3.out.size _⟩

end Go.Proofs.YthjcldkaodmfoaaGreat
