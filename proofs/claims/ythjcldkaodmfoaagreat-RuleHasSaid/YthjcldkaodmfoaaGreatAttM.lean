/-
  What rules.reckoned of a created object returns. Conditions: those that each theorem types.
-/
import Derived.Test.YthjcldkaodmfoaaGreatAttL
namespace Go.Proofs.YthjcldkaodmfoaaGreat
open Go.RowKit

theorem sl_boxes {W : World} {q : List (At × Value)} (h : ∀ p ∈ q, SlI W .u8 p.2 p.1.2) (hl : q.length ≤ 1000) : SlA (W.alloc (.cells (flatA q).toArray 91)) (.slice (some ⟨W.heap.size, 0, none⟩) q.length q.length) (q.map (·.1)) := by
  refine ⟨some ⟨W.heap.size, 0, none⟩, q.length, by simp, by simp, by omega, fun e => by simp at e, fun hp => ⟨_, 0, rfl, fun j hj => ?_⟩⟩
  have hjq : j < q.length := by simpa using hj
  have hf := flatA_at q j _ (List.getElem?_eq_getElem hjq)
  have hw := heap_alloc_new W (.cells (flatA q).toArray 91)
  have hm : (q.map (·.1))[j] = (q[j]'hjq).1 := by simp
  rw [hm]
  refine ⟨(q[j]'hjq).2, ?_, ?_, (h _ (List.getElem_mem _)).below ((Below.refl _ _).alloc (Nat.le_refl _) _)⟩
  · rw [Nat.zero_add]; exact cell_of_row _ _ _ _ _ _ hw |>.trans (by simpa using hf.1)
  · rw [Nat.zero_add]; exact cell_of_row _ _ _ _ _ _ hw |>.trans (by simpa using hf.2)

def reckS (o : List At) (a : At) : List At := if cameL o a.1 then putL o a else o
def reckA (o : List At) : List At := [numA 353 (valL o 17).length, numA 289 (nbits (natOf o 288)), boolA 355 false, boolA 357 false, boolA 356 false]
/-- A created object with what is reckoned. -/
def reckL (o : List At) : List At := (reckA o).foldl reckS o
theorem be32_ok (x : Int) : Dg 256 (be32 x) ∧ (be32 x).length ≤ 140737488351232 := by
  refine ⟨?_, by simp [be32]⟩
  unfold be32
  exact Dg.cons (by omega) (by show _ < (256 : Int); omega) (Dg.cons (by omega) (by show _ < (256 : Int); omega) (Dg.cons (by omega) (by show _ < (256 : Int); omega) (Dg.one (by omega) (by show _ < (256 : Int); omega))))
theorem reckA_ok (o : List At) : AtsOk (reckA o) := fun x hx => by
  simp only [reckA, List.mem_cons, List.not_mem_nil, or_false] at hx
  rcases hx with rfl | rfl | rfl | rfl | rfl
  · exact be32_ok _
  · exact be32_ok _
  · exact boolA_ok _ _
  · exact boolA_ok _ _
  · exact boolA_ok _ _
theorem putL_ok {l : List At} {a : At} (h : AtsOk l) (ha : Dg 256 a.2 ∧ a.2.length ≤ 140737488351232) : AtsOk (putL l a) := fun x hx => by
  rcases mem_putL hx with hx | rfl
  · exact h x hx
  · exact ha
theorem reckS_ok {l : List At} {a : At} (h : AtsOk l) (ha : Dg 256 a.2 ∧ a.2.length ≤ 140737488351232) : AtsOk (reckS l a) := by
  unfold reckS
  split
  · exact putL_ok h ha
  · exact h
theorem reckS_len (l : List At) (a : At) : (reckS l a).length ≤ l.length + 1 := by
  unfold reckS
  split
  · exact putL_len l a
  · omega
theorem reckF_ok {m : List At} : ∀ {l : List At}, AtsOk l → AtsOk m → AtsOk (m.foldl reckS l) := by
  induction m with
  | nil => intro l h _; exact h
  | cons a m ih => intro l h hm; exact ih (reckS_ok h (hm a List.mem_cons_self)) fun x hx => hm x (List.mem_cons_of_mem _ hx)
theorem reckF_len (m : List At) : ∀ l : List At, (m.foldl reckS l).length ≤ l.length + m.length := by
  induction m with
  | nil => intro l; simp
  | cons a m ih =>
    intro l
    have h1 := ih (reckS l a)
    have h2 := reckS_len l a
    simp only [List.foldl_cons, List.length_cons]
    omega

def ReckPost (o : List At) (base : Nat) (w : World) (e : Ending) (w' : World) : Prop := ∃ v1, e = .returned v1 ∧ OwA w' base v1 (reckL o) ∧ Below w.heap.size w w'

set_option maxRecDepth 100000 in
set_option maxHeartbeats 4000000 in
theorem rules_reckoned (o : List At) (base : Nat) (v : Value) (w : World) (h : OwA w base v o) (hok : AtsOk o) (hn : natsOk o) (hl : o.length ≤ 900) (hb : base ≤ w.heap.size) :
    Calls Tryz.prog 161 #[.int .i64 1, v, .slice none 0 0] w (ReckPost o base w) := by
  have H := Ho.mk h
  have HS := Ho.mk h.sl
  have HOK := Ho.mk hok
  have HN := Ho.mk hn
  obtain ⟨A, cc, rfl, h1, h2⟩ := h.shape
  clear hok hn h
  go_enter Tryz.func161, Tryz.ntmps161
  go_wp2_with fail
  refine (attrs_Get o 17 _ w HS.out HOK.out).mono ?_
  rintro e w1 hp1
  obtain ⟨v1, rfl, ho, hB⟩ := get_val hp1
  obtain ⟨A1, c1, rfl⟩ := ho.sl.shape
  have HB1 := Ho.mk hB
  clear hp1 ho hB
  go_wp2_with fail
  refine (attrs_Flag o 259 _ _ (HS.out.below HB1.out) HOK.out).mono ?_
  rintro e w2 ⟨rfl, hB⟩
  have HB2 := Ho.mk (below_base HB1.out HB1.out.size hB)
  clear hB
  go_wp2_with fail
  refine (attrs_Flag o 354 _ _ (HS.out.below HB2.out) HOK.out).mono ?_
  rintro e w3 ⟨rfl, hB⟩
  have HB3 := Ho.mk (below_base HB2.out HB2.out.size hB)
  clear hB
  obtain ⟨N, HNE⟩ : ∃ N, Ho ((valL o 17).length = N) := ⟨_, ⟨rfl⟩⟩
  have HA : Ho (reckA o = [numA 353 N, numA 289 (nbits (natOf o 288)), boolA 355 false, boolA 357 false, boolA 356 false]) := ⟨by unfold reckA; rw [HNE.out]⟩
  rw [HNE.out]
  go_wp2_with fail
  refine (attrs_Num 353 N _).mono ?_
  rintro e w4 ⟨x1, rfl, o1, hB⟩
  have HO1 := Ho.mk o1.sl
  have HB4 := Ho.mk (below_base HB3.out HB3.out.size hB)
  obtain ⟨a1, d1, rfl⟩ := o1.sl.shape
  clear o1 hB
  go_wp2_with fail
  refine (rules_nat o 288 _ _ (HS.out.below HB4.out) HOK.out (HN.out _)).mono ?_
  rintro e w5 ⟨y, ys, rfl, hm, hv, hyl, oy, hB⟩
  have HM := Ho.mk hm
  have HV := Ho.mk hv
  have HSY := Ho.mk oy.sl
  have HO1 := Ho.mk (HO1.out.below hB)
  have HB5 := Ho.mk (below_base HB4.out HB4.out.size hB)
  obtain ⟨ay, dy, rfl⟩ := oy.sl.shape
  clear hm hv oy hB
  go_wp2_with fail
  refine (limb_Bits _ ys _ HSY.out HM.out.1 hyl).mono ?_
  rw [HV.out]
  rintro e w6 ⟨rfl, rfl⟩
  go_wp2_with fail
  refine (attrs_Num 289 (nbits (natOf o 288)) _).mono ?_
  rintro e w7 ⟨x2, rfl, o2, hB⟩
  have HO1 := Ho.mk (HO1.out.below hB)
  have HO2 := Ho.mk o2.sl
  have HB7 := Ho.mk (below_base HB5.out HB5.out.size hB)
  obtain ⟨a2, d2, rfl⟩ := o2.sl.shape
  clear o2 hB
  go_wp2_with fail
  refine (attrs_Bool 355 false _).mono ?_
  rintro e w8 ⟨x3, rfl, o3, hB⟩
  have HO1 := Ho.mk (HO1.out.below hB)
  have HO2 := Ho.mk (HO2.out.below hB)
  have HO3 := Ho.mk o3.sl
  have HB8 := Ho.mk (below_base HB7.out HB7.out.size hB)
  obtain ⟨a3, d3, rfl⟩ := o3.sl.shape
  clear o3 hB
  go_wp2_with fail
  refine (attrs_Bool 357 false _).mono ?_
  rintro e w9 ⟨x4, rfl, o4, hB⟩
  have HO1 := Ho.mk (HO1.out.below hB)
  have HO2 := Ho.mk (HO2.out.below hB)
  have HO3 := Ho.mk (HO3.out.below hB)
  have HO4 := Ho.mk o4.sl
  have HB9 := Ho.mk (below_base HB8.out HB8.out.size hB)
  obtain ⟨a4, d4, rfl⟩ := o4.sl.shape
  clear o4 hB
  go_wp2_with fail
  refine (attrs_Bool 356 false _).mono ?_
  rintro e w10 ⟨x5, rfl, o5, hB⟩
  have HO1 := Ho.mk (HO1.out.below hB)
  have HO2 := Ho.mk (HO2.out.below hB)
  have HO3 := Ho.mk (HO3.out.below hB)
  have HO4 := Ho.mk (HO4.out.below hB)
  have HO5 := Ho.mk o5.sl
  have HB10 := Ho.mk (below_base HB9.out HB9.out.size hB)
  obtain ⟨a5, d5, rfl⟩ := o5.sl.shape
  clear o5 hB
  go_wp2
  have hsl := sl_boxes (W := w10) (q := [(numA 353 N, .slice a1 (numA 353 N).2.length d1), (numA 289 (nbits (natOf o 288)), .slice a2 (numA 289 (nbits (natOf o 288))).2.length d2), (boolA 355 false, .slice a3 (boolA 355 false).2.length d3), (boolA 357 false, .slice a4 (boolA 357 false).2.length d4), (boolA 356 false, .slice a5 (boolA 356 false).2.length d5)])
    (fun p hp => by
      simp only [List.mem_cons, List.not_mem_nil, or_false] at hp
      rcases hp with rfl | rfl | rfl | rfl | rfl
      · exact HO1.out
      · exact HO2.out
      · exact HO3.out
      · exact HO4.out
      · exact HO5.out) (by simp)
  obtain ⟨m, HME⟩ : ∃ m, Ho (reckA o = m) := ⟨_, ⟨rfl⟩⟩
  have HSM : Ho (SlA (w10.alloc (.cells #[.int .i64 (numA 353 N).1, .slice a1 (numA 353 N).2.length d1, .int .i64 (numA 289 (nbits (natOf o 288))).1, .slice a2 (numA 289 (nbits (natOf o 288))).2.length d2, .int .i64 (boolA 355 false).1, .slice a3 (boolA 355 false).2.length d3, .int .i64 (boolA 357 false).1, .slice a4 (boolA 357 false).2.length d4, .int .i64 (boolA 356 false).1, .slice a5 (boolA 356 false).2.length d5] 91)) (.slice (some ⟨w10.heap.size, 0, none⟩) 5 5) m) := ⟨by
    have e : m = [numA 353 N, numA 289 (nbits (natOf o 288)), boolA 355 false, boolA 357 false, boolA 356 false] := by rw [← HME.out, HA.out]
    rw [e]; exact hsl⟩
  have HML : Ho (m.length = 5) := ⟨by rw [← HME.out]; rfl⟩
  have HMO : Ho (AtsOk m) := ⟨by rw [← HME.out]; exact reckA_ok o⟩
  obtain ⟨W0, hW0⟩ : ∃ W0, w10.alloc (.cells #[.int .i64 (numA 353 N).1, .slice a1 (numA 353 N).2.length d1, .int .i64 (numA 289 (nbits (natOf o 288))).1, .slice a2 (numA 289 (nbits (natOf o 288))).2.length d2, .int .i64 (boolA 355 false).1, .slice a3 (boolA 355 false).2.length d3, .int .i64 (boolA 357 false).1, .slice a4 (boolA 357 false).2.length d4, .int .i64 (boolA 356 false).1, .slice a5 (boolA 356 false).2.length d5] 91) = W0 := ⟨_, rfl⟩
  have HB0 : Ho (Below w.heap.size w W0) := ⟨hW0 ▸ HB10.out.alloc HB10.out.size _⟩
  have HH0 := Ho.mk (H.out.below HB0.out)
  rw [hW0] at HSM ⊢
  have hbW : base ≤ W0.heap.size := Nat.le_trans hb HB0.out.size
  clear hW0 hsl HO1 HO2 HO3 HO4 HO5 HA HNE HB10 HB9 HB8 HB7 HB5 HB4 HB3 HB2 HB1 HSY HM HV
  go_loopg [1, 54] 5 (fun g ov s wx => ∃ k : Nat, k + g = 5 ∧ s = .int .i64 k ∧ Ho (OwA wx base ov ((m.take k).foldl reckS o)) ∧ Ho (Below W0.heap.size W0 wx))
  case atStart => exact ⟨0, rfl, rfl, ⟨by simpa using HH0.out⟩, ⟨Below.refl _ _⟩⟩
  case round =>
    obtain ⟨k, hkg, rfl, ho, hB⟩ := hrel
    by_cases hk : k < 5
    · have hkm : k < m.length := by have := HML.out; omega
      obtain ⟨As, cs, es, _, _, _, hrm⟩ := HSM.out.below hB.out
      simp only [Value.slice.injEq] at es
      obtain ⟨b, off, eA, hcell⟩ := hrm (by omega)
      rw [← es.1] at eA
      simp only [Option.some.injEq, Addr.mk.injEq, and_true] at eA
      obtain ⟨rfl, rfl⟩ := eA
      obtain ⟨xv, c1', c2', hs⟩ := hcell k hkm
      obtain ⟨x, HXE⟩ : ∃ x, Ho (m[k]'hkm = x) := ⟨_, ⟨rfl⟩⟩
      have HXO := Ho.mk (HMO.out _ (List.getElem_mem hkm))
      have HSn : Ho ((m.take (k + 1)).foldl reckS o = reckS ((m.take k).foldl reckS o) (m[k]'hkm)) := ⟨by rw [List.take_succ_eq_append_getElem hkm, List.foldl_append]; rfl⟩
      rw [HXE.out] at c1' hs HXO HSn
      have HX := Ho.mk hs
      obtain ⟨Ax, ex, rfl⟩ := hs.shape
      obtain ⟨f, HFE⟩ : ∃ f, Ho ((m.take k).foldl reckS o = f) := ⟨_, ⟨rfl⟩⟩
      have hfl : f.length ≤ 1000 := by rw [← HFE.out]; have := reckF_len (m.take k) o; have := List.length_take_le k m; omega
      have HFO : Ho (AtsOk f) := ⟨by rw [← HFE.out]; exact reckF_ok HOK.out (HMO.out.take k)⟩
      rw [HFE.out] at ho HSn
      simp only [Nat.zero_add] at c1' c2'
      have HOa := Ho.mk (ho.out.alloc (.cells #[.int .i64 x.1, .slice Ax x.2.length ex] 91))
      have HBa := Ho.mk (hB.out.alloc hB.out.size (.cells #[.int .i64 x.1, .slice Ax x.2.length ex] 91))
      have hbx := cell2 (heap_alloc_new wr (.cells #[.int .i64 x.1, .slice Ax x.2.length ex] 91))
      have HXa := Ho.mk (HX.out.below ((Below.refl _ _).alloc (Nat.le_refl _) (.cells #[.int .i64 x.1, .slice Ax x.2.length ex] 91)))
      obtain ⟨Ao, co, rfl, _, _⟩ := ho.out.shape
      clear hcell hrm es hs
      obtain ⟨y, HYE⟩ : ∃ y, Ho (cameL f x.1 = y) := ⟨_, ⟨rfl⟩⟩
      go_wp2_with fail
      refine (rules_came f x.1 _ _ HOa.out.sl HFO.out).mono ?_
      rw [HYE.out]
      rintro e w1 ⟨rfl, hb1⟩
      have d0 := cell_below hb1 hbx.1
      have d1 := cell_below hb1 hbx.2.1
      have HO1 := Ho.mk (HOa.out.below hb1)
      have HX1 := Ho.mk (HXa.out.below hb1)
      have HB1 := Ho.mk (below_base HBa.out HBa.out.size hb1)
      clear hb1 hbx
      cases y with
      | true =>
        have HRS : Ho (reckS f x = putL f x) := ⟨if_pos HYE.out⟩
        go_wp2_with fail
        refine (attrs_Put f x.1 x.2 _ _ _ HO1.out.sl HFO.out HX1.out HXO.out.2 hfl).mono ?_
        rintro e w2 ⟨v2, rfl, ho2, hb2⟩
        have HO2 := Ho.mk (ho2.weaken (Nat.le_trans hbW HB1.out.size))
        have HB2 := Ho.mk (below_base HB1.out HB1.out.size hb2)
        clear ho2 hb2
        go_wp2
        go_roundg (4 - k)
        case measure => omega
        case rel => exact ⟨k + 1, by omega, by go_num, ⟨by rw [HSn.out, HRS.out]; exact HO2.out⟩, HB2⟩
      | false =>
        have HRS : Ho (reckS f x = f) := ⟨if_neg (by rw [HYE.out]; simp)⟩
        go_wp2
        go_roundg (4 - k)
        case measure => omega
        case rel => exact ⟨k + 1, by omega, by go_num, ⟨by rw [HSn.out, HRS.out]; exact HO1.out⟩, HB1⟩
    · have e : k = 5 := by omega
      have HP : Ho (OwA wr base _ (reckL o)) := ⟨by have := ho.out; rw [e, List.take_of_length_le (by have := HML.out; omega), ← HME.out] at this; exact this⟩
      clear ho e
      go_wp2
      go_ret
      exact ⟨_, rfl, HP.out, below_base HB0.out HB0.out.size hB.out⟩

end Go.Proofs.YthjcldkaodmfoaaGreat
