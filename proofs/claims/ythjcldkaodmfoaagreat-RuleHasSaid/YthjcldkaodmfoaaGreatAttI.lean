/-
  What rules.forms, rules.Check of a template return. Conditions: those that each theorem types.
-/
import Derived.Test.YthjcldkaodmfoaaGreatAttH
import Derived.WalkMore
namespace Go.Proofs.YthjcldkaodmfoaaGreat
open Go.RowKit

def atL (l : List At) (i : Nat) : At := l.getD i (0, [])
theorem atL_eq {l : List At} {i : Nat} (h : i < l.length) : l[i]'h = atL l i := by simp [atL, List.getD_eq_getElem?_getD, h]
def testR (l : List At) : Nat → Nat → Bool
  | 0, i => decide (formL (atL l i).1 = 0)
  | 1, i => cameL (l.take i) (atL l i).1
  | _, i => !fineL (atL l i)
theorem testR0 (l : List At) (i : Nat) : testR l 0 i = decide (formL (atL l i).1 = 0) := rfl
theorem testR1 (l : List At) (i : Nat) : testR l 1 i = cameL (l.take i) (atL l i).1 := rfl
theorem testR2 (l : List At) (i : Nat) : testR l 2 i = !fineL (atL l i) := rfl
def noneR (l : List At) (r : Nat) : Prop := ∀ i, i < l.length → testR l r i = false
def anyR (l : List At) (r : Nat) : Bool := (List.range l.length).any (testR l r)
theorem anyR_false {l : List At} {r : Nat} (h : noneR l r) : anyR l r = false := by
  unfold anyR
  rw [List.any_eq_false]
  intro i hi
  simpa using h i (List.mem_range.1 hi)
theorem anyR_true {l : List At} {r i : Nat} (hi : i < l.length) (h : testR l r i = true) : anyR l r = true := by
  unfold anyR
  rw [List.any_eq_true]
  exact ⟨i, List.mem_range.2 hi, h⟩
/-- What is amiss with a template's values. -/
def formsL (l : List At) : Int := if anyR l 0 then 18 else if anyR l 1 then 209 else if anyR l 2 then 19 else 0
def RVPost (r : Int) (w : World) (e : Ending) (w' : World) : Prop := e = .returned (.int .i64 r) ∧ Below w.heap.size w w'
theorem SlA.cutTo {w : World} {A : Option Addr} {c : Nat} {l : List At} (h : SlA w (.slice A l.length c) l) (i : Nat) (hi : i ≤ l.length) : SlA w (.slice A i c) (l.take i) := by
  obtain ⟨A', c', e, h1, h2, h3, hr⟩ := h
  simp only [Value.slice.injEq, true_and] at e
  obtain ⟨rfl, rfl⟩ := e
  have hl : (l.take i).length = i := by rw [List.length_take]; omega
  refine ⟨A, c, by rw [hl], by rw [hl]; omega, h2, h3, fun hp => ?_⟩
  obtain ⟨b, o, eA, hk⟩ := hr (by omega)
  refine ⟨b, o, eA, fun j hj => ?_⟩
  obtain ⟨bv, c1, c2, hs⟩ := hk j (by omega)
  rw [List.getElem_take]
  exact ⟨bv, c1, c2, hs⟩

set_option maxRecDepth 100000 in
set_option maxHeartbeats 8000000 in
theorem rules_forms (l : List At) (v : Value) (w : World) (h : SlA w v l) (hok : AtsOk l) (hl : l.length ≤ 100000) :
    Calls Tryz.prog 218 #[v] w (RVPost (formsL l) w) := by
  have H := Ho.mk h
  have HOK := Ho.mk hok
  obtain ⟨A, cc, rfl, h1, h2, h3, hr⟩ := h
  have HR := Ho.mk hr
  clear h3 hr hok
  go_enter Tryz.func218, Tryz.ntmps218
  go_wp2
  go_step3
  go_wp2
  go_step3
  go_wp2
  go_loopg [3, 7] 3 (fun g s3 s7 wx => ∃ r : Nat, r + g = 3 ∧ s3 = .int .i64 0 ∧ s7 = .int .i64 r ∧ Ho (∀ r', r' < r → noneR l r') ∧ Ho (Below w.heap.size w wx))
  case atStart => exact ⟨0, rfl, rfl, rfl, ⟨fun r' h => absurd h (by omega)⟩, ⟨Below.refl _ _⟩⟩
  case round =>
    obtain ⟨r, hrg, rfl, rfl, hn, hB⟩ := hrel
    by_cases hr3 : r < 3
    · go_wp2
      go_loopg [3, 12] l.length (fun g2 s3 s12 wy => ∃ i : Nat, i + g2 = l.length ∧ s3 = .int .i64 0 ∧ s12 = .int .i64 i ∧ Ho (∀ j, j < i → testR l r j = false) ∧ Ho (Below w.heap.size w wy))
      case atStart => exact ⟨0, by omega, rfl, rfl, ⟨fun r' h => absurd h (by omega)⟩, hB⟩
      case round =>
        clear hB
        obtain ⟨i, hig, rfl, rfl, hni, hB⟩ := hrel
        by_cases hil : i < l.length
        · obtain ⟨bb, o, rfl, hcell⟩ := HR.out (by omega)
          obtain ⟨xv, c1, c2, hs⟩ := hcell i hil
          have hc1 := cell_below hB.out c1
          have hc2 := cell_below hB.out c2
          have HX := Ho.mk (hs.below hB.out)
          have HXD := Ho.mk (HOK.out _ (List.getElem_mem hil)).1
          obtain ⟨A1, e1, rfl, _⟩ := hs
          obtain ⟨x, HXE⟩ : ∃ x, Ho (l[i]'hil = x) := ⟨_, ⟨rfl⟩⟩
          have HXA : Ho (atL l i = x) := ⟨by rw [← atL_eq hil, HXE.out]⟩
          rw [HXE.out] at hc1 hc2 HX HXD
          clear hcell c1 c2
          have hzw := hB.out.size
          have HBx := Ho.mk (hB.out.alloc hB.out.size (.cells #[.int .i64 x.1, .slice A1 x.2.length e1] 91))
          rcases (show r = 0 ∨ r = 1 ∨ r = 2 by omega) with rfl | rfl | rfl
          · by_cases hf : formL x.1 = 0
            · have q : (formL x.1 == 0) = true := beq_iff_eq.2 hf
              have HP : Ho (RVPost (formsL l) w (.returned (.int .i64 18)) (wr.alloc (.cells #[.int .i64 x.1, .slice A1 x.2.length e1] 91))) := ⟨by
                unfold formsL
                rw [anyR_true hil (show testR l 0 i = true by rw [testR0, HXA.out]; exact decide_eq_true hf)]
                rfl, HBx.out⟩
              clear hf hB hn hni
              go_wp2_with fail
              refine (attrs_Form x.1 _).mono ?_
              rintro e w1 ⟨rfl, rfl⟩
              go_wp2
              rw [Exit.noGoto_ret]
              go_ret
              exact HP.out
            · have q : (formL x.1 == 0) = false := beq_eq_false_iff_ne.2 hf
              have HT : Ho (testR l 0 i = false) := ⟨by rw [testR0, HXA.out]; exact decide_eq_false hf⟩
              clear hf
              go_wp2_with fail
              refine (attrs_Form x.1 _).mono ?_
              rintro e w1 ⟨rfl, rfl⟩
              go_wp2
              go_quiet (fail)
              go_wp2
              go_roundg (l.length - (i + 1))
              case measure => omega
              case rel => exact ⟨i + 1, by omega, rfl, by go_num, ⟨fun j hj => if e : j = i then by subst e; exact HT.out else hni.out j (by omega)⟩, ⟨below_drewN HBx.out _⟩⟩
          · obtain ⟨r, HRE⟩ : ∃ r, Ho (cameL (l.take i) x.1 = r) := ⟨_, ⟨rfl⟩⟩
            go_wp2
            obtain ⟨W0, hW0⟩ : ∃ W0, wr.alloc (.cells #[.int .i64 x.1, .slice A1 x.2.length e1] 91) = W0 := ⟨_, rfl⟩
            have HSl := Ho.mk ((H.out.below (hW0 ▸ HBx.out)).cutTo i (by omega))
            obtain ⟨k0, k1, _, _⟩ := cell2 (hW0 ▸ heap_alloc_new wr (.cells #[.int .i64 x.1, .slice A1 x.2.length e1] 91) : W0.heap[wr.heap.size]? = some (.cells #[.int .i64 x.1, .slice A1 x.2.length e1] 91 (0, 0)))
            rw [hW0] at HBx ⊢
            clear hW0
            have hi0 : (0 : Int) ≤ (i : Int) := Int.natCast_nonneg _
            have hi1 : (i : Int) ≤ (l.length : Int) := by omega
            have hi2 : (i : Int) ≤ (cc : Int) := by omega
            go_region_held3 (fun w' => w'.cell? ⟨wr.heap.size, 0, none⟩ = some (.int .i64 x.1))
              (first | exact k0 | exact cell_below (w := W0.drew) hbI k0)
              (first | (go_at_call 232; refine (rules_came (l.take i) x.1 (.slice (some ⟨bb, o, none⟩) i cc) W0.drew (HSl.out.drewN 1) (HOK.out.take i)).mono ?_; rw [HRE.out]; rintro e w1 ⟨rfl, hbI⟩))
            have HBI := Ho.mk (below_base (below_drewN HBx.out 1) HBx.out.size hbI)
            have d0 := cell_below (w := W0.drew) hbI k0
            have d1 := cell_below (w := W0.drew) hbI k1
            clear hbI k0 k1
            cases r with
            | true =>
              have HP : Ho (∀ X, Below w.heap.size w X → RVPost (formsL l) w (.returned (.int .i64 209)) X) := ⟨fun X hX => ⟨by
                unfold formsL
                rw [anyR_false (hn.out 0 (by omega)), anyR_true hil (show testR l 1 i = true by rw [testR1, HXA.out, HRE.out])]
                rfl, hX⟩⟩
              clear hB hn hni
              go_wp2
              rw [Exit.noGoto_ret]
              go_ret
              exact HP.out _ HBI.out
            | false =>
              have HT : Ho (testR l 1 i = false) := ⟨by rw [testR1, HXA.out, HRE.out]⟩
              go_wp2
              go_roundg (l.length - (i + 1))
              case measure => omega
              case rel => exact ⟨i + 1, by omega, rfl, by go_num, ⟨fun j hj => if e : j = i then by subst e; exact HT.out else hni.out j (by omega)⟩, ⟨HBI.out⟩⟩
          · by_cases hf : fineL x = true
            · have HT : Ho (testR l 2 i = false) := ⟨by rw [testR2, HXA.out, hf]; rfl⟩
              have q : fineL (x.1, x.2) = true := hf
              clear hf
              go_wp2
              go_quiet (fail)
              go_wp2_with fail
              refine (attrs_Fine x.1 x.2 _ _ ?_ HXD.out).mono ?_
              · exact (HX.out.below ((Below.refl _ _).alloc (Nat.le_refl _) _)).drewN _
              rintro e w1 ⟨rfl, hB1⟩
              have HB1 := Ho.mk (below_base (below_drewN HBx.out _) HBx.out.size hB1)
              clear hB1
              go_wp2
              go_roundg (l.length - (i + 1))
              case measure => omega
              case rel => exact ⟨i + 1, by omega, rfl, by go_num, ⟨fun j hj => if e : j = i then by subst e; exact HT.out else hni.out j (by omega)⟩, ⟨HB1.out⟩⟩
            · have q : fineL (x.1, x.2) = false := by simpa using hf
              have HP : Ho (∀ X, Below w.heap.size w X → RVPost (formsL l) w (.returned (.int .i64 19)) X) := ⟨fun X hX => ⟨by
                unfold formsL
                rw [anyR_false (hn.out 0 (by omega)), anyR_false (hn.out 1 (by omega)), anyR_true hil (show testR l 2 i = true by rw [testR2, HXA.out, show fineL x = false from q]; rfl)]
                rfl, hX⟩⟩
              clear hf hB hn hni
              go_wp2
              go_quiet (fail)
              go_wp2_with fail
              refine (attrs_Fine x.1 x.2 _ _ ?_ HXD.out).mono ?_
              · exact (HX.out.below ((Below.refl _ _).alloc (Nat.le_refl _) _)).drewN _
              rintro e w1 ⟨rfl, hB1⟩
              have HB1 := Ho.mk (below_base (below_drewN HBx.out _) HBx.out.size hB1)
              clear hB1
              go_wp2
              rw [Exit.noGoto_ret]
              go_ret
              exact HP.out _ HB1.out
        · go_wp2
          go_roundg (2 - r)
          case measure => omega
          case rel => exact ⟨r + 1, by omega, rfl, by go_num, ⟨fun r' hr' => if e : r' = r then by subst e; exact fun j hj => hni.out j (by omega) else hn.out r' (by omega)⟩, hB⟩
    · have e : r = 3 := by omega
      subst e
      have HP : Ho (RVPost (formsL l) w (.returned (.int .i64 0)) wr) := ⟨by unfold formsL; rw [anyR_false (hn.out 0 (by omega)), anyR_false (hn.out 1 (by omega)), anyR_false (hn.out 2 (by omega))]; rfl, hB.out⟩
      clear hn
      go_wp2
      rw [Exit.noGoto_ret]
      go_ret
      exact HP.out


/-! ### rules.Check of a template from which an object is created -/
def testC (l : List At) (c k : Int) : Nat → Nat → Bool
  | 0, i => !hasL c k (atL l i).1
  | _, i => unreadL (atL l i).1
theorem testC0 (l : List At) (c k : Int) (i : Nat) : testC l c k 0 i = !hasL c k (atL l i).1 := rfl
theorem testC1 (l : List At) (c k : Int) (i : Nat) : testC l c k 1 i = unreadL (atL l i).1 := rfl
def noneC (l : List At) (c k : Int) (r : Nat) : Prop := ∀ i, i < l.length → testC l c k r i = false
def anyC (l : List At) (c k : Int) (r : Nat) : Bool := (List.range l.length).any (testC l c k r)
theorem anyC_false {l : List At} {c k : Int} {r : Nat} (h : noneC l c k r) : anyC l c k r = false := by
  unfold anyC
  rw [List.any_eq_false]
  intro i hi
  simpa using h i (List.mem_range.1 hi)
theorem anyC_true {l : List At} {c k : Int} {r i : Nat} (hi : i < l.length) (h : testC l c k r i = true) : anyC l c k r = true := by
  unfold anyC
  rw [List.any_eq_true]
  exact ⟨i, List.mem_range.2 hi, h⟩
def checkC (l : List At) (c k : Int) : Int := if anyC l c k 0 then 209 else if anyC l c k 1 then 16 else 0
/-- What is amiss with a template from which an object is created. -/
def checkL (l : List At) : Int := if formsL l ≠ 0 then formsL l else if (kindsL l).2.2 ≠ 0 then (kindsL l).2.2 else checkC l (kindsL l).1 (kindsL l).2.1

set_option maxRecDepth 100000 in
set_option maxHeartbeats 8000000 in
theorem rules_Check (l : List At) (v : Value) (w : World) (h : SlA w v l) (hok : AtsOk l) (hl : l.length ≤ 100000) :
    Calls Tryz.prog 146 #[.int .i64 1, v, .int .i64 (-1), .int .i64 0] w (RVPost (checkL l) w) := by
  have H := Ho.mk h
  have HOK := Ho.mk hok
  obtain ⟨A, cc, rfl, h1, h2, h3, hr⟩ := h
  have HR := Ho.mk hr
  clear h3 hr hok
  obtain ⟨f, HFE⟩ : ∃ f, Ho (formsL l = f) := ⟨_, ⟨rfl⟩⟩
  by_cases hf : f = 0
  · have qf : (f != 0) = false := by simp [hf]
    have HF0 := Ho.mk (HFE.out.trans hf)
    clear hf
    obtain ⟨c, k, rv, HKE⟩ : ∃ c k rv, Ho (kindsL l = (c, k, rv)) := ⟨_, _, _, ⟨rfl⟩⟩
    by_cases hr : rv = 0
    · subst hr
      have HC : Ho (checkL l = checkC l c k) := ⟨by unfold checkL; rw [if_neg (by rw [HF0.out]; simp), HKE.out]; simp⟩
      go_enter Tryz.func146, Tryz.ntmps146
      go_wp2
      go_step3
      go_wp2_with fail
      refine (rules_forms l _ w H.out HOK.out hl).mono ?_
      rw [HFE.out]
      rintro e w1 ⟨rfl, hB1⟩
      have HB1 := Ho.mk hB1
      clear hB1
      go_wp2_with fail
      refine (rules_Kinds l _ _ (H.out.below HB1.out) HOK.out).mono ?_
      rw [HKE.out]
      rintro e w2 ⟨rfl, hB2⟩
      have HB2 := Ho.mk (below_base HB1.out HB1.out.size hB2)
      clear hB2
      go_wp2
      go_step3
      go_wp2
      go_loopg [10, 36] 2 (fun g s3 s7 wx => ∃ r : Nat, r + g = 2 ∧ s3 = .int .i64 0 ∧ s7 = .int .i64 r ∧ Ho (∀ r', r' < r → noneC l c k r') ∧ Ho (Below w.heap.size w wx))
      case atStart => exact ⟨0, rfl, rfl, rfl, ⟨fun r' h => absurd h (by omega)⟩, HB2⟩
      case round =>
        obtain ⟨r, hrg, rfl, rfl, hn, hB⟩ := hrel
        by_cases hr3 : r < 2
        · go_wp2
          go_loopg [10, 41] l.length (fun g2 s3 s12 wy => ∃ i : Nat, i + g2 = l.length ∧ s3 = .int .i64 0 ∧ s12 = .int .i64 i ∧ Ho (∀ j, j < i → testC l c k r j = false) ∧ Ho (Below w.heap.size w wy))
          case atStart => exact ⟨0, by omega, rfl, rfl, ⟨fun r' h => absurd h (by omega)⟩, hB⟩
          case round =>
            clear hB
            obtain ⟨i, hig, rfl, rfl, hni, hB⟩ := hrel
            by_cases hil : i < l.length
            · obtain ⟨bb, o, rfl, hcell⟩ := HR.out (by omega)
              obtain ⟨xv, c1, c2, hs⟩ := hcell i hil
              have hc1 := cell_below hB.out c1
              have hc2 := cell_below hB.out c2
              obtain ⟨A1, e1, rfl, _⟩ := hs
              obtain ⟨x, HXE⟩ : ∃ x, Ho (l[i]'hil = x) := ⟨_, ⟨rfl⟩⟩
              have HXA : Ho (atL l i = x) := ⟨by rw [← atL_eq hil, HXE.out]⟩
              rw [HXE.out] at hc1 hc2
              clear hcell c1 c2
              have hzw := hB.out.size
              have HBx := Ho.mk (hB.out.alloc hB.out.size (.cells #[.int .i64 x.1, .slice A1 x.2.length e1] 91))
              obtain ⟨y, HRE⟩ : ∃ y, Ho (testC l c k r i = y) := ⟨_, ⟨rfl⟩⟩
              rcases (show r = 0 ∨ r = 1 by omega) with rfl | rfl
              · have HTE : Ho (hasL c k x.1 = !y) := ⟨by rw [← HRE.out, testC0, HXA.out, Bool.not_not]⟩
                have hb0 := cell2 (heap_alloc_new wr (.cells #[.int .i64 x.1, .slice A1 x.2.length e1] 91))
                go_wp2_with fail
                refine (rules_Has c k x.1 _).mono ?_
                rw [HTE.out]
                rintro e w3 ⟨rfl, hB3⟩
                have HB3 := Ho.mk (below_base HBx.out HBx.out.size hB3)
                have d0 := cell_below hB3 hb0.1
                clear hB3 hb0
                cases y with
                | true =>
                  have HP : Ho (∀ X, Below w.heap.size w X → RVPost (checkL l) w (.returned (.int .i64 209)) X) := ⟨fun X hX => ⟨by
                    rw [HC.out]
                    unfold checkC
                    rw [anyC_true hil HRE.out]
                    rfl, hX⟩⟩
                  clear hB hn hni
                  go_wp2
                  rw [Exit.noGoto_ret]
                  go_ret
                  exact HP.out _ HB3.out
                | false =>
                  go_wp2
                  go_roundg (l.length - (i + 1))
                  case measure => omega
                  case rel => exact ⟨i + 1, by omega, rfl, by go_num, ⟨fun j hj => if e : j = i then by subst e; exact HRE.out else hni.out j (by omega)⟩, ⟨HB3.out⟩⟩
              · have HTE : Ho (unreadL x.1 = y) := ⟨by rw [← HRE.out, testC1, HXA.out]⟩
                go_wp2_with fail
                refine (rules_unread c x.1 _).mono ?_
                rw [HTE.out]
                rintro e w3 ⟨rfl, rfl⟩
                cases y with
                | true =>
                  have HP : Ho (∀ X, Below w.heap.size w X → RVPost (checkL l) w (.returned (.int .i64 16)) X) := ⟨fun X hX => ⟨by
                    rw [HC.out]
                    unfold checkC
                    rw [anyC_false (hn.out 0 (by omega)), anyC_true hil HRE.out]
                    rfl, hX⟩⟩
                  clear hB hn hni
                  go_wp2
                  rw [Exit.noGoto_ret]
                  go_ret
                  exact HP.out _ HBx.out
                | false =>
                  go_wp2
                  go_roundg (l.length - (i + 1))
                  case measure => omega
                  case rel => exact ⟨i + 1, by omega, rfl, by go_num, ⟨fun j hj => if e : j = i then by subst e; exact HRE.out else hni.out j (by omega)⟩, ⟨HBx.out⟩⟩
            · go_wp2
              go_roundg (1 - r)
              case measure => omega
              case rel => exact ⟨r + 1, by omega, rfl, by go_num, ⟨fun r' hr' => if e : r' = r then by subst e; exact fun j hj => hni.out j (by omega) else hn.out r' (by omega)⟩, hB⟩
        · have e : r = 2 := by omega
          subst e
          have HP : Ho (RVPost (checkL l) w (.returned (.int .i64 0)) wr) := ⟨by rw [HC.out]; unfold checkC; rw [anyC_false (hn.out 0 (by omega)), anyC_false (hn.out 1 (by omega))]; rfl, hB.out⟩
          clear hn
          go_wp2
          rw [Exit.noGoto_ret]
          go_ret
          exact HP.out
    · have qr : (rv != 0) = true := by simp [hr]
      have HC : Ho (checkL l = rv) := ⟨by unfold checkL; rw [if_neg (by rw [HF0.out]; simp), HKE.out]; simp [hr]⟩
      clear hr
      go_enter Tryz.func146, Tryz.ntmps146
      go_wp2
      go_step3
      go_wp2_with fail
      refine (rules_forms l _ w H.out HOK.out hl).mono ?_
      rw [HFE.out]
      rintro e w1 ⟨rfl, hB1⟩
      have HB1 := Ho.mk hB1
      clear hB1
      go_wp2_with fail
      refine (rules_Kinds l _ _ (H.out.below HB1.out) HOK.out).mono ?_
      rw [HKE.out]
      rintro e w2 ⟨rfl, hB2⟩
      have HB2 := Ho.mk (below_base HB1.out HB1.out.size hB2)
      clear hB2
      go_wp2
      rw [Exit.noGoto_ret]
      go_ret
      exact ⟨by rw [HC.out]; rfl, HB2.out⟩
  · have qf : (f != 0) = true := by simp [hf]
    have HC : Ho (checkL l = f) := ⟨by unfold checkL; rw [if_pos (by rw [HFE.out]; exact hf), HFE.out]⟩
    clear hf
    go_enter Tryz.func146, Tryz.ntmps146
    go_wp2
    go_step3
    go_wp2_with fail
    refine (rules_forms l _ w H.out HOK.out hl).mono ?_
    rw [HFE.out]
    rintro e w1 ⟨rfl, hB1⟩
    have HB1 := Ho.mk hB1
    clear hB1
    go_wp2
    rw [Exit.noGoto_ret]
    go_ret
    exact ⟨by rw [HC.out]; rfl, HB1.out⟩

end Go.Proofs.YthjcldkaodmfoaaGreat
