/-
  What is hidden of an object, and what rules.Get tells. Conditions: the attributes' values are bytes, of no great length.
-/
import Derived.Test.YthjcldkaodmfoaaGreatAttN
namespace Go.Proofs.YthjcldkaodmfoaaGreat
open Go.RowKit Go.Shelf

theorem ref17_Bool (t : Int) (b : Bool) (w : World) :
    Calls Tryz.prog 145 #[.int .i64 t, .bool b] w (AtPost (boolA t b) w) := by
  cases b <;>
  · go_enter Tryz.func145, Tryz.ntmps145
    go_wp2
    refine bodyPost_ret (v := .agg #[.int .i64 t, .slice (some ⟨w.heap.size + 1, 0, none⟩) 1 1]) (by simp [results, Tryz.results145, go_sem]) rfl ⟨_, rfl, ?_, ((Below.refl _ _).alloc (Nat.le_refl _) _).alloc (by simp) _⟩
    exact (OwI.lit' _ _ .u8 (boolA t _).2 _ (by simp) rfl (by simp) (by simp [boolA])).val

theorem ref17_Num (t v : Int) (hv : v = 4 ∨ v = 31) (w : World) :
    Calls Tryz.prog 142 #[.int .i64 t, .int .i64 v] w (AtPost (t, [0, 0, 0, v]) w) := by
  rcases hv with rfl | rfl
  all_goals
    go_enter Tryz.func142, Tryz.ntmps142
    go_wp2
    refine bodyPost_ret (v := .agg #[.int .i64 t, .slice (some ⟨w.heap.size + 1, 0, none⟩) 4 4]) (by simp [results, Tryz.results142, go_sem]) rfl ⟨_, rfl, ?_, ((Below.refl _ _).alloc (Nat.le_refl _) _).alloc (by simp) _⟩
    exact (OwI.lit' _ _ .u8 [0, 0, 0, _] _ (by simp) rfl (by simp) (by simp)).val

/-- Is an attribute hidden? -/
def hiddenL (o : List At) (t : Int) : Bool :=
  (if t = 17 then decide ((intL o 0).1 = 4 ∨ (intL o 0).1 = 3) else if t = 291 ∨ t = 292 ∨ t = 293 then decide ((intL o 0).1 = 3) else false) && (flagL o 259 || !flagL o 354)

set_option maxRecDepth 100000 in
set_option maxHeartbeats 2000000 in
theorem rules_Hidden (l : List At) (t : Int) (v : Value) (w : World) (h : SlA w v l) (hok : AtsOk l) :
    Calls Tryz.prog 61 #[v, .int .i64 t] w (BoolPost (hiddenL l t) w) := by
  have H := Ho.mk h
  have HOK := Ho.mk hok
  obtain ⟨A, cc, rfl, h1, h2, h3, hr⟩ := h
  clear h3 hr hok
  go_enter Tryz.func61, Tryz.ntmps61
  go_wp2_with fail
  obtain ⟨c, HCE⟩ : ∃ c, Ho ((intL l 0).1 = c) := ⟨_, ⟨rfl⟩⟩
  refine (attrs_Int l 0 _ w H.out HOK.out).mono ?_
  rintro e w1 ⟨rfl, hB⟩
  have HB := Ho.mk hB
  have HS1 := Ho.mk (H.out.below hB)
  clear hB
  rw [HCE.out]
  obtain ⟨y2, HYE2⟩ : ∃ y, Ho ((intL l 0).2 = y) := ⟨_, ⟨rfl⟩⟩
  rw [HYE2.out]
  obtain ⟨fs, HFS⟩ : ∃ y, Ho (flagL l 259 = y) := ⟨_, ⟨rfl⟩⟩
  obtain ⟨fx, HFX⟩ : ∃ y, Ho (flagL l 354 = y) := ⟨_, ⟨rfl⟩⟩
  obtain ⟨g, HGE⟩ : ∃ g, Ho ((if t = 17 then decide (c = 4 ∨ c = 3) else if t = 291 ∨ t = 292 ∨ t = 293 then decide (c = 3) else false) = g) := ⟨_, ⟨rfl⟩⟩
  have HHid : Ho (hiddenL l t = (g && (fs || !fx))) := ⟨by unfold hiddenL; rw [HCE.out, HGE.out, HFS.out, HFX.out]⟩
  have HFl1 : Ho (∀ W, SlA W (.slice A l.length cc) l → Calls Tryz.prog 81 #[.slice A l.length cc, .int .i64 259] W (BoolPost fs W)) := ⟨fun W hW => by have := attrs_Flag l 259 _ W hW HOK.out; rwa [HFS.out] at this⟩
  have HFl2 : Ho (∀ W, SlA W (.slice A l.length cc) l → Calls Tryz.prog 81 #[.slice A l.length cc, .int .i64 354] W (BoolPost fx W)) := ⟨fun W hW => by have := attrs_Flag l 354 _ W hW HOK.out; rwa [HFX.out] at this⟩
  clear HCE HYE2 HFS HFX
  cases g with
  | false =>
    have HP : Ho (BoolPost (hiddenL l t) w (.returned (.bool false)) w1) := ⟨by rw [HHid.out]; exact ⟨rfl, HB.out⟩⟩
    by_cases t1 : t = 17
    · have q : (t == 17) = true := beq_iff_eq.2 t1
      have hg := HGE.out
      rw [if_pos t1] at hg
      have hc := of_decide_eq_false hg
      have p1 : (c != 4) = true := by simp; omega
      have p2 : (c != 3) = true := by simp; omega
      clear t1 hg hc
      go_wp2
      go_ret
      exact HP.out
    · have q : (t == 17) = false := beq_eq_false_iff_ne.2 t1
      by_cases t2 : t = 291 ∨ t = 292 ∨ t = 293
      · have hg := HGE.out
        rw [if_neg t1, if_pos t2] at hg
        have hc := of_decide_eq_false hg
        have p2 : (c != 3) = true := by simp; omega
        clear t1 hg hc
        rcases t2 with t2 | t2 | t2
        · have q2 : (t == 291) = true := beq_iff_eq.2 t2
          clear t2
          go_wp2
          go_ret
          exact HP.out
        · have q2 : (t == 291) = false := beq_eq_false_iff_ne.2 (by omega)
          have q3 : (t == 292) = true := beq_iff_eq.2 t2
          clear t2
          go_wp2
          go_ret
          exact HP.out
        · have q2 : (t == 291) = false := beq_eq_false_iff_ne.2 (by omega)
          have q3 : (t == 292) = false := beq_eq_false_iff_ne.2 (by omega)
          have q4 : (t == 293) = true := beq_iff_eq.2 t2
          clear t2
          go_wp2
          go_ret
          exact HP.out
      · have q2 : (t == 291) = false := beq_eq_false_iff_ne.2 (by omega)
        have q3 : (t == 292) = false := beq_eq_false_iff_ne.2 (by omega)
        have q4 : (t == 293) = false := beq_eq_false_iff_ne.2 (by omega)
        clear t1 t2
        go_wp2
        go_ret
        exact HP.out
  | true =>
    have fin : ∀ W, Below w1.heap.size w1 W → BoolPost (hiddenL l t) w (.returned (.bool (fs || !fx))) W := fun W hW => by rw [HHid.out]; exact ⟨rfl, below_base HB.out HB.out.size hW⟩
    have HFin := Ho.mk fin
    clear fin
    by_cases t1 : t = 17
    · have q : (t == 17) = true := beq_iff_eq.2 t1
      have hg := HGE.out
      rw [if_pos t1] at hg
      have hc := of_decide_eq_true hg
      clear t1 hg HGE
      rcases hc with hc | hc
      · have p1 : (c != 4) = false := by simp [hc]
        clear hc
        go_wp2_with fail
        refine (HFl1.out w1 HS1.out).mono ?_
        rintro e w2 ⟨rfl, hB2⟩
        have HB2 := Ho.mk hB2
        have HS2 := Ho.mk (HS1.out.below hB2)
        clear hB2
        cases fs with
        | true =>
          go_wp2
          go_ret
          exact HFin.out _ HB2.out
        | false =>
          go_wp2_with fail
          refine (HFl2.out w2 HS2.out).mono ?_
          rintro e w3 ⟨rfl, hB3⟩
          have HB3 := Ho.mk (hB3)
          clear hB3
          go_wp2
          go_ret
          exact HFin.out _ (below_base HB2.out HB2.out.size HB3.out)
      · have p1 : (c != 4) = true := by simp; omega
        have p2 : (c != 3) = false := by simp [hc]
        clear hc
        go_wp2_with fail
        refine (HFl1.out w1 HS1.out).mono ?_
        rintro e w2 ⟨rfl, hB2⟩
        have HB2 := Ho.mk hB2
        have HS2 := Ho.mk (HS1.out.below hB2)
        clear hB2
        cases fs with
        | true =>
          go_wp2
          go_ret
          exact HFin.out _ HB2.out
        | false =>
          go_wp2_with fail
          refine (HFl2.out w2 HS2.out).mono ?_
          rintro e w3 ⟨rfl, hB3⟩
          have HB3 := Ho.mk (hB3)
          clear hB3
          go_wp2
          go_ret
          exact HFin.out _ (below_base HB2.out HB2.out.size HB3.out)
    · have q : (t == 17) = false := beq_eq_false_iff_ne.2 t1
      have hg := HGE.out
      rw [if_neg t1] at hg
      by_cases t2 : t = 291 ∨ t = 292 ∨ t = 293
      · rw [if_pos t2] at hg
        have hc := of_decide_eq_true hg
        have p2 : (c != 3) = false := by simp [hc]
        clear t1 hg HGE hc
        have Q : Ho ((t == 291) = true ∨ ((t == 291) = false ∧ (t == 292) = true) ∨ ((t == 291) = false ∧ (t == 292) = false ∧ (t == 293) = true)) := ⟨by
          simp only [beq_iff_eq, beq_eq_false_iff_ne]; omega⟩
        clear t2
        rcases Q.out with q2 | ⟨q2, q3⟩ | ⟨q2, q3, q4⟩
        all_goals
          go_wp2_with fail
          refine (HFl1.out w1 HS1.out).mono ?_
          rintro e w2 ⟨rfl, hB2⟩
          have HB2 := Ho.mk hB2
          have HS2 := Ho.mk (HS1.out.below hB2)
          clear hB2
          cases fs with
          | true =>
            go_wp2
            go_ret
            exact HFin.out _ HB2.out
          | false =>
            go_wp2_with fail
            refine (HFl2.out w2 HS2.out).mono ?_
            rintro e w3 ⟨rfl, hB3⟩
            have HB3 := Ho.mk (hB3)
            clear hB3
            go_wp2
            go_ret
            exact HFin.out _ (below_base HB2.out HB2.out.size HB3.out)
      · rw [if_neg t2] at hg
        cases hg

theorem rules_Get1 (n r : Int) (b : Nat) (w : World) (h : w.heap[b]? = some (.cells #[.int .i64 r] 34 (0, 0))) :
    Calls Tryz.prog 151 #[.int .i64 n, .pointer (some ⟨b, 0, none⟩)] w fun e w' => (∃ x, e = .returned x) ∧ w' = if r = 0 then w.setCell ⟨b, 0, none⟩ (.int .i64 n) else w := by
  have c0 := cell_of_row _ b 0 _ _ _ h
  have f0 := frozen_of_row _ b 0 _ _ h
  clear h
  by_cases hr : r = 0
  · subst hr
    go_enter Tryz.func151, Tryz.ntmps151
    go_wp2
    go_end0
    exact ⟨⟨_, rfl⟩, rfl⟩
  · have q : (r == 0) = false := beq_eq_false_iff_ne.2 hr
    have HR := Ho.mk hr
    go_enter Tryz.func151, Tryz.ntmps151
    go_wp2
    go_end0
    exact ⟨⟨_, rfl⟩, rfl⟩

theorem below_al' {b : Nat} {w W : World} (h : Below b w W) (hb : b ≤ w.heap.size) (o : Obj) : Below b w (W.alloc o) := h.alloc (Nat.le_trans hb h.size) o
theorem get1_facts {w w1 w2 : World} {r n : Int} {ov : Value} {l : List At} (hrow : w1.heap[w.heap.size]? = some (.cells #[.int .i64 r] 34 (0, 0))) (hO : OwA w1 (w.heap.size + 1) ov l) (hB : Below w.heap.size w w1)
    (hw2 : w2 = if r = 0 then w1.setCell ⟨w.heap.size, 0, none⟩ (.int .i64 n) else w1) :
    w2.heap[w.heap.size]? = some (.cells #[.int .i64 (if r = 0 then n else r)] 34 (0, 0)) ∧ OwA w2 (w.heap.size + 1) ov l ∧ Below w.heap.size w w2 := by
  by_cases hr : r = 0
  · rw [if_pos hr] at hw2 ⊢
    subst hw2
    exact ⟨heap_setCell_same w1 w.heap.size 0 _ _ _ hrow, hO.setVar (by omega) hrow (fun z => by simp) _, hB.setCell (p := ⟨w.heap.size, 0, none⟩) (Nat.le_refl _) _⟩
  · rw [if_neg hr] at hw2 ⊢
    subst hw2
    exact ⟨hrow, hO, hB⟩
theorem app_facts {w W w3 : World} {base : Nat} {o : Obj} {ov : Value} {l : List At} {ob : Obj} {b : Nat} (hO : OwA W base ov l) (hg : (W.alloc ob).grownBy w3 ov.ownBlock) (hB : Below b w W) (hb : b ≤ w.heap.size) (hbb : b ≤ base) :
    Below b w w3 ∧ (∀ N, N < base → W.heap[N]? = some o → w3.heap[N]? = some o) := by
  refine ⟨(below_al' hB hb ob).grown hg (Nat.le_trans hb (below_al' hB hb ob).size) (fun k hk => Nat.le_trans hbb (hO.lt hk).1), fun N hN h => ?_⟩
  have hl := (Array.getElem?_eq_some_iff.1 h).1
  exact (hg.block N (by simp; omega) (fun e => by have := (hO.lt e.symm).1; omega)).trans ((Below.heap_alloc _ _ _ hl).trans h)

/-- What is told of one attribute, and of a list of them. -/
def getV (o : List At) (t : Int) : List Int := if cameL o t then (if hiddenL o t then [] else valL o t) else []
def getE (o : List At) (t : Int) : Int := if cameL o t then (if hiddenL o t then 17 else 0) else 18
def getsL (o : List At) (ts : List Int) : List At := ts.map fun t => (t, getV o t)
def getsR (o : List At) (ts : List Int) : Int := ts.foldl (fun r t => if r = 0 then getE o t else r) 0
theorem getsL_snoc (o : List At) {ts : List Int} {i : Nat} (h : i < ts.length) : getsL o (ts.take (i + 1)) = getsL o (ts.take i) ++ [(ts[i]'h, getV o (ts[i]'h))] := by
  unfold getsL; rw [List.take_succ_eq_append_getElem h, List.map_append]; rfl
theorem getsR_snoc (o : List At) {ts : List Int} {i : Nat} (h : i < ts.length) : getsR o (ts.take (i + 1)) = if getsR o (ts.take i) = 0 then getE o (ts[i]'h) else getsR o (ts.take i) := by
  unfold getsR; rw [List.take_succ_eq_append_getElem h, List.foldl_append]; rfl
def GetsPost (l : List At) (r : Int) (w : World) (e : Ending) (w' : World) : Prop := ∃ v1, e = .returned (.tuple #[v1, .int .i64 r]) ∧ OwA w' w.heap.size v1 l ∧ Below w.heap.size w w'

set_option maxRecDepth 100000 in
set_option maxHeartbeats 4000000 in
theorem rules_Get (o : List At) (ts : List Int) (v tv : Value) (w : World) (h : SlA w v o) (hok : AtsOk o) (ht : SlI w .i64 tv ts) (hl : ts.length ≤ 1000000) :
    Calls Tryz.prog 58 #[v, tv] w (GetsPost (getsL o ts) (getsR o ts) w) := by
  have H := Ho.mk h
  have HT := Ho.mk ht
  have HOK := Ho.mk hok
  obtain ⟨A, cc, rfl, h1, h2, h3, hr⟩ := h
  obtain ⟨At, ct, rfl, t1, t2, t3, tr⟩ := ht
  have HR := Ho.mk tr
  clear h3 hr hok t3 tr
  go_enter Tryz.func58, Tryz.ntmps58
  go_wp2
  obtain ⟨W0, hW0⟩ : ∃ W0, w.alloc (.cells #[.int .i64 0] 34) = W0 := ⟨_, rfl⟩
  have HB0 : Ho (Below w.heap.size w W0) := ⟨hW0 ▸ (Below.refl _ _).alloc (Nat.le_refl _) _⟩
  have HR0 : Ho (W0.heap[w.heap.size]? = some (.cells #[.int .i64 0] 34 (0, 0))) := ⟨hW0 ▸ heap_alloc_new w _⟩
  rw [hW0]
  clear hW0
  go_loopg [6, 16] ts.length (fun g ov s wx => ∃ i : Nat, i + g = ts.length ∧ s = .int .i64 i ∧ Ho (OwA wx (w.heap.size + 1) ov (getsL o (ts.take i))) ∧ Ho (wx.heap[w.heap.size]? = some (.cells #[.int .i64 (getsR o (ts.take i))] 34 (0, 0))) ∧ Ho (Below w.heap.size w wx))
  case atStart => exact ⟨0, by omega, rfl, ⟨OwA.nil _ _⟩, HR0, HB0⟩
  case round =>
    obtain ⟨i, hig, rfl, ho, hrow, hB⟩ := hrel
    by_cases hil : i < ts.length
    · obtain ⟨bb, ofs, rfl, hcell⟩ := HR.out (by omega)
      have c1 := cell_below hB.out (hcell i hil)
      obtain ⟨t, HTE⟩ : ∃ t, Ho (ts[i]'hil = t) := ⟨_, ⟨rfl⟩⟩
      have HSL : Ho (getsL o (ts.take (i + 1)) = getsL o (ts.take i) ++ [(t, getV o t)]) := ⟨by rw [getsL_snoc o hil, HTE.out]⟩
      have HSR : Ho (getsR o (ts.take (i + 1)) = if getsR o (ts.take i) = 0 then getE o t else getsR o (ts.take i)) := ⟨by rw [getsR_snoc o hil, HTE.out]⟩
      rw [gx_lt hil, HTE.out] at c1
      have hfl : (getsL o (ts.take i)).length ≤ 1000000 := by simp only [getsL, List.length_map, List.length_take]; omega
      obtain ⟨f, HFE⟩ : ∃ f, Ho (getsL o (ts.take i) = f) := ⟨_, ⟨rfl⟩⟩
      obtain ⟨r, HRE⟩ : ∃ r, Ho (getsR o (ts.take i) = r) := ⟨_, ⟨rfl⟩⟩
      rw [HFE.out] at ho HSL hfl
      rw [HRE.out] at hrow HSR
      have HSA := Ho.mk (H.out.below hB.out)
      clear hcell HTE HFE HRE
      go_wp2_with fail
      refine (attrs_Get o t _ _ HSA.out HOK.out).mono ?_
      rintro e w1 hp1
      obtain ⟨v1, rfl, ho1, hb1⟩ := get_val hp1
      obtain ⟨A1, d1, rfl⟩ := ho1.sl.shape
      have HO := Ho.mk (ho.out.below hb1)
      have HRw := Ho.mk (rowKept hb1 hrow.out)
      have HB := Ho.mk (below_base hB.out hB.out.size hb1)
      have HAp := Ho.mk (apart_new ho.out ho1 (Nat.le_refl _))
      have HS := Ho.mk ho1.sl
      clear ho1 hb1 hp1 ho hrow hB HSA
      obtain ⟨y, HYE⟩ : ∃ y, Ho (cameL o t = y) := ⟨_, ⟨rfl⟩⟩
      rw [HYE.out]
      cases y with
      | false =>
        have HV : Ho (getV o t = [] ∧ getE o t = 18) := ⟨by simp [getV, getE, HYE.out]⟩
        clear HAp HS
        go_wp2_with fail
        refine (rules_Get1 18 r _ _ HRw.out).mono ?_
        rintro e w2 ⟨⟨x, rfl⟩, hw2⟩
        obtain ⟨hr2, ho2, hb2⟩ := get1_facts HRw.out HO.out HB.out hw2
        have HR2 := Ho.mk hr2
        have HO2 := Ho.mk ho2
        have HB2 := Ho.mk hb2
        have hz : w.heap.size + 1 ≤ w2.heap.size := (Array.getElem?_eq_some_iff.1 hr2).1
        clear hr2 ho2 hb2 hw2
        go_wp2_with (at_builtin; refine wpList_appA rfl (.tmp 37) (.tmp 41) rfl (w.heap.size + 1) _ _ _ t [] rfl rfl HO2.out (SlI.nil _ _) (.inl rfl) hz hfl ?_; intro v3 w3 ho3 hg3; obtain ⟨hb3, hk3⟩ := app_facts HO2.out hg3 HB2.out (Nat.le_refl _) (by omega); have HO3 := Ho.mk ho3; have HB3 := Ho.mk hb3; have HR3 := Ho.mk (hk3 _ (by omega) HR2.out); clear ho3 hg3 hb3 hk3)
        go_roundg (ts.length - (i + 1))
        case measure => omega
        case rel => exact ⟨i + 1, by omega, by go_num, ⟨by rw [HSL.out, HV.out.1]; exact HO3.out⟩, ⟨by rw [HSR.out, HV.out.2]; exact HR3.out⟩, HB3⟩
      | true =>
        obtain ⟨y2, HYE2⟩ : ∃ y, Ho (hiddenL o t = y) := ⟨_, ⟨rfl⟩⟩
        go_wp2_with fail
        refine (rules_Hidden o t _ _ (H.out.below HB.out) HOK.out).mono ?_
        rw [HYE2.out]
        rintro e w2 ⟨rfl, hb2⟩
        have HO := Ho.mk (HO.out.below hb2)
        have HRw := Ho.mk (rowKept hb2 HRw.out)
        have HB := Ho.mk (below_base HB.out HB.out.size hb2)
        have HS := Ho.mk (HS.out.below hb2)
        clear hb2
        cases y2 with
        | true =>
          have HV : Ho (getV o t = [] ∧ getE o t = 17) := ⟨by simp [getV, getE, HYE.out, HYE2.out]⟩
          clear HAp HS
          go_wp2_with fail
          refine (rules_Get1 17 r _ _ HRw.out).mono ?_
          rintro e w3 ⟨⟨x, rfl⟩, hw3⟩
          obtain ⟨hr2, ho2, hb2⟩ := get1_facts HRw.out HO.out HB.out hw3
          have HR2 := Ho.mk hr2
          have HO2 := Ho.mk ho2
          have HB2 := Ho.mk hb2
          have hz : w.heap.size + 1 ≤ w3.heap.size := (Array.getElem?_eq_some_iff.1 hr2).1
          clear hr2 ho2 hb2 hw3
          go_wp2_with (at_builtin; refine wpList_appA rfl (.tmp 37) (.tmp 41) rfl (w.heap.size + 1) _ _ _ t [] rfl rfl HO2.out (SlI.nil _ _) (.inl rfl) hz hfl ?_; intro v3 w4 ho3 hg3; obtain ⟨hb3, hk3⟩ := app_facts HO2.out hg3 HB2.out (Nat.le_refl _) (by omega); have HO3 := Ho.mk ho3; have HB3 := Ho.mk hb3; have HR3 := Ho.mk (hk3 _ (by omega) HR2.out); clear ho3 hg3 hb3 hk3)
          go_roundg (ts.length - (i + 1))
          case measure => omega
          case rel => exact ⟨i + 1, by omega, by go_num, ⟨by rw [HSL.out, HV.out.1]; exact HO3.out⟩, ⟨by rw [HSR.out, HV.out.2]; exact HR3.out⟩, HB3⟩
        | false =>
          have HV : Ho (getV o t = valL o t ∧ getE o t = 0) := ⟨by simp [getV, getE, HYE.out, HYE2.out]⟩
          have hz : w.heap.size + 1 ≤ w2.heap.size := (Array.getElem?_eq_some_iff.1 HRw.out).1
          go_wp2_with (at_builtin; refine wpList_appA rfl (.tmp 37) (.tmp 41) rfl (w.heap.size + 1) _ _ _ t (valL o t) rfl rfl HO.out HS.out HAp.out hz hfl ?_; intro v3 w4 ho3 hg3; obtain ⟨hb3, hk3⟩ := app_facts HO.out hg3 HB.out (Nat.le_refl _) (by omega); have HO3 := Ho.mk ho3; have HB3 := Ho.mk hb3; have HR3 := Ho.mk (hk3 _ (by omega) HRw.out); clear ho3 hg3 hb3 hk3)
          go_roundg (ts.length - (i + 1))
          case measure => omega
          case rel => exact ⟨i + 1, by omega, by go_num, ⟨by rw [HSL.out, HV.out.1]; exact HO3.out⟩, ⟨by rw [HSR.out, HV.out.2]; split <;> simp_all [HR3.out]⟩, HB3⟩
    · have e : i = ts.length := by omega
      rw [e, List.take_length] at ho hrow
      have a7 := cell_of_row _ w.heap.size 0 _ _ _ hrow.out
      have HP : Ho (∀ n, GetsPost (getsL o ts) (getsR o ts) w (.returned (.tuple #[_, .int .i64 (getsR o ts)])) (wr.drewN n)) := ⟨fun n => ⟨_, rfl, (OwA.drewN ho.out n).weaken (by omega), below_drewN hB.out n⟩⟩
      clear e
      go_wp2
      go_quiet (fail)
      go_wp2
      go_ret2
      exact HP.out _

end Go.Proofs.YthjcldkaodmfoaaGreat
