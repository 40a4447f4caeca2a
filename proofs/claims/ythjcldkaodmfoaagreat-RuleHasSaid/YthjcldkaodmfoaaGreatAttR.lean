/-
  rules.with and Set: an object with other values. Conditions: the attributes' values are bytes, of no great length; not too many attributes.
-/
import Derived.Test.YthjcldkaodmfoaaGreatAttQ
namespace Go.Proofs.YthjcldkaodmfoaaGreat
open Go.RowKit Go.Shelf

theorem step_appA {W : World} {ops : Array Oper} {o : Oper} {a : Act} {K : Act → World → Prop} {Q : Exit → Act → World → Prop} {E : Prop} (hgd : o.guard = none) (s x : Operand)
    (ho : o.op = .call { callee := .builtin .append, args := #[s, x], argTypes := #[32, 32] }) (hty : o.type = 32)
    (base : Nat) (v bv : Value) (l : List At) (t : Int) (b : List Int) (hs : a.eval s = v) (hx : a.eval x = .slice (some ⟨W.heap.size, 0, none⟩) 1 1)
    (HO : OwA W base v l) (HS : SlI W .u8 bv b) (Hap : Apart b bv v) (hbase : base ≤ W.heap.size) (hl : l.length ≤ 1000000)
    (h : ∀ v1 w1, OwA w1 base v1 (l ++ [(t, b)]) → (W.alloc (.cells #[.int .i64 t, bv] 91)).grownBy w1 v.ownBlock → K (a.put o.dst v1) w1) :
    if Region.wanted o (yielded ops a.tmps) = true then Oper.wp Tryz.prog o a (W.alloc (.cells #[.int .i64 t, bv] 91)) K Q else E := by
  have hw : Region.wanted o (yielded ops a.tmps) = true := by simp [Region.wanted, hgd]
  rw [if_pos hw]
  obtain ⟨v1, w1, hr, ho1, hg1⟩ := run_appA base v bv l t b HO HS Hap hbase hl
  have hK := h v1 w1 ho1 hg1
  unfold Oper.wp
  simp [execOp, ho, hty, resolve, invoke, builtin, hs, hx, hr, Result.andThen]
  exact hK
theorem app_cell {wr W w3 : World} {base B j : Nat} {ov x : Value} {l : List At} {ob : Obj} (hO : OwA wr base ov l) (hg : (W.alloc ob).grownBy w3 ov.ownBlock) (hB : wr.heap.size ≤ B) (h : (W.alloc ob).cell? ⟨B, j, none⟩ = some x) : w3.cell? ⟨B, j, none⟩ = some x := by
  rw [World.cell?_of_block (w := W.alloc ob) (w' := w3) (a := ⟨B, j, none⟩) (hg.block B (World.block_lt_of_cell? _ _ h) (fun e => by have := (hO.lt e.symm).2; omega))]
  exact h

/-- What is amiss with the i-th of the new values. -/
def errW (o t : List At) (c : Bool) (i : Nat) : Int :=
  if formL (atL t i).1 = 0 then 18 else if cameL (t.take i) (atL t i).1 || !cameL o (atL t i).1 then 209 else if fineL (atL t i) = false then 19 else chgL o (atL t i) c
def withL (o t : List At) (c : Bool) : List At × Int :=
  match (List.range t.length).find? fun i => errW o t c i ≠ 0 with
  | some i => ([], errW o t c i)
  | none => (t.foldl putL o, 0)
theorem withL_err {o t : List At} {c : Bool} {i : Nat} (hi : i < t.length) (h : ∀ j, j < i → errW o t c j = 0) (he : errW o t c i ≠ 0) : withL o t c = ([], errW o t c i) := by
  have : (List.range t.length).find? (fun i => errW o t c i ≠ 0) = some i := by
    rw [List.find?_range_eq_some]
    exact ⟨by simpa using he, by simpa using hi, fun j hj => by simpa using h j hj⟩
  unfold withL
  rw [this]
theorem withL_ok {o t : List At} {c : Bool} (h : ∀ j, j < t.length → errW o t c j = 0) : withL o t c = (t.foldl putL o, 0) := by
  have : (List.range t.length).find? (fun i => errW o t c i ≠ 0) = none := by
    rw [List.find?_eq_none]
    intro j hj
    simpa using h j (by simpa using hj)
  unfold withL
  rw [this]
theorem foldP_len (o : List At) (t : List At) : ∀ k, ((t.take k).foldl putL o).length ≤ o.length + k := by
  intro k
  induction k with
  | zero => simp
  | succ k ih =>
    rcases Nat.lt_or_ge k t.length with h | h
    · rw [List.take_succ_eq_append_getElem h, List.foldl_append]
      have := putL_len ((t.take k).foldl putL o) t[k]
      simp only [List.foldl_cons, List.foldl_nil]
      omega
    · rw [List.take_of_length_le (by omega)]
      rw [List.take_of_length_le h] at ih
      omega
theorem foldP_ok {o t : List At} (ho : AtsOk o) (ht : AtsOk t) : ∀ k, AtsOk ((t.take k).foldl putL o) := by
  intro k
  induction k with
  | zero => simpa using ho
  | succ k ih =>
    rcases Nat.lt_or_ge k t.length with h | h
    · rw [List.take_succ_eq_append_getElem h, List.foldl_append]
      exact putL_ok ih (ht _ (List.getElem_mem h))
    · rw [List.take_of_length_le (by omega)]
      rwa [List.take_of_length_le h] at ih

set_option maxRecDepth 100000 in
set_option maxHeartbeats 4000000 in
theorem rules_with (o t : List At) (c : Bool) (v tv : Value) (w : World) (h : SlA w v o) (hok : AtsOk o) (ht : SlA w tv t) (hokt : AtsOk t) (hol : o.length ≤ 450) (htl : t.length ≤ 450) :
    Calls Tryz.prog 162 #[v, tv, .bool c] w (GetsPost (withL o t c).1 (withL o t c).2 w) := by
  have H := Ho.mk h
  have HT := Ho.mk ht
  have HOK := Ho.mk hok
  have HOKT := Ho.mk hokt
  obtain ⟨A, cc, rfl, h1, h2, h3, hr⟩ := h
  obtain ⟨At, ct, rfl, t1, t2, t3, tr⟩ := ht
  have HR := Ho.mk hr
  have HRT := Ho.mk tr
  clear h3 hr hok t3 tr hokt
  go_enter Tryz.func162, Tryz.ntmps162
  go_wp2
  go_loopg [8, 16] o.length (fun g ov s wx => ∃ i : Nat, i + g = o.length ∧ s = .int .i64 i ∧ Ho (OwA wx w.heap.size ov (o.take i)) ∧ Ho (Below w.heap.size w wx))
  case atStart => exact ⟨0, by omega, rfl, ⟨OwA.nil _ _⟩, ⟨Below.refl _ _⟩⟩
  case round =>
    obtain ⟨i, hig, rfl, ho, hB⟩ := hrel
    by_cases hil : i < o.length
    · obtain ⟨bb, ofs, rfl, hcell⟩ := HR.out (by omega)
      obtain ⟨xv, c1, c2, hs⟩ := hcell i hil
      have hc1 := cell_below hB.out c1
      have hc2 := cell_below hB.out c2
      have HX := Ho.mk (hs.below hB.out)
      obtain ⟨A1, e1, rfl, _⟩ := hs
      obtain ⟨x, HXE⟩ : ∃ x, Ho (o[i]'hil = x) := ⟨_, ⟨rfl⟩⟩
      have HSn : Ho (o.take (i + 1) = o.take i ++ [x]) := ⟨by rw [List.take_succ_eq_append_getElem hil, HXE.out]⟩
      have HXO := Ho.mk (HOK.out _ (List.getElem_mem hil))
      rw [HXE.out] at hc1 hc2 HX HXO
      have hfl : (o.take i).length ≤ 1000000 := by simp only [List.length_take]; omega
      clear hcell c1 c2 HXE
      go_wp2
      obtain ⟨W0, hW0⟩ : ∃ W0, wr.alloc (.cells #[.int .i64 x.1, .slice A1 x.2.length e1] 91) = W0 := ⟨_, rfl⟩
      have hal : Below wr.heap.size wr W0 := hW0 ▸ (Below.refl _ _).alloc (Nat.le_refl _) _
      have HR0 : Ho (W0.heap[wr.heap.size]? = some (.cells #[.int .i64 x.1, .slice A1 x.2.length e1] 91 (0, 0))) := ⟨hW0 ▸ heap_alloc_new wr _⟩
      have HO0 := Ho.mk (ho.out.below hal)
      have HX0 := Ho.mk (HX.out.below hal)
      have HB0 := Ho.mk (below_base hB.out hB.out.size hal)
      rw [hW0]
      clear hW0 hal
      obtain ⟨k0, k1, _, _⟩ := cell2 HR0.out
      go_region_held3 (fun w' => w'.cell? ⟨wr.heap.size, 0, none⟩ = some (.int .i64 x.1) ∧ w'.cell? ⟨wr.heap.size, 1, none⟩ = some (.slice A1 x.2.length e1))
        (first
          | exact ⟨k0, k1⟩
          | exact ⟨cell_below (w := W0.drew) hbI k0, cell_below (w := W0.drew) hbI k1⟩
          | exact ⟨cell_below ((Below.refl _ _).alloc (Nat.le_refl _) _) (And.left ‹_ ∧ _›), cell_below ((Below.refl _ _).alloc (Nat.le_refl _) _) (And.right ‹_ ∧ _›)⟩
          | exact ⟨app_cell ho.out hg3 (Nat.le_refl _) (And.left ‹_ ∧ _›), app_cell ho.out hg3 (Nat.le_refl _) (And.right ‹_ ∧ _›)⟩)
        (first
          | (go_at_call 223; refine (bytes_Clone _ x.2 W0.drew (HX0.out.drewN 1) HXO.out.2).mono ?_; rintro e w1 ⟨v1, rfl, ho1, hbI⟩; have HO1 := Ho.mk ((HO0.out.drewN 1).below hbI); have HS1 := Ho.mk ho1.sl; have HAp := Ho.mk (apart_new (HO0.out.drewN 1) ho1 (Nat.le_refl _)); have HB1 := Ho.mk (below_base (below_drewN HB0.out 1) HB0.out.size hbI); obtain ⟨A2, c2, rfl, _⟩ := ho1.sl; clear ho1)
          | (refine step_appA rfl (.tmp 20) (.tmp 27) rfl rfl w.heap.size _ _ _ x.1 x.2 rfl rfl HO1.out HS1.out HAp.out HB1.out.size hfl ?_; intro v3 w3 ho3 hg3; have HO3 := Ho.mk ho3; have HB3 := Ho.mk ((below_al' HB1.out (Nat.le_refl _) _).grown hg3 (Nat.le_trans (Nat.le_refl _) (below_al' HB1.out (Nat.le_refl _) _).size) (fun k hk => (HO1.out.lt hk).1)); clear ho3))
      go_wp2
      go_roundg (o.length - (i + 1))
      case measure => omega
      case rel => exact ⟨i + 1, by omega, by go_num, ⟨by rw [HSn.out]; exact HO3.out⟩, HB3⟩
    · have e : i = o.length := by omega
      rw [e, List.take_length] at ho
      clear e HR
      obtain ⟨Ao, co, rfl, _⟩ := ho.out.shape
      have HS := Ho.mk (H.out.below hB.out)
      go_wp2
      go_loopg [8, 32] t.length (fun g ov s wx => ∃ i : Nat, i + g = t.length ∧ s = .int .i64 i ∧ Ho (OwA wx w.heap.size ov ((t.take i).foldl putL o)) ∧ Ho (∀ j, j < i → errW o t c j = 0) ∧ Ho (Below w.heap.size w wx))
      case atStart => exact ⟨0, by omega, rfl, ⟨by simpa using ho.out⟩, ⟨fun j hj => absurd hj (by omega)⟩, hB⟩
      case round =>
        clear hB HS ho
        obtain ⟨i, hig, rfl, ho, hne, hB⟩ := hrel
        by_cases hil : i < t.length
        · obtain ⟨bb, ofs, rfl, hcell⟩ := HRT.out (by omega)
          obtain ⟨xv, c1, c2, hs⟩ := hcell i hil
          have hc1 := cell_below hB.out c1
          have hc2 := cell_below hB.out c2
          have HX := Ho.mk (hs.below hB.out)
          obtain ⟨A1, e1, rfl, _⟩ := hs
          obtain ⟨x, HXE⟩ : ∃ x, Ho (t[i]'hil = x) := ⟨_, ⟨rfl⟩⟩
          have HXA : Ho (atL t i = x) := ⟨by rw [← atL_eq hil, HXE.out]⟩
          have HSn : Ho ((t.take (i + 1)).foldl putL o = putL ((t.take i).foldl putL o) x) := ⟨by rw [List.take_succ_eq_append_getElem hil, HXE.out, List.foldl_append]; rfl⟩
          have HXO := Ho.mk (HOKT.out _ (List.getElem_mem hil))
          have HErr : Ho (errW o t c i = if formL x.1 = 0 then 18 else if cameL (t.take i) x.1 || !cameL o x.1 then 209 else if fineL x = false then 19 else chgL o x c) := ⟨by unfold errW; rw [HXA.out]⟩
          have HRet : Ho (∀ n X, errW o t c i = n → n ≠ 0 → Below w.heap.size w X → GetsPost (withL o t c).1 (withL o t c).2 w (.returned (.tuple #[.slice none 0 0, .int .i64 n])) X) := ⟨fun n X hn h0 hX => by
            rw [withL_err hil hne.out (by rw [hn]; exact h0), hn]
            exact ⟨_, rfl, OwA.nil _ _, hX⟩⟩
          rw [HXE.out] at hc1 hc2 HX HXO
          have HFl : Ho (((t.take i).foldl putL o).length ≤ 1000) := ⟨by have := foldP_len o t i; omega⟩
          have HFO := Ho.mk (foldP_ok HOK.out HOKT.out i)
          obtain ⟨f, HFE⟩ : ∃ f, Ho ((t.take i).foldl putL o = f) := ⟨_, ⟨rfl⟩⟩
          rw [HFE.out] at ho HSn HFl HFO
          clear hcell c1 c2 HXE HXA HFE
          obtain ⟨r1, HR1⟩ : ∃ r, Ho (cameL (t.take i) x.1 = r) := ⟨_, ⟨rfl⟩⟩
          obtain ⟨r2, HR2⟩ : ∃ r, Ho (cameL o x.1 = r) := ⟨_, ⟨rfl⟩⟩
          rw [HR1.out, HR2.out] at HErr
          have hi0 : (0 : Int) ≤ (i : Int) := Int.natCast_nonneg _
          have hi1 : (i : Int) ≤ (t.length : Int) := by omega
          have hi2 : (i : Int) ≤ (ct : Int) := by omega
          go_wp2_with fail
          obtain ⟨W0, hW0⟩ : ∃ W0, wr.alloc (.cells #[.int .i64 x.1, .slice A1 x.2.length e1] 91) = W0 := ⟨_, rfl⟩
          have hal : Below wr.heap.size wr W0 := hW0 ▸ (Below.refl _ _).alloc (Nat.le_refl _) _
          have HR0 : Ho (W0.heap[wr.heap.size]? = some (.cells #[.int .i64 x.1, .slice A1 x.2.length e1] 91 (0, 0))) := ⟨hW0 ▸ heap_alloc_new wr _⟩
          have HO0 := Ho.mk (ho.out.below hal)
          have HX0 := Ho.mk (HX.out.below hal)
          have HB0 := Ho.mk (below_base hB.out hB.out.size hal)
          have HSl := Ho.mk ((HT.out.below HB0.out).cutTo i (by omega))
          have HSo := Ho.mk (H.out.below HB0.out)
          rw [hW0]
          clear hW0 hal ho HX hB
          refine (attrs_Form x.1 _).mono ?_
          rintro e w1 ⟨rfl, rfl⟩
          obtain ⟨k0, k1, _, _⟩ := cell2 HR0.out
          by_cases hf : formL x.1 = 0
          · have q : (formL x.1 == 0) = true := beq_iff_eq.2 hf
            have HP := Ho.mk (HRet.out 18 W0 (by rw [HErr.out, if_pos hf]) (by decide) HB0.out)
            clear hf hne
            go_wp2
            go_ret2
            exact HP.out
          · have q : (formL x.1 == 0) = false := beq_eq_false_iff_ne.2 hf
            have HErr : Ho (errW o t c i = if r1 || !r2 then 209 else if fineL x = false then 19 else chgL o x c) := ⟨by rw [HErr.out, if_neg hf]⟩
            clear hf
            cases r1 with
            | true =>
              go_wp2
              have k0' : W0.drew.cell? ⟨wr.heap.size, 0, none⟩ = some (.int .i64 x.1) := k0
              first
                | (go_region_with (go_at_call 232; refine (rules_came (t.take i) x.1 (.slice (some ⟨bb, ofs, none⟩) i ct) W0.drew (HSl.out.drewN 1) (HOKT.out.take i)).mono ?_; rw [HR1.out]; rintro e w1 ⟨rfl, hbI⟩; have m0 := cell_below (w := W0.drew) hbI k0))
                | fail
              all_goals
                have HP := Ho.mk (HRet.out 209 _ (by rw [HErr.out]; rfl) (by decide) (below_base (below_drewN HB0.out 1) HB0.out.size hbI))
                clear hbI hne
                go_wp2
                go_ret2
                exact HP.out
            | false =>
              go_wp2
              go_region_held3 (fun w' => w'.cell? ⟨wr.heap.size, 0, none⟩ = some (.int .i64 x.1))
                (first | exact k0 | exact cell_below (w := W0.drew) hbI k0 | exact cell_below hbJ ‹_›)
                (first
                  | (go_at_call_of 232 (Value.slice (some ⟨bb, ofs, none⟩) i ct); refine (rules_came (t.take i) x.1 (.slice (some ⟨bb, ofs, none⟩) i ct) W0.drew (HSl.out.drewN 1) (HOKT.out.take i)).mono ?_; rw [HR1.out]; rintro e w1 ⟨rfl, hbI⟩)
                  | (go_at_call 232; refine (rules_came o x.1 (.slice A o.length cc) w1 ((HSo.out.drewN 1).below hbI) HOK.out).mono ?_; rw [HR2.out]; rintro e w2 ⟨rfl, hbJ⟩))
              have hb2 := below_base (w := W0.drew) hbI hbI.size hbJ
              have HR2' := Ho.mk (rowKept (w := W0.drew) hb2 HR0.out)
              have HO2 := Ho.mk ((HO0.out.drewN 1).below hb2)
              have HX2 := Ho.mk ((HX0.out.drewN 1).below hb2)
              have HB2 := Ho.mk (below_base (below_drewN HB0.out 1) HB0.out.size hb2)
              have HSo2 := Ho.mk ((HSo.out.drewN 1).below hb2)
              clear hb2 hbI hbJ k0 k1
              cases r2 with
              | false =>
                have HP := Ho.mk (HRet.out 209 _ (by rw [HErr.out]; rfl) (by decide) HB2.out)
                clear hne
                go_wp2
                go_ret2
                exact HP.out
              | true =>
                have HErr : Ho (errW o t c i = if fineL x = false then 19 else chgL o x c) := ⟨by rw [HErr.out]; rfl⟩
                obtain ⟨k0, k1, _, _⟩ := cell2 HR2'.out
                obtain ⟨r3, HR3⟩ : ∃ r, Ho (fineL x = r) := ⟨_, ⟨rfl⟩⟩
                rw [HR3.out] at HErr
                go_wp2_with fail
                refine (attrs_Fine x.1 x.2 _ _ HX2.out HXO.out.1).mono ?_
                rw [show fineL (x.1, x.2) = r3 from HR3.out]
                rintro e w3 ⟨rfl, hb3⟩
                have HR3' := Ho.mk (rowKept hb3 HR2'.out)
                have HO3 := Ho.mk (HO2.out.below hb3)
                have HX3 := Ho.mk (HX2.out.below hb3)
                have HB3 := Ho.mk (below_base HB2.out HB2.out.size hb3)
                have HSo3 := Ho.mk (HSo2.out.below hb3)
                clear hb3 k0 k1
                cases r3 with
                | false =>
                  have HP := Ho.mk (HRet.out 19 _ (by rw [HErr.out]; rfl) (by decide) HB3.out)
                  clear hne
                  go_wp2
                  go_ret2
                  exact HP.out
                | true =>
                  obtain ⟨k0, k1, _, _⟩ := cell2 HR3'.out
                  obtain ⟨r4, HR4⟩ : ∃ r, Ho (chgL o x c = r) := ⟨_, ⟨rfl⟩⟩
                  have HErr : Ho (errW o t c i = r4) := ⟨by rw [HErr.out, ← HR4.out]; rfl⟩
                  go_wp2_with fail
                  refine (rules_changes o x.1 x.2 c _ _ _ HSo3.out HOK.out HX3.out (AtsOk.one HXO.out.1 HXO.out.2)).mono ?_
                  rw [show chgL o (x.1, x.2) c = r4 from HR4.out]
                  rintro e w4 ⟨rfl, hb4⟩
                  have HR4' := Ho.mk (rowKept hb4 HR3'.out)
                  have HO4 := Ho.mk (HO3.out.below hb4)
                  have HX4 := Ho.mk (HX3.out.below hb4)
                  have HB4 := Ho.mk (below_base HB3.out HB3.out.size hb4)
                  clear hb4 k0 k1
                  by_cases h4 : r4 = 0
                  · have q4 : (r4 != 0) = false := by simp [h4]
                    have HE0 := Ho.mk (HErr.out.trans h4)
                    clear h4
                    obtain ⟨k0, k1, _, _⟩ := cell2 HR4'.out
                    go_wp2_with fail
                    refine (attrs_Put f x.1 x.2 _ _ _ HO4.out.sl HFO.out HX4.out HXO.out.2 HFl.out).mono ?_
                    rintro e w5 ⟨v5, rfl, ho5, hb5⟩
                    have HO5 := Ho.mk (ho5.weaken HB4.out.size)
                    have HB5 := Ho.mk (below_base HB4.out HB4.out.size hb5)
                    clear ho5 hb5
                    go_wp2
                    go_roundg (t.length - (i + 1))
                    case measure => omega
                    case rel => exact ⟨i + 1, by omega, by go_num, ⟨by rw [HSn.out]; exact HO5.out⟩, ⟨fun j hj => if e : j = i then by subst e; exact HE0.out else hne.out j (by omega)⟩, HB5⟩
                  · have q4 : (r4 != 0) = true := by simp [h4]
                    have HP := Ho.mk (HRet.out r4 _ HErr.out h4 HB4.out)
                    clear h4 hne
                    go_wp2
                    go_ret2
                    exact HP.out
        · have e : i = t.length := by omega
          rw [e, List.take_length] at ho
          have HP : Ho (GetsPost (withL o t c).1 (withL o t c).2 w (.returned (.tuple #[_, .int .i64 0])) wr) := ⟨by
            rw [withL_ok (fun j hj => hne.out j (by omega))]
            exact ⟨_, rfl, ho.out, hB.out⟩⟩
          clear e hne
          go_wp2
          go_ret2
          exact HP.out

def setL (o t : List At) : List At × Int := if flagL o 368 then withL o t false else ([], 16)
set_option maxRecDepth 100000 in
theorem rules_Set (o t : List At) (v tv : Value) (w : World) (h : SlA w v o) (hok : AtsOk o) (ht : SlA w tv t) (hokt : AtsOk t) (hol : o.length ≤ 450) (htl : t.length ≤ 450) :
    Calls Tryz.prog 67 #[v, tv] w (GetsPost (setL o t).1 (setL o t).2 w) := by
  have H := Ho.mk h
  have HT := Ho.mk ht
  have HOK := Ho.mk hok
  have HOKT := Ho.mk hokt
  clear h ht hok hokt
  obtain ⟨r, HRE⟩ : ∃ r, Ho (flagL o 368 = r) := ⟨_, ⟨rfl⟩⟩
  go_enter Tryz.func67, Tryz.ntmps67
  go_wp2_with fail
  refine (attrs_Flag o 368 _ w H.out HOK.out).mono ?_
  rw [HRE.out]
  rintro e w1 ⟨rfl, hb1⟩
  have HB1 := Ho.mk hb1
  have H1 := Ho.mk (H.out.below hb1)
  have HT1 := Ho.mk (HT.out.below hb1)
  clear hb1
  cases r with
  | false =>
    have HS : Ho (setL o t = ([], 16)) := ⟨by unfold setL; rw [HRE.out]; rfl⟩
    go_wp2
    go_ret2
    rw [HS.out]
    exact ⟨_, rfl, OwA.nil _ _, HB1.out⟩
  | true =>
    have HS : Ho (setL o t = withL o t false) := ⟨by unfold setL; rw [HRE.out]; rfl⟩
    go_wp2_with fail
    refine (rules_with o t false _ _ w1 H1.out HOK.out HT1.out HOKT.out hol htl).mono ?_
    rintro e w2 ⟨v2, rfl, ho2, hb2⟩
    have HO2 := Ho.mk (ho2.weaken HB1.out.size)
    have HB2 := Ho.mk (below_base HB1.out HB1.out.size hb2)
    clear ho2 hb2
    go_wp2
    go_ret2
    rw [HS.out]
    exact ⟨_, rfl, HO2.out, HB2.out⟩

end Go.Proofs.YthjcldkaodmfoaaGreat
