/-
  What rules.flag, Wants, Kinds of a template return. Conditions: those that each theorem types.
-/
import Derived.Test.YthjcldkaodmfoaaGreatAttE
import Derived.Test.YthjcldkaodmfoaaGreatAttG
namespace Go.Proofs.YthjcldkaodmfoaaGreat
open Go.RowKit

theorem sl_boxA {W : World} {a : At} {bv : Value} (h : SlI W .u8 bv a.2) : SlA (W.alloc (.cells #[.int .i64 a.1, bv] 91)) (.slice (some ⟨W.heap.size, 0, none⟩) 1 1) [a] :=
  ⟨_, 1, rfl, by simp, by omega, fun e => by simp at e, fun _ => ⟨_, 0, rfl, fun j hj => by
    obtain rfl : j = 0 := by simpa using hj
    obtain ⟨c0, c1, _, _⟩ := cell2 (heap_alloc_new W (.cells #[.int .i64 a.1, bv] 91))
    exact ⟨bv, c0, c1, h.below ((Below.refl _ _).alloc (Nat.le_refl _) _)⟩⟩⟩
theorem AtsOk.nil : AtsOk [] := fun a h => by simp at h
theorem AtsOk.one {a : At} (h : Dg 256 a.2) (hl : a.2.length ≤ 140737488351232) : AtsOk [a] := fun x hx => by
  obtain rfl := List.mem_singleton.1 hx
  exact ⟨h, hl⟩
theorem AtsOk.append {l m : List At} (h : AtsOk l) (k : AtsOk m) : AtsOk (l ++ m) := fun x hx => by
  rcases List.mem_append.1 hx with hx | hx
  · exact h x hx
  · exact k x hx
theorem AtsOk.take {l : List At} (h : AtsOk l) (n : Nat) : AtsOk (l.take n) := fun x hx => h x (List.mem_of_mem_take hx)
theorem boolA_ok (t : Int) (b : Bool) : Dg 256 (boolA t b).2 ∧ (boolA t b).2.length ≤ 140737488351232 := by
  cases b
  · exact ⟨Dg.one (by decide) (by decide), by simp [boolA]⟩
  · exact ⟨Dg.one (by decide) (by decide), by simp [boolA]⟩
theorem stdA_fst (c t : Int) : (stdA c t).1 = t := by
  unfold stdA
  split
  · split
    · rfl
    · split
      · rfl
      · split
        · rfl
        · split <;> rfl
  · rfl
theorem stdA_ok (c t : Int) : Dg 256 (stdA c t).2 ∧ (stdA c t).2.length ≤ 140737488351232 := by
  unfold stdA
  split
  · split
    · exact boolA_ok _ _
    · split
      · exact boolA_ok _ _
      · split
        · exact boolA_ok _ _
        · split <;> exact boolA_ok _ _
  · exact ⟨Dg.nil (by decide), by simp⟩
def flagW (l : List At) (c t : Int) : Bool := if cameL l t then flagL l t else flagL [stdA c t] t

set_option maxRecDepth 100000 in
theorem rules_flag (l : List At) (c t : Int) (v : Value) (w : World) (h : SlA w v l) (hok : AtsOk l) :
    Calls Tryz.prog 217 #[v, .int .i64 c, .int .i64 t] w (BoolPost (flagW l c t) w) := by
  have H := Ho.mk h
  have HOK := Ho.mk hok
  obtain ⟨A, cc, rfl, h1, h2, h3, hr⟩ := h
  clear h3 hr hok
  go_enter Tryz.func217, Tryz.ntmps217
  go_wp2_with fail
  refine (rules_came l t _ w H.out HOK.out).mono ?_
  rintro e w1 ⟨rfl, hB⟩
  have HB := Ho.mk hB
  clear hB
  by_cases hc : cameL l t = true
  · have HE : Ho (flagW l c t = flagL l t) := ⟨by unfold flagW; rw [if_pos hc]⟩
    go_wp2_with fail
    refine (attrs_Flag l t _ _ (H.out.below HB.out) HOK.out).mono ?_
    rintro e w2 ⟨rfl, hB2⟩
    have HP : Ho (BoolPost (flagW l c t) w (.returned (.bool (flagL l t))) w2) := ⟨by rw [HE.out], below_base HB.out HB.out.size hB2⟩
    clear hB2
    go_wp2
    go_ret
    exact HP.out
  · have hc2 : cameL l t = false := by simpa using hc
    have HE : Ho (flagW l c t = flagL [stdA c t] t) := ⟨by unfold flagW; rw [if_neg hc]⟩
    clear hc
    go_wp2_with fail
    refine (rules_standard c t _).mono ?_
    rintro e w2 ⟨v1, rfl, ho, hB2⟩
    have HS := Ho.mk (sl_boxA (a := stdA c t) ho.sl)
    have HB2 := Ho.mk ((below_base HB.out HB.out.size hB2).alloc (below_base HB.out HB.out.size hB2).size (.cells #[.int .i64 (stdA c t).1, v1] 91))
    obtain ⟨A1, c1, rfl, _⟩ := ho.sl
    clear ho hB2
    go_wp2_with fail
    refine (attrs_Flag [stdA c t] t _ _ HS.out (AtsOk.one (stdA_ok c t).1 (stdA_ok c t).2)).mono ?_
    rintro e w3 ⟨rfl, hB3⟩
    have HP : Ho (BoolPost (flagW l c t) w (.returned (.bool (flagL [stdA c t] t))) w3) := ⟨by rw [HE.out], below_base HB2.out HB2.out.size hB3⟩
    clear hB3
    go_wp2
    go_ret
    exact HP.out

def Bool2Post (r s : Bool) (w : World) (e : Ending) (w' : World) : Prop := e = .returned (.tuple #[.bool r, .bool s]) ∧ Below w.heap.size w w'
set_option maxRecDepth 100000 in
theorem rules_Wants (l : List At) (c : Int) (v : Value) (w : World) (h : SlA w v l) (hok : AtsOk l) :
    Calls Tryz.prog 144 #[v, .int .i64 c] w (Bool2Post (flagW l c 1) (flagW l c 2) w) := by
  have H := Ho.mk h
  have HOK := Ho.mk hok
  obtain ⟨A, cc, rfl, h1, h2, h3, hr⟩ := h
  clear h3 hr hok
  go_enter Tryz.func144, Tryz.ntmps144
  go_wp2_with fail
  refine (rules_flag l c 1 _ w H.out HOK.out).mono ?_
  rintro e w1 ⟨rfl, hB⟩
  have HB := Ho.mk hB
  clear hB
  go_wp2_with fail
  refine (rules_flag l c 2 _ _ (H.out.below HB.out) HOK.out).mono ?_
  rintro e w2 ⟨rfl, hB2⟩
  have HP : Ho (Bool2Post (flagW l c 1) (flagW l c 2) w (.returned (.tuple #[.bool (flagW l c 1), .bool (flagW l c 2)])) w2) := ⟨rfl, below_base HB.out HB.out.size hB2⟩
  clear hB2
  go_wp2
  go_ret2
  exact HP.out

/-! ### rules.Kinds of a template -/
def kindsB (one two okc okk : Bool) (c k : Int) : Int × Int × Int :=
  if !one || (!(okc && decide (c = 0)) && !two) then (0, 0, 208)
  else if okc && decide (c = 0) then (c, 0, 0)
  else if !okc || !okk || !togL c k then (0, 0, 19) else (c, k, 0)
/-- Class and key type of a template. -/
def kindsL (l : List At) : Int × Int × Int := kindsB (cameL l 0) (cameL l 256) (intL l 0).2 (intL l 256).2 (intL l 0).1 (intL l 256).1
def KindsPost (r : Int × Int × Int) (w : World) (e : Ending) (w' : World) : Prop := e = .returned (.tuple #[.int .i64 r.1, .int .i64 r.2.1, .int .i64 r.2.2]) ∧ Below w.heap.size w w'
theorem get_bool {l : List At} {t : Int} {w : World} {e : Ending} {w' : World} (h : GetPost l t w e w') : ∃ A n c, e = .returned (.tuple #[.slice A n c, .bool (cameL l t)]) ∧ Below w.heap.size w w' := by
  obtain ⟨hB, ⟨hg, rfl⟩ | ⟨b, v1, hg, rfl, ho⟩⟩ := h
  · exact ⟨none, 0, 0, by unfold cameL; rw [hg]; rfl, hB⟩
  · obtain ⟨A, c, rfl, _⟩ := ho.sl
    exact ⟨A, _, c, by unfold cameL; rw [hg]; rfl, hB⟩

set_option maxRecDepth 100000 in
set_option maxHeartbeats 4000000 in
theorem rules_Kinds (l : List At) (v : Value) (w : World) (h : SlA w v l) (hok : AtsOk l) :
    Calls Tryz.prog 143 #[v, .int .i64 (-1), .int .i64 0] w (KindsPost (kindsL l) w) := by
  have H := Ho.mk h
  have HOK := Ho.mk hok
  obtain ⟨A, cc, rfl, h1, h2, h3, hr⟩ := h
  clear h3 hr hok
  go_enter Tryz.func143, Tryz.ntmps143
  go_wp2_with fail
  refine (attrs_Get l 0 _ w H.out HOK.out).mono ?_
  rintro e w1 hp1
  obtain ⟨A1, n1, c1, rfl, hB⟩ := get_bool hp1
  have HB := Ho.mk hB
  clear hB hp1
  go_wp2_with fail
  refine (attrs_Get l 256 _ _ (H.out.below HB.out) HOK.out).mono ?_
  rintro e w2 hp2
  obtain ⟨A2, n2, c2, rfl, hB2⟩ := get_bool hp2
  have HB2 := Ho.mk (below_base HB.out HB.out.size hB2)
  clear hB2 hp2
  go_wp2_with fail
  refine (attrs_Int l 0 _ _ (H.out.below HB2.out) HOK.out).mono ?_
  rintro e w3 ⟨rfl, hB3⟩
  have HB3 := Ho.mk (below_base HB2.out HB2.out.size hB3)
  clear hB3
  go_wp2_with fail
  refine (attrs_Int l 256 _ _ (H.out.below HB3.out) HOK.out).mono ?_
  rintro e w4 ⟨rfl, hB4⟩
  have HB4 := Ho.mk (below_base HB3.out HB3.out.size hB4)
  have HK : Ho (kindsL l = kindsB (cameL l 0) (cameL l 256) (intL l 0).2 (intL l 256).2 (intL l 0).1 (intL l 256).1) := ⟨rfl⟩
  clear hB4
  obtain ⟨one, HO1⟩ : ∃ one, Ho (cameL l 0 = one) := ⟨_, ⟨rfl⟩⟩
  obtain ⟨two, HO2⟩ : ∃ two, Ho (cameL l 256 = two) := ⟨_, ⟨rfl⟩⟩
  obtain ⟨okc, HO3⟩ : ∃ okc, Ho ((intL l 0).2 = okc) := ⟨_, ⟨rfl⟩⟩
  obtain ⟨okk, HO4⟩ : ∃ okk, Ho ((intL l 256).2 = okk) := ⟨_, ⟨rfl⟩⟩
  obtain ⟨c, HO5⟩ : ∃ c, Ho ((intL l 0).1 = c) := ⟨_, ⟨rfl⟩⟩
  obtain ⟨k, HO6⟩ : ∃ k, Ho ((intL l 256).1 = k) := ⟨_, ⟨rfl⟩⟩
  rw [HO1.out, HO2.out, HO3.out, HO4.out, HO5.out, HO6.out] at HK
  rw [HO1.out, HO2.out, HO3.out, HO4.out, HO5.out, HO6.out]
  have HP : Ho (∀ r X, kindsB one two okc okk c k = r → Below w.heap.size w X → KindsPost (kindsL l) w (.returned (.tuple #[.int .i64 r.1, .int .i64 r.2.1, .int .i64 r.2.2])) X) := ⟨fun r X hr hX => ⟨by rw [HK.out, hr], hX⟩⟩
  clear HO1 HO2 HO3 HO4 HO5 HO6 HK HB HB2 HB3
  by_cases hc : c = 0
  · have q : (c == 0) = true := beq_iff_eq.2 hc
    have HC := Ho.mk hc
    clear hc
    cases one <;> cases two <;> cases okc <;> cases okk
    all_goals
      go_wp2_with (refine (rules_together c k _).mono ?_; rintro e w5 ⟨rfl, rfl⟩)
    all_goals
      go_ret3
      first
        | exact HP.out (0, 0, 208) _ (by simp [kindsB, HC.out]) HB4.out
        | exact HP.out (c, 0, 0) _ (by simp [kindsB, HC.out]) HB4.out
        | exact HP.out (0, 0, 19) _ (by simp [kindsB, HC.out, *]) HB4.out
        | exact HP.out (c, k, 0) _ (by simp [kindsB, HC.out, *]) HB4.out
  · have q : (c == 0) = false := beq_eq_false_iff_ne.2 hc
    have HC := Ho.mk hc
    clear hc
    cases one <;> cases two <;> cases okc <;> cases okk
    all_goals
      go_wp2_with (refine (rules_together c k _).mono ?_; rintro e w5 ⟨rfl, rfl⟩)
    all_goals
      go_ret3
      first
        | exact HP.out (0, 0, 208) _ (by simp [kindsB, HC.out]) HB4.out
        | exact HP.out (c, 0, 0) _ (by simp [kindsB, HC.out]) HB4.out
        | exact HP.out (0, 0, 19) _ (by simp [kindsB, HC.out, *]) HB4.out
        | exact HP.out (c, k, 0) _ (by simp [kindsB, HC.out, *]) HB4.out

end Go.Proofs.YthjcldkaodmfoaaGreat
