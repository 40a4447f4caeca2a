/-
  What the tables of the rules return: together, must, unread, own, standard. Conditions: those that each theorem types.
-/
import Derived.Test.YthjcldkaodmfoaaGreatAttC
namespace Go.Proofs.YthjcldkaodmfoaaGreat
open Go.RowKit

def togL (c k : Int) : Bool := if c = 0 then true else if c = 4 then decide (k = 16 ∨ k = 31) else if c = 2 ∨ c = 3 then decide (k = 0 ∨ k = 3) else false
theorem eqb (a b : Int) : (a == b) = decide (a = b) := rfl

set_option maxRecDepth 100000 in
set_option maxHeartbeats 2000000 in
theorem rules_together (c k : Int) (w : World) :
    Calls Tryz.prog 216 #[.int .i64 c, .int .i64 k] w fun e w' => e = .returned (.bool (togL c k)) ∧ w = w' := by
  by_cases h1 : k = 16
  · have q1 : (k == 16) = true := beq_iff_eq.2 h1
    have q2 : (k == 31) = false := beq_eq_false_iff_ne.2 (by omega)
    have q3 : (k == 0) = false := beq_eq_false_iff_ne.2 (by omega)
    have q4 : (k == 3) = false := beq_eq_false_iff_ne.2 (by omega)
    have H := Ho.mk h1
    clear h1
    go_enter Tryz.func216, Tryz.ntmps216
    go_wp2
    all_goals
      go_ret
      refine ⟨ret_bool ?_, rfl⟩
      have := H.out
      simp only [beq_iff_eq, beq_eq_false_iff_ne, ne_eq] at *
      simp_all [togL]
  by_cases h2 : k = 31
  · have q1 : (k == 16) = false := beq_eq_false_iff_ne.2 (by omega)
    have q2 : (k == 31) = true := beq_iff_eq.2 h2
    have q3 : (k == 0) = false := beq_eq_false_iff_ne.2 (by omega)
    have q4 : (k == 3) = false := beq_eq_false_iff_ne.2 (by omega)
    have H := Ho.mk h2
    clear h1 h2
    go_enter Tryz.func216, Tryz.ntmps216
    go_wp2
    all_goals
      go_ret
      refine ⟨ret_bool ?_, rfl⟩
      have := H.out
      simp only [beq_iff_eq, beq_eq_false_iff_ne, ne_eq] at *
      simp_all [togL]
  by_cases h3 : k = 0
  · have q1 : (k == 16) = false := beq_eq_false_iff_ne.2 (by omega)
    have q2 : (k == 31) = false := beq_eq_false_iff_ne.2 (by omega)
    have q3 : (k == 0) = true := beq_iff_eq.2 h3
    have q4 : (k == 3) = false := beq_eq_false_iff_ne.2 (by omega)
    have H := Ho.mk h3
    clear h1 h2 h3
    go_enter Tryz.func216, Tryz.ntmps216
    go_wp2
    all_goals
      go_ret
      refine ⟨ret_bool ?_, rfl⟩
      have := H.out
      simp only [beq_iff_eq, beq_eq_false_iff_ne, ne_eq] at *
      simp_all [togL]
  by_cases h4 : k = 3
  · have q1 : (k == 16) = false := beq_eq_false_iff_ne.2 (by omega)
    have q2 : (k == 31) = false := beq_eq_false_iff_ne.2 (by omega)
    have q3 : (k == 0) = false := beq_eq_false_iff_ne.2 (by omega)
    have q4 : (k == 3) = true := beq_iff_eq.2 h4
    have H := Ho.mk h4
    clear h1 h2 h3 h4
    go_enter Tryz.func216, Tryz.ntmps216
    go_wp2
    all_goals
      go_ret
      refine ⟨ret_bool ?_, rfl⟩
      have := H.out
      simp only [beq_iff_eq, beq_eq_false_iff_ne, ne_eq] at *
      simp_all [togL]
  have q1 : (k == 16) = false := beq_eq_false_iff_ne.2 (by omega)
  have q2 : (k == 31) = false := beq_eq_false_iff_ne.2 (by omega)
  have q3 : (k == 0) = false := beq_eq_false_iff_ne.2 (by omega)
  have q4 : (k == 3) = false := beq_eq_false_iff_ne.2 (by omega)
  have H : Ho (k ≠ 16 ∧ k ≠ 31 ∧ k ≠ 0 ∧ k ≠ 3) := ⟨⟨h1, h2, h3, h4⟩⟩
  clear h1 h2 h3 h4
  go_enter Tryz.func216, Tryz.ntmps216
  go_wp2
  all_goals
    go_ret
    refine ⟨ret_bool ?_, rfl⟩
    have := H.out
    simp only [beq_iff_eq, beq_eq_false_iff_ne, ne_eq] at *
    simp_all [togL]

def mustL (c t : Int) : Bool := if t = 17 then decide (c ≠ 0) else decide (t = 288 ∨ t = 290 ∨ t = 291 ∨ t = 292 ∨ t = 293 ∨ t = 384 ∨ t = 385)
set_option maxRecDepth 100000 in
set_option maxHeartbeats 2000000 in
theorem rules_must (c t : Int) (w : World) :
    Calls Tryz.prog 158 #[.int .i64 c, .int .i64 t] w fun e w' => e = .returned (.bool (mustL c t)) ∧ w = w' := by
  go_enter Tryz.func158, Tryz.ntmps158
  go_wp2
  all_goals
    go_ret
    refine ⟨ret_bool ?_, rfl⟩
    simp only [beq_iff_eq, beq_eq_false_iff_ne, ne_eq] at *
    first
      | (subst_vars; simp [mustL, bne]; done)
      | (subst_vars; simp [mustL, bne]; by_cases e : c = 0 <;> simp [e]; done)
      | (unfold mustL; rw [if_neg (by omega), decide_eq_false (by omega)])

/-- May an attribute not stand in a template from which an object is created? -/
def unreadL (t : Int) : Bool := decide (t = 355 ∨ t = 356 ∨ t = 357 ∨ t = 353 ∨ t = 289)
set_option maxRecDepth 100000 in
set_option maxHeartbeats 2000000 in
theorem rules_unread (c t : Int) (w : World) :
    Calls Tryz.prog 219 #[.int .i64 1, .int .i64 c, .int .i64 t] w fun e w' => e = .returned (.bool (unreadL t)) ∧ w = w' := by
  go_enter Tryz.func219, Tryz.ntmps219
  go_wp2
  all_goals
    go_ret
    refine ⟨ret_bool ?_, rfl⟩
    simp only [beq_iff_eq, beq_eq_false_iff_ne, ne_eq] at *
    first
      | (subst_vars; rfl)
      | (unfold unreadL; rw [decide_eq_false (by omega)])

def ownRow (c k : Int) : List Int :=
  if c = 4 then [17, 353, 260, 261, 264, 266, 262, 263, 268]
  else if c = 2 then (if k = 0 then [260, 266, 262, 288, 289, 290] else [260, 266, 262, 384, 385])
  else if k = 0 then [261, 264, 263, 268, 288, 290, 291, 292, 293] else [261, 264, 263, 268, 384, 17]
def RowPost (l : List Int) (w : World) (e : Ending) (w' : World) : Prop := ∃ v1, e = .returned v1 ∧ OwV w' w.heap.size 3 .i64 v1 l ∧ Below w.heap.size w w'
set_option maxRecDepth 100000 in
set_option maxHeartbeats 2000000 in
theorem rules_own (c k : Int) (w : World) :
    Calls Tryz.prog 221 #[.int .i64 c, .int .i64 k] w (RowPost (ownRow c k) w) := by
  have H : ∀ l : List Int, Ho (ownRow c k = l) → l.length ≤ 100 → Ho (RowPost (ownRow c k) w (.returned (.slice (some ⟨w.heap.size, 0, none⟩) l.length l.length)) (w.alloc (.cells (l.map (Value.int .i64)).toArray 3))) := fun l hl hn =>
    ⟨⟨_, rfl, by rw [hl.out]; exact (OwI.lit w _ _ _ l (Nat.le_refl _) (by omega)).val, (Below.refl _ _).alloc (Nat.le_refl _) _⟩⟩
  have HH := Ho.mk H
  clear H
  go_enter Tryz.func221, Tryz.ntmps221
  go_wp2
  all_goals
    go_ret
    simp only [beq_iff_eq, beq_eq_false_iff_ne, ne_eq] at *
    first
      | exact (HH.out [17, 353, 260, 261, 264, 266, 262, 263, 268] ⟨by unfold ownRow; rw [if_pos (by assumption)]⟩ (by decide)).out
      | exact (HH.out [260, 266, 262, 288, 289, 290] ⟨by unfold ownRow; rw [if_neg (by omega), if_pos (by assumption), if_pos (by assumption)]⟩ (by decide)).out
      | exact (HH.out [260, 266, 262, 384, 385] ⟨by unfold ownRow; rw [if_neg (by omega), if_pos (by assumption), if_neg (by assumption)]⟩ (by decide)).out
      | exact (HH.out [261, 264, 263, 268, 288, 290, 291, 292, 293] ⟨by unfold ownRow; rw [if_neg (by omega), if_neg (by assumption), if_pos (by assumption)]⟩ (by decide)).out
      | exact (HH.out [261, 264, 263, 268, 384, 17] ⟨by unfold ownRow; rw [if_neg (by omega), if_neg (by assumption), if_neg (by assumption)]⟩ (by decide)).out

/-! ### rules.came, flag, number -/
def cameL (l : List At) (t : Int) : Bool := (getL l t).isSome
set_option maxRecDepth 100000 in
theorem rules_came (l : List At) (t : Int) (v : Value) (w : World) (h : SlA w v l) (hok : AtsOk l) :
    Calls Tryz.prog 232 #[v, .int .i64 t] w (BoolPost (cameL l t) w) := by
  have H := Ho.mk h
  have HOK := Ho.mk hok
  obtain ⟨A, c, rfl, h1, h2, h3, hr⟩ := h
  clear h3 hr hok
  go_enter Tryz.func232, Tryz.ntmps232
  go_wp2_with fail
  refine (attrs_Get l t _ w H.out HOK.out).mono ?_
  rintro e w1 ⟨hB, ⟨hg, rfl⟩ | ⟨b, v1, hg, rfl, ho⟩⟩
  · have HP : Ho (BoolPost (cameL l t) w (.returned (.bool false)) w1) := ⟨by unfold cameL; rw [hg]; rfl, hB⟩
    clear hg hB
    go_wp2
    go_ret
    exact HP.out
  · have HP : Ho (BoolPost (cameL l t) w (.returned (.bool true)) w1) := ⟨by unfold cameL; rw [hg]; rfl, hB⟩
    clear hg hB ho
    go_wp2
    go_ret
    exact HP.out

/-- An attribute's default. -/
def stdA (c t : Int) : At :=
  if formL t = 1 then
    (if t = 2 then boolA t (decide (c = 4 ∨ c = 3)) else if t = 368 ∨ t = 369 then boolA t true else if t = 259 then boolA t (decide (c = 3)) else if t = 354 then boolA t (decide (c = 4)) else boolA t false)
  else (t, [])
theorem at_end {w w1 : World} {a : At} {g n cap : Nat} (HO : OwV w1 (w.heap.size + 1) 5 .u8 (.slice (some ⟨g, 0, none⟩) n cap) a.2) (hg : w.heap.size + 1 ≤ g) (HB1 : Below w.heap.size w w1) :
    AtPost a w (.returned (.agg #[.int .i64 a.1, .slice (some ⟨g, 0, none⟩) n cap])) ((w1.setCell ⟨w.heap.size, 0, none⟩ (.int .i64 a.1)).setCell ⟨w.heap.size, 1, none⟩ (.slice (some ⟨g, 0, none⟩) n cap)) := by
  have hne : (Value.slice (some ⟨g, 0, none⟩) n cap).ownBlock ≠ some w.heap.size := by simp [Value.ownBlock]; omega
  exact ⟨_, rfl, (OwV.other (a := ⟨w.heap.size, 1, none⟩) (OwV.other (a := ⟨w.heap.size, 0, none⟩) HO hne _) hne _).weaken (by omega), (HB1.setCell (p := ⟨w.heap.size, 0, none⟩) (Nat.le_refl _) _).setCell (p := ⟨w.heap.size, 1, none⟩) (Nat.le_refl _) _⟩
theorem OwV.some {w : World} {base : Nat} {e : TypeId} {k : IntKind} {v : Value} {xs : List Int} (h : OwV w base e k v xs) (hn : 0 < xs.length) : ∃ g cap, v = .slice (some ⟨g, 0, none⟩) xs.length cap ∧ base ≤ g ∧ g < w.heap.size := by
  rcases h.cases with ⟨rfl, rfl⟩ | ⟨g, cap, rfl, q⟩
  · simp at hn
  · exact ⟨g, cap, rfl, OwI.lt q⟩

theorem std_results (tmps : Array Value) (b : Nat) (ht : tmps[4]?.getD undef = .pointer (some ⟨b, 0, none⟩)) (x y : Value) (Z : World) (c0 : Z.cell? ⟨b, 0, none⟩ = Option.some x) (c1 : Z.cell? ⟨b, 1, none⟩ = Option.some y) : (results Tryz.f159 tmps).run Tryz.prog Z = .ok (.agg #[x, y]) Z := by
  simp [results, Tryz.results159, go_sem, ht, c0, c1]
theorem std_ret {c t : Int} {a : At} {tmps : Array Value} {w w1 : World} {g cap : Nat} (E : stdA c t = a) (ht : tmps[4]?.getD undef = .pointer (some ⟨w.heap.size, 0, none⟩)) (HR1 : w1.heap[w.heap.size]? = Option.some (.cells #[.int .i64 0, .slice none 0 0] 91 (0, 0)))
    (HO : OwV w1 (w.heap.size + 1) 5 .u8 (.slice (some ⟨g, 0, none⟩) a.2.length cap) a.2) (hg : w.heap.size + 1 ≤ g) (HB1 : Below w.heap.size w w1) :
    bodyPost Tryz.prog Tryz.f159 (AtPost (stdA c t) w) Exit.ret { tmps := tmps, defers := [] } ((w1.setCell ⟨w.heap.size, 0, none⟩ (.int .i64 a.1)).setCell ⟨w.heap.size, 1, none⟩ (.slice (some ⟨g, 0, none⟩) a.2.length cap)) := by
  obtain ⟨d0, d1, _, _⟩ := cell2 (heap_setCell_same _ w.heap.size 1 _ _ (.slice (some ⟨g, 0, none⟩) a.2.length cap) (heap_setCell_same w1 w.heap.size 0 _ _ (.int .i64 a.1) HR1))
  exact bodyPost_ret (std_results tmps _ ht _ _ _ d0 d1) rfl (by rw [E]; exact at_end HO hg HB1)

set_option maxRecDepth 100000 in
set_option maxHeartbeats 2000000 in
theorem rules_standard (c t : Int) (w : World) :
    Calls Tryz.prog 159 #[.int .i64 c, .int .i64 t] w (AtPost (stdA c t) w) := by
  obtain ⟨f, hf⟩ : ∃ f, formL t = f := ⟨_, rfl⟩
  have HFm : ∀ W, Calls Tryz.prog 226 #[.int .i64 t] W fun e w' => e = .returned (.int .i64 f) ∧ W = w' := fun W => hf ▸ attrs_Form t W
  have HF := Ho.mk HFm
  have HFE := Ho.mk hf
  clear HFm hf
  by_cases h1 : f = 1
  · have q : (f == 1) = true := beq_iff_eq.2 h1
    have H1 := Ho.mk (HFE.out.trans h1)
    clear h1
    by_cases h4 : c = 4
    · have q4 : (c == 4) = true := beq_iff_eq.2 h4
      have q3 : (c == 3) = false := beq_eq_false_iff_ne.2 (by omega)
      have H4 := Ho.mk h4
      clear h4
      go_enter Tryz.func159, Tryz.ntmps159
      go_wp2_with (first | (refine (HF.out _).mono ?_; rintro e w1 ⟨rfl, rfl⟩) | (refine (attrs_Bool t _ _).mono ?_; rintro e w1 ⟨v1, rfl, ho, hb⟩; have HR1 := Ho.mk ((hb.block _ (by simp)).trans (heap_alloc_new w _)); have HB1 := Ho.mk (((Below.refl _ _).alloc (Nat.le_refl _) _).trans (hb.mono (by simp))); obtain ⟨g, cap, rfl, hg, _⟩ := ho.some (by simp [boolA]); have HO := Ho.mk ho; simp only [World.size_alloc] at hg; obtain ⟨c0, c1, f0, f1⟩ := cell2 HR1.out; clear hb ho))
      all_goals
        refine std_ret ?_ rfl HR1.out (HO.out.weaken (by simp)) hg HB1.out
        have h1 := H1.out
        have h4 := H4.out
        simp only [beq_iff_eq, beq_eq_false_iff_ne, ne_eq] at *
        simp_all [stdA]
    by_cases h3 : c = 3
    · have q4 : (c == 4) = false := beq_eq_false_iff_ne.2 (by omega)
      have q3 : (c == 3) = true := beq_iff_eq.2 h3
      have H4 := Ho.mk h3
      clear h4 h3
      go_enter Tryz.func159, Tryz.ntmps159
      go_wp2_with (first | (refine (HF.out _).mono ?_; rintro e w1 ⟨rfl, rfl⟩) | (refine (attrs_Bool t _ _).mono ?_; rintro e w1 ⟨v1, rfl, ho, hb⟩; have HR1 := Ho.mk ((hb.block _ (by simp)).trans (heap_alloc_new w _)); have HB1 := Ho.mk (((Below.refl _ _).alloc (Nat.le_refl _) _).trans (hb.mono (by simp))); obtain ⟨g, cap, rfl, hg, _⟩ := ho.some (by simp [boolA]); have HO := Ho.mk ho; simp only [World.size_alloc] at hg; obtain ⟨c0, c1, f0, f1⟩ := cell2 HR1.out; clear hb ho))
      all_goals
        refine std_ret ?_ rfl HR1.out (HO.out.weaken (by simp)) hg HB1.out
        have h1 := H1.out
        have h4 := H4.out
        simp only [beq_iff_eq, beq_eq_false_iff_ne, ne_eq] at *
        simp_all [stdA]
    · have q4 : (c == 4) = false := beq_eq_false_iff_ne.2 (by omega)
      have q3 : (c == 3) = false := beq_eq_false_iff_ne.2 (by omega)
      have H4 := Ho.mk (And.intro h3 h4)
      clear h4 h3
      go_enter Tryz.func159, Tryz.ntmps159
      go_wp2_with (first | (refine (HF.out _).mono ?_; rintro e w1 ⟨rfl, rfl⟩) | (refine (attrs_Bool t _ _).mono ?_; rintro e w1 ⟨v1, rfl, ho, hb⟩; have HR1 := Ho.mk ((hb.block _ (by simp)).trans (heap_alloc_new w _)); have HB1 := Ho.mk (((Below.refl _ _).alloc (Nat.le_refl _) _).trans (hb.mono (by simp))); obtain ⟨g, cap, rfl, hg, _⟩ := ho.some (by simp [boolA]); have HO := Ho.mk ho; simp only [World.size_alloc] at hg; obtain ⟨c0, c1, f0, f1⟩ := cell2 HR1.out; clear hb ho))
      all_goals
        refine std_ret ?_ rfl HR1.out (HO.out.weaken (by simp)) hg HB1.out
        have h1 := H1.out
        have h4 := H4.out
        simp only [beq_iff_eq, beq_eq_false_iff_ne, ne_eq] at *
        simp_all [stdA]
  · have q : (f == 1) = false := beq_eq_false_iff_ne.2 h1
    have hne : formL t ≠ 1 := fun e => h1 (HFE.out.symm.trans e)
    have H1 : Ho (stdA c t = (t, [])) := ⟨if_neg hne⟩
    clear h1 hne
    go_enter Tryz.func159, Tryz.ntmps159
    go_wp2_with (refine (HF.out _).mono ?_; rintro e w1 ⟨rfl, rfl⟩)
    rw [H1.out]
    obtain ⟨d0, d1, _, _⟩ := cell2 (heap_alloc_new w (.cells #[.int .i64 t, .slice none 0 0] 91))
    exact bodyPost_ret (std_results _ _ rfl _ _ _ d0 d1) rfl ⟨_, rfl, OwV.nil _ _ _ _, (Below.refl _ _).alloc (Nat.le_refl _) _⟩

end Go.Proofs.YthjcldkaodmfoaaGreat
