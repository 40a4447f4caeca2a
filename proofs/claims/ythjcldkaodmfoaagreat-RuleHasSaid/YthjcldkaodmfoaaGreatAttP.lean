/-
  What the reference's table of attributes answers. Conditions: none.
-/
import Derived.Test.YthjcldkaodmfoaaGreatAttN
namespace Go.Proofs.YthjcldkaodmfoaaGreat
open Go.RowKit Go.Shelf

set_option maxRecDepth 100000 in
set_option maxHeartbeats 2000000 in
theorem ref18_Together (c k : Int) (w : World) :
    Calls Tryz.prog 149 #[.int .i64 c, .int .i64 k] w fun e w' => e = .returned (.bool (togL c k)) ∧ w = w' := by
  by_cases h1 : k = 16
  · have q1 : (k == 16) = true := beq_iff_eq.2 h1
    have q2 : (k == 31) = false := beq_eq_false_iff_ne.2 (by omega)
    have q3 : (k == 0) = false := beq_eq_false_iff_ne.2 (by omega)
    have q4 : (k == 3) = false := beq_eq_false_iff_ne.2 (by omega)
    have H := Ho.mk h1
    clear h1
    go_enter Tryz.func149, Tryz.ntmps149
    go_wp2
    all_goals
      go_ret
      refine ⟨ret_bool ?_, rfl⟩
      have := H.out
      simp only [beq_iff_eq, beq_eq_false_iff_ne, ne_eq] at *
      simp_all [togL]
  by_cases h2 : k = 31
  · have q1 : (k == 16) = false := beq_eq_false_iff_ne.2 (by omega)
    have q2 : (k == 31) = true := beq_iff_eq.2 h2
    have q3 : (k == 0) = false := beq_eq_false_iff_ne.2 (by omega)
    have q4 : (k == 3) = false := beq_eq_false_iff_ne.2 (by omega)
    have H := Ho.mk h2
    clear h1 h2
    go_enter Tryz.func149, Tryz.ntmps149
    go_wp2
    all_goals
      go_ret
      refine ⟨ret_bool ?_, rfl⟩
      have := H.out
      simp only [beq_iff_eq, beq_eq_false_iff_ne, ne_eq] at *
      simp_all [togL]
  by_cases h3 : k = 0
  · have q1 : (k == 16) = false := beq_eq_false_iff_ne.2 (by omega)
    have q2 : (k == 31) = false := beq_eq_false_iff_ne.2 (by omega)
    have q3 : (k == 0) = true := beq_iff_eq.2 h3
    have q4 : (k == 3) = false := beq_eq_false_iff_ne.2 (by omega)
    have H := Ho.mk h3
    clear h1 h2 h3
    go_enter Tryz.func149, Tryz.ntmps149
    go_wp2
    all_goals
      go_ret
      refine ⟨ret_bool ?_, rfl⟩
      have := H.out
      simp only [beq_iff_eq, beq_eq_false_iff_ne, ne_eq] at *
      simp_all [togL]
  by_cases h4 : k = 3
  · have q1 : (k == 16) = false := beq_eq_false_iff_ne.2 (by omega)
    have q2 : (k == 31) = false := beq_eq_false_iff_ne.2 (by omega)
    have q3 : (k == 0) = false := beq_eq_false_iff_ne.2 (by omega)
    have q4 : (k == 3) = true := beq_iff_eq.2 h4
    have H := Ho.mk h4
    clear h1 h2 h3 h4
    go_enter Tryz.func149, Tryz.ntmps149
    go_wp2
    all_goals
      go_ret
      refine ⟨ret_bool ?_, rfl⟩
      have := H.out
      simp only [beq_iff_eq, beq_eq_false_iff_ne, ne_eq] at *
      simp_all [togL]
  have q1 : (k == 16) = false := beq_eq_false_iff_ne.2 (by omega)
  have q2 : (k == 31) = false := beq_eq_false_iff_ne.2 (by omega)
  have q3 : (k == 0) = false := beq_eq_false_iff_ne.2 (by omega)
  have q4 : (k == 3) = false := beq_eq_false_iff_ne.2 (by omega)
  have H : Ho (k ≠ 16 ∧ k ≠ 31 ∧ k ≠ 0 ∧ k ≠ 3) := ⟨⟨h1, h2, h3, h4⟩⟩
  clear h1 h2 h3 h4
  go_enter Tryz.func149, Tryz.ntmps149
  go_wp2
  all_goals
    go_ret
    refine ⟨ret_bool ?_, rfl⟩
    have := H.out
    simp only [beq_iff_eq, beq_eq_false_iff_ne, ne_eq] at *
    simp_all [togL]

set_option maxRecDepth 100000 in
theorem ref18_among (xs : List Int) (t : Int) (v : Value) (w : World) (h : SlI w .i64 v xs) :
    Calls Tryz.prog 150 #[.int .i64 t, v] w fun e w' => e = .returned (.bool (decide (t ∈ xs))) ∧ w = w' := by
  obtain ⟨A, c, rfl, h1, h2, h3, hr⟩ := h
  have HR := Ho.mk hr
  clear hr h3
  go_enter Tryz.func150, Tryz.ntmps150
  go_wp2
  go_loop [5] (fun i => ∃ k : Nat, k ≤ xs.length ∧ i = .int .i64 k ∧ Ho (∀ j, j < k → gx xs j ≠ t)) (fun i => xs.length - (intOf i).toNat)
  case atStart => exact ⟨0, Nat.zero_le _, rfl, ⟨fun j hj => absurd hj (by omega)⟩⟩
  case round =>
    obtain ⟨k, hk, rfl, hg⟩ := hrel
    by_cases hlt : k < xs.length
    · obtain ⟨b, o, rfl, hcell⟩ := HR.out (by omega)
      have c1 := hcell k hlt
      clear hcell
      by_cases he : gx xs k = t
      · have q : (gx xs k == t) = true := beq_iff_eq.2 he
        have HP : Ho (decide (t ∈ xs) = true) := ⟨decide_eq_true (by rw [← he, gx_lt hlt]; exact List.getElem_mem hlt)⟩
        clear he
        go_wp2
        go_ret
        exact ⟨by rw [HP.out]; rfl, rfl⟩
      · have q : (gx xs k == t) = false := beq_eq_false_iff_ne.2 he
        have HE := Ho.mk he
        clear he
        go_wp2
        go_round
        case rel => exact ⟨k + 1, by omega, by go_num, ⟨fun j hj => if e : j = k then by subst e; exact HE.out else hg.out j (by omega)⟩⟩
        case measure => simp [intOf]; omega
    · have HP : Ho (decide (t ∈ xs) = false) := ⟨decide_eq_false fun hm => by
        obtain ⟨j, hj, e⟩ := List.getElem_of_mem hm
        exact absurd (by rw [gx_lt hj]; exact e) (hg.out j (by omega))⟩
      clear hg
      go_wp2
      go_ret
      exact ⟨by rw [HP.out]; rfl, rfl⟩

theorem among_lit (xs : List Int) (t : Int) (w : World) (h : xs.length ≤ 100) :
    Calls Tryz.prog 150 #[.int .i64 t, .slice (some ⟨w.heap.size, 0, none⟩) xs.length xs.length] (w.alloc (.cells (xs.map (Value.int .i64)).toArray 3)) fun e w' => e = .returned (.bool (decide (t ∈ xs))) ∧ w.alloc (.cells (xs.map (Value.int .i64)).toArray 3) = w' :=
  ref18_among xs t _ _ (OwI.lit' w.heap.size 3 .i64 xs _ rfl rfl (Nat.le_refl _) (by omega)).val.sl

theorem below_al {b : Nat} {w W : World} (h : Below b w W) (hb : b ≤ w.heap.size) (o : Obj) : Below b w (W.alloc o) := h.alloc (Nat.le_trans hb h.size) o

theorem hasL_eq (c k t : Int) : hasL c k t = (togL c k && (decide (t ∈ ([0, 1, 2, 3, 368, 369] : List Int)) || (if c = 0 then decide (t = 17) else (decide (t ∈ ([256, 258, 355] : List Int)) || (decide (t ∈ ownRow c k) || (!decide (c = 2) && decide (t ∈ ([259, 354, 357, 356] : List Int)))))))) := by
  unfold hasL rowsH
  cases togL c k with
  | false => simp
  | true =>
    by_cases c0 : c = 0
    · simp only [if_pos c0, if_true, List.any_cons, List.any_nil, Bool.or_false, Bool.true_and, List.mem_singleton]
    · by_cases c2 : c = 2
      · simp only [if_neg c0, if_pos c2, if_true, List.any_cons, List.any_nil, Bool.or_false, Bool.true_and, decide_eq_true c2, Bool.not_true, Bool.false_and]
      · simp only [if_neg c0, if_neg c2, if_true, List.any_cons, List.any_nil, Bool.or_false, Bool.true_and, decide_eq_false c2, Bool.not_false, Bool.true_and]
theorem and_lit (xs ys : List Int) (t : Int) (z : List Int) (h : ∀ x, x ∈ z ↔ x ∈ xs ∨ x ∈ ys) : (decide (t ∈ xs) || decide (t ∈ ys)) = decide (t ∈ z) := by
  rw [Bool.eq_iff_iff, Bool.or_eq_true, decide_eq_true_iff, decide_eq_true_iff, decide_eq_true_iff, h]

set_option maxRecDepth 100000 in
set_option maxHeartbeats 4000000 in
theorem ref18_Has (c k t : Int) (w : World) :
    Calls Tryz.prog 57 #[.int .i64 c, .int .i64 k, .int .i64 t] w (BoolPost (hasL c k t) w) := by
  go_enter Tryz.func57, Tryz.ntmps57
  go_wp2_with fail
  refine (ref18_Together c k w).mono ?_
  rintro e w1 ⟨rfl, rfl⟩
  obtain ⟨y, HT⟩ : ∃ y, Ho (togL c k = y) := ⟨_, ⟨rfl⟩⟩
  rw [HT.out]
  have HB := Ho.mk (Below.refl w.heap.size w)
  cases y with
  | false =>
    have HP : Ho (hasL c k t = false) := ⟨by rw [hasL_eq, HT.out]; rfl⟩
    go_wp2
    go_ret
    exact ⟨by rw [HP.out]; rfl, HB.out⟩
  | true =>
    go_wp2_with fail
    refine (among_lit [0, 1, 2, 3, 368, 369] t w (by decide)).mono ?_
    rintro e w1 ⟨rfl, rfl⟩
    have HB := Ho.mk (below_al HB.out (Nat.le_refl _) (.cells ((([0, 1, 2, 3, 368, 369] : List Int)).map (Value.int .i64)).toArray 3))
    obtain ⟨W1, hW⟩ : ∃ W, w.alloc (.cells ((([0, 1, 2, 3, 368, 369] : List Int)).map (Value.int .i64)).toArray 3) = W := ⟨_, rfl⟩
    rw [hW] at HB ⊢
    clear hW
    by_cases hm : t ∈ ([0, 1, 2, 3, 368, 369] : List Int)
    · have HP : Ho (hasL c k t = true) := ⟨by rw [hasL_eq, HT.out, decide_eq_true hm]; simp⟩
      rw [decide_eq_true hm]
      clear hm
      go_wp2
      go_ret
      exact ⟨by rw [HP.out]; rfl, HB.out⟩
    · rw [decide_eq_false hm]
      have H1 := Ho.mk hm
      clear hm
      by_cases c0 : c = 0
      · have q : (c == 0) = true := beq_iff_eq.2 c0
        have HP : Ho (hasL c k t = (t == 17)) := ⟨by rw [hasL_eq, HT.out, decide_eq_false H1.out, if_pos c0]; rfl⟩
        clear c0
        go_wp2
        go_ret
        exact ⟨by rw [HP.out]; rfl, HB.out⟩
      · have q : (c == 0) = false := beq_eq_false_iff_ne.2 c0
        have HC0 := Ho.mk c0
        clear c0
        go_wp2_with fail
        refine (among_lit [256, 258, 355] t W1 (by decide)).mono ?_
        rintro e w1 ⟨rfl, rfl⟩
        have HB := Ho.mk (below_al HB.out (Nat.le_refl _) (.cells ((([256, 258, 355] : List Int)).map (Value.int .i64)).toArray 3))
        obtain ⟨W2, hW⟩ : ∃ W, W1.alloc (.cells ((([256, 258, 355] : List Int)).map (Value.int .i64)).toArray 3) = W := ⟨_, rfl⟩
        rw [hW] at HB ⊢
        clear hW
        by_cases hm : t ∈ ([256, 258, 355] : List Int)
        · have HP : Ho (hasL c k t = true) := ⟨by rw [hasL_eq, HT.out, if_neg HC0.out, decide_eq_true hm]; simp⟩
          rw [decide_eq_true hm]
          clear hm
          go_wp2
          go_ret
          exact ⟨by rw [HP.out]; rfl, HB.out⟩
        · rw [decide_eq_false hm]
          have H2 := Ho.mk hm
          clear hm
          have HH : Ho (hasL c k t = (decide (t ∈ ownRow c k) || (!decide (c = 2) && decide (t ∈ ([259, 354, 357, 356] : List Int))))) := ⟨by rw [hasL_eq, HT.out, decide_eq_false H1.out, decide_eq_false H2.out, if_neg HC0.out]; rfl⟩
          by_cases c4 : c = 4
          · have q4 : (c == 4) = true := beq_iff_eq.2 c4
            have HP : Ho (hasL c k t = decide (t ∈ ([17, 353, 259, 354, 357, 356, 260, 261, 264, 266, 262, 263, 268] : List Int))) := ⟨by
              rw [HH.out, show decide (c = 2) = false from decide_eq_false (by omega), show ownRow c k = [17, 353, 260, 261, 264, 266, 262, 263, 268] from if_pos c4]
              exact and_lit _ _ t _ (fun x => by simp; omega)⟩
            clear c4
            by_cases k0 : k = 0
            · have p : (k == 0) = true := beq_iff_eq.2 k0
              clear k0
              go_wp2_with fail
              refine (among_lit [17, 353, 259, 354, 357, 356, 260, 261, 264, 266, 262, 263, 268] t W2 (by decide)).mono ?_
              rintro e w1 ⟨rfl, rfl⟩
              have HB := Ho.mk (below_al HB.out (Nat.le_refl _) (.cells ((([17, 353, 259, 354, 357, 356, 260, 261, 264, 266, 262, 263, 268] : List Int)).map (Value.int .i64)).toArray 3))
              obtain ⟨y9, hy⟩ : ∃ y, decide (t ∈ ([17, 353, 259, 354, 357, 356, 260, 261, 264, 266, 262, 263, 268] : List Int)) = y := ⟨_, rfl⟩
              rw [hy] at HP ⊢
              clear hy
              go_wp2
              go_ret
              exact ⟨by rw [HP.out]; rfl, HB.out⟩
            · have p : (k == 0) = false := beq_eq_false_iff_ne.2 k0
              clear k0
              go_wp2_with fail
              refine (among_lit [17, 353, 259, 354, 357, 356, 260, 261, 264, 266, 262, 263, 268] t W2 (by decide)).mono ?_
              rintro e w1 ⟨rfl, rfl⟩
              have HB := Ho.mk (below_al HB.out (Nat.le_refl _) (.cells ((([17, 353, 259, 354, 357, 356, 260, 261, 264, 266, 262, 263, 268] : List Int)).map (Value.int .i64)).toArray 3))
              obtain ⟨y9, hy⟩ : ∃ y, decide (t ∈ ([17, 353, 259, 354, 357, 356, 260, 261, 264, 266, 262, 263, 268] : List Int)) = y := ⟨_, rfl⟩
              rw [hy] at HP ⊢
              clear hy
              go_wp2
              go_ret
              exact ⟨by rw [HP.out]; rfl, HB.out⟩
          · have q4 : (c == 4) = false := beq_eq_false_iff_ne.2 c4
            by_cases c2 : c = 2
            · have q2 : (c == 2) = true := beq_iff_eq.2 c2
              have HC := Ho.mk c2
              have HH2 : Ho (hasL c k t = decide (t ∈ ownRow c k)) := ⟨by rw [HH.out, decide_eq_true c2]; simp⟩
              clear c4 c2
              by_cases k0 : k = 0
              · have p : (k == 0) = true := beq_iff_eq.2 k0
                have HO : Ho (ownRow c k = [260, 266, 262, 288, 289, 290]) := ⟨(if_neg (by have := HC.out; omega)).trans ((if_pos HC.out).trans (if_pos k0))⟩
                clear k0
                go_wp2_with fail
                refine (among_lit [260, 266, 262] t W2 (by decide)).mono ?_
                rintro e w1 ⟨rfl, rfl⟩
                have HB := Ho.mk (below_al HB.out (Nat.le_refl _) (.cells ((([260, 266, 262] : List Int)).map (Value.int .i64)).toArray 3))
                obtain ⟨W3, hW⟩ : ∃ W, W2.alloc (.cells ((([260, 266, 262] : List Int)).map (Value.int .i64)).toArray 3) = W := ⟨_, rfl⟩
                rw [hW] at HB ⊢
                clear hW
                by_cases hm : t ∈ ([260, 266, 262] : List Int)
                · have HP : Ho (hasL c k t = true) := ⟨by rw [HH2.out, HO.out]; apply decide_eq_true; simp only [List.mem_cons, List.not_mem_nil, or_false] at hm ⊢; omega⟩
                  rw [decide_eq_true hm]
                  clear hm
                  go_wp2
                  go_ret
                  exact ⟨by rw [HP.out]; rfl, HB.out⟩
                · rw [decide_eq_false hm]
                  have H3 := Ho.mk hm
                  clear hm
                  have HP : Ho (hasL c k t = decide (t ∈ ([288, 289, 290] : List Int))) := ⟨by
                    rw [HH2.out, HO.out]
                    have := H3.out
                    rw [decide_eq_decide]
                    simp only [List.mem_cons, List.not_mem_nil, or_false] at this ⊢
                    omega⟩
                  go_wp2_with fail
                  refine (among_lit [288, 289, 290] t W3 (by decide)).mono ?_
                  rintro e w1 ⟨rfl, rfl⟩
                  have HB := Ho.mk (below_al HB.out (Nat.le_refl _) (.cells ((([288, 289, 290] : List Int)).map (Value.int .i64)).toArray 3))
                  obtain ⟨y9, hy⟩ : ∃ y, decide (t ∈ ([288, 289, 290] : List Int)) = y := ⟨_, rfl⟩
                  rw [hy] at HP ⊢
                  clear hy
                  go_wp2
                  go_ret
                  exact ⟨by rw [HP.out]; rfl, HB.out⟩
              · have p : (k == 0) = false := beq_eq_false_iff_ne.2 k0
                have HO : Ho (ownRow c k = [260, 266, 262, 384, 385]) := ⟨(if_neg (by have := HC.out; omega)).trans ((if_pos HC.out).trans (if_neg k0))⟩
                clear k0
                go_wp2_with fail
                refine (among_lit [260, 266, 262] t W2 (by decide)).mono ?_
                rintro e w1 ⟨rfl, rfl⟩
                have HB := Ho.mk (below_al HB.out (Nat.le_refl _) (.cells ((([260, 266, 262] : List Int)).map (Value.int .i64)).toArray 3))
                obtain ⟨W3, hW⟩ : ∃ W, W2.alloc (.cells ((([260, 266, 262] : List Int)).map (Value.int .i64)).toArray 3) = W := ⟨_, rfl⟩
                rw [hW] at HB ⊢
                clear hW
                by_cases hm : t ∈ ([260, 266, 262] : List Int)
                · have HP : Ho (hasL c k t = true) := ⟨by rw [HH2.out, HO.out]; apply decide_eq_true; simp only [List.mem_cons, List.not_mem_nil, or_false] at hm ⊢; omega⟩
                  rw [decide_eq_true hm]
                  clear hm
                  go_wp2
                  go_ret
                  exact ⟨by rw [HP.out]; rfl, HB.out⟩
                · rw [decide_eq_false hm]
                  have H3 := Ho.mk hm
                  clear hm
                  have HP : Ho (hasL c k t = decide (t ∈ ([384, 385] : List Int))) := ⟨by
                    rw [HH2.out, HO.out]
                    have := H3.out
                    rw [decide_eq_decide]
                    simp only [List.mem_cons, List.not_mem_nil, or_false] at this ⊢
                    omega⟩
                  go_wp2_with fail
                  refine (among_lit [384, 385] t W3 (by decide)).mono ?_
                  rintro e w1 ⟨rfl, rfl⟩
                  have HB := Ho.mk (below_al HB.out (Nat.le_refl _) (.cells ((([384, 385] : List Int)).map (Value.int .i64)).toArray 3))
                  obtain ⟨y9, hy⟩ : ∃ y, decide (t ∈ ([384, 385] : List Int)) = y := ⟨_, rfl⟩
                  rw [hy] at HP ⊢
                  clear hy
                  go_wp2
                  go_ret
                  exact ⟨by rw [HP.out]; rfl, HB.out⟩
            · have q2 : (c == 2) = false := beq_eq_false_iff_ne.2 c2
              have HC : Ho (c ≠ 4 ∧ c ≠ 2) := ⟨⟨c4, c2⟩⟩
              have HH2 : Ho (hasL c k t = (decide (t ∈ ownRow c k) || decide (t ∈ ([259, 354, 357, 356] : List Int)))) := ⟨by rw [HH.out, decide_eq_false c2]; simp⟩
              clear c4 c2
              by_cases k0 : k = 0
              · have p : (k == 0) = true := beq_iff_eq.2 k0
                have HO : Ho (ownRow c k = [261, 264, 263, 268, 288, 290, 291, 292, 293]) := ⟨(if_neg HC.out.1).trans ((if_neg HC.out.2).trans (if_pos k0))⟩
                clear k0
                go_wp2_with fail
                refine (among_lit [259, 354, 357, 356, 261, 264, 263, 268] t W2 (by decide)).mono ?_
                rintro e w1 ⟨rfl, rfl⟩
                have HB := Ho.mk (below_al HB.out (Nat.le_refl _) (.cells ((([259, 354, 357, 356, 261, 264, 263, 268] : List Int)).map (Value.int .i64)).toArray 3))
                obtain ⟨W3, hW⟩ : ∃ W, W2.alloc (.cells ((([259, 354, 357, 356, 261, 264, 263, 268] : List Int)).map (Value.int .i64)).toArray 3) = W := ⟨_, rfl⟩
                rw [hW] at HB ⊢
                clear hW
                by_cases hm : t ∈ ([259, 354, 357, 356, 261, 264, 263, 268] : List Int)
                · have HP : Ho (hasL c k t = true) := ⟨by rw [HH2.out, HO.out, Bool.or_eq_true, decide_eq_true_iff, decide_eq_true_iff]; simp only [List.mem_cons, List.not_mem_nil, or_false] at hm ⊢; omega⟩
                  rw [decide_eq_true hm]
                  clear hm
                  go_wp2
                  go_ret
                  exact ⟨by rw [HP.out]; rfl, HB.out⟩
                · rw [decide_eq_false hm]
                  have H3 := Ho.mk hm
                  clear hm
                  have HP : Ho (hasL c k t = decide (t ∈ ([288, 290, 291, 292, 293] : List Int))) := ⟨by
                    rw [HH2.out, HO.out]
                    have := H3.out
                    rw [Bool.eq_iff_iff, Bool.or_eq_true, decide_eq_true_iff, decide_eq_true_iff, decide_eq_true_iff]
                    simp only [List.mem_cons, List.not_mem_nil, or_false] at this ⊢
                    omega⟩
                  go_wp2_with fail
                  refine (among_lit [288, 290, 291, 292, 293] t W3 (by decide)).mono ?_
                  rintro e w1 ⟨rfl, rfl⟩
                  have HB := Ho.mk (below_al HB.out (Nat.le_refl _) (.cells ((([288, 290, 291, 292, 293] : List Int)).map (Value.int .i64)).toArray 3))
                  obtain ⟨y9, hy⟩ : ∃ y, decide (t ∈ ([288, 290, 291, 292, 293] : List Int)) = y := ⟨_, rfl⟩
                  rw [hy] at HP ⊢
                  clear hy
                  go_wp2
                  go_ret
                  exact ⟨by rw [HP.out]; rfl, HB.out⟩
              · have p : (k == 0) = false := beq_eq_false_iff_ne.2 k0
                have HO : Ho (ownRow c k = [261, 264, 263, 268, 384, 17]) := ⟨(if_neg HC.out.1).trans ((if_neg HC.out.2).trans (if_neg k0))⟩
                clear k0
                go_wp2_with fail
                refine (among_lit [259, 354, 357, 356, 261, 264, 263, 268] t W2 (by decide)).mono ?_
                rintro e w1 ⟨rfl, rfl⟩
                have HB := Ho.mk (below_al HB.out (Nat.le_refl _) (.cells ((([259, 354, 357, 356, 261, 264, 263, 268] : List Int)).map (Value.int .i64)).toArray 3))
                obtain ⟨W3, hW⟩ : ∃ W, W2.alloc (.cells ((([259, 354, 357, 356, 261, 264, 263, 268] : List Int)).map (Value.int .i64)).toArray 3) = W := ⟨_, rfl⟩
                rw [hW] at HB ⊢
                clear hW
                by_cases hm : t ∈ ([259, 354, 357, 356, 261, 264, 263, 268] : List Int)
                · have HP : Ho (hasL c k t = true) := ⟨by rw [HH2.out, HO.out, Bool.or_eq_true, decide_eq_true_iff, decide_eq_true_iff]; simp only [List.mem_cons, List.not_mem_nil, or_false] at hm ⊢; omega⟩
                  rw [decide_eq_true hm]
                  clear hm
                  go_wp2
                  go_ret
                  exact ⟨by rw [HP.out]; rfl, HB.out⟩
                · rw [decide_eq_false hm]
                  have H3 := Ho.mk hm
                  clear hm
                  have HP : Ho (hasL c k t = decide (t ∈ ([384, 17] : List Int))) := ⟨by
                    rw [HH2.out, HO.out]
                    have := H3.out
                    rw [Bool.eq_iff_iff, Bool.or_eq_true, decide_eq_true_iff, decide_eq_true_iff, decide_eq_true_iff]
                    simp only [List.mem_cons, List.not_mem_nil, or_false] at this ⊢
                    omega⟩
                  go_wp2_with fail
                  refine (among_lit [384, 17] t W3 (by decide)).mono ?_
                  rintro e w1 ⟨rfl, rfl⟩
                  have HB := Ho.mk (below_al HB.out (Nat.le_refl _) (.cells ((([384, 17] : List Int)).map (Value.int .i64)).toArray 3))
                  obtain ⟨y9, hy⟩ : ∃ y, decide (t ∈ ([384, 17] : List Int)) = y := ⟨_, rfl⟩
                  rw [hy] at HP ⊢
                  clear hy
                  go_wp2
                  go_ret
                  exact ⟨by rw [HP.out]; rfl, HB.out⟩

end Go.Proofs.YthjcldkaodmfoaaGreat
