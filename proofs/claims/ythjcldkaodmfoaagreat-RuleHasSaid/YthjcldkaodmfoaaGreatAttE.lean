/-
  What rules.Has returns. Conditions: those that each theorem types.
-/
import Derived.Test.YthjcldkaodmfoaaGreatAttD
import Derived.Test.YthjcldkaodmfoaaGreatRngR
namespace Go.Proofs.YthjcldkaodmfoaaGreat
open Go.RowKit Go.Shelf

attribute [local go_sem] Oper.semAt_some

/-- The rows of attributes that an object has. -/
def rowsH (c k : Int) : List (List Int) :=
  if togL c k then
    (if c = 0 then [[0, 1, 2, 3, 368, 369], [17]] else if c = 2 then [[0, 1, 2, 3, 368, 369], [256, 258, 355], ownRow c k] else [[0, 1, 2, 3, 368, 369], [256, 258, 355], ownRow c k, [259, 354, 357, 356]])
  else []
def rowR (c k : Int) (i : Nat) (x : Array Value) (X : World) : Prop := ∃ v, x = #[v] ∧ SlI X .i64 v ((rowsH c k).getD i [])
def capR (B1 B2 : Nat) (c k : Int) (X : World) : Prop := X.cell? ⟨B1, 0, none⟩ = some (.int .i64 c) ∧ X.cell? ⟨B2, 0, none⟩ = some (.int .i64 k)

theorem ownFrom_belowW {β : Type} {B : Nat} {I : β → World → Prop} (h : OwnFrom B I) {s : β} {W W' : World} (hI : I s W) (hb : Below W.heap.size W W') : I s W' :=
  h s W W' none hI ⟨hb.os, hb.tape, hb.output, hb.size, fun k hk _ => hb.block k hk⟩ (fun r e => by cases e)
theorem KeepUp.below {B : Nat} {W W' : World} (hb : Below W.heap.size W W') : KeepUp B W W' := ⟨hb.size, fun k o _ h => (hb.block k (Array.getElem?_eq_some_iff.1 h).1).trans h⟩

set_option maxRecDepth 100000 in
set_option maxHeartbeats 4000000 in
theorem has1_yields (B1 B2 : Nat) (c k : Int) :
    YieldsR Tryz.prog 220 #[.pointer (some ⟨B1, 0, none⟩), .pointer (some ⟨B2, 0, none⟩)] (rowsH c k).length (rowR c k) (capR B1 B2 c k) := by
  intro l J Jx W hJ hJx hJB hY h0
  obtain ⟨F, hF⟩ : ∃ F, Ho (Fence.wide = F) := ⟨_, ⟨rfl⟩⟩
  have hfn : F.fn 220 := hF.out ▸ trivial
  have hro : F.round = none := hF.out ▸ rfl
  have hdep : F.depth = none := hF.out ▸ rfl
  have HT : Ho (∀ n X, CallsIn F n Tryz.prog 216 #[.int .i64 c, .int .i64 k] X fun e w' => e = .returned (.bool (togL c k)) ∧ X = w') := ⟨fun n X => hF.out ▸ callsIn_wide.2 (rules_together c k X)⟩
  have HW : Ho (∀ n X, CallsIn F n Tryz.prog 221 #[.int .i64 c, .int .i64 k] X (RowPost (ownRow c k) X)) := ⟨fun n X => hF.out ▸ callsIn_wide.2 (rules_own c k X)⟩
  rw [hF.out] at hY ⊢
  have HJ := Ho.mk hJ
  have HJx := Ho.mk hJx
  have HJB := Ho.mk hJB
  have HY := Ho.mk hY
  clear hJ hJx hJB hY
  refine callsIn_of_wp Tryz.func220 rfl hfn ?_ hro
  simp only [Tryz.ntmps220, List.size_toArray, List.length_cons, List.length_nil, Nat.reduceAdd, Nat.reduceSub, Array.replicate_succ, Array.replicate_zero, List.push_toArray, List.append_toArray, List.nil_append, List.cons_append]
  have hFn : ∀ f, F.fn f := fun f => hF.out ▸ trivial
  have HFn := Ho.mk hFn
  have hst : ∀ (i : Nat) (X : World) (r : List Int), i < (rowsH c k).length → (rowsH c k).getD i [] = r → r.length ≤ 100 → J i X → YieldAt F 8 Tryz.prog l #[.slice (some ⟨X.heap.size, 0, none⟩) r.length r.length] (X.alloc (.cells (r.map (Value.int .i64)).toArray 3)) fun e X' => KeepUp W.heap.size (X.alloc (.cells (r.map (Value.int .i64)).toArray 3)) X' ∧ ((e = .returned (.bool true) ∧ J (i + 1) X') ∨ (e = .returned (.bool false) ∧ Jx (i + 1) X')) :=
    fun i X r hi hr hl hJX => yield_any (n := 8) hdep (HY.out i _ _ hi ⟨_, rfl, by rw [hr]; exact (OwI.lit X X.heap.size _ _ r (Nat.le_refl _) (by omega)).val.sl⟩ (HJ.out.alloc _ hJX))
  have HST := Ho.mk hst
  clear hst hFn
  obtain ⟨hb1, hb2⟩ := HJB.out 0 W h0
  by_cases ht : togL c k = true
  · have HR : Ho (rowsH c k = if c = 0 then [[0, 1, 2, 3, 368, 369], [17]] else if c = 2 then [[0, 1, 2, 3, 368, 369], [256, 258, 355], ownRow c k] else [[0, 1, 2, 3, 368, 369], [256, 258, 355], ownRow c k, [259, 354, 357, 356]]) := ⟨by unfold rowsH; rw [if_pos ht]⟩
    have hlen : 1 < (rowsH c k).length ∧ (rowsH c k).getD 0 [] = [0, 1, 2, 3, 368, 369] := by
      rw [HR.out]
      split
      · exact ⟨by simp, rfl⟩
      · split
        · exact ⟨by simp, rfl⟩
        · exact ⟨by simp, rfl⟩
    obtain ⟨fn0, tmps0, assign0, body0, hy0, hR0⟩ := HST.out 0 W [0, 1, 2, 3, 368, 369] (by omega) hlen.2 (by decide) h0
    have HLen := Ho.mk hlen
    simp only [List.length_cons, List.length_nil, List.map_cons, List.map_nil, Nat.zero_add, Nat.reduceAdd] at hy0 hR0
    clear hlen
    gi_wp2_with fail
    refine ⟨HFn.out _, (HT.out _ _).mono ?_⟩
    rintro e X ⟨rfl, rfl⟩
    gi_wp2
    refine hR0.mono ?_
    rintro e X1 ⟨hk1, ⟨rfl, hJ1⟩ | ⟨rfl, hJx1⟩⟩
    · obtain ⟨hc1, hc2⟩ := HJB.out _ _ hJ1
      have HK1 := Ho.mk hk1
      clear hk1 hy0 hR0 hb1 hb2 h0 ht
      by_cases h0 : c = 0
      · have hlen : (rowsH c k).length = 2 ∧ (rowsH c k).getD 1 [] = [17] := by rw [HR.out, if_pos h0]; exact ⟨rfl, rfl⟩
        obtain ⟨fn1, tmps1, assign1, body1, hy1, hR1⟩ := HST.out 1 X1 [17] (by omega) hlen.2 (by decide) hJ1
        simp only [List.length_cons, List.length_nil, List.map_cons, List.map_nil, Nat.zero_add, Nat.reduceAdd] at hy1 hR1
        have HLen2 := Ho.mk hlen.1
        have q : (c == 0) = true := beq_iff_eq.2 h0
        clear hlen h0
        gi_wp2
        refine hR1.mono ?_
        rintro e X2 ⟨hk2, ⟨rfl, hJ2⟩ | ⟨rfl, hJx2⟩⟩
        · clear hk2
          gi_wp2
          refine bodyPost_ret (results_none rfl _ _ _) rfl ?_
          rw [HLen2.out]
          exact ⟨⟨_, rfl⟩, .inl hJ2⟩
        · clear hk2
          gi_wp2
          refine bodyPost_ret (results_none rfl _ _ _) rfl ?_
          rw [HLen2.out]
          exact ⟨⟨_, rfl⟩, .inr ⟨1, by omega, hJx2⟩⟩
      · have hlen : 2 < (rowsH c k).length ∧ (rowsH c k).getD 1 [] = [256, 258, 355] ∧ (rowsH c k).getD 2 [] = ownRow c k := by
          rw [HR.out, if_neg h0]
          split
          · exact ⟨by simp, rfl, rfl⟩
          · exact ⟨by simp, rfl, rfl⟩
        obtain ⟨fn1, tmps1, assign1, body1, hy1, hR1⟩ := HST.out 1 X1 [256, 258, 355] (by omega) hlen.2.1 (by decide) hJ1
        simp only [List.length_cons, List.length_nil, List.map_cons, List.map_nil, Nat.zero_add, Nat.reduceAdd] at hy1 hR1
        have q : (c == 0) = false := beq_eq_false_iff_ne.2 h0
        have HLen := Ho.mk hlen
        have HC0 := Ho.mk h0
        clear hlen h0
        gi_wp2
        refine hR1.mono ?_
        rintro e X2 ⟨hk2, ⟨rfl, hJ2⟩ | ⟨rfl, hJx2⟩⟩
        · obtain ⟨hd1, hd2⟩ := HJB.out _ _ hJ2
          clear hk2 hc1 hc2 hy1 hR1 hJ1
          gi_wp2_with fail
          refine ⟨HFn.out _, (HW.out _ _).mono ?_⟩
          rintro e X3 ⟨v3, rfl, ho3, hb3⟩
          have hJ3 := ownFrom_belowW HJ.out hJ2 hb3
          obtain ⟨he1, he2⟩ := HJB.out _ _ hJ3
          obtain ⟨fn3, tmps3, assign3, body3, hy3, hR3⟩ := yield_any (n := 8) hdep (HY.out 2 #[v3] X3 HLen.out.1 ⟨_, rfl, by rw [HLen.out.2.2]; exact ho3.sl⟩ hJ3)
          clear hb3 ho3 hJ2 hd1 hd2
          gi_wp2
          refine hR3.mono ?_
          rintro e X4 ⟨hk4, ⟨rfl, hJ4⟩ | ⟨rfl, hJx4⟩⟩
          · obtain ⟨hf1, hf2⟩ := HJB.out _ _ hJ4
            clear hk4 hy3 hR3 hJ3 he1 he2
            by_cases h2 : c = 2
            · have q2 : (c == 2) = true := beq_iff_eq.2 h2
              have HLen2 : Ho ((rowsH c k).length = 3) := ⟨by rw [HR.out, if_neg HC0.out, if_pos h2]; rfl⟩
              clear h2
              gi_wp2
              refine bodyPost_ret (results_none rfl _ _ _) rfl ?_
              rw [HLen2.out]
              exact ⟨⟨_, rfl⟩, .inl hJ4⟩
            · have q2 : (c == 2) = false := beq_eq_false_iff_ne.2 h2
              have hlen2 : (rowsH c k).length = 4 ∧ (rowsH c k).getD 3 [] = [259, 354, 357, 356] := by rw [HR.out, if_neg HC0.out, if_neg h2]; exact ⟨rfl, rfl⟩
              obtain ⟨fn5, tmps5, assign5, body5, hy5, hR5⟩ := HST.out 3 X4 [259, 354, 357, 356] (by omega) hlen2.2 (by decide) hJ4
              simp only [List.length_cons, List.length_nil, List.map_cons, List.map_nil, Nat.zero_add, Nat.reduceAdd] at hy5 hR5
              have HLen2 := Ho.mk hlen2.1
              clear hlen2 h2
              gi_wp2
              refine hR5.mono ?_
              rintro e X6 ⟨hk6, ⟨rfl, hJ6⟩ | ⟨rfl, hJx6⟩⟩
              · clear hk6
                gi_wp2
                go_end0
                rw [HLen2.out]
                exact ⟨⟨_, rfl⟩, .inl hJ6⟩
              · clear hk6
                gi_wp2
                go_end0
                rw [HLen2.out]
                exact ⟨⟨_, rfl⟩, .inr ⟨3, by omega, hJx6⟩⟩
          · clear hk4 hy3 hR3 hJ3 he1 he2
            gi_wp2
            refine bodyPost_ret (results_none rfl _ _ _) rfl ?_
            exact ⟨⟨_, rfl⟩, .inr ⟨2, by have := HLen.out.1; omega, hJx4⟩⟩
        · clear hk2 hc1 hc2 hy1 hR1 hJ1
          gi_wp2
          refine ⟨HFn.out _, ?_⟩
          gi_wp2
          refine ⟨fun f h => (by cases h), ?_⟩
          gi_wp2
          refine bodyPost_ret (results_none rfl _ _ _) rfl ?_
          exact ⟨⟨_, rfl⟩, .inr ⟨1, by have := HLen.out.1; omega, hJx2⟩⟩
    · clear hk1 hy0 hR0 hb1 hb2 h0 ht
      gi_wp2
      refine bodyPost_ret (results_none rfl _ _ _) rfl ?_
      exact ⟨⟨_, rfl⟩, .inr ⟨0, by have := HLen.out.1; omega, hJx1⟩⟩
  · have ht2 : togL c k = false := by simpa using ht
    have HR : Ho (rowsH c k = []) := ⟨by unfold rowsH; rw [if_neg ht]⟩
    clear ht
    gi_wp2_with fail
    refine ⟨HFn.out _, (HT.out _ _).mono ?_⟩
    rintro e X ⟨rfl, rfl⟩
    gi_wp2
    refine ⟨fun f h => (by cases h), ?_⟩
    gi_wp2
    refine bodyPost_ret (results_none rfl _ _ _) rfl ?_
    rw [HR.out]
    exact ⟨⟨_, rfl⟩, .inl h0⟩

/-! ### slices.Contains, rules.Has -/
set_option maxRecDepth 100000 in
theorem slices_Index (xs : List Int) (t : Int) (v : Value) (w : World) (h : SlI w .i64 v xs) :
    Calls Tryz.prog 222 #[v, .int .i64 t] w fun e w' => ∃ r : Int, Ho ((t ∈ xs → 0 ≤ r) ∧ (t ∉ xs → r < 0)) ∧ e = .returned (.int .i64 r) ∧ w = w' := by
  obtain ⟨A, c, rfl, h1, h2, h3, hr⟩ := h
  have HR := Ho.mk hr
  clear hr h3
  go_enter Tryz.func222, Tryz.ntmps222
  go_wp2
  go_loop [8] (fun i => ∃ k : Nat, k ≤ xs.length ∧ i = .int .i64 k ∧ Ho (∀ j, j < k → gx xs j ≠ t)) (fun i => xs.length - (intOf i).toNat)
  case atStart => exact ⟨0, Nat.zero_le _, rfl, ⟨fun j hj => absurd hj (by omega)⟩⟩
  case round =>
    obtain ⟨k, hk, rfl, hg⟩ := hrel
    by_cases hlt : k < xs.length
    · obtain ⟨b, o, rfl, hcell⟩ := HR.out (by omega)
      have c1 := hcell k hlt
      clear hcell
      by_cases he : t = gx xs k
      · have q : (t == gx xs k) = true := beq_iff_eq.2 he
        have HP : Ho ((t ∈ xs → 0 ≤ (k : Int)) ∧ (t ∉ xs → (k : Int) < 0)) := ⟨fun _ => by omega, fun hn => absurd (by rw [he, gx_lt hlt]; exact List.getElem_mem hlt) hn⟩
        clear he
        go_wp2
        go_ret
        exact ⟨_, HP, rfl, rfl⟩
      · have q : (t == gx xs k) = false := beq_eq_false_iff_ne.2 he
        have HE := Ho.mk he
        clear he
        go_wp2
        go_round
        case rel => exact ⟨k + 1, by omega, by go_num, ⟨fun j hj => if e : j = k then by subst e; exact fun e => HE.out e.symm else hg.out j (by omega)⟩⟩
        case measure => simp [intOf]; omega
    · have HP : Ho ((t ∈ xs → 0 ≤ (-1 : Int)) ∧ (t ∉ xs → (-1 : Int) < 0)) := ⟨fun hm => by
        obtain ⟨j, hj, e⟩ := List.getElem_of_mem hm
        exact absurd (by rw [gx_lt hj]; exact e) (hg.out j (by omega)), fun _ => by omega⟩
      clear hg
      go_wp2
      go_ret
      exact ⟨_, HP, rfl, rfl⟩

set_option maxRecDepth 100000 in
theorem slices_Contains (xs : List Int) (t : Int) (v : Value) (w : World) (h : SlI w .i64 v xs) :
    Calls Tryz.prog 148 #[v, .int .i64 t] w fun e w' => e = .returned (.bool (decide (t ∈ xs))) ∧ w = w' := by
  have HS := Ho.mk h
  obtain ⟨A, c, rfl, h1, h2, h3, hr⟩ := h
  clear h3 hr
  go_enter Tryz.func148, Tryz.ntmps148
  go_wp2_with fail
  refine (slices_Index xs t _ w HS.out).mono ?_
  rintro e w1 ⟨r, hr, rfl, rfl⟩
  go_wp2
  go_ret
  refine ⟨ret_bool ?_, rfl⟩
  by_cases hm : t ∈ xs
  · rw [decide_eq_true hm, decide_eq_true (hr.out.1 hm)]
  · rw [decide_eq_false hm, decide_eq_false (by have := hr.out.2 hm; omega)]

def hasL (c k t : Int) : Bool := (rowsH c k).any fun r => decide (t ∈ r)

set_option maxRecDepth 100000 in
theorem rules_has (c k : Int) (w : World) :
    Calls Tryz.prog 147 #[.int .i64 c, .int .i64 k] w fun e w' => e = .returned (.func (.func 220) #[] #[.pointer (some ⟨w.heap.size, 0, none⟩), .pointer (some ⟨w.heap.size + 1, 0, none⟩)]) ∧ Below w.heap.size w w' ∧
      (w'.heap[w.heap.size]? = some (.cells #[.int .i64 c] 3 (0, 0)) ∧ w'.heap[w.heap.size + 1]? = some (.cells #[.int .i64 k] 3 (0, 0))) := by
  go_enter Tryz.func147, Tryz.ntmps147
  go_wp2
  go_ret
  refine ⟨rfl, ((Below.refl _ _).alloc (Nat.le_refl _) _).alloc (by simp) _, ?_, ?_⟩
  · exact (Below.heap_alloc _ _ _ (by simp)).trans (heap_alloc_new w _)
  · have := heap_alloc_new (w.alloc (.cells #[.int .i64 c] 3)) (.cells #[.int .i64 k] 3)
    rwa [World.size_alloc] at this

theorem has_results (tmps : Array Value) (b : Nat) (ht : tmps[6]?.getD undef = .pointer (some ⟨b, 0, none⟩)) (r : Bool) (Z : World) (c0 : Z.cell? ⟨b, 0, none⟩ = some (.bool r)) : (results Tryz.f56 tmps).run Tryz.prog Z = .ok (.bool r) Z := by
  simp [results, Tryz.results56, go_sem, ht, c0]
theorem capR_of {B1 B2 : Nat} {c k : Int} {X : World} (h1 : X.heap[B1]? = some (.cells #[.int .i64 c] 3 (0, 0))) (h2 : X.heap[B2]? = some (.cells #[.int .i64 k] 3 (0, 0))) : capR B1 B2 c k X :=
  ⟨cell_of_row _ _ _ _ _ _ h1, cell_of_row _ _ _ _ _ _ h2⟩

set_option maxRecDepth 100000 in
set_option maxHeartbeats 4000000 in
theorem rules_Has (c k t : Int) (w : World) : Calls Tryz.prog 56 #[.int .i64 c, .int .i64 k, .int .i64 t] w (BoolPost (hasL c k t) w) := by
  refine calls_of_marks Tryz.func56 rfl ?_
  simp only [Tryz.ntmps56, List.size_toArray, List.length_cons, List.length_nil, Nat.reduceAdd, Nat.reduceSub, Array.replicate_succ, Array.replicate_zero, List.push_toArray, List.append_toArray, List.nil_append, List.cons_append]
  go_wp2_with fail
  obtain ⟨W0, hW0⟩ : ∃ W0, (w.alloc (.cells #[.int .i64 t] 3)).alloc (.cells #[.bool false] 4) = W0 := ⟨_, rfl⟩
  have HB0 : Ho (Below w.heap.size w W0) := ⟨hW0 ▸ ((Below.refl _ _).alloc (Nat.le_refl _) _).alloc (by simp) _⟩
  have hz0 : W0.heap.size = w.heap.size + 2 := by rw [← hW0]; simp
  have HR0 : Ho (W0.heap[w.heap.size]? = some (.cells #[.int .i64 t] 3 (0, 0))) := ⟨hW0 ▸ (Below.heap_alloc _ _ _ (by simp)).trans (heap_alloc_new w _)⟩
  have HR1 : Ho (W0.heap[w.heap.size + 1]? = some (.cells #[.bool false] 4 (0, 0))) := ⟨by
    have := heap_alloc_new (w.alloc (.cells #[.int .i64 t] 3)) (.cells #[.bool false] 4)
    rw [World.size_alloc, hW0] at this
    exact this⟩
  rw [hW0]
  have HZ0 := Ho.mk hz0
  clear hW0 hz0
  refine (rules_has c k W0).mono ?_
  rintro e w1 ⟨rfl, hb1, hrows⟩
  have HRows := Ho.mk hrows
  clear hrows
  have HB1 := Ho.mk (below_base HB0.out HB0.out.size hb1)
  have HR2 := Ho.mk ((hb1.block _ (Array.getElem?_eq_some_iff.1 HR0.out).1).trans HR0.out)
  have HR3 := Ho.mk ((hb1.block _ (Array.getElem?_eq_some_iff.1 HR1.out).1).trans HR1.out)
  have hz1 : w.heap.size + 2 ≤ w1.heap.size := by have := hb1.size; have := HZ0.out; omega
  clear hb1 HR0 HR1
  go_wp2_with fail
  refine wp_rangeR (gf := 220) (lb := #[.pointer (some ⟨W0.heap.size, 0, none⟩), .pointer (some ⟨W0.heap.size + 1, 0, none⟩)]) rfl (enters_of Tryz.func220 (by kernel_rfl) rfl) (has1_yields _ _ c k)
    (fun i x X hx => by obtain ⟨v, rfl, _⟩ := hx; rfl)
    (fun i X => Below w1.heap.size w1 X ∧ ∀ j, j < i → t ∉ (rowsH c k).getD j [])
    (fun cd i X => cd = .ret ∧ (Below w.heap.size w X ∧ (X.heap[w.heap.size + 1]? = some (.cells #[.bool true] 4 (0, 0)) ∧ hasL c k t = true)))
    ((ownFrom_below (Nat.le_refl _) (Nat.le_refl _)).and (ownFrom_pure _ _))
    (fun c => (ownFrom_pure _ _).and ((ownFrom_below (Nat.le_refl _) (by omega)).and (((rowOwn _ _ rfl).from _).and (ownFrom_pure _ _))))
    (fun k X h => capR_of (rowKept h.1 HRows.out.1) (rowKept h.1 HRows.out.2)) ⟨Below.refl _ _, fun j hj => absurd hj (by omega)⟩ ?round ?done ?stop
  case round =>
    rintro F l i x X hF hro hdep hi ⟨v, rfl, hv⟩ hl hr ⟨hB, hne⟩
    obtain ⟨rw, hrw⟩ : ∃ rw, (rowsH c k).getD i [] = rw := ⟨_, rfl⟩
    rw [hrw] at hv
    have HRW := Ho.mk hrw
    have HX := Ho.mk hB
    have HN := Ho.mk hne
    have HV := Ho.mk hv
    have HI := Ho.mk hi
    obtain ⟨A, cc, rfl, q1, q2, q3, q4⟩ := hv
    have hsX : w.heap.size + 2 ≤ X.heap.size := Nat.le_trans hz1 hB.size
    have HC : Ho (∀ n Y, SlI Y .i64 (.slice A rw.length cc) rw → CallsIn F n Tryz.prog 148 #[.slice A rw.length cc, .int .i64 t] Y fun e w' => e = .returned (.bool (decide (t ∈ rw))) ∧ Y = w') := ⟨fun n Y hY => hF.out ▸ CallsIn.inRound l (callsIn_wide.2 (slices_Contains rw t _ Y hY))⟩
    have HFn : Ho (∀ f, F.fn f) := ⟨fun f => hF.out ▸ trivial⟩
    clear hB hne q3 q4 hrw hi
    gi_wp2
    refine ⟨.inl rfl, ?_⟩
    rintro Y ⟨hBY, _⟩ hc hfz hrY hsz
    have HBY := Ho.mk hBY
    have kc := cell_of_row _ w.heap.size 0 _ _ _ (rowKept hBY HR2.out)
    have rc := cell_of_row _ (w.heap.size + 1) 0 _ _ _ (rowKept hBY HR3.out)
    have rf := frozen_of_row _ (w.heap.size + 1) 0 _ _ (rowKept hBY HR3.out)
    have HVY : Ho (SlI Y .i64 (.slice A rw.length cc) rw) := ⟨by
      obtain ⟨A', c', e, p1, p2, p3, p4⟩ := HV.out
      refine ⟨A', c', e, p1, p2, p3, fun hp => ?_⟩
      obtain ⟨b, o, eA, hcell⟩ := p4 hp
      exact ⟨b, o, eA, fun j hj => hc _ _ (hcell j hj)⟩⟩
    have HRY := Ho.mk (rowKept hBY HR3.out)
    clear hc hfz hrY hsz hBY
    by_cases hm : t ∈ rw
    · have hd : decide (t ∈ rw) = true := decide_eq_true hm
      have HH : Ho (hasL c k t = true) := ⟨by
        unfold hasL
        rw [List.any_eq_true]
        refine ⟨rw, ?_, hd⟩
        have := HRW.out
        rw [List.getD_eq_getElem?_getD, List.getElem?_eq_getElem HI.out, Option.getD_some] at this
        rw [← this]; exact List.getElem_mem _⟩
      rw [hd] at HC
      clear hm hd
      gi_wp2_with fail
      refine ⟨HFn.out _, (HC.out _ _ HVY.out).mono ?_⟩
      rintro e X1 ⟨rfl, rfl⟩
      gi_wp2
      exact ⟨KeepUp.setCell _ ⟨w.heap.size + 1, 0, none⟩ _ (by show w.heap.size + 1 < _; omega), rfl, (below_base HB1.out HB1.out.size HBY.out).setCell (p := ⟨w.heap.size + 1, 0, none⟩) (by simp) _, heap_setCell_same _ _ 0 _ _ _ HRY.out, HH.out⟩
    · have hd : decide (t ∈ rw) = false := decide_eq_false hm
      have HM := Ho.mk hm
      rw [hd] at HC
      clear hm hd
      gi_wp2_with fail
      refine ⟨HFn.out _, (HC.out _ _ HVY.out).mono ?_⟩
      rintro e X1 ⟨rfl, rfl⟩
      gi_wp2
      refine ⟨KeepUp.refl _ _, HBY.out, fun j hj => ?_⟩
      rcases Nat.lt_or_ge j i with h | h
      · exact HN.out j h
      · obtain rfl : j = i := by omega
        rw [HRW.out]
        exact HM.out
  case done =>
    rintro D X hD ⟨hB, hne⟩ hK
    have HK := Ho.mk hK
    have HF : Ho (hasL c k t = false) := ⟨by
      unfold hasL
      rw [List.any_eq_false]
      intro r hr
      obtain ⟨j, hj, e⟩ := List.getElem_of_mem hr
      have := hne j hj
      rw [List.getD_eq_getElem?_getD, List.getElem?_eq_getElem hj, Option.getD_some, e] at this
      simpa using this⟩
    have HX := Ho.mk hB
    have HRX := Ho.mk (rowKept hB HR3.out)
    have rc := cell_of_row _ (w.heap.size + 1) 0 _ _ _ (rowKept hB HR3.out)
    have rf := frozen_of_row _ (w.heap.size + 1) 0 _ _ (rowKept hB HR3.out)
    clear hK hne hB
    go_wp2
    have hK2 := (KeepUp.setCell (B := w1.heap.size) X ⟨w.heap.size + 1, 0, none⟩ (.bool false) (by show w.heap.size + 1 < _; omega)).same D _ hD HK.out
    refine ⟨by simp, .inl ⟨_, _, rfl, run_takeDeferred hK2, ?_⟩⟩
    have hR := (World.putObj_heap_other (o := .deferred none) (show w.heap.size + 1 ≠ D by omega)).trans (heap_setCell_same X (w.heap.size + 1) 0 _ _ (.bool false) HRX.out)
    have hBf : Below w.heap.size w ((X.setCell ⟨w.heap.size + 1, 0, none⟩ (.bool false)).putObj D (.deferred none)) := by
      have h1 := (below_base HB1.out HB1.out.size HX.out).setCell (p := ⟨w.heap.size + 1, 0, none⟩) (by simp) (.bool false)
      exact h1.trans (belowK_b (w := w) (Nat.le_refl _) _ D _ _ (by have := HB1.out.size; omega) hK2 rfl rfl)
    exact ⟨.bool false, has_results _ _ rfl _ _ (cell_of_row _ _ 0 _ _ _ hR), by rw [HF.out], hBf⟩
  case stop =>
    rintro D c' i X hD hi ⟨rfl, hB, hR, hh⟩ hK
    have HH := Ho.mk hh
    clear hh
    go_wp2
    refine ⟨by simp, .inl ⟨_, _, rfl, run_takeDeferred hK, ?_⟩⟩
    have hR2 := (World.putObj_heap_other (o := .deferred none) (show w.heap.size + 1 ≠ D by omega)).trans hR
    exact ⟨.bool true, has_results _ _ rfl _ _ (cell_of_row _ _ 0 _ _ _ hR2), by rw [HH.out], hB.trans (belowK_b (w := w) (Nat.le_refl _) _ D _ _ (by have := HB1.out.size; omega) hK rfl rfl)⟩

end Go.Proofs.YthjcldkaodmfoaaGreat
