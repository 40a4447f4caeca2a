/-
  What attrs.Types yields; what rules.joined returns. Conditions: those that each theorem types.
-/
import Derived.Test.YthjcldkaodmfoaaGreatAttI
import Derived.Test.YthjcldkaodmfoaaGreatAttK
import Derived.Test.YthjcldkaodmfoaaGreatRngQ
namespace Go.Proofs.YthjcldkaodmfoaaGreat
open Go.RowKit Go.Shelf

attribute [local go_sem] Oper.semAt_some

/-- The types that have a form, below a bound. -/
def tyUpto (k : Nat) : List Int := ((List.range k).map fun i : Nat => (i : Int)).filter fun t => decide (formL t ≠ 0)
theorem tyUpto_succ (k : Nat) : tyUpto (k + 1) = tyUpto k ++ (if formL (k : Int) ≠ 0 then [(k : Int)] else []) := by
  unfold tyUpto
  rw [List.range_succ, List.map_append, List.filter_append]
  congr 1
  simp only [List.map_cons, List.map_nil, List.filter_cons, List.filter_nil]
  split <;> simp_all
theorem tyUpto_prefix (k d : Nat) : ∃ r, tyUpto (k + d) = tyUpto k ++ r := by
  induction d with
  | zero => exact ⟨[], by simp⟩
  | succ d ih =>
    obtain ⟨r, hr⟩ := ih
    exact ⟨r ++ _, by rw [← Nat.add_assoc, tyUpto_succ, hr, List.append_assoc]⟩
theorem tyUpto_at {k m : Nat} (hk : k < m) (hf : formL (k : Int) ≠ 0) : (tyUpto m)[(tyUpto k).length]? = some (k : Int) := by
  obtain ⟨r, hr⟩ := tyUpto_prefix (k + 1) (m - (k + 1))
  rw [show k + 1 + (m - (k + 1)) = m by omega, tyUpto_succ, if_pos hf] at hr
  rw [hr, List.append_assoc, List.getElem?_append_right (Nat.le_refl _)]
  simp
theorem tyUpto_lt {k m : Nat} (hk : k < m) (hf : formL (k : Int) ≠ 0) : (tyUpto k).length < (tyUpto m).length := by
  have := tyUpto_at hk hf
  exact (List.getElem?_eq_some_iff.1 this).1
def tys : List Int := tyUpto 386

set_option maxRecDepth 100000 in
set_option maxHeartbeats 2000000 in
theorem types1_yields : YieldsQ Tryz.prog 225 #[] (tys.map fun t => #[.int .i64 t]) := by
  intro l J Jx W hJ hJx hY h0
  obtain ⟨F, hF⟩ : ∃ F, Ho (Fence.wide = F) := ⟨_, ⟨rfl⟩⟩
  have hfn : F.fn 225 := hF.out ▸ trivial
  have hro : F.round = none := hF.out ▸ rfl
  have hdep : F.depth = none := hF.out ▸ rfl
  have HFm : Ho (∀ (t : Int) n X, CallsIn F n Tryz.prog 226 #[.int .i64 t] X fun e w' => e = .returned (.int .i64 (formL t)) ∧ X = w') := ⟨fun t n X => hF.out ▸ callsIn_wide.2 (attrs_Form t X)⟩
  have HFn : Ho (∀ f, F.fn f) := ⟨fun f => hF.out ▸ trivial⟩
  rw [hF.out] at hY ⊢
  have hlm : (tys.map fun t => #[Value.int IntKind.i64 t]).length = tys.length := List.length_map _
  rw [hlm]
  have HY := Ho.mk hY
  clear hJ hJx hY hlm
  refine callsIn_of_wp Tryz.func225 rfl hfn ?_ hro
  simp only [Tryz.ntmps225, List.size_toArray, List.length_cons, List.length_nil, Nat.reduceAdd, Nat.reduceSub, Array.replicate_succ, Array.replicate_zero, List.push_toArray, List.append_toArray, List.nil_append, List.cons_append]
  gi_wp2
  gi_loopw [3] (fun i wr => ∃ k : Nat, k ≤ 386 ∧ i = .int .i64 k ∧ J (tyUpto k).length wr)
    (fun i _ => 386 - (intOf i).toNat)
  case atStart => exact ⟨0, Nat.zero_le _, rfl, h0⟩
  case round =>
    obtain ⟨k, hk, rfl, hJs⟩ := hrel
    by_cases hlt : k < 386
    · by_cases hf : formL (k : Int) = 0
      · have q : (formL (k : Int) != 0) = false := by simp [hf]
        have HE : Ho (tyUpto (k + 1) = tyUpto k) := ⟨by rw [tyUpto_succ, if_neg (by simpa using hf), List.append_nil]⟩
        clear hf
        gi_wp2_with fail
        refine ⟨HFn.out _, (HFm.out _ _ _).mono ?_⟩
        rintro e X ⟨rfl, rfl⟩
        gi_wp2
        refine ⟨fun f h => (by cases h), ?_⟩
        gi_wp2
        go_roundw
        case rel => exact ⟨k + 1, by omega, by simp, by rw [HE.out]; exact hJs⟩
        case measure => simp [intOf]; omega
      · have q : (formL (k : Int) != 0) = true := by simpa using hf
        have HE : Ho (tyUpto (k + 1) = tyUpto k ++ [(k : Int)]) := ⟨by rw [tyUpto_succ, if_pos hf]⟩
        have HL : Ho ((tyUpto k).length < tys.length) := ⟨tyUpto_lt hlt hf⟩
        have hat : (tys.map fun t => #[Value.int IntKind.i64 t])[(tyUpto k).length]? = some #[.int .i64 (k : Int)] := by
          rw [List.getElem?_map, show tys[(tyUpto k).length]? = some (k : Int) from tyUpto_at hlt hf]; rfl
        obtain ⟨fn, tmps, assign, body, hy, hR⟩ := yield_any (n := 8) hdep (HY.out _ _ _ hat hJs)
        clear hf hat
        gi_wp2_with fail
        refine ⟨HFn.out _, (HFm.out _ _ _).mono ?_⟩
        rintro e X ⟨rfl, rfl⟩
        gi_wp2
        refine hR.mono ?_
        rintro e W3 (⟨rfl, hJ3⟩ | ⟨rfl, hJx3⟩)
        · gi_wp2
          go_roundw
          case rel => exact ⟨k + 1, by omega, by simp, by rw [HE.out, List.length_append]; exact hJ3⟩
          case measure => simp [intOf]; omega
        · gi_wp2
          refine bodyPost_ret (results_none rfl _ _ _) rfl ?_
          exact ⟨⟨_, rfl⟩, .inr ⟨_, HL.out, hJx3⟩⟩
    · have e : k = 386 := by omega
      have HJs : Ho (J tys.length wr) := ⟨by rw [show tys = tyUpto k by rw [e]; rfl]; exact hJs⟩
      clear hJs
      gi_wp2
      go_end0
      exact ⟨⟨_, rfl⟩, .inl HJs.out⟩

/-! ### rules.joined of a template without two attributes of one type -/
theorem getL_none {l : List At} {t : Int} : getL l t = none ↔ ∀ x ∈ l, x.1 ≠ t := by
  induction l with
  | nil => simp [getL]
  | cons a l ih =>
    simp only [getL, List.mem_cons, forall_eq_or_imp]
    split
    · rename_i e
      simp [e]
    · rename_i e
      rw [ih]
      exact ⟨fun h => ⟨e, h⟩, fun h => h.2⟩
theorem cameL_false {l : List At} {t : Int} : cameL l t = false ↔ ∀ x ∈ l, x.1 ≠ t := by
  rw [← getL_none]
  unfold cameL
  cases getL l t <;> simp
theorem mem_putL {l : List At} {a x : At} (h : x ∈ putL l a) : x ∈ l ∨ x = a := by
  unfold putL at h
  rcases List.mem_append.1 h with h | h
  · exact .inl (List.mem_filter.1 ((List.takeWhile_sublist _).subset h)).1
  · rcases List.mem_cons.1 h with rfl | h
    · exact .inr rfl
    · exact .inl (List.mem_filter.1 ((List.dropWhile_sublist _).subset h)).1
def joinL (l : List At) : List At := l.foldl putL []
theorem joinL_snoc (l : List At) (a : At) : joinL (l ++ [a]) = putL (joinL l) a := by simp [joinL, List.foldl_append]
theorem mem_foldl {l : List At} : ∀ {acc : List At} {x : At}, x ∈ l.foldl putL acc → x ∈ acc ∨ x ∈ l := by
  induction l with
  | nil => intro acc x h; exact .inl h
  | cons a l ih =>
    intro acc x h
    rcases ih h with h | h
    · rcases mem_putL h with h | rfl
      · exact .inl h
      · exact .inr List.mem_cons_self
    · exact .inr (List.mem_cons_of_mem _ h)
theorem mem_joinL {l : List At} {x : At} (h : x ∈ joinL l) : x ∈ l := (mem_foldl h).resolve_left (by simp)
theorem joinL_ok {l : List At} (h : AtsOk l) : AtsOk (joinL l) := fun x hx => h x (mem_joinL hx)
theorem putL_len (l : List At) (a : At) : (putL l a).length ≤ l.length + 1 := by
  have e := congrArg List.length (List.takeWhile_append_dropWhile (p := leT a.1) (l := l.filter (neT a.1)))
  have h := List.length_filter_le (neT a.1) l
  unfold putL
  rw [List.length_append] at e
  rw [List.length_append, List.length_cons]
  omega
theorem joinL_len (l : List At) : ∀ k, (joinL (l.take k)).length ≤ k := by
  intro k
  induction k with
  | zero => simp [joinL]
  | succ k ih =>
    rcases Nat.lt_or_ge k l.length with h | h
    · rw [List.take_succ_eq_append_getElem h, joinL_snoc]
      have := putL_len (joinL (l.take k)) l[k]
      omega
    · rw [List.take_of_length_le (by omega)]
      rw [List.take_of_length_le h] at ih
      omega


def JoinPost (l : List At) (w : World) (e : Ending) (w' : World) : Prop := ∃ v1, e = .returned (.tuple #[v1, .bool true]) ∧ OwA w' w.heap.size v1 (joinL l) ∧ Below w.heap.size w w'
def noDup (l : List At) : Prop := ∀ i, (h : i < l.length) → cameL (l.take i) (l[i]'h).1 = false

set_option maxRecDepth 100000 in
set_option maxHeartbeats 4000000 in
theorem rules_joined (l : List At) (v : Value) (w : World) (h : SlA w v l) (hok : AtsOk l) (hl : l.length ≤ 1000) (hnd : noDup l) :
    Calls Tryz.prog 156 #[v, .slice none 0 0] w (JoinPost l w) := by
  have H := Ho.mk h
  have HOK := Ho.mk hok
  have HND := Ho.mk hnd
  obtain ⟨A, cc, rfl, h1, h2, h3, hr⟩ := h
  have HR := Ho.mk hr
  clear h3 hr hok hnd
  go_enter Tryz.func156, Tryz.ntmps156
  go_wp2
  obtain ⟨W0, hW0⟩ : ∃ W0, w.alloc (.cells #[.slice A l.length cc, .slice none 0 0] 32) = W0 := ⟨_, rfl⟩
  have HB0 : Ho (Below w.heap.size w W0) := ⟨hW0 ▸ (Below.refl _ _).alloc (Nat.le_refl _) _⟩
  have HR0 : Ho (W0.heap[w.heap.size]? = some (.cells #[.slice A l.length cc, .slice none 0 0] 32 (0, 0))) := ⟨hW0 ▸ heap_alloc_new w _⟩
  rw [hW0]
  clear hW0
  go_loopg [6, 17] 2 (fun g ov s wx => ∃ r : Nat, r + g = 2 ∧ s = .int .i64 r ∧ Ho (OwA wx W0.heap.size ov (if r = 0 then [] else joinL l)) ∧ Ho (Below W0.heap.size W0 wx))
  case atStart => exact ⟨0, rfl, rfl, ⟨OwA.nil _ _⟩, ⟨Below.refl _ _⟩⟩
  case round =>
    obtain ⟨r, hrg, rfl, ho, hB⟩ := hrel
    have HBw := Ho.mk (below_base HB0.out HB0.out.size hB.out)
    have HX0 := Ho.mk ((hB.out.block _ (Array.getElem?_eq_some_iff.1 HR0.out).1).trans HR0.out)
    obtain ⟨k0, k1, _, _⟩ := cell2 HX0.out
    rcases (show r = 0 ∨ r = 1 ∨ r = 2 by omega) with rfl | rfl | rfl
    · have HO := Ho.mk (show OwA wr W0.heap.size _ (joinL (l.take 0)) from ho.out)
      clear ho
      go_wp2
      go_loopg [6, 23] l.length (fun g2 ov s wy => ∃ i : Nat, i + g2 = l.length ∧ s = .int .i64 i ∧ Ho (OwA wy W0.heap.size ov (joinL (l.take i))) ∧ Ho (Below W0.heap.size W0 wy))
      case atStart => exact ⟨0, by omega, rfl, HO, hB⟩
      case round =>
        clear hB HBw HX0 k0 k1 HO
        obtain ⟨i, hig, rfl, ho, hB⟩ := hrel
        have HBw := Ho.mk (below_base HB0.out HB0.out.size hB.out)
        by_cases hil : i < l.length
        · obtain ⟨bb, o, rfl, hcell⟩ := HR.out (by omega)
          obtain ⟨xv, c1, c2, hs⟩ := hcell i hil
          have hc1 := cell_below HBw.out c1
          have hc2 := cell_below HBw.out c2
          have HX := Ho.mk (hs.below HBw.out)
          obtain ⟨A1, e1, rfl, _⟩ := hs
          obtain ⟨x, HXE⟩ : ∃ x, Ho (l[i]'hil = x) := ⟨_, ⟨rfl⟩⟩
          have HXL := Ho.mk (HOK.out _ (List.getElem_mem hil)).2
          have hnd := HND.out i hil
          have hsnoc : joinL (l.take (i + 1)) = putL (joinL (l.take i)) (l[i]'hil) := by rw [List.take_succ_eq_append_getElem hil, joinL_snoc]
          rw [HXE.out] at hc1 hc2 HX HXL hnd hsnoc
          have HG : Ho (getL (joinL (l.take i)) x.1 = none) := ⟨getL_none.2 fun y hy => cameL_false.1 hnd y (mem_joinL hy)⟩
          have HSn := Ho.mk hsnoc
          obtain ⟨f, HFE⟩ : ∃ f, Ho (joinL (l.take i) = f) := ⟨_, ⟨rfl⟩⟩
          have hfl : f.length ≤ 1000 := by rw [← HFE.out]; have := joinL_len l i; omega
          have HFO : Ho (AtsOk f) := ⟨by rw [← HFE.out]; exact joinL_ok (HOK.out.take i)⟩
          rw [HFE.out] at ho HG HSn
          clear hcell c1 c2 hnd hsnoc
          have HOa := Ho.mk (ho.out.alloc (.cells #[.int .i64 x.1, .slice A1 x.2.length e1] 91))
          have HBa := Ho.mk (hB.out.alloc hB.out.size (.cells #[.int .i64 x.1, .slice A1 x.2.length e1] 91))
          have hbx := cell2 (heap_alloc_new wr (.cells #[.int .i64 x.1, .slice A1 x.2.length e1] 91))
          have HXa := Ho.mk (HX.out.below ((Below.refl _ _).alloc (Nat.le_refl _) (.cells #[.int .i64 x.1, .slice A1 x.2.length e1] 91)))
          go_wp2_with fail
          refine (attrs_Get f x.1 _ _ HOa.out.sl HFO.out).mono ?_
          rintro e w1 ⟨hb1, ⟨_, rfl⟩ | ⟨b, v1, hg, _⟩⟩
          · have d0 := cell_below hb1 hbx.1
            have d1 := cell_below hb1 hbx.2.1
            have HO1 := Ho.mk (HOa.out.below hb1)
            have HX1 := Ho.mk (HXa.out.below hb1)
            have HB1 := Ho.mk (below_base HBa.out HBa.out.size hb1)
            have hz1 : wr.heap.size < w1.heap.size := World.block_lt_of_cell? w1 _ d0
            clear hb1 hbx
            go_wp2_with fail
            refine (attrs_Put f x.1 x.2 _ _ _ HO1.out.sl HFO.out HX1.out HXL.out hfl).mono ?_
            rintro e w2 ⟨v2, rfl, ho2, hb2⟩
            have HO2 := Ho.mk (ho2.weaken HB1.out.size)
            have HB2 := Ho.mk (below_base HB1.out HB1.out.size hb2)
            clear ho2 hb2
            go_wp2
            go_roundg (l.length - (i + 1))
            case measure => omega
            case rel => exact ⟨i + 1, by omega, by go_num, ⟨by rw [HSn.out]; exact HO2.out⟩, HB2⟩
          · rw [HG.out] at hg; cases hg
        · have e : i = l.length := by omega
          have HO : Ho (OwA wr W0.heap.size _ (joinL l)) := ⟨by have := ho.out; rwa [e, List.take_length] at this⟩
          clear e ho
          go_wp2
          go_roundg 1
          case measure => omega
          case rel => exact ⟨1, rfl, rfl, HO, hB⟩
    · go_wp2
      go_loopg [6, 23] 0 (fun g2 ov s wy => g2 = 0 ∧ s = .int .i64 0 ∧ Ho (OwA wy W0.heap.size ov (joinL l)) ∧ Ho (Below W0.heap.size W0 wy))
      case atStart => exact ⟨rfl, rfl, ho, hB⟩
      case round =>
        clear hB HBw HX0 k0 k1 ho
        obtain ⟨hg, rfl, ho, hB⟩ := hrel
        go_wp2
        go_roundg 0
        case measure => omega
        case rel => exact ⟨2, rfl, rfl, ho, hB⟩
    · have HP : Ho (JoinPost l w (.returned (.tuple #[_, .bool true])) wr) := ⟨⟨_, rfl, (show OwA wr W0.heap.size _ (joinL l) from ho.out).weaken HB0.out.size, HBw.out⟩⟩
      clear ho
      go_wp2
      go_ret2
      exact HP.out

end Go.Proofs.YthjcldkaodmfoaaGreat
