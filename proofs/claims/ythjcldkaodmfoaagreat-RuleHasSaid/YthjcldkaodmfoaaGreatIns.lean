/-
  slices.Insert of one attribute into a row of the call's own. Conditions: those that each theorem types.
-/
import Derived.Test.YthjcldkaodmfoaaGreatAttF
import Derived.Laws.CopyRow
import Derived.Laws.CopyOwn
import Derived.Laws.IdiomCopy
import Derived.Lib.AppendZerosOnto
import Derived.Lib.Overlaps
import Derived.Laws.Externs
import Derived.Deep.RegionLaw
import Derived.Lib.SliceRun
namespace Go.Proofs.YthjcldkaodmfoaaGreat
open Go.RowKit

/-- 'copy' of elements of two cells into a row. -/
theorem run_copy_row2 {P : Program} (w : World) (dT sT ty elem : TypeId) (g o dLen dCap : Nat) (a : Addr) (sLen sCap : Nat) (cur : Array Value) (t : TypeId) (cs : List Value) (m : Nat)
    (hu : P.underlying dT = some (.slice elem)) (hs : (P.info? elem).map (·.size) = some 2)
    (hg : w.heap[g]? = some (.cells cur t (0, 0))) (hm : m = Nat.min sLen dLen) (hn : cs.length = m * 2)
    (hsrc : ∀ j v, cs[j]? = some v → w.cell? (a.add j) = some v) (hfit : o + cs.length ≤ cur.size) (h1 : ∀ v ∈ cs, v.oneCell' = true) :
    (Builtin.copy_ #[dT, sT] ty #[.slice (some ⟨g, o, none⟩) dLen dCap, .slice (some a) sLen sCap]).run P w =
      .ok (goInt m) (w.setRow g (cur.toList.take o ++ cs ++ cur.toList.drop (o + cs.length)).toArray) := by
  have hl := run_loadCells_list (P := P) w a cs hsrc
  have hst := run_storeCells_at P g o t cs 0 cur w hg (by simpa using hfit) h1
  cases hq : P.info? elem with
  | none => simp [hq] at hs
  | some i =>
    have hi : i.size = 2 := by simpa [hq] using hs
    rw [hn] at hl
    simp [Builtin.copy_, run_underlying hu, Builtin.lenOf, Builtin.firstCells, sizeOf, typeInfo, hq, hi, ← hm, hl, hst]

theorem wpList_copy_at {P : Program} (w : World) {ops : Array Oper} {rest : List Oper} {o : Oper} {a : Act} {Q : Exit → Act → World → Prop} (hgd : o.guard = none) (d s : Operand) (t t' : TypeId)
    (ho : o.op = .call { callee := .builtin .copy, args := #[d, s], argTypes := #[t, t'] }) (v u : Value) (hd : a.eval d = v) (hs : a.eval s = u) {v' : Value} {w' : World}
    (hr : (Builtin.copy_ #[t, t'] o.type #[v, u]).run P w = .ok v' w') (h : wpList P ops Q rest (a.put o.dst v') w') : wpList P ops Q (o :: rest) a w :=
  wpList_plain hgd fun _ hK => by
    unfold Oper.wp execOp
    simp only [ho, resolve, invoke, builtin, Sem.run_bind, Sem.run_pure, Result.andThen_ok, List.map_toArray, List.map_cons, List.map_nil, hd, hs, hr]
    exact hK _ _ h
theorem step_copy_at {P : Program} {ops : Array Oper} {o : Oper} {a : Act} {w : World} {K : Act → World → Prop} {Q : Exit → Act → World → Prop} {E : Prop}
    (hg : o.guard = none) (d x : Operand) (dT sT : TypeId) (hop : o.op = Op.call { callee := Callee.builtin Builtin.copy, args := #[d, x], argTypes := #[dT, sT] })
    (v u : Value) (hd : a.eval d = v) (hx : a.eval x = u) {v' : Value} {w' : World} (hr : (Builtin.copy_ #[dT, sT] o.type #[v, u]).run P w = .ok v' w') (hK : K (a.put o.dst v') w') :
    if Region.wanted o (yielded ops a.tmps) = true then Oper.wp P o a w K Q else E := by
  have hw : Region.wanted o (yielded ops a.tmps) = true := by simp [Region.wanted, hg]
  rw [if_pos hw]
  unfold Oper.wp
  simp [execOp, hop, resolve, invoke, builtin, hd, hx, hr, Result.andThen]
  exact hK

def InsPost (l : List At) (i : Nat) (x : At) (base : Nat) (s : Value) (w : World) (e : Ending) (w' : World) : Prop :=
  ∃ v1, e = .returned v1 ∧ OwA w' base v1 (l.take i ++ x :: l.drop i) ∧ w.grownBy w' s.ownBlock

set_option maxRecDepth 100000 in
set_option maxHeartbeats 2000000 in
theorem insert_end (l : List At) (base : Nat) (s bv : Value) (t : Int) (b : List Int) (vb : Nat) (w : World) (HO : OwA w base s l) (HS : SlI w .u8 bv b) (Hap : Apart b bv s) (hv : w.heap[vb]? = some (.cells #[.int .i64 t, bv] 91 (0, 0))) (hbase : base ≤ w.heap.size) (hl : l.length ≤ 10000) :
    Calls Tryz.prog 290 #[s, .int .i64 l.length, .slice (some ⟨vb, 0, none⟩) 1 1] w (InsPost l l.length (t, b) base s w) := by
  obtain ⟨q, hq, hown, hsq⟩ := HO
  obtain ⟨i0, hi, hzz⟩ := Option.map_eq_some_iff.1 info_at
  simp only [Prod.mk.injEq] at hzz
  obtain ⟨hz0, hz1, hz2⟩ := hzz
  have hnews := World.news_of_block (w := w) (cs := #[.int .i64 t, bv]) (t := 91) (fr := (0, 0)) hv
  have h1c : ∀ u ∈ [Value.int IntKind.i64 t, bv], u.oneCell' = true := fun u hu => by
    rcases List.mem_cons.1 hu with rfl | hu
    · rfl
    · obtain rfl := List.mem_singleton.1 hu
      exact HS.oneCell
  have hfin : ∀ v1 w1, w1.ownsRow base 91 2 v1 (l.length + 1) (flatA q ++ [.int .i64 t, bv]) → w.grownBy w1 s.ownBlock → (v1.ownBlock = s.ownBlock ∨ v1.ownBlock = some w.heap.size) → InsPost l l.length (t, b) base s w (.returned v1) w1 := fun v1 w1 hown1 hg hat => by
    refine ⟨v1, rfl, ?_, hg⟩
    rw [List.take_length, List.drop_length]
    have key : ∀ (x : Value) (y : List Int), SlI w .u8 x y → Apart y x s → SlI w1 .u8 x y ∧ Apart y x v1 := fun x y hx hap => by
      refine ⟨hx.keepOther hg hap, ?_⟩
      rcases hat with e | e
      · rw [Apart, e]; exact hap
      · by_cases hn : y = []
        · exact .inl hn
        · obtain ⟨g, eg, hg⟩ := hx.blk hn
          refine .inr ?_
          rw [e, eg]
          intro e2
          simp only [Option.some.injEq] at e2
          omega
    refine ⟨q ++ [((t, b), bv)], by simp [hq], ?_, fun p hp => ?_⟩
    · rw [flatA_append, show flatA [((t, b), bv)] = [.int .i64 t, bv] from rfl]
      simpa using hown1
    · rcases List.mem_append.1 hp with hp | hp
      · exact key _ _ (hsq p hp).1 (hsq p hp).2
      · simp only [List.mem_singleton] at hp
        subst hp
        exact key _ _ HS Hap
  have HFin := Ho.mk hfin
  have HOwn := Ho.mk hown
  have HNews := Ho.mk hnews
  have H1c := Ho.mk h1c
  have hsl : ∃ A cap, s = .slice A l.length cap ∧ l.length ≤ cap ∧ cap ≤ 9223372036854775807 := by
    rcases hown with ⟨_, ⟨rfl, h0⟩ | ⟨g, cap, cur, rfl, _, _, h1, h2, _⟩⟩
    · exact ⟨none, 0, by rw [h0], by omega, by omega⟩
    · exact ⟨_, cap, rfl, h1, by simpa [maxLen] using h2⟩
  obtain ⟨A, cap, rfl, hc1, hc2⟩ := hsl
  clear hfin hown hnews h1c hsq hv HS Hap
  by_cases hcap : cap = l.length
  · subst hcap
    go_enter Tryz.func290, Tryz.ntmps290
    go_wp2_with (at_builtin; refine wpList_append_own_at w rfl _ _ 32 rfl base 91 i0 _ 2 32 Tryz.underlying32 hi hz0 hz1 hz2 rfl (by decide) _ l.length _ rfl HOwn.out ⟨vb, 0, none⟩ 1 1 [.int .i64 t, bv] rfl rfl HNews.out H1c.out (by simp only [maxLen]; omega) (by omega) hbase ?_; intro v1 w1 hown1 hg _ hat; have HP := Ho.mk (HFin.out v1 w1 hown1 hg hat); clear hown1 hg hat)
    go_ret
    exact HP.out
  · go_enter Tryz.func290, Tryz.ntmps290
    go_wp2_with (at_builtin; refine wpList_append_own_at w rfl _ _ 32 rfl base 91 i0 _ 2 32 Tryz.underlying32 hi hz0 hz1 hz2 rfl (by decide) _ l.length _ rfl HOwn.out ⟨vb, 0, none⟩ 1 1 [.int .i64 t, bv] rfl rfl HNews.out H1c.out (by simp only [maxLen]; omega) (by omega) hbase ?_; intro v1 w1 hown1 hg _ hat; have HP := Ho.mk (HFin.out v1 w1 hown1 hg hat); clear hown1 hg hat)
    go_ret
    exact HP.out

/-! ### In place -/
theorem ins_row {α : Type} (C F x : List α) (i n : Nat) (hx : x.length = 2) (hF : C.take (n * 2) = F) (hl : F.length = n * 2) (hi : i ≤ n) (hc : (n + 1) * 2 ≤ C.length) :
    (C.take ((i + 1) * 2) ++ F.drop (i * 2) ++ C.drop ((i + 1) * 2 + (F.drop (i * 2)).length)).length = C.length ∧
    ((C.take ((i + 1) * 2) ++ F.drop (i * 2) ++ C.drop ((i + 1) * 2 + (F.drop (i * 2)).length)).take (i * 2) ++ x ++ (C.take ((i + 1) * 2) ++ F.drop (i * 2) ++ C.drop ((i + 1) * 2 + (F.drop (i * 2)).length)).drop (i * 2 + x.length)).length = C.length ∧
    ((C.take ((i + 1) * 2) ++ F.drop (i * 2) ++ C.drop ((i + 1) * 2 + (F.drop (i * 2)).length)).take (i * 2) ++ x ++ (C.take ((i + 1) * 2) ++ F.drop (i * 2) ++ C.drop ((i + 1) * 2 + (F.drop (i * 2)).length)).drop (i * 2 + x.length)).take ((n + 1) * 2) = F.take (i * 2) ++ x ++ F.drop (i * 2) := by
  have h1 : (F.drop (i * 2)).length = n * 2 - i * 2 := by rw [List.length_drop, hl]
  have h2 : (C.take ((i + 1) * 2)).length = (i + 1) * 2 := by rw [List.length_take]; omega
  have h3 : (C.take ((i + 1) * 2) ++ F.drop (i * 2) ++ C.drop ((i + 1) * 2 + (F.drop (i * 2)).length)).length = C.length := by
    simp only [List.length_append, List.length_take, List.length_drop, hl]; omega
  have h4 : (C.take ((i + 1) * 2) ++ F.drop (i * 2) ++ C.drop ((i + 1) * 2 + (F.drop (i * 2)).length)).take (i * 2) = F.take (i * 2) := by
    rw [List.append_assoc, List.take_append_of_le_length (by omega), List.take_take, ← hF, List.take_take]
    congr 1; omega
  have h5 : (C.take ((i + 1) * 2) ++ F.drop (i * 2) ++ C.drop ((i + 1) * 2 + (F.drop (i * 2)).length)).drop (i * 2 + x.length) = F.drop (i * 2) ++ C.drop ((i + 1) * 2 + (F.drop (i * 2)).length) := by
    rw [List.append_assoc, hx, show i * 2 + 2 = (C.take ((i + 1) * 2)).length by omega, List.drop_left]
  have h6 : (F.take (i * 2)).length = i * 2 := by rw [List.length_take, hl]; omega
  refine ⟨h3, ?_, ?_⟩
  · rw [h4, h5]; simp only [List.length_append, List.length_take, List.length_drop, hl, hx]; omega
  · rw [h4, h5, ← List.append_assoc, List.take_append_of_le_length (by simp only [List.length_append, h1, h6, hx]; omega), List.take_of_length_le (by simp only [List.length_append, h1, h6, hx]; omega)]
theorem flatA_drop (q : List (At × Value)) (i : Nat) : (flatA q).drop (i * 2) = flatA (q.drop i) := by
  rcases Nat.lt_or_ge q.length i with h | h
  · rw [List.drop_eq_nil_of_le (show q.length ≤ i by omega), List.drop_eq_nil_of_le (by rw [flatA_length]; omega)]; rfl
  · have e := flatA_append (q.take i) (q.drop i)
    rw [List.take_append_drop] at e
    rw [e, show i * 2 = (flatA (q.take i)).length by rw [flatA_length, List.length_take]; omega, List.drop_left]
theorem flatA_take (q : List (At × Value)) (i : Nat) : (flatA q).take (i * 2) = flatA (q.take i) := by
  rcases Nat.lt_or_ge q.length i with h | h
  · rw [List.take_of_length_le (by rw [flatA_length]; omega), List.take_of_length_le (show q.length ≤ i by omega)]
  · have e := flatA_append (q.take i) (q.drop i)
    rw [List.take_append_drop] at e
    rw [e, show i * 2 = (flatA (q.take i)).length by rw [flatA_length, List.length_take]; omega, List.take_left]
theorem flatA_one {w : World} {q : List (At × Value)} (hs : ∀ p ∈ q, SlI w .u8 p.2 p.1.2) : ∀ u ∈ flatA q, u.oneCell' = true := fun u hu => by
  obtain ⟨p, hp, hu⟩ := List.mem_flatMap.1 hu
  rcases List.mem_cons.1 hu with rfl | hu
  · rfl
  · obtain rfl := List.mem_singleton.1 hu
    exact (hs p hp).oneCell

set_option maxRecDepth 100000 in
set_option maxHeartbeats 4000000 in
theorem insert_room (l : List At) (base g cap i : Nat) (bv : Value) (t : Int) (b : List Int) (vb : Nat) (w : World) (HO : OwA w base (.slice (some ⟨g, 0, none⟩) l.length cap) l) (HS : SlI w .u8 bv b) (Hap : Apart b bv (.slice (some ⟨g, 0, none⟩) l.length cap))
    (hv : w.heap[vb]? = some (.cells #[.int .i64 t, bv] 91 (0, 0))) (hvb : vb ≠ g) (hi : i < l.length) (hroom : l.length + 1 ≤ cap) (hl : l.length ≤ 10000) :
    Calls Tryz.prog 290 #[.slice (some ⟨g, 0, none⟩) l.length cap, .int .i64 i, .slice (some ⟨vb, 0, none⟩) 1 1] w (InsPost l i (t, b) base (.slice (some ⟨g, 0, none⟩) l.length cap) w) := by
  obtain ⟨q, hq, hown, hsq⟩ := HO
  have hql : q.length = l.length := by rw [← hq]; simp
  rcases hown with ⟨hlen, ⟨h', _⟩ | ⟨g', cap', cur, h', hbg, hg, h1, h2, h3, h4⟩⟩
  · cases h'
  simp only [Value.slice.injEq, Option.some.injEq, Addr.mk.injEq, and_true, true_and] at h'
  obtain ⟨rfl, rfl⟩ := h'
  have hc63 : cap ≤ 9223372036854775807 := by simpa [maxLen] using h2
  have hfl : (flatA q).length = l.length * 2 := by rw [flatA_length, hql]
  obtain ⟨r1, r2, r3⟩ := ins_row cur.toList (flatA q) [Value.int IntKind.i64 t, bv] i l.length rfl h4 hfl (by omega) (by simp [h3]; omega)
  obtain ⟨C1, hC1⟩ : ∃ C1, cur.toList.take ((i + 1) * 2) ++ (flatA q).drop (i * 2) ++ cur.toList.drop ((i + 1) * 2 + ((flatA q).drop (i * 2)).length) = C1 := ⟨_, rfl⟩
  rw [hC1] at r1 r2 r3
  obtain ⟨C2, hC2⟩ : ∃ C2, C1.take (i * 2) ++ [Value.int IntKind.i64 t, bv] ++ C1.drop (i * 2 + [Value.int IntKind.i64 t, bv].length) = C2 := ⟨_, rfl⟩
  rw [hC2] at r2 r3
  have hcs : cur.toList.length = cap * 2 := by simp [h3]
  have hsz : (Tryz.prog.info? 91).map (·.size) = some 2 := by kernel_rfl
  have hdl : ((flatA q).drop (i * 2)).length = (l.length - i) * 2 := by rw [List.length_drop, hfl]; omega
  have hcell : ∀ j v, (flatA q)[j]? = some v → w.cell? ⟨g, j, none⟩ = some v := fun j v hj => by
    have hj2 : j < (flatA q).length := (List.getElem?_eq_some_iff.1 hj).1
    rw [World.ownsRow.cellAt (base := g) (e := 91) (n := l.length) (size := 2) (cap := cap) (xs := flatA q) ⟨hlen, .inr ⟨g, cap, cur, rfl, Nat.le_refl _, hg, h1, h2, h3, h4⟩⟩ j (by omega), hj]
  have hcp1 : ∀ ty dc sc, (Builtin.copy_ #[32, 32] ty #[.slice (some ⟨g, (i + 1) * 2, none⟩) (l.length - i) dc, .slice (some ⟨g, i * 2, none⟩) (l.length + 1 - i) sc]).run Tryz.prog w.drew = .ok (goInt ((l.length - i : Nat) : Int)) (w.drew.setRow g C1.toArray) := fun ty dc sc => by
    rw [← hC1]
    exact run_copy_row2 w.drew _ _ ty 91 g ((i + 1) * 2) (l.length - i) dc ⟨g, i * 2, none⟩ (l.length + 1 - i) sc cur 91 ((flatA q).drop (i * 2)) (l.length - i) Tryz.underlying32 hsz hg (by simp only [Nat.min_def]; split <;> omega) hdl
      (fun j v hj => by rw [Addr.add_lit]; exact hcell (i * 2 + j) v (by rwa [List.getElem?_drop] at hj)) (by omega) (fun v hv => flatA_one (fun p hp => (hsq p hp).1) v (List.mem_of_mem_drop hv))
  have hg1 : (w.drew.setRow g C1.toArray).heap[g]? = some (.cells C1.toArray 91 (0, 0)) := setRow_heap w.drew g cur _ _ _ hg
  have hv1 : (w.drew.setRow g C1.toArray).heap[vb]? = some (.cells #[.int .i64 t, bv] 91 (0, 0)) := (setRow_other w.drew g vb _ hvb).trans hv
  have hcp2 : ∀ ty dc, (Builtin.copy_ #[32, 32] ty #[.slice (some ⟨g, i * 2, none⟩) (l.length + 1 - i) dc, .slice (some ⟨vb, 0, none⟩) 1 1]).run Tryz.prog (w.drew.setRow g C1.toArray) = .ok (goInt ((1 : Nat) : Int)) (w.drew.setRow g C2.toArray) := fun ty dc => by
    have := run_copy_row2 (P := Tryz.prog) (w.drew.setRow g C1.toArray) 32 32 ty 91 g (i * 2) (l.length + 1 - i) dc ⟨vb, 0, none⟩ 1 1 C1.toArray 91 [.int .i64 t, bv] 1 Tryz.underlying32 hsz hg1 (by simp only [Nat.min_def]; split <;> omega) rfl
      (World.news_of_block (cs := #[.int .i64 t, bv]) (t := 91) (fr := (0, 0)) hv1) (by simp [r1, h3]; omega) (fun u hu => by
        rcases List.mem_cons.1 hu with rfl | hu
        · rfl
        · obtain rfl := List.mem_singleton.1 hu
          exact HS.oneCell)
    rw [this, setRow_setRow]
    simp only [List.toList_toArray]
    rw [← hC2]
  have hov : ∀ lb cb, (callFunc 308 #[.slice (some ⟨vb, 0, none⟩) 1 1, .slice (some ⟨g, (i + 1) * 2, none⟩) lb cb]).run Tryz.prog w = .ok (.value (.bool false)) w := fun lb cb => by
    rw [run_callFunc_extern Tryz.func308 (by kernel_rfl) (by kernel_rfl) (by kernel_rfl) (e := Extern.SlicesOverlaps.overlaps #[32, 32] #[4]) (by kernel_rfl),
      Lib.run_overlaps_apart w 32 4 91 Tryz.underlying32 2 (fun w => by kernel_rfl) ⟨vb, 0, none⟩ ⟨g, (i + 1) * 2, none⟩ 1 1 lb cb hvb 91 91 2 (cap * 2) (by simp [World.shape?, hv]) (by simp [World.shape?, hg, h3]) (by omega) (by simp [World.frozen?, hv]) (by simp [World.frozen?, hv])]
    rfl
  have HP : Ho (InsPost l i (t, b) base (.slice (some ⟨g, 0, none⟩) l.length cap) w (.returned (.slice (some ⟨g, 0, none⟩) (l.length + 1) cap)) (w.drew.setRow g C2.toArray)) := by
    have hgr : w.grownBy (w.drew.setRow g C2.toArray) (some g) := ⟨rfl, rfl, rfl, by simp, fun k hk hne => setRow_other w.drew g k _ (fun e => hne (by rw [e]))⟩
    refine ⟨⟨_, rfl, ⟨q.take i ++ ((t, b), bv) :: q.drop i, by simp [← hq, List.map_take, List.map_drop], ⟨by rw [flatA_length]; simp [hql], .inr ⟨g, cap, C2.toArray, by congr 1; simp; omega, hbg, setRow_heap w.drew g cur _ _ _ hg, by simp; omega, h2, by simp [r2, h3], ?_⟩⟩, fun p hp => ?_⟩, hgr⟩⟩
    · rw [show ((l.take i ++ (t, b) :: l.drop i).length) = l.length + 1 by simp; omega]
      show C2.take ((l.length + 1) * 2) = _
      rw [r3, flatA_take, flatA_drop, flatA_append]
      simp [flatA]
    · have key : ∀ (x : Value) (y : List Int), SlI w .u8 x y → Apart y x (.slice (some ⟨g, 0, none⟩) l.length cap) → SlI (w.drew.setRow g C2.toArray) .u8 x y ∧ Apart y x (.slice (some ⟨g, 0, none⟩) (l.take i ++ (t, b) :: l.drop i).length cap) := fun x y hx hap => ⟨hx.keepOther hgr hap, hap⟩
      rcases List.mem_append.1 hp with hp | hp
      · exact key _ _ (hsq p (List.mem_of_mem_take hp)).1 (hsq p (List.mem_of_mem_take hp)).2
      · rcases List.mem_cons.1 hp with rfl | hp
        · exact key _ _ HS Hap
        · exact key _ _ (hsq p (List.mem_of_mem_drop hp)).1 (hsq p (List.mem_of_mem_drop hp)).2
  have z1 : ((i : Int) == (l.length : Int)) = false := beq_eq_false_iff_ne.2 (by omega)
  have z2 : decide ((cap : Int) < (l.length : Int) + 1) = false := decf (by omega)
  have z3 : ¬ (cap = i) := by omega
  have z4 : ¬ (cap = i + 1) := by omega
  have z5 : (i : Int) ≤ (l.length : Int) := by omega
  have z6 : ((i : Int) + 1).toNat = i + 1 := by omega
  clear hsq hg hv hcell HS Hap r1 r2 r3 h4 hfl hql hdl hcs hsz hg1 hv1 hC1 hC2 h3 hlen hq h2
  go_enter Tryz.func290, Tryz.ntmps290
  go_wp2_with fail
  have hw1 : IntKind.i64.wrap ((i : Int) + 1) = (i : Int) + 1 := by rw [IntKind.wrap_i64]; omega
  have hb1 : (0 : Int) ≤ (i : Int) + 1 := by omega
  have hb3 : (i : Int) ≤ (l.length : Int) + 1 := by omega
  have hb4 : (i : Int) + 1 ≤ (l.length : Int) + 1 := by omega
  go_region_law (refine step_copy_at rfl _ _ 32 32 rfl _ _ (by simp [Act.eval, Act.put]) (by simp [Act.eval, Act.put]) (hcp1 _ _ _) ?_)
  go_wp2_with (at_builtin; refine wpList_copy_at _ rfl _ _ 32 32 rfl _ _ rfl rfl (hcp2 _ _) ?_)
  go_ret
  exact HP.out

/-! ### A new row -/
theorem grow_row {α : Type} (R F x R1 : List α) (i n : Nat) (hx : x.length = 2) (hR : R.take (i * 2) = F.take (i * 2)) (hl : F.length = n * 2) (hi : i ≤ n) (hc : (n + 1) * 2 ≤ R.length) (h1 : R.take (i * 2) ++ x ++ R.drop (i * 2 + x.length) = R1) :
    R1.length = R.length ∧ (R1.take ((i + 1) * 2) ++ F.drop (i * 2) ++ R1.drop ((i + 1) * 2 + (F.drop (i * 2)).length)).length = R.length ∧
    (R1.take ((i + 1) * 2) ++ F.drop (i * 2) ++ R1.drop ((i + 1) * 2 + (F.drop (i * 2)).length)).take ((n + 1) * 2) = F.take (i * 2) ++ x ++ F.drop (i * 2) := by
  have h2 : (F.take (i * 2)).length = i * 2 := by rw [List.length_take, hl]; omega
  have h3 : R1.length = R.length := by
    rw [← h1]; simp only [List.length_append, List.length_take, List.length_drop, hx]; omega
  have h4 : R1.take ((i + 1) * 2) = F.take (i * 2) ++ x := by
    rw [← h1, hR, show (i + 1) * 2 = (F.take (i * 2) ++ x).length by simp only [List.length_append, h2, hx]; omega, List.take_left]
  refine ⟨h3, ?_, ?_⟩
  · simp only [List.length_append, List.length_take, List.length_drop, hl, h3]; omega
  · rw [h4, List.take_append_of_le_length (by simp only [List.length_append, List.length_drop, h2, hx, hl]; omega), List.take_of_length_le (by simp only [List.length_append, List.length_drop, h2, hx, hl]; omega)]

set_option maxRecDepth 100000 in
set_option maxHeartbeats 4000000 in
theorem insert_grow (l : List At) (base g cap i : Nat) (bv : Value) (t : Int) (b : List Int) (vb : Nat) (w : World) (HO : OwA w base (.slice (some ⟨g, 0, none⟩) l.length cap) l) (HS : SlI w .u8 bv b)
    (hv : w.heap[vb]? = some (.cells #[.int .i64 t, bv] 91 (0, 0))) (hi : i < l.length) (hroom : cap < l.length + 1) (hl : l.length ≤ 10000) (hbase : base ≤ w.heap.size) :
    Calls Tryz.prog 290 #[.slice (some ⟨g, 0, none⟩) l.length cap, .int .i64 i, .slice (some ⟨vb, 0, none⟩) 1 1] w (InsPost l i (t, b) base (.slice (some ⟨g, 0, none⟩) l.length cap) w) := by
  obtain ⟨q, hq, hown, hsq⟩ := HO
  obtain ⟨i0, hi0, hzz⟩ := Option.map_eq_some_iff.1 info_at
  simp only [Prod.mk.injEq] at hzz
  obtain ⟨hz0, hz1, hz2⟩ := hzz
  have hql : q.length = l.length := by rw [← hq]; simp
  have hfl : (flatA q).length = l.length * 2 := by rw [flatA_length, hql]
  have hgw := (World.ownsRow.lt hown g rfl).2
  have hnc : l.length ≤ cap := by
    rcases hown with ⟨_, ⟨h', _⟩ | ⟨g', cap', cur, h', _, _, h1, _⟩⟩
    · cases h'
    · simp only [Value.slice.injEq, Option.some.injEq, Addr.mk.injEq, and_true, true_and] at h'
      omega
  have hcell : ∀ j v, (flatA q)[j]? = some v → w.cell? ⟨g, j, none⟩ = some v := fun j v hj => by
    have hj2 : j < (flatA q).length := (List.getElem?_eq_some_iff.1 hj).1
    rw [World.ownsRow.cellAt hown j (by omega), hj]
  have hvw : vb < w.heap.size := (Array.getElem?_eq_some_iff.1 hv).1
  have hsz : (Tryz.prog.info? 91).map (·.size) = some 2 := by kernel_rfl
  have hold : (Builtin.firstCells i0.size i (.slice (some ⟨g, 0, none⟩) i cap)).run Tryz.prog w.drew = .ok ((flatA q).take (i * 2)).toArray w.drew := by
    rw [hz1]
    exact run_firstCells_some w.drew 2 i ⟨g, 0, none⟩ i cap ((flatA q).take (i * 2)) (by rw [List.length_take]; omega) (fun j v hj => by
      rw [Addr.add_lit, Nat.zero_add]
      rw [List.getElem?_take] at hj
      split at hj
      · exact hcell j v hj
      · cases hj)
  have hik : i + (l.length + 1 - i) = l.length + 1 := by omega
  obtain ⟨G, hG⟩ : ∃ G, G = grownCap w (l.length + 1) cap 91 := ⟨_, rfl⟩
  obtain ⟨R, hR⟩ : ∃ R : List Value, R = (flatA q).take (i * 2) ++ (Builtin.zeroCells (Value.agg #[.int .i64 0, .slice none 0 0]).cells (l.length + 1 - i)).toList ++ (Builtin.zeroCells (Value.agg #[.int .i64 0, .slice none 0 0]).cells (G - (l.length + 1))).toList := ⟨_, rfl⟩
  have hrz : ∀ ty, (Builtin.append_ #[32, 3] ty #[.slice (some ⟨g, 0, none⟩) i cap, .int .i64 ((l.length : Int) + 1 - (i : Int))]).run Tryz.prog w =
      .ok (.slice (some ⟨w.heap.size, 0, none⟩) (l.length + 1) G) (w.drew.alloc (.cells R.toArray 91)) := fun ty => by
    have h := Lib.run_append_grow_zeros w 32 3 ty 91 i0 _ .i64 .i64 Tryz.underlying32 Tryz.underlying3 hi0 hz0 (some ⟨g, 0, none⟩) i cap _ hold (l.length + 1 - i) (by omega) (by omega) (by omega) (by omega) (by rw [hz2]; omega) (by rw [hz2, hik]; exact growslice_fits hroom (by omega))
    rw [hik, ← hG] at h
    have e : ∀ (L : List Value) (A B : Array Value), L.toArray ++ A ++ B = (L ++ A.toList ++ B.toList).toArray := fun L A B => by apply Array.toList_inj.1; simp
    rw [show (l.length : Int) + 1 - (i : Int) = ((l.length + 1 - i : Nat) : Int) by omega, h, e, ← hR]
  have hGn : l.length + 1 ≤ G := by rw [hG]; exact grownCap_ge w _ _ _
  have hG63 : G ≤ maxLen := by
    have := grownCap_le_maxLen w (l.length + 1) cap 91 (by unfold maxLen; omega)
    rwa [← hG] at this
  have hRl : R.length = G * 2 := by
    rw [hR]
    simp [Builtin.zeroCells, Value.cells, hfl]
    omega
  have hRt : R.take (i * 2) = (flatA q).take (i * 2) := by
    rw [hR, List.append_assoc, List.take_append_of_le_length (by rw [List.length_take]; omega), List.take_take]
    congr 1; omega
  clear hR hold
  obtain ⟨R1, hR1⟩ : ∃ R1, R.take (i * 2) ++ [Value.int IntKind.i64 t, bv] ++ R.drop (i * 2 + [Value.int IntKind.i64 t, bv].length) = R1 := ⟨_, rfl⟩
  obtain ⟨p1, p2, p3⟩ := grow_row R (flatA q) [Value.int IntKind.i64 t, bv] R1 i l.length rfl hRt hfl (by omega) (by omega) hR1
  obtain ⟨R2, hR2⟩ : ∃ R2, R1.take ((i + 1) * 2) ++ (flatA q).drop (i * 2) ++ R1.drop ((i + 1) * 2 + ((flatA q).drop (i * 2)).length) = R2 := ⟨_, rfl⟩
  rw [hR2] at p2 p3
  have hdl : ((flatA q).drop (i * 2)).length = (l.length - i) * 2 := by rw [List.length_drop, hfl]; omega
  have hN : ∀ W : World, W.heap = (w.drew.alloc (.cells R.toArray 91)).heap → W.heap[w.heap.size]? = some (.cells R.toArray 91 (0, 0)) ∧ (∀ k, k < w.heap.size → W.heap[k]? = w.heap[k]?) ∧ W.heap.size = w.heap.size + 1 := fun W hW => by
    refine ⟨by rw [hW]; exact heap_alloc_new w.drew _, fun k hk => by rw [hW]; exact Below.heap_alloc w.drew _ k hk, by rw [hW]; simp⟩
  have hcpA : ∀ (W : World), W.heap = (w.drew.alloc (.cells R.toArray 91)).heap → ∀ ty dc, (Builtin.copy_ #[32, 32] ty #[.slice (some ⟨w.heap.size, i * 2, none⟩) (l.length + 1 - i) dc, .slice (some ⟨vb, 0, none⟩) 1 1]).run Tryz.prog W = .ok (goInt ((1 : Nat) : Int)) (W.setRow w.heap.size R1.toArray) := fun W hW ty dc => by
    have := run_copy_row2 (P := Tryz.prog) W 32 32 ty 91 w.heap.size (i * 2) (l.length + 1 - i) dc ⟨vb, 0, none⟩ 1 1 R.toArray 91 [.int .i64 t, bv] 1 Tryz.underlying32 hsz (hN W hW).1 (by simp only [Nat.min_def]; split <;> omega) rfl
      (World.news_of_block (cs := #[.int .i64 t, bv]) (t := 91) (fr := (0, 0)) (((hN W hW).2.1 vb hvw).trans hv)) (by simp [hRl]; omega) (fun u hu => by
        rcases List.mem_cons.1 hu with rfl | hu
        · rfl
        · obtain rfl := List.mem_singleton.1 hu
          exact HS.oneCell)
    rw [this]
    simp only [List.toList_toArray]
    rw [← hR1]
  have hcpB : ∀ (W W' : World), W.heap = (w.drew.alloc (.cells R.toArray 91)).heap → W'.heap = (W.setRow w.heap.size R1.toArray).heap → ∀ ty dc sc, (Builtin.copy_ #[32, 32] ty #[.slice (some ⟨w.heap.size, (i + 1) * 2, none⟩) (l.length - i) dc, .slice (some ⟨g, i * 2, none⟩) (l.length - i) sc]).run Tryz.prog W' = .ok (goInt ((l.length - i : Nat) : Int)) (W'.setRow w.heap.size R2.toArray) := fun W W' hW hW' ty dc sc => by
    have hg1 : W'.heap[w.heap.size]? = some (.cells R1.toArray 91 (0, 0)) := by rw [hW']; exact setRow_heap W w.heap.size _ _ _ _ (hN W hW).1
    have hg2 : W'.heap[g]? = w.heap[g]? := by rw [hW', setRow_other W w.heap.size g _ (by omega)]; exact (hN W hW).2.1 g hgw
    have := run_copy_row2 (P := Tryz.prog) W' 32 32 ty 91 w.heap.size ((i + 1) * 2) (l.length - i) dc ⟨g, i * 2, none⟩ (l.length - i) sc R1.toArray 91 ((flatA q).drop (i * 2)) (l.length - i) Tryz.underlying32 hsz hg1 (by simp only [Nat.min_def]; split <;> omega) hdl
      (fun j v hj => by
        rw [Addr.add_lit, World.cell?_of_block (w := w) (w' := W') (a := ⟨g, i * 2 + j, none⟩) hg2]
        exact hcell (i * 2 + j) v (by rwa [List.getElem?_drop] at hj)) (by simp [p1, hRl, hdl]; omega) (fun v hv => flatA_one (fun p hp => (hsq p hp).1) v (List.mem_of_mem_drop hv))
    rw [this]
    simp only [List.toList_toArray]
    rw [← hR2]
  have hfin : ∀ (W W' : World), W.heap = (w.drew.alloc (.cells R.toArray 91)).heap → W'.heap = (W.setRow w.heap.size R1.toArray).heap → W'.os = w.os → W'.tape = w.tape → W'.output = w.output →
      InsPost l i (t, b) base (.slice (some ⟨g, 0, none⟩) l.length cap) w (.returned (.slice (some ⟨w.heap.size, 0, none⟩) (l.length + 1) G)) (W'.setRow w.heap.size R2.toArray) := fun W W' hW hW' ho ht hou => by
    have hold : ∀ k, k < w.heap.size → (W'.setRow w.heap.size R2.toArray).heap[k]? = w.heap[k]? := fun k hk => by
      rw [setRow_other W' w.heap.size k _ (by omega), hW', setRow_other W w.heap.size k _ (by omega)]
      exact (hN W hW).2.1 k hk
    have hs1 : W'.heap.size = w.heap.size + 1 := by rw [hW', setRow_size]; exact (hN W hW).2.2
    have hbl : Below w.heap.size w (W'.setRow w.heap.size R2.toArray) := ⟨ho, ht, hou, by simp [hs1], hold⟩
    have hg1 : W'.heap[w.heap.size]? = some (.cells R1.toArray 91 (0, 0)) := by rw [hW']; exact setRow_heap W w.heap.size _ _ _ _ (hN W hW).1
    refine ⟨_, rfl, ⟨q.take i ++ ((t, b), bv) :: q.drop i, by simp [← hq, List.map_take, List.map_drop], ⟨by rw [flatA_length]; simp [hql], .inr ⟨w.heap.size, G, R2.toArray, by congr 1; simp; omega, hbase, setRow_heap W' w.heap.size _ _ _ _ hg1, by simp; omega, hG63, by simp [p2, hRl], ?_⟩⟩, fun p hp => ?_⟩, ⟨ho, ht, hou, by simp [hs1], fun k hk _ => hold k hk⟩⟩
    · rw [show ((l.take i ++ (t, b) :: l.drop i).length) = l.length + 1 by simp; omega]
      show R2.take ((l.length + 1) * 2) = _
      rw [p3, flatA_take, flatA_drop, flatA_append]
      simp [flatA]
    · have key : ∀ (x : Value) (y : List Int), SlI w .u8 x y → SlI (W'.setRow w.heap.size R2.toArray) .u8 x y ∧ Apart y x (.slice (some ⟨w.heap.size, 0, none⟩) (l.take i ++ (t, b) :: l.drop i).length G) := fun x y hx => ⟨hx.below hbl, by
        by_cases hn : y = []
        · exact .inl hn
        · obtain ⟨g2, eg, hg⟩ := hx.blk hn
          refine .inr ?_
          rw [eg]
          simp only [Value.ownBlock, ne_eq, Option.some.injEq]
          omega⟩
      rcases List.mem_append.1 hp with hp | hp
      · exact key _ _ (hsq p (List.mem_of_mem_take hp)).1
      · rcases List.mem_cons.1 hp with rfl | hp
        · exact key _ _ HS
        · exact key _ _ (hsq p (List.mem_of_mem_drop hp)).1
  have hGi : ¬ (G = i) := by omega
  have hGim : ¬ (G = i + 1) := by omega
  have hG64 : G ≤ 9223372036854775807 := by simpa [maxLen] using hG63
  have z1 : ((i : Int) == (l.length : Int)) = false := beq_eq_false_iff_ne.2 (by omega)
  have z2 : decide ((cap : Int) < (l.length : Int) + 1) = true := dect (by omega)
  have z3 : ¬ (cap = i) := by omega
  have z5 : (i : Int) ≤ (l.length : Int) := by omega
  have z6 : ((i : Int) + 1).toNat = i + 1 := by omega
  have hw1 : IntKind.i64.wrap ((i : Int) + 1) = (i : Int) + 1 := by rw [IntKind.wrap_i64]; omega
  have hb1 : (0 : Int) ≤ (i : Int) + 1 := by omega
  have hb3 : (i : Int) ≤ (l.length : Int) + 1 := by omega
  have hb4 : (i : Int) + 1 ≤ (l.length : Int) + 1 := by omega
  have HFin := Ho.mk hfin
  have hE : ((w.alloc (.cells R.toArray 91)).drew).heap = (w.drew.alloc (.cells R.toArray 91)).heap := rfl
  have hE2 : (((w.alloc (.cells R.toArray 91)).drew.setRow w.heap.size R1.toArray).drew).heap = ((w.alloc (.cells R.toArray 91)).drew.setRow w.heap.size R1.toArray).heap := rfl
  clear hN hfin hR1 hR2 p1 p2 p3 hRl hRt hG hdl hcell hsq hown hv hq HS hfl hql hsz hi0 hz0 hz1 hz2 hG63 hik
  go_enter Tryz.func290, Tryz.ntmps290
  go_wp2_with (first
    | (at_builtin; refine Lib.wpList_append_run _ rfl _ _ _ _ rfl _ _ rfl rfl _ _ (hrz _) ?_)
    | (at_builtin; refine wpList_copy_at _ rfl _ _ 32 32 rfl _ _ rfl rfl (hcpA _ hE _ _) ?_))
  go_region_law (refine step_copy_at rfl _ _ 32 32 rfl _ _ (by simp [Act.eval, Act.put]) (by simp [Act.eval, Act.put]) (hcpB _ _ hE hE2 3 (G - (i + 1)) (cap - i)) ?_)
  go_wp2
  go_ret
  exact HFin.out _ _ hE hE2 rfl rfl rfl


theorem slices_InsertA (l : List At) (base i : Nat) (s bv : Value) (t : Int) (b : List Int) (vb : Nat) (w : World) (HO : OwA w base s l) (HS : SlI w .u8 bv b) (Hap : Apart b bv s)
    (hv : w.heap[vb]? = some (.cells #[.int .i64 t, bv] 91 (0, 0))) (hvb : s.ownBlock ≠ some vb) (hi : i ≤ l.length) (hl : l.length ≤ 10000) (hbase : base ≤ w.heap.size) :
    Calls Tryz.prog 290 #[s, .int .i64 i, .slice (some ⟨vb, 0, none⟩) 1 1] w (InsPost l i (t, b) base s w) := by
  rcases Nat.eq_or_lt_of_le hi with rfl | hlt
  · exact insert_end l base s bv t b vb w HO HS Hap hv hbase hl
  · have HO' := HO
    obtain ⟨q, hq, hown, hsq⟩ := HO'
    rcases hown with ⟨_, ⟨rfl, h0⟩ | ⟨g, cap, cur, rfl, _, _, h1, _⟩⟩
    · omega
    · rcases Nat.lt_or_ge cap (l.length + 1) with hc | hc
      · exact insert_grow l base g cap i bv t b vb w HO HS hv hlt hc hl hbase
      · exact insert_room l base g cap i bv t b vb w HO HS Hap hv (fun e => hvb (by rw [e]; rfl)) hlt hc hl

end Go.Proofs.YthjcldkaodmfoaaGreat
