/-
  What attrs.copied returns; slices.Insert into a row of the call's own; attrs.Put. Conditions: those that each theorem types.
-/
import Derived.Test.YthjcldkaodmfoaaGreatAttF
import Derived.Test.YthjcldkaodmfoaaGreatIns
namespace Go.Proofs.YthjcldkaodmfoaaGreat
open Go.RowKit

theorem at_endB {w w1 : World} {a : At} {B base : Nat} {v : Value} (HO : OwV w1 base 5 .u8 v a.2) (hB : B < base) (hwB : w.heap.size ≤ B) (HB1 : Below w.heap.size w w1) :
    AtPost a w (.returned (.agg #[.int .i64 a.1, v])) ((w1.setCell ⟨B, 0, none⟩ (.int .i64 a.1)).setCell ⟨B, 1, none⟩ v) := by
  have hne : v.ownBlock ≠ some B := fun e => by
    have := (HO.block B e).1
    omega
  exact ⟨_, rfl, (OwV.other (a := ⟨B, 1, none⟩) (OwV.other (a := ⟨B, 0, none⟩) HO hne _) hne _).weaken (by omega), (HB1.setCell (p := ⟨B, 0, none⟩) hwB _).setCell (p := ⟨B, 1, none⟩) hwB _⟩

set_option maxRecDepth 100000 in
set_option maxHeartbeats 1000000 in
theorem attrs_copied (t : Int) (b : List Int) (v : Value) (w : World) (h : SlI w .u8 v b) (hl : b.length ≤ 140737488351232) :
    Calls Tryz.prog 289 #[.agg #[.int .i64 t, v]] w (AtPost (t, b) w) := by
  have HS := Ho.mk h
  obtain ⟨A, c, rfl, h1, h2, h3, hr⟩ := h
  clear h3 hr
  go_enter Tryz.func289, Tryz.ntmps289
  go_wp2_with fail
  obtain ⟨W0, hW0⟩ : ∃ W0, (w.alloc (.cells #[.int .i64 t, .slice A b.length c] 91)).alloc (.cells #[.int .i64 0, .slice none 0 0] 91) = W0 := ⟨_, rfl⟩
  have HB0 : Ho (Below w.heap.size w W0) := ⟨hW0 ▸ ((Below.refl _ _).alloc (Nat.le_refl _) _).alloc (by simp) _⟩
  have HR0 : Ho (W0.heap[w.heap.size]? = some (.cells #[.int .i64 t, .slice A b.length c] 91 (0, 0))) := ⟨hW0 ▸ (Below.heap_alloc _ _ _ (by simp)).trans (heap_alloc_new w _)⟩
  have HR1 : Ho (W0.heap[w.heap.size + 1]? = some (.cells #[.int .i64 0, .slice none 0 0] 91 (0, 0))) := ⟨by
    have := heap_alloc_new (w.alloc (.cells #[.int .i64 t, .slice A b.length c] 91)) (.cells #[.int .i64 0, .slice none 0 0] 91)
    rw [World.size_alloc, hW0] at this
    exact this⟩
  rw [hW0]
  clear hW0
  obtain ⟨k0, k1, _, _⟩ := cell2 HR0.out
  obtain ⟨d0, d1, e0, e1⟩ := cell2 HR1.out
  have HSW := Ho.mk (HS.out.below HB0.out)
  go_region_held3 (fun w' => w'.cell? ⟨w.heap.size, 0, none⟩ = some (.int .i64 t) ∧ w'.cell? ⟨w.heap.size, 1, none⟩ = some (.slice A b.length c))
    (first | exact ⟨k0, k1⟩ | exact ⟨cell_below (w := W0.drew) hbI k0, cell_below (w := W0.drew) hbI k1⟩ | (have z0 := cell_below (w := W0.drew) hbI k0; have z1 := cell_below (w := W0.drew) hbI k1; refine ⟨?_, ?_⟩ <;> go_simp))
    (first | (go_at_call 223; refine (bytes_Clone _ b W0.drew (HSW.out.drewN 1) hl).mono ?_; rintro e w1 ⟨v1, rfl, ho, hbI⟩; have HO := Ho.mk ho; obtain ⟨A1, c1, rfl, _⟩ := ho.sl; have HR2 := Ho.mk ((hbI.block (w.heap.size + 1) (Array.getElem?_eq_some_iff.1 HR1.out).1).trans HR1.out); obtain ⟨g0, g1, q0, q1⟩ := cell2 HR2.out; clear ho))
  go_wp2
  obtain ⟨x0, x1, _, _⟩ := cell2 (heap_setCell_same _ (w.heap.size + 1) 1 _ _ (.slice A1 b.length c1) (heap_setCell_same w1 (w.heap.size + 1) 0 _ _ (.int .i64 t) HR2.out))
  have hz : w.heap.size + 1 < W0.heap.size := (Array.getElem?_eq_some_iff.1 HR1.out).1
  refine bodyPost_ret (v := .agg #[.int .i64 t, .slice A1 b.length c1]) (by simp [results, Tryz.results289, go_sem, x0, x1]) rfl ?_
  exact at_endB (a := (t, b)) HO.out hz (by omega) (below_base (below_drewN HB0.out 1) HB0.out.size hbI)


/-! ### attrs.Put -/
def leT (t : Int) (x : At) : Bool := decide (x.1 ≤ t)
def neT (t : Int) (x : At) : Bool := decide (x.1 ≠ t)
/-- A list with an attribute put in. -/
def putL (l : List At) (a : At) : List At := (l.filter (neT a.1)).takeWhile (leT a.1) ++ a :: (l.filter (neT a.1)).dropWhile (leT a.1)
def atT (t : Int) (f : List At) (n : Int) : Prop := (n = -1 ∧ f.takeWhile (leT t) = f) ∨ (n = (f.takeWhile (leT t)).length ∧ (f.takeWhile (leT t)).length < f.length)
theorem atT_le {t : Int} {f : List At} {x : At} (h : atT t f (-1)) (hx : x.1 ≤ t) : atT t (f ++ [x]) (-1) := by
  rcases h with ⟨_, h⟩ | ⟨h, _⟩
  · refine .inl ⟨rfl, ?_⟩
    have := List.takeWhile_append (p := leT t) (xs := f) (ys := [x])
    rw [this, h, if_pos rfl]
    simp [List.takeWhile_cons, leT, hx]
  · omega
theorem atT_gt {t : Int} {f : List At} {x : At} (h : atT t f (-1)) (hx : t < x.1) : atT t (f ++ [x]) (f.length : Int) := by
  rcases h with ⟨_, h⟩ | ⟨h, _⟩
  · have := List.takeWhile_append (p := leT t) (xs := f) (ys := [x])
    rw [h, if_pos rfl] at this
    have e : (f ++ [x]).takeWhile (leT t) = f := by rw [this]; simp [List.takeWhile_cons, leT, show ¬ (x.1 ≤ t) by omega]
    exact .inr ⟨by rw [e], by rw [e]; simp⟩
  · omega
theorem atT_ge {t : Int} {f : List At} {x : At} {n : Int} (h : atT t f n) (hn : 0 ≤ n) : atT t (f ++ [x]) n := by
  rcases h with ⟨h, _⟩ | ⟨h, hl⟩
  · omega
  · have := List.takeWhile_append (p := leT t) (xs := f) (ys := [x])
    rw [if_neg (by omega)] at this
    exact .inr ⟨by rw [this]; exact h, by rw [this]; simp; omega⟩
theorem filter_take_succ {l : List At} {k : Nat} (h : k < l.length) (p : At → Bool) : (l.take (k + 1)).filter p = (l.take k).filter p ++ (if p (l[k]'h) then [l[k]'h] else []) := by
  rw [List.take_succ_eq_append_getElem h, List.filter_append]
  congr 1
  simp [List.filter_cons]
theorem takeWhile_take {α : Type} (p : α → Bool) (f : List α) : f.take (f.takeWhile p).length = f.takeWhile p ∧ f.drop (f.takeWhile p).length = f.dropWhile p := by
  have e := List.takeWhile_append_dropWhile (p := p) (l := f)
  constructor
  · conv => lhs; rw [← e]
    rw [e, show f.take (f.takeWhile p).length = ((f.takeWhile p) ++ (f.dropWhile p)).take (f.takeWhile p).length by rw [e], List.take_left]
  · rw [show f.drop (f.takeWhile p).length = ((f.takeWhile p) ++ (f.dropWhile p)).drop (f.takeWhile p).length by rw [e], List.drop_left]
theorem OwA.shape {w : World} {base : Nat} {v : Value} {l : List At} (h : OwA w base v l) : ∃ A c, v = .slice A l.length c ∧ l.length ≤ c ∧ c ≤ 9223372036854775807 := by
  obtain ⟨A, c, e, h1, h2, _⟩ := h.sl
  exact ⟨A, c, e, h1, h2⟩
theorem filter_le {l : List At} {k : Nat} (p : At → Bool) : ((l.take k).filter p).length ≤ l.length :=
  Nat.le_trans (List.length_filter_le _ _) (by rw [List.length_take]; omega)
def PutPost (l : List At) (w : World) (e : Ending) (w' : World) : Prop := ∃ v1, e = .returned v1 ∧ OwA w' w.heap.size v1 l ∧ Below w.heap.size w w'


set_option maxRecDepth 100000 in
set_option maxHeartbeats 4000000 in
theorem attrs_Put (l : List At) (t : Int) (b : List Int) (v bv : Value) (w : World) (h : SlA w v l) (hok : AtsOk l) (hb : SlI w .u8 bv b) (hbl : b.length ≤ 140737488351232) (hl : l.length ≤ 1000) :
    Calls Tryz.prog 224 #[v, .agg #[.int .i64 t, bv]] w (PutPost (putL l (t, b)) w) := by
  obtain ⟨A, c, rfl, h1, h2, h3, hr⟩ := h
  have HR := Ho.mk hr
  have HOK := Ho.mk hok
  have HS := Ho.mk hb
  obtain ⟨Ab, cb, rfl, _⟩ := hb
  clear hr h3 hok
  go_enter Tryz.func224, Tryz.ntmps224
  go_wp2
  obtain ⟨W0, hW0⟩ : ∃ W0, w.alloc (.cells #[.int .i64 t, .slice Ab b.length cb] 91) = W0 := ⟨_, rfl⟩
  have HB0 : Ho (Below w.heap.size w W0) := ⟨hW0 ▸ (Below.refl _ _).alloc (Nat.le_refl _) _⟩
  have HR0 : Ho (W0.heap[w.heap.size]? = some (.cells #[.int .i64 t, .slice Ab b.length cb] 91 (0, 0))) := ⟨hW0 ▸ heap_alloc_new w _⟩
  rw [hW0]
  clear hW0
  go_loopw [5, 6, 11] (fun ov av iv wr => ∃ (k : Nat) (n : Int), k ≤ l.length ∧ iv = .int .i64 k ∧ av = .int .i64 n ∧ Ho (atT t ((l.take k).filter (neT t)) n ∧ -1 ≤ n ∧ n ≤ 1000) ∧ Ho (OwA wr W0.heap.size ov ((l.take k).filter (neT t))) ∧ Ho (Below W0.heap.size W0 wr)) (fun _ _ i _ => l.length - (intOf i).toNat)
  case atStart => exact ⟨0, -1, Nat.zero_le _, rfl, rfl, ⟨.inl ⟨rfl, by simp⟩, by omega, by omega⟩, ⟨by simpa using OwA.nil _ _⟩, ⟨Below.refl _ _⟩⟩
  case round =>
    obtain ⟨k, n, hk, rfl, rfl, hat, ho, hB⟩ := hrel
    have hn1 := hat.out.2.1
    have hn2 := hat.out.2.2
    have HBw := Ho.mk (below_base HB0.out HB0.out.size hB.out)
    have HRr := Ho.mk ((hB.out.block _ (Array.getElem?_eq_some_iff.1 HR0.out).1).trans HR0.out)
    obtain ⟨d0, d1, _, _⟩ := cell2 HRr.out
    have hzw : w.heap.size < wr.heap.size := (Array.getElem?_eq_some_iff.1 HRr.out).1
    by_cases hlt : k < l.length
    · obtain ⟨bb, o, rfl, hcell⟩ := HR.out (by omega)
      obtain ⟨xv, c1, c2, hs⟩ := hcell k hlt
      have hc1 := cell_below HBw.out c1
      have hc2 := cell_below HBw.out c2
      have HX := Ho.mk (hs.below HBw.out)
      obtain ⟨A1, e1, rfl, _⟩ := hs
      obtain ⟨x, HXE⟩ : ∃ x, Ho (l[k]'hlt = x) := ⟨_, ⟨rfl⟩⟩
      have HF := Ho.mk (filter_take_succ hlt (neT t))
      have HXL := Ho.mk (HOK.out _ (List.getElem_mem hlt)).2
      rw [HXE.out] at hc1 hc2 HX HF HXL
      clear hcell c1 c2
      have HFl : Ho (((l.take k).filter (neT t)).length ≤ l.length) := ⟨filter_le _⟩
      obtain ⟨Ao, co, rfl, hz1, hz2⟩ := ho.out.shape
      by_cases hx : x.1 = t
      · have q : (x.1 == t) = true := beq_iff_eq.2 hx
        have HNe : Ho ((if neT t x = true then [x] else []) = []) := ⟨by simp [neT, hx]⟩
        clear hx
        go_wp2
        go_roundw
        case rel => exact ⟨k + 1, n, by omega, by go_num, rfl, ⟨by rw [HF.out, HNe.out, List.append_nil]; exact hat.out⟩, ⟨by rw [HF.out, HNe.out, List.append_nil]; exact ho.out.alloc _⟩, ⟨hB.out.alloc hB.out.size _⟩⟩
        case measure => simp [intOf]; omega
      have q : (x.1 == t) = false := beq_eq_false_iff_ne.2 hx
      have HNe : Ho ((if neT t x = true then [x] else []) = [x]) := ⟨by simp [neT, hx]⟩
      clear hx
      have hfl := HFl.out
      by_cases hn : n < 0
      · have hn3 : n = -1 := by omega
        have qn : decide (n < 0) = true := dect hn
        by_cases hg : t < x.1
        · have qg : decide (t < x.1) = true := dect hg
          have HAT := Ho.mk (atT_gt (x := x) (hn3 ▸ hat.out.1) hg)
          clear hn3 hn hg
          go_wp2_with fail
          refine (attrs_copied x.1 x.2 _ _ (HX.out.below ((Below.refl _ _).alloc (Nat.le_refl _) _)) HXL.out).mono ?_
          rintro e w1 ⟨v1, rfl, ho1, hb1⟩
          obtain ⟨A2, c2, rfl, _⟩ := ho1.sl
          have HS1 := Ho.mk ho1.sl
          have HO1 := Ho.mk ((ho.out.alloc (.cells #[.int .i64 x.1, .slice A1 x.2.length e1] 91)).below hb1)
          have HAp := Ho.mk (apart_new (ho.out.alloc (.cells #[.int .i64 x.1, .slice A1 x.2.length e1] 91)) ho1 (Nat.le_refl _))
          have HB1 := Ho.mk (below_base (hB.out.alloc hB.out.size (.cells #[.int .i64 x.1, .slice A1 x.2.length e1] 91)) (by have := hB.out.size; simp; omega) hb1)
          clear ho1 hb1
          go_wp2_with (at_builtin; refine wpList_appA rfl (.tmp 31) (.tmp 34) rfl W0.heap.size _ _ _ x.1 x.2 rfl rfl HO1.out HS1.out HAp.out HB1.out.size (Nat.le_trans HFl.out (by omega)) ?_; intro v2 w2 ho2 hg2; have HO2 := Ho.mk ho2; have HB2 := Ho.mk ((HB1.out.alloc HB1.out.size _).grown hg2 (by have := HB1.out.size; simp; omega) (fun b hb => (HO1.out.lt hb).1)); clear ho2 hg2)
          go_roundw
          case rel => exact ⟨k + 1, _, by omega, by go_num, rfl, ⟨by rw [HF.out, HNe.out]; exact HAT.out, by omega, by omega⟩, ⟨by rw [HF.out, HNe.out]; exact HO2.out⟩, ⟨HB2.out⟩⟩
          case measure => simp [intOf]; omega
        · have qg : decide (t < x.1) = false := decf hg
          have HAT := Ho.mk (atT_le (x := x) (hn3 ▸ hat.out.1) (by omega))
          have HN3 := Ho.mk hn3
          clear hn3 hn hg
          go_wp2_with fail
          refine (attrs_copied x.1 x.2 _ _ (HX.out.below ((Below.refl _ _).alloc (Nat.le_refl _) _)) HXL.out).mono ?_
          rintro e w1 ⟨v1, rfl, ho1, hb1⟩
          obtain ⟨A2, c2, rfl, _⟩ := ho1.sl
          have HS1 := Ho.mk ho1.sl
          have HO1 := Ho.mk ((ho.out.alloc (.cells #[.int .i64 x.1, .slice A1 x.2.length e1] 91)).below hb1)
          have HAp := Ho.mk (apart_new (ho.out.alloc (.cells #[.int .i64 x.1, .slice A1 x.2.length e1] 91)) ho1 (Nat.le_refl _))
          have HB1 := Ho.mk (below_base (hB.out.alloc hB.out.size (.cells #[.int .i64 x.1, .slice A1 x.2.length e1] 91)) (by have := hB.out.size; simp; omega) hb1)
          clear ho1 hb1
          go_wp2_with (at_builtin; refine wpList_appA rfl (.tmp 31) (.tmp 34) rfl W0.heap.size _ _ _ x.1 x.2 rfl rfl HO1.out HS1.out HAp.out HB1.out.size (Nat.le_trans HFl.out (by omega)) ?_; intro v2 w2 ho2 hg2; have HO2 := Ho.mk ho2; have HB2 := Ho.mk ((HB1.out.alloc HB1.out.size _).grown hg2 (by have := HB1.out.size; simp; omega) (fun b hb => (HO1.out.lt hb).1)); clear ho2 hg2)
          go_roundw
          case rel => exact ⟨k + 1, _, by omega, by go_num, rfl, ⟨by rw [HF.out, HNe.out]; (rw [HN3.out]; exact HAT.out), by omega, by omega⟩, ⟨by rw [HF.out, HNe.out]; exact HO2.out⟩, ⟨HB2.out⟩⟩
          case measure => simp [intOf]; omega
      · have qn : decide (n < 0) = false := decf hn
        have HAT := Ho.mk (atT_ge (x := x) hat.out.1 (by omega))
        clear hn
        go_wp2_with fail
        refine (attrs_copied x.1 x.2 _ _ (HX.out.below ((Below.refl _ _).alloc (Nat.le_refl _) _)) HXL.out).mono ?_
        rintro e w1 ⟨v1, rfl, ho1, hb1⟩
        obtain ⟨A2, c2, rfl, _⟩ := ho1.sl
        have HS1 := Ho.mk ho1.sl
        have HO1 := Ho.mk ((ho.out.alloc (.cells #[.int .i64 x.1, .slice A1 x.2.length e1] 91)).below hb1)
        have HAp := Ho.mk (apart_new (ho.out.alloc (.cells #[.int .i64 x.1, .slice A1 x.2.length e1] 91)) ho1 (Nat.le_refl _))
        have HB1 := Ho.mk (below_base (hB.out.alloc hB.out.size (.cells #[.int .i64 x.1, .slice A1 x.2.length e1] 91)) (by have := hB.out.size; simp; omega) hb1)
        clear ho1 hb1
        go_wp2_with (at_builtin; refine wpList_appA rfl (.tmp 31) (.tmp 34) rfl W0.heap.size _ _ _ x.1 x.2 rfl rfl HO1.out HS1.out HAp.out HB1.out.size (Nat.le_trans HFl.out (by omega)) ?_; intro v2 w2 ho2 hg2; have HO2 := Ho.mk ho2; have HB2 := Ho.mk ((HB1.out.alloc HB1.out.size _).grown hg2 (by have := HB1.out.size; simp; omega) (fun b hb => (HO1.out.lt hb).1)); clear ho2 hg2)
        go_roundw
        case rel => exact ⟨k + 1, _, by omega, by go_num, rfl, ⟨by rw [HF.out, HNe.out]; exact HAT.out, by omega, by omega⟩, ⟨by rw [HF.out, HNe.out]; exact HO2.out⟩, ⟨HB2.out⟩⟩
        case measure => simp [intOf]; omega
    · have hke : k = l.length := by omega
      have HK : Ho ((l.take k).filter (neT t) = l.filter (neT t)) := ⟨by rw [hke, List.take_length]⟩
      clear hke
      rw [HK.out] at hat ho
      obtain ⟨f, HFE⟩ : ∃ f, Ho (l.filter (neT t) = f) := ⟨_, ⟨rfl⟩⟩
      rw [HFE.out] at hat ho
      have hfl : f.length ≤ 1000 := by rw [← HFE.out]; exact Nat.le_trans (List.length_filter_le _ _) hl
      obtain ⟨Ao, co, rfl, hz1, hz2⟩ := ho.out.shape
      obtain ⟨i, hi0, hin, HPut⟩ : ∃ i : Nat, i ≤ f.length ∧ (n < 0 → i = f.length) ∧ Ho ((0 ≤ n → n = i) ∧ putL l (t, b) = f.take i ++ (t, b) :: f.drop i) := by
        have htd := takeWhile_take (leT t) f
        rcases hat.out.1 with ⟨e, ht⟩ | ⟨e, ht⟩
        · refine ⟨f.length, Nat.le_refl _, fun _ => rfl, ⟨fun _ => by omega, ?_⟩⟩
          unfold putL
          rw [ht] at htd
          rw [HFE.out, htd.1, htd.2, ht]
        · refine ⟨(f.takeWhile (leT t)).length, by omega, fun _ => by omega, ⟨fun _ => e, ?_⟩⟩
          unfold putL
          rw [HFE.out, htd.1, htd.2]
      have HSr := Ho.mk (HS.out.below HBw.out)
      by_cases hn : n < 0
      · have qn : decide (n < 0) = true := dect hn
        obtain rfl := hin hn
        clear hn hin hi0
        go_wp2_with fail
        refine (attrs_copied t b _ _ HSr.out hbl).mono ?_
        rintro e w1 ⟨v1, rfl, ho1, hb1⟩
        obtain ⟨A2, c2, rfl, _⟩ := ho1.sl
        have HO1 := Ho.mk ((ho.out.below hb1).alloc (.cells #[.int .i64 t, .slice A2 b.length c2] 91))
        have HS1 := Ho.mk (ho1.sl.below ((Below.refl _ _).alloc (Nat.le_refl _) (.cells #[.int .i64 t, .slice A2 b.length c2] 91)))
        have HAp := Ho.mk (apart_new ho.out ho1 (Nat.le_refl _))
        have HB1 := Ho.mk ((below_base hB.out hB.out.size hb1).alloc (below_base hB.out hB.out.size hb1).size (.cells #[.int .i64 t, .slice A2 b.length c2] 91))
        have HNB : Ho ((Value.slice Ao f.length co).ownBlock ≠ some w1.heap.size) := ⟨fun e => by have h1 := (ho.out.below hb1).lt e; omega⟩
        clear ho1 hb1
        go_wp2_with fail
        refine (slices_InsertA f W0.heap.size _ _ _ t b _ _ HO1.out HS1.out HAp.out (heap_alloc_new w1 _) HNB.out (by omega) (by omega) HB1.out.size).mono ?_
        rintro e w2 ⟨v3, rfl, ho3, hg3⟩
        have HP : Ho (PutPost (putL l (t, b)) w (.returned v3) w2) := ⟨⟨v3, rfl, by rw [HPut.out.2]; exact ho3.weaken HB0.out.size, below_base HB0.out HB0.out.size (HB1.out.grown hg3 HB1.out.size (fun b hb => (HO1.out.lt hb).1))⟩⟩
        clear ho3 hg3
        go_wp2
        go_ret
        exact HP.out
      · have qn : decide (n < 0) = false := decf hn
        obtain rfl := HPut.out.1 (by omega)
        clear hn hin
        go_wp2_with fail
        refine (attrs_copied t b _ _ HSr.out hbl).mono ?_
        rintro e w1 ⟨v1, rfl, ho1, hb1⟩
        obtain ⟨A2, c2, rfl, _⟩ := ho1.sl
        have HO1 := Ho.mk ((ho.out.below hb1).alloc (.cells #[.int .i64 t, .slice A2 b.length c2] 91))
        have HS1 := Ho.mk (ho1.sl.below ((Below.refl _ _).alloc (Nat.le_refl _) (.cells #[.int .i64 t, .slice A2 b.length c2] 91)))
        have HAp := Ho.mk (apart_new ho.out ho1 (Nat.le_refl _))
        have HB1 := Ho.mk ((below_base hB.out hB.out.size hb1).alloc (below_base hB.out hB.out.size hb1).size (.cells #[.int .i64 t, .slice A2 b.length c2] 91))
        have HNB : Ho ((Value.slice Ao f.length co).ownBlock ≠ some w1.heap.size) := ⟨fun e => by have h1 := (ho.out.below hb1).lt e; omega⟩
        clear ho1 hb1
        go_wp2_with fail
        refine (slices_InsertA f W0.heap.size _ _ _ t b _ _ HO1.out HS1.out HAp.out (heap_alloc_new w1 _) HNB.out (by omega) (by omega) HB1.out.size).mono ?_
        rintro e w2 ⟨v3, rfl, ho3, hg3⟩
        have HP : Ho (PutPost (putL l (t, b)) w (.returned v3) w2) := ⟨⟨v3, rfl, by rw [HPut.out.2]; exact ho3.weaken HB0.out.size, below_base HB0.out HB0.out.size (HB1.out.grown hg3 HB1.out.size (fun b hb => (HO1.out.lt hb).1))⟩⟩
        clear ho3 hg3
        go_wp2
        go_ret
        exact HP.out

end Go.Proofs.YthjcldkaodmfoaaGreat
