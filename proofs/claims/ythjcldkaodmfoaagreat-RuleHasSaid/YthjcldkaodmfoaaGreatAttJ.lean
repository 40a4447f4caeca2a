/-
  What keyfmt.ReadParams returns of no bytes. Conditions: those that each theorem types.
-/
import Derived.Test.YthjcldkaodmfoaaGreatAttC
import Derived.Test.YthjcldkaodmfoaaGreatDerI
namespace Go.Proofs.YthjcldkaodmfoaaGreat
open Go.RowKit

/-! ### der.Read of no bytes -/
def NodeNonePost (l : Int) (L : Nat) (w : World) (e : Ending) (w' : World) : Prop :=
  e = .returned (.tuple #[.agg #[.int .i64 0, .slice none 0 0, .slice none 0 0], .slice none 0 0, .bool false]) ∧ Cnt 273 w' L (l - 1) ∧ BelowX L w w'

set_option maxRecDepth 100000 in
theorem der_node_none (v : Value) (b : List Int) (d : Nat) (l : Int) (L : Nat) (w : World) (hb : SlI w .u8 v b) (hdg : Dg 256 b) (hh : hd3 b = none) (hc : Cnt 273 w L l) (hl0 : 1 ≤ l) (hl1 : l ≤ 1024) (hd : d < 16) :
    Calls Tryz.prog 265 #[.pointer (some ⟨L, 0, none⟩), v, .int .i64 d] w (NodeNonePost l L w) := by
  have q1 : decide (l - 1 < 0) = false := decf (by omega)
  have q2 : decide (16 ≤ (d : Int)) = false := decf (by omega)
  have hcc := (hc.alloc (.cells #[.int .i64 0, .slice none 0 0, .slice none 0 0] 123)).cell
  have hcf := (hc.alloc (.cells #[.int .i64 0, .slice none 0 0, .slice none 0 0] 123)).frozen
  have hcc2 := ((hc.set (l - 1)).alloc (.cells #[.int .i64 0, .slice none 0 0, .slice none 0 0] 123)).cell
  have hLlt := hc.lt
  have hX0 : BelowX L w ((w.setCell ⟨L, 0, none⟩ (.int .i64 (l - 1))).alloc (.cells #[.int .i64 0, .slice none 0 0, .slice none 0 0] 123)) := ((BelowX.refl _ _).setCell 0 _).alloc _
  have hC0 : Cnt 273 ((w.setCell ⟨L, 0, none⟩ (.int .i64 (l - 1))).alloc (.cells #[.int .i64 0, .slice none 0 0, .slice none 0 0] 123)) L (l - 1) := (hc.set _).alloc _
  have HS0 := Ho.mk (hb.keepX hX0 hc)
  have HX0 := Ho.mk hX0
  have HC0 := Ho.mk hC0
  have HH := Ho.mk hh
  have HDG := Ho.mk hdg
  have hzz : (w.setCell ⟨L, 0, none⟩ (.int .i64 (l - 1))).heap.size = w.heap.size := by simp
  have hrow := heap_alloc_new (w.setCell ⟨L, 0, none⟩ (.int .i64 (l - 1))) (.cells #[.int .i64 0, .slice none 0 0, .slice none 0 0] 123)
  rw [hzz] at hrow
  have HRow := Ho.mk hrow
  clear hc hb hh hdg hrow hzz hX0 hC0
  go_enter Tryz.func265, Tryz.ntmps265
  go_wp2_with fail
  go_step3
  go_wp2_with fail
  obtain ⟨W0, hW0⟩ : ∃ W0, (w.setCell ⟨L, 0, none⟩ (.int .i64 (l - 1))).alloc (.cells #[.int .i64 0, .slice none 0 0, .slice none 0 0] 123) = W0 := ⟨_, rfl⟩
  rw [hW0] at HS0 HX0 HC0 HRow ⊢
  clear hcc hcf hcc2 hW0
  refine (der_head v b W0 HS0.out HDG.out).mono ?_
  rintro e w1 ⟨⟨nq, rfl⟩, ⟨_, rfl⟩ | ⟨t', h', r', v1, v2, hq, _⟩⟩
  · obtain ⟨f0, f1, f2, z0, z1, z2⟩ := cell3 (show (W0.drewN nq).heap[w.heap.size]? = _ from HRow.out)
    have hz : w.heap.size < (W0.drewN nq).heap.size := (Array.getElem?_eq_some_iff.1 HRow.out).1
    go_wp2_with fail
    rw [Exit.noGoto_ret]
    have hr := heap_setCell_same _ w.heap.size 2 _ _ (.slice none 0 0) (heap_setCell_same _ w.heap.size 1 _ _ (.slice none 0 0) (heap_setCell_same (W0.drewN nq) w.heap.size 0 _ _ (.int .i64 0) (show (W0.drewN nq).heap[w.heap.size]? = _ from HRow.out)))
    obtain ⟨x0, x1, x2, _⟩ := cell3 hr
    have hn : L ≠ w.heap.size := by omega
    refine bodyPost_ret (v := .tuple #[.agg #[.int .i64 0, .slice none 0 0, .slice none 0 0], .slice none 0 0, .bool false]) (by simp [results, Tryz.results265, go_sem, x0, x1, x2]) rfl ⟨rfl, ?_, ?_⟩
    · exact (((show Cnt _ (W0.drewN nq) L (l - 1) from HC0.out).past hn 0 _).past hn 1 _).past hn 2 _
    · exact (((HX0.out.drewN nq).past (Nat.le_refl _) 0 _).past (Nat.le_refl _) 1 _).past (Nat.le_refl _) 2 _
  · rw [HH.out] at hq; exact absurd hq (by simp)

def ReadNonePost (w : World) (e : Ending) (w' : World) : Prop :=
  e = .returned (.tuple #[.agg #[.int .i64 0, .slice none 0 0, .slice none 0 0], .int .i64 0, .bool false]) ∧ Below w.heap.size w w'

set_option maxRecDepth 100000 in
theorem der_Read_nil (w : World) :
    Calls Tryz.prog 192 #[.slice none 0 0] w (ReadNonePost w) := by
  go_enter Tryz.func192, Tryz.ntmps192
  go_wp2_with fail
  obtain ⟨W0, hW0⟩ : ∃ W0, (w.alloc (.cells #[.int .i64 0, .slice none 0 0, .slice none 0 0] 123)).alloc (.cells #[.int .i64 1024] 273) = W0 := ⟨_, rfl⟩
  have HB0 : Ho (Below w.heap.size w W0) := ⟨hW0 ▸ ((Below.refl _ _).alloc (Nat.le_refl _) _).alloc (by simp) _⟩
  have HC0 : Ho (Cnt 273 W0 (w.heap.size + 1) 1024) := ⟨by
    have := heap_alloc_new (w.alloc (.cells #[.int .i64 0, .slice none 0 0, .slice none 0 0] 123)) (.cells #[.int .i64 1024] 273)
    rw [World.size_alloc, hW0] at this
    exact this⟩
  have HR0 : Ho (W0.heap[w.heap.size]? = some (.cells #[.int .i64 0, .slice none 0 0, .slice none 0 0] 123 (0, 0))) := ⟨hW0 ▸ (Below.heap_alloc _ _ _ (by simp)).trans (heap_alloc_new w _)⟩
  rw [hW0]
  clear hW0
  refine (show Calls _ _ #[_, _, .int .i64 ((0 : Nat) : Int)] _ _ from der_node_none (.slice none 0 0) [] 0 1024 (w.heap.size + 1) W0 (SlI.nil _ _) (Dg.nil (by decide)) (by decide) HC0.out (by omega) (by omega) (by omega)).mono ?_
  rintro e w1 ⟨rfl, _, hx⟩
  have HR1 := Ho.mk ((hx.block w.heap.size (Array.getElem?_eq_some_iff.1 HR0.out).1 (by omega)).trans HR0.out)
  have HX := Ho.mk hx
  obtain ⟨f0, f1, f2, z0, z1, z2⟩ := cell3 HR1.out
  have hz : w.heap.size < w1.heap.size := (Array.getElem?_eq_some_iff.1 HR1.out).1
  clear hx
  go_wp2_with fail
  have hbl : Below w.heap.size w w1 := by
    have h2 := HX.out
    exact ⟨h2.os.trans HB0.out.os, h2.tape.trans HB0.out.tape, h2.output.trans HB0.out.output, Nat.le_trans HB0.out.size h2.size, fun k hk => by
      have hk' : k < w.heap.size := hk
      rw [h2.block k (Nat.lt_of_lt_of_le hk' HB0.out.size) (by omega), HB0.out.block k hk']⟩
  refine bodyPost_ret (v := .tuple #[.agg #[.int .i64 0, .slice none 0 0, .slice none 0 0], .int .i64 0, .bool false]) (by simp [results, Tryz.results192, go_sem, f0, f1, f2, hz]) rfl ⟨rfl, ?_⟩
  exact (Below.setCell (p := ⟨w.heap.size, 2, none⟩) (Below.setCell (p := ⟨w.heap.size, 1, none⟩) (Below.setCell (p := ⟨w.heap.size, 0, none⟩) hbl (Nat.le_refl _) _) (Nat.le_refl _) _) (Nat.le_refl _) _).alloc (by simp; omega) _

/-! ### keyfmt.read of no bytes -/
def KReadNonePost (w : World) (e : Ending) (w' : World) : Prop :=
  e = .returned (.tuple #[.agg #[.int .i64 0, .slice none 0 0, .slice none 0 0], .bool false]) ∧ Below w.heap.size w w'
set_option maxRecDepth 100000 in
theorem keyfmt_read_nil (w : World) : Calls Tryz.prog 118 #[.slice none 0 0] w (KReadNonePost w) := by
  go_enter Tryz.func118, Tryz.ntmps118
  go_wp2_with fail
  obtain ⟨W0, hW0⟩ : ∃ W0, w.alloc (.cells #[.int .i64 0, .slice none 0 0, .slice none 0 0] 123) = W0 := ⟨_, rfl⟩
  have HB0 : Ho (Below w.heap.size w W0) := ⟨hW0 ▸ (Below.refl _ _).alloc (Nat.le_refl _) _⟩
  have HR0 : Ho (W0.heap[w.heap.size]? = some (.cells #[.int .i64 0, .slice none 0 0, .slice none 0 0] 123 (0, 0))) := ⟨hW0 ▸ heap_alloc_new w _⟩
  rw [hW0]
  clear hW0
  refine (der_Read_nil W0).mono ?_
  rintro e w1 ⟨rfl, hb⟩
  have HR1 := Ho.mk ((hb.block w.heap.size (Array.getElem?_eq_some_iff.1 HR0.out).1).trans HR0.out)
  have HB1 := Ho.mk (below_base HB0.out HB0.out.size hb)
  obtain ⟨f0, f1, f2, z0, z1, z2⟩ := cell3 HR1.out
  have hz : w.heap.size < w1.heap.size := (Array.getElem?_eq_some_iff.1 HR1.out).1
  clear hb
  go_wp2_with fail
  refine bodyPost_ret (v := .tuple #[.agg #[.int .i64 0, .slice none 0 0, .slice none 0 0], .bool false]) (by simp [results, Tryz.results118, go_sem, f0, f1, f2, hz]) rfl ⟨rfl, ?_⟩
  exact (Below.setCell (p := ⟨w.heap.size, 2, none⟩) (Below.setCell (p := ⟨w.heap.size, 1, none⟩) (Below.setCell (p := ⟨w.heap.size, 0, none⟩) HB1.out (Nat.le_refl _) _) (Nat.le_refl _) _) (Nat.le_refl _) _).alloc (by simp; omega) _

/-! ### keyfmt.name, params, which -/
theorem NdV.leafAt {w : World} {v : Value} {t : Int} {b : List Int} (h : NdV 1 w v (.mk t b [])) : ∃ A1 c1 A2 c2, v = .agg #[.int .i64 t, .slice A1 b.length c1, .slice A2 0 c2] ∧ SlI w .u8 (.slice A1 b.length c1) b := by
  obtain ⟨bv, A, c, rfl, h1, _⟩ := h
  obtain ⟨A1, c1, rfl, hs⟩ := h1
  exact ⟨A1, c1, A, c, rfl, A1, c1, rfl, hs⟩
/-- What is returned is a node without kids. -/
def LeafV (t : Int) (b : List Int) (w : World) (e : Ending) (w' : World) : Prop :=
  ∃ A1 c1 A2 c2, e = .returned (.agg #[.int .i64 t, .slice A1 b.length c1, .slice A2 0 c2]) ∧ SlI w' .u8 (.slice A1 b.length c1) b ∧ Below w.heap.size w w'
set_option maxRecDepth 100000 in
theorem keyfmt_name (v : Value) (xs : List Int) (w : World) (h : SlI w .i64 v xs) (ho : arcsOk xs) (hl : xs.length ≤ 1000) :
    Calls Tryz.prog 177 #[v] w (LeafV 6 (oidB xs) w) := by
  have HS := Ho.mk h
  obtain ⟨A, c, rfl, _⟩ := h
  go_enter Tryz.func177, Tryz.ntmps177
  go_wp2_with fail
  obtain ⟨W0, hW0⟩ : ∃ W0, w.alloc (.cells #[.int .i64 0, .slice none 0 0, .slice none 0 0] 123) = W0 := ⟨_, rfl⟩
  have HB0 : Ho (Below w.heap.size w W0) := ⟨hW0 ▸ (Below.refl _ _).alloc (Nat.le_refl _) _⟩
  have HR0 : Ho (W0.heap[w.heap.size]? = some (.cells #[.int .i64 0, .slice none 0 0, .slice none 0 0] 123 (0, 0))) := ⟨hW0 ▸ heap_alloc_new w _⟩
  rw [hW0]
  clear hW0
  refine (der_OID _ xs W0 (HS.out.below HB0.out) ho hl).mono ?_
  rintro e w1 ⟨v1, rfl, hn, hb⟩
  obtain ⟨A1, c1, A2, c2, rfl, hs⟩ := hn.leafAt
  have HSL := Ho.mk hs
  have HR1 := Ho.mk ((hb.block w.heap.size (Array.getElem?_eq_some_iff.1 HR0.out).1).trans HR0.out)
  have HB1 := Ho.mk (below_base HB0.out HB0.out.size hb)
  obtain ⟨f0, f1, f2, z0, z1, z2⟩ := cell3 HR1.out
  have hz : w.heap.size < w1.heap.size := (Array.getElem?_eq_some_iff.1 HR1.out).1
  clear hb hn hs
  go_wp2_with fail
  refine bodyPost_ret (v := .agg #[.int .i64 6, .slice A1 (oidB xs).length c1, .slice A2 0 c2]) (by simp [results, Tryz.results177, go_sem, f0, f1, f2, hz]) rfl ⟨A1, c1, A2, c2, rfl, ?_, ?_⟩
  · refine HSL.out.keepRow (((((BelowX.refl _ _).setCell 0 _).setCell 1 _).setCell 2 _).alloc _) HR1.out fun j q => ?_
    match j with
    | 0 => simp
    | 1 => simp
    | 2 => simp
    | j + 3 => simp
  · exact (Below.setCell (p := ⟨w.heap.size, 2, none⟩) (Below.setCell (p := ⟨w.heap.size, 1, none⟩) (Below.setCell (p := ⟨w.heap.size, 0, none⟩) HB1.out (Nat.le_refl _) _) (Nat.le_refl _) _) (Nat.le_refl _) _).alloc (by simp; omega) _

def arcsC (c : Int) : List Int := if c = 1 then [1, 2, 840, 10045, 3, 1, 7] else [1, 3, 132, 0, 34]
def LeafB (t : Int) (b : List Int) (w : World) (e : Ending) (w' : World) : Prop :=
  ∃ A1 c1 A2 c2, e = .returned (.tuple #[.agg #[.int .i64 t, .slice A1 b.length c1, .slice A2 0 c2], .bool true]) ∧ SlI w' .u8 (.slice A1 b.length c1) b ∧ Below w.heap.size w w'
theorem arcs_ok (c : Int) : arcsOk (arcsC c) := by
  unfold arcsC
  split
  · refine ⟨by decide, by decide, by decide, fun j hj => ?_⟩
    match j, hj with
    | 0, _ => decide
    | 1, _ => decide
    | 2, _ => decide
    | 3, _ => decide
    | 4, _ => decide
    | 5, _ => decide
    | 6, _ => decide
  · refine ⟨by decide, by decide, by decide, fun j hj => ?_⟩
    match j, hj with
    | 0, _ => decide
    | 1, _ => decide
    | 2, _ => decide
    | 3, _ => decide
    | 4, _ => decide
set_option maxRecDepth 100000 in
theorem keyfmt_params (c : Int) (w : World) (hc : c = 1 ∨ c = 2) :
    Calls Tryz.prog 91 #[.int .i64 c] w (LeafB 6 (oidB (arcsC c)) w) := by
  rcases hc with rfl | rfl
  · go_enter Tryz.func91, Tryz.ntmps91
    go_wp2_with fail
    have HS0 := Ho.mk ((OwI.lit' (w := w.alloc (.cells #[.int .i64 0, .slice none 0 0, .slice none 0 0] 123)) w.heap.size 3 .i64 (arcsC 1) (w.heap.size + 1) (by simp) rfl (by simp) (by decide)).val.sl)
    obtain ⟨W0, hW0⟩ : ∃ W0, (w.alloc (.cells #[.int .i64 0, .slice none 0 0, .slice none 0 0] 123)).alloc (.cells ((arcsC 1).map (Value.int .i64)).toArray 3) = W0 := ⟨_, rfl⟩
    have HB0 : Ho (Below w.heap.size w W0) := ⟨hW0 ▸ ((Below.refl _ _).alloc (Nat.le_refl _) _).alloc (by simp) _⟩
    have HR0 : Ho (W0.heap[w.heap.size]? = some (.cells #[.int .i64 0, .slice none 0 0, .slice none 0 0] 123 (0, 0))) := ⟨hW0 ▸ (Below.heap_alloc _ _ _ (by simp)).trans (heap_alloc_new w _)⟩
    rw [hW0] at HS0
    refine (show Calls _ _ _ _ _ from hW0 ▸ keyfmt_name _ (arcsC 1) W0 HS0.out (arcs_ok 1) (by decide)).mono ?_
    rintro e w1 ⟨A1, c1, A2, c2, rfl, hs, hb⟩
    rw [hW0] at hb
    have HSL := Ho.mk hs
    have HR1 := Ho.mk ((hb.block w.heap.size (Array.getElem?_eq_some_iff.1 HR0.out).1).trans HR0.out)
    have HB1 := Ho.mk (below_base HB0.out HB0.out.size hb)
    obtain ⟨f0, f1, f2, z0, z1, z2⟩ := cell3 HR1.out
    have hz : w.heap.size < w1.heap.size := (Array.getElem?_eq_some_iff.1 HR1.out).1
    clear hb hs hW0
    go_wp2_with fail
    refine bodyPost_ret (v := .tuple #[.agg #[.int .i64 6, .slice A1 (oidB (arcsC 1)).length c1, .slice A2 0 c2], .bool true]) (by simp [results, Tryz.results91, go_sem, f0, f1, f2, hz]) rfl ⟨A1, c1, A2, c2, rfl, ?_, ?_⟩
    · refine HSL.out.keepRow ((((BelowX.refl _ _).setCell 0 _).setCell 1 _).setCell 2 _) HR1.out fun j q => ?_
      match j with
      | 0 => simp
      | 1 => simp
      | 2 => simp
      | j + 3 => simp
    · exact Below.setCell (p := ⟨w.heap.size, 2, none⟩) (Below.setCell (p := ⟨w.heap.size, 1, none⟩) (Below.setCell (p := ⟨w.heap.size, 0, none⟩) HB1.out (Nat.le_refl _) _) (Nat.le_refl _) _) (Nat.le_refl _) _
  · go_enter Tryz.func91, Tryz.ntmps91
    go_wp2_with fail
    have HS0 := Ho.mk ((OwI.lit' (w := w.alloc (.cells #[.int .i64 0, .slice none 0 0, .slice none 0 0] 123)) w.heap.size 3 .i64 (arcsC 2) (w.heap.size + 1) (by simp) rfl (by simp) (by decide)).val.sl)
    obtain ⟨W0, hW0⟩ : ∃ W0, (w.alloc (.cells #[.int .i64 0, .slice none 0 0, .slice none 0 0] 123)).alloc (.cells ((arcsC 2).map (Value.int .i64)).toArray 3) = W0 := ⟨_, rfl⟩
    have HB0 : Ho (Below w.heap.size w W0) := ⟨hW0 ▸ ((Below.refl _ _).alloc (Nat.le_refl _) _).alloc (by simp) _⟩
    have HR0 : Ho (W0.heap[w.heap.size]? = some (.cells #[.int .i64 0, .slice none 0 0, .slice none 0 0] 123 (0, 0))) := ⟨hW0 ▸ (Below.heap_alloc _ _ _ (by simp)).trans (heap_alloc_new w _)⟩
    rw [hW0] at HS0
    refine (show Calls _ _ _ _ _ from hW0 ▸ keyfmt_name _ (arcsC 2) W0 HS0.out (arcs_ok 2) (by decide)).mono ?_
    rintro e w1 ⟨A1, c1, A2, c2, rfl, hs, hb⟩
    rw [hW0] at hb
    have HSL := Ho.mk hs
    have HR1 := Ho.mk ((hb.block w.heap.size (Array.getElem?_eq_some_iff.1 HR0.out).1).trans HR0.out)
    have HB1 := Ho.mk (below_base HB0.out HB0.out.size hb)
    obtain ⟨f0, f1, f2, z0, z1, z2⟩ := cell3 HR1.out
    have hz : w.heap.size < w1.heap.size := (Array.getElem?_eq_some_iff.1 HR1.out).1
    clear hb hs hW0
    go_wp2_with fail
    refine bodyPost_ret (v := .tuple #[.agg #[.int .i64 6, .slice A1 (oidB (arcsC 2)).length c1, .slice A2 0 c2], .bool true]) (by simp [results, Tryz.results91, go_sem, f0, f1, f2, hz]) rfl ⟨A1, c1, A2, c2, rfl, ?_, ?_⟩
    · refine HSL.out.keepRow ((((BelowX.refl _ _).setCell 0 _).setCell 1 _).setCell 2 _) HR1.out fun j q => ?_
      match j with
      | 0 => simp
      | 1 => simp
      | 2 => simp
      | j + 3 => simp
    · exact Below.setCell (p := ⟨w.heap.size, 2, none⟩) (Below.setCell (p := ⟨w.heap.size, 1, none⟩) (Below.setCell (p := ⟨w.heap.size, 0, none⟩) HB1.out (Nat.le_refl _) _) (Nat.le_refl _) _) (Nat.le_refl _) _

/-! ### keyfmt.which of the node without anything; ReadParams of no bytes -/
set_option maxRecDepth 100000 in
set_option maxHeartbeats 1000000 in
theorem keyfmt_which_none (w : World) : Calls Tryz.prog 113 #[.agg #[.int .i64 0, .slice none 0 0, .slice none 0 0]] w fun e w' => e = .returned (.int .i64 0) ∧ Below w.heap.size w w' := by
  go_enter Tryz.func113, Tryz.ntmps113
  go_wp2
  obtain ⟨W0, hW0⟩ : ∃ W0, (w.alloc (.cells #[.int .i64 0, .slice none 0 0, .slice none 0 0] 123)).alloc (.cells #[.int .i64 1, .int .i64 2] 3) = W0 := ⟨_, rfl⟩
  have HB0 : Ho (Below w.heap.size w W0) := ⟨hW0 ▸ ((Below.refl _ _).alloc (Nat.le_refl _) _).alloc (by simp) _⟩
  have HR0 : Ho (W0.heap[w.heap.size]? = some (.cells #[.int .i64 0, .slice none 0 0, .slice none 0 0] 123 (0, 0))) := ⟨hW0 ▸ (Below.heap_alloc _ _ _ (by simp)).trans (heap_alloc_new w _)⟩
  have HR1 : Ho (W0.heap[w.heap.size + 1]? = some (.cells #[.int .i64 1, .int .i64 2] 3 (0, 0))) := ⟨by
    have := heap_alloc_new (w.alloc (.cells #[.int .i64 0, .slice none 0 0, .slice none 0 0] 123)) (.cells #[.int .i64 1, .int .i64 2] 3)
    rw [World.size_alloc, hW0] at this
    exact this⟩
  rw [hW0]
  clear hW0
  go_loopg [9] 2 (fun g s9 wx => ∃ r : Nat, r + g = 2 ∧ s9 = .int .i64 r ∧ Ho (Below W0.heap.size W0 wx))
  case atStart => exact ⟨0, rfl, rfl, ⟨Below.refl _ _⟩⟩
  case round =>
    obtain ⟨r, hrg, rfl, hB⟩ := hrel
    have HBw := Ho.mk (below_base HB0.out HB0.out.size hB.out)
    have HX0 := Ho.mk ((hB.out.block _ (Array.getElem?_eq_some_iff.1 HR0.out).1).trans HR0.out)
    have HX1 := Ho.mk ((hB.out.block _ (Array.getElem?_eq_some_iff.1 HR1.out).1).trans HR1.out)
    obtain ⟨f0, _, _, _, _, _⟩ := cell3 HX0.out
    obtain ⟨k0, k1, _, _⟩ := cell2 HX1.out
    by_cases hr : r < 2
    · have hcell : wr.cell? ⟨w.heap.size + 1, r, none⟩ = some (.int .i64 ((r : Int) + 1)) := by
        rcases (show r = 0 ∨ r = 1 by omega) with rfl | rfl
        · exact k0
        · exact k1
      have hc12 : (r : Int) + 1 = 1 ∨ (r : Int) + 1 = 2 := by omega
      have HC12 := Ho.mk hc12
      clear k0 k1 hc12
      go_wp2_with fail
      refine (keyfmt_params ((r : Int) + 1) wr HC12.out).mono ?_
      rintro e w1 ⟨A1, c1, A2, c2, rfl, hs, hb⟩
      have d0 := cell_below hb f0
      have HB1 := Ho.mk (below_base hB.out hB.out.size hb)
      have hz : w.heap.size < w1.heap.size := World.block_lt_of_cell? w1 _ d0
      clear hb hs f0 hcell
      go_wp2
      go_roundg (1 - r)
      case measure => omega
      case rel => exact ⟨r + 1, by omega, by go_num, ⟨HB1.out.alloc HB1.out.size _⟩⟩
    · have e : r = 2 := by omega
      subst e
      go_wp2
      go_ret
      exact ⟨rfl, HBw.out⟩

set_option maxRecDepth 100000 in
theorem keyfmt_ReadParams_nil (w : World) : Calls Tryz.prog 53 #[.slice none 0 0] w fun e w' => e = .returned (.tuple #[.int .i64 0, .bool false]) ∧ Below w.heap.size w w' := by
  go_enter Tryz.func53, Tryz.ntmps53
  go_wp2_with fail
  refine (keyfmt_read_nil w).mono ?_
  rintro e w1 ⟨rfl, hb⟩
  have HB1 := Ho.mk hb
  clear hb
  go_wp2_with fail
  refine (keyfmt_which_none _).mono ?_
  rintro e w2 ⟨rfl, hb⟩
  have HB2 := Ho.mk (below_base (HB1.out.alloc HB1.out.size _) (by have := HB1.out.size; simp; omega) hb)
  clear hb
  go_wp2
  go_ret2
  exact ⟨rfl, HB2.out⟩

end Go.Proofs.YthjcldkaodmfoaaGreat
