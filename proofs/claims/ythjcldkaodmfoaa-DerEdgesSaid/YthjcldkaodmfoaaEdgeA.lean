/-
  What begun of the eleventh law package returns. Conditions: those that each theorem types.
-/
import Derived.Test.YthjcldkaodmfoaaDerK
import Derived.Test.YthjcldkaodmfoaaStr
namespace Go.Proofs.Ythjcldkaodmfoaa
open Go.RowKit

theorem NdV.leafShape {w : World} {v : Value} {t : Int} {b : List Int} (h : NdV 1 w v (.mk t b [])) : ∃ A1 c1 A2 c2, v = .agg #[.int .i64 t, .slice A1 b.length c1, .slice A2 0 c2] ∧ SlI w .u8 (.slice A1 b.length c1) b := by
  obtain ⟨bv, A, c, rfl, hb, _⟩ := h
  obtain ⟨A', c', rfl, _⟩ := hb
  exact ⟨A', c', A, c, rfl, ⟨A', c', rfl, by assumption⟩⟩
theorem row_below {w w1 : World} {b : Nat} {r : Obj} (h : Below w.heap.size w w1) (hr : w.heap[b]? = some r) : w1.heap[b]? = some r := (h.block b (Array.getElem?_eq_some_iff.1 hr).1).trans hr
def bgE : List Int := [2, 2, 0, 128]
theorem bg_enc : (intNd 128).enc = bgE := by rw [int_enc]; decide
theorem bg_nd : intNd 128 = .mk 2 [0, 128] [] := by unfold intNd; congr 1
theorem bg_dg : Dg 256 bgE := Dg.cons (by decide) (by decide) (Dg.cons (by decide) (by decide) (Dg.cons (by decide) (by decide) (Dg.one (by decide) (by decide))))
theorem bg_hd3 : hd3 bgE = some (2, [0, 128], []) := by decide
theorem bg_str : strOf bgE = { data := #[2, 2, 0, 128] } := by decide
theorem bg_arcs : arcsOk [1, 2, 840] := by
  refine ⟨by decide, by decide, by decide, fun j hj => ?_⟩
  match j, hj with
  | 0, _ => decide
  | 1, _ => decide
  | 2, _ => decide
theorem bg_dg128 : Dg W64 [128] := Dg.one (by decide) (by decide)
theorem bg_nv : nvB W64 [128] = 128 := by decide
theorem bg_len : ∀ ys : List Int, Nm W64 ys → nvB W64 ys = bev [0, 128] → ys.length = 1 := by
  intro ys h e
  have e2 : bev [0, 128] = 128 := by decide
  have h1 := h.inj (ys := [128]) ⟨bg_dg128, .inr (by decide)⟩ W64_one (by rw [e, e2, bg_nv])
  rw [h1]; rfl

theorem run_neq_func_nil {P : Program} (w : World) {t : TypeId} {ps rs : Array TypeId} {v : Bool} (fn : Fn) (a b : Array Value) (ht : P.underlying t = some (.func ps rs v)) :
    (binOp .neq t (.func fn a b) .nilFunc).run P w = .ok (.bool true) w := by
  have h : ∀ d : Nat, (Op.equalIn (d + 1) t (.func fn a b) .nilFunc).run P w = .ok false w := fun d => by
    simp [Op.equalIn, run_underlying ht]
  simp only [binOp]
  simp [Op.equal, Op.maxDepth, h 9999]

set_option maxHeartbeats 1000000 in
set_option maxRecDepth 100000 in
theorem law11_begun (w : World) :
    Calls Try.prog 5 #[] w fun e w' => e = .returned (.bool true) ∧ Below w.heap.size w w' := by
  go_enter Try.func5, Try.ntmps5
  go_wp2_with fail
  refine (der_Int _ [128] _ (sl_one _ _ _ _) bg_dg128 (by decide)).mono ?_
  rintro e w1 ⟨v1, rfl, hn1, hb1⟩
  rw [bg_nv, bg_nd] at hn1
  obtain ⟨A1, c1, A2, c2, rfl, hs1⟩ := hn1.leafShape
  have HN1 := Ho.mk hn1
  have HB1 := Ho.mk (below_base ((Below.refl w.heap.size w).alloc (Nat.le_refl _) (.cells #[.int .u64 128] 26)) (by simp) hb1)
  clear hn1 hb1 hs1
  go_wp2_with fail
  have hx1 : Below w1.heap.size w1 (w1.alloc (.cells #[.int .i64 2, .slice A1 2 c1, .slice A2 0 c2] 35)) := (Below.refl _ _).alloc (Nat.le_refl _) _
  have R1 := heap_alloc_new w1 (.cells #[.int .i64 2, .slice A1 2 c1, .slice A2 0 c2] 35)
  refine (der_Write 1 _ _ _ (HN1.out.below hx1)).mono ?_
  rintro e w2 ⟨hb2, ⟨hbad, _⟩ | ⟨_, v2, rfl, ho2⟩⟩
  · rw [← bg_nd] at hbad
    unfold Nd.wr at hbad
    rw [if_pos ⟨int_ok 128, by rw [bg_enc]; decide⟩] at hbad
    exact absurd hbad (by simp)
  rw [← bg_nd, bg_enc] at ho2
  have R2 := row_below hb2 R1
  have HB2 := Ho.mk (below_base HB1.out HB1.out.size (below_base hx1 hx1.size hb2))
  have HN2 := Ho.mk ((HN1.out.below hx1).below hb2)
  have HO2 := Ho.mk ho2.sl
  obtain ⟨A3, c3, e3, _⟩ := ho2.sl
  change v2 = .slice A3 4 c3 at e3
  subst e3
  have HR2 := Ho.mk R2
  clear hx1 R1 hb2 ho2 R2
  go_wp2_with fail
  refine (der_Read_leaf _ bgE 2 [0, 128] [] w2 HO2.out bg_dg bg_hd3 (by decide) (by decide) (by decide) (by decide)).mono ?_
  rintro e w3 ⟨v3, rfl, hs3, hb3⟩
  have HR3 := Ho.mk (row_below hb3 HR2.out)
  have HB3 := Ho.mk (below_base HB2.out HB2.out.size hb3)
  have HN3 := Ho.mk (HN2.out.below hb3)
  have HO3 := Ho.mk (HO2.out.below hb3)
  have HS3 := Ho.mk hs3
  obtain ⟨A4, c4, e4, _⟩ := hs3
  change v3 = .slice A4 2 c4 at e4
  subst e4
  rw [show ((bgE.length - ([] : List Int).length : Nat) : Int) = 4 from rfl]
  clear hb3 HR2 HB2 HN2 HO2
  go_wp2_with fail
  obtain ⟨W4, hW4⟩ : ∃ W4, (w3.alloc (.cells #[.int .i64 2, .slice A4 2 c4, .slice none 0 0] 35)).alloc (.cells #[.int .i64 1, .int .i64 2, .int .i64 840] 3) = W4 := ⟨_, rfl⟩
  have hb4 : Below w3.heap.size w3 W4 := hW4 ▸ ((Below.refl _ _).alloc (Nat.le_refl _) _).alloc (by simp) _
  have R4 : W4.heap[w3.heap.size]? = some (.cells #[.int .i64 2, .slice A4 2 c4, .slice none 0 0] 35 (0, 0)) := hW4 ▸ heap_alloc2_old _ _ _
  have S4 : SlI W4 .i64 (.slice (some ⟨w3.heap.size + 1, 0, none⟩) 3 3) [1, 2, 840] := by
    have hr : W4.heap[w3.heap.size + 1]? = some (.cells #[.int .i64 1, .int .i64 2, .int .i64 840] 3 (0, 0)) := by
      have := heap_alloc_new (w3.alloc (.cells #[.int .i64 2, .slice A4 2 c4, .slice none 0 0] 35)) (.cells #[.int .i64 1, .int .i64 2, .int .i64 840] 3)
      rw [World.size_alloc, hW4] at this
      exact this
    refine SlI.mk (xs := [1, 2, 840]) (by decide) (by decide) (fun e => by simp at e) fun _ => ⟨_, 0, rfl, fun j hj => ?_⟩
    match j, hj with
    | 0, _ => exact cell_of_row _ _ _ _ _ _ hr
    | 1, _ => exact cell_of_row _ _ _ _ _ _ hr
    | 2, _ => exact cell_of_row _ _ _ _ _ _ hr
  rw [hW4]
  refine (der_OID _ [1, 2, 840] W4 S4 bg_arcs (by decide)).mono ?_
  rintro e w5 ⟨v5, rfl, hn5, hb5⟩
  rw [ar_oid] at hn5
  have HB5 := Ho.mk (below_base (below_base HB3.out HB3.out.size hb4) (Nat.le_trans HB3.out.size hb4.size) hb5)
  have HR5 := Ho.mk (row_below hb5 (row_below hb4 HR3.out))
  have HQ5 := Ho.mk (row_below hb5 R4)
  have HN3 := Ho.mk ((HN3.out.below hb4).below hb5)
  have HO3 := Ho.mk ((HO3.out.below hb4).below hb5)
  have HS3 := Ho.mk ((HS3.out.below hb4).below hb5)
  obtain ⟨A6, c6, A7, c7, rfl, _⟩ := hn5.leafShape
  have HN5 := Ho.mk hn5
  clear hn5 hb4 hb5 R4 S4 hW4 HR3 HB3
  go_wp2_with fail
  have hx6 : Below w5.heap.size w5 (w5.alloc (.cells #[.int .i64 6, .slice A6 arB.length c6, .slice A7 0 c7] 35)) := (Below.refl _ _).alloc (Nat.le_refl _) _
  refine (der_Arcs_ar 1 _ _ (HN5.out.below hx6)).mono ?_
  rintro e w6 ⟨v6, rfl, ho6, hb6⟩
  have HB6 := Ho.mk (below_base HB5.out HB5.out.size (below_base hx6 hx6.size hb6))
  have HR6 := Ho.mk (row_below hb6 (row_below hx6 HR5.out))
  have HQ6 := Ho.mk (row_below hb6 (row_below hx6 HQ5.out))
  have HN6 := Ho.mk ((HN3.out.below hx6).below hb6)
  have HO6 := Ho.mk ((HO3.out.below hx6).below hb6)
  have HS6 := Ho.mk ((HS3.out.below hx6).below hb6)
  obtain ⟨A8, c8, e8, _⟩ := ho6.sl
  change v6 = .slice A8 3 c8 at e8
  subst e8
  obtain ⟨q0, q1, q2, _⟩ := cell3 HQ6.out
  clear hx6 ho6 hb6 HB5 HR5 HQ5 HN3 HO3 HS3 HN5
  go_wp2_with fail
  refine (der_Nat_num 1 [0, 128] _ _ (NdV.leaf HS6.out (Dg.cons (by decide) (by decide) (Dg.one (by decide) (by decide))) (by decide)) (leaf_ok _ _ (by decide) (by decide))).mono ?_
  rintro e w7 ⟨v7, ys, rfl, hm7, hv7, ho7, hb7⟩
  have HB7 := Ho.mk (below_base HB6.out HB6.out.size hb7)
  have HR7 := Ho.mk (row_below hb7 HR6.out)
  have HN7 := Ho.mk (HN6.out.below hb7)
  have HO7 := Ho.mk (HO6.out.below hb7)
  have hyl := bg_len ys hm7 hv7
  obtain ⟨A9, c9, e9, _⟩ := ho7.sl
  rw [hyl] at e9
  subst e9
  obtain ⟨p0, p1, p2, _⟩ := cell3 HR7.out
  clear hyl hm7 hv7 ho7 hb7 HB6 HR6 HN6 HO6 q0 q1 q2
  go_wp2_with fail
  refine (der_Walk 1 _ _ _ HN7.out).mono ?_
  rintro e w8 ⟨fn, fa, fb, rfl, hb8⟩
  have HB8 := Ho.mk (below_base HB7.out HB7.out.size hb8)
  have HN8 := Ho.mk (HN7.out.below hb8)
  have hs8 := HO7.out.below hb8
  obtain ⟨p0, p1, p2, _⟩ := cell3 (row_below hb8 HR7.out)
  have hst := run_string (src := 30) (dst := 9) (e := 5) Try.underlying30 Try.underlying5 Try.underlying9 hs8 bg_dg
  rw [bg_str] at hst
  have hnf := run_neq_func_nil w8 fn fa fb Try.underlying56
  clear hb8 HB7 HR7 HN7 HO7 hs8
  go_wp2_with fail
  refine (der_May 1 _ _ _ HN8.out).mono ?_
  rintro e w9 ⟨rfl, hb9⟩
  rw [show (Nd.mk 2 [0, 128] []).ok = true from leaf_ok _ _ (by decide) (by decide)]
  have HB9 := Ho.mk (below_base HB8.out HB8.out.size hb9)
  clear hb9
  go_wp2
  go_ret
  exact ⟨rfl, HB9.out⟩

end Go.Proofs.Ythjcldkaodmfoaa
