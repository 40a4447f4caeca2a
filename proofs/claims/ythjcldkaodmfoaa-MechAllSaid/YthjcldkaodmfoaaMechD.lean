/-
  What mechs.All, Key, Uses, Multi return, and Param and May at some mechanisms. Conditions: those that each theorem types.
-/
import Derived.Test.YthjcldkaodmfoaaMechC
import Derived.Test.YthjcldkaodmfoaaDerB
namespace Go.Proofs.Ythjcldkaodmfoaa
open Go.RowKit Go.Shelf

theorem mechs_All (w : World) : Calls Try.prog 19 #[] w fun e w' => e = .returned (.func (.func 36) #[] #[]) ∧ w = w' := by
  go_enter Try.func19, Try.ntmps19
  go_wp2
  go_ret
  exact ⟨rfl, rfl⟩

def keyOf (m : Mc) : Int × Bool := if m.key < 0 then (0, false) else (m.key, true)

set_option maxRecDepth 100000 in
theorem mechs_Key (kind : Int) (w : World) : Calls Try.prog 31 #[.int .i64 kind] w fun e w' => e = .returned (.tuple #[.int .i64 (keyOf (ofM kind)).1, .bool (keyOf (ofM kind)).2]) ∧ Below w.heap.size w w' := by
  have HO := Ho.mk (mechs_of kind w)
  obtain ⟨m, HM⟩ : ∃ m, Ho (ofM kind = m) := ⟨_, ⟨rfl⟩⟩
  rw [HM.out]
  by_cases hk : m.key < 0
  · have hkk : keyOf m = (0, false) := by unfold keyOf; rw [if_pos hk]
    rw [hkk]
    have q : decide (m.key < 0) = true := dect hk
    clear hk hkk
    go_enter Try.func31, Try.ntmps31
    go_wp2_with fail
    refine HO.out.mono ?_
    rintro e w1 ⟨rfl, hb⟩
    rw [HM.out]
    clear HM
    obtain ⟨pk, pu, py, pm, pp⟩ := m
    cases pp <;> simp only [Mc.enc, parV] <;> (go_wp2; go_ret2; exact ⟨rfl, (hb.alloc hb.size _)⟩)
  · have hkk : keyOf m = (m.key, true) := by unfold keyOf; rw [if_neg hk]
    rw [hkk]
    have q : decide (m.key < 0) = false := decf hk
    clear hk hkk
    go_enter Try.func31, Try.ntmps31
    go_wp2_with fail
    refine HO.out.mono ?_
    rintro e w1 ⟨rfl, hb⟩
    rw [HM.out]
    clear HM
    obtain ⟨pk, pu, py, pm, pp⟩ := m
    cases pp <;> simp only [Mc.enc, parV] <;> (go_wp2; go_ret2; exact ⟨rfl, (hb.alloc hb.size _)⟩)

set_option maxRecDepth 100000 in
theorem mechs_Uses (kind : Int) (w : World) : Calls Try.prog 32 #[.int .i64 kind] w fun e w' => e = .returned (.int .i64 (ofM kind).uses) ∧ Below w.heap.size w w' := by
  have HO := Ho.mk (mechs_of kind w)
  obtain ⟨m, HM⟩ : ∃ m, Ho (ofM kind = m) := ⟨_, ⟨rfl⟩⟩
  rw [HM.out]
  go_enter Try.func32, Try.ntmps32
  go_wp2_with fail
  refine HO.out.mono ?_
  rintro e w1 ⟨rfl, hb⟩
  rw [HM.out]
  clear HM
  obtain ⟨pk, pu, py, pm, pp⟩ := m
  simp only [Mc.enc]
  have hfd : ∀ W : World, (Instr.field 82 (.agg #[.int .i64 pk, .int .i64 pu, .int .i64 py, .bool pm, parV pp]) 1).run Try.prog W = .ok (.int .i64 pu) W := fun _ => by kernel_rfl
  go_wp2
  go_ret
  exact ⟨rfl, hb⟩

set_option maxRecDepth 100000 in
theorem mechs_Multi (kind : Int) (w : World) : Calls Try.prog 34 #[.int .i64 kind] w fun e w' => e = .returned (.bool (ofM kind).multi) ∧ Below w.heap.size w w' := by
  have HO := Ho.mk (mechs_of kind w)
  obtain ⟨m, HM⟩ : ∃ m, Ho (ofM kind = m) := ⟨_, ⟨rfl⟩⟩
  rw [HM.out]
  go_enter Try.func34, Try.ntmps34
  go_wp2_with fail
  refine HO.out.mono ?_
  rintro e w1 ⟨rfl, hb⟩
  rw [HM.out]
  clear HM
  obtain ⟨pk, pu, py, pm, pp⟩ := m
  simp only [Mc.enc]
  have hfd : ∀ W : World, (Instr.field 82 (.agg #[.int .i64 pk, .int .i64 pu, .int .i64 py, .bool pm, parV pp]) 3).run Try.prog W = .ok (.bool pm) W := fun _ => by kernel_rfl
  go_wp2
  go_ret
  exact ⟨rfl, hb⟩

theorem run_eql_nil_nil {P : Program} (w : World) {t : TypeId} {ps rs : Array TypeId} {v : Bool} (ht : P.underlying t = some (.func ps rs v)) :
    (binOp .eql t .nilFunc .nilFunc).run P w = .ok (.bool true) w := by
  have h : ∀ d : Nat, (Op.equalIn (d + 1) t .nilFunc .nilFunc).run P w = .ok true w := fun d => by
    simp [Op.equalIn, run_underlying ht]
  simp only [binOp]
  simp [Op.equal, Op.maxDepth, h 9999]
theorem run_eql_func_nil {P : Program} (w : World) {t : TypeId} {ps rs : Array TypeId} {v : Bool} (fn : Fn) (a b : Array Value) (ht : P.underlying t = some (.func ps rs v)) :
    (binOp .eql t (.func fn a b) .nilFunc).run P w = .ok (.bool false) w := by
  have h : ∀ d : Nat, (Op.equalIn (d + 1) t (.func fn a b) .nilFunc).run P w = .ok false w := fun d => by
    simp [Op.equalIn, run_underlying ht]
  simp only [binOp]
  simp [Op.equal, Op.maxDepth, h 9999]

set_option maxRecDepth 100000 in
/-- A parameter where none may be. -/
theorem mechs_Param_none (kind : Int) (v : Value) (b : List Int) (w : World) (h : SlI w .u8 v b) (hm : (ofM kind).par = none) (hu : (ofM kind).uses ≠ 0) :
    Calls Try.prog 33 #[.agg #[.int .i64 kind, v]] w fun e w' => e = .returned (.bool (decide (b.length = 0))) ∧ Below w.heap.size w w' := by
  obtain ⟨A, c, rfl, h1, h2, h3, hr⟩ := h
  obtain ⟨m, HM⟩ : ∃ m, Ho (ofM kind = m) := ⟨_, ⟨rfl⟩⟩
  rw [HM.out] at hm hu
  obtain ⟨W0, hW0⟩ : ∃ W0, w.alloc (.cells #[.int .i64 kind, .slice A b.length c] 74) = W0 := ⟨_, rfl⟩
  have HB0 : Ho (Below w.heap.size w W0) := ⟨hW0 ▸ (Below.refl _ _).alloc (Nat.le_refl _) _⟩
  have hrow : W0.heap[w.heap.size]? = some (.cells #[.int .i64 kind, .slice A b.length c] 74 (0, 0)) := hW0 ▸ heap_alloc_new w _
  have k0 : W0.cell? ⟨w.heap.size, 0, none⟩ = some (.int .i64 kind) := cell_of_row _ w.heap.size 0 _ _ _ hrow
  have HR0 := Ho.mk hrow
  clear hrow
  go_enter Try.func33, Try.ntmps33
  go_wp2_with fail
  refine (mechs_of kind W0).mono ?_
  rintro e w1 ⟨rfl, hb⟩
  rw [HM.out]
  have HB1 := Ho.mk (below_base HB0.out HB0.out.size hb)
  have k1 : w1.cell? ⟨w.heap.size, 1, none⟩ = some (.slice A b.length c) := cell_of_row _ w.heap.size 1 _ _ _ (rowB hb HR0.out)
  have hlt : w.heap.size < w1.heap.size := (Array.getElem?_eq_some_iff.1 (rowB hb HR0.out)).1
  have k2 := cell_below ((Below.refl w1.heap.size w1).alloc (Nat.le_refl _) (.cells m.cells.toArray 82)) k1
  clear HM hb hW0
  obtain ⟨pk, pu, py, pm, pp⟩ := m
  dsimp only at hm hu
  subst hm
  simp only [Mc.cells, parV] at k2
  have q : (pu == 0) = false := beq_eq_false_iff_ne.2 hu
  simp only [Mc.enc, parV]
  have hnn := fun W => run_eql_nil_nil (P := Try.prog) W Try.underlying80
  go_wp2
  go_ret
  exact ⟨ret_bool (Bool.eq_iff_iff.2 (by simp only [beq_iff_eq, decide_eq_true_eq]; omega)), HB1.out.alloc HB1.out.size _⟩

theorem of544 : ofM 544 = ⟨544, 1, -1, true, none⟩ := by rfl
theorem of592 : ofM 592 = ⟨592, 1, -1, true, none⟩ := by rfl
theorem of4176 : (ofM 4176).uses = 512 := by rfl
theorem of4231 : keyOf (ofM 4231) = (31, true) := by rfl

set_option maxRecDepth 100000 in
/-- May a digest be taken so? -/
theorem mechs_May_544 (w : World) : Calls Try.prog 35 #[.int .i64 1, .agg #[.int .i64 544, .slice none 0 0], .slice none 0 0] w fun e w' => e = .returned (.int .i64 0) ∧ Below w.heap.size w w' := by
  obtain ⟨W0, hW0⟩ : ∃ W0, w.alloc (.cells #[.int .i64 544, .slice none 0 0] 74) = W0 := ⟨_, rfl⟩
  have HB0 : Ho (Below w.heap.size w W0) := ⟨hW0 ▸ (Below.refl _ _).alloc (Nat.le_refl _) _⟩
  have hrow : W0.heap[w.heap.size]? = some (.cells #[.int .i64 544, .slice none 0 0] 74 (0, 0)) := hW0 ▸ heap_alloc_new w _
  have k0 : W0.cell? ⟨w.heap.size, 0, none⟩ = some (.int .i64 544) := cell_of_row _ w.heap.size 0 _ _ _ hrow
  have HR0 := Ho.mk hrow
  have b1 : bits .and .i64 1 0 = 0 := by decide
  have b2 : bits .and .i64 1 1 = 1 := by decide
  clear hrow
  go_enter Try.func35, Try.ntmps35
  go_wp2_with fail
  refine (mechs_of 544 W0).mono ?_
  rintro e w1 ⟨rfl, hb⟩
  rw [of544]
  simp only [Mc.enc, parV]
  have HB1 := Ho.mk (below_base HB0.out HB0.out.size hb)
  have hlt : w.heap.size < w1.heap.size := (Array.getElem?_eq_some_iff.1 (rowB hb HR0.out)).1
  have hrw : (w1.alloc (.cells #[.int .i64 544, .int .i64 1, .int .i64 (-1), .bool true, .nilFunc] 82)).heap[w.heap.size]? = _ := rowB ((Below.refl w1.heap.size w1).alloc (Nat.le_refl _) _) (rowB hb HR0.out)
  have k1 : (w1.alloc (.cells #[.int .i64 544, .int .i64 1, .int .i64 (-1), .bool true, .nilFunc] 82)).cell? ⟨w.heap.size, 0, none⟩ = some (.int .i64 544) := cell_of_row _ w.heap.size 0 _ _ _ hrw
  have k2 : (w1.alloc (.cells #[.int .i64 544, .int .i64 1, .int .i64 (-1), .bool true, .nilFunc] 82)).cell? ⟨w.heap.size, 1, none⟩ = some (.slice none 0 0) := cell_of_row _ w.heap.size 1 _ _ _ hrw
  clear hb hW0 hrw
  go_wp2_with fail
  refine (mechs_Param_none 544 (.slice none 0 0) [] _ (SlI.nil _ _) (by rw [of544]) (by rw [of544]; decide)).mono ?_
  rintro e w2 ⟨rfl, hb2⟩
  have HB2 := Ho.mk (below_base (HB1.out.alloc HB1.out.size (.cells #[.int .i64 544, .int .i64 1, .int .i64 (-1), .bool true, .nilFunc] 82)) (by have := HB1.out.size; simp; omega) hb2)
  clear hb2
  go_wp2
  go_ret
  exact ⟨rfl, HB2.out⟩

end Go.Proofs.Ythjcldkaodmfoaa
