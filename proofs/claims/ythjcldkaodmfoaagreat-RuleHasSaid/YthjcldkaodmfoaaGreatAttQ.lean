/-
  What may be changed in an object: rules.changes, with, Set. Conditions: the attributes' values are bytes, of no great length.
-/
import Derived.Test.YthjcldkaodmfoaaGreatAttO
import Derived.Deep.RegionHeld3
namespace Go.Proofs.YthjcldkaodmfoaaGreat
open Go.RowKit Go.Shelf

/-- Why an attribute may not be changed; 0: it may. -/
def chgB (t : Int) (was now copying : Bool) : Bool :=
  if t = 3 ∨ t = 258 ∨ t = 260 ∨ t = 261 ∨ t = 262 ∨ t = 263 ∨ t = 264 ∨ t = 266 ∨ t = 268 then true
  else if t = 259 then now || !was
  else if t = 354 then was || !now
  else if t = 1 then copying
  else if t = 2 then copying && (now || !was)
  else if t = 368 ∨ t = 369 then copying && (was || !now)
  else false
def chgL (o : List At) (a : At) (copying : Bool) : Int := if chgB a.1 (flagL o a.1) (flagL [a] a.1) copying then 0 else 16

theorem sl_boxB {W : World} {a : At} {bv : Value} (h : SlI (W.alloc (.cells #[.int .i64 a.1, bv] 91)) .u8 bv a.2) : SlA (W.alloc (.cells #[.int .i64 a.1, bv] 91)) (.slice (some ⟨W.heap.size, 0, none⟩) 1 1) [a] :=
  ⟨_, 1, rfl, by simp, by omega, fun e => by simp at e, fun _ => ⟨_, 0, rfl, fun j hj => by
    obtain rfl : j = 0 := by simpa using hj
    obtain ⟨c0, c1, _, _⟩ := cell2 (heap_alloc_new W (.cells #[.int .i64 a.1, bv] 91))
    exact ⟨bv, c0, c1, h⟩⟩⟩

set_option maxRecDepth 100000 in
set_option maxHeartbeats 8000000 in
theorem rules_changes (o : List At) (t : Int) (b : List Int) (copying : Bool) (v bv : Value) (w : World) (h : SlA w v o) (hok : AtsOk o) (hb : SlI w .u8 bv b) (hokb : AtsOk [(t, b)]) :
    Calls Tryz.prog 234 #[v, .agg #[.int .i64 t, bv], .bool copying] w (RVPost (chgL o (t, b) copying) w) := by
  have H := Ho.mk h
  have HOK := Ho.mk hok
  have HOKb := Ho.mk hokb
  have HSb := Ho.mk hb
  obtain ⟨Ab, cb, rfl, _⟩ := hb
  clear hok hokb h
  go_enter Tryz.func234, Tryz.ntmps234
  go_wp2
  obtain ⟨W0, hW0⟩ : ∃ W0, w.alloc (.cells #[.int .i64 t, .slice Ab b.length cb] 91) = W0 := ⟨_, rfl⟩
  have HB0 : Ho (Below w.heap.size w W0) := ⟨hW0 ▸ (Below.refl _ _).alloc (Nat.le_refl _) _⟩
  have HR0 : Ho (W0.heap[w.heap.size]? = some (.cells #[.int .i64 t, .slice Ab b.length cb] 91 (0, 0))) := ⟨hW0 ▸ heap_alloc_new w _⟩
  rw [hW0]
  clear hW0
  obtain ⟨k0, k1, _, _⟩ := cell2 HR0.out
  have HS0 := Ho.mk (H.out.below HB0.out)
  have HSb0 := Ho.mk (HSb.out.below HB0.out)
  obtain ⟨was, HWas⟩ : ∃ y, Ho (flagL o t = y) := ⟨_, ⟨rfl⟩⟩
  obtain ⟨now, HNow⟩ : ∃ y, Ho (flagL [(t, b)] t = y) := ⟨_, ⟨rfl⟩⟩
  have HF1 : Ho (∀ W, SlA W (v) o → Calls Tryz.prog 81 #[v, .int .i64 t] W (BoolPost was W)) := ⟨fun W hW => by have := attrs_Flag o t _ W hW HOK.out; rwa [HWas.out] at this⟩
  have HF2 : Ho (∀ W x, SlA W x [(t, b)] → Calls Tryz.prog 81 #[x, .int .i64 t] W (BoolPost now W)) := ⟨fun W x hW => by have := attrs_Flag [(t, b)] t x W hW HOKb.out; rwa [HNow.out] at this⟩
  have keepB : ∀ w1 w2 : World, Below W0.heap.size W0 w1 → Below w1.heap.size w1 w2 → (w2.cell? ⟨w.heap.size, 0, none⟩ = some (.int .i64 t) ∧ w2.cell? ⟨w.heap.size, 1, none⟩ = some (.slice Ab b.length cb)) ∧ Below W0.heap.size W0 w2 := fun w1 w2 hb1 hb2 => by
    have hb3 := below_base hb1 hb1.size hb2
    exact ⟨⟨cell_below hb3 k0, cell_below hb3 k1⟩, hb3⟩
  have HKB := Ho.mk keepB
  clear keepB
  go_region_held3 (fun w' => (w'.cell? ⟨w.heap.size, 0, none⟩ = some (.int .i64 t) ∧ w'.cell? ⟨w.heap.size, 1, none⟩ = some (.slice Ab b.length cb)) ∧ Below W0.heap.size W0 w')
    (first
      | exact HKB.out _ _ (below_drewN (Below.refl _ _) 1) (Below.refl _ _)
      | exact HKB.out _ _ (And.right ‹_›) hbI
      | exact HKB.out _ _ (And.right ‹_›) ((Below.refl _ _).alloc (Nat.le_refl _) _))
    (first
      | (go_at_call_of 81 v; refine (HF1.out _ ?_).mono ?_; exact HS0.out.below (And.right ‹_›); rintro e w' ⟨rfl, hbI⟩)
      | (go_at_call 81; refine (HF2.out _ _ ?_).mono ?_; (first | exact sl_boxB (a := (t, b)) (HSb0.out.below (And.right ‹_›)) | exact (sl_boxB (a := (t, b)) (HSb0.out.below ((below_drewN (Below.refl _ _) 1).alloc (Nat.le_refl _) _))).below hbI); rintro e w' ⟨rfl, hbI⟩))
  all_goals
    obtain ⟨⟨z0, z1⟩, hbW⟩ := ‹(_ ∧ _) ∧ Below _ _ _›
    have HBW := Ho.mk (below_base HB0.out HB0.out.size hbW)
    have HC : Ho (chgL o (t, b) copying = if chgB t was now copying then 0 else 16) := ⟨by unfold chgL; rw [HWas.out, HNow.out]⟩
    clear hbW hbI HF1 HF2 HKB k0 k1 HWas HNow HSb0 HS0 HB0 HSb HR0 HOK HOKb H
    cases was <;> cases now <;> cases copying <;> go_wp2
  all_goals
    go_ret
    refine ⟨congrArg (fun x => Ending.returned (Value.int .i64 x)) ?_, HBW.out⟩
    rw [HC.out]
    simp_all [chgB]
end Go.Proofs.YthjcldkaodmfoaaGreat
