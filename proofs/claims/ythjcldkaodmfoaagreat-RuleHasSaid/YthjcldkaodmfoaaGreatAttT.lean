/-
  baileylaw18.RuleHas answers yes. Conditions: none.
-/
import Derived.Test.YthjcldkaodmfoaaGreatAttS
namespace Go.Proofs.YthjcldkaodmfoaaGreat
open Go.RowKit Go.Shelf

set_option maxRecDepth 100000 in
theorem law18_RuleHas (c k t : Int) (w : World) : Calls Tryz.prog 8 #[.int .i64 c, .int .i64 k, .int .i64 t] w (BoolPost true w) := by
  obtain ⟨y, HYE⟩ : ∃ y, Ho (hasL c k t = y) := ⟨_, ⟨rfl⟩⟩
  have H1 : Ho (∀ W, Calls Tryz.prog 56 #[.int .i64 c, .int .i64 k, .int .i64 t] W (BoolPost y W)) := ⟨fun W => by have := rules_Has c k t W; rwa [HYE.out] at this⟩
  have H2 : Ho (∀ W, Calls Tryz.prog 57 #[.int .i64 c, .int .i64 k, .int .i64 t] W (BoolPost y W)) := ⟨fun W => by have := ref18_Has c k t W; rwa [HYE.out] at this⟩
  clear HYE
  go_enter Tryz.func8, Tryz.ntmps8
  go_wp2_with fail
  refine (law18_begun w).mono ?_
  rintro e w1 ⟨rfl, hb1⟩
  have HB1 := Ho.mk hb1
  clear hb1
  go_wp2_with fail
  refine (H1.out w1).mono ?_
  rintro e w2 ⟨rfl, hb2⟩
  have HB2 := Ho.mk (below_base HB1.out HB1.out.size hb2)
  clear hb2
  go_wp2_with fail
  refine (H2.out w2).mono ?_
  rintro e w3 ⟨rfl, hb3⟩
  have HB3 := Ho.mk (below_base HB2.out HB2.out.size hb3)
  clear hb3
  cases y <;>
  · go_wp2
    go_ret
    exact ⟨rfl, HB3.out⟩

end Go.Proofs.YthjcldkaodmfoaaGreat
