/-
  What attrs.Flag, attrs.Int, attrs.Form, attrs.Fine return. Conditions: those that each theorem types.
-/
import Derived.Test.YthjcldkaodmfoaaGreatAttA
import Derived.WalkLawsBesides
namespace Go.Proofs.YthjcldkaodmfoaaGreat
open Go.RowKit

def flagB : Option (List Int) → Bool
  | some [x] => decide (x = 1)
  | _ => false
def flagL (l : List At) (t : Int) : Bool := flagB (getL l t)
/-- Four bytes as a number. -/
def be4 (b : List Int) : Int := gx b 0 * 16777216 + gx b 1 * 65536 + gx b 2 * 256 + gx b 3
def intB : Option (List Int) → Int × Bool
  | some b => if b.length = 4 then (be4 b, true) else (0, false)
  | none => (0, false)
def intL (l : List At) (t : Int) : Int × Bool := intB (getL l t)
theorem getL_ok {l : List At} {t : Int} {b : List Int} (h : getL l t = some b) (hok : AtsOk l) : Dg 256 b ∧ b.length ≤ 140737488351232 := hok _ (getL_mem h)

def BoolPost (r : Bool) (w : World) (e : Ending) (w' : World) : Prop := e = .returned (.bool r) ∧ Below w.heap.size w w'

set_option maxRecDepth 100000 in
theorem attrs_Flag (l : List At) (t : Int) (v : Value) (w : World) (h : SlA w v l) (hok : AtsOk l) :
    Calls Tryz.prog 81 #[v, .int .i64 t] w (BoolPost (flagL l t) w) := by
  have H := Ho.mk h
  have HOK := Ho.mk hok
  obtain ⟨A, c, rfl, h1, h2, h3, hr⟩ := h
  clear h3 hr hok
  go_enter Tryz.func81, Tryz.ntmps81
  go_wp2_with fail
  refine (attrs_Get l t _ w H.out HOK.out).mono ?_
  rintro e w1 ⟨hB, ⟨hg, rfl⟩ | ⟨b, v1, hg, rfl, ho⟩⟩
  · have HP : Ho (BoolPost (flagL l t) w (.returned (.bool false)) w1) := ⟨by unfold flagL; rw [hg]; rfl, hB⟩
    clear hg hB
    go_wp2
    go_ret
    exact HP.out
  · have HS := Ho.mk ho.sl
    obtain ⟨A1, c1, rfl, q1, q2, q3, q4⟩ := ho.sl
    have HB := Ho.mk hB
    have HG := Ho.mk hg
    clear ho hg hB q3
    by_cases hl : b.length = 1
    · obtain ⟨x, rfl⟩ : ∃ x, b = [x] := by
        match b, hl with
        | [x], _ => exact ⟨x, rfl⟩
      obtain ⟨bb, o, rfl, hc⟩ := q4 (by simp)
      have hc0 := hc 0 (by simp)
      simp only [gx, List.getD_cons_zero, Nat.add_zero] at hc0
      have HP : Ho (BoolPost (flagL l t) w (.returned (.bool (x == 1))) w1) := ⟨by unfold flagL; rw [HG.out]; show _ = Ending.returned (.bool (decide (x = 1))); rfl, HB.out⟩
      simp only [List.length_singleton]
      clear hc q1 q2
      go_wp2
      go_ret
      exact HP.out
    · have q : ((b.length : Int) == 1) = false := beq_eq_false_iff_ne.2 (by omega)
      have HP : Ho (BoolPost (flagL l t) w (.returned (.bool false)) w1) := ⟨by
        unfold flagL; rw [HG.out]
        match b, hl with
        | [], _ => rfl
        | _ :: _ :: _, _ => rfl, HB.out⟩
      clear hl q4
      go_wp2
      go_ret
      exact HP.out

/-! ### zbyte.Get32, attrs.Int -/
theorem or_hi {a b : Int} (k : Nat) (hk : k ≤ 32) (h0 : 0 ≤ a) (hm : a % 2 ^ k = 0) (h1 : a < 4294967296) (h2 : 0 ≤ b) (h3 : b < 2 ^ k) (h4 : a + b < 4294967296) : bits .or .u32 a b = a + b := by
  have h5 : (2 : Int) ^ 32 = 4294967296 := by decide
  exact bits_join .u32 32 (by decide) (fun n a b => by rw [IntKind.wrap_u32]; omega) k _ _ h0 hm (by omega) h2 h3 (by omega)
theorem be4_or (x y z u : Int) (hx : 0 ≤ x ∧ x < 256) (hy : 0 ≤ y ∧ y < 256) (hz : 0 ≤ z ∧ z < 256) (hu : 0 ≤ u ∧ u < 256) :
    bits .or .u32 (bits .or .u32 (bits .or .u32 (x % 4294967296 * 16777216 % 4294967296) (y % 4294967296 * 65536 % 4294967296)) (z % 4294967296 * 256 % 4294967296)) (u % 4294967296) = x * 16777216 + y * 65536 + z * 256 + u := by
  have e1 : (2 : Int) ^ 24 = 16777216 := by decide
  have e2 : (2 : Int) ^ 16 = 65536 := by decide
  have e3 : (2 : Int) ^ 8 = 256 := by decide
  rw [show (x % 4294967296 * 16777216) % 4294967296 = x * 16777216 by omega, show (y % 4294967296 * 65536) % 4294967296 = y * 65536 by omega, show (z % 4294967296 * 256) % 4294967296 = z * 256 by omega, show u % 4294967296 = u by omega]
  rw [or_hi (a := x * 16777216) (b := y * 65536) 24 (by decide) (by omega) (by omega) (by omega) (by omega) (by omega) (by omega),
    or_hi (a := x * 16777216 + y * 65536) (b := z * 256) 16 (by decide) (by omega) (by omega) (by omega) (by omega) (by omega) (by omega),
    or_hi (a := x * 16777216 + y * 65536 + z * 256) (b := u) 8 (by decide) (by omega) (by omega) (by omega) (by omega) (by omega) (by omega)]

set_option maxRecDepth 100000 in
theorem zbyte_Get32 (b : List Int) (v : Value) (w : World) (h : SlI w .u8 v b) (hd : Dg 256 b) (hl : 4 ≤ b.length) :
    Calls Tryz.prog 170 #[v] w fun e w' => e = .returned (.int .u32 (be4 b)) ∧ ∃ n, w' = w.drewN n := by
  obtain ⟨A, c, rfl, h1, h2, h3, hr⟩ := h
  obtain ⟨bb, o, rfl, hc⟩ := hr (by omega)
  have c0 := hc 0 (by omega)
  have c1 := hc 1 (by omega)
  have c2 := hc 2 (by omega)
  have c3 := hc 3 (by omega)
  have HE := Ho.mk (be4_or (gx b 0) (gx b 1) (gx b 2) (gx b 3) (hd 0) (hd 1) (hd 2) (hd 3))
  have g0 := (hd 0).1
  have g1 := (hd 1).1
  have g2 := (hd 2).1
  have g3 := (hd 3).1
  clear hc hd h3 hr
  simp only [Nat.add_zero] at c0
  go_enter Tryz.func170, Tryz.ntmps170
  go_wp2
  go_quiet (fail)
  go_wp2
  go_ret
  exact ⟨ret_int HE.out, _, rfl⟩

theorem be4_range {b : List Int} (h : Dg 256 b) : 0 ≤ be4 b ∧ be4 b < 4294967296 := by
  have h0 := h 0
  have h1 := h 1
  have h2 := h 2
  have h3 := h 3
  unfold be4
  have hc : ((256 : Nat) : Int) = 256 := rfl
  omega
def IntPost (r : Int × Bool) (w : World) (e : Ending) (w' : World) : Prop := e = .returned (.tuple #[.int .i64 r.1, .bool r.2]) ∧ Below w.heap.size w w'

set_option maxRecDepth 100000 in
theorem attrs_Int (l : List At) (t : Int) (v : Value) (w : World) (h : SlA w v l) (hok : AtsOk l) :
    Calls Tryz.prog 79 #[v, .int .i64 t] w (IntPost (intL l t) w) := by
  have H := Ho.mk h
  have HOK := Ho.mk hok
  obtain ⟨A, c, rfl, h1, h2, h3, hr⟩ := h
  clear h3 hr hok
  go_enter Tryz.func79, Tryz.ntmps79
  go_wp2_with fail
  refine (attrs_Get l t _ w H.out HOK.out).mono ?_
  rintro e w1 ⟨hB, ⟨hg, rfl⟩ | ⟨b, v1, hg, rfl, ho⟩⟩
  · have HP : Ho (IntPost (intL l t) w (.returned (.tuple #[.int .i64 0, .bool false])) w1) := ⟨by unfold intL; rw [hg]; rfl, hB⟩
    clear hg hB
    go_wp2
    go_ret2
    exact HP.out
  · have HS := Ho.mk ho.sl
    have HD := Ho.mk (getL_ok hg HOK.out).1
    obtain ⟨A1, c1, rfl, q1, q2, q3, q4⟩ := ho.sl
    have HB := Ho.mk hB
    have HG := Ho.mk hg
    clear ho hg hB q3 q4
    by_cases hl : b.length = 4
    · have q : ((b.length : Int) != 4) = false := by rw [hl]; rfl
      have hr := be4_range HD.out
      have hr0 := hr.1
      have hr1 := hr.2
      have HP : ∀ X, Below w.heap.size w X → Ho (IntPost (intL l t) w (.returned (.tuple #[.int .i64 (be4 b), .bool true])) X) := fun X hX => ⟨by unfold intL; rw [HG.out]; show _ = Ending.returned (.tuple #[.int .i64 (if b.length = 4 then (be4 b, true) else (0, false)).1, .bool (if b.length = 4 then (be4 b, true) else (0, false)).2]); rw [if_pos hl], hX⟩
      have HPP := Ho.mk HP
      have hl4 : 4 ≤ b.length := by omega
      clear hl hr HP
      go_wp2_with fail
      refine (zbyte_Get32 b _ _ HS.out HD.out hl4).mono ?_
      rintro e w2 ⟨rfl, n, rfl⟩
      go_wp2
      go_ret2
      exact (HPP.out _ (below_drewN HB.out n)).out
    · have q : ((b.length : Int) != 4) = true := bne_iff_ne.2 (by omega)
      have HP : Ho (IntPost (intL l t) w (.returned (.tuple #[.int .i64 0, .bool false])) w1) := ⟨by unfold intL; rw [HG.out]; show _ = Ending.returned (.tuple #[.int .i64 (if b.length = 4 then (be4 b, true) else (0, false)).1, .bool (if b.length = 4 then (be4 b, true) else (0, false)).2]); rw [if_neg hl], HB.out⟩
      clear hl
      go_wp2
      go_ret2
      exact HP.out

end Go.Proofs.YthjcldkaodmfoaaGreat
