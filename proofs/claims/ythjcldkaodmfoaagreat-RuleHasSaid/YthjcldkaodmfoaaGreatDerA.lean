/-
  What der.name and der.plain return. Conditions: those that each theorem types.
-/
import Derived.Test.YthjcldkaodmfoaaGreatRefC
namespace Go.Proofs.YthjcldkaodmfoaaGreat
open Go.RowKit

/-! ### der.name, der.plain -/
def nameL : Bool → List Int → Bool
  | b, [] => b
  | b, x :: xs => if b = true ∧ x = 128 then false else nameL (decide (x < 128)) xs
def nameB (b : List Int) : Bool := decide (0 < b.length) && nameL true b
def plainB (t : Int) (b : List Int) : Bool :=
  if t = 2 then decide (0 < b.length ∧ gx b 0 < 128 ∧ (0 < gx b 0 ∨ b.length = 1 ∨ 128 ≤ gx b 1))
  else if t = 3 then decide (0 < b.length ∧ gx b 0 = 0)
  else if t = 4 then true
  else if t = 5 then decide (b.length = 0)
  else if t = 6 then nameB b
  else false

theorem ret_bool {a b : Bool} (h : a = b) : Ending.returned (.bool a) = .returned (.bool b) := by rw [h]

set_option maxRecDepth 100000 in
theorem der_name (v : Value) (xs : List Int) (w : World) (h : SlI w .u8 v xs) :
    Calls Tryz.prog 310 #[v] w fun e w' => e = .returned (.bool (nameB xs)) ∧ w = w' := by
  obtain ⟨A, c, rfl, h1, h2, h3, hr⟩ := h
  obtain ⟨r, HR⟩ : ∃ r, Ho (nameB xs = r) := ⟨_, ⟨rfl⟩⟩
  rw [HR.out]
  go_enter Tryz.func310, Tryz.ntmps310
  go_wp2
  go_loop [3, 8] (fun bv i => ∃ (k : Nat) (bb : Bool), k ≤ xs.length ∧ i = .int .i64 k ∧ bv = .bool bb ∧ Ho (nameL true xs = nameL bb (xs.drop k))) (fun _ i => xs.length - (intOf i).toNat)
  case atStart => exact ⟨0, true, Nat.zero_le _, rfl, rfl, ⟨rfl⟩⟩
  case round =>
    obtain ⟨k, bb, hk, rfl, rfl, hz⟩ := hrel
    by_cases hlt : k < xs.length
    · obtain ⟨b, o, rfl, hcell⟩ := hr (by omega)
      have hc := hcell k hlt
      have HS := Ho.mk (drop_gx hlt)
      by_cases hx : gx xs k = 128
      · have hb : (gx xs k == 128) = true := by simp [hx]
        have HX := Ho.mk hx
        have hx2 : decide (gx xs k < 128) = false := by simp [hx]
        clear hcell hx
        cases bb with
        | true =>
          go_wp2
          go_ret
          refine ⟨ret_bool ?_, rfl⟩
          rw [← HR.out]
          unfold nameB
          rw [hz.out, HS.out, nameL, if_pos ⟨rfl, HX.out⟩]
          simp
        | false =>
          go_wp2
          go_round
          case rel => exact ⟨k + 1, false, by omega, by go_num, rfl, ⟨by rw [hz.out, HS.out, nameL, if_neg (by simp), HX.out]; rfl⟩⟩
          case measure => simp [intOf]; omega
      · have hb : (gx xs k == 128) = false := by simp [hx]
        have HX := Ho.mk hx
        clear hcell hx
        by_cases hx2 : gx xs k < 128
        · have hx3 : decide (gx xs k < 128) = true := by simpa using hx2
          cases bb <;>
          · go_wp2
            go_round
            case rel => exact ⟨k + 1, true, by omega, by go_num, rfl, ⟨by rw [hz.out, HS.out, nameL, if_neg (by simp [HX.out]), hx3]⟩⟩
            case measure => simp [intOf]; omega
        · have hx3 : decide (gx xs k < 128) = false := by simpa using hx2
          cases bb <;>
          · go_wp2
            go_round
            case rel => exact ⟨k + 1, false, by omega, by go_num, rfl, ⟨by rw [hz.out, HS.out, nameL, if_neg (by simp [HX.out]), hx3]⟩⟩
            case measure => simp [intOf]; omega
    · have hd : xs.drop k = [] := List.drop_eq_nil_of_le (by omega)
      have HZ : Ho (nameL true xs = bb) := ⟨by rw [hz.out, hd]; rfl⟩
      clear hd
      by_cases h0 : 0 < xs.length
      · have hq : decide (0 < (xs.length : Int)) = true := by simpa using h0
        go_wp2
        go_ret
        refine ⟨ret_bool ?_, rfl⟩
        rw [← HR.out]; unfold nameB; rw [HZ.out]; simp [h0]
      · have hq : decide (0 < (xs.length : Int)) = false := by simpa using h0
        go_wp2
        go_ret
        refine ⟨ret_bool ?_, rfl⟩
        rw [← HR.out]; unfold nameB; simp [h0]

set_option maxRecDepth 100000 in
theorem der_plain (t : Int) (v : Value) (xs : List Int) (w : World) (h : SlI w .u8 v xs) :
    Calls Tryz.prog 300 #[.int .i64 t, v] w fun e w' => e = .returned (.bool (plainB t xs)) ∧ w = w' := by
  have hn := der_name v xs w h
  obtain ⟨A, c, rfl, h1, h2, h3, hr⟩ := h
  by_cases t2 : t = 2
  · have ht : (t == 2) = true := by simp [t2]
    have HT := Ho.mk t2
    clear t2 hn
    by_cases h0 : 0 < xs.length
    · obtain ⟨b, o, rfl, hcell⟩ := hr h0
      have hc0 : w.cell? ⟨b, o, none⟩ = some (.int .u8 (gx xs 0)) := hcell 0 h0
      have hq : decide (0 < (xs.length : Int)) = true := by simpa using h0
      by_cases g0 : gx xs 0 < 128
      · have q0 : decide (gx xs 0 < 128) = true := by simpa using g0
        by_cases g1 : 0 < gx xs 0
        · have q1 : decide (0 < gx xs 0) = true := by simpa using g1
          clear hcell
          go_enter Tryz.func300, Tryz.ntmps300
          go_wp2
          go_ret
          exact ⟨ret_bool (by rw [plainB, if_pos HT.out]; simp [h0, g0, g1]), rfl⟩
        · have q1 : decide (0 < gx xs 0) = false := by simpa using g1
          by_cases g2 : xs.length = 1
          · have q2 : ((xs.length : Int) == 1) = true := by simp [g2]
            have HG := Ho.mk g2
            clear hcell g2
            go_enter Tryz.func300, Tryz.ntmps300
            go_wp2
            go_ret
            exact ⟨ret_bool (by rw [plainB, if_pos HT.out]; simp [h0, g0, HG.out]), rfl⟩
          · have q2 : ((xs.length : Int) == 1) = false := beq_eq_false_iff_ne.2 (by omega)
            have hc1 := hcell 1 (by omega)
            have hlt1 : 1 < xs.length := by omega
            have hlt2 : (1 : Int) < xs.length := by omega
            clear hcell
            by_cases g3 : 128 ≤ gx xs 1
            · have q3 : decide (128 ≤ gx xs 1) = true := by simpa using g3
              go_enter Tryz.func300, Tryz.ntmps300
              go_wp2
              go_ret
              exact ⟨ret_bool (by rw [plainB, if_pos HT.out]; simp [h0, g0, g3]), rfl⟩
            · have q3 : decide (128 ≤ gx xs 1) = false := by simpa using g3
              go_enter Tryz.func300, Tryz.ntmps300
              go_wp2
              go_ret
              exact ⟨ret_bool (by rw [plainB, if_pos HT.out]; simp [g1, g2, g3]), rfl⟩
      · have q0 : decide (gx xs 0 < 128) = false := by simpa using g0
        clear hcell
        go_enter Tryz.func300, Tryz.ntmps300
        go_wp2
        go_ret
        exact ⟨ret_bool (by rw [plainB, if_pos HT.out]; simp; omega), rfl⟩
    · have hq : decide (0 < (xs.length : Int)) = false := by simpa using h0
      go_enter Tryz.func300, Tryz.ntmps300
      go_wp2
      go_ret
      exact ⟨ret_bool (by rw [plainB, if_pos HT.out]; simp [h0]), rfl⟩
  have ht2 : (t == 2) = false := by simp [t2]
  by_cases t3 : t = 3
  · have ht : (t == 3) = true := by simp [t3]
    have HT := Ho.mk t3
    clear t3 hn
    by_cases h0 : 0 < xs.length
    · obtain ⟨b, o, rfl, hcell⟩ := hr h0
      have hc0 : w.cell? ⟨b, o, none⟩ = some (.int .u8 (gx xs 0)) := hcell 0 h0
      have hq : decide (0 < (xs.length : Int)) = true := by simpa using h0
      clear hcell
      by_cases g0 : gx xs 0 = 0
      · have q0 : (gx xs 0 == 0) = true := by simp [g0]
        have HG := Ho.mk g0
        clear g0
        go_enter Tryz.func300, Tryz.ntmps300
        go_wp2
        go_ret
        exact ⟨ret_bool (by rw [plainB, if_neg t2, if_pos HT.out]; simp [h0, HG.out]), rfl⟩
      · have q0 : (gx xs 0 == 0) = false := by simp [g0]
        go_enter Tryz.func300, Tryz.ntmps300
        go_wp2
        go_ret
        exact ⟨ret_bool (by rw [plainB, if_neg t2, if_pos HT.out]; simp [g0]), rfl⟩
    · have hq : decide (0 < (xs.length : Int)) = false := by simpa using h0
      go_enter Tryz.func300, Tryz.ntmps300
      go_wp2
      go_ret
      exact ⟨ret_bool (by rw [plainB, if_neg t2, if_pos HT.out]; simp [h0]), rfl⟩
  have ht3 : (t == 3) = false := by simp [t3]
  by_cases t4 : t = 4
  · have ht : (t == 4) = true := by simp [t4]
    have HT := Ho.mk t4
    clear t4 hn
    go_enter Tryz.func300, Tryz.ntmps300
    go_wp2
    go_ret
    exact ⟨ret_bool (by rw [plainB, if_neg t2, if_neg t3, if_pos HT.out]), rfl⟩
  have ht4 : (t == 4) = false := by simp [t4]
  by_cases t5 : t = 5
  · have ht : (t == 5) = true := by simp [t5]
    have HT := Ho.mk t5
    clear t5 hn
    by_cases h0 : xs.length = 0
    · have hq : ((xs.length : Int) == 0) = true := by simp [h0]
      have HG := Ho.mk h0
      clear h0
      go_enter Tryz.func300, Tryz.ntmps300
      go_wp2
      go_ret
      exact ⟨ret_bool (by rw [plainB, if_neg t2, if_neg t3, if_neg t4, if_pos HT.out]; simp [HG.out]), rfl⟩
    · have hq : ((xs.length : Int) == 0) = false := beq_eq_false_iff_ne.2 (by omega)
      go_enter Tryz.func300, Tryz.ntmps300
      go_wp2
      go_ret
      exact ⟨ret_bool (by rw [plainB, if_neg t2, if_neg t3, if_neg t4, if_pos HT.out]; simp [h0]), rfl⟩
  have ht5 : (t == 5) = false := by simp [t5]
  by_cases t6 : t = 6
  · have ht : (t == 6) = true := by simp [t6]
    have HT := Ho.mk t6
    clear t6
    go_enter Tryz.func300, Tryz.ntmps300
    go_wp2_with fail
    refine hn.mono ?_
    rintro e w1 ⟨rfl, rfl⟩
    go_wp2
    go_ret
    exact ⟨ret_bool (by rw [plainB, if_neg t2, if_neg t3, if_neg t4, if_neg t5, if_pos HT.out]), rfl⟩
  have ht6 : (t == 6) = false := by simp [t6]
  go_enter Tryz.func300, Tryz.ntmps300
  go_wp2
  go_ret
  exact ⟨ret_bool (by rw [plainB, if_neg t2, if_neg t3, if_neg t4, if_neg t5, if_neg t6]), rfl⟩

end Go.Proofs.YthjcldkaodmfoaaGreat
