/-
  What der.may returns. Conditions: those that each theorem types.
-/
import Derived.Test.YthjcldkaodmfoaaGreatDerC
namespace Go.Proofs.YthjcldkaodmfoaaGreat
open Go.RowKit

/-! ### der.may: it counts in a variable of its caller's, block L -/
/-- All but block L is as it was; there may be new blocks. -/
structure BelowX (L : Nat) (w w' : World) : Prop where
  os : w'.os = w.os
  tape : w'.tape = w.tape
  output : w'.output = w.output
  size : w.heap.size ≤ w'.heap.size
  block : ∀ k, k < w.heap.size → k ≠ L → w'.heap[k]? = w.heap[k]?
/-- Block L holds one whole number. -/
def Cnt (T : TypeId) (w : World) (L : Nat) (l : Int) : Prop := w.heap[L]? = some (.cells #[.int .i64 l] T (0, 0))
section
variable {T : TypeId} {L : Nat} {w w1 w2 : World} {l : Int}
theorem BelowX.refl (L : Nat) (w : World) : BelowX L w w := ⟨rfl, rfl, rfl, Nat.le_refl _, fun _ _ _ => rfl⟩
theorem BelowX.trans (h : BelowX L w w1) (k : BelowX L w1 w2) : BelowX L w w2 :=
  ⟨k.os.trans h.os, k.tape.trans h.tape, k.output.trans h.output, Nat.le_trans h.size k.size, fun i hi hn => (k.block i (Nat.lt_of_lt_of_le hi h.size) hn).trans (h.block i hi hn)⟩
theorem BelowX.of (h : Below w.heap.size w w1) : BelowX L w w1 := ⟨h.os, h.tape, h.output, h.size, fun i hi _ => h.block i hi⟩
theorem BelowX.setCell (h : BelowX L w w1) (j : Nat) (v : Value) : BelowX L w (w1.setCell ⟨L, j, none⟩ v) :=
  ⟨h.os, h.tape, h.output, by simpa using h.size, fun i hi hn => (heap_setCell_other w1 ⟨L, j, none⟩ i v hn).trans (h.block i hi hn)⟩
theorem BelowX.alloc (h : BelowX L w w1) (o : Obj) : BelowX L w (w1.alloc o) :=
  h.trans (BelowX.of ((Below.refl _ _).alloc (Nat.le_refl _) o))
theorem BelowX.drewN (h : BelowX L w w1) (n : Nat) : BelowX L w (w1.drewN n) := ⟨h.os, h.tape, h.output, h.size, h.block⟩
theorem BelowX.below (h : BelowX L w w1) (hL : w.heap.size ≤ L) : Below w.heap.size w w1 := ⟨h.os, h.tape, h.output, h.size, fun i hi => h.block i hi (by omega)⟩
theorem Cnt.lt (h : Cnt T w L l) : L < w.heap.size := (Array.getElem?_eq_some_iff.1 h).1
theorem Cnt.cell (h : Cnt T w L l) : w.cell? ⟨L, 0, none⟩ = some (.int .i64 l) := cell_of_row _ _ _ _ _ _ h
theorem Cnt.frozen (h : Cnt T w L l) : w.frozen? ⟨L, 0, none⟩ = false := frozen_of_row _ _ _ _ _ h
theorem Cnt.set (h : Cnt T w L l) (l' : Int) : Cnt T (w.setCell ⟨L, 0, none⟩ (.int .i64 l')) L l' := heap_setCell_same w L 0 _ _ _ h
theorem Cnt.below (h : Cnt T w L l) (hb : Below w.heap.size w w1) : Cnt T w1 L l := (hb.block L h.lt).trans h
theorem Cnt.alloc (h : Cnt T w L l) (o : Obj) : Cnt T (w.alloc o) L l := h.below ((Below.refl _ _).alloc (Nat.le_refl _) o)
theorem BelowX.cell (h : BelowX L w w1) (hc : Cnt T w L l) {b o : Nat} {v : Value} (hv : w.cell? ⟨b, o, none⟩ = some v) (hn : b ≠ L) : w1.cell? ⟨b, o, none⟩ = some v := by
  rw [World.cell?_of_block (w := w) (w' := w1) (a := ⟨b, o, none⟩) (h.block b (World.block_lt_of_cell? w _ hv) hn)]; exact hv
theorem Cnt.other (hc : Cnt T w L l) {b o : Nat} {v : Value} (hv : w.cell? ⟨b, o, none⟩ = some v) (hn : o ≠ 0 ∨ ∀ q : Int, v ≠ .int .i64 q) : b ≠ L := by
  rintro rfl
  have := cell_of_row w b o _ _ _ hc
  rw [this] at hv
  rcases hn with hn | hn
  · obtain ⟨o, rfl⟩ : ∃ q, o = q + 1 := ⟨o - 1, by omega⟩
    simp at hv
  · cases o with
    | zero => simp at hv; exact hn l hv.symm
    | succ o => simp at hv
theorem SlI.keepX {v : Value} {xs : List Int} (h : SlI w .u8 v xs) (hx : BelowX L w w1) (hc : Cnt T w L l) : SlI w1 .u8 v xs := by
  obtain ⟨A, c, e, h1, h2, h3, hr⟩ := h
  refine ⟨A, c, e, h1, h2, h3, fun hn => ?_⟩
  obtain ⟨b, o, eA, hcell⟩ := hr hn
  exact ⟨b, o, eA, fun j hj => hx.cell hc (hcell j hj) (hc.other (hcell j hj) (.inr fun q hq => by simp at hq))⟩
theorem NdV.keepX {n : Nat} : ∀ {w w1 : World} {v : Value} {nd : Nd}, NdV n w v nd → BelowX L w w1 → Cnt T w L l → NdV n w1 v nd := by
  induction n with
  | zero => intro w w1 v nd h _ _; exact h.elim
  | succ n ih =>
    intro w w1 v nd h hx hc
    obtain ⟨t, b, ks⟩ := nd
    obtain ⟨bv, A, c, e, h1, h2, h3, h4, h5, h6, h7, h8⟩ := h
    refine ⟨bv, A, c, e, h1.keepX hx hc, h2, h3, h4, h5, h6, h7, fun hp => ?_⟩
    obtain ⟨bl, o, eA, hk⟩ := h8 hp
    refine ⟨bl, o, eA, fun j hj => ?_⟩
    obtain ⟨x, y, z, c1, c2, c3, hq⟩ := hk j hj
    have hne : bl ≠ L := hc.other c2 (.inl (by omega))
    exact ⟨x, y, z, hx.cell hc c1 hne, hx.cell hc c2 hne, hx.cell hc c3 hne, ih hq hx hc⟩
end

mutual
/-- May a node be, at a depth, so many nodes being left? and how many are left then. -/
def Nd.may : Nd → Nat → Int → Bool × Int
  | .mk t b ks, d, l =>
    if l - 1 < 0 ∨ 16 ≤ d then (false, l - 1)
    else if t ≠ 48 then (decide (ks.length = 0) && plainB t b, l - 1)
    else if 0 < b.length then (false, l - 1)
    else Nd.mays ks (d + 1) (l - 1)
def Nd.mays : List Nd → Nat → Int → Bool × Int
  | [], _, l => (true, l)
  | k :: ks, d, l => if (k.may d l).1 = true then Nd.mays ks d (k.may d l).2 else (false, (k.may d l).2)
end
theorem Nd.mays_drop (ks : List Nd) (k d : Nat) (l : Int) (h : k < ks.length) : Nd.mays (ks.drop k) d l = if ((ks[k]'h).may d l).1 = true then Nd.mays (ks.drop (k + 1)) d ((ks[k]'h).may d l).2 else (false, ((ks[k]'h).may d l).2) := by
  rw [List.drop_eq_getElem_cons h, Nd.mays]

def MayPost (nd : Nd) (d : Nat) (l : Int) (L : Nat) (w : World) (e : Ending) (w' : World) : Prop :=
  e = .returned (.bool (nd.may d l).1) ∧ Cnt 3 w' L (nd.may d l).2 ∧ BelowX L w w' ∧ (nd.may d l).2 ≤ l ∧ -1 ≤ (nd.may d l).2 ∧ ((nd.may d l).1 = true → 0 ≤ (nd.may d l).2)

set_option maxRecDepth 100000 in
theorem der_may (n : Nat) : ∀ (nd : Nd) (d : Nat) (l : Int) (L : Nat) (v : Value) (w : World), NdV n w v nd → Cnt 3 w L l → 0 ≤ l → l ≤ 1024 → d ≤ 16 →
    Calls Tryz.prog 285 #[v, .int .i64 d, .pointer (some ⟨L, 0, none⟩)] w (MayPost nd d l L w) := by
  induction n with
  | zero => intro nd d l L v w h; exact h.elim
  | succ n ih =>
    intro nd d l L v w h hc hl0 hl1 hd
    obtain ⟨t, b, ks⟩ := nd
    obtain ⟨bv, A, c, rfl, hb, hdg, hbl, hnil, h5, h6, h7, h8⟩ := h
    have IH := Ho.mk ih
    have HB := Ho.mk hb
    have H8 := Ho.mk h8
    have HC := Ho.mk hc
    have hcc := (hc.alloc (.cells #[.int .i64 t, bv, .slice A ks.length c] 123)).cell
    have hcf := (hc.alloc (.cells #[.int .i64 t, bv, .slice A ks.length c] 123)).frozen
    have hcc2 := ((hc.set (l - 1)).alloc (.cells #[.int .i64 t, bv, .slice A ks.length c] 123)).cell
    have hLlt := hc.lt
    clear ih hb hnil h8 hc
    by_cases hbad : l - 1 < 0 ∨ 16 ≤ d
    · have em : (Nd.mk t b ks).may d l = (false, l - 1) := by rw [Nd.may, if_pos hbad]
      have EM := Ho.mk em
      clear em
      by_cases h1 : l - 1 < 0
      · have q1 : decide (l - 1 < 0) = true := dect h1
        go_enter Tryz.func285, Tryz.ntmps285
        go_wp2_with fail
        go_ret
        unfold MayPost
        rw [EM.out]
        exact ⟨rfl, (HC.out.set _).alloc _, ((BelowX.refl _ _).setCell 0 _).alloc _, by simp; omega, by simp; omega, fun h => by simp at h⟩
      · have q1 : decide (l - 1 < 0) = false := decf h1
        have q2 : decide (16 ≤ (d : Int)) = true := dect (by omega)
        go_enter Tryz.func285, Tryz.ntmps285
        go_wp2_with fail
        go_ret
        unfold MayPost
        rw [EM.out]
        exact ⟨rfl, (HC.out.set _).alloc _, ((BelowX.refl _ _).setCell 0 _).alloc _, by simp; omega, by simp; omega, fun h => by simp at h⟩
    · have q1 : decide (l - 1 < 0) = false := decf (by omega)
      have q2 : decide (16 ≤ (d : Int)) = false := decf (by omega)
      by_cases ht : t = 48
      · subst ht
        have hb2 : SlI ((w.setCell ⟨L, 0, none⟩ (.int .i64 (l - 1))).alloc (.cells #[.int .i64 48, bv, .slice A ks.length c] 123)) .u8 bv b :=
          HB.out.keepX (((BelowX.refl _ _).setCell 0 _).alloc _) HC.out
        obtain ⟨A0, c0, rfl, _⟩ := hb2
        by_cases hb0 : 0 < b.length
        · have em : (Nd.mk 48 b ks).may d l = (false, l - 1) := by rw [Nd.may, if_neg hbad, if_neg (by simp), if_pos hb0]
          have EM := Ho.mk em
          have q4 : decide (0 < (b.length : Int)) = true := dect (by omega)
          clear em
          go_enter Tryz.func285, Tryz.ntmps285
          go_wp2_with fail
          go_ret
          unfold MayPost
          rw [EM.out]
          exact ⟨rfl, (HC.out.set _).alloc _, ((BelowX.refl _ _).setCell 0 _).alloc _, by simp; omega, by simp; omega, fun h => by simp at h⟩
        · have em : (Nd.mk 48 b ks).may d l = Nd.mays ks (d + 1) (l - 1) := by rw [Nd.may, if_neg hbad, if_neg (by simp), if_neg hb0]
          have EM := Ho.mk em
          have q4 : decide (0 < (b.length : Int)) = false := decf (by omega)
          have hl2 : 0 ≤ l - 1 := by omega
          clear em
          go_enter Tryz.func285, Tryz.ntmps285
          go_wp2_with fail
          obtain ⟨W0, hW0⟩ : ∃ W0, (w.setCell ⟨L, 0, none⟩ (.int .i64 (l - 1))).alloc (.cells #[.int .i64 48, .slice A0 b.length c0, .slice A ks.length c] 123) = W0 := ⟨_, rfl⟩
          have HX0 : Ho (BelowX L w W0) := ⟨hW0 ▸ ((BelowX.refl _ _).setCell 0 _).alloc _⟩
          have HC0 : Ho (Cnt 3 W0 L (l - 1)) := ⟨hW0 ▸ (HC.out.set _).alloc _⟩
          rw [hW0]
          clear hW0 hcc hcf hcc2
          go_loopw [43] (fun i wr => ∃ (k : Nat) (lk : Int), k ≤ ks.length ∧ i = .int .i64 k ∧ 0 ≤ lk ∧ lk ≤ l - 1 ∧ Ho (Cnt 3 wr L lk ∧ BelowX L W0 wr ∧ Nd.mays ks (d + 1) (l - 1) = Nd.mays (ks.drop k) (d + 1) lk)) (fun i _ => ks.length - (intOf i).toNat)
          case atStart => exact ⟨0, l - 1, Nat.zero_le _, rfl, hl2, Int.le_refl _, ⟨HC0.out, BelowX.refl _ _, rfl⟩⟩
          case round =>
            obtain ⟨k, lk, hk, rfl, hlk0, hlk1, hz⟩ := hrel
            by_cases hlt : k < ks.length
            · obtain ⟨bl, o, rfl, hkid⟩ := H8.out (by omega)
              obtain ⟨x, y, z, c1, c2, c3, hq⟩ := hkid k hlt
              have hne : bl ≠ L := HC.out.other c2 (.inl (by omega))
              have hXr := HX0.out.trans hz.out.2.1
              have hx := hXr.cell HC.out c1 hne
              have hy := hXr.cell HC.out c2 hne
              have hzz := hXr.cell HC.out c3 hne
              have HQ := Ho.mk (hq.keepX hXr HC.out)
              obtain ⟨tk, A1, n1, c1', A2, n2, c2', rfl, rfl, rfl⟩ := hq.shape
              have HM := Ho.mk (Nd.mays_drop ks k (d + 1) lk hlt)
              clear hkid c1 c2 c3 hq hne hXr
              go_wp2_with fail
              refine (show Calls _ _ #[_, .int .i64 ((d : Int) + 1), _] _ _ from IH.out (ks[k]'hlt) (d + 1) lk L _ _ (HQ.out.below ((Below.refl _ _).alloc (Nat.le_refl _) _)) (hz.out.1.alloc _) hlk0 (by omega) (by omega)).mono ?_
              rintro e w1 ⟨rfl, hc1, hx1, hle, hge, hpos⟩
              obtain ⟨r, l', hrl⟩ : ∃ r l', (ks[k]'hlt).may (d + 1) lk = (r, l') := ⟨_, _, rfl⟩
              rw [hrl] at hc1 hle hge hpos ⊢
              have HM2 := HM.out
              rw [hrl] at HM2
              have HM3 := Ho.mk HM2
              have HR := Ho.mk hrl
              have HC1 := Ho.mk hc1
              have HX1 := Ho.mk (((BelowX.refl L wr).alloc _).trans hx1)
              clear hrl hc1 hx1 HM2 HM
              cases r with
              | true =>
                go_wp2
                go_roundw
                case rel => exact ⟨k + 1, l', by omega, by go_num, hpos trivial, by omega, ⟨HC1.out, hz.out.2.1.trans HX1.out, by rw [hz.out.2.2, HM3.out]; rfl⟩⟩
                case measure => simp [intOf]; omega
              | false =>
                go_wp2
                go_ret
                unfold MayPost
                rw [EM.out, hz.out.2.2, HM3.out]
                exact ⟨rfl, HC1.out, HX0.out.trans (hz.out.2.1.trans HX1.out), by simp at hle ⊢; omega, by simpa using hge, fun h => by simp at h⟩
            · have em2 : Nd.mays ks (d + 1) (l - 1) = (true, lk) := by rw [hz.out.2.2, List.drop_eq_nil_of_le (by omega), Nd.mays]
              have EM2 := Ho.mk em2
              clear em2
              go_wp2
              go_ret
              unfold MayPost
              rw [EM.out, EM2.out]
              exact ⟨rfl, hz.out.1, HX0.out.trans hz.out.2.1, by simp; omega, by simp; omega, fun _ => hlk0⟩
      · have q3 : (t != 48) = true := bne_iff_ne.2 ht
        by_cases hk0 : ks.length = 0
        · have q4 : ((ks.length : Int) == 0) = true := beq_iff_eq.2 (by omega)
          have em : (Nd.mk t b ks).may d l = (plainB t b, l - 1) := by rw [Nd.may, if_neg hbad, if_pos ht]; simp [hk0]
          have EM := Ho.mk em
          have hb2 : SlI ((w.setCell ⟨L, 0, none⟩ (.int .i64 (l - 1))).alloc (.cells #[.int .i64 t, bv, .slice A ks.length c] 123)) .u8 bv b :=
            HB.out.keepX (((BelowX.refl _ _).setCell 0 _).alloc _) HC.out
          have HB2 := Ho.mk hb2
          clear em hk0 hb2
          go_enter Tryz.func285, Tryz.ntmps285
          go_wp2_with fail
          refine (der_plain t bv b _ HB2.out).mono ?_
          rintro e w1 ⟨rfl, rfl⟩
          go_wp2
          go_ret
          unfold MayPost
          rw [EM.out]
          exact ⟨rfl, (HC.out.set _).alloc _, ((BelowX.refl _ _).setCell 0 _).alloc _, by simp; omega, by simp; omega, fun h => by simp; omega⟩
        · have q4 : ((ks.length : Int) == 0) = false := beq_eq_false_iff_ne.2 (by omega)
          have em : (Nd.mk t b ks).may d l = (false, l - 1) := by rw [Nd.may, if_neg hbad, if_pos ht]; simp [hk0]
          have EM := Ho.mk em
          clear em
          go_enter Tryz.func285, Tryz.ntmps285
          go_wp2_with fail
          go_ret
          unfold MayPost
          rw [EM.out]
          exact ⟨rfl, (HC.out.set _).alloc _, ((BelowX.refl _ _).setCell 0 _).alloc _, by simp; omega, by simp; omega, fun h => by simp at h⟩

end Go.Proofs.YthjcldkaodmfoaaGreat
