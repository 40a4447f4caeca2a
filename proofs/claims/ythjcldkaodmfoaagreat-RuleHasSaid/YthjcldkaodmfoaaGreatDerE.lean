/-
  What der.May, der.Write and der.Int return. Conditions: those that each theorem types.
-/
import Derived.Test.YthjcldkaodmfoaaGreatDerD
namespace Go.Proofs.YthjcldkaodmfoaaGreat
open Go.RowKit

/-! ### der.May, der.Write, der.Int -/
def Nd.ok (nd : Nd) : Bool := (nd.may 0 1024).1
/-- A node's value is written out. -/
theorem NdV.agg {n : Nat} {w : World} {v : Value} {nd : Nd} (h : NdV n w v nd) : ∃ t A1 n1 c1 A2 n2 c2, v = .agg #[.int .i64 t, .slice A1 n1 c1, .slice A2 n2 c2] := by
  cases n with
  | zero => exact h.elim
  | succ n =>
    obtain ⟨t, b, ks⟩ := nd
    obtain ⟨bv, A, c, e, ⟨A', c', e', _⟩, _⟩ := h
    subst e'
    exact ⟨t, A', b.length, c', A, ks.length, c, e⟩

set_option maxRecDepth 100000 in
theorem der_May (n : Nat) (nd : Nd) (v : Value) (w : World) (h : NdV n w v nd) :
    Calls Tryz.prog 211 #[v] w fun e w' => e = .returned (.bool nd.ok) ∧ Below w.heap.size w w' := by
  obtain ⟨t, A1, n1, c1, A2, n2, c2, rfl⟩ := h.agg
  go_enter Tryz.func211, Tryz.ntmps211
  go_wp2_with fail
  have hb : Below w.heap.size w ((w.alloc (.cells #[.int .i64 t, .slice A1 n1 c1, .slice A2 n2 c2] 123)).alloc (.cells #[.int .i64 1024] 3)) := ((Below.refl _ _).alloc (Nat.le_refl _) _).alloc (by simp) _
  have hc : Cnt 3 ((w.alloc (.cells #[.int .i64 t, .slice A1 n1 c1, .slice A2 n2 c2] 123)).alloc (.cells #[.int .i64 1024] 3)) (w.heap.size + 1) 1024 := by
    have := heap_alloc_new (w.alloc (.cells #[.int .i64 t, .slice A1 n1 c1, .slice A2 n2 c2] 123)) (.cells #[.int .i64 1024] 3)
    rw [World.size_alloc] at this
    exact this
  refine (der_may n nd 0 1024 (w.heap.size + 1) _ _ (h.below hb) hc (by omega) (by omega) (by omega)).mono ?_
  rintro e w1 ⟨rfl, _, hx, _⟩
  have HX := Ho.mk hx
  have HBB := Ho.mk hb
  clear hx hb hc
  go_wp2
  go_ret
  refine ⟨rfl, ?_⟩
  have h1 := HX.out
  refine ⟨h1.os.trans HBB.out.os, h1.tape.trans HBB.out.tape, h1.output.trans HBB.out.output, Nat.le_trans HBB.out.size h1.size, fun k hk => ?_⟩
  rw [h1.block k (Nat.lt_of_lt_of_le hk HBB.out.size) (by omega), HBB.out.block k hk]

/-- What der.Write writes; none: nothing. -/
def Nd.wr (nd : Nd) : Option (List Int) := if nd.ok = true ∧ nd.enc.length ≤ 65536 then some nd.enc else none
def WritePost (nd : Nd) (w : World) (e : Ending) (w' : World) : Prop := Below w.heap.size w w' ∧
  ((nd.wr = none ∧ e = .returned (.tuple #[.slice none 0 0, .bool false])) ∨ (nd.wr = some nd.enc ∧ ∃ v1, e = .returned (.tuple #[v1, .bool true]) ∧ OwV w' w.heap.size 5 .u8 v1 nd.enc))

set_option maxRecDepth 100000 in
theorem der_Write (n : Nat) (nd : Nd) (v : Value) (w : World) (h : NdV n w v nd) :
    Calls Tryz.prog 135 #[v] w (WritePost nd w) := by
  obtain ⟨t, A1, n1, c1, A2, n2, c2, rfl⟩ := h.agg
  obtain ⟨W0, hW0⟩ : ∃ W0, w.alloc (.cells #[.int .i64 t, .slice A1 n1 c1, .slice A2 n2 c2] 123) = W0 := ⟨_, rfl⟩
  have hB0 : Below w.heap.size w W0 := hW0 ▸ (Below.refl _ _).alloc (Nat.le_refl _) _
  have hz0 : w.heap.size < W0.heap.size := by rw [← hW0]; simp
  have d0 : W0.cell? ⟨w.heap.size, 0, none⟩ = some (.int .i64 t) := by rw [← hW0]; exact cell_of_row _ _ _ _ _ _ (heap_alloc_new w _)
  have d1 : W0.cell? ⟨w.heap.size, 1, none⟩ = some (.slice A1 n1 c1) := by rw [← hW0]; exact cell_of_row _ _ _ _ _ _ (heap_alloc_new w _)
  have d2 : W0.cell? ⟨w.heap.size, 2, none⟩ = some (.slice A2 n2 c2) := by rw [← hW0]; exact cell_of_row _ _ _ _ _ _ (heap_alloc_new w _)
  have HV := Ho.mk h
  have HB0 := Ho.mk hB0
  clear h hB0
  go_enter Tryz.func135, Tryz.ntmps135
  go_wp2_with fail
  refine (der_May n nd _ _ (HV.out.below HB0.out)).mono ?_
  rintro e w1 ⟨rfl, hb1⟩
  have HB1 := Ho.mk (below_base HB0.out HB0.out.size hb1)
  have e0 := cell_below hb1 d0
  have e1 := cell_below hb1 d1
  have e2 := cell_below hb1 d2
  clear hb1 d0 d1 d2
  by_cases hok : nd.ok = true
  · have HK := Ho.mk hok
    rw [hok]
    clear hok
    go_wp2_with fail
    refine (der_write n nd _ _ (HV.out.below HB1.out)).mono ?_
    rintro e w2 ⟨hb2, ⟨hle, v1, rfl, ho⟩ | ⟨hgt, v1, rfl⟩⟩
    · have HB2 := Ho.mk (below_base HB1.out HB1.out.size hb2)
      have HO := Ho.mk (ho.weaken HB1.out.size)
      have HL := Ho.mk hle
      clear hb2 ho hle
      go_wp2
      go_ret2
      exact ⟨HB2.out, .inr ⟨by unfold Nd.wr; rw [if_pos ⟨HK.out, HL.out⟩], v1, rfl, HO.out⟩⟩
    · have HB2 := Ho.mk (below_base HB1.out HB1.out.size hb2)
      have HL := Ho.mk hgt
      clear hb2 hgt
      go_wp2
      go_ret2
      exact ⟨HB2.out, .inl ⟨by unfold Nd.wr; rw [if_neg (fun q => by have := HL.out; omega)], rfl⟩⟩
  · have hf : nd.ok = false := by simpa using hok
    have HK := Ho.mk hok
    rw [hf]
    clear hok hf
    go_wp2
    go_ret2
    exact ⟨HB1.out, .inl ⟨by unfold Nd.wr; rw [if_neg (fun q => HK.out q.1)], rfl⟩⟩

/-- The node of a number. -/
def intNd (N : Nat) : Nd := .mk 2 (beb (nbits N / 8 + 1) N) []
theorem NdV.leaf {w : World} {t : Int} {bv : Value} {b : List Int} (h : SlI w .u8 bv b) (hd : Dg 256 b) (hl : b.length ≤ 17592186044416) : NdV 1 w (.agg #[.int .i64 t, bv, .slice none 0 0]) (.mk t b []) :=
  ⟨bv, none, 0, rfl, h, hd, hl, fun hp => absurd hp (by simp), by simp, by omega, fun _ => rfl, fun hp => absurd hp (by simp)⟩

set_option maxRecDepth 100000 in
theorem der_Int (v : Value) (xs : List Int) (w : World) (h : SlI w .u64 v xs) (hd : Dg W64 xs) (hl : xs.length ≤ 4096) :
    Calls Tryz.prog 123 #[v] w fun e w' => ∃ v1, e = .returned v1 ∧ NdV 1 w' v1 (intNd (nvB W64 xs)) ∧ Below w.heap.size w w' := by
  obtain ⟨N, HN⟩ : ∃ N, Ho (nvB W64 xs = N) := ⟨_, ⟨rfl⟩⟩
  have hb := limb_Bits v xs (w.alloc (.cells #[.int .i64 0, .slice none 0 0, .slice none 0 0] 123)) (h.below ((Below.refl _ _).alloc (Nat.le_refl _) _)) hd (by omega)
  have hbits : nbits N ≤ 64 * xs.length := by
    rw [← HN.out]
    refine nbits_le_iff.2 (Nat.lt_of_lt_of_le (nvB_lt hd) ?_)
    rw [W64_pow, ← Nat.pow_mul]
    exact Nat.le_refl _
  rw [HN.out] at hb ⊢
  have HB := Ho.mk hb
  clear hb
  go_enter Tryz.func123, Tryz.ntmps123
  go_wp2_with fail
  refine HB.out.mono ?_
  rintro e w1 ⟨rfl, rfl⟩
  have HS := Ho.mk (h.below ((Below.refl w.heap.size w).alloc (Nat.le_refl _) (.cells #[.int .i64 0, .slice none 0 0, .slice none 0 0] 123)))
  have HD := Ho.mk hd
  clear hd h
  go_wp2_with fail
  refine (limb_Bytes v xs _ _ HS.out HD.out (by omega)).mono ?_
  rw [HN.out]
  rintro e w1 ⟨hb1, ⟨hbad, _⟩ | ⟨_, v1, rfl, ho⟩⟩
  · omega
  have eL : ((nbits N : Int) / 8 + 1).toNat = nbits N / 8 + 1 := by omega
  rw [eL] at ho
  have HO := Ho.mk ho
  obtain ⟨A1, c1, rfl, _⟩ := ho.sl
  clear ho
  have f0 := cell_below hb1 (cell_of_row (w.alloc (.cells #[.int .i64 0, .slice none 0 0, .slice none 0 0] 123)) w.heap.size 0 _ _ _ (heap_alloc_new w _))
  have f1 := cell_below hb1 (cell_of_row (w.alloc (.cells #[.int .i64 0, .slice none 0 0, .slice none 0 0] 123)) w.heap.size 1 _ _ _ (heap_alloc_new w _))
  have f2 := cell_below hb1 (cell_of_row (w.alloc (.cells #[.int .i64 0, .slice none 0 0, .slice none 0 0] 123)) w.heap.size 2 _ _ _ (heap_alloc_new w _))
  have fz : ∀ j, w1.frozen? ⟨w.heap.size, j, none⟩ = false := fun j => (hb1.frozen (p := ⟨w.heap.size, j, none⟩) (by simp)).trans (frozen_of_row _ _ _ _ _ (heap_alloc_new w _))
  have fz0 := fz 0
  have fz1 := fz 1
  have fz2 := fz 2
  have HB1 := Ho.mk hb1
  clear hb1 fz
  go_wp2_with fail
  refine bodyPost_ret (v := .agg #[.int .i64 2, .slice A1 (beb (nbits N / 8 + 1) N).length c1, .slice none 0 0]) (by simp [results, Tryz.results123, go_sem, f0, f1, f2]) rfl ⟨_, rfl, ?_, ?_⟩
  · have hne : ∀ j, (Value.slice A1 (beb (nbits N / 8 + 1) N).length c1).ownBlock ≠ some (⟨w.heap.size, j, none⟩ : Addr).block := fun j e => by
      have := (HO.out.block _ e).1
      simp at this
      omega
    exact NdV.leaf (((HO.out.other (hne 0) _).other (hne 1) _).other (hne 2) _).sl (beb_dg _ _) (by rw [beb_length]; omega)
  · exact ((((((Below.refl _ _).alloc (Nat.le_refl _) _).trans (HB1.out.mono (by simp))).setCell (p := ⟨w.heap.size, 0, none⟩) (Nat.le_refl _) _).setCell (p := ⟨w.heap.size, 1, none⟩) (Nat.le_refl _) _).setCell (p := ⟨w.heap.size, 2, none⟩) (Nat.le_refl _) _)

end Go.Proofs.YthjcldkaodmfoaaGreat
