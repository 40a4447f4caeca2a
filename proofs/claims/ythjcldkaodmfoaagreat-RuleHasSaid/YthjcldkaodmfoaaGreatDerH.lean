/-
  What der.Read returns at a node without kids. Conditions: those that each theorem types.
-/
import Derived.Test.YthjcldkaodmfoaaGreatDerG
import Derived.WalkMore
namespace Go.Proofs.YthjcldkaodmfoaaGreat
open Go.RowKit

/-! ### der.reader.node at a node without kids -/
theorem cell3 {w : World} {b : Nat} {x y z : Value} {T : TypeId} (h : w.heap[b]? = some (.cells #[x, y, z] T (0, 0))) :
    w.cell? ⟨b, 0, none⟩ = some x ∧ w.cell? ⟨b, 1, none⟩ = some y ∧ w.cell? ⟨b, 2, none⟩ = some z ∧ w.frozen? ⟨b, 0, none⟩ = false ∧ w.frozen? ⟨b, 1, none⟩ = false ∧ w.frozen? ⟨b, 2, none⟩ = false :=
  ⟨cell_of_row _ _ _ _ _ _ h, cell_of_row _ _ _ _ _ _ h, cell_of_row _ _ _ _ _ _ h, frozen_of_row _ _ _ _ _ h, frozen_of_row _ _ _ _ _ h, frozen_of_row _ _ _ _ _ h⟩
theorem SlI.keepRow {w w1 : World} {B : Nat} {v : Value} {xs : List Int} {cs : Array Value} {T : TypeId} (h : SlI w .u8 v xs) (hx : BelowX B w w1) (hrow : w.heap[B]? = some (.cells cs T (0, 0))) (hn : ∀ (j : Nat) (q : Int), cs[j]? ≠ some (.int .u8 q)) : SlI w1 .u8 v xs := by
  obtain ⟨A, c, e, h1, h2, h3, hr⟩ := h
  refine ⟨A, c, e, h1, h2, h3, fun hp => ?_⟩
  obtain ⟨b, o, eA, hcell⟩ := hr hp
  refine ⟨b, o, eA, fun j hj => ?_⟩
  have hc := hcell j hj
  have hne : b ≠ B := by
    rintro rfl
    rw [cell_of_row w b (o + j) _ _ _ hrow] at hc
    exact hn _ _ hc
  rw [World.cell?_of_block (w := w) (w' := w1) (a := ⟨b, o + j, none⟩) (hx.block b (World.block_lt_of_cell? w _ hc) hne)]
  exact hc
theorem BelowX.past {L B : Nat} {w w1 : World} (h : BelowX L w w1) (hB : w.heap.size ≤ B) (j : Nat) (v : Value) : BelowX L w (w1.setCell ⟨B, j, none⟩ v) :=
  ⟨h.os, h.tape, h.output, by simpa using h.size, fun i hi hn => (heap_setCell_other w1 ⟨B, j, none⟩ i v (by simp; omega)).trans (h.block i hi hn)⟩
theorem Cnt.past {T : TypeId} {L B : Nat} {w : World} {l : Int} (h : Cnt T w L l) (hn : L ≠ B) (j : Nat) (v : Value) : Cnt T (w.setCell ⟨B, j, none⟩ v) L l := (heap_setCell_other w ⟨B, j, none⟩ L v hn).trans h
theorem hd3_facts {b h r : List Int} {t : Int} (hh : hd3 b = some (t, h, r)) : t = gx b 0 ∧ h.length + r.length + 2 ≤ b.length ∧ (Dg 256 b → Dg 256 h ∧ Dg 256 r) := by
  have key : ∀ (n : Nat) (ys : List Int), (∃ k, ys = b.drop k ∧ 2 ≤ k) → n ≤ ys.length → 2 ≤ b.length → (ys.take n).length + (ys.drop n).length + 2 ≤ b.length ∧ (Dg 256 b → Dg 256 (ys.take n) ∧ Dg 256 (ys.drop n)) := by
    rintro n ys ⟨k, rfl, hk⟩ hn hb
    refine ⟨?_, fun hd => ⟨(hd.drop k).take n, (hd.drop k).drop n⟩⟩
    simp only [List.length_take, List.length_drop] at hn ⊢
    omega
  unfold hd3 at hh
  split at hh
  · simp at hh
  · rename_i h2
    split at hh
    · split at hh
      · rename_i hfit
        simp only [Option.some.injEq, Prod.mk.injEq] at hh
        obtain ⟨rfl, rfl, rfl⟩ := hh
        exact ⟨rfl, key _ _ ⟨2, rfl, by omega⟩ (by omega) (by omega)⟩
      · simp at hh
    · split at hh
      · simp at hh
      · split at hh
        · simp at hh
        · split at hh
          · rename_i hfit
            simp only [Option.some.injEq, Prod.mk.injEq] at hh
            obtain ⟨rfl, rfl, rfl⟩ := hh
            exact ⟨rfl, key _ _ ⟨2 + (gx b 1 - 128).toNat, by rw [List.drop_drop], by omega⟩ hfit (by omega)⟩
          · simp at hh
def LeafPost (t : Int) (h r : List Int) (l : Int) (L : Nat) (w : World) (e : Ending) (w' : World) : Prop :=
  ∃ v1 v2, e = .returned (.tuple #[.agg #[.int .i64 t, v1, .slice none 0 0], v2, .bool (plainB t h)]) ∧ SlI w' .u8 v1 h ∧ SlI w' .u8 v2 r ∧ Cnt 273 w' L (l - 1) ∧ BelowX L w w'

set_option maxRecDepth 100000 in
theorem der_node_leaf (v : Value) (b : List Int) (t : Int) (h r : List Int) (d : Nat) (l : Int) (L : Nat) (w : World) (hb : SlI w .u8 v b) (hdg : Dg 256 b) (hh : hd3 b = some (t, h, r)) (ht : t ≠ 48) (hc : Cnt 273 w L l) (hl0 : 1 ≤ l) (hl1 : l ≤ 1024) (hd : d < 16) (hlen : b.length ≤ 17592186044416) :
    Calls Tryz.prog 265 #[.pointer (some ⟨L, 0, none⟩), v, .int .i64 d] w (LeafPost t h r l L w) := by
  have q1 : decide (l - 1 < 0) = false := decf (by omega)
  have q2 : decide (16 ≤ (d : Int)) = false := decf (by omega)
  have q3 : (t != 48) = true := bne_iff_ne.2 ht
  have hcc := (hc.alloc (.cells #[.int .i64 0, .slice none 0 0, .slice none 0 0] 123)).cell
  have hcf := (hc.alloc (.cells #[.int .i64 0, .slice none 0 0, .slice none 0 0] 123)).frozen
  have hcc2 := ((hc.set (l - 1)).alloc (.cells #[.int .i64 0, .slice none 0 0, .slice none 0 0] 123)).cell
  have hLlt := hc.lt
  have hX0 : BelowX L w ((w.setCell ⟨L, 0, none⟩ (.int .i64 (l - 1))).alloc (.cells #[.int .i64 0, .slice none 0 0, .slice none 0 0] 123)) := ((BelowX.refl _ _).setCell 0 _).alloc _
  have hC0 : Cnt 273 ((w.setCell ⟨L, 0, none⟩ (.int .i64 (l - 1))).alloc (.cells #[.int .i64 0, .slice none 0 0, .slice none 0 0] 123)) L (l - 1) := (hc.set _).alloc _
  have HS0 := Ho.mk (hb.keepX hX0 hc)
  have HX0 := Ho.mk hX0
  have HC0 := Ho.mk hC0
  have HH := Ho.mk hh
  have HDG := Ho.mk hdg
  have hzz : (w.setCell ⟨L, 0, none⟩ (.int .i64 (l - 1))).heap.size = w.heap.size := by simp
  have hrow := heap_alloc_new (w.setCell ⟨L, 0, none⟩ (.int .i64 (l - 1))) (.cells #[.int .i64 0, .slice none 0 0, .slice none 0 0] 123)
  rw [hzz] at hrow
  have HRow := Ho.mk hrow
  have hZ0 : w.heap.size < ((w.setCell ⟨L, 0, none⟩ (.int .i64 (l - 1))).alloc (.cells #[.int .i64 0, .slice none 0 0, .slice none 0 0] 123)).heap.size := by simp
  have HZ0 := Ho.mk hZ0
  clear hc hb hh hdg hrow hzz hX0 hC0 hZ0
  go_enter Tryz.func265, Tryz.ntmps265
  go_wp2_with fail
  go_step3
  go_wp2_with fail
  obtain ⟨W0, hW0⟩ : ∃ W0, (w.setCell ⟨L, 0, none⟩ (.int .i64 (l - 1))).alloc (.cells #[.int .i64 0, .slice none 0 0, .slice none 0 0] 123) = W0 := ⟨_, rfl⟩
  rw [hW0] at HS0 HX0 HC0 HRow HZ0 ⊢
  clear hcc hcf hcc2 hW0
  refine (der_head v b W0 HS0.out HDG.out).mono ?_
  rintro e w1 ⟨⟨nq, rfl⟩, ⟨hbad, _⟩ | ⟨t', h', r', v1, v2, hq, rfl, hs1, hs2⟩⟩
  · rw [HH.out] at hbad; exact absurd hbad (by simp)
  rw [HH.out] at hq
  simp only [Option.some.injEq, Prod.mk.injEq] at hq
  obtain ⟨rfl, rfl, rfl⟩ := hq
  have HS1 := Ho.mk (hs1.drewN nq)
  have HS2 := Ho.mk (hs2.drewN nq)
  have hhl : h.length ≤ 17592186044416 := by
    have := (hd3_facts HH.out).2.1
    omega
  clear hs1 hs2
  go_wp2_with fail
  refine (bytes_Clone v1 h _ HS1.out (by omega)).mono ?_
  rintro e w1 ⟨v3, rfl, ho3, hb3⟩
  have HO3 := Ho.mk ho3
  obtain ⟨A3, c3, rfl, hsl3⟩ := ho3.sl
  clear hsl3
  have HB3 := Ho.mk hb3
  have HS1 := Ho.mk (HS1.out.below hb3)
  have HS2 := Ho.mk (HS2.out.below hb3)
  have HRow1 := Ho.mk ((hb3.block _ (show w.heap.size < (W0.drewN nq).heap.size from HZ0.out)).trans (show (W0.drewN nq).heap[w.heap.size]? = _ from HRow.out))
  obtain ⟨f0, f1, f2, z0, z1, z2⟩ := cell3 ((hb3.block _ (show w.heap.size < (W0.drewN nq).heap.size from HZ0.out)).trans (show (W0.drewN nq).heap[w.heap.size]? = _ from HRow.out))
  clear ho3 hb3
  go_wp2_with fail
  refine (der_plain t v1 h _ HS1.out).mono ?_
  rintro e w2 ⟨rfl, rfl⟩
  go_wp2_with fail
  rw [Exit.noGoto_ret]
  refine bodyPost_ret (v := .tuple #[.agg #[.int .i64 t, .slice A3 h.length c3, .slice none 0 0], v2, .bool (plainB t h)]) (by simp [results, Tryz.results265, go_sem, f0, f1, f2]) rfl ⟨_, _, rfl, ?_, ?_, ?_, ?_⟩
  · have hne : ∀ j, (Value.slice A3 h.length c3).ownBlock ≠ some (⟨w.heap.size, j, none⟩ : Addr).block := fun j e => by
      have h1 : (W0.drewN nq).heap.size ≤ w.heap.size := (HO3.out.block _ e).1
      have h2 : w.heap.size < (W0.drewN nq).heap.size := HZ0.out
      omega
    exact (((HO3.out.other (hne 0) _).other (hne 1) _).other (hne 2) _).sl
  · refine HS2.out.keepRow ((((BelowX.refl _ _).setCell 0 _).setCell 1 _).setCell 2 _) HRow1.out fun j q => ?_
    match j with
    | 0 => simp
    | 1 => simp
    | 2 => simp
    | j + 3 => simp
  · have hn : L ≠ w.heap.size := by omega
    exact (((((show Cnt _ (W0.drewN nq) L (l - 1) from HC0.out).below HB3.out).past hn 0 _).past hn 1 _).past hn 2 _)
  · exact ((((HX0.out.drewN nq).trans (BelowX.of HB3.out)).past (Nat.le_refl _) 0 _).past (Nat.le_refl _) 1 _).past (Nat.le_refl _) 2 _

/-! ### der.Read at such a node -/
def ReadLeafPost (t : Int) (h : List Int) (used : Nat) (w : World) (e : Ending) (w' : World) : Prop :=
  ∃ v1, e = .returned (.tuple #[.agg #[.int .i64 t, v1, .slice none 0 0], .int .i64 used, .bool true]) ∧ SlI w' .u8 v1 h ∧ Below w.heap.size w w'

set_option maxRecDepth 100000 in
theorem der_Read_leaf (v : Value) (b : List Int) (t : Int) (h r : List Int) (w : World) (hb : SlI w .u8 v b) (hdg : Dg 256 b) (hh : hd3 b = some (t, h, r)) (ht : t ≠ 48) (hp : plainB t h = true) (hu : b.length - r.length ≤ 65536) (hlen : b.length ≤ 17592186044416) :
    Calls Tryz.prog 192 #[v] w (ReadLeafPost t h (b.length - r.length) w) := by
  have hb0 : Below w.heap.size w ((w.alloc (.cells #[.int .i64 0, .slice none 0 0, .slice none 0 0] 123)).alloc (.cells #[.int .i64 1024] 273)) := ((Below.refl _ _).alloc (Nat.le_refl _) _).alloc (by simp) _
  have hc0 : Cnt 273 ((w.alloc (.cells #[.int .i64 0, .slice none 0 0, .slice none 0 0] 123)).alloc (.cells #[.int .i64 1024] 273)) (w.heap.size + 1) 1024 := by
    have := heap_alloc_new (w.alloc (.cells #[.int .i64 0, .slice none 0 0, .slice none 0 0] 123)) (.cells #[.int .i64 1024] 273)
    rw [World.size_alloc] at this
    exact this
  have hrow0 : ((w.alloc (.cells #[.int .i64 0, .slice none 0 0, .slice none 0 0] 123)).alloc (.cells #[.int .i64 1024] 273)).heap[w.heap.size]? = some (.cells #[.int .i64 0, .slice none 0 0, .slice none 0 0] 123 (0, 0)) := heap_alloc2_old _ _ _
  have HB0 := Ho.mk hb0
  have HC0 := Ho.mk hc0
  have HR0 := Ho.mk hrow0
  have HS := Ho.mk hb
  have HD := Ho.mk hdg
  have HH := Ho.mk hh
  have HP := Ho.mk hp
  have hbl := (hd3_facts hh).2.1
  have hz1 : w.heap.size + 1 < ((w.alloc (.cells #[.int .i64 0, .slice none 0 0, .slice none 0 0] 123)).alloc (.cells #[.int .i64 1024] 273)).heap.size := by simp
  have HZ1 := Ho.mk hz1
  obtain ⟨A, c, rfl, hsl⟩ := hb
  clear hb0 hc0 hrow0 hdg hh hp hz1 hsl
  go_enter Tryz.func192, Tryz.ntmps192
  go_wp2_with fail
  refine (show Calls _ _ #[_, _, .int .i64 (0 : Int)] _ _ from der_node_leaf _ b t h r 0 1024 (w.heap.size + 1) _ (HS.out.below HB0.out) HD.out HH.out ht HC0.out (by omega) (by omega) (by omega) hlen).mono ?_
  rintro e w1 ⟨v1, v2, rfl, hs1, hs2, hc1, hx1⟩
  rw [HP.out]
  have hne : w.heap.size ≠ w.heap.size + 1 := by omega
  have HRow1 := Ho.mk ((hx1.block w.heap.size (by have := HZ1.out; omega) hne).trans HR0.out)
  have HS1 := Ho.mk hs1
  have HX1 := Ho.mk hx1
  obtain ⟨A1, c1, rfl, _⟩ := hs1
  obtain ⟨A2, c2, rfl, _⟩ := hs2
  obtain ⟨f0, f1, f2, z0, z1, z2⟩ := cell3 HRow1.out
  clear hc1 hx1
  have q1 : decide (65536 < (b.length : Int) - (r.length : Int)) = false := decf (by omega)
  have hzw : w.heap.size < w1.heap.size := (Array.getElem?_eq_some_iff.1 HRow1.out).1
  go_wp2_with fail
  refine bodyPost_ret (v := .tuple #[.agg #[.int .i64 t, .slice A1 h.length c1, .slice none 0 0], .int .i64 ((b.length : Int) - r.length), .bool true]) (by simp [results, Tryz.results192, go_sem, f0, f1, f2, hzw]) rfl ⟨.slice A1 h.length c1, by rw [show ((b.length - r.length : Nat) : Int) = (b.length : Int) - r.length by omega], ?_, ?_⟩
  · refine HS1.out.keepRow (((((BelowX.refl _ _).setCell 0 _).setCell 1 _).setCell 2 _).alloc _) HRow1.out fun j q => ?_
    match j with
    | 0 => simp
    | 1 => simp
    | 2 => simp
    | j + 3 => simp
  · have h2 := HX1.out
    refine (((Below.setCell (p := ⟨w.heap.size, 2, none⟩) (Below.setCell (p := ⟨w.heap.size, 1, none⟩) (Below.setCell (p := ⟨w.heap.size, 0, none⟩) ?_ (Nat.le_refl _) _) (Nat.le_refl _) _) (Nat.le_refl _) _)).alloc (by simp; omega) _)
    exact ⟨h2.os.trans HB0.out.os, h2.tape.trans HB0.out.tape, h2.output.trans HB0.out.output, Nat.le_trans HB0.out.size h2.size, fun k hk => by
      have hk' : k < w.heap.size := hk
      rw [h2.block k (Nat.lt_of_lt_of_le hk' HB0.out.size) (by omega), HB0.out.block k hk']⟩

end Go.Proofs.YthjcldkaodmfoaaGreat
