/-
  baileylaw18.begun answers yes. Conditions: none.
-/
import Derived.Test.YthjcldkaodmfoaaGreatAttR
import Derived.Test.YthjcldkaodmfoaaGreatAttP
namespace Go.Proofs.YthjcldkaodmfoaaGreat
open Go.RowKit Go.Shelf

def begT : List At := [(0, [0, 0, 0, 4]), (256, [0, 0, 0, 31]), (17, [0, 0, 0, 0, 0, 0, 0, 0, 0, 0, 0, 0, 0, 0, 0, 0])]
def begO : List At := (madeT (joinL begT) 4 31 tys).getD []
def begS : List At := reckL begO
def begX : List At := (setL begS [(259, [1])]).1
theorem begK : kindsL begT = (4, 31, 0) := by decide +kernel
theorem begJ : madeT (joinL begT) 4 31 tys = some begO := by decide +kernel
theorem begC : checkL begT = 0 := by decide +kernel
theorem begD : noDup begT := by
  have key : ∀ i : Fin 3, cameL (begT.take i.1) (begT[i.1]'i.2).1 = false := by decide +kernel
  exact fun i h => key ⟨i, h⟩
theorem dg_mem {xs : List Int} (h : ∀ x ∈ xs, 0 ≤ x ∧ x < 256) : Dg 256 xs := by
  induction xs with
  | nil => exact Dg.nil (by decide)
  | cons x xs ih => exact Dg.cons (h x (by simp)).1 (h x (by simp)).2 (ih fun y hy => h y (by simp [hy]))
theorem ok_dec {l : List At} (h : ∀ a ∈ l, (∀ x ∈ a.2, 0 ≤ x ∧ x < 256) ∧ a.2.length ≤ 1000) : AtsOk l := fun a ha => ⟨dg_mem (h a ha).1, by have := (h a ha).2; omega⟩
theorem begT_ok : AtsOk begT := ok_dec (by decide +kernel)
theorem begS_ok : AtsOk begS := ok_dec (by decide +kernel)
theorem begX_ok : AtsOk begX := ok_dec (by decide +kernel)
theorem begO_ok : AtsOk begO := ok_dec (by decide +kernel)
theorem begO_nats : natsOk begO := fun t => by
  have h : ∀ a ∈ begO, a.2.length ≤ 1000 := by decide +kernel
  unfold valL
  cases e : getL begO t with
  | none => simp
  | some b => have := h _ (getL_mem e); simp at this ⊢; omega
theorem beg_worth (x : Value) (W : World) (h : SlA W x begO) : Calls Tryz.prog 160 #[x, .int .i64 4, .int .i64 31] W (BoolPost true W) := by
  have e := rules_worth_aes begO x W h begO_ok begO_nats (by decide +kernel)
  rwa [show aesL begO = true by decide +kernel] at e
theorem beg_made : madeR begT true = (begS, 0) := by
  unfold madeR
  rw [begC, begK, if_neg (by simp)]
  simp only [begJ]
  rfl
theorem beg_set : setL begS [(259, [1])] = (begX, 0) := by
  have : (setL begS [(259, [1])]).2 = 0 := by decide +kernel
  rw [← this]; rfl
theorem beg_gets : getsR begX [17, 353] = 17 := by decide +kernel
theorem beg_getl : getsL begX [17, 353] = [(17, []), (353, getV begX 353)] ∧ (getV begX 353).length = 4 := by decide +kernel
theorem beg_len : begS.length ≤ 450 ∧ 15 < begS.length := by decide +kernel
theorem beg_has : hasL 4 31 17 = true := by decide +kernel
theorem beg_hid : hiddenL begX 17 = true := by decide +kernel
theorem beg_wants : flagW begT 4 1 = false ∧ flagW begT 4 2 = true := by decide +kernel


theorem info_u8s : (Tryz.prog.info? 5).map (fun i => (i.zero, i.size, i.bytes)) = some (some (.int .u8 0), 1, 1) := by kernel_rfl
theorem make16 (W : World) : (Instr.makeSlice 22 (.int .i64 16) (.int .i64 16)).run Tryz.prog W = .ok (.slice (some ⟨W.heap.size, 0, none⟩) 16 16) (W.alloc (.cells (([0, 0, 0, 0, 0, 0, 0, 0, 0, 0, 0, 0, 0, 0, 0, 0] : List Int).map (Value.int .u8)).toArray 5)) := by
  obtain ⟨i0, hi, hzz⟩ := Option.map_eq_some_iff.1 info_u8s
  simp only [Prod.mk.injEq] at hzz
  obtain ⟨hz0, hz1, hz2⟩ := hzz
  have e := run_makeSlice (P := Tryz.prog) W 22 5 i0 _ Tryz.underlying22 hi hz0 .i64 .i64 16 16 (by decide) (by decide) (by rw [hz1]; decide) (by rw [hz2]; decide) (by decide)
  rw [hz1] at e
  rw [e, show madeCells (Value.int IntKind.u8 0).cells (Int.toNat 16 * 1) = (([0, 0, 0, 0, 0, 0, 0, 0, 0, 0, 0, 0, 0, 0, 0, 0] : List Int).map (Value.int .u8)).toArray from by first | rfl | kernel_rfl | simp [madeCells, Value.cells]]
  rfl
theorem beg_z (W : World) : SlI (W.alloc (.cells (([0, 0, 0, 0, 0, 0, 0, 0, 0, 0, 0, 0, 0, 0, 0, 0] : List Int).map (Value.int .u8)).toArray 5)) .u8 (.slice (some ⟨W.heap.size, 0, none⟩) 16 16) [0, 0, 0, 0, 0, 0, 0, 0, 0, 0, 0, 0, 0, 0, 0, 0] :=
  (OwI.lit' W.heap.size 5 .u8 [0, 0, 0, 0, 0, 0, 0, 0, 0, 0, 0, 0, 0, 0, 0, 0] _ rfl rfl (Nat.le_refl _) (by decide)).val.sl
theorem beg_box {X : World} {x1 x2 x3 : Value} (h1 : SlI X .u8 x1 [0, 0, 0, 4]) (h2 : SlI X .u8 x2 [0, 0, 0, 31]) (h3 : SlI X .u8 x3 [0, 0, 0, 0, 0, 0, 0, 0, 0, 0, 0, 0, 0, 0, 0, 0]) :
    SlA (X.alloc (.cells #[.int .i64 0, x1, .int .i64 256, x2, .int .i64 17, x3] 91)) (.slice (some ⟨X.heap.size, 0, none⟩) 3 3) begT :=
  sl_boxes (q := [((0, [0, 0, 0, 4]), x1), ((256, [0, 0, 0, 31]), x2), ((17, [0, 0, 0, 0, 0, 0, 0, 0, 0, 0, 0, 0, 0, 0, 0, 0]), x3)]) (fun p hp => by
    simp only [List.mem_cons, List.not_mem_nil, or_false] at hp
    rcases hp with rfl | rfl | rfl
    · exact h1
    · exact h2
    · exact h3) (by simp)

set_option maxRecDepth 100000 in
set_option maxHeartbeats 4000000 in
theorem law18_begun (w : World) : Calls Tryz.prog 55 #[] w (BoolPost true w) := by
  go_enter Tryz.func55, Tryz.ntmps55
  go_wp2
  rename_i K hK
  have rest : ∀ (v u13 u14 u15 u16 u17 : Value) (W : World), Ho (Below w.heap.size w W) → Ho (SlA W v begT) → K { tmps := #[.bool false, v, undef, undef, undef, undef, undef, undef, undef, undef, undef, undef, undef, u13, u14, u15, u16, u17, undef, undef, undef, undef, undef, undef, undef, undef, undef, undef, undef, undef, undef, undef, undef, undef, undef, undef, undef, undef, undef, undef, undef, undef, undef, undef, undef, undef, undef, undef, undef, undef, undef, undef, undef, undef, undef, undef, undef, undef, undef, undef, undef, undef, undef, undef, undef, undef, undef, undef, undef, undef, undef, undef, undef, undef, undef, undef, undef, undef, undef, undef, undef, undef, undef, undef, undef, undef, undef, undef, undef, undef, undef, undef, undef, undef, undef, undef, undef, undef, undef, undef, undef, undef, undef, undef, undef, undef, undef, undef, undef, undef, undef, undef, undef], defers := [] } W := by
    intro v u13 u14 u15 u16 u17 W HB HT
    refine hK _ _ ?_
    clear hK
    go_wp2_with fail
    refine (rules_Made begT true v W HT.out begT_ok (by decide) (fun _ => begD) (fun _ o ho => by
      rw [begK] at ho ⊢
      obtain rfl : begO = o := by rw [begJ] at ho; exact Option.some.inj ho
      exact ⟨begO_nats, fun x W h => beg_worth x W h⟩)).mono ?_
    rw [beg_made]
    rintro e w1 ⟨v1, rfl, ho1, hb1⟩
    have HB1 := Ho.mk (below_base HB.out HB.out.size hb1)
    have HT1 := Ho.mk (HT.out.below hb1)
    have HS1 := Ho.mk ho1.sl
    obtain ⟨A1, c1, rfl, _⟩ := ho1.shape
    obtain ⟨n, hn⟩ : ∃ n, begS.length = n := ⟨_, rfl⟩
    have hgt : decide ((n : Int) > 15) = true := by have := beg_len.2; rw [hn] at this; exact decide_eq_true (by omega)
    rw [hn] at HS1 ⊢
    clear hn ho1 hb1
    dsimp only
    go_wp2_with fail
    refine (rules_Kinds begT _ _ HT1.out begT_ok).mono ?_
    rw [begK]
    rintro e w2 ⟨rfl, hb2⟩
    have HB2 := Ho.mk (below_base HB1.out HB1.out.size hb2)
    have HT2 := Ho.mk (HT1.out.below hb2)
    have HS2 := Ho.mk (HS1.out.below hb2)
    clear hb2
    dsimp only
    go_wp2_with fail
    refine (rules_Wants begT 4 _ _ HT2.out begT_ok).mono ?_
    rw [beg_wants.1, beg_wants.2]
    rintro e w3 ⟨rfl, hb3⟩
    have HB3 := Ho.mk (below_base HB2.out HB2.out.size hb3)
    have HT3 := Ho.mk (HT2.out.below hb3)
    have HS3 := Ho.mk (HS2.out.below hb3)
    clear hb3
    go_wp2_with fail
    refine (ref17_Bool 259 true _).mono ?_
    rintro e w4 ⟨v4, rfl, ho4, hb4⟩
    have HB4 := Ho.mk (below_base HB3.out HB3.out.size hb4)
    have HT4 := Ho.mk (HT3.out.below hb4)
    have HS4 := Ho.mk (HS3.out.below hb4)
    have HV4 := Ho.mk ho4.sl
    obtain ⟨A4, c4, rfl, _⟩ := ho4.sl
    clear hb4 ho4
    have hal4 := (Below.refl w4.heap.size w4).alloc (Nat.le_refl _) (.cells #[.int .i64 259, .slice A4 (boolA 259 true).2.length c4] 91)
    have HX4 := Ho.mk (sl_boxA (a := (259, [1])) HV4.out)
    have HB5 := Ho.mk (below_base HB4.out HB4.out.size hal4)
    have HT5 := Ho.mk (HT4.out.below hal4)
    have HS5 := Ho.mk (HS4.out.below hal4)
    clear hal4
    go_wp2_with fail
    refine (rules_Set begS [(259, [1])] _ _ _ HS5.out begS_ok HX4.out (ok_dec (by decide)) beg_len.1 (by decide)).mono ?_
    rw [beg_set]
    rintro e w5 ⟨v5, rfl, ho5, hb5⟩
    dsimp only at ho5 ⊢
    have HB6 := Ho.mk (below_base HB5.out HB5.out.size hb5)
    have HT6 := Ho.mk (HT5.out.below hb5)
    have HX6 := Ho.mk ho5.sl
    obtain ⟨A5, c5, rfl, _⟩ := ho5.shape
    clear ho5 hb5
    have hal5 := (Below.refl w5.heap.size w5).alloc (Nat.le_refl _) (.cells (([17, 353] : List Int).map (Value.int .i64)).toArray 3)
    have HTy : Ho (SlI (w5.alloc (.cells (([17, 353] : List Int).map (Value.int .i64)).toArray 3)) .i64 (.slice (some ⟨w5.heap.size, 0, none⟩) 2 2) [17, 353]) := ⟨(OwI.lit' w5.heap.size 3 .i64 [17, 353] _ rfl rfl (Nat.le_refl _) (by decide)).val.sl⟩
    have HB7 := Ho.mk (below_base HB6.out HB6.out.size hal5)
    have HT7 := Ho.mk (HT6.out.below hal5)
    have HX7 := Ho.mk (HX6.out.below hal5)
    clear hal5
    go_wp2_with fail
    refine (rules_Get begX [17, 353] _ _ _ HX7.out begX_ok HTy.out (by decide)).mono ?_
    rw [beg_gets, beg_getl.1]
    rintro e w7 ⟨v7, rfl, ho7, hb7⟩
    have HB8 := Ho.mk (below_base HB7.out HB7.out.size hb7)
    have HT8 := Ho.mk (HT7.out.below hb7)
    have HX8 := Ho.mk (HX7.out.below hb7)
    obtain ⟨A7, c7, e7, p1, p2, p3, p4⟩ := ho7.sl
    obtain ⟨b7, o7, eA, hcell⟩ := p4 (by decide)
    obtain ⟨x0, y0, z0, s0⟩ := hcell 0 (by decide)
    obtain ⟨x1, y1, z1, s1⟩ := hcell 1 (by decide)
    obtain ⟨a0, d0, e0, _⟩ := s0
    obtain ⟨a1, d1, e1, _⟩ := s1
    have h4 : ((17, []) :: [(353, getV begX 353)] : List At)[1].2.length = 4 := beg_getl.2
    have h0 : ((17, []) :: [(353, getV begX 353)] : List At)[0].2.length = 0 := rfl
    rw [h0] at e0
    rw [h4] at e1
    subst e0 e1 eA e7
    have k0 : w7.cell? ⟨b7, o7 + 1, none⟩ = some (.slice a0 0 d0) := by simpa using z0
    have k1 : w7.cell? ⟨b7, o7 + 2 + 1, none⟩ = some (.slice a1 4 d1) := by simpa using z1
    have k2 : w7.cell? ⟨b7, o7 + 3, none⟩ = some (.slice a1 4 d1) := k1
    simp only [List.length_cons, List.length_nil] at p1 ⊢
    clear hcell y0 y1 z0 z1 h0 h4 ho7 hb7 p3 p4
    go_wp2_with fail
    refine (rules_Has 4 31 17 w7).mono ?_
    rw [beg_has]
    rintro e w8 ⟨rfl, hb8⟩
    have HB9 := Ho.mk (below_base HB8.out HB8.out.size hb8)
    have HT9 := Ho.mk (HT8.out.below hb8)
    have HX9 := Ho.mk (HX8.out.below hb8)
    clear hb8 k0 k1 k2
    go_wp2_with fail
    refine (rules_Hidden begX 17 _ _ HX9.out begX_ok).mono ?_
    rw [beg_hid]
    rintro e w9 ⟨rfl, hb9⟩
    have HB10 := Ho.mk (below_base HB9.out HB9.out.size hb9)
    have HT10 := Ho.mk (HT9.out.below hb9)
    clear hb9
    go_wp2_with fail
    refine (rules_Check begT _ _ HT10.out begT_ok (by decide)).mono ?_
    rw [begC]
    rintro e w10 ⟨rfl, hb10⟩
    have HB11 := Ho.mk (below_base HB10.out HB10.out.size hb10)
    clear hb10
    go_wp2
    go_ret
    exact ⟨rfl, HB11.out⟩
  clear hK
  have hmk := fun W => make16 W
  go_region_held3 (fun w' => Below w.heap.size w w')
    (first | exact below_drewN (Below.refl _ _) 1 | exact below_base ‹_› (Below.size ‹_›) hbI | exact below_al ‹_› (Nat.le_refl _) _)
    (first
      | (go_at_call_of 142 (Value.int IntKind.i64 4); refine (ref17_Num 0 4 (.inl rfl) _).mono ?_; rintro e w1 ⟨v1, rfl, ho1, hb13⟩; have hbI := hb13; have HS13 := Ho.mk ho1.sl; obtain ⟨A1, c1, rfl, _⟩ := ho1.sl; clear ho1)
      | (go_at_call 142; refine (ref17_Num 256 31 (.inr rfl) _).mono ?_; rintro e w2 ⟨v2, rfl, ho2, hb14⟩; have hbI := hb14; have HS14 := Ho.mk ho2.sl; obtain ⟨A2, c2, rfl, _⟩ := ho2.sl; clear ho2))
  · refine rest _ _ _ _ _ _ _ ⟨‹Below w.heap.size w _›⟩ ⟨?_⟩
    have e := beg_box (X := w2.alloc (.cells (([0, 0, 0, 0, 0, 0, 0, 0, 0, 0, 0, 0, 0, 0, 0, 0] : List Int).map (Value.int .u8)).toArray 5)) ((HS13.out.below hb14).below ((Below.refl _ _).alloc (Nat.le_refl _) _)) (HS14.out.below ((Below.refl _ _).alloc (Nat.le_refl _) _)) (beg_z w2)
    rw [World.size_alloc] at e
    exact e
  · exact rest _ _ _ _ _ _ _ ⟨‹Below w.heap.size w _›⟩ ⟨beg_box ((HS13.out.below ((Below.refl _ _).alloc (Nat.le_refl _) _)).below hb14) HS14.out ((beg_z w1).below hb14)⟩
  · exact rest _ _ _ _ _ _ _ ⟨‹Below w.heap.size w _›⟩ ⟨beg_box (HS13.out.below hb14) HS14.out (((beg_z w.drew).below hb13).below hb14)⟩

end Go.Proofs.YthjcldkaodmfoaaGreat
