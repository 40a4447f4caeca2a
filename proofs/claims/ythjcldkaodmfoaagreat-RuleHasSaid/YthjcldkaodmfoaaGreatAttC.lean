/-
  What attrs.Form, attrs.Fine, attrs.Bool, attrs.Num return. Conditions: those that each theorem types.
-/
import Derived.Test.YthjcldkaodmfoaaGreatAttB
import Derived.Test.YthjcldkaodmfoaaGreatRefB
namespace Go.Proofs.YthjcldkaodmfoaaGreat
open Go.RowKit

/-- A type's form. -/
def formL (t : Int) : Int :=
  if t = 1 ∨ t = 2 ∨ t = 259 ∨ t = 260 ∨ t = 261 ∨ t = 262 ∨ t = 263 ∨ t = 264 ∨ t = 266 ∨ t = 268 ∨ t = 354 ∨ t = 355 ∨ t = 356 ∨ t = 357 ∨ t = 368 ∨ t = 369 then 1
  else if t = 0 ∨ t = 256 ∨ t = 289 ∨ t = 353 then 2
  else if t = 3 ∨ t = 17 ∨ t = 258 ∨ t = 384 ∨ t = 385 then 3
  else if t = 288 ∨ t = 290 ∨ t = 291 ∨ t = 292 ∨ t = 293 then 4 else 0

set_option maxRecDepth 100000 in
set_option maxHeartbeats 2000000 in
theorem attrs_Form (t : Int) (w : World) :
    Calls Tryz.prog 226 #[.int .i64 t] w fun e w' => e = .returned (.int .i64 (formL t)) ∧ w = w' := by
  go_enter Tryz.func226, Tryz.ntmps226
  go_wp2
  all_goals
    go_ret
    refine ⟨ret_int ?_, rfl⟩
    simp only [beq_iff_eq, beq_eq_false_iff_ne, ne_eq] at *
    first
      | (subst_vars; rfl)
      | (unfold formL; rw [if_neg (by omega), if_neg (by omega), if_neg (by omega), if_neg (by omega)])

set_option maxRecDepth 100000 in
set_option maxHeartbeats 2000000 in
theorem ref17_Form (t : Int) (w : World) :
    Calls Tryz.prog 235 #[.int .i64 t] w fun e w' => e = .returned (.int .i64 (formL t)) ∧ w = w' := by
  go_enter Tryz.func235, Tryz.ntmps235
  go_wp2
  all_goals
    go_ret
    refine ⟨ret_int ?_, rfl⟩
    simp only [beq_iff_eq, beq_eq_false_iff_ne, ne_eq] at *
    first
      | (subst_vars; rfl)
      | (unfold formL; rw [if_neg (by omega), if_neg (by omega), if_neg (by omega), if_neg (by omega)])

theorem formL_cases (t : Int) : formL t = 0 ∨ formL t = 1 ∨ formL t = 2 ∨ formL t = 3 ∨ formL t = 4 := by
  unfold formL
  split
  · omega
  · split
    · omega
    · split
      · omega
      · split <;> omega

/-- Is a value of its form? -/
def fineF (f : Int) (b : List Int) : Bool :=
  if f = 1 then decide (b.length = 1) && decide (gx b 0 < 2)
  else if f = 2 then decide (b.length = 4)
  else if f = 3 then decide (b.length ≤ 16384)
  else if f = 4 then decide (0 < b.length) && decide (b.length ≤ 512) && decide (gx b 0 ≠ 0) else false
def fineL (a : At) : Bool := fineF (formL a.1) a.2

theorem cell2 {w : World} {b : Nat} {x y : Value} {T : TypeId} (h : w.heap[b]? = some (.cells #[x, y] T (0, 0))) :
    w.cell? ⟨b, 0, none⟩ = some x ∧ w.cell? ⟨b, 1, none⟩ = some y ∧ w.frozen? ⟨b, 0, none⟩ = false ∧ w.frozen? ⟨b, 1, none⟩ = false :=
  ⟨cell_of_row _ _ _ _ _ _ h, cell_of_row _ _ _ _ _ _ h, frozen_of_row _ _ _ _ _ h, frozen_of_row _ _ _ _ _ h⟩

set_option maxRecDepth 100000 in
set_option maxHeartbeats 2000000 in
theorem attrs_Fine (t : Int) (b : List Int) (v : Value) (w : World) (h : SlI w .u8 v b) (hd : Dg 256 b) :
    Calls Tryz.prog 233 #[.agg #[.int .i64 t, v]] w (BoolPost (fineL (t, b)) w) := by
  obtain ⟨A, c, rfl, h1, h2, h3, hr⟩ := h
  have hfs : fineL (t, b) = fineF (formL t) b := rfl
  rw [hfs]
  clear hfs
  obtain ⟨f, hf⟩ : ∃ f, formL t = f := ⟨_, rfl⟩
  have HFm : ∀ W, Calls Tryz.prog 226 #[.int .i64 t] W fun e w' => e = .returned (.int .i64 f) ∧ W = w' := fun W => hf ▸ attrs_Form t W
  have HF := Ho.mk HFm
  have hcs := hf ▸ formL_cases t
  have hw0 := heap_alloc_new w (.cells #[.int .i64 t, .slice A b.length c] 91)
  rw [hf]
  have HB : Ho (Below w.heap.size w (w.alloc (.cells #[.int .i64 t, .slice A b.length c] 91))) := ⟨(Below.refl _ _).alloc (Nat.le_refl _) _⟩
  clear HFm hf h3 hw0
  rcases Nat.eq_zero_or_pos b.length with hb0 | hb0
  · have HP : ∀ r, Ho (fineF f b = r) → Ho (BoolPost (fineF f b) w (.returned (.bool r)) (w.alloc (.cells #[.int .i64 t, .slice A b.length c] 91))) := fun r hr => ⟨by rw [hr.out], HB.out⟩
    have HPP := Ho.mk HP
    have hbn : b = [] := List.eq_nil_of_length_eq_zero hb0
    subst hbn
    simp only [List.length_nil] at HPP ⊢
    clear HP hr hb0
    rcases hcs with rfl | rfl | rfl | rfl | rfl
    all_goals
      go_enter Tryz.func233, Tryz.ntmps233
      go_wp2_with fail
      refine (HF.out _).mono ?_
      rintro e w1 ⟨rfl, rfl⟩
      go_wp2
      go_ret
      exact (HPP.out _ ⟨by decide⟩).out
  · obtain ⟨bb, o, rfl, hc⟩ := hr hb0
    have c0 := hc 0 hb0
    simp only [Nat.add_zero] at c0
    have c0' := cell_below HB.out c0
    have HP : ∀ r, Ho (fineF f b = r) → Ho (BoolPost (fineF f b) w (.returned (.bool r)) (w.alloc (.cells #[.int .i64 t, .slice (some ⟨bb, o, none⟩) b.length c] 91))) := fun r hr => ⟨by rw [hr.out], HB.out⟩
    have HPP := Ho.mk HP
    have hx0 := (hd 0).1
    obtain ⟨x, hx⟩ : ∃ x, Ho (gx b 0 = x) := ⟨_, ⟨rfl⟩⟩
    rw [hx.out] at c0 c0' hx0
    clear hc HP hd hr
    rcases hcs with rfl | rfl | rfl | rfl | rfl
    · go_enter Tryz.func233, Tryz.ntmps233
      go_wp2_with fail
      refine (HF.out _).mono ?_
      rintro e w1 ⟨rfl, rfl⟩
      go_wp2
      go_ret
      exact (HPP.out _ ⟨rfl⟩).out
    · by_cases hl : b.length = 1
      · have q : ((b.length : Int) == 1) = true := beq_iff_eq.2 (by omega)
        have HL := Ho.mk hl
        clear hl
        go_enter Tryz.func233, Tryz.ntmps233
        go_wp2_with fail
        refine (HF.out _).mono ?_
        rintro e w1 ⟨rfl, rfl⟩
        go_wp2
        go_ret
        exact (HPP.out _ ⟨by simp [fineF, HL.out, hx.out]⟩).out
      · have q : ((b.length : Int) == 1) = false := beq_eq_false_iff_ne.2 (by omega)
        have HL := Ho.mk hl
        clear hl
        go_enter Tryz.func233, Tryz.ntmps233
        go_wp2_with fail
        refine (HF.out _).mono ?_
        rintro e w1 ⟨rfl, rfl⟩
        go_wp2
        go_ret
        exact (HPP.out _ ⟨by simp [fineF, HL.out]⟩).out
    · by_cases hl : b.length = 4
      · have q : ((b.length : Int) == 4) = true := beq_iff_eq.2 (by omega)
        have HL := Ho.mk hl
        clear hl
        go_enter Tryz.func233, Tryz.ntmps233
        go_wp2_with fail
        refine (HF.out _).mono ?_
        rintro e w1 ⟨rfl, rfl⟩
        go_wp2
        go_ret
        exact (HPP.out _ ⟨by simp [fineF, HL.out]⟩).out
      · have q : ((b.length : Int) == 4) = false := beq_eq_false_iff_ne.2 (by omega)
        have HL := Ho.mk hl
        clear hl
        go_enter Tryz.func233, Tryz.ntmps233
        go_wp2_with fail
        refine (HF.out _).mono ?_
        rintro e w1 ⟨rfl, rfl⟩
        go_wp2
        go_ret
        exact (HPP.out _ ⟨by simp [fineF, HL.out]⟩).out
    · by_cases hl : b.length ≤ 16384
      · have q : decide ((b.length : Int) ≤ 16384) = true := dect (by omega)
        go_enter Tryz.func233, Tryz.ntmps233
        go_wp2_with fail
        refine (HF.out _).mono ?_
        rintro e w1 ⟨rfl, rfl⟩
        go_wp2
        go_ret
        exact (HPP.out _ ⟨by simp [fineF, hl]⟩).out
      · have q : decide ((b.length : Int) ≤ 16384) = false := decf (by omega)
        go_enter Tryz.func233, Tryz.ntmps233
        go_wp2_with fail
        refine (HF.out _).mono ?_
        rintro e w1 ⟨rfl, rfl⟩
        go_wp2
        go_ret
        exact (HPP.out _ ⟨by simp [fineF, hl]⟩).out
    · have q0 : decide (0 < (b.length : Int)) = true := dect (by omega)
      by_cases hl : b.length ≤ 512
      · have q : decide ((b.length : Int) ≤ 512) = true := dect (by omega)
        go_enter Tryz.func233, Tryz.ntmps233
        go_wp2_with fail
        refine (HF.out _).mono ?_
        rintro e w1 ⟨rfl, rfl⟩
        go_wp2
        go_ret
        exact (HPP.out _ ⟨by simp [fineF, hl, hx.out, hb0]; by_cases e : x = 0 <;> simp [e]⟩).out
      · have q : decide ((b.length : Int) ≤ 512) = false := decf (by omega)
        go_enter Tryz.func233, Tryz.ntmps233
        go_wp2_with fail
        refine (HF.out _).mono ?_
        rintro e w1 ⟨rfl, rfl⟩
        go_wp2
        go_ret
        exact (HPP.out _ ⟨by simp [fineF, hl]⟩).out

/-! ### attrs.Bool, attrs.Num -/
theorem OwI.lit (w : World) (base : Nat) (e : TypeId) (k : IntKind) (xs : List Int) (hb : base ≤ w.heap.size) (hx : xs.length ≤ 9223372036854775807) : OwI (w.alloc (.cells (xs.map (Value.int k)).toArray e)) base e k w.heap.size xs.length xs := by
  have h := World.ownsRow_lit (base := base) (e := e) (size := 1) w (xs.map (Value.int k)).toArray xs.length hb (by simpa [maxLen] using hx) (by simp)
  exact h
theorem OwI.lit' {w : World} {o : Obj} (base : Nat) (e : TypeId) (k : IntKind) (xs : List Int) (n : Nat) (hn : n = w.heap.size) (ho : o = .cells (xs.map (Value.int k)).toArray e) (hb : base ≤ w.heap.size) (hx : xs.length ≤ 9223372036854775807) : OwI (w.alloc o) base e k n xs.length xs := by
  subst hn ho
  exact OwI.lit w base e k xs hb hx

/-- What is returned is an attribute. -/
def AtPost (a : At) (w : World) (e : Ending) (w' : World) : Prop := ∃ v1, e = .returned (.agg #[.int .i64 a.1, v1]) ∧ OwV w' w.heap.size 5 .u8 v1 a.2 ∧ Below w.heap.size w w'
def boolA (t : Int) (b : Bool) : At := (t, [if b then 1 else 0])
def be32 (x : Int) : List Int := [x / 16777216 % 256, x / 65536 % 256, x / 256 % 256, x % 256]

set_option maxRecDepth 100000 in
theorem attrs_Bool (t : Int) (b : Bool) (w : World) :
    Calls Tryz.prog 227 #[.int .i64 t, .bool b] w (AtPost (boolA t b) w) := by
  cases b <;>
  · go_enter Tryz.func227, Tryz.ntmps227
    go_wp2
    refine bodyPost_ret (v := .agg #[.int .i64 t, .slice (some ⟨w.heap.size + 1, 0, none⟩) 1 1]) (by simp [results, Tryz.results227, go_sem]) rfl ⟨_, rfl, ?_, ((Below.refl _ _).alloc (Nat.le_refl _) _).alloc (by simp) _⟩
    exact (OwI.lit' _ _ .u8 (boolA t _).2 _ (by simp) rfl (by simp) (by simp [boolA])).val

theorem byte_of32 (x : Int) (k : Nat) (h0 : 0 ≤ x) : IntKind.u8.wrap (x / k) = x / k % 256 := IntKind.wrap_u8 _

set_option maxRecDepth 100000 in
theorem zbyte_Append32_nil (x : Int) (w : World) (h0 : 0 ≤ x) :
    Calls Tryz.prog 291 #[.slice none 0 0, .int .u32 x] w fun e w' => ∃ v1, e = .returned v1 ∧ OwV w' w.heap.size 5 .u8 v1 (be32 x) ∧ Below w.heap.size w w' := by
  go_enter Tryz.func291, Tryz.ntmps291
  have hs := (OwI.lit' (w := w) w.heap.size 5 .u8 (be32 x) _ rfl rfl (Nat.le_refl _) (by simp [be32])).val.sl
  have hB := (Below.refl w.heap.size w).alloc (Nat.le_refl _) (.cells ((be32 x).map (Value.int .u8)).toArray 5)
  have HS := Ho.mk hs
  have HB := Ho.mk hB
  clear hs hB
  go_wp2_with (at_builtin; refine wpList_app rfl (.tmp 5) (.tmp 17) 22 5 .u8 1 rfl Tryz.underlying22 info_u8 w.heap.size (.slice none 0 0) [] _ (be32 x) rfl rfl (OwV.nil _ _ _ _) HS.out (by simp) (by simp [be32]) (by simp [be32]) ?_; intro v2 w2 ho2 hg2 hat2; simp only [List.nil_append] at ho2; have HO2 := Ho.mk ho2; have HB2 := Ho.mk (HB.out.grown hg2 (by simp) (by simp [Value.ownBlock])); clear ho2 hg2 hat2)
  go_ret
  exact ⟨_, rfl, HO2.out, HB2.out⟩

def numA (t n : Int) : At := (t, be32 (n % 4294967296))
set_option maxRecDepth 100000 in
theorem attrs_Num (t n : Int) (w : World) :
    Calls Tryz.prog 230 #[.int .i64 t, .int .i64 n] w (AtPost (numA t n) w) := by
  go_enter Tryz.func230, Tryz.ntmps230
  go_wp2_with fail
  obtain ⟨W0, hW0⟩ : ∃ W0, w.alloc (.cells #[.int .i64 0, .slice none 0 0] 91) = W0 := ⟨_, rfl⟩
  have HB0 : Ho (Below w.heap.size w W0) := ⟨hW0 ▸ (Below.refl _ _).alloc (Nat.le_refl _) _⟩
  have HR0 : Ho (W0.heap[w.heap.size]? = some (.cells #[.int .i64 0, .slice none 0 0] 91 (0, 0))) := ⟨hW0 ▸ heap_alloc_new w _⟩
  rw [hW0]
  clear hW0
  refine (zbyte_Append32_nil _ _ (by omega)).mono ?_
  rintro e w1 ⟨v1, rfl, ho, hb⟩
  have HO := Ho.mk ho
  have HR1 := Ho.mk ((hb.block _ (Array.getElem?_eq_some_iff.1 HR0.out).1).trans HR0.out)
  have HB1 := Ho.mk (below_base HB0.out HB0.out.size hb)
  obtain ⟨c0, c1, f0, f1⟩ := cell2 HR1.out
  clear hb
  rcases ho.cases with ⟨rfl, h0⟩ | ⟨g, cap, rfl, ho⟩
  · simp [be32] at h0
  have HNe : Ho (g ≠ w.heap.size) := ⟨by have h1 := OwI.lt ho; have h2 := (Array.getElem?_eq_some_iff.1 HR0.out).1; omega⟩
  clear ho
  go_wp2
  have hR2 := heap_setCell_same _ w.heap.size 1 _ _ (.slice (some ⟨g, 0, none⟩) (be32 (n % 4294967296)).length cap) (heap_setCell_same w1 w.heap.size 0 _ _ (.int .i64 t) HR1.out)
  obtain ⟨d0, d1, _, _⟩ := cell2 hR2
  refine bodyPost_ret (v := .agg #[.int .i64 t, .slice (some ⟨g, 0, none⟩) (be32 (n % 4294967296)).length cap]) (by simp [results, Tryz.results230, go_sem, d0, d1]) rfl ⟨_, rfl, ?_, ?_⟩
  · have hne : (Value.slice (some ⟨g, 0, none⟩) (be32 (n % 4294967296)).length cap).ownBlock ≠ some w.heap.size := by simpa [Value.ownBlock] using HNe.out
    exact (OwV.other (a := ⟨w.heap.size, 1, none⟩) (OwV.other (a := ⟨w.heap.size, 0, none⟩) HO.out hne _) hne _).weaken HB0.out.size
  · exact (HB1.out.setCell (p := ⟨w.heap.size, 0, none⟩) (Nat.le_refl _) _).setCell (p := ⟨w.heap.size, 1, none⟩) (Nat.le_refl _) _

end Go.Proofs.YthjcldkaodmfoaaGreat
