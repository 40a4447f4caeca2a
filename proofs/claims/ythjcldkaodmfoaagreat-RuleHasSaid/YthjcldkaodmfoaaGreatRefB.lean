/-
  What baileyref1.To returns. Conditions: those that each theorem types.
-/
import Derived.Test.YthjcldkaodmfoaaGreatRefA
namespace Go.Proofs.YthjcldkaodmfoaaGreat
open Go.RowKit

theorem sl_one (w : World) (e : TypeId) (k : IntKind) (x : Int) : SlI (w.alloc (.cells #[.int k x] e)) k (.slice (some ⟨w.heap.size, 0, none⟩) 1 1) [x] :=
  SlI.mk (xs := [x]) (by simp) (by omega) (fun e => by simp at e) (fun _ => ⟨_, 0, rfl, fun j hj => by
      obtain rfl : j = 0 := by simpa using hj
      simp [gx]⟩)
theorem OwV.other {w : World} {base : Nat} {e : TypeId} {k : IntKind} {v : Value} {xs : List Int} (h : OwV w base e k v xs) {a : Addr} (ha : v.ownBlock ≠ some a.block) (u : Value) : OwV (w.setCell a u) base e k v xs :=
  World.ownsRow.kept (row := some a.block) h ⟨rfl, rfl, rfl, by simp, fun i _ hk => heap_setCell_other w a i u (fun e => hk (by rw [e]))⟩ (.inr ha)
theorem OwV.block {w : World} {base : Nat} {e : TypeId} {k : IntKind} {v : Value} {xs : List Int} (h : OwV w base e k v xs) : ∀ b, v.ownBlock = some b → base ≤ b ∧ b < w.heap.size := World.ownsRow.lt h

/-! ### baileyref1.To -/
/-- Limbs out of digits of half the size. -/
theorem to_step {B W : Nat} (hW : W = B * B) {k : Nat} {xs zs : List Int} (hx : Dg B xs) (hk : 2 * k < xs.length) (hz : Dg W zs) (hl : zs.length = k) (hv : nvB W zs = nvB B (xs.take (2 * k))) (u : Int) (hu : u = gx xs (2 * k) + gx xs (2 * k + 1) * B) :
    Dg W (zs ++ [u]) ∧ nvB W (zs ++ [u]) = nvB B (xs.take (2 * (k + 1))) := by
  have h0 := hx (2 * k)
  have h1 := hx (2 * k + 1)
  have hm : 0 ≤ gx xs (2 * k + 1) * (B : Int) := Int.mul_nonneg h1.1 (by omega)
  have hm2 : gx xs (2 * k + 1) * (B : Int) ≤ ((B : Int) - 1) * B := Int.mul_le_mul_of_nonneg_right (by omega) (by omega)
  have e : ((B : Int) - 1) * B = (W : Int) - B := by rw [hW]; push_cast; grind
  have hun : u.toNat = (gx xs (2 * k)).toNat + (gx xs (2 * k + 1)).toNat * B := by
    rw [hu, Int.toNat_add h0.1 hm, Int.toNat_mul h1.1 (by omega)]; rfl
  refine ⟨hz.append (Dg.one (by omega) (by omega)), ?_⟩
  rw [nvB_append, hl, hv]
  have hp : W ^ k = B ^ (2 * k) := by rw [hW, Nat.mul_pow, ← Nat.pow_add, Nat.two_mul]
  simp only [nvB, Nat.mul_zero, Nat.add_zero]
  rw [hp, hun]
  rcases Nat.lt_or_ge (2 * k + 1) xs.length with hlt | hge
  · rw [show 2 * (k + 1) = 2 * k + 1 + 1 by omega, nvB_take_succ hlt, nvB_take_succ hk, Nat.pow_succ]; grind
  · rw [List.take_of_length_le (show xs.length ≤ 2 * (k + 1) by omega), gx_ge hge]
    have : xs.take (2 * k + 1) = xs := List.take_of_length_le (by omega)
    have q := nvB_take_succ (B := B) hk
    rw [this] at q
    rw [q]; simp
theorem to_nm {B W : Nat} (hW : W = B * B) {xs zs : List Int} (hx : Nm B xs) (hz : Dg W zs) (hl : zs.length = (xs.length + 1) / 2) (hv : nvB W zs = nvB B xs) : Nm W zs := by
  refine ⟨hz, ?_⟩
  rcases Nat.eq_zero_or_pos zs.length with h0 | h0
  · exact .inl h0
  · refine .inr fun e => ?_
    have hlow := hx.lower (by omega)
    have hsp := nvB_split (B := W) (xs := zs) (zs.length - 1) (by omega)
    rw [nvB_drop (show zs.length - 1 < zs.length by omega), e, List.drop_eq_nil_of_le (show zs.length ≤ zs.length - 1 + 1 by omega)] at hsp
    simp only [nvB, Int.toNat_zero, Nat.mul_zero, Nat.add_zero] at hsp
    have hlt := nvB_lt (hz.take (zs.length - 1))
    rw [List.length_take, Nat.min_eq_left (by omega)] at hlt
    have hp : W ^ (zs.length - 1) = B ^ (2 * (zs.length - 1)) := by rw [hW, Nat.mul_pow, ← Nat.pow_add, Nat.two_mul]
    rw [hp] at hlt
    have := Nat.pow_le_pow_right hx.1.pos (show 2 * (zs.length - 1) ≤ xs.length - 1 by omega)
    omega

def ToPost (xs : List Int) (w : World) (e : Ending) (w' : World) : Prop := ∃ v1 ys, e = .returned v1 ∧ Dg W64 ys ∧ ys.length = (xs.length + 1) / 2 ∧ nvB W64 ys = nvB B32 xs ∧ OwV w' w.heap.size 112 .u64 v1 ys ∧ Below w.heap.size w w'

set_option maxRecDepth 100000 in
theorem ref1_To (v : Value) (xs : List Int) (w : World) (h : SlI w .u64 v xs) (hd : Dg B32 xs) (hl : xs.length ≤ 1099511627776) :
    Calls Tryz.prog 117 #[v] w (ToPost xs w) := by
  obtain ⟨A, c, rfl, h1, h2, h3, hr⟩ := h
  have HD := Ho.mk hd
  clear hd
  go_enter Tryz.func117, Tryz.ntmps117
  go_wp2
  go_loopw [3, 4, 5] (fun l i _u wr => ∃ (k : Nat) (zs : List Int), 2 * k ≤ xs.length + 1 ∧ i = .int .i64 (2 * k : Nat) ∧ Ho (zs.length = k) ∧ OwV wr w.heap.size 112 .u64 l zs ∧ Ho (Dg W64 zs ∧ nvB W64 zs = nvB B32 (xs.take (2 * k))) ∧ Below w.heap.size w wr) (fun _ i _ _ => xs.length + 1 - (intOf i).toNat)
  case atStart => exact ⟨0, [], by omega, rfl, ⟨rfl⟩, OwV.nil _ _ _ _, ⟨Dg.nil W64_pos, by simp [nvB]⟩, Below.refl _ _⟩
  case round =>
    obtain ⟨k, zs, hk, rfl, hzl, hown, hz, hB⟩ := hrel
    by_cases hlt : 2 * k < xs.length
    · obtain ⟨b, o, rfl, hcell⟩ := hr (by omega)
      have hcx := cell_below hB (hcell (2 * k) hlt)
      have hg0 := HD.out (2 * k)
      have hg00 := hg0.1
      have hg01 : gx xs (2 * k) < 4294967296 := hg0.2
      have hzk : zs.length ≤ 1099511627776 := by have := hzl.out; omega
      clear hg0
      by_cases hlt2 : 2 * k + 1 < xs.length
      · have hcx1 := cell_below hB (hcell (2 * k + 1) hlt2)
        have hg1 := HD.out (2 * k + 1)
        have hg10 := hg1.1
        have hg11 : gx xs (2 * k + 1) < 4294967296 := hg1.2
        clear hcell hg1
        go_wp2_with (at_builtin; refine wpList_app rfl _ _ 38 112 .u64 8 rfl Tryz.underlying38 info_u64 w.heap.size _ zs _ [gx xs (2 * k) + gx xs (2 * k + 1) * 4294967296] rfl rfl (hown.alloc _) (sl_one _ _ _ _) (by have := hB.size; simp; omega) (by simp; omega) (by simp; omega) ?_; intro v2 w2 ho hg hat)
        have H1 := Ho.mk ho
        have HB := Ho.mk ((hB.alloc hB.size _).grown hg (by have := hB.size; simp; omega) (fun b hb => (hown.block b hb).1))
        clear ho hg hat
        go_wp2
        go_roundw
        case rel =>
          have st := to_step W64_B32 HD.out hlt hz.out.1 hzl.out hz.out.2 _ rfl
          exact ⟨k + 1, _, by omega, by go_num, ⟨by rw [List.length_append, hzl.out]; rfl⟩, H1.out, ⟨st⟩, HB.out⟩
        case measure => simp [intOf]; omega
      · have hge : xs.length ≤ 2 * k + 1 := by omega
        clear hcell
        go_wp2_with (at_builtin; refine wpList_app rfl _ _ 38 112 .u64 8 rfl Tryz.underlying38 info_u64 w.heap.size _ zs _ [gx xs (2 * k)] rfl rfl (hown.alloc _) (sl_one _ _ _ _) (by have := hB.size; simp; omega) (by simp; omega) (by simp; omega) ?_; intro v2 w2 ho hg hat)
        have H1 := Ho.mk ho
        have HB := Ho.mk ((hB.alloc hB.size _).grown hg (by have := hB.size; simp; omega) (fun b hb => (hown.block b hb).1))
        clear ho hg hat
        go_wp2
        go_roundw
        case rel =>
          have st := to_step W64_B32 HD.out hlt hz.out.1 hzl.out hz.out.2 (gx xs (2 * k)) (by rw [gx_ge (show xs.length ≤ 2 * k + 1 by omega)]; simp)
          exact ⟨k + 1, _, by omega, by go_num, ⟨by rw [List.length_append, hzl.out]; rfl⟩, H1.out, ⟨st⟩, HB.out⟩
        case measure => simp [intOf]; omega
    · go_wp2
      go_ret
      refine ⟨_, zs, rfl, hz.out.1, ?_, ?_, hown, hB⟩
      · have := hzl.out; omega
      · rw [hz.out.2, List.take_of_length_le (by omega)]

end Go.Proofs.YthjcldkaodmfoaaGreat
