/-
  Nodes, and what der.write returns. Conditions: those that each theorem types.
-/
import Derived.Test.YthjcldkaodmfoaaGreatDerB
namespace Go.Proofs.YthjcldkaodmfoaaGreat
open Go.RowKit

/-! ### Nodes -/
inductive Nd where
  | mk (t : Int) (b : List Int) (ks : List Nd)
mutual
/-- What a node is written as. -/
def Nd.enc : Nd → List Int
  | .mk t b ks => t % 256 :: (hdr (b ++ Nd.encs ks).length ++ (b ++ Nd.encs ks))
def Nd.encs : List Nd → List Int
  | [] => []
  | k :: ks => k.enc ++ Nd.encs ks
end
theorem Nd.encs_append (a b : List Nd) : Nd.encs (a ++ b) = Nd.encs a ++ Nd.encs b := by
  induction a with
  | nil => rfl
  | cons x a ih => simp [Nd.encs, ih]
theorem Nd.encs_take_succ (ks : List Nd) (k : Nat) (h : k < ks.length) : Nd.encs (ks.take (k + 1)) = Nd.encs (ks.take k) ++ (ks[k]'h).enc := by
  rw [List.take_succ_eq_append_getElem h, Nd.encs_append]; simp [Nd.encs]
theorem Nd.encs_take_le (ks : List Nd) (k : Nat) : (Nd.encs (ks.take k)).length ≤ (Nd.encs ks).length := by
  have := Nd.encs_append (ks.take k) (ks.drop k)
  rw [List.take_append_drop] at this
  rw [this]; simp

/-- The value is a node, nested less than n deep. -/
def NdV : Nat → World → Value → Nd → Prop
  | 0, _, _, _ => False
  | n + 1, w, v, .mk t b ks => ∃ bv A c, v = .agg #[.int .i64 t, bv, .slice A ks.length c] ∧ SlI w .u8 bv b ∧ Dg 256 b ∧ b.length ≤ 17592186044416 ∧ (0 < ks.length → bv = .slice none 0 0) ∧
      ks.length ≤ c ∧ c ≤ 9223372036854775807 ∧ (A = none → c = 0) ∧
      (0 < ks.length → ∃ bl o, A = some ⟨bl, o, none⟩ ∧ ∀ j, (hj : j < ks.length) → ∃ x y z, w.cell? ⟨bl, o + j * 3, none⟩ = some x ∧ w.cell? ⟨bl, o + j * 3 + 1, none⟩ = some y ∧ w.cell? ⟨bl, o + j * 3 + 2, none⟩ = some z ∧ NdV n w (.agg #[x, y, z]) (ks[j]'hj))
theorem NdV.below {n : Nat} : ∀ {w w1 : World} {v : Value} {nd : Nd}, NdV n w v nd → Below w.heap.size w w1 → NdV n w1 v nd := by
  induction n with
  | zero => intro w w1 v nd h _; exact h.elim
  | succ n ih =>
    intro w w1 v nd h hb
    obtain ⟨t, b, ks⟩ := nd
    obtain ⟨bv, A, c, e, h1, h2, h3, h4, h5, h6, h7, h8⟩ := h
    refine ⟨bv, A, c, e, h1.below hb, h2, h3, h4, h5, h6, h7, fun hp => ?_⟩
    obtain ⟨bl, o, eA, hk⟩ := h8 hp
    refine ⟨bl, o, eA, fun j hj => ?_⟩
    obtain ⟨x, y, z, c1, c2, c3, hq⟩ := hk j hj
    exact ⟨x, y, z, cell_below hb c1, cell_below hb c2, cell_below hb c3, ih hq hb⟩
theorem NdV.mono {n m : Nat} (hnm : n ≤ m) : ∀ {w : World} {v : Value} {nd : Nd}, NdV n w v nd → NdV m w v nd := by
  induction n generalizing m with
  | zero => intro w v nd h; exact h.elim
  | succ n ih =>
    intro w v nd h
    obtain ⟨m, rfl⟩ : ∃ q, m = q + 1 := ⟨m - 1, by omega⟩
    obtain ⟨t, b, ks⟩ := nd
    obtain ⟨bv, A, c, e, h1, h2, h3, h4, h5, h6, h7, h8⟩ := h
    refine ⟨bv, A, c, e, h1, h2, h3, h4, h5, h6, h7, fun hp => ?_⟩
    obtain ⟨bl, o, eA, hk⟩ := h8 hp
    refine ⟨bl, o, eA, fun j hj => ?_⟩
    obtain ⟨x, y, z, c1, c2, c3, hq⟩ := hk j hj
    exact ⟨x, y, z, c1, c2, c3, ih (by omega) hq⟩

theorem NdV.shape {n : Nat} {w : World} {x y z : Value} {nd : Nd} (h : NdV n w (.agg #[x, y, z]) nd) : ∃ t A1 n1 c1 A2 n2 c2, x = .int .i64 t ∧ y = .slice A1 n1 c1 ∧ z = .slice A2 n2 c2 := by
  cases n with
  | zero => exact h.elim
  | succ n =>
    obtain ⟨t, b, ks⟩ := nd
    obtain ⟨bv, A, c, e, ⟨A', c', e', _⟩, _⟩ := h
    simp only [Value.agg.injEq] at e
    have h1 : x = .int .i64 t := congrArg (fun q : Array Value => q.getD 0 undef) e
    have h2 : y = bv := congrArg (fun q : Array Value => q.getD 1 undef) e
    have h3 : z = .slice A ks.length c := congrArg (fun q : Array Value => q.getD 2 undef) e
    exact ⟨t, A', b.length, c', A, ks.length, c, h1, h2.trans e', h3⟩

/-! ### der.write -/
def WrPost (nd : Nd) (w : World) (e : Ending) (w' : World) : Prop := Below w.heap.size w w' ∧
  ((nd.enc.length ≤ 65536 ∧ ∃ v1, e = .returned (.tuple #[v1, .bool true]) ∧ OwV w' w.heap.size 5 .u8 v1 nd.enc) ∨
   (65536 < nd.enc.length ∧ ∃ v1, e = .returned (.tuple #[v1, .bool false])))

set_option maxRecDepth 100000 in
theorem der_write (n : Nat) : ∀ (nd : Nd) (v : Value) (w : World), NdV n w v nd →
    Calls Tryz.prog 212 #[v] w (WrPost nd w) := by
  induction n with
  | zero => intro nd v w h; exact h.elim
  | succ n ih =>
    intro nd v w h
    obtain ⟨t, b, ks⟩ := nd
    obtain ⟨bv, A, c, rfl, hb, hd, hbl, hnil, h5, h6, h7, h8⟩ := h
    have IH := Ho.mk ih
    have HB := Ho.mk hb
    have HNil := Ho.mk hnil
    have H8 := Ho.mk h8
    clear ih hb hnil h8
    go_enter Tryz.func212, Tryz.ntmps212
    go_wp2
    obtain ⟨W0, hW0⟩ : ∃ W0, w.alloc (.cells #[.int .i64 t, bv, .slice A ks.length c] 123) = W0 := ⟨_, rfl⟩
    have hB0 : Below w.heap.size w W0 := hW0 ▸ (Below.refl _ _).alloc (Nat.le_refl _) _
    have hz0 : W0.heap.size = w.heap.size + 1 := by rw [← hW0]; simp
    have hc0 : W0.cell? ⟨w.heap.size, 0, none⟩ = some (.int .i64 t) := by rw [← hW0]; exact cell_of_row _ _ _ _ _ _ (heap_alloc_new w _)
    rw [hW0]
    have HB0 := Ho.mk hB0
    have HZ0 := Ho.mk hz0
    have HC0 := Ho.mk hc0
    clear hB0 hz0 hc0 hW0
    go_loopw [4, 15] (fun bs i wr => ∃ k : Nat, k ≤ ks.length ∧ i = .int .i64 k ∧ Ho (SlI wr .u8 bs (b ++ Nd.encs (ks.take k)) ∧ (0 < ks.length → OwV wr W0.heap.size 5 .u8 bs (b ++ Nd.encs (ks.take k))) ∧ (0 < k → (b ++ Nd.encs (ks.take k)).length ≤ 65536)) ∧ Ho (Below W0.heap.size W0 wr)) (fun _ i _ => ks.length - (intOf i).toNat)
    case atStart =>
      refine ⟨0, Nat.zero_le _, rfl, ⟨?_, fun hp => ?_, fun h => absurd h (by omega)⟩, ⟨Below.refl _ _⟩⟩
      · simpa [Nd.encs] using HB.out.below HB0.out
      · have e := HNil.out hp
        subst e
        obtain ⟨A', c', e1, e2, _⟩ := HB.out
        simp only [Value.slice.injEq] at e1
        have : b = [] := List.eq_nil_of_length_eq_zero (by omega)
        subst this
        simpa [Nd.encs] using OwV.nil _ _ _ _
    case round =>
      obtain ⟨k, hk, rfl, hz, hB⟩ := hrel
      by_cases hlt : k < ks.length
      · obtain ⟨bl, o, rfl, hkid⟩ := H8.out (by omega)
        obtain ⟨x, y, z, c1, c2, c3, hq⟩ := hkid k hlt
        have hBr : Below w.heap.size w wr := below_base HB0.out HB0.out.size hB.out
        have hx := cell_below hBr c1
        have hy := cell_below hBr c2
        have hzz := cell_below hBr c3
        have HQ := Ho.mk (hq.below hBr)
        obtain ⟨tk, A1, n1, c1', A2, n2, c2', rfl, rfl, rfl⟩ := hq.shape
        clear hkid c1 c2 c3 hq
        go_wp2_with fail
        refine (IH.out _ _ _ (HQ.out.below (((Below.refl _ _).alloc (Nat.le_refl _) _)))).mono ?_
        rintro e w1 ⟨hb1, ⟨hle, v1, rfl, ho1⟩ | ⟨hgt, v1, rfl⟩⟩
        · have HO := Ho.mk (((hz.out.2.1 (by omega)).alloc _).below hb1)
          have HS1 := Ho.mk ho1.sl
          have HB1 := Ho.mk (below_base (hB.out.alloc hB.out.size _) (by have := hB.out.size; simp; omega) hb1)
          obtain ⟨zs, EZ⟩ : ∃ zs, Ho ((b ++ Nd.encs (ks.take k)) ++ (ks[k]'hlt).enc = zs) := ⟨_, ⟨rfl⟩⟩
          have EZ2 : Ho (b ++ Nd.encs (ks.take (k + 1)) = zs) := ⟨by rw [Nd.encs_take_succ ks k hlt, ← List.append_assoc]; exact EZ.out⟩
          have hbn : b.length = 0 := by
            have e := HNil.out (by omega)
            subst e
            obtain ⟨A', c', e1, _⟩ := HB.out
            simp only [Value.slice.injEq] at e1
            omega
          have hlen : (b ++ Nd.encs (ks.take k)).length + (ks[k]'hlt).enc.length ≤ 17592186044416 := by
            rcases Nat.eq_zero_or_pos k with h0 | h0
            · subst h0; simp [Nd.encs]; omega
            · have := hz.out.2.2 h0; omega
          have hz1 := HB1.out.size
          have hz0' := HZ0.out
          have HLen := Ho.mk hlen
          have hw0 : W0.heap.size ≤ w1.heap.size := by omega
          clear hb1 ho1 hlen hz1 hz0'
          obtain ⟨m, HM⟩ : ∃ m, Ho (zs.length = m) := ⟨_, ⟨rfl⟩⟩
          by_cases hL : 65536 < m
          · have q : decide (65536 < (m : Int)) = true := dect (by omega)
            go_wp2_with (at_builtin; refine wpList_app rfl (.tmp 26) (.tmp 27) 22 5 .u8 1 rfl Tryz.underlying22 info_u8 W0.heap.size _ _ _ _ rfl rfl HO.out HS1.out hw0 (by have := HLen.out; omega) (by have := HLen.out; omega) ?_; intro v2 w2 ho2 hg2 hat2; rw [EZ.out] at ho2; have HB2 := Ho.mk (HB1.out.grown hg2 HB1.out.size (fun b hb => (HO.out.block b hb).1)); obtain ⟨A3, c3, rfl, hsl⟩ := ho2.sl; rw [HM.out]; clear ho2 hg2 hat2 hsl)
            go_ret2
            refine ⟨?_, .inr ⟨?_, _, rfl⟩⟩
            · exact below_base HB0.out HB0.out.size HB2.out
            · have h1 := Nd.encs_take_le ks (k + 1)
              have h2 := congrArg List.length EZ2.out
              have h3 := HM.out
              simp only [Nd.enc, List.length_cons, List.length_append] at h2 ⊢
              omega
          · have q : decide (65536 < (m : Int)) = false := decf (by omega)
            go_wp2_with (at_builtin; refine wpList_app rfl (.tmp 26) (.tmp 27) 22 5 .u8 1 rfl Tryz.underlying22 info_u8 W0.heap.size _ _ _ _ rfl rfl HO.out HS1.out hw0 (by have := HLen.out; omega) (by have := HLen.out; omega) ?_; intro v2 w2 ho2 hg2 hat2; rw [EZ.out] at ho2; have HB2 := Ho.mk (HB1.out.grown hg2 HB1.out.size (fun b hb => (HO.out.block b hb).1)); obtain ⟨A3, c3, rfl, hsl⟩ := ho2.sl; rw [HM.out]; have HX2 := Ho.mk ho2; clear ho2 hg2 hat2 hsl)
            go_roundw
            case rel =>
              have hx := HX2.out
              rw [HM.out] at hx
              refine ⟨k + 1, by omega, by go_num, ⟨?_, fun _ => ?_, fun _ => ?_⟩, ⟨HB2.out⟩⟩
              · rw [EZ2.out]; exact hx.sl
              · rw [EZ2.out]; exact hx
              · rw [EZ2.out, HM.out]; omega
            case measure => simp [intOf]; omega
        · have HB1 := Ho.mk (below_base (hB.out.alloc hB.out.size _) (by have := hB.out.size; simp; omega) hb1)
          clear hb1
          go_wp2
          go_ret2
          refine ⟨below_base HB0.out HB0.out.size HB1.out, .inr ⟨?_, _, rfl⟩⟩
          have h1 := Nd.encs_take_le ks (k + 1)
          have h2 := Nd.encs_take_succ ks k hlt
          have h3 := congrArg List.length h2
          simp only [Nd.enc, List.length_cons, List.length_append] at h3 ⊢
          omega
      · have hke : k = ks.length := by omega
        have HBf := Ho.mk (below_base HB0.out HB0.out.size hB.out)
        have hsl := hz.out.1
        rw [hke, List.take_length] at hsl
        obtain ⟨zs, EZ⟩ : ∃ zs, Ho (b ++ Nd.encs ks = zs) := ⟨_, ⟨rfl⟩⟩
        rw [EZ.out] at hsl
        obtain ⟨A3, c3, rfl, hs1, hs2, hs3, hr3⟩ := hsl
        have hsl := SlI.mk hs1 hs2 hs3 hr3
        have hct := cell_below hB.out HC0.out
        have HS := Ho.mk hsl
        clear hs1 hs2 hs3 hr3 hsl hz hke
        by_cases hL : 65536 < zs.length
        · have q : decide (65536 < (zs.length : Int)) = true := dect (by omega)
          go_wp2
          go_ret2
          refine ⟨HBf.out, .inr ⟨?_, _, rfl⟩⟩
          simp only [Nd.enc]
          rw [EZ.out]; simp; omega
        · have q : decide (65536 < (zs.length : Int)) = false := decf (by omega)
          go_wp2_with fail
          refine (der_headed t _ zs _ HS.out (by omega)).mono ?_
          rintro e w1 ⟨v1, rfl, ho1, hb1⟩
          have HB1 := Ho.mk (below_base HBf.out HBf.out.size hb1)
          have eE : (Nd.mk t b ks).enc = t % 256 :: (hdr zs.length ++ zs) := by simp only [Nd.enc]; rw [EZ.out]
          have EE := Ho.mk eE
          rw [← eE] at ho1
          have HO1 := Ho.mk (ho1.weaken HBf.out.size)
          obtain ⟨A4, c4, e4, _⟩ := ho1.sl
          subst e4
          obtain ⟨m, HM⟩ : ∃ m, Ho ((Nd.mk t b ks).enc.length = m) := ⟨_, ⟨rfl⟩⟩
          rw [HM.out]
          clear eE ho1 hb1
          by_cases hm : m ≤ 65536
          · have q2 : decide ((m : Int) ≤ 65536) = true := dect (by omega)
            go_wp2
            go_ret2
            refine ⟨HB1.out, .inl ⟨by rw [HM.out]; exact hm, _, rfl, ?_⟩⟩
            have := HO1.out
            rwa [HM.out] at this
          · have q2 : decide ((m : Int) ≤ 65536) = false := decf (by omega)
            go_wp2
            go_ret2
            exact ⟨HB1.out, .inr ⟨by rw [HM.out]; omega, _, rfl⟩⟩

end Go.Proofs.YthjcldkaodmfoaaGreat
