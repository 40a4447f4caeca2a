/-
  The table of the mechanisms: what mechs.all and the library's Values over it yield. Conditions: those that each theorem types.
-/
import Derived.Test.YthjcldkaodmfoaaRng
import Derived.WalkKit
import Derived.Laws.EntriesVeiled
namespace Go.Proofs.Ythjcldkaodmfoaa
open Go.RowKit

attribute [local go_sem] Oper.semAt_some

/-- A row of the table: its parameter's test by its function's number. -/
structure Mc where
  kind : Int
  uses : Int
  key : Int
  multi : Bool
  par : Option Nat
def parV : Option Nat → Value
  | none => .nilFunc
  | some f => .func (.func f) #[] #[]
def Mc.enc (m : Mc) : Value := .agg #[.int .i64 m.kind, .int .i64 m.uses, .int .i64 m.key, .bool m.multi, parV m.par]
def mcs : List Mc := [⟨0, 64, 0, false, none⟩, ⟨1, 414, 0, false, none⟩, ⟨9, 408, 0, false, some 55⟩, ⟨13, 6, 0, false, some 56⟩, ⟨64, 6, 0, true, none⟩, ⟨67, 6, 0, true, some 56⟩,
  ⟨544, 1, -1, true, none⟩, ⟨592, 1, -1, true, none⟩, ⟨593, 6, 16, true, none⟩, ⟨608, 1, -1, true, none⟩, ⟨624, 1, -1, true, none⟩, ⟨848, 32, 16, false, none⟩, ⟨4160, 64, 3, false, none⟩, ⟨4161, 6, 3, false, none⟩, ⟨4164, 6, 3, true, none⟩,
  ⟨4176, 512, 3, false, some 57⟩, ⟨4224, 32, 31, false, none⟩, ⟨4225, 24, 31, true, none⟩, ⟨4226, 24, 31, true, some 58⟩, ⟨4229, 408, 31, true, some 58⟩, ⟨4230, 24, 31, true, some 59⟩,
  ⟨4231, 24, 31, true, some 60⟩, ⟨4234, 6, 31, true, none⟩, ⟨8457, 384, 31, false, none⟩]
def Mc.cells (m : Mc) : List Value := [.int .i64 m.kind, .int .i64 m.uses, .int .i64 m.key, .bool m.multi, parV m.par]
/-- The slice's cells are the rows. -/
def McAt (w : World) (b : Nat) (ms : List Mc) : Prop := ∀ j m, ms[j]? = some m → w.cell? ⟨b, j * 5, none⟩ = some (.int .i64 m.kind) ∧ w.cell? ⟨b, j * 5 + 1, none⟩ = some (.int .i64 m.uses) ∧ w.cell? ⟨b, j * 5 + 2, none⟩ = some (.int .i64 m.key) ∧
  w.cell? ⟨b, j * 5 + 3, none⟩ = some (.bool m.multi) ∧ w.cell? ⟨b, j * 5 + 4, none⟩ = some (parV m.par)

set_option maxRecDepth 100000 in
set_option maxHeartbeats 2000000 in
theorem values_yields (B b c : Nat) (ms : List Mc) (hl : ms.length ≤ c ∧ c ≤ 1000000) :
    Yields Try.prog 68 #[.pointer (some ⟨B, 0, none⟩)] (ms.map fun m => #[m.enc]) (fun X => X.cell? ⟨B, 0, none⟩ = some (.slice (some ⟨b, 0, none⟩) ms.length c) ∧ McAt X b ms) := by
  intro l J Jx W hJ hJx hJB hY h0
  obtain ⟨F, hF⟩ : ∃ F, Ho (Fence.wide = F) := ⟨_, ⟨rfl⟩⟩
  have hfn : F.fn 68 := hF.out ▸ trivial
  have hro : F.round = none := hF.out ▸ rfl
  have hdep : F.depth = none := hF.out ▸ rfl
  rw [hF.out] at hY ⊢
  have hlm : (ms.map fun m => #[m.enc]).length = ms.length := List.length_map _
  rw [hlm]
  have HJ := Ho.mk hJ
  have HJB := Ho.mk hJB
  have HY := Ho.mk hY
  clear hJ hJx hJB hY hlm
  refine callsIn_of_wp Try.func68 rfl hfn ?_ hro
  simp only [Try.ntmps68, List.size_toArray, List.length_cons, List.length_nil, Nat.reduceAdd, Nat.reduceSub, Array.replicate_succ, Array.replicate_zero, List.push_toArray, List.append_toArray, List.nil_append, List.cons_append]
  have hB0 := (HJB.out 0 W h0).1
  gi_wp2
  gi_loopw [7] (fun i wr => ∃ k : Nat, k ≤ ms.length ∧ i = .int .i64 k ∧ J k wr)
    (fun i _ => ms.length - (intOf i).toNat)
  case atStart => exact ⟨0, Nat.zero_le _, rfl, h0⟩
  case round =>
    obtain ⟨k, hk, rfl, hJs⟩ := hrel
    by_cases hlt : k < ms.length
    · obtain ⟨m, hmk⟩ : ∃ m, ms[k]? = some m := ⟨_, List.getElem?_eq_getElem hlt⟩
      obtain ⟨e0, e1, e2, e3, e4⟩ := (HJB.out k wr hJs).2 k m hmk
      obtain ⟨pk, pu, py, pm, pp⟩ := m
      dsimp only at e0 e1 e2 e3 e4
      have hJa : J k (wr.alloc (.cells #[.int .i64 pk, .int .i64 pu, .int .i64 py, .bool pm, parV pp] 82)) := HJ.out.alloc _ hJs
      obtain ⟨fn, tmps, assign, body, hy, hR⟩ := yield_any (n := 8) hdep (HY.out k #[Mc.enc ⟨pk, pu, py, pm, pp⟩] _ (by rw [List.getElem?_map, hmk]; rfl) hJa)
      dsimp only [Mc.enc] at hy
      cases pp with
      | none =>
        simp only [parV] at e4 hy hJa hR
        gi_wp2
        refine hR.mono ?_
        rintro e W3 ⟨hk3, ⟨rfl, hJ3⟩ | ⟨rfl, hJx3⟩⟩
        · gi_wp2
          go_roundw
          case rel => exact ⟨k + 1, by omega, by simp, hJ3⟩
          case measure => simp [intOf]; omega
        · gi_wp2
          refine bodyPost_ret (results_none rfl _ _ _) rfl ?_
          exact ⟨⟨_, rfl⟩, .inr ⟨k, hlt, hJx3⟩⟩
      | some f =>
        simp only [parV] at e4 hy hJa hR
        gi_wp2
        refine hR.mono ?_
        rintro e W3 ⟨hk3, ⟨rfl, hJ3⟩ | ⟨rfl, hJx3⟩⟩
        · gi_wp2
          go_roundw
          case rel => exact ⟨k + 1, by omega, by simp, hJ3⟩
          case measure => simp [intOf]; omega
        · gi_wp2
          refine bodyPost_ret (results_none rfl _ _ _) rfl ?_
          exact ⟨⟨_, rfl⟩, .inr ⟨k, hlt, hJx3⟩⟩
    · obtain rfl : k = ms.length := by omega
      gi_wp2
      go_end0
      exact ⟨⟨_, rfl⟩, .inl hJs⟩

def mcsCells : Array Value := (mcs.map Mc.cells).flatten.toArray
/-- An iterator over the table. -/
def MAllPost (w : World) (e : Ending) (w' : World) : Prop := ∃ B, e = .returned (.func (.func 68) #[] #[.pointer (some ⟨B, 0, none⟩)]) ∧ Below w.heap.size w w' ∧
  ∃ b, w.heap.size ≤ b ∧ w.heap.size ≤ B ∧ (w'.heap[B]? = some (.cells #[.slice (some ⟨b, 0, none⟩) 24 24] 103 (0, 0)) ∧ w'.heap[b]? = some (.cells mcsCells 82 (0, 0))) ∧
  Yields Try.prog 68 #[.pointer (some ⟨B, 0, none⟩)] (mcs.map fun m => #[m.enc]) (fun X => X.heap[B]? = some (.cells #[.slice (some ⟨b, 0, none⟩) 24 24] 103 (0, 0)) ∧ X.heap[b]? = some (.cells mcsCells 82 (0, 0)))
theorem flat5 : ∀ (ms : List Mc) (j i : Nat) (m : Mc), i < 5 → ms[j]? = some m → ((ms.map Mc.cells).flatten)[j * 5 + i]? = m.cells[i]?
  | [], j, _, _, _, h => by simp at h
  | m0 :: ms, 0, i, m, hi, h => by
    simp only [List.getElem?_cons_zero, Option.some.injEq] at h
    subst h
    rw [List.map_cons, List.flatten_cons, Nat.zero_mul, Nat.zero_add, List.getElem?_append_left (by simpa [Mc.cells] using hi)]
  | m0 :: ms, j + 1, i, m, hi, h => by
    rw [List.getElem?_cons_succ] at h
    rw [List.map_cons, List.flatten_cons, List.getElem?_append_right (by simp [Mc.cells]; omega), show (j + 1) * 5 + i - (Mc.cells m0).length = j * 5 + i by simp [Mc.cells]; omega]
    exact flat5 ms j i m hi h
theorem mcs_at {w : World} {b : Nat} {t : TypeId} (h : w.heap[b]? = some (.cells mcsCells t (0, 0))) : McAt w b mcs := by
  intro j m hj
  have hc : ∀ (i : Nat) (v : Value), i < 5 → m.cells[i]? = some v → w.cell? ⟨b, j * 5 + i, none⟩ = some v := fun i v hi hv => by
    rw [cell_of_row w b _ _ _ _ h]
    unfold mcsCells
    rw [List.getElem?_toArray, flat5 mcs j i m hi hj]
    exact hv
  exact ⟨hc 0 _ (by decide) rfl, hc 1 _ (by decide) rfl, hc 2 _ (by decide) rfl, hc 3 _ (by decide) rfl, hc 4 _ (by decide) rfl⟩

set_option maxRecDepth 100000 in
set_option maxHeartbeats 2000000 in
theorem mechs_all (w : World) : Calls Try.prog 37 #[] w (MAllPost w) := by
  have hv : ∀ (v : Value) (W : World), (∃ a n c, v = .slice a n c) → Calls Try.prog 54 #[v] W fun e W' => e = .returned (.func (.func 68) #[] #[.pointer (some ⟨W.heap.size, 0, none⟩)]) ∧ W.alloc (.cells #[v] 103) = W' := by
    rintro v W ⟨a, n, c, rfl⟩
    go_enter Try.func54, Try.ntmps54
    go_wp2
    go_ret
    exact ⟨rfl, rfl⟩
  have HV := Ho.mk hv
  clear hv
  go_enter Try.func37, Try.ntmps37
  go_wp2_with fail
  have R := heap_alloc_new w (.cells mcsCells 82)
  refine (HV.out _ (w.alloc (.cells mcsCells 82)) ⟨_, _, _, rfl⟩).mono ?_
  rintro e w1 ⟨rfl, rfl⟩
  have HP : Ho (MAllPost w (.returned (.func (.func 68) #[] #[.pointer (some ⟨(w.alloc (.cells mcsCells 82)).heap.size, 0, none⟩)])) ((w.alloc (.cells mcsCells 82)).alloc (.cells #[.slice (some ⟨w.heap.size, 0, none⟩) 24 24] 103))) := ⟨by
    refine ⟨_, rfl, ((Below.refl _ _).alloc (Nat.le_refl _) _).alloc (by simp) _, w.heap.size, Nat.le_refl _, by simp, ⟨heap_alloc_new _ _, (Below.heap_alloc _ _ _ (by simp)).trans R⟩, ?_⟩
    exact yields_mono (values_yields _ w.heap.size 24 mcs (by decide)) fun X h => ⟨cell_of_row _ _ _ _ _ _ h.1, mcs_at h.2⟩⟩
  clear R
  obtain ⟨W0, hW0⟩ : ∃ W0, w.alloc (.cells mcsCells 82) = W0 := ⟨_, rfl⟩
  rw [hW0] at HP ⊢
  clear hW0
  go_wp2
  go_ret
  exact HP.out

end Go.Proofs.Ythjcldkaodmfoaa
