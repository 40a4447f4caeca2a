/-
  A range over a function of whose yielded values something is known: a contract for the function, a law for the statement. Conditions: those that each theorem types.
-/
import Derived.Test.YthjcldkaodmfoaaGreatRng
import Derived.Shelf.Abstract
namespace Go.Proofs.YthjcldkaodmfoaaGreat
open Go.RowKit

/-- The function g (with what it has captured) yields n values, one after the other, as long as it is told to go on; of the k-th R says what it is, in the world in which it is yielded. -/
def YieldsR (P : Program) (g : Nat) (lb : Array Value) (n : Nat) (R : Nat → Array Value → World → Prop) (M : World → Prop) : Prop :=
  ∀ (l : Nat) (J Jx : Nat → World → Prop) (W : World), OwnFrom W.heap.size J → OwnFrom W.heap.size Jx → (∀ k X, J k X → M X) →
    (∀ k x X, k < n → R k x X → J k X → YieldAt Fence.wide 9 P l x X fun e X' => KeepUp W.heap.size X X' ∧ ((e = .returned (.bool true) ∧ J (k + 1) X') ∨ (e = .returned (.bool false) ∧ Jx (k + 1) X'))) →
    J 0 W → CallsIn Fence.wide 9 P g (#[.func (.yield l) #[] #[]] ++ lb) W fun e W' => (∃ v, e = .returned v) ∧ (J n W' ∨ ∃ k, k < n ∧ Jx (k + 1) W')

theorem wp_rangeR {P : Program} {g : Operand} {ps : Array Tmp} {assign body : Code} {Q : Exit → Act → World → Prop} {a : Act} {w : World} {M : World → Prop} {gf : Nat} {lb : Array Value} {n : Nat} {R : Nat → Array Value → World → Prop}
    (hg : a.eval g = .func (.func gf) #[] lb) (eg : ∀ args w, (callFunc gf args).run P w = .ok (.enter gf args) w) (hseq : YieldsR P gf lb n R M) (hps : ∀ k x X, R k x X → x.size = ps.size)
    (I : Nat → World → Prop) (Ix : Code → Nat → World → Prop) (hI : OwnFrom w.heap.size I) (hIx : ∀ c, OwnFrom w.heap.size (Ix c)) (hIM : ∀ k X, I k X → M X) (h0 : I 0 w)
    (hround : ∀ (F : Fence) (l k : Nat) (x : Array Value) (X : World), Ho (F = Fence.wide.inRound l) → F.round = some l → F.depth = none → k < n → R k x X → w.heap.size ≤ l → (∃ r, X.heap[l]? = some (.loop r)) → I k X →
      assign.wpIn F 9 P (Exit.then (assigned F P l body (I k) (roundEnds w.heap.size (I (k + 1)) (fun c => Ix c (k + 1))) X) (fun _ _ _ => False)) { tmps := (ps.zip x).foldl (fun t (p, v) => t.setIfInBounds p v) a.tmps, defers := [] } X)
    (hdone : ∀ (D : Nat) (X : World), w.heap.size ≤ D → I n X → X.heap[D]? = some (.deferred (some [])) → Q .normal { a with defers := { target := .collected D, args := #[] } :: a.defers } X)
    (hstop : ∀ (D : Nat) (c : Code) (k : Nat) (X : World), w.heap.size ≤ D → k < n → Ix c (k + 1) X → X.heap[D]? = some (.deferred (some [])) → c.wp P Q { a with defers := { target := .collected D, args := #[] } :: a.defers } X) :
    (Code.rangeFunc g ps assign body).wp P Q a w := by
  refine wpIn_wide (n := 9).1 (wpIn_rangeFunc ?_)
  intro fn hfn
  have hrn : Fence.wide.round = none := rfl
  rw [hrn]
  obtain ⟨rec, hrec⟩ : ∃ rec : LoopState → Option Code → Loop, rec = fun st pe => { state := st, pending := pe, fn, tmps := a.tmps, params := ps, assign, body, defers := w.heap.size } := ⟨_, rfl⟩
  obtain ⟨W1, hW1⟩ : ∃ W1, (w.alloc (.deferred (some []))).alloc (.loop (rec .ready none)) = W1 := ⟨_, rfl⟩
  have hs1 : W1.heap.size = w.heap.size + 2 := by rw [← hW1]; simp
  have hL : W1.heap[w.heap.size + 1]? = some (.loop (rec .ready none)) := by
    have := World.alloc_heap_new (w.alloc (.deferred (some []))) (.loop (rec .ready none))
    rw [World.size_alloc, hW1] at this
    exact this
  have hK : W1.heap[w.heap.size]? = some (.deferred (some [])) := by
    rw [← hW1]
    exact (Below.heap_alloc _ _ _ (by simp)).trans (World.alloc_heap_new w _)
  have hI1 : I 0 W1 := by rw [← hW1]; exact hI.alloc _ (hI.alloc _ h0)
  refine ⟨w.heap.size + 1, [{ target := .collected w.heap.size, args := #[] }], W1, { target := .fn (.func gf) lb, args := #[.func (.yield (w.heap.size + 1)) #[] #[]] }, W1, gf, #[.func (.yield (w.heap.size + 1)) #[] #[]] ++ lb, W1, ?_, ?_, fun _ _ => trivial, ?_, fun _ => by omega, ?_⟩
  · rw [← hW1, hrec]; exact run_enterLoop_outer _ _ _ _ _
  · simp only [resolve, hg]
    simp [go_sem]
  · simp [invoke, go_sem, eg]
  -- both pieces of book-keeping lie below the function's own blocks: no step of its turns them
  have own : ∀ (b : Nat) (o : Obj), b < W1.heap.size → OwnFrom W1.heap.size (fun (_ : Nat) X => X.heap[b]? = some o) := fun b o hb _ X Y row hs hg' hr =>
    (hg'.block b (Array.getElem?_eq_some_iff.1 hs).1 (fun e => by have := (hr b e.symm).1; omega)).trans hs
  have hc := hseq (w.heap.size + 1)
    (fun k X => I k X ∧ X.heap[w.heap.size + 1]? = some (.loop (rec .ready none)) ∧ X.heap[w.heap.size]? = some (.deferred (some [])))
    (fun k X => ∃ c, Ix c k X ∧ X.heap[w.heap.size + 1]? = some (.loop (rec .done (some c))) ∧ X.heap[w.heap.size]? = some (.deferred (some [])))
    W1 ((ownFrom_wider hI (by omega)).and ((own _ _ (by omega)).and (own _ _ (by omega))))
    (fun k X Y row hs hg' hr => by
      obtain ⟨c, h1, h2, h3⟩ := hs
      exact ⟨c, ownFrom_wider (hIx c) (by omega) k X Y row h1 hg' hr, own _ _ (by omega) k X Y row h2 hg' hr, own _ _ (by omega) k X Y row h3 hg' hr⟩)
    (fun k X h => hIM k X h.1) ?_ ⟨hI1, hL, hK⟩
  · -- behind the function
    refine callsIn_wide.2 ((callsIn_wide.1 hc).mono ?_)
    rintro e X ⟨⟨v, rfl⟩, ⟨hi, hl, hk⟩ | ⟨k, hkl, c, hi, hl, hk⟩⟩
    · have he := run_endLoop (P := P) hl (by rw [hrec]; simp)
      rw [hrec] at he
      exact ⟨none, _, he, hdone w.heap.size _ (Nat.le_refl _) (hI.putObj _ hi (by omega) hl rfl) ((World.putObj_heap_other (by omega)).trans hk)⟩
    · have he := run_endLoop (P := P) hl (by rw [hrec]; simp)
      rw [hrec] at he
      exact ⟨some c, _, he, wpIn_wide.2 (hstop w.heap.size c k _ (Nat.le_refl _) hkl ((hIx c).putObj _ hi (by omega) hl rfl) ((World.putObj_heap_other (by omega)).trans hk))⟩
  · -- one round
    rintro k x X hkn hx ⟨hi, hl, hk⟩
    have hy := run_yield (P := P) (args := x) hl (by rw [hrec]; exact hps k x X hx)
    rw [hrec] at hy
    refine ⟨fn, _, assign, body, hy, roundIn_of_wpIn trivial ?_⟩
    refine wpIn_mono (hround (Fence.wide.inRound (w.heap.size + 1)) (w.heap.size + 1) k x X ⟨rfl⟩ rfl rfl hkn hx (by omega) ⟨_, hl⟩ hi) ?_
    rintro e a' Xa hp
    cases e with
    | normal =>
      obtain ⟨hXa, hbody⟩ := hp
      have hlX : w.heap.size + 1 < X.heap.size := (Array.getElem?_eq_some_iff.1 hl).1
      -- the world behind the assignments
      have hold : ∀ b, b < X.heap.size → Xa.heap[b]? = X.heap[b]? := fun b hb => by
        rcases hXa with rfl | ⟨cs, T, rfl⟩
        · rfl
        · exact Below.heap_alloc _ _ _ hb
      have hsz : X.heap.size ≤ Xa.heap.size := by
        rcases hXa with rfl | ⟨cs, T, rfl⟩
        · exact Nat.le_refl _
        · simp
      have hia : I k Xa := by
        rcases hXa with rfl | ⟨cs, T, rfl⟩
        · exact hi
        · exact hI.alloc _ hi
      have hla := (hold _ hlX).trans hl
      have hka := (hold _ (by omega)).trans hk
      refine ⟨_, run_beginRound hla (by rw [hrec]), ?_⟩
      obtain ⟨Y, hY⟩ : ∃ Y, Xa.putObj (w.heap.size + 1) (.loop { rec .ready none with state := .busy }) = Y := ⟨_, rfl⟩
      have hYl : Y.heap[w.heap.size + 1]? = some (.loop { rec .ready none with state := .busy }) := hY ▸ World.putObj_heap_same (by omega)
      have hYk : Y.heap[w.heap.size]? = some (.deferred (some [])) := hY ▸ (World.putObj_heap_other (by omega)).trans hka
      have hgY : Xa.grownBy Y (some (w.heap.size + 1)) := hY ▸ grownBy_putObj' _ _ _
      have hYi : I k Y := hY ▸ hI.putObj _ hia (by omega) hla rfl
      have hXY : KeepUp W1.heap.size X Y := ⟨Nat.le_trans hsz hgY.size, fun b o hb hbo => by
        have hbX := (Array.getElem?_eq_some_iff.1 hbo).1
        exact ((hgY.block b (by omega) (fun e => by simp at e; omega)).trans (hold b hbX)).trans hbo⟩
      rw [hY]
      have hbd := hbody Y hYi (fun p v hv => cell_kept hv hgY (fun r e => by cases e; exact ⟨_, hla, rfl⟩)) (fun p v hv => frozen_kept hv hgY (fun r e => by cases e; exact ⟨_, hla, rfl⟩)) ⟨_, hYl⟩ (hY ▸ World.putObj_size)
      refine wpIn_mono hbd ?_
      have fin : ∀ (jump : Option Code) (Z : World), KeepUp w.heap.size Y Z →
          (Instr.endRound (w.heap.size + 1) jump).run P Z = .ok (.bool jump.isNone) (Z.putObj (w.heap.size + 1) (.loop (rec (if jump.isNone then .ready else .done) jump))) ∧
          Z.heap[w.heap.size + 1]? = some (.loop { rec .ready none with state := .busy }) ∧
          (Z.putObj (w.heap.size + 1) (.loop (rec (if jump.isNone then .ready else .done) jump))).heap[w.heap.size + 1]? = some (.loop (rec (if jump.isNone then .ready else .done) jump)) ∧
          (Z.putObj (w.heap.size + 1) (.loop (rec (if jump.isNone then .ready else .done) jump))).heap[w.heap.size]? = some (.deferred (some [])) ∧
          KeepUp W1.heap.size X (Z.putObj (w.heap.size + 1) (.loop (rec (if jump.isNone then .ready else .done) jump))) := fun jump Z hZ => by
        have hl3 := hZ.same _ _ (by omega) hYl
        have hk3 := hZ.same _ _ (Nat.le_refl _) hYk
        have hr := run_endRound (P := P) jump hl3
        refine ⟨?_, hl3, World.putObj_heap_same (Array.getElem?_eq_some_iff.1 hl3).1, (World.putObj_heap_other (by omega)).trans hk3, ?_⟩
        · rw [hrec] at hr ⊢
          exact hr
        · exact hXY.trans ((hZ.wider (by omega)).trans (KeepUp.of_grownBy (grownBy_putObj' _ _ _) (fun j e => by cases e; omega)))
      rintro e b Z hp
      cases e with
      | normal =>
        obtain ⟨hZ, hi3⟩ := hp
        obtain ⟨hr, hl3, hl4, hk4, hK4⟩ := fin none Z hZ
        exact ⟨_, _, hr, hK4, .inl ⟨rfl, hI.putObj _ hi3 (by omega) hl3 rfl, hl4, hk4⟩⟩
      | ret =>
        obtain ⟨hZ, hi3⟩ := hp
        obtain ⟨hr, hl3, hl4, hk4, hK4⟩ := fin (some .ret) Z hZ
        exact ⟨_, _, hr, hK4, .inr ⟨rfl, .ret, (hIx _).putObj _ hi3 (by omega) hl3 rfl, hl4, hk4⟩⟩
      | exit i =>
        obtain ⟨hZ, hi3⟩ := hp
        obtain ⟨hr, hl3, hl4, hk4, hK4⟩ := fin (some (.exit i)) Z hZ
        exact ⟨_, _, hr, hK4, .inr ⟨rfl, .exit i, (hIx _).putObj _ hi3 (by omega) hl3 rfl, hl4, hk4⟩⟩
      | goto t =>
        obtain ⟨hZ, hi3⟩ := hp
        obtain ⟨hr, hl3, hl4, hk4, hK4⟩ := fin (some (.goto t)) Z hZ
        exact ⟨_, _, hr, hK4, .inr ⟨rfl, .goto t, (hIx _).putObj _ hi3 (by omega) hl3 rfl, hl4, hk4⟩⟩
      | panic c => exact hp.elim
      | outgrown => exact hp.elim
    | ret => exact hp.elim
    | exit i => exact hp.elim
    | goto t => exact hp.elim
    | panic c => exact hp.elim
    | outgrown => exact hp.elim


theorem rowOwn {β : Type} (B : Nat) (o : Obj) (ho : o.isCells = true) : Own (fun (_ : β) W => W.heap[B]? = some o) := fun s X Y row hs hg hrow =>
  (hg.block B (Array.getElem?_eq_some_iff.1 hs).1 (fun e => by
    obtain ⟨o', ho', hc⟩ := hrow B e.symm
    rw [hs] at ho'
    cases ho'
    rw [ho] at hc
    cases hc)).trans hs
theorem rowKept {w w1 : World} {b : Nat} {r : Obj} (h : Below w.heap.size w w1) (hr : w.heap[b]? = some r) : w1.heap[b]? = some r := (h.block b (Array.getElem?_eq_some_iff.1 hr).1).trans hr

end Go.Proofs.YthjcldkaodmfoaaGreat
