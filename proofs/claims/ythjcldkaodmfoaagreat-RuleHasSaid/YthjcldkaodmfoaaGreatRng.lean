/-
  A range over a function whose yielded values are a known list: a contract for the function, a law for the statement. Conditions: those that each theorem types.
-/
import Derived.Test.YthjcldkaodmfoaaGreatBase
import Derived.RangeFuncNested
import Derived.RangeFuncBound
import Derived.RangeFuncCalls
import Derived.RangeFuncLeaves
import Derived.OwnWalkIn
import Derived.TacticsInMore
import Derived.LoopNIn
import Derived.LoopIn
namespace Go.Proofs.YthjcldkaodmfoaaGreat
open Go.RowKit

/-- Whatever lay at or beyond B lies there still. -/
structure KeepUp (B : Nat) (W W' : World) : Prop where
  size : W.heap.size ≤ W'.heap.size
  same : ∀ (k : Nat) (o : Obj), B ≤ k → W.heap[k]? = some o → W'.heap[k]? = some o
theorem KeepUp.refl (B : Nat) (W : World) : KeepUp B W W := ⟨Nat.le_refl _, fun _ _ _ h => h⟩
theorem KeepUp.trans {B : Nat} {X Y Z : World} (h : KeepUp B X Y) (k : KeepUp B Y Z) : KeepUp B X Z := ⟨Nat.le_trans h.size k.size, fun i o hB hi => k.same i o hB (h.same i o hB hi)⟩
theorem KeepUp.wider {B B' : Nat} {W W' : World} (h : KeepUp B W W') (hB : B ≤ B') : KeepUp B' W W' := ⟨h.size, fun k o hk => h.same k o (Nat.le_trans hB hk)⟩
theorem KeepUp.alloc (B : Nat) (W : World) (o : Obj) : KeepUp B W (W.alloc o) := ⟨by simp, fun k o' _ h => (Below.heap_alloc _ _ _ (Array.getElem?_eq_some_iff.1 h).1).trans h⟩
theorem KeepUp.setCell {B : Nat} (W : World) (a : Addr) (v : Value) (h : a.block < B) : KeepUp B W (W.setCell a v) := ⟨by simp, fun k o hk hk2 => (heap_setCell_other W a k v (by omega)).trans hk2⟩
theorem KeepUp.of_grownBy {B : Nat} {W W' : World} {row : Option Nat} (hg : W.grownBy W' row) (hrow : ∀ j, row = some j → j < B) : KeepUp B W W' :=
  ⟨hg.size, fun k o hB hk => (hg.block k (Array.getElem?_eq_some_iff.1 hk).1 (fun e => by have := hrow k e.symm; omega)).trans hk⟩
theorem ownFrom_wider {β : Type} {B B' : Nat} {I : β → World → Prop} (h : OwnFrom B I) (hB : B ≤ B') : OwnFrom B' I := fun s W W' row hs hg hr => h s W W' row hs hg fun r e => ⟨Nat.le_trans hB (hr r e).1, (hr r e).2⟩

/-- The function g (with what it has captured) yields the values xs, one after the other, as long as it is told to go on: whatever J says of the world after k rounds. J has to imply M: what the function reads of memory. A round keeps what the function has laid. -/
def Yields (P : Program) (g : Nat) (lb : Array Value) (xs : List (Array Value)) (M : World → Prop) : Prop :=
  ∀ (l : Nat) (J Jx : Nat → World → Prop) (W : World), OwnFrom W.heap.size J → OwnFrom W.heap.size Jx → (∀ k X, J k X → M X) →
    (∀ k x X, xs[k]? = some x → J k X → YieldAt Fence.wide 9 P l x X fun e X' => KeepUp W.heap.size X X' ∧ ((e = .returned (.bool true) ∧ J (k + 1) X') ∨ (e = .returned (.bool false) ∧ Jx (k + 1) X'))) →
    J 0 W → CallsIn Fence.wide 9 P g (#[.func (.yield l) #[] #[]] ++ lb) W fun e W' => (∃ v, e = .returned v) ∧ (J xs.length W' ∨ ∃ k, k < xs.length ∧ Jx (k + 1) W')

theorem yields_mono {P : Program} {g : Nat} {lb : Array Value} {xs : List (Array Value)} {M M' : World → Prop} (h : Yields P g lb xs M) (hm : ∀ X, M' X → M X) : Yields P g lb xs M' :=
  fun l J Jx W hJ hJx hJM hY h0 => h l J Jx W hJ hJx (fun k X hk => hm X (hJM k X hk)) hY h0

/-- How a round's body may be left: by its end, with I; by a jump, with Ix. -/
def roundEnds (B : Nat) (I : World → Prop) (Ix : Code → World → Prop) (X : World) : Exit → Act → World → Prop
  | .normal, _, X' => KeepUp B X X' ∧ I X'
  | .ret, _, X' => KeepUp B X X' ∧ Ix .ret X'
  | .exit i, _, X' => KeepUp B X X' ∧ Ix (.exit i) X'
  | .goto t, _, X' => KeepUp B X X' ∧ Ix (.goto t) X'
  | .panic _, _, _ => False
  | .outgrown, _, _ => False

/-- What a round's assignments leave: the world as it was, or one block more; then the body, in a world with the same cells. -/
def assigned (F : Fence) (P : Program) (l : Nat) (body : Code) (I : World → Prop) (post : World → Exit → Act → World → Prop) (X : World) (a : Act) (Xa : World) : Prop :=
  (Xa = X ∨ ∃ cs T, Xa = X.alloc (.cells cs T)) ∧
  ∀ Y, I Y → (∀ p v, Xa.cell? p = some v → Y.cell? p = some v) → (∀ p v, Xa.cell? p = some v → Y.frozen? p = Xa.frozen? p) → (∃ r, Y.heap[l]? = some (.loop r)) → Y.heap.size = Xa.heap.size → body.wpIn F 9 P (post Y) a Y

theorem wp_rangeW {P : Program} {g : Operand} {ps : Array Tmp} {assign body : Code} {Q : Exit → Act → World → Prop} {a : Act} {w : World} {M : World → Prop} {gf : Nat} {lb : Array Value} {xs : List (Array Value)}
    (hg : a.eval g = .func (.func gf) #[] lb) (eg : ∀ args w, (callFunc gf args).run P w = .ok (.enter gf args) w) (hseq : Yields P gf lb xs M) (hps : ∀ x ∈ xs, x.size = ps.size)
    (I : Nat → World → Prop) (Ix : Code → Nat → World → Prop) (hI : OwnFrom w.heap.size I) (hIx : ∀ c, OwnFrom w.heap.size (Ix c)) (hIM : ∀ k X, I k X → M X) (h0 : I 0 w)
    (hround : ∀ (F : Fence) (l k : Nat) (x : Array Value) (X : World), Ho (F = Fence.wide.inRound l) → F.round = some l → F.depth = none → xs[k]? = some x → w.heap.size ≤ l → (∃ r, X.heap[l]? = some (.loop r)) → I k X →
      assign.wpIn F 9 P (Exit.then (assigned F P l body (I k) (roundEnds w.heap.size (I (k + 1)) (fun c => Ix c (k + 1))) X) (fun _ _ _ => False)) { tmps := (ps.zip x).foldl (fun t (p, v) => t.setIfInBounds p v) a.tmps, defers := [] } X)
    (hdone : ∀ (D : Nat) (X : World), w.heap.size ≤ D → I xs.length X → X.heap[D]? = some (.deferred (some [])) → Q .normal { a with defers := { target := .collected D, args := #[] } :: a.defers } X)
    (hstop : ∀ (D : Nat) (c : Code) (k : Nat) (X : World), w.heap.size ≤ D → k < xs.length → Ix c (k + 1) X → X.heap[D]? = some (.deferred (some [])) → c.wp P Q { a with defers := { target := .collected D, args := #[] } :: a.defers } X) :
    (Code.rangeFunc g ps assign body).wp P Q a w := by
  refine wpIn_wide (n := 9).1 (wpIn_rangeFunc ?_)
  intro fn hfn
  have hrn : Fence.wide.round = none := rfl
  rw [hrn]
  obtain ⟨rec, hrec⟩ : ∃ rec : LoopState → Option Code → Loop, rec = fun st pe => { state := st, pending := pe, fn, tmps := a.tmps, params := ps, assign, body, defers := w.heap.size } := ⟨_, rfl⟩
  obtain ⟨W1, hW1⟩ : ∃ W1, (w.alloc (.deferred (some []))).alloc (.loop (rec .ready none)) = W1 := ⟨_, rfl⟩
  have hs1 : W1.heap.size = w.heap.size + 2 := by rw [← hW1]; simp
  have hL : W1.heap[w.heap.size + 1]? = some (.loop (rec .ready none)) := by
    have := World.alloc_heap_new (w.alloc (.deferred (some []))) (.loop (rec .ready none))
    rw [World.size_alloc, hW1] at this
    exact this
  have hK : W1.heap[w.heap.size]? = some (.deferred (some [])) := by
    rw [← hW1]
    exact (Below.heap_alloc _ _ _ (by simp)).trans (World.alloc_heap_new w _)
  have hI1 : I 0 W1 := by rw [← hW1]; exact hI.alloc _ (hI.alloc _ h0)
  refine ⟨w.heap.size + 1, [{ target := .collected w.heap.size, args := #[] }], W1, { target := .fn (.func gf) lb, args := #[.func (.yield (w.heap.size + 1)) #[] #[]] }, W1, gf, #[.func (.yield (w.heap.size + 1)) #[] #[]] ++ lb, W1, ?_, ?_, fun _ _ => trivial, ?_, fun _ => by omega, ?_⟩
  · rw [← hW1, hrec]; exact run_enterLoop_outer _ _ _ _ _
  · simp only [resolve, hg]
    simp [go_sem]
  · simp [invoke, go_sem, eg]
  -- both pieces of book-keeping lie below the function's own blocks: no step of its turns them
  have own : ∀ (b : Nat) (o : Obj), b < W1.heap.size → OwnFrom W1.heap.size (fun (_ : Nat) X => X.heap[b]? = some o) := fun b o hb _ X Y row hs hg' hr =>
    (hg'.block b (Array.getElem?_eq_some_iff.1 hs).1 (fun e => by have := (hr b e.symm).1; omega)).trans hs
  have hc := hseq (w.heap.size + 1)
    (fun k X => I k X ∧ X.heap[w.heap.size + 1]? = some (.loop (rec .ready none)) ∧ X.heap[w.heap.size]? = some (.deferred (some [])))
    (fun k X => ∃ c, Ix c k X ∧ X.heap[w.heap.size + 1]? = some (.loop (rec .done (some c))) ∧ X.heap[w.heap.size]? = some (.deferred (some [])))
    W1 ((ownFrom_wider hI (by omega)).and ((own _ _ (by omega)).and (own _ _ (by omega))))
    (fun k X Y row hs hg' hr => by
      obtain ⟨c, h1, h2, h3⟩ := hs
      exact ⟨c, ownFrom_wider (hIx c) (by omega) k X Y row h1 hg' hr, own _ _ (by omega) k X Y row h2 hg' hr, own _ _ (by omega) k X Y row h3 hg' hr⟩)
    (fun k X h => hIM k X h.1) ?_ ⟨hI1, hL, hK⟩
  · -- behind the function
    refine callsIn_wide.2 ((callsIn_wide.1 hc).mono ?_)
    rintro e X ⟨⟨v, rfl⟩, ⟨hi, hl, hk⟩ | ⟨k, hkl, c, hi, hl, hk⟩⟩
    · have he := run_endLoop (P := P) hl (by rw [hrec]; simp)
      rw [hrec] at he
      exact ⟨none, _, he, hdone w.heap.size _ (Nat.le_refl _) (hI.putObj _ hi (by omega) hl rfl) ((World.putObj_heap_other (by omega)).trans hk)⟩
    · have he := run_endLoop (P := P) hl (by rw [hrec]; simp)
      rw [hrec] at he
      exact ⟨some c, _, he, wpIn_wide.2 (hstop w.heap.size c k _ (Nat.le_refl _) hkl ((hIx c).putObj _ hi (by omega) hl rfl) ((World.putObj_heap_other (by omega)).trans hk))⟩
  · -- one round
    rintro k x X hx ⟨hi, hl, hk⟩
    have hxm : x ∈ xs := List.mem_of_getElem? hx
    have hy := run_yield (P := P) (args := x) hl (by rw [hrec]; exact hps x hxm)
    rw [hrec] at hy
    refine ⟨fn, _, assign, body, hy, roundIn_of_wpIn trivial ?_⟩
    refine wpIn_mono (hround (Fence.wide.inRound (w.heap.size + 1)) (w.heap.size + 1) k x X ⟨rfl⟩ rfl rfl hx (by omega) ⟨_, hl⟩ hi) ?_
    rintro e a' Xa hp
    cases e with
    | normal =>
      obtain ⟨hXa, hbody⟩ := hp
      have hlX : w.heap.size + 1 < X.heap.size := (Array.getElem?_eq_some_iff.1 hl).1
      -- the world behind the assignments
      have hold : ∀ b, b < X.heap.size → Xa.heap[b]? = X.heap[b]? := fun b hb => by
        rcases hXa with rfl | ⟨cs, T, rfl⟩
        · rfl
        · exact Below.heap_alloc _ _ _ hb
      have hsz : X.heap.size ≤ Xa.heap.size := by
        rcases hXa with rfl | ⟨cs, T, rfl⟩
        · exact Nat.le_refl _
        · simp
      have hia : I k Xa := by
        rcases hXa with rfl | ⟨cs, T, rfl⟩
        · exact hi
        · exact hI.alloc _ hi
      have hla := (hold _ hlX).trans hl
      have hka := (hold _ (by omega)).trans hk
      refine ⟨_, run_beginRound hla (by rw [hrec]), ?_⟩
      obtain ⟨Y, hY⟩ : ∃ Y, Xa.putObj (w.heap.size + 1) (.loop { rec .ready none with state := .busy }) = Y := ⟨_, rfl⟩
      have hYl : Y.heap[w.heap.size + 1]? = some (.loop { rec .ready none with state := .busy }) := hY ▸ World.putObj_heap_same (by omega)
      have hYk : Y.heap[w.heap.size]? = some (.deferred (some [])) := hY ▸ (World.putObj_heap_other (by omega)).trans hka
      have hgY : Xa.grownBy Y (some (w.heap.size + 1)) := hY ▸ grownBy_putObj' _ _ _
      have hYi : I k Y := hY ▸ hI.putObj _ hia (by omega) hla rfl
      have hXY : KeepUp W1.heap.size X Y := ⟨Nat.le_trans hsz hgY.size, fun b o hb hbo => by
        have hbX := (Array.getElem?_eq_some_iff.1 hbo).1
        exact ((hgY.block b (by omega) (fun e => by simp at e; omega)).trans (hold b hbX)).trans hbo⟩
      rw [hY]
      have hbd := hbody Y hYi (fun p v hv => cell_kept hv hgY (fun r e => by cases e; exact ⟨_, hla, rfl⟩)) (fun p v hv => frozen_kept hv hgY (fun r e => by cases e; exact ⟨_, hla, rfl⟩)) ⟨_, hYl⟩ (hY ▸ World.putObj_size)
      refine wpIn_mono hbd ?_
      have fin : ∀ (jump : Option Code) (Z : World), KeepUp w.heap.size Y Z →
          (Instr.endRound (w.heap.size + 1) jump).run P Z = .ok (.bool jump.isNone) (Z.putObj (w.heap.size + 1) (.loop (rec (if jump.isNone then .ready else .done) jump))) ∧
          Z.heap[w.heap.size + 1]? = some (.loop { rec .ready none with state := .busy }) ∧
          (Z.putObj (w.heap.size + 1) (.loop (rec (if jump.isNone then .ready else .done) jump))).heap[w.heap.size + 1]? = some (.loop (rec (if jump.isNone then .ready else .done) jump)) ∧
          (Z.putObj (w.heap.size + 1) (.loop (rec (if jump.isNone then .ready else .done) jump))).heap[w.heap.size]? = some (.deferred (some [])) ∧
          KeepUp W1.heap.size X (Z.putObj (w.heap.size + 1) (.loop (rec (if jump.isNone then .ready else .done) jump))) := fun jump Z hZ => by
        have hl3 := hZ.same _ _ (by omega) hYl
        have hk3 := hZ.same _ _ (Nat.le_refl _) hYk
        have hr := run_endRound (P := P) jump hl3
        refine ⟨?_, hl3, World.putObj_heap_same (Array.getElem?_eq_some_iff.1 hl3).1, (World.putObj_heap_other (by omega)).trans hk3, ?_⟩
        · rw [hrec] at hr ⊢
          exact hr
        · exact hXY.trans ((hZ.wider (by omega)).trans (KeepUp.of_grownBy (grownBy_putObj' _ _ _) (fun j e => by cases e; omega)))
      rintro e b Z hp
      cases e with
      | normal =>
        obtain ⟨hZ, hi3⟩ := hp
        obtain ⟨hr, hl3, hl4, hk4, hK4⟩ := fin none Z hZ
        exact ⟨_, _, hr, hK4, .inl ⟨rfl, hI.putObj _ hi3 (by omega) hl3 rfl, hl4, hk4⟩⟩
      | ret =>
        obtain ⟨hZ, hi3⟩ := hp
        obtain ⟨hr, hl3, hl4, hk4, hK4⟩ := fin (some .ret) Z hZ
        exact ⟨_, _, hr, hK4, .inr ⟨rfl, .ret, (hIx _).putObj _ hi3 (by omega) hl3 rfl, hl4, hk4⟩⟩
      | exit i =>
        obtain ⟨hZ, hi3⟩ := hp
        obtain ⟨hr, hl3, hl4, hk4, hK4⟩ := fin (some (.exit i)) Z hZ
        exact ⟨_, _, hr, hK4, .inr ⟨rfl, .exit i, (hIx _).putObj _ hi3 (by omega) hl3 rfl, hl4, hk4⟩⟩
      | goto t =>
        obtain ⟨hZ, hi3⟩ := hp
        obtain ⟨hr, hl3, hl4, hk4, hK4⟩ := fin (some (.goto t)) Z hZ
        exact ⟨_, _, hr, hK4, .inr ⟨rfl, .goto t, (hIx _).putObj _ hi3 (by omega) hl3 rfl, hl4, hk4⟩⟩
      | panic c => exact hp.elim
      | outgrown => exact hp.elim
    | ret => exact hp.elim
    | exit i => exact hp.elim
    | goto t => exact hp.elim
    | panic c => exact hp.elim
    | outgrown => exact hp.elim

theorem yield_any {F : Fence} {m n : Nat} {P : Program} {l : Nat} {x : Array Value} {W : World} {R : Ending → World → Prop} (hd : F.depth = none) (h : YieldAt F m P l x W R) : YieldAt F n P l x W R := by
  obtain ⟨fn, tmps, assign, body, hy, h1, h2⟩ := h
  exact ⟨fn, tmps, assign, body, hy, h1, fun c cs _ => h2 c cs fun d e => by rw [hd] at e; cases e⟩

theorem yield_in {F : Fence} {m n : Nat} {P : Program} {l l' : Nat} {x : Array Value} {W : World} {R : Ending → World → Prop} (hF : F = Fence.wide.inRound l') (h : YieldAt Fence.wide m P l x W R) : YieldAt F n P l x W R := by
  subst hF
  exact yield_any rfl (show YieldAt (Fence.wide.inRound l') m P l x W R from h)

/-- A function's contract where its body holds such a statement. -/
theorem calls_of_marks {P : Program} {f : FuncId} {fn : Func} {c : Code} {args : Array Value} {w : World} {R : Ending → World → Prop} (hf : P.funcs[f]? = some fn) (hb : fn.body = some c)
    (h : c.wp P (bodyPostM Fence.wide 9 P fn R) { tmps := args ++ Array.replicate (fn.ntmps - args.size) undef, defers := [] } w) : Calls P f args w R :=
  callsIn_wide.1 (callsIn_of_wp_marks hf hb trivial (wpIn_wide.2 h))

end Go.Proofs.YthjcldkaodmfoaaGreat
