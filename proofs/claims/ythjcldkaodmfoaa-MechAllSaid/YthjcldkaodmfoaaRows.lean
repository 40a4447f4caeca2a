/-
  No cell of these rows narrows 'for every input' (looked for: loops, veiled, ifaces, maps, wideKeys, modest, calm, conditions, laid).
  DERIVED. THE GIVEN ROWS OF THIS SEAT. 2 by the template 'for every input the law returns true; each argument reads behind the call as it read before'; 0 by the template 'total and deterministic' (their statements: YthjcldkaodmfoaaTotals.lean).
  GIVEN WITH THE SEED: the statements are not yours to turn. If you find one false, say at which input.
  Laid BY PROGRAM, IN A SANDBOX (cutbox-rows.mjs): the forced cells as the released guide's own fill.sh prints them over the translation 7a4de03c891a93ce… (all of the seat's roots in one cut). By AI agents, Wed Nov 11 2026. No macro, syntax, notation, axiom, sorry.
-/
import Derived.Test.YthjcldkaodmfoaaChecked
import GoSem.Claim
import GoSem.ClaimJoined
import GoSem.ClaimMapViews
import Derived.JoinedTies
import Derived.KernelRfl
namespace Go.Proofs.Ythjcldkaodmfoaa
/- THE CELL 'sum', in the pinned program and in every row, IS THE sha256 OF THE DUMP (.gsa) THAT YthjcldkaodmfoaaProg.lean LOADS. Nothing in Lean hashes anything: it is a label: what it is worth is what the hold of that sum in a sandbox is worth. -/
noncomputable def Try.pinned : Pinned := { name := "ythjcldkaodmfoaa", sum := "7a4de03c891a93ce2f54d5215e53ae354b8667e2089a77a96b378bf1e9545d70", checked := Try.checked }
namespace Rows
def none {H : Type} : Left H := { results := [], args := [] }

/-- 'baileylaw11.DerEdges': WHATEVER THE INPUT: true; the input reads as it did. -/
def derEdgesSpec : ChangeSpec := { name := "derEdges", fn := fun _ => fun
  | [d] => { results := [.lit (.bool true)], args := [d] }
  | _ => none }
def derEdgesRow : OpenClaim := { program := "ythjcldkaodmfoaa", sum := "7a4de03c891a93ce2f54d5215e53ae354b8667e2089a77a96b378bf1e9545d70", func := "bailey/baileylaw11.DerEdges", spec := "derEdges", unfollowed := true, recurses := true, apart := false }
def DerEdgesSaid : Prop := derEdgesRow.holds Try.pinned (OpenSpec.ofChange derEdgesSpec)

/-- ITS FALSE NEIGHBOUR: 'it returns false'. Refute it at one input. -/
def derEdgesWrong : ChangeSpec := { name := "derEdges", fn := fun _ => fun
  | [d] => { results := [.lit (.bool false)], args := [d] }
  | _ => none }
def DerEdgesWrongFalsely : Prop := derEdgesRow.holds Try.pinned (OpenSpec.ofChange derEdgesWrong)

/-- 'baileylaw19.MechAll': WHATEVER THE INPUT: true; the input reads as it did. -/
def mechAllSpec : ChangeSpec := { name := "mechAll", fn := fun _ => fun
  | [d] => { results := [.lit (.bool true)], args := [d] }
  | _ => none }
def mechAllRow : OpenClaim := { program := "ythjcldkaodmfoaa", sum := "7a4de03c891a93ce2f54d5215e53ae354b8667e2089a77a96b378bf1e9545d70", func := "bailey/baileylaw19.MechAll", spec := "mechAll", inPlace := ["math/bits.Add64", "math/bits.Sub64"], unfollowed := true, recurses := true, named := ["math/bits.divideError", "math/bits.overflowError"], apart := false }
def MechAllSaid : Prop := mechAllRow.holds Try.pinned (OpenSpec.ofChange mechAllSpec)

/-- ITS FALSE NEIGHBOUR: 'it returns false'. Refute it at one input. -/
def mechAllWrong : ChangeSpec := { name := "mechAll", fn := fun _ => fun
  | [d] => { results := [.lit (.bool false)], args := [d] }
  | _ => none }
def MechAllWrongFalsely : Prop := mechAllRow.holds Try.pinned (OpenSpec.ofChange mechAllWrong)

/- THE SECOND FORM. 'bulk': how many values and letters a reading holds, each counted each time it is reached (what is shared counts as often as it is met; a slice's spare places count too). A statement '..UptoSaid' is the law's where the arguments, and the package variables that the reading takes, are together of bulk at most 1048576: NARROWER than '..Said'. Prove '..Said' where nothing that the law and all that it calls make is longer than what came in: it says more and counts as full. Else prove '..UptoSaid'. A law counts once. -/
mutual
def uptoBulk {H : Type} : DataW H → Nat
  | .lit (.string bytes) => bytes.length + 1
  | .lit _ => 1
  | .nil => 1
  | .ptr d => uptoBulk d + 1
  | .slice elems spare => uptoBulkAll elems + uptoBulkAll spare + 1
  | .agg parts => uptoBulkAll parts + 1
  | .iface _ d => uptoBulk d + 1
  | .map entries => uptoBulkEntries entries + 1
  | .held _ => 1
def uptoBulkAll {H : Type} : List (DataW H) → Nat
  | [] => 0
  | d :: r => uptoBulk d + uptoBulkAll r
def uptoBulkEntries {H : Type} : List (Lit × DataW H) → Nat
  | [] => 0
  | x :: r => uptoBulkEntry x + uptoBulkEntries r
def uptoBulkEntry {H : Type} : Lit × DataW H → Nat
  | (.string bytes, d) => bytes.length + uptoBulk d + 1
  | (_, d) => uptoBulk d + 1
 end
def uptoSmall : (H : Type) → List (DataW H) → Bool := fun _ ds => decide (uptoBulkAll ds ≤ 1048576)
def OpenSpec.upto (s : _root_.Go.ChangeSpec) : _root_.Go.OpenSpec := { _root_.Go.OpenSpec.ofChange s with cond := some uptoSmall }

/-- 'baileylaw11.DerEdges', WHERE WHAT IT READS IS OF BULK AT MOST 1048576: true; the input reads as it did. -/
def derEdgesUptoRow : OpenClaim := { program := "ythjcldkaodmfoaa", sum := "7a4de03c891a93ce2f54d5215e53ae354b8667e2089a77a96b378bf1e9545d70", func := "bailey/baileylaw11.DerEdges", spec := "derEdges", unfollowed := true, recurses := true, apart := false, narrowed := true }
def DerEdgesUptoSaid : Prop := derEdgesUptoRow.holds Try.pinned (OpenSpec.upto derEdgesSpec)

/-- 'baileylaw19.MechAll', WHERE WHAT IT READS IS OF BULK AT MOST 1048576: true; the input reads as it did. -/
def mechAllUptoRow : OpenClaim := { program := "ythjcldkaodmfoaa", sum := "7a4de03c891a93ce2f54d5215e53ae354b8667e2089a77a96b378bf1e9545d70", func := "bailey/baileylaw19.MechAll", spec := "mechAll", inPlace := ["math/bits.Add64", "math/bits.Sub64"], unfollowed := true, recurses := true, named := ["math/bits.divideError", "math/bits.overflowError"], apart := false, narrowed := true }
def MechAllUptoSaid : Prop := mechAllUptoRow.holds Try.pinned (OpenSpec.upto mechAllSpec)

end Rows
end Go.Proofs.Ythjcldkaodmfoaa
