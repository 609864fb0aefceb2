/-
  No cell of these rows narrows 'for every input' (looked for: loops, veiled, ifaces, maps, wideKeys, modest, calm, conditions, laid).
  DERIVED. THE GIVEN ROWS OF THIS SEAT. 3 by the template 'for every input the law returns true; each argument reads behind the call as it read before'; 0 by the template 'total and deterministic' (their statements: YtnjgkgbgmjoceaaTotals.lean).
  GIVEN WITH THE SEED: the statements are not yours to turn. If you find one false, say at which input.
  Laid BY PROGRAM, IN A SANDBOX (cutbox-rows.mjs): the forced cells as the released guide's own fill.sh prints them over the translation 5aa306ae97a9c8f1… (all of the seat's roots in one cut). By AI agents, Wed Nov 11 2026. No macro, syntax, notation, axiom, sorry.
-/
import Derived.Test.YtnjgkgbgmjoceaaChecked
import GoSem.Claim
import GoSem.ClaimJoined
import GoSem.ClaimMapViews
import Derived.JoinedTies
import Derived.KernelRfl
namespace Go.Proofs.Ytnjgkgbgmjoceaa
/- THE CELL 'sum', in the pinned program and in every row, IS THE sha256 OF THE DUMP (.gsa) THAT YtnjgkgbgmjoceaaProg.lean LOADS. Nothing in Lean hashes anything: it is a label: what it is worth is what the hold of that sum in a sandbox is worth. -/
noncomputable def Try.pinned : Pinned := { name := "ytnjgkgbgmjoceaa", sum := "5aa306ae97a9c8f199a66803c97d246759ddbd2aed2a64d1b45c6c6c06f64ae5", checked := Try.checked }
namespace Rows
def none {H : Type} : Left H := { results := [], args := [] }

/-- 'joustlaw21.ViewNoMore': WHATEVER THE INPUT: true; the input reads as it did. -/
def viewNoMoreSpec : ChangeSpec := { name := "viewNoMore", fn := fun _ => fun
  | [d1, d2] => { results := [.lit (.bool true)], args := [d1, d2] }
  | _ => none }
def viewNoMoreRow : OpenClaim := { program := "ytnjgkgbgmjoceaa", sum := "5aa306ae97a9c8f199a66803c97d246759ddbd2aed2a64d1b45c6c6c06f64ae5", func := "joust/joustlaw21.ViewNoMore", spec := "viewNoMore", unfollowed := true, recurses := true, plainKeys := false, apart := false }
def ViewNoMoreSaid : Prop := viewNoMoreRow.holds Try.pinned (OpenSpec.ofChange viewNoMoreSpec)

/-- ITS FALSE NEIGHBOUR: 'it returns false'. Refute it at one input. -/
def viewNoMoreWrong : ChangeSpec := { name := "viewNoMore", fn := fun _ => fun
  | [d1, d2] => { results := [.lit (.bool false)], args := [d1, d2] }
  | _ => none }
def ViewNoMoreWrongFalsely : Prop := viewNoMoreRow.holds Try.pinned (OpenSpec.ofChange viewNoMoreWrong)

/-- 'joustlaw21.ViewNested': WHATEVER THE INPUT: true; the input reads as it did. -/
def viewNestedSpec : ChangeSpec := { name := "viewNested", fn := fun _ => fun
  | [d1, d2, d3] => { results := [.lit (.bool true)], args := [d1, d2, d3] }
  | _ => none }
def viewNestedRow : OpenClaim := { program := "ytnjgkgbgmjoceaa", sum := "5aa306ae97a9c8f199a66803c97d246759ddbd2aed2a64d1b45c6c6c06f64ae5", func := "joust/joustlaw21.ViewNested", spec := "viewNested", unfollowed := true, recurses := true, plainKeys := false, apart := false }
def ViewNestedSaid : Prop := viewNestedRow.holds Try.pinned (OpenSpec.ofChange viewNestedSpec)

/-- ITS FALSE NEIGHBOUR: 'it returns false'. Refute it at one input. -/
def viewNestedWrong : ChangeSpec := { name := "viewNested", fn := fun _ => fun
  | [d1, d2, d3] => { results := [.lit (.bool false)], args := [d1, d2, d3] }
  | _ => none }
def ViewNestedWrongFalsely : Prop := viewNestedRow.holds Try.pinned (OpenSpec.ofChange viewNestedWrong)

/-- 'joustlaw21.ViewKeeps': WHATEVER THE INPUT: true; the input reads as it did. -/
def viewKeepsSpec : ChangeSpec := { name := "viewKeeps", fn := fun _ => fun
  | [d1, d2] => { results := [.lit (.bool true)], args := [d1, d2] }
  | _ => none }
def viewKeepsRow : OpenClaim := { program := "ytnjgkgbgmjoceaa", sum := "5aa306ae97a9c8f199a66803c97d246759ddbd2aed2a64d1b45c6c6c06f64ae5", func := "joust/joustlaw21.ViewKeeps", spec := "viewKeeps", unfollowed := true, recurses := true, plainKeys := false, apart := false }
def ViewKeepsSaid : Prop := viewKeepsRow.holds Try.pinned (OpenSpec.ofChange viewKeepsSpec)

/-- ITS FALSE NEIGHBOUR: 'it returns false'. Refute it at one input. -/
def viewKeepsWrong : ChangeSpec := { name := "viewKeeps", fn := fun _ => fun
  | [d1, d2] => { results := [.lit (.bool false)], args := [d1, d2] }
  | _ => none }
def ViewKeepsWrongFalsely : Prop := viewKeepsRow.holds Try.pinned (OpenSpec.ofChange viewKeepsWrong)

/- THE SECOND FORM. 'bulk': how many values and letters a reading holds, each counted each time it is reached (what is shared counts as often as it is met; a slice's spare places count too). A statement '..UptoSaid' is the law's where the arguments, and the package variables that the reading takes, are together of bulk at most 1048576: NARROWER than '..Said'. Prove '..Said' where nothing that the law and all that it calls make is longer than what came in: it says more and counts as full. Else prove '..UptoSaid'. A law counts once. -/
mutual
def uptoBulk {H : Type} : DataW H → Nat
  | .lit (.string bytes) => bytes.length + 1
  | .lit _ => 1
  | .nil => 1
  | .ptr d => uptoBulk d + 1
  | .slice elems spare => uptoBulkAll elems + uptoBulkAll spare + 1
  | .agg parts => uptoBulkAll parts + 1
  | .iface _ d => uptoBulk d + 1
  | .map entries => uptoBulkEntries entries + 1
  | .held _ => 1
def uptoBulkAll {H : Type} : List (DataW H) → Nat
  | [] => 0
  | d :: r => uptoBulk d + uptoBulkAll r
def uptoBulkEntries {H : Type} : List (Lit × DataW H) → Nat
  | [] => 0
  | x :: r => uptoBulkEntry x + uptoBulkEntries r
def uptoBulkEntry {H : Type} : Lit × DataW H → Nat
  | (.string bytes, d) => bytes.length + uptoBulk d + 1
  | (_, d) => uptoBulk d + 1
 end
def uptoSmall : (H : Type) → List (DataW H) → Bool := fun _ ds => decide (uptoBulkAll ds ≤ 1048576)
def OpenSpec.upto (s : _root_.Go.ChangeSpec) : _root_.Go.OpenSpec := { _root_.Go.OpenSpec.ofChange s with cond := some uptoSmall }

/-- 'joustlaw21.ViewNoMore', WHERE WHAT IT READS IS OF BULK AT MOST 1048576: true; the input reads as it did. -/
def viewNoMoreUptoRow : OpenClaim := { program := "ytnjgkgbgmjoceaa", sum := "5aa306ae97a9c8f199a66803c97d246759ddbd2aed2a64d1b45c6c6c06f64ae5", func := "joust/joustlaw21.ViewNoMore", spec := "viewNoMore", unfollowed := true, recurses := true, plainKeys := false, apart := false, narrowed := true }
def ViewNoMoreUptoSaid : Prop := viewNoMoreUptoRow.holds Try.pinned (OpenSpec.upto viewNoMoreSpec)

/-- 'joustlaw21.ViewNested', WHERE WHAT IT READS IS OF BULK AT MOST 1048576: true; the input reads as it did. -/
def viewNestedUptoRow : OpenClaim := { program := "ytnjgkgbgmjoceaa", sum := "5aa306ae97a9c8f199a66803c97d246759ddbd2aed2a64d1b45c6c6c06f64ae5", func := "joust/joustlaw21.ViewNested", spec := "viewNested", unfollowed := true, recurses := true, plainKeys := false, apart := false, narrowed := true }
def ViewNestedUptoSaid : Prop := viewNestedUptoRow.holds Try.pinned (OpenSpec.upto viewNestedSpec)

/-- 'joustlaw21.ViewKeeps', WHERE WHAT IT READS IS OF BULK AT MOST 1048576: true; the input reads as it did. -/
def viewKeepsUptoRow : OpenClaim := { program := "ytnjgkgbgmjoceaa", sum := "5aa306ae97a9c8f199a66803c97d246759ddbd2aed2a64d1b45c6c6c06f64ae5", func := "joust/joustlaw21.ViewKeeps", spec := "viewKeeps", unfollowed := true, recurses := true, plainKeys := false, apart := false, narrowed := true }
def ViewKeepsUptoSaid : Prop := viewKeepsUptoRow.holds Try.pinned (OpenSpec.upto viewKeepsSpec)

end Rows
end Go.Proofs.Ytnjgkgbgmjoceaa
