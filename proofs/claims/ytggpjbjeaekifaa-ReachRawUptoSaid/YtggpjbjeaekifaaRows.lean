/-
  No cell of these rows narrows 'for every input' (looked for: loops, veiled, ifaces, maps, wideKeys, modest, calm, conditions, laid).
  DERIVED. THE GIVEN ROWS OF THIS SEAT. 3 by the template 'for every input the law returns true; each argument reads behind the call as it read before'; 0 by the template 'total and deterministic' (their statements: YtggpjbjeaekifaaTotals.lean).
  GIVEN WITH THE SEED: the statements are not yours to turn. If you find one false, say at which input.
  Laid BY PROGRAM, IN A SANDBOX (cutbox-rows.mjs): the forced cells as the released guide's own fill.sh prints them over the translation 098549eb3c3cc11c… (all of the seat's roots in one cut). By AI agents, Wed Nov 11 2026. No macro, syntax, notation, axiom, sorry.
-/
import Derived.Test.YtggpjbjeaekifaaChecked
import GoSem.Claim
import GoSem.ClaimJoined
import GoSem.ClaimMapViews
import Derived.JoinedTies
import Derived.KernelRfl
namespace Go.Proofs.Ytggpjbjeaekifaa
/- THE CELL 'sum', in the pinned program and in every row, IS THE sha256 OF THE DUMP (.gsa) THAT YtggpjbjeaekifaaProg.lean LOADS. Nothing in Lean hashes anything: it is a label: what it is worth is what the hold of that sum in a sandbox is worth. -/
noncomputable def Try.pinned : Pinned := { name := "ytggpjbjeaekifaa", sum := "098549eb3c3cc11cf38910c36539201670a5b0a870e95e4c08fbe4c905dc0a52", checked := Try.checked }
namespace Rows
def none {H : Type} : Left H := { results := [], args := [] }

/-- 'recompilelaw16.ReachWays': WHATEVER THE INPUT: true; the input reads as it did. -/
def reachWaysSpec : ChangeSpec := { name := "reachWays", fn := fun _ => fun
  | [d1, d2] => { results := [.lit (.bool true)], args := [d1, d2] }
  | _ => none }
def reachWaysRow : OpenClaim := { program := "ytggpjbjeaekifaa", sum := "098549eb3c3cc11cf38910c36539201670a5b0a870e95e4c08fbe4c905dc0a52", func := "recompile/recompilelaw16.ReachWays", spec := "reachWays", unfollowed := true, recurses := true, apart := false }
def ReachWaysSaid : Prop := reachWaysRow.holds Try.pinned (OpenSpec.ofChange reachWaysSpec)

/-- ITS FALSE NEIGHBOUR: 'it returns false'. Refute it at one input. -/
def reachWaysWrong : ChangeSpec := { name := "reachWays", fn := fun _ => fun
  | [d1, d2] => { results := [.lit (.bool false)], args := [d1, d2] }
  | _ => none }
def ReachWaysWrongFalsely : Prop := reachWaysRow.holds Try.pinned (OpenSpec.ofChange reachWaysWrong)

/-- 'recompilelaw16.ReachSteps': WHATEVER THE INPUT: true; the input reads as it did. -/
def reachStepsSpec : ChangeSpec := { name := "reachSteps", fn := fun _ => fun
  | [d] => { results := [.lit (.bool true)], args := [d] }
  | _ => none }
def reachStepsRow : OpenClaim := { program := "ytggpjbjeaekifaa", sum := "098549eb3c3cc11cf38910c36539201670a5b0a870e95e4c08fbe4c905dc0a52", func := "recompile/recompilelaw16.ReachSteps", spec := "reachSteps", unfollowed := true, recurses := true, apart := false }
def ReachStepsSaid : Prop := reachStepsRow.holds Try.pinned (OpenSpec.ofChange reachStepsSpec)

/-- ITS FALSE NEIGHBOUR: 'it returns false'. Refute it at one input. -/
def reachStepsWrong : ChangeSpec := { name := "reachSteps", fn := fun _ => fun
  | [d] => { results := [.lit (.bool false)], args := [d] }
  | _ => none }
def ReachStepsWrongFalsely : Prop := reachStepsRow.holds Try.pinned (OpenSpec.ofChange reachStepsWrong)

/-- 'recompilelaw16.ReachRaw': WHATEVER THE INPUT: true; the input reads as it did. -/
def reachRawSpec : ChangeSpec := { name := "reachRaw", fn := fun _ => fun
  | [d1, d2, d3] => { results := [.lit (.bool true)], args := [d1, d2, d3] }
  | _ => none }
def reachRawRow : OpenClaim := { program := "ytggpjbjeaekifaa", sum := "098549eb3c3cc11cf38910c36539201670a5b0a870e95e4c08fbe4c905dc0a52", func := "recompile/recompilelaw16.ReachRaw", spec := "reachRaw", unfollowed := true, recurses := true, apart := false }
def ReachRawSaid : Prop := reachRawRow.holds Try.pinned (OpenSpec.ofChange reachRawSpec)

/-- ITS FALSE NEIGHBOUR: 'it returns false'. Refute it at one input. -/
def reachRawWrong : ChangeSpec := { name := "reachRaw", fn := fun _ => fun
  | [d1, d2, d3] => { results := [.lit (.bool false)], args := [d1, d2, d3] }
  | _ => none }
def ReachRawWrongFalsely : Prop := reachRawRow.holds Try.pinned (OpenSpec.ofChange reachRawWrong)

/- THE SECOND FORM. 'bulk': how many values and letters a reading holds, each counted each time it is reached (what is shared counts as often as it is met; a slice's spare places count too). A statement '..UptoSaid' is the law's where the arguments, and the package variables that the reading takes, are together of bulk at most 1048576: NARROWER than '..Said'. Prove '..Said' where nothing that the law and all that it calls make is longer than what came in: it says more and counts as full. Else prove '..UptoSaid'. A law counts once. -/
mutual
def uptoBulk {H : Type} : DataW H → Nat
  | .lit (.string bytes) => bytes.length + 1
  | .lit _ => 1
  | .nil => 1
  | .ptr d => uptoBulk d + 1
  | .slice elems spare => uptoBulkAll elems + uptoBulkAll spare + 1
  | .agg parts => uptoBulkAll parts + 1
  | .iface _ d => uptoBulk d + 1
  | .map entries => uptoBulkEntries entries + 1
  | .held _ => 1
def uptoBulkAll {H : Type} : List (DataW H) → Nat
  | [] => 0
  | d :: r => uptoBulk d + uptoBulkAll r
def uptoBulkEntries {H : Type} : List (Lit × DataW H) → Nat
  | [] => 0
  | x :: r => uptoBulkEntry x + uptoBulkEntries r
def uptoBulkEntry {H : Type} : Lit × DataW H → Nat
  | (.string bytes, d) => bytes.length + uptoBulk d + 1
  | (_, d) => uptoBulk d + 1
 end
def uptoSmall : (H : Type) → List (DataW H) → Bool := fun _ ds => decide (uptoBulkAll ds ≤ 1048576)
def OpenSpec.upto (s : _root_.Go.ChangeSpec) : _root_.Go.OpenSpec := { _root_.Go.OpenSpec.ofChange s with cond := some uptoSmall }

/-- 'recompilelaw16.ReachWays', WHERE WHAT IT READS IS OF BULK AT MOST 1048576: true; the input reads as it did. -/
def reachWaysUptoRow : OpenClaim := { program := "ytggpjbjeaekifaa", sum := "098549eb3c3cc11cf38910c36539201670a5b0a870e95e4c08fbe4c905dc0a52", func := "recompile/recompilelaw16.ReachWays", spec := "reachWays", unfollowed := true, recurses := true, apart := false, narrowed := true }
def ReachWaysUptoSaid : Prop := reachWaysUptoRow.holds Try.pinned (OpenSpec.upto reachWaysSpec)

/-- 'recompilelaw16.ReachSteps', WHERE WHAT IT READS IS OF BULK AT MOST 1048576: true; the input reads as it did. -/
def reachStepsUptoRow : OpenClaim := { program := "ytggpjbjeaekifaa", sum := "098549eb3c3cc11cf38910c36539201670a5b0a870e95e4c08fbe4c905dc0a52", func := "recompile/recompilelaw16.ReachSteps", spec := "reachSteps", unfollowed := true, recurses := true, apart := false, narrowed := true }
def ReachStepsUptoSaid : Prop := reachStepsUptoRow.holds Try.pinned (OpenSpec.upto reachStepsSpec)

/-- 'recompilelaw16.ReachRaw', WHERE WHAT IT READS IS OF BULK AT MOST 1048576: true; the input reads as it did. -/
def reachRawUptoRow : OpenClaim := { program := "ytggpjbjeaekifaa", sum := "098549eb3c3cc11cf38910c36539201670a5b0a870e95e4c08fbe4c905dc0a52", func := "recompile/recompilelaw16.ReachRaw", spec := "reachRaw", unfollowed := true, recurses := true, apart := false, narrowed := true }
def ReachRawUptoSaid : Prop := reachRawUptoRow.holds Try.pinned (OpenSpec.upto reachRawSpec)

end Rows
end Go.Proofs.Ytggpjbjeaekifaa
