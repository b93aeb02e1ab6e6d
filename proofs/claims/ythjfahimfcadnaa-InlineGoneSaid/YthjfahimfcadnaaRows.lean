/-
  No cell of these rows narrows 'for every input' (looked for: loops, veiled, ifaces, maps, wideKeys, modest, calm, conditions, laid).
  DERIVED. THE GIVEN ROWS OF THIS SEAT. 12 by the template 'for every input the law returns true; each argument reads behind the call as it read before'; 0 by the template 'total and deterministic' (their statements: YthjfahimfcadnaaTotals.lean).
  GIVEN WITH THE SEED: the statements are not yours to turn. If you find one false, say at which input.
  Laid BY PROGRAM, IN A SANDBOX (cutbox-rows.mjs): the forced cells as the released guide's own fill.sh prints them over the translation ed00e8c788412218… (all of the seat's roots in one cut). By AI agents, Wed Nov 11 2026. No macro, syntax, notation, axiom, sorry.
-/
import Derived.Test.YthjfahimfcadnaaChecked
import GoSem.Claim
import GoSem.ClaimJoined
import GoSem.ClaimMapViews
import Derived.JoinedTies
import Derived.KernelRfl
namespace Go.Proofs.Ythjfahimfcadnaa
/- THE CELL 'sum', in the pinned program and in every row, IS THE sha256 OF THE DUMP (.gsa) THAT YthjfahimfcadnaaProg.lean LOADS. Nothing in Lean hashes anything: it is a label: what it is worth is what the hold of that sum in a sandbox is worth. -/
noncomputable def Try.pinned : Pinned := { name := "ythjfahimfcadnaa", sum := "ed00e8c788412218fe9b4fb6670eedab4d013a5863a1a18d2f2b41d976d422b2", checked := Try.checked }
namespace Rows
def none {H : Type} : Left H := { results := [], args := [] }

/-- 'recompilelaw17.InlineRaw': WHATEVER THE INPUT: true; the input reads as it did. -/
def inlineRawSpec : ChangeSpec := { name := "inlineRaw", fn := fun _ => fun
  | [d1, d2, d3] => { results := [.lit (.bool true)], args := [d1, d2, d3] }
  | _ => none }
def inlineRawRow : OpenClaim := { program := "ythjfahimfcadnaa", sum := "ed00e8c788412218fe9b4fb6670eedab4d013a5863a1a18d2f2b41d976d422b2", func := "recompile/recompilelaw17.InlineRaw", spec := "inlineRaw", unfollowed := true, recurses := true, apart := false }
def InlineRawSaid : Prop := inlineRawRow.holds Try.pinned (OpenSpec.ofChange inlineRawSpec)

/-- ITS FALSE NEIGHBOUR: 'it returns false'. Refute it at one input. -/
def inlineRawWrong : ChangeSpec := { name := "inlineRaw", fn := fun _ => fun
  | [d1, d2, d3] => { results := [.lit (.bool false)], args := [d1, d2, d3] }
  | _ => none }
def InlineRawWrongFalsely : Prop := inlineRawRow.holds Try.pinned (OpenSpec.ofChange inlineRawWrong)

/-- 'recompilelaw17.InlineMade': WHATEVER THE INPUT: true; the input reads as it did. -/
def inlineMadeSpec : ChangeSpec := { name := "inlineMade", fn := fun _ => fun
  | [d] => { results := [.lit (.bool true)], args := [d] }
  | _ => none }
def inlineMadeRow : OpenClaim := { program := "ythjfahimfcadnaa", sum := "ed00e8c788412218fe9b4fb6670eedab4d013a5863a1a18d2f2b41d976d422b2", func := "recompile/recompilelaw17.InlineMade", spec := "inlineMade", unfollowed := true, recurses := true, apart := false }
def InlineMadeSaid : Prop := inlineMadeRow.holds Try.pinned (OpenSpec.ofChange inlineMadeSpec)

/-- ITS FALSE NEIGHBOUR: 'it returns false'. Refute it at one input. -/
def inlineMadeWrong : ChangeSpec := { name := "inlineMade", fn := fun _ => fun
  | [d] => { results := [.lit (.bool false)], args := [d] }
  | _ => none }
def InlineMadeWrongFalsely : Prop := inlineMadeRow.holds Try.pinned (OpenSpec.ofChange inlineMadeWrong)

/-- 'recompilelaw17.InlineLong': WHATEVER THE INPUT: true; the input reads as it did. -/
def inlineLongSpec : ChangeSpec := { name := "inlineLong", fn := fun _ => fun
  | [d1, d2] => { results := [.lit (.bool true)], args := [d1, d2] }
  | _ => none }
def inlineLongRow : OpenClaim := { program := "ythjfahimfcadnaa", sum := "ed00e8c788412218fe9b4fb6670eedab4d013a5863a1a18d2f2b41d976d422b2", func := "recompile/recompilelaw17.InlineLong", spec := "inlineLong", unfollowed := true, recurses := true, apart := false }
def InlineLongSaid : Prop := inlineLongRow.holds Try.pinned (OpenSpec.ofChange inlineLongSpec)

/-- ITS FALSE NEIGHBOUR: 'it returns false'. Refute it at one input. -/
def inlineLongWrong : ChangeSpec := { name := "inlineLong", fn := fun _ => fun
  | [d1, d2] => { results := [.lit (.bool false)], args := [d1, d2] }
  | _ => none }
def InlineLongWrongFalsely : Prop := inlineLongRow.holds Try.pinned (OpenSpec.ofChange inlineLongWrong)

/-- 'recompilelaw17.InlineMeans': WHATEVER THE INPUT: true; the input reads as it did. -/
def inlineMeansSpec : ChangeSpec := { name := "inlineMeans", fn := fun _ => fun
  | [d] => { results := [.lit (.bool true)], args := [d] }
  | _ => none }
def inlineMeansRow : OpenClaim := { program := "ythjfahimfcadnaa", sum := "ed00e8c788412218fe9b4fb6670eedab4d013a5863a1a18d2f2b41d976d422b2", func := "recompile/recompilelaw17.InlineMeans", spec := "inlineMeans", unfollowed := true, recurses := true, apart := false }
def InlineMeansSaid : Prop := inlineMeansRow.holds Try.pinned (OpenSpec.ofChange inlineMeansSpec)

/-- ITS FALSE NEIGHBOUR: 'it returns false'. Refute it at one input. -/
def inlineMeansWrong : ChangeSpec := { name := "inlineMeans", fn := fun _ => fun
  | [d] => { results := [.lit (.bool false)], args := [d] }
  | _ => none }
def InlineMeansWrongFalsely : Prop := inlineMeansRow.holds Try.pinned (OpenSpec.ofChange inlineMeansWrong)

/-- 'recompilelaw17.InlineGone': WHATEVER THE INPUT: true; the input reads as it did. -/
def inlineGoneSpec : ChangeSpec := { name := "inlineGone", fn := fun _ => fun
  | [d] => { results := [.lit (.bool true)], args := [d] }
  | _ => none }
def inlineGoneRow : OpenClaim := { program := "ythjfahimfcadnaa", sum := "ed00e8c788412218fe9b4fb6670eedab4d013a5863a1a18d2f2b41d976d422b2", func := "recompile/recompilelaw17.InlineGone", spec := "inlineGone", unfollowed := true, recurses := true, apart := false }
def InlineGoneSaid : Prop := inlineGoneRow.holds Try.pinned (OpenSpec.ofChange inlineGoneSpec)

/-- ITS FALSE NEIGHBOUR: 'it returns false'. Refute it at one input. -/
def inlineGoneWrong : ChangeSpec := { name := "inlineGone", fn := fun _ => fun
  | [d] => { results := [.lit (.bool false)], args := [d] }
  | _ => none }
def InlineGoneWrongFalsely : Prop := inlineGoneRow.holds Try.pinned (OpenSpec.ofChange inlineGoneWrong)

/-- 'recompilelaw20.ObjectMade': WHATEVER THE INPUT: true; the input reads as it did. -/
def objectMadeSpec : ChangeSpec := { name := "objectMade", fn := fun _ => fun
  | [d1, d2, d3] => { results := [.lit (.bool true)], args := [d1, d2, d3] }
  | _ => none }
def objectMadeRow : OpenClaim := { program := "ythjfahimfcadnaa", sum := "ed00e8c788412218fe9b4fb6670eedab4d013a5863a1a18d2f2b41d976d422b2", func := "recompile/recompilelaw20.ObjectMade", spec := "objectMade", unfollowed := true, recurses := true, apart := false }
def ObjectMadeSaid : Prop := objectMadeRow.holds Try.pinned (OpenSpec.ofChange objectMadeSpec)

/-- ITS FALSE NEIGHBOUR: 'it returns false'. Refute it at one input. -/
def objectMadeWrong : ChangeSpec := { name := "objectMade", fn := fun _ => fun
  | [d1, d2, d3] => { results := [.lit (.bool false)], args := [d1, d2, d3] }
  | _ => none }
def ObjectMadeWrongFalsely : Prop := objectMadeRow.holds Try.pinned (OpenSpec.ofChange objectMadeWrong)

/-- 'recompilelaw20.ObjectNotices': WHATEVER THE INPUT: true; the input reads as it did. -/
def objectNoticesSpec : ChangeSpec := { name := "objectNotices", fn := fun _ => fun
  | [d1, d2, d3] => { results := [.lit (.bool true)], args := [d1, d2, d3] }
  | _ => none }
def objectNoticesRow : OpenClaim := { program := "ythjfahimfcadnaa", sum := "ed00e8c788412218fe9b4fb6670eedab4d013a5863a1a18d2f2b41d976d422b2", func := "recompile/recompilelaw20.ObjectNotices", spec := "objectNotices", unfollowed := true, recurses := true, apart := false }
def ObjectNoticesSaid : Prop := objectNoticesRow.holds Try.pinned (OpenSpec.ofChange objectNoticesSpec)

/-- ITS FALSE NEIGHBOUR: 'it returns false'. Refute it at one input. -/
def objectNoticesWrong : ChangeSpec := { name := "objectNotices", fn := fun _ => fun
  | [d1, d2, d3] => { results := [.lit (.bool false)], args := [d1, d2, d3] }
  | _ => none }
def ObjectNoticesWrongFalsely : Prop := objectNoticesRow.holds Try.pinned (OpenSpec.ofChange objectNoticesWrong)

/-- 'recompilelaw15.EvaluateNumbers': WHATEVER THE INPUT: true; the input reads as it did. -/
def evaluateNumbersSpec : ChangeSpec := { name := "evaluateNumbers", fn := fun _ => fun
  | [d1, d2, d3] => { results := [.lit (.bool true)], args := [d1, d2, d3] }
  | _ => none }
def evaluateNumbersRow : OpenClaim := { program := "ythjfahimfcadnaa", sum := "ed00e8c788412218fe9b4fb6670eedab4d013a5863a1a18d2f2b41d976d422b2", func := "recompile/recompilelaw15.EvaluateNumbers", spec := "evaluateNumbers", unfollowed := true, recurses := true, apart := false }
def EvaluateNumbersSaid : Prop := evaluateNumbersRow.holds Try.pinned (OpenSpec.ofChange evaluateNumbersSpec)

/-- ITS FALSE NEIGHBOUR: 'it returns false'. Refute it at one input. -/
def evaluateNumbersWrong : ChangeSpec := { name := "evaluateNumbers", fn := fun _ => fun
  | [d1, d2, d3] => { results := [.lit (.bool false)], args := [d1, d2, d3] }
  | _ => none }
def EvaluateNumbersWrongFalsely : Prop := evaluateNumbersRow.holds Try.pinned (OpenSpec.ofChange evaluateNumbersWrong)

/-- 'recompilelaw15.EvaluateLimits': WHATEVER THE INPUT: true; the input reads as it did. -/
def evaluateLimitsSpec : ChangeSpec := { name := "evaluateLimits", fn := fun _ => fun
  | [d1, d2] => { results := [.lit (.bool true)], args := [d1, d2] }
  | _ => none }
def evaluateLimitsRow : OpenClaim := { program := "ythjfahimfcadnaa", sum := "ed00e8c788412218fe9b4fb6670eedab4d013a5863a1a18d2f2b41d976d422b2", func := "recompile/recompilelaw15.EvaluateLimits", spec := "evaluateLimits", unfollowed := true, recurses := true, apart := false }
def EvaluateLimitsSaid : Prop := evaluateLimitsRow.holds Try.pinned (OpenSpec.ofChange evaluateLimitsSpec)

/-- ITS FALSE NEIGHBOUR: 'it returns false'. Refute it at one input. -/
def evaluateLimitsWrong : ChangeSpec := { name := "evaluateLimits", fn := fun _ => fun
  | [d1, d2] => { results := [.lit (.bool false)], args := [d1, d2] }
  | _ => none }
def EvaluateLimitsWrongFalsely : Prop := evaluateLimitsRow.holds Try.pinned (OpenSpec.ofChange evaluateLimitsWrong)

/-- 'recompilelaw15.EvaluateMore': WHATEVER THE INPUT: true; the input reads as it did. -/
def evaluateMoreSpec : ChangeSpec := { name := "evaluateMore", fn := fun _ => fun
  | [d1, d2] => { results := [.lit (.bool true)], args := [d1, d2] }
  | _ => none }
def evaluateMoreRow : OpenClaim := { program := "ythjfahimfcadnaa", sum := "ed00e8c788412218fe9b4fb6670eedab4d013a5863a1a18d2f2b41d976d422b2", func := "recompile/recompilelaw15.EvaluateMore", spec := "evaluateMore", unfollowed := true, recurses := true, apart := false }
def EvaluateMoreSaid : Prop := evaluateMoreRow.holds Try.pinned (OpenSpec.ofChange evaluateMoreSpec)

/-- ITS FALSE NEIGHBOUR: 'it returns false'. Refute it at one input. -/
def evaluateMoreWrong : ChangeSpec := { name := "evaluateMore", fn := fun _ => fun
  | [d1, d2] => { results := [.lit (.bool false)], args := [d1, d2] }
  | _ => none }
def EvaluateMoreWrongFalsely : Prop := evaluateMoreRow.holds Try.pinned (OpenSpec.ofChange evaluateMoreWrong)

/-- 'recompilelaw15.EvaluateRaw': WHATEVER THE INPUT: true; the input reads as it did. -/
def evaluateRawSpec : ChangeSpec := { name := "evaluateRaw", fn := fun _ => fun
  | [d1, d2, d3] => { results := [.lit (.bool true)], args := [d1, d2, d3] }
  | _ => none }
def evaluateRawRow : OpenClaim := { program := "ythjfahimfcadnaa", sum := "ed00e8c788412218fe9b4fb6670eedab4d013a5863a1a18d2f2b41d976d422b2", func := "recompile/recompilelaw15.EvaluateRaw", spec := "evaluateRaw", unfollowed := true, recurses := true, apart := false }
def EvaluateRawSaid : Prop := evaluateRawRow.holds Try.pinned (OpenSpec.ofChange evaluateRawSpec)

/-- ITS FALSE NEIGHBOUR: 'it returns false'. Refute it at one input. -/
def evaluateRawWrong : ChangeSpec := { name := "evaluateRaw", fn := fun _ => fun
  | [d1, d2, d3] => { results := [.lit (.bool false)], args := [d1, d2, d3] }
  | _ => none }
def EvaluateRawWrongFalsely : Prop := evaluateRawRow.holds Try.pinned (OpenSpec.ofChange evaluateRawWrong)

/-- 'recompilelaw15.EvaluateMade': WHATEVER THE INPUT: true; the input reads as it did. -/
def evaluateMadeSpec : ChangeSpec := { name := "evaluateMade", fn := fun _ => fun
  | [d1, d2, d3] => { results := [.lit (.bool true)], args := [d1, d2, d3] }
  | _ => none }
def evaluateMadeRow : OpenClaim := { program := "ythjfahimfcadnaa", sum := "ed00e8c788412218fe9b4fb6670eedab4d013a5863a1a18d2f2b41d976d422b2", func := "recompile/recompilelaw15.EvaluateMade", spec := "evaluateMade", unfollowed := true, recurses := true, apart := false }
def EvaluateMadeSaid : Prop := evaluateMadeRow.holds Try.pinned (OpenSpec.ofChange evaluateMadeSpec)

/-- ITS FALSE NEIGHBOUR: 'it returns false'. Refute it at one input. -/
def evaluateMadeWrong : ChangeSpec := { name := "evaluateMade", fn := fun _ => fun
  | [d1, d2, d3] => { results := [.lit (.bool false)], args := [d1, d2, d3] }
  | _ => none }
def EvaluateMadeWrongFalsely : Prop := evaluateMadeRow.holds Try.pinned (OpenSpec.ofChange evaluateMadeWrong)

/- THE SECOND FORM. 'bulk': how many values and letters a reading holds, each counted each time it is reached (what is shared counts as often as it is met; a slice's spare places count too). A statement '..UptoSaid' is the law's where the arguments, and the package variables that the reading takes, are together of bulk at most 1048576: NARROWER than '..Said'. Prove '..Said' where nothing that the law and all that it calls make is longer than what came in: it says more and counts as full. Else prove '..UptoSaid'. A law counts once. -/
mutual
def uptoBulk {H : Type} : DataW H → Nat
  | .lit (.string bytes) => bytes.length + 1
  | .lit _ => 1
  | .nil => 1
  | .ptr d => uptoBulk d + 1
  | .slice elems spare => uptoBulkAll elems + uptoBulkAll spare + 1
  | .agg parts => uptoBulkAll parts + 1
  | .iface _ d => uptoBulk d + 1
  | .map entries => uptoBulkEntries entries + 1
  | .held _ => 1
def uptoBulkAll {H : Type} : List (DataW H) → Nat
  | [] => 0
  | d :: r => uptoBulk d + uptoBulkAll r
def uptoBulkEntries {H : Type} : List (Lit × DataW H) → Nat
  | [] => 0
  | x :: r => uptoBulkEntry x + uptoBulkEntries r
def uptoBulkEntry {H : Type} : Lit × DataW H → Nat
  | (.string bytes, d) => bytes.length + uptoBulk d + 1
  | (_, d) => uptoBulk d + 1
 end
def uptoSmall : (H : Type) → List (DataW H) → Bool := fun _ ds => decide (uptoBulkAll ds ≤ 1048576)
def OpenSpec.upto (s : _root_.Go.ChangeSpec) : _root_.Go.OpenSpec := { _root_.Go.OpenSpec.ofChange s with cond := some uptoSmall }

/-- 'recompilelaw17.InlineRaw', WHERE WHAT IT READS IS OF BULK AT MOST 1048576: true; the input reads as it did. -/
def inlineRawUptoRow : OpenClaim := { program := "ythjfahimfcadnaa", sum := "ed00e8c788412218fe9b4fb6670eedab4d013a5863a1a18d2f2b41d976d422b2", func := "recompile/recompilelaw17.InlineRaw", spec := "inlineRaw", unfollowed := true, recurses := true, apart := false, narrowed := true }
def InlineRawUptoSaid : Prop := inlineRawUptoRow.holds Try.pinned (OpenSpec.upto inlineRawSpec)

/-- 'recompilelaw17.InlineMade', WHERE WHAT IT READS IS OF BULK AT MOST 1048576: true; the input reads as it did. -/
def inlineMadeUptoRow : OpenClaim := { program := "ythjfahimfcadnaa", sum := "ed00e8c788412218fe9b4fb6670eedab4d013a5863a1a18d2f2b41d976d422b2", func := "recompile/recompilelaw17.InlineMade", spec := "inlineMade", unfollowed := true, recurses := true, apart := false, narrowed := true }
def InlineMadeUptoSaid : Prop := inlineMadeUptoRow.holds Try.pinned (OpenSpec.upto inlineMadeSpec)

/-- 'recompilelaw17.InlineLong', WHERE WHAT IT READS IS OF BULK AT MOST 1048576: true; the input reads as it did. -/
def inlineLongUptoRow : OpenClaim := { program := "ythjfahimfcadnaa", sum := "ed00e8c788412218fe9b4fb6670eedab4d013a5863a1a18d2f2b41d976d422b2", func := "recompile/recompilelaw17.InlineLong", spec := "inlineLong", unfollowed := true, recurses := true, apart := false, narrowed := true }
def InlineLongUptoSaid : Prop := inlineLongUptoRow.holds Try.pinned (OpenSpec.upto inlineLongSpec)

/-- 'recompilelaw17.InlineMeans', WHERE WHAT IT READS IS OF BULK AT MOST 1048576: true; the input reads as it did. -/
def inlineMeansUptoRow : OpenClaim := { program := "ythjfahimfcadnaa", sum := "ed00e8c788412218fe9b4fb6670eedab4d013a5863a1a18d2f2b41d976d422b2", func := "recompile/recompilelaw17.InlineMeans", spec := "inlineMeans", unfollowed := true, recurses := true, apart := false, narrowed := true }
def InlineMeansUptoSaid : Prop := inlineMeansUptoRow.holds Try.pinned (OpenSpec.upto inlineMeansSpec)

/-- 'recompilelaw17.InlineGone', WHERE WHAT IT READS IS OF BULK AT MOST 1048576: true; the input reads as it did. -/
def inlineGoneUptoRow : OpenClaim := { program := "ythjfahimfcadnaa", sum := "ed00e8c788412218fe9b4fb6670eedab4d013a5863a1a18d2f2b41d976d422b2", func := "recompile/recompilelaw17.InlineGone", spec := "inlineGone", unfollowed := true, recurses := true, apart := false, narrowed := true }
def InlineGoneUptoSaid : Prop := inlineGoneUptoRow.holds Try.pinned (OpenSpec.upto inlineGoneSpec)

/-- 'recompilelaw20.ObjectMade', WHERE WHAT IT READS IS OF BULK AT MOST 1048576: true; the input reads as it did. -/
def objectMadeUptoRow : OpenClaim := { program := "ythjfahimfcadnaa", sum := "ed00e8c788412218fe9b4fb6670eedab4d013a5863a1a18d2f2b41d976d422b2", func := "recompile/recompilelaw20.ObjectMade", spec := "objectMade", unfollowed := true, recurses := true, apart := false, narrowed := true }
def ObjectMadeUptoSaid : Prop := objectMadeUptoRow.holds Try.pinned (OpenSpec.upto objectMadeSpec)

/-- 'recompilelaw20.ObjectNotices', WHERE WHAT IT READS IS OF BULK AT MOST 1048576: true; the input reads as it did. -/
def objectNoticesUptoRow : OpenClaim := { program := "ythjfahimfcadnaa", sum := "ed00e8c788412218fe9b4fb6670eedab4d013a5863a1a18d2f2b41d976d422b2", func := "recompile/recompilelaw20.ObjectNotices", spec := "objectNotices", unfollowed := true, recurses := true, apart := false, narrowed := true }
def ObjectNoticesUptoSaid : Prop := objectNoticesUptoRow.holds Try.pinned (OpenSpec.upto objectNoticesSpec)

/-- 'recompilelaw15.EvaluateNumbers', WHERE WHAT IT READS IS OF BULK AT MOST 1048576: true; the input reads as it did. -/
def evaluateNumbersUptoRow : OpenClaim := { program := "ythjfahimfcadnaa", sum := "ed00e8c788412218fe9b4fb6670eedab4d013a5863a1a18d2f2b41d976d422b2", func := "recompile/recompilelaw15.EvaluateNumbers", spec := "evaluateNumbers", unfollowed := true, recurses := true, apart := false, narrowed := true }
def EvaluateNumbersUptoSaid : Prop := evaluateNumbersUptoRow.holds Try.pinned (OpenSpec.upto evaluateNumbersSpec)

/-- 'recompilelaw15.EvaluateLimits', WHERE WHAT IT READS IS OF BULK AT MOST 1048576: true; the input reads as it did. -/
def evaluateLimitsUptoRow : OpenClaim := { program := "ythjfahimfcadnaa", sum := "ed00e8c788412218fe9b4fb6670eedab4d013a5863a1a18d2f2b41d976d422b2", func := "recompile/recompilelaw15.EvaluateLimits", spec := "evaluateLimits", unfollowed := true, recurses := true, apart := false, narrowed := true }
def EvaluateLimitsUptoSaid : Prop := evaluateLimitsUptoRow.holds Try.pinned (OpenSpec.upto evaluateLimitsSpec)

/-- 'recompilelaw15.EvaluateMore', WHERE WHAT IT READS IS OF BULK AT MOST 1048576: true; the input reads as it did. -/
def evaluateMoreUptoRow : OpenClaim := { program := "ythjfahimfcadnaa", sum := "ed00e8c788412218fe9b4fb6670eedab4d013a5863a1a18d2f2b41d976d422b2", func := "recompile/recompilelaw15.EvaluateMore", spec := "evaluateMore", unfollowed := true, recurses := true, apart := false, narrowed := true }
def EvaluateMoreUptoSaid : Prop := evaluateMoreUptoRow.holds Try.pinned (OpenSpec.upto evaluateMoreSpec)

/-- 'recompilelaw15.EvaluateRaw', WHERE WHAT IT READS IS OF BULK AT MOST 1048576: true; the input reads as it did. -/
def evaluateRawUptoRow : OpenClaim := { program := "ythjfahimfcadnaa", sum := "ed00e8c788412218fe9b4fb6670eedab4d013a5863a1a18d2f2b41d976d422b2", func := "recompile/recompilelaw15.EvaluateRaw", spec := "evaluateRaw", unfollowed := true, recurses := true, apart := false, narrowed := true }
def EvaluateRawUptoSaid : Prop := evaluateRawUptoRow.holds Try.pinned (OpenSpec.upto evaluateRawSpec)

/-- 'recompilelaw15.EvaluateMade', WHERE WHAT IT READS IS OF BULK AT MOST 1048576: true; the input reads as it did. -/
def evaluateMadeUptoRow : OpenClaim := { program := "ythjfahimfcadnaa", sum := "ed00e8c788412218fe9b4fb6670eedab4d013a5863a1a18d2f2b41d976d422b2", func := "recompile/recompilelaw15.EvaluateMade", spec := "evaluateMade", unfollowed := true, recurses := true, apart := false, narrowed := true }
def EvaluateMadeUptoSaid : Prop := evaluateMadeUptoRow.holds Try.pinned (OpenSpec.upto evaluateMadeSpec)

end Rows
end Go.Proofs.Ythjfahimfcadnaa
