/-
  No cell of these rows narrows 'for every input' (looked for: loops, veiled, ifaces, maps, wideKeys, modest, calm, conditions, laid).
  DERIVED. THE GIVEN ROWS OF THIS SEAT. 4 by the template 'for every input the law returns true; each argument reads behind the call as it read before'; 0 by the template 'total and deterministic' (their statements: YtabeimmjclkobaaTotals.lean).
  GIVEN WITH THE SEED: the statements are not yours to turn. If you find one false, say at which input.
  Laid BY PROGRAM, IN A SANDBOX (cutbox-rows.mjs): the forced cells as the released guide's own fill.sh prints them over the translation 617ff7cbeb73e345… (all of the seat's roots in one cut). By AI agents, Wed Nov 11 2026. No macro, syntax, notation, axiom, sorry.
-/
import Derived.Test.YtabeimmjclkobaaChecked
import GoSem.Claim
import GoSem.ClaimJoined
import GoSem.ClaimMapViews
import Derived.JoinedTies
import Derived.KernelRfl
namespace Go.Proofs.Ytabeimmjclkobaa
/- THE CELL 'sum', in the pinned program and in every row, IS THE sha256 OF THE DUMP (.gsa) THAT YtabeimmjclkobaaProg.lean LOADS. Nothing in Lean hashes anything: it is a label: what it is worth is what the hold of that sum in a sandbox is worth. -/
noncomputable def Try.pinned : Pinned := { name := "ytabeimmjclkobaa", sum := "617ff7cbeb73e3452f5ebc7691977d6dc3f8c06fe21f16f70205da9f09338f14", checked := Try.checked }
namespace Rows
def none {H : Type} : Left H := { results := [], args := [] }

/-- 'recompilelaw20.ObjectNumbers': WHATEVER THE INPUT: true; the input reads as it did. -/
def objectNumbersSpec : ChangeSpec := { name := "objectNumbers", fn := fun _ => fun
  | [d1, d2, d3] => { results := [.lit (.bool true)], args := [d1, d2, d3] }
  | _ => none }
def objectNumbersRow : OpenClaim := { program := "ytabeimmjclkobaa", sum := "617ff7cbeb73e3452f5ebc7691977d6dc3f8c06fe21f16f70205da9f09338f14", func := "recompile/recompilelaw20.ObjectNumbers", spec := "objectNumbers", unfollowed := true, recurses := true, apart := false }
def ObjectNumbersSaid : Prop := objectNumbersRow.holds Try.pinned (OpenSpec.ofChange objectNumbersSpec)

/-- ITS FALSE NEIGHBOUR: 'it returns false'. Refute it at one input. -/
def objectNumbersWrong : ChangeSpec := { name := "objectNumbers", fn := fun _ => fun
  | [d1, d2, d3] => { results := [.lit (.bool false)], args := [d1, d2, d3] }
  | _ => none }
def ObjectNumbersWrongFalsely : Prop := objectNumbersRow.holds Try.pinned (OpenSpec.ofChange objectNumbersWrong)

/-- 'recompilelaw20.ObjectMade': WHATEVER THE INPUT: true; the input reads as it did. -/
def objectMadeSpec : ChangeSpec := { name := "objectMade", fn := fun _ => fun
  | [d1, d2, d3] => { results := [.lit (.bool true)], args := [d1, d2, d3] }
  | _ => none }
def objectMadeRow : OpenClaim := { program := "ytabeimmjclkobaa", sum := "617ff7cbeb73e3452f5ebc7691977d6dc3f8c06fe21f16f70205da9f09338f14", func := "recompile/recompilelaw20.ObjectMade", spec := "objectMade", unfollowed := true, recurses := true, apart := false }
def ObjectMadeSaid : Prop := objectMadeRow.holds Try.pinned (OpenSpec.ofChange objectMadeSpec)

/-- ITS FALSE NEIGHBOUR: 'it returns false'. Refute it at one input. -/
def objectMadeWrong : ChangeSpec := { name := "objectMade", fn := fun _ => fun
  | [d1, d2, d3] => { results := [.lit (.bool false)], args := [d1, d2, d3] }
  | _ => none }
def ObjectMadeWrongFalsely : Prop := objectMadeRow.holds Try.pinned (OpenSpec.ofChange objectMadeWrong)

/-- 'recompilelaw20.ObjectNotices': WHATEVER THE INPUT: true; the input reads as it did. -/
def objectNoticesSpec : ChangeSpec := { name := "objectNotices", fn := fun _ => fun
  | [d1, d2, d3] => { results := [.lit (.bool true)], args := [d1, d2, d3] }
  | _ => none }
def objectNoticesRow : OpenClaim := { program := "ytabeimmjclkobaa", sum := "617ff7cbeb73e3452f5ebc7691977d6dc3f8c06fe21f16f70205da9f09338f14", func := "recompile/recompilelaw20.ObjectNotices", spec := "objectNotices", unfollowed := true, recurses := true, apart := false }
def ObjectNoticesSaid : Prop := objectNoticesRow.holds Try.pinned (OpenSpec.ofChange objectNoticesSpec)

/-- ITS FALSE NEIGHBOUR: 'it returns false'. Refute it at one input. -/
def objectNoticesWrong : ChangeSpec := { name := "objectNotices", fn := fun _ => fun
  | [d1, d2, d3] => { results := [.lit (.bool false)], args := [d1, d2, d3] }
  | _ => none }
def ObjectNoticesWrongFalsely : Prop := objectNoticesRow.holds Try.pinned (OpenSpec.ofChange objectNoticesWrong)

/-- 'recompilelaw20.ObjectRaw': WHATEVER THE INPUT: true; the input reads as it did. -/
def objectRawSpec : ChangeSpec := { name := "objectRaw", fn := fun _ => fun
  | [d1, d2] => { results := [.lit (.bool true)], args := [d1, d2] }
  | _ => none }
def objectRawRow : OpenClaim := { program := "ytabeimmjclkobaa", sum := "617ff7cbeb73e3452f5ebc7691977d6dc3f8c06fe21f16f70205da9f09338f14", func := "recompile/recompilelaw20.ObjectRaw", spec := "objectRaw", unfollowed := true, recurses := true, apart := false }
def ObjectRawSaid : Prop := objectRawRow.holds Try.pinned (OpenSpec.ofChange objectRawSpec)

/-- ITS FALSE NEIGHBOUR: 'it returns false'. Refute it at one input. -/
def objectRawWrong : ChangeSpec := { name := "objectRaw", fn := fun _ => fun
  | [d1, d2] => { results := [.lit (.bool false)], args := [d1, d2] }
  | _ => none }
def ObjectRawWrongFalsely : Prop := objectRawRow.holds Try.pinned (OpenSpec.ofChange objectRawWrong)

/- THE SECOND FORM. 'bulk': how many values and letters a reading holds, each counted each time it is reached (what is shared counts as often as it is met; a slice's spare places count too). A statement '..UptoSaid' is the law's where the arguments, and the package variables that the reading takes, are together of bulk at most 1048576: NARROWER than '..Said'. Prove '..Said' where nothing that the law and all that it calls make is longer than what came in: it says more and counts as full. Else prove '..UptoSaid'. A law counts once. -/
mutual
def uptoBulk {H : Type} : DataW H → Nat
  | .lit (.string bytes) => bytes.length + 1
  | .lit _ => 1
  | .nil => 1
  | .ptr d => uptoBulk d + 1
  | .slice elems spare => uptoBulkAll elems + uptoBulkAll spare + 1
  | .agg parts => uptoBulkAll parts + 1
  | .iface _ d => uptoBulk d + 1
  | .map entries => uptoBulkEntries entries + 1
  | .held _ => 1
def uptoBulkAll {H : Type} : List (DataW H) → Nat
  | [] => 0
  | d :: r => uptoBulk d + uptoBulkAll r
def uptoBulkEntries {H : Type} : List (Lit × DataW H) → Nat
  | [] => 0
  | x :: r => uptoBulkEntry x + uptoBulkEntries r
def uptoBulkEntry {H : Type} : Lit × DataW H → Nat
  | (.string bytes, d) => bytes.length + uptoBulk d + 1
  | (_, d) => uptoBulk d + 1
 end
def uptoSmall : (H : Type) → List (DataW H) → Bool := fun _ ds => decide (uptoBulkAll ds ≤ 1048576)
def OpenSpec.upto (s : _root_.Go.ChangeSpec) : _root_.Go.OpenSpec := { _root_.Go.OpenSpec.ofChange s with cond := some uptoSmall }

/-- 'recompilelaw20.ObjectNumbers', WHERE WHAT IT READS IS OF BULK AT MOST 1048576: true; the input reads as it did. -/
def objectNumbersUptoRow : OpenClaim := { program := "ytabeimmjclkobaa", sum := "617ff7cbeb73e3452f5ebc7691977d6dc3f8c06fe21f16f70205da9f09338f14", func := "recompile/recompilelaw20.ObjectNumbers", spec := "objectNumbers", unfollowed := true, recurses := true, apart := false, narrowed := true }
def ObjectNumbersUptoSaid : Prop := objectNumbersUptoRow.holds Try.pinned (OpenSpec.upto objectNumbersSpec)

/-- 'recompilelaw20.ObjectMade', WHERE WHAT IT READS IS OF BULK AT MOST 1048576: true; the input reads as it did. -/
def objectMadeUptoRow : OpenClaim := { program := "ytabeimmjclkobaa", sum := "617ff7cbeb73e3452f5ebc7691977d6dc3f8c06fe21f16f70205da9f09338f14", func := "recompile/recompilelaw20.ObjectMade", spec := "objectMade", unfollowed := true, recurses := true, apart := false, narrowed := true }
def ObjectMadeUptoSaid : Prop := objectMadeUptoRow.holds Try.pinned (OpenSpec.upto objectMadeSpec)

/-- 'recompilelaw20.ObjectNotices', WHERE WHAT IT READS IS OF BULK AT MOST 1048576: true; the input reads as it did. -/
def objectNoticesUptoRow : OpenClaim := { program := "ytabeimmjclkobaa", sum := "617ff7cbeb73e3452f5ebc7691977d6dc3f8c06fe21f16f70205da9f09338f14", func := "recompile/recompilelaw20.ObjectNotices", spec := "objectNotices", unfollowed := true, recurses := true, apart := false, narrowed := true }
def ObjectNoticesUptoSaid : Prop := objectNoticesUptoRow.holds Try.pinned (OpenSpec.upto objectNoticesSpec)

/-- 'recompilelaw20.ObjectRaw', WHERE WHAT IT READS IS OF BULK AT MOST 1048576: true; the input reads as it did. -/
def objectRawUptoRow : OpenClaim := { program := "ytabeimmjclkobaa", sum := "617ff7cbeb73e3452f5ebc7691977d6dc3f8c06fe21f16f70205da9f09338f14", func := "recompile/recompilelaw20.ObjectRaw", spec := "objectRaw", unfollowed := true, recurses := true, apart := false, narrowed := true }
def ObjectRawUptoSaid : Prop := objectRawUptoRow.holds Try.pinned (OpenSpec.upto objectRawSpec)

end Rows
end Go.Proofs.Ytabeimmjclkobaa
