/-
  No cell of these rows narrows 'for every input' (looked for: loops, veiled, ifaces, maps, wideKeys, modest, calm, conditions, laid).
  DERIVED. THE GIVEN ROWS OF THIS SEAT. 12 by the template 'for every input the law returns true; each argument reads behind the call as it read before'; 0 by the template 'total and deterministic' (their statements: YtpjdboebambneaaTotals.lean).
  GIVEN WITH THE SEED: the statements are not yours to turn. If you find one false, say at which input.
  Laid BY PROGRAM, IN A SANDBOX (cutbox-rows.mjs): the forced cells as the released guide's own fill.sh prints them over the translation c5666857e46ea628… (all of the seat's roots in one cut). By AI agents, Wed Nov 11 2026. No macro, syntax, notation, axiom, sorry.
-/
import Derived.Test.YtpjdboebambneaaChecked
import GoSem.Claim
import GoSem.ClaimJoined
import GoSem.ClaimMapViews
import Derived.JoinedTies
import Derived.KernelRfl
namespace Go.Proofs.Ytpjdboebambneaa
/- THE CELL 'sum', in the pinned program and in every row, IS THE sha256 OF THE DUMP (.gsa) THAT YtpjdboebambneaaProg.lean LOADS. Nothing in Lean hashes anything: it is a label: what it is worth is what the hold of that sum in a sandbox is worth. -/
noncomputable def Try.pinned : Pinned := { name := "ytpjdboebambneaa", sum := "c5666857e46ea628db06af17b764ba2851c4e313a059f5fadff89a30bc3f2820", checked := Try.checked }
namespace Rows
def none {H : Type} : Left H := { results := [], args := [] }

/-- 'recompilelaw25.DigestShort': WHATEVER THE INPUT: true; the input reads as it did. -/
def digestShortSpec : ChangeSpec := { name := "digestShort", fn := fun _ => fun
  | [d1, d2, d3, d4] => { results := [.lit (.bool true)], args := [d1, d2, d3, d4] }
  | _ => none }
def digestShortRow : OpenClaim := { program := "ytpjdboebambneaa", sum := "c5666857e46ea628db06af17b764ba2851c4e313a059f5fadff89a30bc3f2820", func := "recompile/recompilelaw25.DigestShort", spec := "digestShort", apart := false }
def DigestShortSaid : Prop := digestShortRow.holds Try.pinned (OpenSpec.ofChange digestShortSpec)

/-- ITS FALSE NEIGHBOUR: 'it returns false'. Refute it at one input. -/
def digestShortWrong : ChangeSpec := { name := "digestShort", fn := fun _ => fun
  | [d1, d2, d3, d4] => { results := [.lit (.bool false)], args := [d1, d2, d3, d4] }
  | _ => none }
def DigestShortWrongFalsely : Prop := digestShortRow.holds Try.pinned (OpenSpec.ofChange digestShortWrong)

/-- 'recompilelaw25.DigestParts': WHATEVER THE INPUT: true; the input reads as it did. -/
def digestPartsSpec : ChangeSpec := { name := "digestParts", fn := fun _ => fun
  | [d1, d2, d3] => { results := [.lit (.bool true)], args := [d1, d2, d3] }
  | _ => none }
def digestPartsRow : OpenClaim := { program := "ytpjdboebambneaa", sum := "c5666857e46ea628db06af17b764ba2851c4e313a059f5fadff89a30bc3f2820", func := "recompile/recompilelaw25.DigestParts", spec := "digestParts", apart := false }
def DigestPartsSaid : Prop := digestPartsRow.holds Try.pinned (OpenSpec.ofChange digestPartsSpec)

/-- ITS FALSE NEIGHBOUR: 'it returns false'. Refute it at one input. -/
def digestPartsWrong : ChangeSpec := { name := "digestParts", fn := fun _ => fun
  | [d1, d2, d3] => { results := [.lit (.bool false)], args := [d1, d2, d3] }
  | _ => none }
def DigestPartsWrongFalsely : Prop := digestPartsRow.holds Try.pinned (OpenSpec.ofChange digestPartsWrong)

/-- 'recompilelaw25.DigestValues': WHATEVER THE INPUT: true; the input reads as it did. -/
def digestValuesSpec : ChangeSpec := { name := "digestValues", fn := fun _ => fun
  | [d1, d2, d3, d4] => { results := [.lit (.bool true)], args := [d1, d2, d3, d4] }
  | _ => none }
def digestValuesRow : OpenClaim := { program := "ytpjdboebambneaa", sum := "c5666857e46ea628db06af17b764ba2851c4e313a059f5fadff89a30bc3f2820", func := "recompile/recompilelaw25.DigestValues", spec := "digestValues", apart := false }
def DigestValuesSaid : Prop := digestValuesRow.holds Try.pinned (OpenSpec.ofChange digestValuesSpec)

/-- ITS FALSE NEIGHBOUR: 'it returns false'. Refute it at one input. -/
def digestValuesWrong : ChangeSpec := { name := "digestValues", fn := fun _ => fun
  | [d1, d2, d3, d4] => { results := [.lit (.bool false)], args := [d1, d2, d3, d4] }
  | _ => none }
def DigestValuesWrongFalsely : Prop := digestValuesRow.holds Try.pinned (OpenSpec.ofChange digestValuesWrong)

/-- 'recompilelaw25.DigestChains': WHATEVER THE INPUT: true; the input reads as it did. -/
def digestChainsSpec : ChangeSpec := { name := "digestChains", fn := fun _ => fun
  | [d1, d2] => { results := [.lit (.bool true)], args := [d1, d2] }
  | _ => none }
def digestChainsRow : OpenClaim := { program := "ytpjdboebambneaa", sum := "c5666857e46ea628db06af17b764ba2851c4e313a059f5fadff89a30bc3f2820", func := "recompile/recompilelaw25.DigestChains", spec := "digestChains", apart := false }
def DigestChainsSaid : Prop := digestChainsRow.holds Try.pinned (OpenSpec.ofChange digestChainsSpec)

/-- ITS FALSE NEIGHBOUR: 'it returns false'. Refute it at one input. -/
def digestChainsWrong : ChangeSpec := { name := "digestChains", fn := fun _ => fun
  | [d1, d2] => { results := [.lit (.bool false)], args := [d1, d2] }
  | _ => none }
def DigestChainsWrongFalsely : Prop := digestChainsRow.holds Try.pinned (OpenSpec.ofChange digestChainsWrong)

/-- 'recompilelaw36.DiskHalf': WHATEVER THE INPUT: true; the input reads as it did. -/
def diskHalfSpec : ChangeSpec := { name := "diskHalf", fn := fun _ => fun
  | [d1, d2, d3] => { results := [.lit (.bool true)], args := [d1, d2, d3] }
  | _ => none }
def diskHalfRow : OpenClaim := { program := "ytpjdboebambneaa", sum := "c5666857e46ea628db06af17b764ba2851c4e313a059f5fadff89a30bc3f2820", func := "recompile/recompilelaw36.DiskHalf", spec := "diskHalf", apart := false }
def DiskHalfSaid : Prop := diskHalfRow.holds Try.pinned (OpenSpec.ofChange diskHalfSpec)

/-- ITS FALSE NEIGHBOUR: 'it returns false'. Refute it at one input. -/
def diskHalfWrong : ChangeSpec := { name := "diskHalf", fn := fun _ => fun
  | [d1, d2, d3] => { results := [.lit (.bool false)], args := [d1, d2, d3] }
  | _ => none }
def DiskHalfWrongFalsely : Prop := diskHalfRow.holds Try.pinned (OpenSpec.ofChange diskHalfWrong)

/-- 'recompilelaw36.DiskReads': WHATEVER THE INPUT: true; the input reads as it did. -/
def diskReadsSpec : ChangeSpec := { name := "diskReads", fn := fun _ => fun
  | [d] => { results := [.lit (.bool true)], args := [d] }
  | _ => none }
def diskReadsRow : OpenClaim := { program := "ytpjdboebambneaa", sum := "c5666857e46ea628db06af17b764ba2851c4e313a059f5fadff89a30bc3f2820", func := "recompile/recompilelaw36.DiskReads", spec := "diskReads", apart := false }
def DiskReadsSaid : Prop := diskReadsRow.holds Try.pinned (OpenSpec.ofChange diskReadsSpec)

/-- ITS FALSE NEIGHBOUR: 'it returns false'. Refute it at one input. -/
def diskReadsWrong : ChangeSpec := { name := "diskReads", fn := fun _ => fun
  | [d] => { results := [.lit (.bool false)], args := [d] }
  | _ => none }
def DiskReadsWrongFalsely : Prop := diskReadsRow.holds Try.pinned (OpenSpec.ofChange diskReadsWrong)

/-- 'recompilelaw36.DiskApart': WHATEVER THE INPUT: true; the input reads as it did. -/
def diskApartSpec : ChangeSpec := { name := "diskApart", fn := fun _ => fun
  | [d1, d2, d3, d4] => { results := [.lit (.bool true)], args := [d1, d2, d3, d4] }
  | _ => none }
def diskApartRow : OpenClaim := { program := "ytpjdboebambneaa", sum := "c5666857e46ea628db06af17b764ba2851c4e313a059f5fadff89a30bc3f2820", func := "recompile/recompilelaw36.DiskApart", spec := "diskApart", apart := false }
def DiskApartSaid : Prop := diskApartRow.holds Try.pinned (OpenSpec.ofChange diskApartSpec)

/-- ITS FALSE NEIGHBOUR: 'it returns false'. Refute it at one input. -/
def diskApartWrong : ChangeSpec := { name := "diskApart", fn := fun _ => fun
  | [d1, d2, d3, d4] => { results := [.lit (.bool false)], args := [d1, d2, d3, d4] }
  | _ => none }
def DiskApartWrongFalsely : Prop := diskApartRow.holds Try.pinned (OpenSpec.ofChange diskApartWrong)

/-- 'recompilelaw02.LexerTokens': WHATEVER THE INPUT: true; the input reads as it did. -/
def lexerTokensSpec : ChangeSpec := { name := "lexerTokens", fn := fun _ => fun
  | [d1, d2] => { results := [.lit (.bool true)], args := [d1, d2] }
  | _ => none }
def lexerTokensRow : OpenClaim := { program := "ytpjdboebambneaa", sum := "c5666857e46ea628db06af17b764ba2851c4e313a059f5fadff89a30bc3f2820", func := "recompile/recompilelaw02.LexerTokens", spec := "lexerTokens", inPlace := ["internal/bytealg.IndexByteString"], recurses := true, apart := false }
def LexerTokensSaid : Prop := lexerTokensRow.holds Try.pinned (OpenSpec.ofChange lexerTokensSpec)

/-- ITS FALSE NEIGHBOUR: 'it returns false'. Refute it at one input. -/
def lexerTokensWrong : ChangeSpec := { name := "lexerTokens", fn := fun _ => fun
  | [d1, d2] => { results := [.lit (.bool false)], args := [d1, d2] }
  | _ => none }
def LexerTokensWrongFalsely : Prop := lexerTokensRow.holds Try.pinned (OpenSpec.ofChange lexerTokensWrong)

/-- 'recompilelaw02.LexerLong': WHATEVER THE INPUT: true; the input reads as it did. -/
def lexerLongSpec : ChangeSpec := { name := "lexerLong", fn := fun _ => fun
  | [d] => { results := [.lit (.bool true)], args := [d] }
  | _ => none }
def lexerLongRow : OpenClaim := { program := "ytpjdboebambneaa", sum := "c5666857e46ea628db06af17b764ba2851c4e313a059f5fadff89a30bc3f2820", func := "recompile/recompilelaw02.LexerLong", spec := "lexerLong", inPlace := ["internal/bytealg.IndexByteString"], apart := false }
def LexerLongSaid : Prop := lexerLongRow.holds Try.pinned (OpenSpec.ofChange lexerLongSpec)

/-- ITS FALSE NEIGHBOUR: 'it returns false'. Refute it at one input. -/
def lexerLongWrong : ChangeSpec := { name := "lexerLong", fn := fun _ => fun
  | [d] => { results := [.lit (.bool false)], args := [d] }
  | _ => none }
def LexerLongWrongFalsely : Prop := lexerLongRow.holds Try.pinned (OpenSpec.ofChange lexerLongWrong)

/-- 'recompilelaw02.LexerCovers': WHATEVER THE INPUT: true; the input reads as it did. -/
def lexerCoversSpec : ChangeSpec := { name := "lexerCovers", fn := fun _ => fun
  | [d1, d2] => { results := [.lit (.bool true)], args := [d1, d2] }
  | _ => none }
def lexerCoversRow : OpenClaim := { program := "ytpjdboebambneaa", sum := "c5666857e46ea628db06af17b764ba2851c4e313a059f5fadff89a30bc3f2820", func := "recompile/recompilelaw02.LexerCovers", spec := "lexerCovers", inPlace := ["internal/bytealg.IndexByteString"], recurses := true, apart := false }
def LexerCoversSaid : Prop := lexerCoversRow.holds Try.pinned (OpenSpec.ofChange lexerCoversSpec)

/-- ITS FALSE NEIGHBOUR: 'it returns false'. Refute it at one input. -/
def lexerCoversWrong : ChangeSpec := { name := "lexerCovers", fn := fun _ => fun
  | [d1, d2] => { results := [.lit (.bool false)], args := [d1, d2] }
  | _ => none }
def LexerCoversWrongFalsely : Prop := lexerCoversRow.holds Try.pinned (OpenSpec.ofChange lexerCoversWrong)

/-- 'recompilelaw36.DiskActs': WHATEVER THE INPUT: true; the input reads as it did. -/
def diskActsSpec : ChangeSpec := { name := "diskActs", fn := fun _ => fun
  | [d1, d2, d3, d4, d5, d6, d7, d8] => { results := [.lit (.bool true)], args := [d1, d2, d3, d4, d5, d6, d7, d8] }
  | _ => none }
def diskActsRow : OpenClaim := { program := "ytpjdboebambneaa", sum := "c5666857e46ea628db06af17b764ba2851c4e313a059f5fadff89a30bc3f2820", func := "recompile/recompilelaw36.DiskActs", spec := "diskActs", apart := false }
def DiskActsSaid : Prop := diskActsRow.holds Try.pinned (OpenSpec.ofChange diskActsSpec)

/-- ITS FALSE NEIGHBOUR: 'it returns false'. Refute it at one input. -/
def diskActsWrong : ChangeSpec := { name := "diskActs", fn := fun _ => fun
  | [d1, d2, d3, d4, d5, d6, d7, d8] => { results := [.lit (.bool false)], args := [d1, d2, d3, d4, d5, d6, d7, d8] }
  | _ => none }
def DiskActsWrongFalsely : Prop := diskActsRow.holds Try.pinned (OpenSpec.ofChange diskActsWrong)

/-- 'recompilelaw36.DiskKeeps': WHATEVER THE INPUT: true; the input reads as it did. -/
def diskKeepsSpec : ChangeSpec := { name := "diskKeeps", fn := fun _ => fun
  | [d1, d2, d3] => { results := [.lit (.bool true)], args := [d1, d2, d3] }
  | _ => none }
def diskKeepsRow : OpenClaim := { program := "ytpjdboebambneaa", sum := "c5666857e46ea628db06af17b764ba2851c4e313a059f5fadff89a30bc3f2820", func := "recompile/recompilelaw36.DiskKeeps", spec := "diskKeeps", apart := false }
def DiskKeepsSaid : Prop := diskKeepsRow.holds Try.pinned (OpenSpec.ofChange diskKeepsSpec)

/-- ITS FALSE NEIGHBOUR: 'it returns false'. Refute it at one input. -/
def diskKeepsWrong : ChangeSpec := { name := "diskKeeps", fn := fun _ => fun
  | [d1, d2, d3] => { results := [.lit (.bool false)], args := [d1, d2, d3] }
  | _ => none }
def DiskKeepsWrongFalsely : Prop := diskKeepsRow.holds Try.pinned (OpenSpec.ofChange diskKeepsWrong)

/- THE SECOND FORM. 'bulk': how many values and letters a reading holds, each counted each time it is reached (what is shared counts as often as it is met; a slice's spare places count too). A statement '..UptoSaid' is the law's where the arguments, and the package variables that the reading takes, are together of bulk at most 1048576: NARROWER than '..Said'. Prove '..Said' where nothing that the law and all that it calls make is longer than what came in: it says more and counts as full. Else prove '..UptoSaid'. A law counts once. -/
mutual
def uptoBulk {H : Type} : DataW H → Nat
  | .lit (.string bytes) => bytes.length + 1
  | .lit _ => 1
  | .nil => 1
  | .ptr d => uptoBulk d + 1
  | .slice elems spare => uptoBulkAll elems + uptoBulkAll spare + 1
  | .agg parts => uptoBulkAll parts + 1
  | .iface _ d => uptoBulk d + 1
  | .map entries => uptoBulkEntries entries + 1
  | .held _ => 1
def uptoBulkAll {H : Type} : List (DataW H) → Nat
  | [] => 0
  | d :: r => uptoBulk d + uptoBulkAll r
def uptoBulkEntries {H : Type} : List (Lit × DataW H) → Nat
  | [] => 0
  | x :: r => uptoBulkEntry x + uptoBulkEntries r
def uptoBulkEntry {H : Type} : Lit × DataW H → Nat
  | (.string bytes, d) => bytes.length + uptoBulk d + 1
  | (_, d) => uptoBulk d + 1
 end
def uptoSmall : (H : Type) → List (DataW H) → Bool := fun _ ds => decide (uptoBulkAll ds ≤ 1048576)
def OpenSpec.upto (s : _root_.Go.ChangeSpec) : _root_.Go.OpenSpec := { _root_.Go.OpenSpec.ofChange s with cond := some uptoSmall }

/-- 'recompilelaw25.DigestShort', WHERE WHAT IT READS IS OF BULK AT MOST 1048576: true; the input reads as it did. -/
def digestShortUptoRow : OpenClaim := { program := "ytpjdboebambneaa", sum := "c5666857e46ea628db06af17b764ba2851c4e313a059f5fadff89a30bc3f2820", func := "recompile/recompilelaw25.DigestShort", spec := "digestShort", apart := false, narrowed := true }
def DigestShortUptoSaid : Prop := digestShortUptoRow.holds Try.pinned (OpenSpec.upto digestShortSpec)

/-- 'recompilelaw25.DigestParts', WHERE WHAT IT READS IS OF BULK AT MOST 1048576: true; the input reads as it did. -/
def digestPartsUptoRow : OpenClaim := { program := "ytpjdboebambneaa", sum := "c5666857e46ea628db06af17b764ba2851c4e313a059f5fadff89a30bc3f2820", func := "recompile/recompilelaw25.DigestParts", spec := "digestParts", apart := false, narrowed := true }
def DigestPartsUptoSaid : Prop := digestPartsUptoRow.holds Try.pinned (OpenSpec.upto digestPartsSpec)

/-- 'recompilelaw25.DigestValues', WHERE WHAT IT READS IS OF BULK AT MOST 1048576: true; the input reads as it did. -/
def digestValuesUptoRow : OpenClaim := { program := "ytpjdboebambneaa", sum := "c5666857e46ea628db06af17b764ba2851c4e313a059f5fadff89a30bc3f2820", func := "recompile/recompilelaw25.DigestValues", spec := "digestValues", apart := false, narrowed := true }
def DigestValuesUptoSaid : Prop := digestValuesUptoRow.holds Try.pinned (OpenSpec.upto digestValuesSpec)

/-- 'recompilelaw25.DigestChains', WHERE WHAT IT READS IS OF BULK AT MOST 1048576: true; the input reads as it did. -/
def digestChainsUptoRow : OpenClaim := { program := "ytpjdboebambneaa", sum := "c5666857e46ea628db06af17b764ba2851c4e313a059f5fadff89a30bc3f2820", func := "recompile/recompilelaw25.DigestChains", spec := "digestChains", apart := false, narrowed := true }
def DigestChainsUptoSaid : Prop := digestChainsUptoRow.holds Try.pinned (OpenSpec.upto digestChainsSpec)

/-- 'recompilelaw36.DiskHalf', WHERE WHAT IT READS IS OF BULK AT MOST 1048576: true; the input reads as it did. -/
def diskHalfUptoRow : OpenClaim := { program := "ytpjdboebambneaa", sum := "c5666857e46ea628db06af17b764ba2851c4e313a059f5fadff89a30bc3f2820", func := "recompile/recompilelaw36.DiskHalf", spec := "diskHalf", apart := false, narrowed := true }
def DiskHalfUptoSaid : Prop := diskHalfUptoRow.holds Try.pinned (OpenSpec.upto diskHalfSpec)

/-- 'recompilelaw36.DiskReads', WHERE WHAT IT READS IS OF BULK AT MOST 1048576: true; the input reads as it did. -/
def diskReadsUptoRow : OpenClaim := { program := "ytpjdboebambneaa", sum := "c5666857e46ea628db06af17b764ba2851c4e313a059f5fadff89a30bc3f2820", func := "recompile/recompilelaw36.DiskReads", spec := "diskReads", apart := false, narrowed := true }
def DiskReadsUptoSaid : Prop := diskReadsUptoRow.holds Try.pinned (OpenSpec.upto diskReadsSpec)

/-- 'recompilelaw36.DiskApart', WHERE WHAT IT READS IS OF BULK AT MOST 1048576: true; the input reads as it did. -/
def diskApartUptoRow : OpenClaim := { program := "ytpjdboebambneaa", sum := "c5666857e46ea628db06af17b764ba2851c4e313a059f5fadff89a30bc3f2820", func := "recompile/recompilelaw36.DiskApart", spec := "diskApart", apart := false, narrowed := true }
def DiskApartUptoSaid : Prop := diskApartUptoRow.holds Try.pinned (OpenSpec.upto diskApartSpec)

/-- 'recompilelaw02.LexerTokens', WHERE WHAT IT READS IS OF BULK AT MOST 1048576: true; the input reads as it did. -/
def lexerTokensUptoRow : OpenClaim := { program := "ytpjdboebambneaa", sum := "c5666857e46ea628db06af17b764ba2851c4e313a059f5fadff89a30bc3f2820", func := "recompile/recompilelaw02.LexerTokens", spec := "lexerTokens", inPlace := ["internal/bytealg.IndexByteString"], recurses := true, apart := false, narrowed := true }
def LexerTokensUptoSaid : Prop := lexerTokensUptoRow.holds Try.pinned (OpenSpec.upto lexerTokensSpec)

/-- 'recompilelaw02.LexerLong', WHERE WHAT IT READS IS OF BULK AT MOST 1048576: true; the input reads as it did. -/
def lexerLongUptoRow : OpenClaim := { program := "ytpjdboebambneaa", sum := "c5666857e46ea628db06af17b764ba2851c4e313a059f5fadff89a30bc3f2820", func := "recompile/recompilelaw02.LexerLong", spec := "lexerLong", inPlace := ["internal/bytealg.IndexByteString"], apart := false, narrowed := true }
def LexerLongUptoSaid : Prop := lexerLongUptoRow.holds Try.pinned (OpenSpec.upto lexerLongSpec)

/-- 'recompilelaw02.LexerCovers', WHERE WHAT IT READS IS OF BULK AT MOST 1048576: true; the input reads as it did. -/
def lexerCoversUptoRow : OpenClaim := { program := "ytpjdboebambneaa", sum := "c5666857e46ea628db06af17b764ba2851c4e313a059f5fadff89a30bc3f2820", func := "recompile/recompilelaw02.LexerCovers", spec := "lexerCovers", inPlace := ["internal/bytealg.IndexByteString"], recurses := true, apart := false, narrowed := true }
def LexerCoversUptoSaid : Prop := lexerCoversUptoRow.holds Try.pinned (OpenSpec.upto lexerCoversSpec)

/-- 'recompilelaw36.DiskActs', WHERE WHAT IT READS IS OF BULK AT MOST 1048576: true; the input reads as it did. -/
def diskActsUptoRow : OpenClaim := { program := "ytpjdboebambneaa", sum := "c5666857e46ea628db06af17b764ba2851c4e313a059f5fadff89a30bc3f2820", func := "recompile/recompilelaw36.DiskActs", spec := "diskActs", apart := false, narrowed := true }
def DiskActsUptoSaid : Prop := diskActsUptoRow.holds Try.pinned (OpenSpec.upto diskActsSpec)

/-- 'recompilelaw36.DiskKeeps', WHERE WHAT IT READS IS OF BULK AT MOST 1048576: true; the input reads as it did. -/
def diskKeepsUptoRow : OpenClaim := { program := "ytpjdboebambneaa", sum := "c5666857e46ea628db06af17b764ba2851c4e313a059f5fadff89a30bc3f2820", func := "recompile/recompilelaw36.DiskKeeps", spec := "diskKeeps", apart := false, narrowed := true }
def DiskKeepsUptoSaid : Prop := diskKeepsUptoRow.holds Try.pinned (OpenSpec.upto diskKeepsSpec)

end Rows
end Go.Proofs.Ytpjdboebambneaa
