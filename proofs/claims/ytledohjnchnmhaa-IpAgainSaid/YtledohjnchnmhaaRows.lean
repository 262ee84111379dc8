/-
  No cell of these rows narrows 'for every input' (looked for: loops, veiled, ifaces, maps, wideKeys, modest, calm, conditions, laid).
  DERIVED. THE GIVEN ROWS OF THIS SEAT. 16 by the template 'for every input the law returns true; each argument reads behind the call as it read before'; 0 by the template 'total and deterministic' (their statements: YtledohjnchnmhaaTotals.lean).
  GIVEN WITH THE SEED: the statements are not yours to turn. If you find one false, say at which input.
  Laid BY PROGRAM, IN A SANDBOX (cutbox-rows.mjs): the forced cells as the released guide's own fill.sh prints them over the translation 91d996744e981d81… (all of the seat's roots in one cut). By AI agents, Wed Nov 11 2026. No macro, syntax, notation, axiom, sorry.
-/
import Derived.Test.YtledohjnchnmhaaChecked
import GoSem.Claim
import GoSem.ClaimJoined
import GoSem.ClaimMapViews
import Derived.JoinedTies
import Derived.KernelRfl
namespace Go.Proofs.Ytledohjnchnmhaa
/- THE CELL 'sum', in the pinned program and in every row, IS THE sha256 OF THE DUMP (.gsa) THAT YtledohjnchnmhaaProg.lean LOADS. Nothing in Lean hashes anything: it is a label: what it is worth is what the hold of that sum in a sandbox is worth. -/
noncomputable def Try.pinned : Pinned := { name := "ytledohjnchnmhaa", sum := "91d996744e981d81bcc26a525123e4da01a0504fd74a03b154472d4fe9b4d9e2", checked := Try.checked }
namespace Rows
def none {H : Type} : Left H := { results := [], args := [] }

/-- 'aditlaw13.IpBuilds': WHATEVER THE INPUT: true; the input reads as it did. -/
def ipBuildsSpec : ChangeSpec := { name := "ipBuilds", fn := fun _ => fun
  | [d] => { results := [.lit (.bool true)], args := [d] }
  | _ => none }
def ipBuildsRow : OpenClaim := { program := "ytledohjnchnmhaa", sum := "91d996744e981d81bcc26a525123e4da01a0504fd74a03b154472d4fe9b4d9e2", func := "adit/aditlaw13.IpBuilds", spec := "ipBuilds", unfollowed := true, recurses := true, plainKeys := false, apart := false }
def IpBuildsSaid : Prop := ipBuildsRow.holds Try.pinned (OpenSpec.ofChange ipBuildsSpec)

/-- ITS FALSE NEIGHBOUR: 'it returns false'. Refute it at one input. -/
def ipBuildsWrong : ChangeSpec := { name := "ipBuilds", fn := fun _ => fun
  | [d] => { results := [.lit (.bool false)], args := [d] }
  | _ => none }
def IpBuildsWrongFalsely : Prop := ipBuildsRow.holds Try.pinned (OpenSpec.ofChange ipBuildsWrong)

/-- 'aditlaw13.IpReads': WHATEVER THE INPUT: true; the input reads as it did. -/
def ipReadsSpec : ChangeSpec := { name := "ipReads", fn := fun _ => fun
  | [d] => { results := [.lit (.bool true)], args := [d] }
  | _ => none }
def ipReadsRow : OpenClaim := { program := "ytledohjnchnmhaa", sum := "91d996744e981d81bcc26a525123e4da01a0504fd74a03b154472d4fe9b4d9e2", func := "adit/aditlaw13.IpReads", spec := "ipReads", unfollowed := true, recurses := true, plainKeys := false, apart := false }
def IpReadsSaid : Prop := ipReadsRow.holds Try.pinned (OpenSpec.ofChange ipReadsSpec)

/-- ITS FALSE NEIGHBOUR: 'it returns false'. Refute it at one input. -/
def ipReadsWrong : ChangeSpec := { name := "ipReads", fn := fun _ => fun
  | [d] => { results := [.lit (.bool false)], args := [d] }
  | _ => none }
def IpReadsWrongFalsely : Prop := ipReadsRow.holds Try.pinned (OpenSpec.ofChange ipReadsWrong)

/-- 'aditlaw13.IpBack': WHATEVER THE INPUT: true; the input reads as it did. -/
def ipBackSpec : ChangeSpec := { name := "ipBack", fn := fun _ => fun
  | [d1, d2] => { results := [.lit (.bool true)], args := [d1, d2] }
  | _ => none }
def ipBackRow : OpenClaim := { program := "ytledohjnchnmhaa", sum := "91d996744e981d81bcc26a525123e4da01a0504fd74a03b154472d4fe9b4d9e2", func := "adit/aditlaw13.IpBack", spec := "ipBack", unfollowed := true, recurses := true, plainKeys := false, apart := false }
def IpBackSaid : Prop := ipBackRow.holds Try.pinned (OpenSpec.ofChange ipBackSpec)

/-- ITS FALSE NEIGHBOUR: 'it returns false'. Refute it at one input. -/
def ipBackWrong : ChangeSpec := { name := "ipBack", fn := fun _ => fun
  | [d1, d2] => { results := [.lit (.bool false)], args := [d1, d2] }
  | _ => none }
def IpBackWrongFalsely : Prop := ipBackRow.holds Try.pinned (OpenSpec.ofChange ipBackWrong)

/-- 'aditlaw13.IpAgain': WHATEVER THE INPUT: true; the input reads as it did. -/
def ipAgainSpec : ChangeSpec := { name := "ipAgain", fn := fun _ => fun
  | [d] => { results := [.lit (.bool true)], args := [d] }
  | _ => none }
def ipAgainRow : OpenClaim := { program := "ytledohjnchnmhaa", sum := "91d996744e981d81bcc26a525123e4da01a0504fd74a03b154472d4fe9b4d9e2", func := "adit/aditlaw13.IpAgain", spec := "ipAgain", unfollowed := true, recurses := true, plainKeys := false, apart := false }
def IpAgainSaid : Prop := ipAgainRow.holds Try.pinned (OpenSpec.ofChange ipAgainSpec)

/-- ITS FALSE NEIGHBOUR: 'it returns false'. Refute it at one input. -/
def ipAgainWrong : ChangeSpec := { name := "ipAgain", fn := fun _ => fun
  | [d] => { results := [.lit (.bool false)], args := [d] }
  | _ => none }
def IpAgainWrongFalsely : Prop := ipAgainRow.holds Try.pinned (OpenSpec.ofChange ipAgainWrong)

/-- 'aditlaw13.IpTurned': WHATEVER THE INPUT: true; the input reads as it did. -/
def ipTurnedSpec : ChangeSpec := { name := "ipTurned", fn := fun _ => fun
  | [d1, d2, d3] => { results := [.lit (.bool true)], args := [d1, d2, d3] }
  | _ => none }
def ipTurnedRow : OpenClaim := { program := "ytledohjnchnmhaa", sum := "91d996744e981d81bcc26a525123e4da01a0504fd74a03b154472d4fe9b4d9e2", func := "adit/aditlaw13.IpTurned", spec := "ipTurned", unfollowed := true, recurses := true, plainKeys := false, apart := false }
def IpTurnedSaid : Prop := ipTurnedRow.holds Try.pinned (OpenSpec.ofChange ipTurnedSpec)

/-- ITS FALSE NEIGHBOUR: 'it returns false'. Refute it at one input. -/
def ipTurnedWrong : ChangeSpec := { name := "ipTurned", fn := fun _ => fun
  | [d1, d2, d3] => { results := [.lit (.bool false)], args := [d1, d2, d3] }
  | _ => none }
def IpTurnedWrongFalsely : Prop := ipTurnedRow.holds Try.pinned (OpenSpec.ofChange ipTurnedWrong)

/-- 'aditlaw13.IpShort': WHATEVER THE INPUT: true; the input reads as it did. -/
def ipShortSpec : ChangeSpec := { name := "ipShort", fn := fun _ => fun
  | [d1, d2] => { results := [.lit (.bool true)], args := [d1, d2] }
  | _ => none }
def ipShortRow : OpenClaim := { program := "ytledohjnchnmhaa", sum := "91d996744e981d81bcc26a525123e4da01a0504fd74a03b154472d4fe9b4d9e2", func := "adit/aditlaw13.IpShort", spec := "ipShort", unfollowed := true, recurses := true, plainKeys := false, apart := false }
def IpShortSaid : Prop := ipShortRow.holds Try.pinned (OpenSpec.ofChange ipShortSpec)

/-- ITS FALSE NEIGHBOUR: 'it returns false'. Refute it at one input. -/
def ipShortWrong : ChangeSpec := { name := "ipShort", fn := fun _ => fun
  | [d1, d2] => { results := [.lit (.bool false)], args := [d1, d2] }
  | _ => none }
def IpShortWrongFalsely : Prop := ipShortRow.holds Try.pinned (OpenSpec.ofChange ipShortWrong)

/-- 'aditlaw13.IpApart': WHATEVER THE INPUT: true; the input reads as it did. -/
def ipApartSpec : ChangeSpec := { name := "ipApart", fn := fun _ => fun
  | [d1, d2] => { results := [.lit (.bool true)], args := [d1, d2] }
  | _ => none }
def ipApartRow : OpenClaim := { program := "ytledohjnchnmhaa", sum := "91d996744e981d81bcc26a525123e4da01a0504fd74a03b154472d4fe9b4d9e2", func := "adit/aditlaw13.IpApart", spec := "ipApart", unfollowed := true, recurses := true, plainKeys := false, apart := false }
def IpApartSaid : Prop := ipApartRow.holds Try.pinned (OpenSpec.ofChange ipApartSpec)

/-- ITS FALSE NEIGHBOUR: 'it returns false'. Refute it at one input. -/
def ipApartWrong : ChangeSpec := { name := "ipApart", fn := fun _ => fun
  | [d1, d2] => { results := [.lit (.bool false)], args := [d1, d2] }
  | _ => none }
def IpApartWrongFalsely : Prop := ipApartRow.holds Try.pinned (OpenSpec.ofChange ipApartWrong)

/-- 'aditlaw13.IpSame': WHATEVER THE INPUT: true; the input reads as it did. -/
def ipSameSpec : ChangeSpec := { name := "ipSame", fn := fun _ => fun
  | [d1, d2] => { results := [.lit (.bool true)], args := [d1, d2] }
  | _ => none }
def ipSameRow : OpenClaim := { program := "ytledohjnchnmhaa", sum := "91d996744e981d81bcc26a525123e4da01a0504fd74a03b154472d4fe9b4d9e2", func := "adit/aditlaw13.IpSame", spec := "ipSame", unfollowed := true, recurses := true, plainKeys := false, apart := false }
def IpSameSaid : Prop := ipSameRow.holds Try.pinned (OpenSpec.ofChange ipSameSpec)

/-- ITS FALSE NEIGHBOUR: 'it returns false'. Refute it at one input. -/
def ipSameWrong : ChangeSpec := { name := "ipSame", fn := fun _ => fun
  | [d1, d2] => { results := [.lit (.bool false)], args := [d1, d2] }
  | _ => none }
def IpSameWrongFalsely : Prop := ipSameRow.holds Try.pinned (OpenSpec.ofChange ipSameWrong)

/-- 'aditlaw15.IcmpBytes': WHATEVER THE INPUT: true; the input reads as it did. -/
def icmpBytesSpec : ChangeSpec := { name := "icmpBytes", fn := fun _ => fun
  | [d1, d2, d3] => { results := [.lit (.bool true)], args := [d1, d2, d3] }
  | _ => none }
def icmpBytesRow : OpenClaim := { program := "ytledohjnchnmhaa", sum := "91d996744e981d81bcc26a525123e4da01a0504fd74a03b154472d4fe9b4d9e2", func := "adit/aditlaw15.IcmpBytes", spec := "icmpBytes", inPlace := ["internal/abi.NoEscape", "internal/bytealg.MakeNoZero"], unfollowed := true, recurses := true, plainKeys := false, apart := false }
def IcmpBytesSaid : Prop := icmpBytesRow.holds Try.pinned (OpenSpec.ofChange icmpBytesSpec)

/-- ITS FALSE NEIGHBOUR: 'it returns false'. Refute it at one input. -/
def icmpBytesWrong : ChangeSpec := { name := "icmpBytes", fn := fun _ => fun
  | [d1, d2, d3] => { results := [.lit (.bool false)], args := [d1, d2, d3] }
  | _ => none }
def IcmpBytesWrongFalsely : Prop := icmpBytesRow.holds Try.pinned (OpenSpec.ofChange icmpBytesWrong)

/-- 'aditlaw15.IcmpEchoes': WHATEVER THE INPUT: true; the input reads as it did. -/
def icmpEchoesSpec : ChangeSpec := { name := "icmpEchoes", fn := fun _ => fun
  | [d] => { results := [.lit (.bool true)], args := [d] }
  | _ => none }
def icmpEchoesRow : OpenClaim := { program := "ytledohjnchnmhaa", sum := "91d996744e981d81bcc26a525123e4da01a0504fd74a03b154472d4fe9b4d9e2", func := "adit/aditlaw15.IcmpEchoes", spec := "icmpEchoes", inPlace := ["internal/abi.NoEscape", "internal/bytealg.MakeNoZero"], unfollowed := true, recurses := true, plainKeys := false, apart := false }
def IcmpEchoesSaid : Prop := icmpEchoesRow.holds Try.pinned (OpenSpec.ofChange icmpEchoesSpec)

/-- ITS FALSE NEIGHBOUR: 'it returns false'. Refute it at one input. -/
def icmpEchoesWrong : ChangeSpec := { name := "icmpEchoes", fn := fun _ => fun
  | [d] => { results := [.lit (.bool false)], args := [d] }
  | _ => none }
def IcmpEchoesWrongFalsely : Prop := icmpEchoesRow.holds Try.pinned (OpenSpec.ofChange icmpEchoesWrong)

/-- 'aditlaw15.IcmpProblems': WHATEVER THE INPUT: true; the input reads as it did. -/
def icmpProblemsSpec : ChangeSpec := { name := "icmpProblems", fn := fun _ => fun
  | [d1, d2, d3] => { results := [.lit (.bool true)], args := [d1, d2, d3] }
  | _ => none }
def icmpProblemsRow : OpenClaim := { program := "ytledohjnchnmhaa", sum := "91d996744e981d81bcc26a525123e4da01a0504fd74a03b154472d4fe9b4d9e2", func := "adit/aditlaw15.IcmpProblems", spec := "icmpProblems", inPlace := ["internal/abi.NoEscape", "internal/bytealg.MakeNoZero"], unfollowed := true, recurses := true, plainKeys := false, apart := false }
def IcmpProblemsSaid : Prop := icmpProblemsRow.holds Try.pinned (OpenSpec.ofChange icmpProblemsSpec)

/-- ITS FALSE NEIGHBOUR: 'it returns false'. Refute it at one input. -/
def icmpProblemsWrong : ChangeSpec := { name := "icmpProblems", fn := fun _ => fun
  | [d1, d2, d3] => { results := [.lit (.bool false)], args := [d1, d2, d3] }
  | _ => none }
def IcmpProblemsWrongFalsely : Prop := icmpProblemsRow.holds Try.pinned (OpenSpec.ofChange icmpProblemsWrong)

/-- 'aditlaw15.IcmpFew': WHATEVER THE INPUT: true; the input reads as it did. -/
def icmpFewSpec : ChangeSpec := { name := "icmpFew", fn := fun _ => fun
  | [d] => { results := [.lit (.bool true)], args := [d] }
  | _ => none }
def icmpFewRow : OpenClaim := { program := "ytledohjnchnmhaa", sum := "91d996744e981d81bcc26a525123e4da01a0504fd74a03b154472d4fe9b4d9e2", func := "adit/aditlaw15.IcmpFew", spec := "icmpFew", inPlace := ["internal/abi.NoEscape", "internal/bytealg.MakeNoZero"], unfollowed := true, recurses := true, plainKeys := false, apart := false }
def IcmpFewSaid : Prop := icmpFewRow.holds Try.pinned (OpenSpec.ofChange icmpFewSpec)

/-- ITS FALSE NEIGHBOUR: 'it returns false'. Refute it at one input. -/
def icmpFewWrong : ChangeSpec := { name := "icmpFew", fn := fun _ => fun
  | [d] => { results := [.lit (.bool false)], args := [d] }
  | _ => none }
def IcmpFewWrongFalsely : Prop := icmpFewRow.holds Try.pinned (OpenSpec.ofChange icmpFewWrong)

/-- 'aditlaw15.IcmpPaths': WHATEVER THE INPUT: true; the input reads as it did. -/
def icmpPathsSpec : ChangeSpec := { name := "icmpPaths", fn := fun _ => fun
  | [d1, d2, d3] => { results := [.lit (.bool true)], args := [d1, d2, d3] }
  | _ => none }
def icmpPathsRow : OpenClaim := { program := "ytledohjnchnmhaa", sum := "91d996744e981d81bcc26a525123e4da01a0504fd74a03b154472d4fe9b4d9e2", func := "adit/aditlaw15.IcmpPaths", spec := "icmpPaths", inPlace := ["internal/abi.NoEscape", "internal/bytealg.MakeNoZero"], unfollowed := true, recurses := true, plainKeys := false, apart := false }
def IcmpPathsSaid : Prop := icmpPathsRow.holds Try.pinned (OpenSpec.ofChange icmpPathsSpec)

/-- ITS FALSE NEIGHBOUR: 'it returns false'. Refute it at one input. -/
def icmpPathsWrong : ChangeSpec := { name := "icmpPaths", fn := fun _ => fun
  | [d1, d2, d3] => { results := [.lit (.bool false)], args := [d1, d2, d3] }
  | _ => none }
def IcmpPathsWrongFalsely : Prop := icmpPathsRow.holds Try.pinned (OpenSpec.ofChange icmpPathsWrong)

/-- 'aditlaw15.IcmpTables': WHATEVER THE INPUT: true; the input reads as it did. -/
def icmpTablesSpec : ChangeSpec := { name := "icmpTables", fn := fun _ => fun
  | [d] => { results := [.lit (.bool true)], args := [d] }
  | _ => none }
def icmpTablesRow : OpenClaim := { program := "ytledohjnchnmhaa", sum := "91d996744e981d81bcc26a525123e4da01a0504fd74a03b154472d4fe9b4d9e2", func := "adit/aditlaw15.IcmpTables", spec := "icmpTables", inPlace := ["internal/abi.NoEscape", "internal/bytealg.MakeNoZero"], unfollowed := true, recurses := true, plainKeys := false, apart := false }
def IcmpTablesSaid : Prop := icmpTablesRow.holds Try.pinned (OpenSpec.ofChange icmpTablesSpec)

/-- ITS FALSE NEIGHBOUR: 'it returns false'. Refute it at one input. -/
def icmpTablesWrong : ChangeSpec := { name := "icmpTables", fn := fun _ => fun
  | [d] => { results := [.lit (.bool false)], args := [d] }
  | _ => none }
def IcmpTablesWrongFalsely : Prop := icmpTablesRow.holds Try.pinned (OpenSpec.ofChange icmpTablesWrong)

/-- 'aditlaw15.IcmpQuiet': WHATEVER THE INPUT: true; the input reads as it did. -/
def icmpQuietSpec : ChangeSpec := { name := "icmpQuiet", fn := fun _ => fun
  | [d1, d2, d3] => { results := [.lit (.bool true)], args := [d1, d2, d3] }
  | _ => none }
def icmpQuietRow : OpenClaim := { program := "ytledohjnchnmhaa", sum := "91d996744e981d81bcc26a525123e4da01a0504fd74a03b154472d4fe9b4d9e2", func := "adit/aditlaw15.IcmpQuiet", spec := "icmpQuiet", inPlace := ["internal/abi.NoEscape", "internal/bytealg.MakeNoZero"], unfollowed := true, recurses := true, plainKeys := false, apart := false }
def IcmpQuietSaid : Prop := icmpQuietRow.holds Try.pinned (OpenSpec.ofChange icmpQuietSpec)

/-- ITS FALSE NEIGHBOUR: 'it returns false'. Refute it at one input. -/
def icmpQuietWrong : ChangeSpec := { name := "icmpQuiet", fn := fun _ => fun
  | [d1, d2, d3] => { results := [.lit (.bool false)], args := [d1, d2, d3] }
  | _ => none }
def IcmpQuietWrongFalsely : Prop := icmpQuietRow.holds Try.pinned (OpenSpec.ofChange icmpQuietWrong)

/-- 'aditlaw15.IcmpTold': WHATEVER THE INPUT: true; the input reads as it did. -/
def icmpToldSpec : ChangeSpec := { name := "icmpTold", fn := fun _ => fun
  | [d] => { results := [.lit (.bool true)], args := [d] }
  | _ => none }
def icmpToldRow : OpenClaim := { program := "ytledohjnchnmhaa", sum := "91d996744e981d81bcc26a525123e4da01a0504fd74a03b154472d4fe9b4d9e2", func := "adit/aditlaw15.IcmpTold", spec := "icmpTold", inPlace := ["internal/abi.NoEscape", "internal/bytealg.MakeNoZero"], unfollowed := true, recurses := true, plainKeys := false, apart := false }
def IcmpToldSaid : Prop := icmpToldRow.holds Try.pinned (OpenSpec.ofChange icmpToldSpec)

/-- ITS FALSE NEIGHBOUR: 'it returns false'. Refute it at one input. -/
def icmpToldWrong : ChangeSpec := { name := "icmpTold", fn := fun _ => fun
  | [d] => { results := [.lit (.bool false)], args := [d] }
  | _ => none }
def IcmpToldWrongFalsely : Prop := icmpToldRow.holds Try.pinned (OpenSpec.ofChange icmpToldWrong)

/- THE SECOND FORM. 'bulk': how many values and letters a reading holds, each counted each time it is reached (what is shared counts as often as it is met; a slice's spare places count too). A statement '..UptoSaid' is the law's where the arguments, and the package variables that the reading takes, are together of bulk at most 1048576: NARROWER than '..Said'. Prove '..Said' where nothing that the law and all that it calls make is longer than what came in: it says more and counts as full. Else prove '..UptoSaid'. A law counts once. -/
mutual
def uptoBulk {H : Type} : DataW H → Nat
  | .lit (.string bytes) => bytes.length + 1
  | .lit _ => 1
  | .nil => 1
  | .ptr d => uptoBulk d + 1
  | .slice elems spare => uptoBulkAll elems + uptoBulkAll spare + 1
  | .agg parts => uptoBulkAll parts + 1
  | .iface _ d => uptoBulk d + 1
  | .map entries => uptoBulkEntries entries + 1
  | .held _ => 1
def uptoBulkAll {H : Type} : List (DataW H) → Nat
  | [] => 0
  | d :: r => uptoBulk d + uptoBulkAll r
def uptoBulkEntries {H : Type} : List (Lit × DataW H) → Nat
  | [] => 0
  | x :: r => uptoBulkEntry x + uptoBulkEntries r
def uptoBulkEntry {H : Type} : Lit × DataW H → Nat
  | (.string bytes, d) => bytes.length + uptoBulk d + 1
  | (_, d) => uptoBulk d + 1
 end
def uptoSmall : (H : Type) → List (DataW H) → Bool := fun _ ds => decide (uptoBulkAll ds ≤ 1048576)
def OpenSpec.upto (s : _root_.Go.ChangeSpec) : _root_.Go.OpenSpec := { _root_.Go.OpenSpec.ofChange s with cond := some uptoSmall }

/-- 'aditlaw13.IpBuilds', WHERE WHAT IT READS IS OF BULK AT MOST 1048576: true; the input reads as it did. -/
def ipBuildsUptoRow : OpenClaim := { program := "ytledohjnchnmhaa", sum := "91d996744e981d81bcc26a525123e4da01a0504fd74a03b154472d4fe9b4d9e2", func := "adit/aditlaw13.IpBuilds", spec := "ipBuilds", unfollowed := true, recurses := true, plainKeys := false, apart := false, narrowed := true }
def IpBuildsUptoSaid : Prop := ipBuildsUptoRow.holds Try.pinned (OpenSpec.upto ipBuildsSpec)

/-- 'aditlaw13.IpReads', WHERE WHAT IT READS IS OF BULK AT MOST 1048576: true; the input reads as it did. -/
def ipReadsUptoRow : OpenClaim := { program := "ytledohjnchnmhaa", sum := "91d996744e981d81bcc26a525123e4da01a0504fd74a03b154472d4fe9b4d9e2", func := "adit/aditlaw13.IpReads", spec := "ipReads", unfollowed := true, recurses := true, plainKeys := false, apart := false, narrowed := true }
def IpReadsUptoSaid : Prop := ipReadsUptoRow.holds Try.pinned (OpenSpec.upto ipReadsSpec)

/-- 'aditlaw13.IpBack', WHERE WHAT IT READS IS OF BULK AT MOST 1048576: true; the input reads as it did. -/
def ipBackUptoRow : OpenClaim := { program := "ytledohjnchnmhaa", sum := "91d996744e981d81bcc26a525123e4da01a0504fd74a03b154472d4fe9b4d9e2", func := "adit/aditlaw13.IpBack", spec := "ipBack", unfollowed := true, recurses := true, plainKeys := false, apart := false, narrowed := true }
def IpBackUptoSaid : Prop := ipBackUptoRow.holds Try.pinned (OpenSpec.upto ipBackSpec)

/-- 'aditlaw13.IpAgain', WHERE WHAT IT READS IS OF BULK AT MOST 1048576: true; the input reads as it did. -/
def ipAgainUptoRow : OpenClaim := { program := "ytledohjnchnmhaa", sum := "91d996744e981d81bcc26a525123e4da01a0504fd74a03b154472d4fe9b4d9e2", func := "adit/aditlaw13.IpAgain", spec := "ipAgain", unfollowed := true, recurses := true, plainKeys := false, apart := false, narrowed := true }
def IpAgainUptoSaid : Prop := ipAgainUptoRow.holds Try.pinned (OpenSpec.upto ipAgainSpec)

/-- 'aditlaw13.IpTurned', WHERE WHAT IT READS IS OF BULK AT MOST 1048576: true; the input reads as it did. -/
def ipTurnedUptoRow : OpenClaim := { program := "ytledohjnchnmhaa", sum := "91d996744e981d81bcc26a525123e4da01a0504fd74a03b154472d4fe9b4d9e2", func := "adit/aditlaw13.IpTurned", spec := "ipTurned", unfollowed := true, recurses := true, plainKeys := false, apart := false, narrowed := true }
def IpTurnedUptoSaid : Prop := ipTurnedUptoRow.holds Try.pinned (OpenSpec.upto ipTurnedSpec)

/-- 'aditlaw13.IpShort', WHERE WHAT IT READS IS OF BULK AT MOST 1048576: true; the input reads as it did. -/
def ipShortUptoRow : OpenClaim := { program := "ytledohjnchnmhaa", sum := "91d996744e981d81bcc26a525123e4da01a0504fd74a03b154472d4fe9b4d9e2", func := "adit/aditlaw13.IpShort", spec := "ipShort", unfollowed := true, recurses := true, plainKeys := false, apart := false, narrowed := true }
def IpShortUptoSaid : Prop := ipShortUptoRow.holds Try.pinned (OpenSpec.upto ipShortSpec)

/-- 'aditlaw13.IpApart', WHERE WHAT IT READS IS OF BULK AT MOST 1048576: true; the input reads as it did. -/
def ipApartUptoRow : OpenClaim := { program := "ytledohjnchnmhaa", sum := "91d996744e981d81bcc26a525123e4da01a0504fd74a03b154472d4fe9b4d9e2", func := "adit/aditlaw13.IpApart", spec := "ipApart", unfollowed := true, recurses := true, plainKeys := false, apart := false, narrowed := true }
def IpApartUptoSaid : Prop := ipApartUptoRow.holds Try.pinned (OpenSpec.upto ipApartSpec)

/-- 'aditlaw13.IpSame', WHERE WHAT IT READS IS OF BULK AT MOST 1048576: true; the input reads as it did. -/
def ipSameUptoRow : OpenClaim := { program := "ytledohjnchnmhaa", sum := "91d996744e981d81bcc26a525123e4da01a0504fd74a03b154472d4fe9b4d9e2", func := "adit/aditlaw13.IpSame", spec := "ipSame", unfollowed := true, recurses := true, plainKeys := false, apart := false, narrowed := true }
def IpSameUptoSaid : Prop := ipSameUptoRow.holds Try.pinned (OpenSpec.upto ipSameSpec)

/-- 'aditlaw15.IcmpBytes', WHERE WHAT IT READS IS OF BULK AT MOST 1048576: true; the input reads as it did. -/
def icmpBytesUptoRow : OpenClaim := { program := "ytledohjnchnmhaa", sum := "91d996744e981d81bcc26a525123e4da01a0504fd74a03b154472d4fe9b4d9e2", func := "adit/aditlaw15.IcmpBytes", spec := "icmpBytes", inPlace := ["internal/abi.NoEscape", "internal/bytealg.MakeNoZero"], unfollowed := true, recurses := true, plainKeys := false, apart := false, narrowed := true }
def IcmpBytesUptoSaid : Prop := icmpBytesUptoRow.holds Try.pinned (OpenSpec.upto icmpBytesSpec)

/-- 'aditlaw15.IcmpEchoes', WHERE WHAT IT READS IS OF BULK AT MOST 1048576: true; the input reads as it did. -/
def icmpEchoesUptoRow : OpenClaim := { program := "ytledohjnchnmhaa", sum := "91d996744e981d81bcc26a525123e4da01a0504fd74a03b154472d4fe9b4d9e2", func := "adit/aditlaw15.IcmpEchoes", spec := "icmpEchoes", inPlace := ["internal/abi.NoEscape", "internal/bytealg.MakeNoZero"], unfollowed := true, recurses := true, plainKeys := false, apart := false, narrowed := true }
def IcmpEchoesUptoSaid : Prop := icmpEchoesUptoRow.holds Try.pinned (OpenSpec.upto icmpEchoesSpec)

/-- 'aditlaw15.IcmpProblems', WHERE WHAT IT READS IS OF BULK AT MOST 1048576: true; the input reads as it did. -/
def icmpProblemsUptoRow : OpenClaim := { program := "ytledohjnchnmhaa", sum := "91d996744e981d81bcc26a525123e4da01a0504fd74a03b154472d4fe9b4d9e2", func := "adit/aditlaw15.IcmpProblems", spec := "icmpProblems", inPlace := ["internal/abi.NoEscape", "internal/bytealg.MakeNoZero"], unfollowed := true, recurses := true, plainKeys := false, apart := false, narrowed := true }
def IcmpProblemsUptoSaid : Prop := icmpProblemsUptoRow.holds Try.pinned (OpenSpec.upto icmpProblemsSpec)

/-- 'aditlaw15.IcmpFew', WHERE WHAT IT READS IS OF BULK AT MOST 1048576: true; the input reads as it did. -/
def icmpFewUptoRow : OpenClaim := { program := "ytledohjnchnmhaa", sum := "91d996744e981d81bcc26a525123e4da01a0504fd74a03b154472d4fe9b4d9e2", func := "adit/aditlaw15.IcmpFew", spec := "icmpFew", inPlace := ["internal/abi.NoEscape", "internal/bytealg.MakeNoZero"], unfollowed := true, recurses := true, plainKeys := false, apart := false, narrowed := true }
def IcmpFewUptoSaid : Prop := icmpFewUptoRow.holds Try.pinned (OpenSpec.upto icmpFewSpec)

/-- 'aditlaw15.IcmpPaths', WHERE WHAT IT READS IS OF BULK AT MOST 1048576: true; the input reads as it did. -/
def icmpPathsUptoRow : OpenClaim := { program := "ytledohjnchnmhaa", sum := "91d996744e981d81bcc26a525123e4da01a0504fd74a03b154472d4fe9b4d9e2", func := "adit/aditlaw15.IcmpPaths", spec := "icmpPaths", inPlace := ["internal/abi.NoEscape", "internal/bytealg.MakeNoZero"], unfollowed := true, recurses := true, plainKeys := false, apart := false, narrowed := true }
def IcmpPathsUptoSaid : Prop := icmpPathsUptoRow.holds Try.pinned (OpenSpec.upto icmpPathsSpec)

/-- 'aditlaw15.IcmpTables', WHERE WHAT IT READS IS OF BULK AT MOST 1048576: true; the input reads as it did. -/
def icmpTablesUptoRow : OpenClaim := { program := "ytledohjnchnmhaa", sum := "91d996744e981d81bcc26a525123e4da01a0504fd74a03b154472d4fe9b4d9e2", func := "adit/aditlaw15.IcmpTables", spec := "icmpTables", inPlace := ["internal/abi.NoEscape", "internal/bytealg.MakeNoZero"], unfollowed := true, recurses := true, plainKeys := false, apart := false, narrowed := true }
def IcmpTablesUptoSaid : Prop := icmpTablesUptoRow.holds Try.pinned (OpenSpec.upto icmpTablesSpec)

/-- 'aditlaw15.IcmpQuiet', WHERE WHAT IT READS IS OF BULK AT MOST 1048576: true; the input reads as it did. -/
def icmpQuietUptoRow : OpenClaim := { program := "ytledohjnchnmhaa", sum := "91d996744e981d81bcc26a525123e4da01a0504fd74a03b154472d4fe9b4d9e2", func := "adit/aditlaw15.IcmpQuiet", spec := "icmpQuiet", inPlace := ["internal/abi.NoEscape", "internal/bytealg.MakeNoZero"], unfollowed := true, recurses := true, plainKeys := false, apart := false, narrowed := true }
def IcmpQuietUptoSaid : Prop := icmpQuietUptoRow.holds Try.pinned (OpenSpec.upto icmpQuietSpec)

/-- 'aditlaw15.IcmpTold', WHERE WHAT IT READS IS OF BULK AT MOST 1048576: true; the input reads as it did. -/
def icmpToldUptoRow : OpenClaim := { program := "ytledohjnchnmhaa", sum := "91d996744e981d81bcc26a525123e4da01a0504fd74a03b154472d4fe9b4d9e2", func := "adit/aditlaw15.IcmpTold", spec := "icmpTold", inPlace := ["internal/abi.NoEscape", "internal/bytealg.MakeNoZero"], unfollowed := true, recurses := true, plainKeys := false, apart := false, narrowed := true }
def IcmpToldUptoSaid : Prop := icmpToldUptoRow.holds Try.pinned (OpenSpec.upto icmpToldSpec)

end Rows
end Go.Proofs.Ytledohjnchnmhaa
