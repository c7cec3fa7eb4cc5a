/-
  No cell of these rows narrows 'for every input' (looked for: loops, veiled, ifaces, maps, wideKeys, modest, calm, conditions, laid).
  DERIVED. THE GIVEN ROWS OF THIS SEAT. 5 by the template 'for every input the law returns true; each argument reads behind the call as it read before'; 0 by the template 'total and deterministic' (their statements: YtampniiehgimhaaGreatTotals.lean).
  GIVEN WITH THE SEED: the statements are not yours to turn. If you find one false, say at which input.
  Laid BY PROGRAM, IN A SANDBOX (cutbox-rows.mjs): the forced cells as the released guide's own fill.sh prints them over the translation 2150096d22299422… (all of the seat's roots in one cut). By AI agents, Wed Nov 11 2026. No macro, syntax, notation, axiom, sorry.
-/
import Derived.Test.YtampniiehgimhaaGreatChecked
import GoSem.Claim
import GoSem.ClaimJoined
import GoSem.ClaimMapViews
import Derived.JoinedTies
import Derived.KernelRfl
namespace Go.Proofs.YtampniiehgimhaaGreat
/- THE CELL 'sum', in the pinned program and in every row, IS THE sha256 OF THE DUMP (.gsa) THAT YtampniiehgimhaaGreatProg.lean LOADS. Nothing in Lean hashes anything: it is a label: what it is worth is what the hold of that sum in a sandbox is worth. -/
noncomputable def Tryz.pinned : Pinned := { name := "ytampniiehgimhaagreat", sum := "2150096d222994224940c52e40b5628931a43c4e8747c8e88d3e8a54f64a28e8", checked := Tryz.checked }
namespace Rows
def none {H : Type} : Left H := { results := [], args := [] }

/-- 'countinghouselaw09.BookDoes': WHATEVER THE INPUT: true; the input reads as it did. -/
def bookDoesSpec : ChangeSpec := { name := "bookDoes", fn := fun _ => fun
  | [d] => { results := [.lit (.bool true)], args := [d] }
  | _ => none }
def bookDoesRow : OpenClaim := { program := "ytampniiehgimhaagreat", sum := "2150096d222994224940c52e40b5628931a43c4e8747c8e88d3e8a54f64a28e8", func := "countinghouse/countinghouselaw09.BookDoes", spec := "bookDoes", inPlace := ["internal/bytealg.IndexByteString", "internal/bytealg.IndexString", "math/bits.Add64", "maps.clone"], unfollowed := true, recurses := true, named := ["internal/bytealg.MaxLen"], plainKeys := false, apart := false }
def BookDoesSaid : Prop := bookDoesRow.holds Tryz.pinned (OpenSpec.ofChange bookDoesSpec)

/-- ITS FALSE NEIGHBOUR: 'it returns false'. Refute it at one input. -/
def bookDoesWrong : ChangeSpec := { name := "bookDoes", fn := fun _ => fun
  | [d] => { results := [.lit (.bool false)], args := [d] }
  | _ => none }
def BookDoesWrongFalsely : Prop := bookDoesRow.holds Tryz.pinned (OpenSpec.ofChange bookDoesWrong)

/-- 'countinghouselaw12.StreamPlays': WHATEVER THE INPUT: true; the input reads as it did. -/
def streamPlaysSpec : ChangeSpec := { name := "streamPlays", fn := fun _ => fun
  | [d] => { results := [.lit (.bool true)], args := [d] }
  | _ => none }
def streamPlaysRow : OpenClaim := { program := "ytampniiehgimhaagreat", sum := "2150096d222994224940c52e40b5628931a43c4e8747c8e88d3e8a54f64a28e8", func := "countinghouse/countinghouselaw12.StreamPlays", spec := "streamPlays", inPlace := ["internal/bytealg.IndexByteString", "internal/bytealg.IndexString", "math/bits.Add64", "maps.clone"], unfollowed := true, recurses := true, named := ["internal/bytealg.MaxLen"], plainKeys := false, apart := false }
def StreamPlaysSaid : Prop := streamPlaysRow.holds Tryz.pinned (OpenSpec.ofChange streamPlaysSpec)

/-- ITS FALSE NEIGHBOUR: 'it returns false'. Refute it at one input. -/
def streamPlaysWrong : ChangeSpec := { name := "streamPlays", fn := fun _ => fun
  | [d] => { results := [.lit (.bool false)], args := [d] }
  | _ => none }
def StreamPlaysWrongFalsely : Prop := streamPlaysRow.holds Tryz.pinned (OpenSpec.ofChange streamPlaysWrong)

/-- 'countinghouselaw22.AuditMoves': WHATEVER THE INPUT: true; the input reads as it did. -/
def auditMovesSpec : ChangeSpec := { name := "auditMoves", fn := fun _ => fun
  | [d1, d2, d3] => { results := [.lit (.bool true)], args := [d1, d2, d3] }
  | _ => none }
def auditMovesRow : OpenClaim := { program := "ytampniiehgimhaagreat", sum := "2150096d222994224940c52e40b5628931a43c4e8747c8e88d3e8a54f64a28e8", func := "countinghouse/countinghouselaw22.AuditMoves", spec := "auditMoves", inPlace := ["internal/bytealg.IndexByteString", "internal/bytealg.IndexString", "math/bits.Add64", "maps.clone"], unfollowed := true, recurses := true, named := ["internal/bytealg.MaxLen"], plainKeys := false, apart := false }
def AuditMovesSaid : Prop := auditMovesRow.holds Tryz.pinned (OpenSpec.ofChange auditMovesSpec)

/-- ITS FALSE NEIGHBOUR: 'it returns false'. Refute it at one input. -/
def auditMovesWrong : ChangeSpec := { name := "auditMoves", fn := fun _ => fun
  | [d1, d2, d3] => { results := [.lit (.bool false)], args := [d1, d2, d3] }
  | _ => none }
def AuditMovesWrongFalsely : Prop := auditMovesRow.holds Tryz.pinned (OpenSpec.ofChange auditMovesWrong)

/-- 'countinghouselaw22.AuditTrial': WHATEVER THE INPUT: true; the input reads as it did. -/
def auditTrialSpec : ChangeSpec := { name := "auditTrial", fn := fun _ => fun
  | [d1, d2, d3] => { results := [.lit (.bool true)], args := [d1, d2, d3] }
  | _ => none }
def auditTrialRow : OpenClaim := { program := "ytampniiehgimhaagreat", sum := "2150096d222994224940c52e40b5628931a43c4e8747c8e88d3e8a54f64a28e8", func := "countinghouse/countinghouselaw22.AuditTrial", spec := "auditTrial", inPlace := ["internal/bytealg.IndexByteString", "internal/bytealg.IndexString", "math/bits.Add64", "maps.clone"], unfollowed := true, recurses := true, named := ["internal/bytealg.MaxLen"], plainKeys := false, apart := false }
def AuditTrialSaid : Prop := auditTrialRow.holds Tryz.pinned (OpenSpec.ofChange auditTrialSpec)

/-- ITS FALSE NEIGHBOUR: 'it returns false'. Refute it at one input. -/
def auditTrialWrong : ChangeSpec := { name := "auditTrial", fn := fun _ => fun
  | [d1, d2, d3] => { results := [.lit (.bool false)], args := [d1, d2, d3] }
  | _ => none }
def AuditTrialWrongFalsely : Prop := auditTrialRow.holds Tryz.pinned (OpenSpec.ofChange auditTrialWrong)

/-- 'countinghouselaw22.AuditCounts': WHATEVER THE INPUT: true; the input reads as it did. -/
def auditCountsSpec : ChangeSpec := { name := "auditCounts", fn := fun _ => fun
  | [d1, d2] => { results := [.lit (.bool true)], args := [d1, d2] }
  | _ => none }
def auditCountsRow : OpenClaim := { program := "ytampniiehgimhaagreat", sum := "2150096d222994224940c52e40b5628931a43c4e8747c8e88d3e8a54f64a28e8", func := "countinghouse/countinghouselaw22.AuditCounts", spec := "auditCounts", inPlace := ["internal/bytealg.IndexByteString", "internal/bytealg.IndexString", "math/bits.Add64", "maps.clone"], unfollowed := true, recurses := true, named := ["internal/bytealg.MaxLen"], plainKeys := false, apart := false }
def AuditCountsSaid : Prop := auditCountsRow.holds Tryz.pinned (OpenSpec.ofChange auditCountsSpec)

/-- ITS FALSE NEIGHBOUR: 'it returns false'. Refute it at one input. -/
def auditCountsWrong : ChangeSpec := { name := "auditCounts", fn := fun _ => fun
  | [d1, d2] => { results := [.lit (.bool false)], args := [d1, d2] }
  | _ => none }
def AuditCountsWrongFalsely : Prop := auditCountsRow.holds Tryz.pinned (OpenSpec.ofChange auditCountsWrong)

/- THE SECOND FORM. 'bulk': how many values and letters a reading holds, each counted each time it is reached (what is shared counts as often as it is met; a slice's spare places count too). A statement '..UptoSaid' is the law's where the arguments, and the package variables that the reading takes, are together of bulk at most 1048576: NARROWER than '..Said'. Prove '..Said' where nothing that the law and all that it calls make is longer than what came in: it says more and counts as full. Else prove '..UptoSaid'. A law counts once. -/
mutual
def uptoBulk {H : Type} : DataW H → Nat
  | .lit (.string bytes) => bytes.length + 1
  | .lit _ => 1
  | .nil => 1
  | .ptr d => uptoBulk d + 1
  | .slice elems spare => uptoBulkAll elems + uptoBulkAll spare + 1
  | .agg parts => uptoBulkAll parts + 1
  | .iface _ d => uptoBulk d + 1
  | .map entries => uptoBulkEntries entries + 1
  | .held _ => 1
def uptoBulkAll {H : Type} : List (DataW H) → Nat
  | [] => 0
  | d :: r => uptoBulk d + uptoBulkAll r
def uptoBulkEntries {H : Type} : List (Lit × DataW H) → Nat
  | [] => 0
  | x :: r => uptoBulkEntry x + uptoBulkEntries r
def uptoBulkEntry {H : Type} : Lit × DataW H → Nat
  | (.string bytes, d) => bytes.length + uptoBulk d + 1
  | (_, d) => uptoBulk d + 1
 end
def uptoSmall : (H : Type) → List (DataW H) → Bool := fun _ ds => decide (uptoBulkAll ds ≤ 1048576)
def OpenSpec.upto (s : _root_.Go.ChangeSpec) : _root_.Go.OpenSpec := { _root_.Go.OpenSpec.ofChange s with cond := some uptoSmall }

/-- 'countinghouselaw09.BookDoes', WHERE WHAT IT READS IS OF BULK AT MOST 1048576: true; the input reads as it did. -/
def bookDoesUptoRow : OpenClaim := { program := "ytampniiehgimhaagreat", sum := "2150096d222994224940c52e40b5628931a43c4e8747c8e88d3e8a54f64a28e8", func := "countinghouse/countinghouselaw09.BookDoes", spec := "bookDoes", inPlace := ["internal/bytealg.IndexByteString", "internal/bytealg.IndexString", "math/bits.Add64", "maps.clone"], unfollowed := true, recurses := true, named := ["internal/bytealg.MaxLen"], plainKeys := false, apart := false, narrowed := true }
def BookDoesUptoSaid : Prop := bookDoesUptoRow.holds Tryz.pinned (OpenSpec.upto bookDoesSpec)

/-- 'countinghouselaw12.StreamPlays', WHERE WHAT IT READS IS OF BULK AT MOST 1048576: true; the input reads as it did. -/
def streamPlaysUptoRow : OpenClaim := { program := "ytampniiehgimhaagreat", sum := "2150096d222994224940c52e40b5628931a43c4e8747c8e88d3e8a54f64a28e8", func := "countinghouse/countinghouselaw12.StreamPlays", spec := "streamPlays", inPlace := ["internal/bytealg.IndexByteString", "internal/bytealg.IndexString", "math/bits.Add64", "maps.clone"], unfollowed := true, recurses := true, named := ["internal/bytealg.MaxLen"], plainKeys := false, apart := false, narrowed := true }
def StreamPlaysUptoSaid : Prop := streamPlaysUptoRow.holds Tryz.pinned (OpenSpec.upto streamPlaysSpec)

/-- 'countinghouselaw22.AuditMoves', WHERE WHAT IT READS IS OF BULK AT MOST 1048576: true; the input reads as it did. -/
def auditMovesUptoRow : OpenClaim := { program := "ytampniiehgimhaagreat", sum := "2150096d222994224940c52e40b5628931a43c4e8747c8e88d3e8a54f64a28e8", func := "countinghouse/countinghouselaw22.AuditMoves", spec := "auditMoves", inPlace := ["internal/bytealg.IndexByteString", "internal/bytealg.IndexString", "math/bits.Add64", "maps.clone"], unfollowed := true, recurses := true, named := ["internal/bytealg.MaxLen"], plainKeys := false, apart := false, narrowed := true }
def AuditMovesUptoSaid : Prop := auditMovesUptoRow.holds Tryz.pinned (OpenSpec.upto auditMovesSpec)

/-- 'countinghouselaw22.AuditTrial', WHERE WHAT IT READS IS OF BULK AT MOST 1048576: true; the input reads as it did. -/
def auditTrialUptoRow : OpenClaim := { program := "ytampniiehgimhaagreat", sum := "2150096d222994224940c52e40b5628931a43c4e8747c8e88d3e8a54f64a28e8", func := "countinghouse/countinghouselaw22.AuditTrial", spec := "auditTrial", inPlace := ["internal/bytealg.IndexByteString", "internal/bytealg.IndexString", "math/bits.Add64", "maps.clone"], unfollowed := true, recurses := true, named := ["internal/bytealg.MaxLen"], plainKeys := false, apart := false, narrowed := true }
def AuditTrialUptoSaid : Prop := auditTrialUptoRow.holds Tryz.pinned (OpenSpec.upto auditTrialSpec)

/-- 'countinghouselaw22.AuditCounts', WHERE WHAT IT READS IS OF BULK AT MOST 1048576: true; the input reads as it did. -/
def auditCountsUptoRow : OpenClaim := { program := "ytampniiehgimhaagreat", sum := "2150096d222994224940c52e40b5628931a43c4e8747c8e88d3e8a54f64a28e8", func := "countinghouse/countinghouselaw22.AuditCounts", spec := "auditCounts", inPlace := ["internal/bytealg.IndexByteString", "internal/bytealg.IndexString", "math/bits.Add64", "maps.clone"], unfollowed := true, recurses := true, named := ["internal/bytealg.MaxLen"], plainKeys := false, apart := false, narrowed := true }
def AuditCountsUptoSaid : Prop := auditCountsUptoRow.holds Tryz.pinned (OpenSpec.upto auditCountsSpec)

end Rows
end Go.Proofs.YtampniiehgimhaaGreat
