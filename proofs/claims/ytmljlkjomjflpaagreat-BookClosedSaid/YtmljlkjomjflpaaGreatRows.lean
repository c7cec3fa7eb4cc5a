/-
  No cell of these rows narrows 'for every input' (looked for: loops, veiled, ifaces, maps, wideKeys, modest, calm, conditions, laid).
  DERIVED. THE GIVEN ROWS OF THIS SEAT. 9 by the template 'for every input the law returns true; each argument reads behind the call as it read before'; 0 by the template 'total and deterministic' (their statements: YtmljlkjomjflpaaGreatTotals.lean).
  GIVEN WITH THE SEED: the statements are not yours to turn. If you find one false, say at which input.
  Laid BY PROGRAM, IN A SANDBOX (cutbox-rows.mjs): the forced cells as the released guide's own fill.sh prints them over the translation b2948c43c9a0cfbe… (all of the seat's roots in one cut). By AI agents, Wed Nov 11 2026. No macro, syntax, notation, axiom, sorry.
-/
import Derived.Test.YtmljlkjomjflpaaGreatChecked
import GoSem.Claim
import GoSem.ClaimJoined
import GoSem.ClaimMapViews
import Derived.JoinedTies
import Derived.KernelRfl
namespace Go.Proofs.YtmljlkjomjflpaaGreat
/- THE CELL 'sum', in the pinned program and in every row, IS THE sha256 OF THE DUMP (.gsa) THAT YtmljlkjomjflpaaGreatProg.lean LOADS. Nothing in Lean hashes anything: it is a label: what it is worth is what the hold of that sum in a sandbox is worth. -/
noncomputable def Tryz.pinned : Pinned := { name := "ytmljlkjomjflpaagreat", sum := "b2948c43c9a0cfbe49e55c090077063d1670443b4b333fc0c9405d4810a8e568", checked := Tryz.checked }
namespace Rows
def none {H : Type} : Left H := { results := [], args := [] }

/-- 'countinghouselaw08.HoldPlays': WHATEVER THE INPUT: true; the input reads as it did. -/
def holdPlaysSpec : ChangeSpec := { name := "holdPlays", fn := fun _ => fun
  | [d] => { results := [.lit (.bool true)], args := [d] }
  | _ => none }
def holdPlaysRow : OpenClaim := { program := "ytmljlkjomjflpaagreat", sum := "b2948c43c9a0cfbe49e55c090077063d1670443b4b333fc0c9405d4810a8e568", func := "countinghouse/countinghouselaw08.HoldPlays", spec := "holdPlays", inPlace := ["internal/bytealg.IndexByteString", "internal/bytealg.IndexString", "maps.clone", "math/bits.Add64"], unfollowed := true, recurses := true, named := ["internal/bytealg.MaxLen"], plainKeys := false, apart := false }
def HoldPlaysSaid : Prop := holdPlaysRow.holds Tryz.pinned (OpenSpec.ofChange holdPlaysSpec)

/-- ITS FALSE NEIGHBOUR: 'it returns false'. Refute it at one input. -/
def holdPlaysWrong : ChangeSpec := { name := "holdPlays", fn := fun _ => fun
  | [d] => { results := [.lit (.bool false)], args := [d] }
  | _ => none }
def HoldPlaysWrongFalsely : Prop := holdPlaysRow.holds Tryz.pinned (OpenSpec.ofChange holdPlaysWrong)

/-- 'countinghouselaw09.BookCopies': WHATEVER THE INPUT: true; the input reads as it did. -/
def bookCopiesSpec : ChangeSpec := { name := "bookCopies", fn := fun _ => fun
  | [d1, d2] => { results := [.lit (.bool true)], args := [d1, d2] }
  | _ => none }
def bookCopiesRow : OpenClaim := { program := "ytmljlkjomjflpaagreat", sum := "b2948c43c9a0cfbe49e55c090077063d1670443b4b333fc0c9405d4810a8e568", func := "countinghouse/countinghouselaw09.BookCopies", spec := "bookCopies", inPlace := ["internal/bytealg.IndexByteString", "internal/bytealg.IndexString", "math/bits.Add64", "maps.clone"], unfollowed := true, recurses := true, named := ["internal/bytealg.MaxLen"], plainKeys := false, apart := false }
def BookCopiesSaid : Prop := bookCopiesRow.holds Tryz.pinned (OpenSpec.ofChange bookCopiesSpec)

/-- ITS FALSE NEIGHBOUR: 'it returns false'. Refute it at one input. -/
def bookCopiesWrong : ChangeSpec := { name := "bookCopies", fn := fun _ => fun
  | [d1, d2] => { results := [.lit (.bool false)], args := [d1, d2] }
  | _ => none }
def BookCopiesWrongFalsely : Prop := bookCopiesRow.holds Tryz.pinned (OpenSpec.ofChange bookCopiesWrong)

/-- 'countinghouselaw09.BookAsks': WHATEVER THE INPUT: true; the input reads as it did. -/
def bookAsksSpec : ChangeSpec := { name := "bookAsks", fn := fun _ => fun
  | [d1, d2] => { results := [.lit (.bool true)], args := [d1, d2] }
  | _ => none }
def bookAsksRow : OpenClaim := { program := "ytmljlkjomjflpaagreat", sum := "b2948c43c9a0cfbe49e55c090077063d1670443b4b333fc0c9405d4810a8e568", func := "countinghouse/countinghouselaw09.BookAsks", spec := "bookAsks", inPlace := ["internal/bytealg.IndexByteString", "internal/bytealg.IndexString", "math/bits.Add64", "maps.clone"], unfollowed := true, recurses := true, named := ["internal/bytealg.MaxLen"], plainKeys := false, apart := false }
def BookAsksSaid : Prop := bookAsksRow.holds Tryz.pinned (OpenSpec.ofChange bookAsksSpec)

/-- ITS FALSE NEIGHBOUR: 'it returns false'. Refute it at one input. -/
def bookAsksWrong : ChangeSpec := { name := "bookAsks", fn := fun _ => fun
  | [d1, d2] => { results := [.lit (.bool false)], args := [d1, d2] }
  | _ => none }
def BookAsksWrongFalsely : Prop := bookAsksRow.holds Tryz.pinned (OpenSpec.ofChange bookAsksWrong)

/-- 'countinghouselaw09.BookHolds': WHATEVER THE INPUT: true; the input reads as it did. -/
def bookHoldsSpec : ChangeSpec := { name := "bookHolds", fn := fun _ => fun
  | [d1, d2, d3] => { results := [.lit (.bool true)], args := [d1, d2, d3] }
  | _ => none }
def bookHoldsRow : OpenClaim := { program := "ytmljlkjomjflpaagreat", sum := "b2948c43c9a0cfbe49e55c090077063d1670443b4b333fc0c9405d4810a8e568", func := "countinghouse/countinghouselaw09.BookHolds", spec := "bookHolds", inPlace := ["internal/bytealg.IndexByteString", "internal/bytealg.IndexString", "math/bits.Add64", "maps.clone"], unfollowed := true, recurses := true, named := ["internal/bytealg.MaxLen"], plainKeys := false, apart := false }
def BookHoldsSaid : Prop := bookHoldsRow.holds Tryz.pinned (OpenSpec.ofChange bookHoldsSpec)

/-- ITS FALSE NEIGHBOUR: 'it returns false'. Refute it at one input. -/
def bookHoldsWrong : ChangeSpec := { name := "bookHolds", fn := fun _ => fun
  | [d1, d2, d3] => { results := [.lit (.bool false)], args := [d1, d2, d3] }
  | _ => none }
def BookHoldsWrongFalsely : Prop := bookHoldsRow.holds Tryz.pinned (OpenSpec.ofChange bookHoldsWrong)

/-- 'countinghouselaw09.BookDoes': WHATEVER THE INPUT: true; the input reads as it did. -/
def bookDoesSpec : ChangeSpec := { name := "bookDoes", fn := fun _ => fun
  | [d] => { results := [.lit (.bool true)], args := [d] }
  | _ => none }
def bookDoesRow : OpenClaim := { program := "ytmljlkjomjflpaagreat", sum := "b2948c43c9a0cfbe49e55c090077063d1670443b4b333fc0c9405d4810a8e568", func := "countinghouse/countinghouselaw09.BookDoes", spec := "bookDoes", inPlace := ["internal/bytealg.IndexByteString", "internal/bytealg.IndexString", "math/bits.Add64", "maps.clone"], unfollowed := true, recurses := true, named := ["internal/bytealg.MaxLen"], plainKeys := false, apart := false }
def BookDoesSaid : Prop := bookDoesRow.holds Tryz.pinned (OpenSpec.ofChange bookDoesSpec)

/-- ITS FALSE NEIGHBOUR: 'it returns false'. Refute it at one input. -/
def bookDoesWrong : ChangeSpec := { name := "bookDoes", fn := fun _ => fun
  | [d] => { results := [.lit (.bool false)], args := [d] }
  | _ => none }
def BookDoesWrongFalsely : Prop := bookDoesRow.holds Tryz.pinned (OpenSpec.ofChange bookDoesWrong)

/-- 'countinghouselaw09.BookWeighs': WHATEVER THE INPUT: true; the input reads as it did. -/
def bookWeighsSpec : ChangeSpec := { name := "bookWeighs", fn := fun _ => fun
  | [d] => { results := [.lit (.bool true)], args := [d] }
  | _ => none }
def bookWeighsRow : OpenClaim := { program := "ytmljlkjomjflpaagreat", sum := "b2948c43c9a0cfbe49e55c090077063d1670443b4b333fc0c9405d4810a8e568", func := "countinghouse/countinghouselaw09.BookWeighs", spec := "bookWeighs", inPlace := ["internal/bytealg.IndexByteString", "internal/bytealg.IndexString", "math/bits.Add64", "maps.clone"], unfollowed := true, recurses := true, named := ["internal/bytealg.MaxLen"], plainKeys := false, apart := false }
def BookWeighsSaid : Prop := bookWeighsRow.holds Tryz.pinned (OpenSpec.ofChange bookWeighsSpec)

/-- ITS FALSE NEIGHBOUR: 'it returns false'. Refute it at one input. -/
def bookWeighsWrong : ChangeSpec := { name := "bookWeighs", fn := fun _ => fun
  | [d] => { results := [.lit (.bool false)], args := [d] }
  | _ => none }
def BookWeighsWrongFalsely : Prop := bookWeighsRow.holds Tryz.pinned (OpenSpec.ofChange bookWeighsWrong)

/-- 'countinghouselaw09.BookClosed': WHATEVER THE INPUT: true; the input reads as it did. -/
def bookClosedSpec : ChangeSpec := { name := "bookClosed", fn := fun _ => fun
  | [d1, d2, d3] => { results := [.lit (.bool true)], args := [d1, d2, d3] }
  | _ => none }
def bookClosedRow : OpenClaim := { program := "ytmljlkjomjflpaagreat", sum := "b2948c43c9a0cfbe49e55c090077063d1670443b4b333fc0c9405d4810a8e568", func := "countinghouse/countinghouselaw09.BookClosed", spec := "bookClosed", inPlace := ["internal/bytealg.IndexByteString", "internal/bytealg.IndexString", "math/bits.Add64", "maps.clone"], unfollowed := true, recurses := true, named := ["internal/bytealg.MaxLen"], plainKeys := false, apart := false }
def BookClosedSaid : Prop := bookClosedRow.holds Tryz.pinned (OpenSpec.ofChange bookClosedSpec)

/-- ITS FALSE NEIGHBOUR: 'it returns false'. Refute it at one input. -/
def bookClosedWrong : ChangeSpec := { name := "bookClosed", fn := fun _ => fun
  | [d1, d2, d3] => { results := [.lit (.bool false)], args := [d1, d2, d3] }
  | _ => none }
def BookClosedWrongFalsely : Prop := bookClosedRow.holds Tryz.pinned (OpenSpec.ofChange bookClosedWrong)

/-- 'countinghouselaw10.ClashSwaps': WHATEVER THE INPUT: true; the input reads as it did. -/
def clashSwapsSpec : ChangeSpec := { name := "clashSwaps", fn := fun _ => fun
  | [d1, d2] => { results := [.lit (.bool true)], args := [d1, d2] }
  | _ => none }
def clashSwapsRow : OpenClaim := { program := "ytmljlkjomjflpaagreat", sum := "b2948c43c9a0cfbe49e55c090077063d1670443b4b333fc0c9405d4810a8e568", func := "countinghouse/countinghouselaw10.ClashSwaps", spec := "clashSwaps", inPlace := ["internal/bytealg.IndexByteString", "internal/bytealg.IndexString", "math/bits.Add64", "maps.clone"], unfollowed := true, recurses := true, named := ["internal/bytealg.MaxLen"], plainKeys := false, apart := false }
def ClashSwapsSaid : Prop := clashSwapsRow.holds Tryz.pinned (OpenSpec.ofChange clashSwapsSpec)

/-- ITS FALSE NEIGHBOUR: 'it returns false'. Refute it at one input. -/
def clashSwapsWrong : ChangeSpec := { name := "clashSwaps", fn := fun _ => fun
  | [d1, d2] => { results := [.lit (.bool false)], args := [d1, d2] }
  | _ => none }
def ClashSwapsWrongFalsely : Prop := clashSwapsRow.holds Tryz.pinned (OpenSpec.ofChange clashSwapsWrong)

/-- 'countinghouselaw10.ClashAlike': WHATEVER THE INPUT: true; the input reads as it did. -/
def clashAlikeSpec : ChangeSpec := { name := "clashAlike", fn := fun _ => fun
  | [d1, d2] => { results := [.lit (.bool true)], args := [d1, d2] }
  | _ => none }
def clashAlikeRow : OpenClaim := { program := "ytmljlkjomjflpaagreat", sum := "b2948c43c9a0cfbe49e55c090077063d1670443b4b333fc0c9405d4810a8e568", func := "countinghouse/countinghouselaw10.ClashAlike", spec := "clashAlike", inPlace := ["internal/bytealg.IndexByteString", "internal/bytealg.IndexString", "math/bits.Add64", "maps.clone"], unfollowed := true, recurses := true, named := ["internal/bytealg.MaxLen"], plainKeys := false, apart := false }
def ClashAlikeSaid : Prop := clashAlikeRow.holds Tryz.pinned (OpenSpec.ofChange clashAlikeSpec)

/-- ITS FALSE NEIGHBOUR: 'it returns false'. Refute it at one input. -/
def clashAlikeWrong : ChangeSpec := { name := "clashAlike", fn := fun _ => fun
  | [d1, d2] => { results := [.lit (.bool false)], args := [d1, d2] }
  | _ => none }
def ClashAlikeWrongFalsely : Prop := clashAlikeRow.holds Tryz.pinned (OpenSpec.ofChange clashAlikeWrong)

/- THE SECOND FORM. 'bulk': how many values and letters a reading holds, each counted each time it is reached (what is shared counts as often as it is met; a slice's spare places count too). A statement '..UptoSaid' is the law's where the arguments, and the package variables that the reading takes, are together of bulk at most 1048576: NARROWER than '..Said'. Prove '..Said' where nothing that the law and all that it calls make is longer than what came in: it says more and counts as full. Else prove '..UptoSaid'. A law counts once. -/
mutual
def uptoBulk {H : Type} : DataW H → Nat
  | .lit (.string bytes) => bytes.length + 1
  | .lit _ => 1
  | .nil => 1
  | .ptr d => uptoBulk d + 1
  | .slice elems spare => uptoBulkAll elems + uptoBulkAll spare + 1
  | .agg parts => uptoBulkAll parts + 1
  | .iface _ d => uptoBulk d + 1
  | .map entries => uptoBulkEntries entries + 1
  | .held _ => 1
def uptoBulkAll {H : Type} : List (DataW H) → Nat
  | [] => 0
  | d :: r => uptoBulk d + uptoBulkAll r
def uptoBulkEntries {H : Type} : List (Lit × DataW H) → Nat
  | [] => 0
  | x :: r => uptoBulkEntry x + uptoBulkEntries r
def uptoBulkEntry {H : Type} : Lit × DataW H → Nat
  | (.string bytes, d) => bytes.length + uptoBulk d + 1
  | (_, d) => uptoBulk d + 1
 end
def uptoSmall : (H : Type) → List (DataW H) → Bool := fun _ ds => decide (uptoBulkAll ds ≤ 1048576)
def OpenSpec.upto (s : _root_.Go.ChangeSpec) : _root_.Go.OpenSpec := { _root_.Go.OpenSpec.ofChange s with cond := some uptoSmall }

/-- 'countinghouselaw08.HoldPlays', WHERE WHAT IT READS IS OF BULK AT MOST 1048576: true; the input reads as it did. -/
def holdPlaysUptoRow : OpenClaim := { program := "ytmljlkjomjflpaagreat", sum := "b2948c43c9a0cfbe49e55c090077063d1670443b4b333fc0c9405d4810a8e568", func := "countinghouse/countinghouselaw08.HoldPlays", spec := "holdPlays", inPlace := ["internal/bytealg.IndexByteString", "internal/bytealg.IndexString", "maps.clone", "math/bits.Add64"], unfollowed := true, recurses := true, named := ["internal/bytealg.MaxLen"], plainKeys := false, apart := false, narrowed := true }
def HoldPlaysUptoSaid : Prop := holdPlaysUptoRow.holds Tryz.pinned (OpenSpec.upto holdPlaysSpec)

/-- 'countinghouselaw09.BookCopies', WHERE WHAT IT READS IS OF BULK AT MOST 1048576: true; the input reads as it did. -/
def bookCopiesUptoRow : OpenClaim := { program := "ytmljlkjomjflpaagreat", sum := "b2948c43c9a0cfbe49e55c090077063d1670443b4b333fc0c9405d4810a8e568", func := "countinghouse/countinghouselaw09.BookCopies", spec := "bookCopies", inPlace := ["internal/bytealg.IndexByteString", "internal/bytealg.IndexString", "math/bits.Add64", "maps.clone"], unfollowed := true, recurses := true, named := ["internal/bytealg.MaxLen"], plainKeys := false, apart := false, narrowed := true }
def BookCopiesUptoSaid : Prop := bookCopiesUptoRow.holds Tryz.pinned (OpenSpec.upto bookCopiesSpec)

/-- 'countinghouselaw09.BookAsks', WHERE WHAT IT READS IS OF BULK AT MOST 1048576: true; the input reads as it did. -/
def bookAsksUptoRow : OpenClaim := { program := "ytmljlkjomjflpaagreat", sum := "b2948c43c9a0cfbe49e55c090077063d1670443b4b333fc0c9405d4810a8e568", func := "countinghouse/countinghouselaw09.BookAsks", spec := "bookAsks", inPlace := ["internal/bytealg.IndexByteString", "internal/bytealg.IndexString", "math/bits.Add64", "maps.clone"], unfollowed := true, recurses := true, named := ["internal/bytealg.MaxLen"], plainKeys := false, apart := false, narrowed := true }
def BookAsksUptoSaid : Prop := bookAsksUptoRow.holds Tryz.pinned (OpenSpec.upto bookAsksSpec)

/-- 'countinghouselaw09.BookHolds', WHERE WHAT IT READS IS OF BULK AT MOST 1048576: true; the input reads as it did. -/
def bookHoldsUptoRow : OpenClaim := { program := "ytmljlkjomjflpaagreat", sum := "b2948c43c9a0cfbe49e55c090077063d1670443b4b333fc0c9405d4810a8e568", func := "countinghouse/countinghouselaw09.BookHolds", spec := "bookHolds", inPlace := ["internal/bytealg.IndexByteString", "internal/bytealg.IndexString", "math/bits.Add64", "maps.clone"], unfollowed := true, recurses := true, named := ["internal/bytealg.MaxLen"], plainKeys := false, apart := false, narrowed := true }
def BookHoldsUptoSaid : Prop := bookHoldsUptoRow.holds Tryz.pinned (OpenSpec.upto bookHoldsSpec)

/-- 'countinghouselaw09.BookDoes', WHERE WHAT IT READS IS OF BULK AT MOST 1048576: true; the input reads as it did. -/
def bookDoesUptoRow : OpenClaim := { program := "ytmljlkjomjflpaagreat", sum := "b2948c43c9a0cfbe49e55c090077063d1670443b4b333fc0c9405d4810a8e568", func := "countinghouse/countinghouselaw09.BookDoes", spec := "bookDoes", inPlace := ["internal/bytealg.IndexByteString", "internal/bytealg.IndexString", "math/bits.Add64", "maps.clone"], unfollowed := true, recurses := true, named := ["internal/bytealg.MaxLen"], plainKeys := false, apart := false, narrowed := true }
def BookDoesUptoSaid : Prop := bookDoesUptoRow.holds Tryz.pinned (OpenSpec.upto bookDoesSpec)

/-- 'countinghouselaw09.BookWeighs', WHERE WHAT IT READS IS OF BULK AT MOST 1048576: true; the input reads as it did. -/
def bookWeighsUptoRow : OpenClaim := { program := "ytmljlkjomjflpaagreat", sum := "b2948c43c9a0cfbe49e55c090077063d1670443b4b333fc0c9405d4810a8e568", func := "countinghouse/countinghouselaw09.BookWeighs", spec := "bookWeighs", inPlace := ["internal/bytealg.IndexByteString", "internal/bytealg.IndexString", "math/bits.Add64", "maps.clone"], unfollowed := true, recurses := true, named := ["internal/bytealg.MaxLen"], plainKeys := false, apart := false, narrowed := true }
def BookWeighsUptoSaid : Prop := bookWeighsUptoRow.holds Tryz.pinned (OpenSpec.upto bookWeighsSpec)

/-- 'countinghouselaw09.BookClosed', WHERE WHAT IT READS IS OF BULK AT MOST 1048576: true; the input reads as it did. -/
def bookClosedUptoRow : OpenClaim := { program := "ytmljlkjomjflpaagreat", sum := "b2948c43c9a0cfbe49e55c090077063d1670443b4b333fc0c9405d4810a8e568", func := "countinghouse/countinghouselaw09.BookClosed", spec := "bookClosed", inPlace := ["internal/bytealg.IndexByteString", "internal/bytealg.IndexString", "math/bits.Add64", "maps.clone"], unfollowed := true, recurses := true, named := ["internal/bytealg.MaxLen"], plainKeys := false, apart := false, narrowed := true }
def BookClosedUptoSaid : Prop := bookClosedUptoRow.holds Tryz.pinned (OpenSpec.upto bookClosedSpec)

/-- 'countinghouselaw10.ClashSwaps', WHERE WHAT IT READS IS OF BULK AT MOST 1048576: true; the input reads as it did. -/
def clashSwapsUptoRow : OpenClaim := { program := "ytmljlkjomjflpaagreat", sum := "b2948c43c9a0cfbe49e55c090077063d1670443b4b333fc0c9405d4810a8e568", func := "countinghouse/countinghouselaw10.ClashSwaps", spec := "clashSwaps", inPlace := ["internal/bytealg.IndexByteString", "internal/bytealg.IndexString", "math/bits.Add64", "maps.clone"], unfollowed := true, recurses := true, named := ["internal/bytealg.MaxLen"], plainKeys := false, apart := false, narrowed := true }
def ClashSwapsUptoSaid : Prop := clashSwapsUptoRow.holds Tryz.pinned (OpenSpec.upto clashSwapsSpec)

/-- 'countinghouselaw10.ClashAlike', WHERE WHAT IT READS IS OF BULK AT MOST 1048576: true; the input reads as it did. -/
def clashAlikeUptoRow : OpenClaim := { program := "ytmljlkjomjflpaagreat", sum := "b2948c43c9a0cfbe49e55c090077063d1670443b4b333fc0c9405d4810a8e568", func := "countinghouse/countinghouselaw10.ClashAlike", spec := "clashAlike", inPlace := ["internal/bytealg.IndexByteString", "internal/bytealg.IndexString", "math/bits.Add64", "maps.clone"], unfollowed := true, recurses := true, named := ["internal/bytealg.MaxLen"], plainKeys := false, apart := false, narrowed := true }
def ClashAlikeUptoSaid : Prop := clashAlikeUptoRow.holds Tryz.pinned (OpenSpec.upto clashAlikeSpec)

end Rows
end Go.Proofs.YtmljlkjomjflpaaGreat
