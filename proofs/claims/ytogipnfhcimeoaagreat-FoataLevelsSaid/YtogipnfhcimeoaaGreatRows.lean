/-
  No cell of these rows narrows 'for every input' (looked for: loops, veiled, ifaces, maps, wideKeys, modest, calm, conditions, laid).
  DERIVED. THE GIVEN ROWS OF THIS SEAT. 12 by the template 'for every input the law returns true; each argument reads behind the call as it read before'; 0 by the template 'total and deterministic' (their statements: YtogipnfhcimeoaaGreatTotals.lean).
  GIVEN WITH THE SEED: the statements are not yours to turn. If you find one false, say at which input.
  Laid BY PROGRAM, IN A SANDBOX (cutbox-rows.mjs): the forced cells as the released guide's own fill.sh prints them over the translation 809f34316d1a6c7d… (all of the seat's roots in one cut). By AI agents, Wed Nov 11 2026. No macro, syntax, notation, axiom, sorry.
-/
import Derived.Test.YtogipnfhcimeoaaGreatChecked
import GoSem.Claim
import GoSem.ClaimJoined
import GoSem.ClaimMapViews
import Derived.JoinedTies
import Derived.KernelRfl
namespace Go.Proofs.YtogipnfhcimeoaaGreat
/- THE CELL 'sum', in the pinned program and in every row, IS THE sha256 OF THE DUMP (.gsa) THAT YtogipnfhcimeoaaGreatProg.lean LOADS. Nothing in Lean hashes anything: it is a label: what it is worth is what the hold of that sum in a sandbox is worth. -/
noncomputable def Tryz.pinned : Pinned := { name := "ytogipnfhcimeoaagreat", sum := "809f34316d1a6c7d1af52aedc73b55d749edff250db5125120c726854dcae042", checked := Tryz.checked }
namespace Rows
def none {H : Type} : Left H := { results := [], args := [] }

/-- 'countinghouselaw11.FoataSteps': WHATEVER THE INPUT: true; the input reads as it did. -/
def foataStepsSpec : ChangeSpec := { name := "foataSteps", fn := fun _ => fun
  | [d] => { results := [.lit (.bool true)], args := [d] }
  | _ => none }
def foataStepsRow : OpenClaim := { program := "ytogipnfhcimeoaagreat", sum := "809f34316d1a6c7d1af52aedc73b55d749edff250db5125120c726854dcae042", func := "countinghouse/countinghouselaw11.FoataSteps", spec := "foataSteps", inPlace := ["internal/bytealg.IndexByteString", "internal/bytealg.IndexString"], unfollowed := true, recurses := true, named := ["internal/bytealg.MaxLen"], plainKeys := false, apart := false }
def FoataStepsSaid : Prop := foataStepsRow.holds Tryz.pinned (OpenSpec.ofChange foataStepsSpec)

/-- ITS FALSE NEIGHBOUR: 'it returns false'. Refute it at one input. -/
def foataStepsWrong : ChangeSpec := { name := "foataSteps", fn := fun _ => fun
  | [d] => { results := [.lit (.bool false)], args := [d] }
  | _ => none }
def FoataStepsWrongFalsely : Prop := foataStepsRow.holds Tryz.pinned (OpenSpec.ofChange foataStepsWrong)

/-- 'countinghouselaw11.FoataImports': WHATEVER THE INPUT: true; the input reads as it did. -/
def foataImportsSpec : ChangeSpec := { name := "foataImports", fn := fun _ => fun
  | [d] => { results := [.lit (.bool true)], args := [d] }
  | _ => none }
def foataImportsRow : OpenClaim := { program := "ytogipnfhcimeoaagreat", sum := "809f34316d1a6c7d1af52aedc73b55d749edff250db5125120c726854dcae042", func := "countinghouse/countinghouselaw11.FoataImports", spec := "foataImports", inPlace := ["internal/bytealg.IndexByteString", "internal/bytealg.IndexString"], unfollowed := true, recurses := true, named := ["internal/bytealg.MaxLen"], plainKeys := false, apart := false }
def FoataImportsSaid : Prop := foataImportsRow.holds Tryz.pinned (OpenSpec.ofChange foataImportsSpec)

/-- ITS FALSE NEIGHBOUR: 'it returns false'. Refute it at one input. -/
def foataImportsWrong : ChangeSpec := { name := "foataImports", fn := fun _ => fun
  | [d] => { results := [.lit (.bool false)], args := [d] }
  | _ => none }
def FoataImportsWrongFalsely : Prop := foataImportsRow.holds Tryz.pinned (OpenSpec.ofChange foataImportsWrong)

/-- 'countinghouselaw11.FoataLevels': WHATEVER THE INPUT: true; the input reads as it did. -/
def foataLevelsSpec : ChangeSpec := { name := "foataLevels", fn := fun _ => fun
  | [d] => { results := [.lit (.bool true)], args := [d] }
  | _ => none }
def foataLevelsRow : OpenClaim := { program := "ytogipnfhcimeoaagreat", sum := "809f34316d1a6c7d1af52aedc73b55d749edff250db5125120c726854dcae042", func := "countinghouse/countinghouselaw11.FoataLevels", spec := "foataLevels", inPlace := ["internal/bytealg.IndexByteString", "internal/bytealg.IndexString"], unfollowed := true, recurses := true, named := ["internal/bytealg.MaxLen"], plainKeys := false, apart := false }
def FoataLevelsSaid : Prop := foataLevelsRow.holds Tryz.pinned (OpenSpec.ofChange foataLevelsSpec)

/-- ITS FALSE NEIGHBOUR: 'it returns false'. Refute it at one input. -/
def foataLevelsWrong : ChangeSpec := { name := "foataLevels", fn := fun _ => fun
  | [d] => { results := [.lit (.bool false)], args := [d] }
  | _ => none }
def FoataLevelsWrongFalsely : Prop := foataLevelsRow.holds Tryz.pinned (OpenSpec.ofChange foataLevelsWrong)

/-- 'countinghouselaw11.FoataMore': WHATEVER THE INPUT: true; the input reads as it did. -/
def foataMoreSpec : ChangeSpec := { name := "foataMore", fn := fun _ => fun
  | [d] => { results := [.lit (.bool true)], args := [d] }
  | _ => none }
def foataMoreRow : OpenClaim := { program := "ytogipnfhcimeoaagreat", sum := "809f34316d1a6c7d1af52aedc73b55d749edff250db5125120c726854dcae042", func := "countinghouse/countinghouselaw11.FoataMore", spec := "foataMore", inPlace := ["internal/bytealg.IndexByteString", "internal/bytealg.IndexString"], unfollowed := true, recurses := true, named := ["internal/bytealg.MaxLen"], plainKeys := false, apart := false }
def FoataMoreSaid : Prop := foataMoreRow.holds Tryz.pinned (OpenSpec.ofChange foataMoreSpec)

/-- ITS FALSE NEIGHBOUR: 'it returns false'. Refute it at one input. -/
def foataMoreWrong : ChangeSpec := { name := "foataMore", fn := fun _ => fun
  | [d] => { results := [.lit (.bool false)], args := [d] }
  | _ => none }
def FoataMoreWrongFalsely : Prop := foataMoreRow.holds Tryz.pinned (OpenSpec.ofChange foataMoreWrong)

/-- 'countinghouselaw11.FoataBegins': WHATEVER THE INPUT: true; the input reads as it did. -/
def foataBeginsSpec : ChangeSpec := { name := "foataBegins", fn := fun _ => fun
  | [d1, d2] => { results := [.lit (.bool true)], args := [d1, d2] }
  | _ => none }
def foataBeginsRow : OpenClaim := { program := "ytogipnfhcimeoaagreat", sum := "809f34316d1a6c7d1af52aedc73b55d749edff250db5125120c726854dcae042", func := "countinghouse/countinghouselaw11.FoataBegins", spec := "foataBegins", inPlace := ["internal/bytealg.IndexByteString", "internal/bytealg.IndexString"], unfollowed := true, recurses := true, named := ["internal/bytealg.MaxLen"], plainKeys := false, apart := false }
def FoataBeginsSaid : Prop := foataBeginsRow.holds Tryz.pinned (OpenSpec.ofChange foataBeginsSpec)

/-- ITS FALSE NEIGHBOUR: 'it returns false'. Refute it at one input. -/
def foataBeginsWrong : ChangeSpec := { name := "foataBegins", fn := fun _ => fun
  | [d1, d2] => { results := [.lit (.bool false)], args := [d1, d2] }
  | _ => none }
def FoataBeginsWrongFalsely : Prop := foataBeginsRow.holds Tryz.pinned (OpenSpec.ofChange foataBeginsWrong)

/-- 'countinghouselaw11.FoataAlike': WHATEVER THE INPUT: true; the input reads as it did. -/
def foataAlikeSpec : ChangeSpec := { name := "foataAlike", fn := fun _ => fun
  | [d1, d2] => { results := [.lit (.bool true)], args := [d1, d2] }
  | _ => none }
def foataAlikeRow : OpenClaim := { program := "ytogipnfhcimeoaagreat", sum := "809f34316d1a6c7d1af52aedc73b55d749edff250db5125120c726854dcae042", func := "countinghouse/countinghouselaw11.FoataAlike", spec := "foataAlike", inPlace := ["internal/bytealg.IndexByteString", "internal/bytealg.IndexString"], unfollowed := true, recurses := true, named := ["internal/bytealg.MaxLen"], plainKeys := false, apart := false }
def FoataAlikeSaid : Prop := foataAlikeRow.holds Tryz.pinned (OpenSpec.ofChange foataAlikeSpec)

/-- ITS FALSE NEIGHBOUR: 'it returns false'. Refute it at one input. -/
def foataAlikeWrong : ChangeSpec := { name := "foataAlike", fn := fun _ => fun
  | [d1, d2] => { results := [.lit (.bool false)], args := [d1, d2] }
  | _ => none }
def FoataAlikeWrongFalsely : Prop := foataAlikeRow.holds Tryz.pinned (OpenSpec.ofChange foataAlikeWrong)

/-- 'countinghouselaw11.FoataBack': WHATEVER THE INPUT: true; the input reads as it did. -/
def foataBackSpec : ChangeSpec := { name := "foataBack", fn := fun _ => fun
  | [d1, d2] => { results := [.lit (.bool true)], args := [d1, d2] }
  | _ => none }
def foataBackRow : OpenClaim := { program := "ytogipnfhcimeoaagreat", sum := "809f34316d1a6c7d1af52aedc73b55d749edff250db5125120c726854dcae042", func := "countinghouse/countinghouselaw11.FoataBack", spec := "foataBack", inPlace := ["internal/bytealg.IndexByteString", "internal/bytealg.IndexString"], unfollowed := true, recurses := true, named := ["internal/bytealg.MaxLen"], plainKeys := false, apart := false }
def FoataBackSaid : Prop := foataBackRow.holds Tryz.pinned (OpenSpec.ofChange foataBackSpec)

/-- ITS FALSE NEIGHBOUR: 'it returns false'. Refute it at one input. -/
def foataBackWrong : ChangeSpec := { name := "foataBack", fn := fun _ => fun
  | [d1, d2] => { results := [.lit (.bool false)], args := [d1, d2] }
  | _ => none }
def FoataBackWrongFalsely : Prop := foataBackRow.holds Tryz.pinned (OpenSpec.ofChange foataBackWrong)

/-- 'countinghouselaw09.BookCopies': WHATEVER THE INPUT: true; the input reads as it did. -/
def bookCopiesSpec : ChangeSpec := { name := "bookCopies", fn := fun _ => fun
  | [d1, d2] => { results := [.lit (.bool true)], args := [d1, d2] }
  | _ => none }
def bookCopiesRow : OpenClaim := { program := "ytogipnfhcimeoaagreat", sum := "809f34316d1a6c7d1af52aedc73b55d749edff250db5125120c726854dcae042", func := "countinghouse/countinghouselaw09.BookCopies", spec := "bookCopies", inPlace := ["internal/bytealg.IndexByteString", "internal/bytealg.IndexString", "math/bits.Add64", "maps.clone"], unfollowed := true, recurses := true, named := ["internal/bytealg.MaxLen"], plainKeys := false, apart := false }
def BookCopiesSaid : Prop := bookCopiesRow.holds Tryz.pinned (OpenSpec.ofChange bookCopiesSpec)

/-- ITS FALSE NEIGHBOUR: 'it returns false'. Refute it at one input. -/
def bookCopiesWrong : ChangeSpec := { name := "bookCopies", fn := fun _ => fun
  | [d1, d2] => { results := [.lit (.bool false)], args := [d1, d2] }
  | _ => none }
def BookCopiesWrongFalsely : Prop := bookCopiesRow.holds Tryz.pinned (OpenSpec.ofChange bookCopiesWrong)

/-- 'countinghouselaw09.BookDoes': WHATEVER THE INPUT: true; the input reads as it did. -/
def bookDoesSpec : ChangeSpec := { name := "bookDoes", fn := fun _ => fun
  | [d] => { results := [.lit (.bool true)], args := [d] }
  | _ => none }
def bookDoesRow : OpenClaim := { program := "ytogipnfhcimeoaagreat", sum := "809f34316d1a6c7d1af52aedc73b55d749edff250db5125120c726854dcae042", func := "countinghouse/countinghouselaw09.BookDoes", spec := "bookDoes", inPlace := ["internal/bytealg.IndexByteString", "internal/bytealg.IndexString", "math/bits.Add64", "maps.clone"], unfollowed := true, recurses := true, named := ["internal/bytealg.MaxLen"], plainKeys := false, apart := false }
def BookDoesSaid : Prop := bookDoesRow.holds Tryz.pinned (OpenSpec.ofChange bookDoesSpec)

/-- ITS FALSE NEIGHBOUR: 'it returns false'. Refute it at one input. -/
def bookDoesWrong : ChangeSpec := { name := "bookDoes", fn := fun _ => fun
  | [d] => { results := [.lit (.bool false)], args := [d] }
  | _ => none }
def BookDoesWrongFalsely : Prop := bookDoesRow.holds Tryz.pinned (OpenSpec.ofChange bookDoesWrong)

/-- 'countinghouselaw09.BookWeighs': WHATEVER THE INPUT: true; the input reads as it did. -/
def bookWeighsSpec : ChangeSpec := { name := "bookWeighs", fn := fun _ => fun
  | [d] => { results := [.lit (.bool true)], args := [d] }
  | _ => none }
def bookWeighsRow : OpenClaim := { program := "ytogipnfhcimeoaagreat", sum := "809f34316d1a6c7d1af52aedc73b55d749edff250db5125120c726854dcae042", func := "countinghouse/countinghouselaw09.BookWeighs", spec := "bookWeighs", inPlace := ["internal/bytealg.IndexByteString", "internal/bytealg.IndexString", "math/bits.Add64", "maps.clone"], unfollowed := true, recurses := true, named := ["internal/bytealg.MaxLen"], plainKeys := false, apart := false }
def BookWeighsSaid : Prop := bookWeighsRow.holds Tryz.pinned (OpenSpec.ofChange bookWeighsSpec)

/-- ITS FALSE NEIGHBOUR: 'it returns false'. Refute it at one input. -/
def bookWeighsWrong : ChangeSpec := { name := "bookWeighs", fn := fun _ => fun
  | [d] => { results := [.lit (.bool false)], args := [d] }
  | _ => none }
def BookWeighsWrongFalsely : Prop := bookWeighsRow.holds Tryz.pinned (OpenSpec.ofChange bookWeighsWrong)

/-- 'countinghouselaw10.ClashSwaps': WHATEVER THE INPUT: true; the input reads as it did. -/
def clashSwapsSpec : ChangeSpec := { name := "clashSwaps", fn := fun _ => fun
  | [d1, d2] => { results := [.lit (.bool true)], args := [d1, d2] }
  | _ => none }
def clashSwapsRow : OpenClaim := { program := "ytogipnfhcimeoaagreat", sum := "809f34316d1a6c7d1af52aedc73b55d749edff250db5125120c726854dcae042", func := "countinghouse/countinghouselaw10.ClashSwaps", spec := "clashSwaps", inPlace := ["internal/bytealg.IndexByteString", "internal/bytealg.IndexString", "math/bits.Add64", "maps.clone"], unfollowed := true, recurses := true, named := ["internal/bytealg.MaxLen"], plainKeys := false, apart := false }
def ClashSwapsSaid : Prop := clashSwapsRow.holds Tryz.pinned (OpenSpec.ofChange clashSwapsSpec)

/-- ITS FALSE NEIGHBOUR: 'it returns false'. Refute it at one input. -/
def clashSwapsWrong : ChangeSpec := { name := "clashSwaps", fn := fun _ => fun
  | [d1, d2] => { results := [.lit (.bool false)], args := [d1, d2] }
  | _ => none }
def ClashSwapsWrongFalsely : Prop := clashSwapsRow.holds Tryz.pinned (OpenSpec.ofChange clashSwapsWrong)

/-- 'countinghouselaw10.ClashAlike': WHATEVER THE INPUT: true; the input reads as it did. -/
def clashAlikeSpec : ChangeSpec := { name := "clashAlike", fn := fun _ => fun
  | [d1, d2] => { results := [.lit (.bool true)], args := [d1, d2] }
  | _ => none }
def clashAlikeRow : OpenClaim := { program := "ytogipnfhcimeoaagreat", sum := "809f34316d1a6c7d1af52aedc73b55d749edff250db5125120c726854dcae042", func := "countinghouse/countinghouselaw10.ClashAlike", spec := "clashAlike", inPlace := ["internal/bytealg.IndexByteString", "internal/bytealg.IndexString", "math/bits.Add64", "maps.clone"], unfollowed := true, recurses := true, named := ["internal/bytealg.MaxLen"], plainKeys := false, apart := false }
def ClashAlikeSaid : Prop := clashAlikeRow.holds Tryz.pinned (OpenSpec.ofChange clashAlikeSpec)

/-- ITS FALSE NEIGHBOUR: 'it returns false'. Refute it at one input. -/
def clashAlikeWrong : ChangeSpec := { name := "clashAlike", fn := fun _ => fun
  | [d1, d2] => { results := [.lit (.bool false)], args := [d1, d2] }
  | _ => none }
def ClashAlikeWrongFalsely : Prop := clashAlikeRow.holds Tryz.pinned (OpenSpec.ofChange clashAlikeWrong)

/- THE SECOND FORM. 'bulk': how many values and letters a reading holds, each counted each time it is reached (what is shared counts as often as it is met; a slice's spare places count too). A statement '..UptoSaid' is the law's where the arguments, and the package variables that the reading takes, are together of bulk at most 1048576: NARROWER than '..Said'. Prove '..Said' where nothing that the law and all that it calls make is longer than what came in: it says more and counts as full. Else prove '..UptoSaid'. A law counts once. -/
mutual
def uptoBulk {H : Type} : DataW H → Nat
  | .lit (.string bytes) => bytes.length + 1
  | .lit _ => 1
  | .nil => 1
  | .ptr d => uptoBulk d + 1
  | .slice elems spare => uptoBulkAll elems + uptoBulkAll spare + 1
  | .agg parts => uptoBulkAll parts + 1
  | .iface _ d => uptoBulk d + 1
  | .map entries => uptoBulkEntries entries + 1
  | .held _ => 1
def uptoBulkAll {H : Type} : List (DataW H) → Nat
  | [] => 0
  | d :: r => uptoBulk d + uptoBulkAll r
def uptoBulkEntries {H : Type} : List (Lit × DataW H) → Nat
  | [] => 0
  | x :: r => uptoBulkEntry x + uptoBulkEntries r
def uptoBulkEntry {H : Type} : Lit × DataW H → Nat
  | (.string bytes, d) => bytes.length + uptoBulk d + 1
  | (_, d) => uptoBulk d + 1
 end
def uptoSmall : (H : Type) → List (DataW H) → Bool := fun _ ds => decide (uptoBulkAll ds ≤ 1048576)
def OpenSpec.upto (s : _root_.Go.ChangeSpec) : _root_.Go.OpenSpec := { _root_.Go.OpenSpec.ofChange s with cond := some uptoSmall }

/-- 'countinghouselaw11.FoataSteps', WHERE WHAT IT READS IS OF BULK AT MOST 1048576: true; the input reads as it did. -/
def foataStepsUptoRow : OpenClaim := { program := "ytogipnfhcimeoaagreat", sum := "809f34316d1a6c7d1af52aedc73b55d749edff250db5125120c726854dcae042", func := "countinghouse/countinghouselaw11.FoataSteps", spec := "foataSteps", inPlace := ["internal/bytealg.IndexByteString", "internal/bytealg.IndexString"], unfollowed := true, recurses := true, named := ["internal/bytealg.MaxLen"], plainKeys := false, apart := false, narrowed := true }
def FoataStepsUptoSaid : Prop := foataStepsUptoRow.holds Tryz.pinned (OpenSpec.upto foataStepsSpec)

/-- 'countinghouselaw11.FoataImports', WHERE WHAT IT READS IS OF BULK AT MOST 1048576: true; the input reads as it did. -/
def foataImportsUptoRow : OpenClaim := { program := "ytogipnfhcimeoaagreat", sum := "809f34316d1a6c7d1af52aedc73b55d749edff250db5125120c726854dcae042", func := "countinghouse/countinghouselaw11.FoataImports", spec := "foataImports", inPlace := ["internal/bytealg.IndexByteString", "internal/bytealg.IndexString"], unfollowed := true, recurses := true, named := ["internal/bytealg.MaxLen"], plainKeys := false, apart := false, narrowed := true }
def FoataImportsUptoSaid : Prop := foataImportsUptoRow.holds Tryz.pinned (OpenSpec.upto foataImportsSpec)

/-- 'countinghouselaw11.FoataLevels', WHERE WHAT IT READS IS OF BULK AT MOST 1048576: true; the input reads as it did. -/
def foataLevelsUptoRow : OpenClaim := { program := "ytogipnfhcimeoaagreat", sum := "809f34316d1a6c7d1af52aedc73b55d749edff250db5125120c726854dcae042", func := "countinghouse/countinghouselaw11.FoataLevels", spec := "foataLevels", inPlace := ["internal/bytealg.IndexByteString", "internal/bytealg.IndexString"], unfollowed := true, recurses := true, named := ["internal/bytealg.MaxLen"], plainKeys := false, apart := false, narrowed := true }
def FoataLevelsUptoSaid : Prop := foataLevelsUptoRow.holds Tryz.pinned (OpenSpec.upto foataLevelsSpec)

/-- 'countinghouselaw11.FoataMore', WHERE WHAT IT READS IS OF BULK AT MOST 1048576: true; the input reads as it did. -/
def foataMoreUptoRow : OpenClaim := { program := "ytogipnfhcimeoaagreat", sum := "809f34316d1a6c7d1af52aedc73b55d749edff250db5125120c726854dcae042", func := "countinghouse/countinghouselaw11.FoataMore", spec := "foataMore", inPlace := ["internal/bytealg.IndexByteString", "internal/bytealg.IndexString"], unfollowed := true, recurses := true, named := ["internal/bytealg.MaxLen"], plainKeys := false, apart := false, narrowed := true }
def FoataMoreUptoSaid : Prop := foataMoreUptoRow.holds Tryz.pinned (OpenSpec.upto foataMoreSpec)

/-- 'countinghouselaw11.FoataBegins', WHERE WHAT IT READS IS OF BULK AT MOST 1048576: true; the input reads as it did. -/
def foataBeginsUptoRow : OpenClaim := { program := "ytogipnfhcimeoaagreat", sum := "809f34316d1a6c7d1af52aedc73b55d749edff250db5125120c726854dcae042", func := "countinghouse/countinghouselaw11.FoataBegins", spec := "foataBegins", inPlace := ["internal/bytealg.IndexByteString", "internal/bytealg.IndexString"], unfollowed := true, recurses := true, named := ["internal/bytealg.MaxLen"], plainKeys := false, apart := false, narrowed := true }
def FoataBeginsUptoSaid : Prop := foataBeginsUptoRow.holds Tryz.pinned (OpenSpec.upto foataBeginsSpec)

/-- 'countinghouselaw11.FoataAlike', WHERE WHAT IT READS IS OF BULK AT MOST 1048576: true; the input reads as it did. -/
def foataAlikeUptoRow : OpenClaim := { program := "ytogipnfhcimeoaagreat", sum := "809f34316d1a6c7d1af52aedc73b55d749edff250db5125120c726854dcae042", func := "countinghouse/countinghouselaw11.FoataAlike", spec := "foataAlike", inPlace := ["internal/bytealg.IndexByteString", "internal/bytealg.IndexString"], unfollowed := true, recurses := true, named := ["internal/bytealg.MaxLen"], plainKeys := false, apart := false, narrowed := true }
def FoataAlikeUptoSaid : Prop := foataAlikeUptoRow.holds Tryz.pinned (OpenSpec.upto foataAlikeSpec)

/-- 'countinghouselaw11.FoataBack', WHERE WHAT IT READS IS OF BULK AT MOST 1048576: true; the input reads as it did. -/
def foataBackUptoRow : OpenClaim := { program := "ytogipnfhcimeoaagreat", sum := "809f34316d1a6c7d1af52aedc73b55d749edff250db5125120c726854dcae042", func := "countinghouse/countinghouselaw11.FoataBack", spec := "foataBack", inPlace := ["internal/bytealg.IndexByteString", "internal/bytealg.IndexString"], unfollowed := true, recurses := true, named := ["internal/bytealg.MaxLen"], plainKeys := false, apart := false, narrowed := true }
def FoataBackUptoSaid : Prop := foataBackUptoRow.holds Tryz.pinned (OpenSpec.upto foataBackSpec)

/-- 'countinghouselaw09.BookCopies', WHERE WHAT IT READS IS OF BULK AT MOST 1048576: true; the input reads as it did. -/
def bookCopiesUptoRow : OpenClaim := { program := "ytogipnfhcimeoaagreat", sum := "809f34316d1a6c7d1af52aedc73b55d749edff250db5125120c726854dcae042", func := "countinghouse/countinghouselaw09.BookCopies", spec := "bookCopies", inPlace := ["internal/bytealg.IndexByteString", "internal/bytealg.IndexString", "math/bits.Add64", "maps.clone"], unfollowed := true, recurses := true, named := ["internal/bytealg.MaxLen"], plainKeys := false, apart := false, narrowed := true }
def BookCopiesUptoSaid : Prop := bookCopiesUptoRow.holds Tryz.pinned (OpenSpec.upto bookCopiesSpec)

/-- 'countinghouselaw09.BookDoes', WHERE WHAT IT READS IS OF BULK AT MOST 1048576: true; the input reads as it did. -/
def bookDoesUptoRow : OpenClaim := { program := "ytogipnfhcimeoaagreat", sum := "809f34316d1a6c7d1af52aedc73b55d749edff250db5125120c726854dcae042", func := "countinghouse/countinghouselaw09.BookDoes", spec := "bookDoes", inPlace := ["internal/bytealg.IndexByteString", "internal/bytealg.IndexString", "math/bits.Add64", "maps.clone"], unfollowed := true, recurses := true, named := ["internal/bytealg.MaxLen"], plainKeys := false, apart := false, narrowed := true }
def BookDoesUptoSaid : Prop := bookDoesUptoRow.holds Tryz.pinned (OpenSpec.upto bookDoesSpec)

/-- 'countinghouselaw09.BookWeighs', WHERE WHAT IT READS IS OF BULK AT MOST 1048576: true; the input reads as it did. -/
def bookWeighsUptoRow : OpenClaim := { program := "ytogipnfhcimeoaagreat", sum := "809f34316d1a6c7d1af52aedc73b55d749edff250db5125120c726854dcae042", func := "countinghouse/countinghouselaw09.BookWeighs", spec := "bookWeighs", inPlace := ["internal/bytealg.IndexByteString", "internal/bytealg.IndexString", "math/bits.Add64", "maps.clone"], unfollowed := true, recurses := true, named := ["internal/bytealg.MaxLen"], plainKeys := false, apart := false, narrowed := true }
def BookWeighsUptoSaid : Prop := bookWeighsUptoRow.holds Tryz.pinned (OpenSpec.upto bookWeighsSpec)

/-- 'countinghouselaw10.ClashSwaps', WHERE WHAT IT READS IS OF BULK AT MOST 1048576: true; the input reads as it did. -/
def clashSwapsUptoRow : OpenClaim := { program := "ytogipnfhcimeoaagreat", sum := "809f34316d1a6c7d1af52aedc73b55d749edff250db5125120c726854dcae042", func := "countinghouse/countinghouselaw10.ClashSwaps", spec := "clashSwaps", inPlace := ["internal/bytealg.IndexByteString", "internal/bytealg.IndexString", "math/bits.Add64", "maps.clone"], unfollowed := true, recurses := true, named := ["internal/bytealg.MaxLen"], plainKeys := false, apart := false, narrowed := true }
def ClashSwapsUptoSaid : Prop := clashSwapsUptoRow.holds Tryz.pinned (OpenSpec.upto clashSwapsSpec)

/-- 'countinghouselaw10.ClashAlike', WHERE WHAT IT READS IS OF BULK AT MOST 1048576: true; the input reads as it did. -/
def clashAlikeUptoRow : OpenClaim := { program := "ytogipnfhcimeoaagreat", sum := "809f34316d1a6c7d1af52aedc73b55d749edff250db5125120c726854dcae042", func := "countinghouse/countinghouselaw10.ClashAlike", spec := "clashAlike", inPlace := ["internal/bytealg.IndexByteString", "internal/bytealg.IndexString", "math/bits.Add64", "maps.clone"], unfollowed := true, recurses := true, named := ["internal/bytealg.MaxLen"], plainKeys := false, apart := false, narrowed := true }
def ClashAlikeUptoSaid : Prop := clashAlikeUptoRow.holds Tryz.pinned (OpenSpec.upto clashAlikeSpec)

end Rows
end Go.Proofs.YtogipnfhcimeoaaGreat
