/-
  No cell of these rows narrows 'for every input' (looked for: loops, veiled, ifaces, maps, wideKeys, modest, calm, conditions, laid).
  DERIVED. THE GIVEN ROWS OF THIS SEAT. 8 by the template 'for every input the law returns true; each argument reads behind the call as it read before'; 0 by the template 'total and deterministic' (their statements: YtdkkblhfjblpkaaGreatTotals.lean).
  GIVEN WITH THE SEED: the statements are not yours to turn. If you find one false, say at which input.
  Laid BY PROGRAM, IN A SANDBOX (cutbox-rows.mjs): the forced cells as the released guide's own fill.sh prints them over the translation 0a74da6dc8aa87a0… (all of the seat's roots in one cut). By AI agents, Wed Nov 11 2026. No macro, syntax, notation, axiom, sorry.
-/
import Derived.Test.YtdkkblhfjblpkaaGreatChecked
import GoSem.Claim
import GoSem.ClaimJoined
import GoSem.ClaimMapViews
import Derived.JoinedTies
import Derived.KernelRfl
namespace Go.Proofs.YtdkkblhfjblpkaaGreat
/- THE CELL 'sum', in the pinned program and in every row, IS THE sha256 OF THE DUMP (.gsa) THAT YtdkkblhfjblpkaaGreatProg.lean LOADS. Nothing in Lean hashes anything: it is a label: what it is worth is what the hold of that sum in a sandbox is worth. -/
noncomputable def Tryz.pinned : Pinned := { name := "ytdkkblhfjblpkaagreat", sum := "0a74da6dc8aa87a0a42edefb5e5e78782ad85dd95bee4006a33d24ddd40a30e9", checked := Tryz.checked }
namespace Rows
def none {H : Type} : Left H := { results := [], args := [] }

/-- 'countinghouselaw11.FoataSteps': WHATEVER THE INPUT: true; the input reads as it did. -/
def foataStepsSpec : ChangeSpec := { name := "foataSteps", fn := fun _ => fun
  | [d] => { results := [.lit (.bool true)], args := [d] }
  | _ => none }
def foataStepsRow : OpenClaim := { program := "ytdkkblhfjblpkaagreat", sum := "0a74da6dc8aa87a0a42edefb5e5e78782ad85dd95bee4006a33d24ddd40a30e9", func := "countinghouse/countinghouselaw11.FoataSteps", spec := "foataSteps", inPlace := ["internal/bytealg.IndexByteString", "internal/bytealg.IndexString"], unfollowed := true, recurses := true, named := ["internal/bytealg.MaxLen"], plainKeys := false, apart := false }
def FoataStepsSaid : Prop := foataStepsRow.holds Tryz.pinned (OpenSpec.ofChange foataStepsSpec)

/-- ITS FALSE NEIGHBOUR: 'it returns false'. Refute it at one input. -/
def foataStepsWrong : ChangeSpec := { name := "foataSteps", fn := fun _ => fun
  | [d] => { results := [.lit (.bool false)], args := [d] }
  | _ => none }
def FoataStepsWrongFalsely : Prop := foataStepsRow.holds Tryz.pinned (OpenSpec.ofChange foataStepsWrong)

/-- 'countinghouselaw11.FoataImports': WHATEVER THE INPUT: true; the input reads as it did. -/
def foataImportsSpec : ChangeSpec := { name := "foataImports", fn := fun _ => fun
  | [d] => { results := [.lit (.bool true)], args := [d] }
  | _ => none }
def foataImportsRow : OpenClaim := { program := "ytdkkblhfjblpkaagreat", sum := "0a74da6dc8aa87a0a42edefb5e5e78782ad85dd95bee4006a33d24ddd40a30e9", func := "countinghouse/countinghouselaw11.FoataImports", spec := "foataImports", inPlace := ["internal/bytealg.IndexByteString", "internal/bytealg.IndexString"], unfollowed := true, recurses := true, named := ["internal/bytealg.MaxLen"], plainKeys := false, apart := false }
def FoataImportsSaid : Prop := foataImportsRow.holds Tryz.pinned (OpenSpec.ofChange foataImportsSpec)

/-- ITS FALSE NEIGHBOUR: 'it returns false'. Refute it at one input. -/
def foataImportsWrong : ChangeSpec := { name := "foataImports", fn := fun _ => fun
  | [d] => { results := [.lit (.bool false)], args := [d] }
  | _ => none }
def FoataImportsWrongFalsely : Prop := foataImportsRow.holds Tryz.pinned (OpenSpec.ofChange foataImportsWrong)

/-- 'countinghouselaw09.BookDoes': WHATEVER THE INPUT: true; the input reads as it did. -/
def bookDoesSpec : ChangeSpec := { name := "bookDoes", fn := fun _ => fun
  | [d] => { results := [.lit (.bool true)], args := [d] }
  | _ => none }
def bookDoesRow : OpenClaim := { program := "ytdkkblhfjblpkaagreat", sum := "0a74da6dc8aa87a0a42edefb5e5e78782ad85dd95bee4006a33d24ddd40a30e9", func := "countinghouse/countinghouselaw09.BookDoes", spec := "bookDoes", inPlace := ["internal/bytealg.IndexByteString", "internal/bytealg.IndexString", "math/bits.Add64", "maps.clone"], unfollowed := true, recurses := true, named := ["internal/bytealg.MaxLen"], plainKeys := false, apart := false }
def BookDoesSaid : Prop := bookDoesRow.holds Tryz.pinned (OpenSpec.ofChange bookDoesSpec)

/-- ITS FALSE NEIGHBOUR: 'it returns false'. Refute it at one input. -/
def bookDoesWrong : ChangeSpec := { name := "bookDoes", fn := fun _ => fun
  | [d] => { results := [.lit (.bool false)], args := [d] }
  | _ => none }
def BookDoesWrongFalsely : Prop := bookDoesRow.holds Tryz.pinned (OpenSpec.ofChange bookDoesWrong)

/-- 'countinghouselaw12.StreamMore': WHATEVER THE INPUT: true; the input reads as it did. -/
def streamMoreSpec : ChangeSpec := { name := "streamMore", fn := fun _ => fun
  | [d1, d2] => { results := [.lit (.bool true)], args := [d1, d2] }
  | _ => none }
def streamMoreRow : OpenClaim := { program := "ytdkkblhfjblpkaagreat", sum := "0a74da6dc8aa87a0a42edefb5e5e78782ad85dd95bee4006a33d24ddd40a30e9", func := "countinghouse/countinghouselaw12.StreamMore", spec := "streamMore", inPlace := ["internal/bytealg.IndexByteString", "internal/bytealg.IndexString", "math/bits.Add64", "maps.clone"], unfollowed := true, recurses := true, named := ["internal/bytealg.MaxLen"], plainKeys := false, apart := false }
def StreamMoreSaid : Prop := streamMoreRow.holds Tryz.pinned (OpenSpec.ofChange streamMoreSpec)

/-- ITS FALSE NEIGHBOUR: 'it returns false'. Refute it at one input. -/
def streamMoreWrong : ChangeSpec := { name := "streamMore", fn := fun _ => fun
  | [d1, d2] => { results := [.lit (.bool false)], args := [d1, d2] }
  | _ => none }
def StreamMoreWrongFalsely : Prop := streamMoreRow.holds Tryz.pinned (OpenSpec.ofChange streamMoreWrong)

/-- 'countinghouselaw12.StreamOnce': WHATEVER THE INPUT: true; the input reads as it did. -/
def streamOnceSpec : ChangeSpec := { name := "streamOnce", fn := fun _ => fun
  | [d1, d2, d3] => { results := [.lit (.bool true)], args := [d1, d2, d3] }
  | _ => none }
def streamOnceRow : OpenClaim := { program := "ytdkkblhfjblpkaagreat", sum := "0a74da6dc8aa87a0a42edefb5e5e78782ad85dd95bee4006a33d24ddd40a30e9", func := "countinghouse/countinghouselaw12.StreamOnce", spec := "streamOnce", inPlace := ["internal/bytealg.IndexByteString", "internal/bytealg.IndexString", "math/bits.Add64", "maps.clone"], unfollowed := true, recurses := true, named := ["internal/bytealg.MaxLen"], plainKeys := false, apart := false }
def StreamOnceSaid : Prop := streamOnceRow.holds Tryz.pinned (OpenSpec.ofChange streamOnceSpec)

/-- ITS FALSE NEIGHBOUR: 'it returns false'. Refute it at one input. -/
def streamOnceWrong : ChangeSpec := { name := "streamOnce", fn := fun _ => fun
  | [d1, d2, d3] => { results := [.lit (.bool false)], args := [d1, d2, d3] }
  | _ => none }
def StreamOnceWrongFalsely : Prop := streamOnceRow.holds Tryz.pinned (OpenSpec.ofChange streamOnceWrong)

/-- 'countinghouselaw12.StreamAlike': WHATEVER THE INPUT: true; the input reads as it did. -/
def streamAlikeSpec : ChangeSpec := { name := "streamAlike", fn := fun _ => fun
  | [d1, d2] => { results := [.lit (.bool true)], args := [d1, d2] }
  | _ => none }
def streamAlikeRow : OpenClaim := { program := "ytdkkblhfjblpkaagreat", sum := "0a74da6dc8aa87a0a42edefb5e5e78782ad85dd95bee4006a33d24ddd40a30e9", func := "countinghouse/countinghouselaw12.StreamAlike", spec := "streamAlike", inPlace := ["internal/bytealg.IndexByteString", "internal/bytealg.IndexString", "math/bits.Add64", "maps.clone"], unfollowed := true, recurses := true, named := ["internal/bytealg.MaxLen"], plainKeys := false, apart := false }
def StreamAlikeSaid : Prop := streamAlikeRow.holds Tryz.pinned (OpenSpec.ofChange streamAlikeSpec)

/-- ITS FALSE NEIGHBOUR: 'it returns false'. Refute it at one input. -/
def streamAlikeWrong : ChangeSpec := { name := "streamAlike", fn := fun _ => fun
  | [d1, d2] => { results := [.lit (.bool false)], args := [d1, d2] }
  | _ => none }
def StreamAlikeWrongFalsely : Prop := streamAlikeRow.holds Tryz.pinned (OpenSpec.ofChange streamAlikeWrong)

/-- 'countinghouselaw12.StreamLast': WHATEVER THE INPUT: true; the input reads as it did. -/
def streamLastSpec : ChangeSpec := { name := "streamLast", fn := fun _ => fun
  | [d1, d2] => { results := [.lit (.bool true)], args := [d1, d2] }
  | _ => none }
def streamLastRow : OpenClaim := { program := "ytdkkblhfjblpkaagreat", sum := "0a74da6dc8aa87a0a42edefb5e5e78782ad85dd95bee4006a33d24ddd40a30e9", func := "countinghouse/countinghouselaw12.StreamLast", spec := "streamLast", inPlace := ["internal/bytealg.IndexByteString", "internal/bytealg.IndexString", "math/bits.Add64", "maps.clone"], unfollowed := true, recurses := true, named := ["internal/bytealg.MaxLen"], plainKeys := false, apart := false }
def StreamLastSaid : Prop := streamLastRow.holds Tryz.pinned (OpenSpec.ofChange streamLastSpec)

/-- ITS FALSE NEIGHBOUR: 'it returns false'. Refute it at one input. -/
def streamLastWrong : ChangeSpec := { name := "streamLast", fn := fun _ => fun
  | [d1, d2] => { results := [.lit (.bool false)], args := [d1, d2] }
  | _ => none }
def StreamLastWrongFalsely : Prop := streamLastRow.holds Tryz.pinned (OpenSpec.ofChange streamLastWrong)

/-- 'countinghouselaw12.StreamPlays': WHATEVER THE INPUT: true; the input reads as it did. -/
def streamPlaysSpec : ChangeSpec := { name := "streamPlays", fn := fun _ => fun
  | [d] => { results := [.lit (.bool true)], args := [d] }
  | _ => none }
def streamPlaysRow : OpenClaim := { program := "ytdkkblhfjblpkaagreat", sum := "0a74da6dc8aa87a0a42edefb5e5e78782ad85dd95bee4006a33d24ddd40a30e9", func := "countinghouse/countinghouselaw12.StreamPlays", spec := "streamPlays", inPlace := ["internal/bytealg.IndexByteString", "internal/bytealg.IndexString", "math/bits.Add64", "maps.clone"], unfollowed := true, recurses := true, named := ["internal/bytealg.MaxLen"], plainKeys := false, apart := false }
def StreamPlaysSaid : Prop := streamPlaysRow.holds Tryz.pinned (OpenSpec.ofChange streamPlaysSpec)

/-- ITS FALSE NEIGHBOUR: 'it returns false'. Refute it at one input. -/
def streamPlaysWrong : ChangeSpec := { name := "streamPlays", fn := fun _ => fun
  | [d] => { results := [.lit (.bool false)], args := [d] }
  | _ => none }
def StreamPlaysWrongFalsely : Prop := streamPlaysRow.holds Tryz.pinned (OpenSpec.ofChange streamPlaysWrong)

/- THE SECOND FORM. 'bulk': how many values and letters a reading holds, each counted each time it is reached (what is shared counts as often as it is met; a slice's spare places count too). A statement '..UptoSaid' is the law's where the arguments, and the package variables that the reading takes, are together of bulk at most 1048576: NARROWER than '..Said'. Prove '..Said' where nothing that the law and all that it calls make is longer than what came in: it says more and counts as full. Else prove '..UptoSaid'. A law counts once. -/
mutual
def uptoBulk {H : Type} : DataW H → Nat
  | .lit (.string bytes) => bytes.length + 1
  | .lit _ => 1
  | .nil => 1
  | .ptr d => uptoBulk d + 1
  | .slice elems spare => uptoBulkAll elems + uptoBulkAll spare + 1
  | .agg parts => uptoBulkAll parts + 1
  | .iface _ d => uptoBulk d + 1
  | .map entries => uptoBulkEntries entries + 1
  | .held _ => 1
def uptoBulkAll {H : Type} : List (DataW H) → Nat
  | [] => 0
  | d :: r => uptoBulk d + uptoBulkAll r
def uptoBulkEntries {H : Type} : List (Lit × DataW H) → Nat
  | [] => 0
  | x :: r => uptoBulkEntry x + uptoBulkEntries r
def uptoBulkEntry {H : Type} : Lit × DataW H → Nat
  | (.string bytes, d) => bytes.length + uptoBulk d + 1
  | (_, d) => uptoBulk d + 1
 end
def uptoSmall : (H : Type) → List (DataW H) → Bool := fun _ ds => decide (uptoBulkAll ds ≤ 1048576)
def OpenSpec.upto (s : _root_.Go.ChangeSpec) : _root_.Go.OpenSpec := { _root_.Go.OpenSpec.ofChange s with cond := some uptoSmall }

/-- 'countinghouselaw11.FoataSteps', WHERE WHAT IT READS IS OF BULK AT MOST 1048576: true; the input reads as it did. -/
def foataStepsUptoRow : OpenClaim := { program := "ytdkkblhfjblpkaagreat", sum := "0a74da6dc8aa87a0a42edefb5e5e78782ad85dd95bee4006a33d24ddd40a30e9", func := "countinghouse/countinghouselaw11.FoataSteps", spec := "foataSteps", inPlace := ["internal/bytealg.IndexByteString", "internal/bytealg.IndexString"], unfollowed := true, recurses := true, named := ["internal/bytealg.MaxLen"], plainKeys := false, apart := false, narrowed := true }
def FoataStepsUptoSaid : Prop := foataStepsUptoRow.holds Tryz.pinned (OpenSpec.upto foataStepsSpec)

/-- 'countinghouselaw11.FoataImports', WHERE WHAT IT READS IS OF BULK AT MOST 1048576: true; the input reads as it did. -/
def foataImportsUptoRow : OpenClaim := { program := "ytdkkblhfjblpkaagreat", sum := "0a74da6dc8aa87a0a42edefb5e5e78782ad85dd95bee4006a33d24ddd40a30e9", func := "countinghouse/countinghouselaw11.FoataImports", spec := "foataImports", inPlace := ["internal/bytealg.IndexByteString", "internal/bytealg.IndexString"], unfollowed := true, recurses := true, named := ["internal/bytealg.MaxLen"], plainKeys := false, apart := false, narrowed := true }
def FoataImportsUptoSaid : Prop := foataImportsUptoRow.holds Tryz.pinned (OpenSpec.upto foataImportsSpec)

/-- 'countinghouselaw09.BookDoes', WHERE WHAT IT READS IS OF BULK AT MOST 1048576: true; the input reads as it did. -/
def bookDoesUptoRow : OpenClaim := { program := "ytdkkblhfjblpkaagreat", sum := "0a74da6dc8aa87a0a42edefb5e5e78782ad85dd95bee4006a33d24ddd40a30e9", func := "countinghouse/countinghouselaw09.BookDoes", spec := "bookDoes", inPlace := ["internal/bytealg.IndexByteString", "internal/bytealg.IndexString", "math/bits.Add64", "maps.clone"], unfollowed := true, recurses := true, named := ["internal/bytealg.MaxLen"], plainKeys := false, apart := false, narrowed := true }
def BookDoesUptoSaid : Prop := bookDoesUptoRow.holds Tryz.pinned (OpenSpec.upto bookDoesSpec)

/-- 'countinghouselaw12.StreamMore', WHERE WHAT IT READS IS OF BULK AT MOST 1048576: true; the input reads as it did. -/
def streamMoreUptoRow : OpenClaim := { program := "ytdkkblhfjblpkaagreat", sum := "0a74da6dc8aa87a0a42edefb5e5e78782ad85dd95bee4006a33d24ddd40a30e9", func := "countinghouse/countinghouselaw12.StreamMore", spec := "streamMore", inPlace := ["internal/bytealg.IndexByteString", "internal/bytealg.IndexString", "math/bits.Add64", "maps.clone"], unfollowed := true, recurses := true, named := ["internal/bytealg.MaxLen"], plainKeys := false, apart := false, narrowed := true }
def StreamMoreUptoSaid : Prop := streamMoreUptoRow.holds Tryz.pinned (OpenSpec.upto streamMoreSpec)

/-- 'countinghouselaw12.StreamOnce', WHERE WHAT IT READS IS OF BULK AT MOST 1048576: true; the input reads as it did. -/
def streamOnceUptoRow : OpenClaim := { program := "ytdkkblhfjblpkaagreat", sum := "0a74da6dc8aa87a0a42edefb5e5e78782ad85dd95bee4006a33d24ddd40a30e9", func := "countinghouse/countinghouselaw12.StreamOnce", spec := "streamOnce", inPlace := ["internal/bytealg.IndexByteString", "internal/bytealg.IndexString", "math/bits.Add64", "maps.clone"], unfollowed := true, recurses := true, named := ["internal/bytealg.MaxLen"], plainKeys := false, apart := false, narrowed := true }
def StreamOnceUptoSaid : Prop := streamOnceUptoRow.holds Tryz.pinned (OpenSpec.upto streamOnceSpec)

/-- 'countinghouselaw12.StreamAlike', WHERE WHAT IT READS IS OF BULK AT MOST 1048576: true; the input reads as it did. -/
def streamAlikeUptoRow : OpenClaim := { program := "ytdkkblhfjblpkaagreat", sum := "0a74da6dc8aa87a0a42edefb5e5e78782ad85dd95bee4006a33d24ddd40a30e9", func := "countinghouse/countinghouselaw12.StreamAlike", spec := "streamAlike", inPlace := ["internal/bytealg.IndexByteString", "internal/bytealg.IndexString", "math/bits.Add64", "maps.clone"], unfollowed := true, recurses := true, named := ["internal/bytealg.MaxLen"], plainKeys := false, apart := false, narrowed := true }
def StreamAlikeUptoSaid : Prop := streamAlikeUptoRow.holds Tryz.pinned (OpenSpec.upto streamAlikeSpec)

/-- 'countinghouselaw12.StreamLast', WHERE WHAT IT READS IS OF BULK AT MOST 1048576: true; the input reads as it did. -/
def streamLastUptoRow : OpenClaim := { program := "ytdkkblhfjblpkaagreat", sum := "0a74da6dc8aa87a0a42edefb5e5e78782ad85dd95bee4006a33d24ddd40a30e9", func := "countinghouse/countinghouselaw12.StreamLast", spec := "streamLast", inPlace := ["internal/bytealg.IndexByteString", "internal/bytealg.IndexString", "math/bits.Add64", "maps.clone"], unfollowed := true, recurses := true, named := ["internal/bytealg.MaxLen"], plainKeys := false, apart := false, narrowed := true }
def StreamLastUptoSaid : Prop := streamLastUptoRow.holds Tryz.pinned (OpenSpec.upto streamLastSpec)

/-- 'countinghouselaw12.StreamPlays', WHERE WHAT IT READS IS OF BULK AT MOST 1048576: true; the input reads as it did. -/
def streamPlaysUptoRow : OpenClaim := { program := "ytdkkblhfjblpkaagreat", sum := "0a74da6dc8aa87a0a42edefb5e5e78782ad85dd95bee4006a33d24ddd40a30e9", func := "countinghouse/countinghouselaw12.StreamPlays", spec := "streamPlays", inPlace := ["internal/bytealg.IndexByteString", "internal/bytealg.IndexString", "math/bits.Add64", "maps.clone"], unfollowed := true, recurses := true, named := ["internal/bytealg.MaxLen"], plainKeys := false, apart := false, narrowed := true }
def StreamPlaysUptoSaid : Prop := streamPlaysUptoRow.holds Tryz.pinned (OpenSpec.upto streamPlaysSpec)

end Rows
end Go.Proofs.YtdkkblhfjblpkaaGreat
