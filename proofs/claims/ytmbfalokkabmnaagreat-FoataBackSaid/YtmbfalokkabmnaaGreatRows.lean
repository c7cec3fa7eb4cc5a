/-
  No cell of these rows narrows 'for every input' (looked for: loops, veiled, ifaces, maps, wideKeys, modest, calm, conditions, laid).
  DERIVED. THE GIVEN ROWS OF THIS SEAT. 5 by the template 'for every input the law returns true; each argument reads behind the call as it read before'; 0 by the template 'total and deterministic' (their statements: YtmbfalokkabmnaaGreatTotals.lean).
  GIVEN WITH THE SEED: the statements are not yours to turn. If you find one false, say at which input.
  Laid BY PROGRAM, IN A SANDBOX (cutbox-rows.mjs): the forced cells as the released guide's own fill.sh prints them over the translation 7ed6c3bd2f8750cc… (all of the seat's roots in one cut). By AI agents, Wed Nov 11 2026. No macro, syntax, notation, axiom, sorry.
-/
import Derived.Test.YtmbfalokkabmnaaGreatChecked
import GoSem.Claim
import GoSem.ClaimJoined
import GoSem.ClaimMapViews
import Derived.JoinedTies
import Derived.KernelRfl
namespace Go.Proofs.YtmbfalokkabmnaaGreat
/- THE CELL 'sum', in the pinned program and in every row, IS THE sha256 OF THE DUMP (.gsa) THAT YtmbfalokkabmnaaGreatProg.lean LOADS. Nothing in Lean hashes anything: it is a label: what it is worth is what the hold of that sum in a sandbox is worth. -/
noncomputable def Tryz.pinned : Pinned := { name := "ytmbfalokkabmnaagreat", sum := "7ed6c3bd2f8750cc9b933d7449938e4122e5fea5b3c3a94736ca365ed0371190", checked := Tryz.checked }
namespace Rows
def none {H : Type} : Left H := { results := [], args := [] }

/-- 'countinghouselaw11.FoataSteps': WHATEVER THE INPUT: true; the input reads as it did. -/
def foataStepsSpec : ChangeSpec := { name := "foataSteps", fn := fun _ => fun
  | [d] => { results := [.lit (.bool true)], args := [d] }
  | _ => none }
def foataStepsRow : OpenClaim := { program := "ytmbfalokkabmnaagreat", sum := "7ed6c3bd2f8750cc9b933d7449938e4122e5fea5b3c3a94736ca365ed0371190", func := "countinghouse/countinghouselaw11.FoataSteps", spec := "foataSteps", inPlace := ["internal/bytealg.IndexByteString", "internal/bytealg.IndexString"], unfollowed := true, recurses := true, named := ["internal/bytealg.MaxLen"], plainKeys := false, apart := false }
def FoataStepsSaid : Prop := foataStepsRow.holds Tryz.pinned (OpenSpec.ofChange foataStepsSpec)

/-- ITS FALSE NEIGHBOUR: 'it returns false'. Refute it at one input. -/
def foataStepsWrong : ChangeSpec := { name := "foataSteps", fn := fun _ => fun
  | [d] => { results := [.lit (.bool false)], args := [d] }
  | _ => none }
def FoataStepsWrongFalsely : Prop := foataStepsRow.holds Tryz.pinned (OpenSpec.ofChange foataStepsWrong)

/-- 'countinghouselaw11.FoataImports': WHATEVER THE INPUT: true; the input reads as it did. -/
def foataImportsSpec : ChangeSpec := { name := "foataImports", fn := fun _ => fun
  | [d] => { results := [.lit (.bool true)], args := [d] }
  | _ => none }
def foataImportsRow : OpenClaim := { program := "ytmbfalokkabmnaagreat", sum := "7ed6c3bd2f8750cc9b933d7449938e4122e5fea5b3c3a94736ca365ed0371190", func := "countinghouse/countinghouselaw11.FoataImports", spec := "foataImports", inPlace := ["internal/bytealg.IndexByteString", "internal/bytealg.IndexString"], unfollowed := true, recurses := true, named := ["internal/bytealg.MaxLen"], plainKeys := false, apart := false }
def FoataImportsSaid : Prop := foataImportsRow.holds Tryz.pinned (OpenSpec.ofChange foataImportsSpec)

/-- ITS FALSE NEIGHBOUR: 'it returns false'. Refute it at one input. -/
def foataImportsWrong : ChangeSpec := { name := "foataImports", fn := fun _ => fun
  | [d] => { results := [.lit (.bool false)], args := [d] }
  | _ => none }
def FoataImportsWrongFalsely : Prop := foataImportsRow.holds Tryz.pinned (OpenSpec.ofChange foataImportsWrong)

/-- 'countinghouselaw11.FoataAlike': WHATEVER THE INPUT: true; the input reads as it did. -/
def foataAlikeSpec : ChangeSpec := { name := "foataAlike", fn := fun _ => fun
  | [d1, d2] => { results := [.lit (.bool true)], args := [d1, d2] }
  | _ => none }
def foataAlikeRow : OpenClaim := { program := "ytmbfalokkabmnaagreat", sum := "7ed6c3bd2f8750cc9b933d7449938e4122e5fea5b3c3a94736ca365ed0371190", func := "countinghouse/countinghouselaw11.FoataAlike", spec := "foataAlike", inPlace := ["internal/bytealg.IndexByteString", "internal/bytealg.IndexString"], unfollowed := true, recurses := true, named := ["internal/bytealg.MaxLen"], plainKeys := false, apart := false }
def FoataAlikeSaid : Prop := foataAlikeRow.holds Tryz.pinned (OpenSpec.ofChange foataAlikeSpec)

/-- ITS FALSE NEIGHBOUR: 'it returns false'. Refute it at one input. -/
def foataAlikeWrong : ChangeSpec := { name := "foataAlike", fn := fun _ => fun
  | [d1, d2] => { results := [.lit (.bool false)], args := [d1, d2] }
  | _ => none }
def FoataAlikeWrongFalsely : Prop := foataAlikeRow.holds Tryz.pinned (OpenSpec.ofChange foataAlikeWrong)

/-- 'countinghouselaw11.FoataBack': WHATEVER THE INPUT: true; the input reads as it did. -/
def foataBackSpec : ChangeSpec := { name := "foataBack", fn := fun _ => fun
  | [d1, d2] => { results := [.lit (.bool true)], args := [d1, d2] }
  | _ => none }
def foataBackRow : OpenClaim := { program := "ytmbfalokkabmnaagreat", sum := "7ed6c3bd2f8750cc9b933d7449938e4122e5fea5b3c3a94736ca365ed0371190", func := "countinghouse/countinghouselaw11.FoataBack", spec := "foataBack", inPlace := ["internal/bytealg.IndexByteString", "internal/bytealg.IndexString"], unfollowed := true, recurses := true, named := ["internal/bytealg.MaxLen"], plainKeys := false, apart := false }
def FoataBackSaid : Prop := foataBackRow.holds Tryz.pinned (OpenSpec.ofChange foataBackSpec)

/-- ITS FALSE NEIGHBOUR: 'it returns false'. Refute it at one input. -/
def foataBackWrong : ChangeSpec := { name := "foataBack", fn := fun _ => fun
  | [d1, d2] => { results := [.lit (.bool false)], args := [d1, d2] }
  | _ => none }
def FoataBackWrongFalsely : Prop := foataBackRow.holds Tryz.pinned (OpenSpec.ofChange foataBackWrong)

/-- 'countinghouselaw23.HistoryOne': WHATEVER THE INPUT: true; the input reads as it did. -/
def historyOneSpec : ChangeSpec := { name := "historyOne", fn := fun _ => fun
  | [d1, d2] => { results := [.lit (.bool true)], args := [d1, d2] }
  | _ => none }
def historyOneRow : OpenClaim := { program := "ytmbfalokkabmnaagreat", sum := "7ed6c3bd2f8750cc9b933d7449938e4122e5fea5b3c3a94736ca365ed0371190", func := "countinghouse/countinghouselaw23.HistoryOne", spec := "historyOne", unfollowed := true, recurses := true, plainKeys := false, apart := false }
def HistoryOneSaid : Prop := historyOneRow.holds Tryz.pinned (OpenSpec.ofChange historyOneSpec)

/-- ITS FALSE NEIGHBOUR: 'it returns false'. Refute it at one input. -/
def historyOneWrong : ChangeSpec := { name := "historyOne", fn := fun _ => fun
  | [d1, d2] => { results := [.lit (.bool false)], args := [d1, d2] }
  | _ => none }
def HistoryOneWrongFalsely : Prop := historyOneRow.holds Tryz.pinned (OpenSpec.ofChange historyOneWrong)

/- THE SECOND FORM. 'bulk': how many values and letters a reading holds, each counted each time it is reached (what is shared counts as often as it is met; a slice's spare places count too). A statement '..UptoSaid' is the law's where the arguments, and the package variables that the reading takes, are together of bulk at most 1048576: NARROWER than '..Said'. Prove '..Said' where nothing that the law and all that it calls make is longer than what came in: it says more and counts as full. Else prove '..UptoSaid'. A law counts once. -/
mutual
def uptoBulk {H : Type} : DataW H → Nat
  | .lit (.string bytes) => bytes.length + 1
  | .lit _ => 1
  | .nil => 1
  | .ptr d => uptoBulk d + 1
  | .slice elems spare => uptoBulkAll elems + uptoBulkAll spare + 1
  | .agg parts => uptoBulkAll parts + 1
  | .iface _ d => uptoBulk d + 1
  | .map entries => uptoBulkEntries entries + 1
  | .held _ => 1
def uptoBulkAll {H : Type} : List (DataW H) → Nat
  | [] => 0
  | d :: r => uptoBulk d + uptoBulkAll r
def uptoBulkEntries {H : Type} : List (Lit × DataW H) → Nat
  | [] => 0
  | x :: r => uptoBulkEntry x + uptoBulkEntries r
def uptoBulkEntry {H : Type} : Lit × DataW H → Nat
  | (.string bytes, d) => bytes.length + uptoBulk d + 1
  | (_, d) => uptoBulk d + 1
 end
def uptoSmall : (H : Type) → List (DataW H) → Bool := fun _ ds => decide (uptoBulkAll ds ≤ 1048576)
def OpenSpec.upto (s : _root_.Go.ChangeSpec) : _root_.Go.OpenSpec := { _root_.Go.OpenSpec.ofChange s with cond := some uptoSmall }

/-- 'countinghouselaw11.FoataSteps', WHERE WHAT IT READS IS OF BULK AT MOST 1048576: true; the input reads as it did. -/
def foataStepsUptoRow : OpenClaim := { program := "ytmbfalokkabmnaagreat", sum := "7ed6c3bd2f8750cc9b933d7449938e4122e5fea5b3c3a94736ca365ed0371190", func := "countinghouse/countinghouselaw11.FoataSteps", spec := "foataSteps", inPlace := ["internal/bytealg.IndexByteString", "internal/bytealg.IndexString"], unfollowed := true, recurses := true, named := ["internal/bytealg.MaxLen"], plainKeys := false, apart := false, narrowed := true }
def FoataStepsUptoSaid : Prop := foataStepsUptoRow.holds Tryz.pinned (OpenSpec.upto foataStepsSpec)

/-- 'countinghouselaw11.FoataImports', WHERE WHAT IT READS IS OF BULK AT MOST 1048576: true; the input reads as it did. -/
def foataImportsUptoRow : OpenClaim := { program := "ytmbfalokkabmnaagreat", sum := "7ed6c3bd2f8750cc9b933d7449938e4122e5fea5b3c3a94736ca365ed0371190", func := "countinghouse/countinghouselaw11.FoataImports", spec := "foataImports", inPlace := ["internal/bytealg.IndexByteString", "internal/bytealg.IndexString"], unfollowed := true, recurses := true, named := ["internal/bytealg.MaxLen"], plainKeys := false, apart := false, narrowed := true }
def FoataImportsUptoSaid : Prop := foataImportsUptoRow.holds Tryz.pinned (OpenSpec.upto foataImportsSpec)

/-- 'countinghouselaw11.FoataAlike', WHERE WHAT IT READS IS OF BULK AT MOST 1048576: true; the input reads as it did. -/
def foataAlikeUptoRow : OpenClaim := { program := "ytmbfalokkabmnaagreat", sum := "7ed6c3bd2f8750cc9b933d7449938e4122e5fea5b3c3a94736ca365ed0371190", func := "countinghouse/countinghouselaw11.FoataAlike", spec := "foataAlike", inPlace := ["internal/bytealg.IndexByteString", "internal/bytealg.IndexString"], unfollowed := true, recurses := true, named := ["internal/bytealg.MaxLen"], plainKeys := false, apart := false, narrowed := true }
def FoataAlikeUptoSaid : Prop := foataAlikeUptoRow.holds Tryz.pinned (OpenSpec.upto foataAlikeSpec)

/-- 'countinghouselaw11.FoataBack', WHERE WHAT IT READS IS OF BULK AT MOST 1048576: true; the input reads as it did. -/
def foataBackUptoRow : OpenClaim := { program := "ytmbfalokkabmnaagreat", sum := "7ed6c3bd2f8750cc9b933d7449938e4122e5fea5b3c3a94736ca365ed0371190", func := "countinghouse/countinghouselaw11.FoataBack", spec := "foataBack", inPlace := ["internal/bytealg.IndexByteString", "internal/bytealg.IndexString"], unfollowed := true, recurses := true, named := ["internal/bytealg.MaxLen"], plainKeys := false, apart := false, narrowed := true }
def FoataBackUptoSaid : Prop := foataBackUptoRow.holds Tryz.pinned (OpenSpec.upto foataBackSpec)

/-- 'countinghouselaw23.HistoryOne', WHERE WHAT IT READS IS OF BULK AT MOST 1048576: true; the input reads as it did. -/
def historyOneUptoRow : OpenClaim := { program := "ytmbfalokkabmnaagreat", sum := "7ed6c3bd2f8750cc9b933d7449938e4122e5fea5b3c3a94736ca365ed0371190", func := "countinghouse/countinghouselaw23.HistoryOne", spec := "historyOne", unfollowed := true, recurses := true, plainKeys := false, apart := false, narrowed := true }
def HistoryOneUptoSaid : Prop := historyOneUptoRow.holds Tryz.pinned (OpenSpec.upto historyOneSpec)

end Rows
end Go.Proofs.YtmbfalokkabmnaaGreat
