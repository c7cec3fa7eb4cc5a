/-
  No cell of these rows narrows 'for every input' (looked for: loops, veiled, ifaces, maps, wideKeys, modest, calm, conditions, laid).
  DERIVED. THE GIVEN ROWS OF THIS SEAT. 5 by the template 'for every input the law returns true; each argument reads behind the call as it read before'; 0 by the template 'total and deterministic' (their statements: YtcpjopmgiogfkaaTotals.lean).
  GIVEN WITH THE SEED: the statements are not yours to turn. If you find one false, say at which input.
  Laid BY PROGRAM, IN A SANDBOX (cutbox-rows.mjs): the forced cells as the released guide's own fill.sh prints them over the translation 5cf7359d143e0e61… (all of the seat's roots in one cut). By AI agents, Wed Nov 11 2026. No macro, syntax, notation, axiom, sorry.
-/
import Derived.Test.YtcpjopmgiogfkaaChecked
import GoSem.Claim
import GoSem.ClaimJoined
import GoSem.ClaimMapViews
import Derived.JoinedTies
import Derived.KernelRfl
namespace Go.Proofs.Ytcpjopmgiogfkaa
/- THE CELL 'sum', in the pinned program and in every row, IS THE sha256 OF THE DUMP (.gsa) THAT YtcpjopmgiogfkaaProg.lean LOADS. Nothing in Lean hashes anything: it is a label: what it is worth is what the hold of that sum in a sandbox is worth. -/
noncomputable def Try.pinned : Pinned := { name := "ytcpjopmgiogfkaa", sum := "5cf7359d143e0e6186db3ea2b82961bccba66f1fe3d8ac5e909edf87663e34df", checked := Try.checked }
namespace Rows
def none {H : Type} : Left H := { results := [], args := [] }

/-- 'countinghouselaw10.ClashSame': WHATEVER THE INPUT: true; the input reads as it did. -/
def clashSameSpec : ChangeSpec := { name := "clashSame", fn := fun _ => fun
  | [d1, d2] => { results := [.lit (.bool true)], args := [d1, d2] }
  | _ => none }
def clashSameRow : OpenClaim := { program := "ytcpjopmgiogfkaa", sum := "5cf7359d143e0e6186db3ea2b82961bccba66f1fe3d8ac5e909edf87663e34df", func := "countinghouse/countinghouselaw10.ClashSame", spec := "clashSame", unfollowed := true, recurses := true, plainKeys := false, apart := false }
def ClashSameSaid : Prop := clashSameRow.holds Try.pinned (OpenSpec.ofChange clashSameSpec)

/-- ITS FALSE NEIGHBOUR: 'it returns false'. Refute it at one input. -/
def clashSameWrong : ChangeSpec := { name := "clashSame", fn := fun _ => fun
  | [d1, d2] => { results := [.lit (.bool false)], args := [d1, d2] }
  | _ => none }
def ClashSameWrongFalsely : Prop := clashSameRow.holds Try.pinned (OpenSpec.ofChange clashSameWrong)

/-- 'countinghouselaw10.ClashRest': WHATEVER THE INPUT: true; the input reads as it did. -/
def clashRestSpec : ChangeSpec := { name := "clashRest", fn := fun _ => fun
  | [d1, d2] => { results := [.lit (.bool true)], args := [d1, d2] }
  | _ => none }
def clashRestRow : OpenClaim := { program := "ytcpjopmgiogfkaa", sum := "5cf7359d143e0e6186db3ea2b82961bccba66f1fe3d8ac5e909edf87663e34df", func := "countinghouse/countinghouselaw10.ClashRest", spec := "clashRest", unfollowed := true, recurses := true, plainKeys := false, apart := false }
def ClashRestSaid : Prop := clashRestRow.holds Try.pinned (OpenSpec.ofChange clashRestSpec)

/-- ITS FALSE NEIGHBOUR: 'it returns false'. Refute it at one input. -/
def clashRestWrong : ChangeSpec := { name := "clashRest", fn := fun _ => fun
  | [d1, d2] => { results := [.lit (.bool false)], args := [d1, d2] }
  | _ => none }
def ClashRestWrongFalsely : Prop := clashRestRow.holds Try.pinned (OpenSpec.ofChange clashRestWrong)

/-- 'countinghouselaw10.ClashMeets': WHATEVER THE INPUT: true; the input reads as it did. -/
def clashMeetsSpec : ChangeSpec := { name := "clashMeets", fn := fun _ => fun
  | [d1, d2, d3] => { results := [.lit (.bool true)], args := [d1, d2, d3] }
  | _ => none }
def clashMeetsRow : OpenClaim := { program := "ytcpjopmgiogfkaa", sum := "5cf7359d143e0e6186db3ea2b82961bccba66f1fe3d8ac5e909edf87663e34df", func := "countinghouse/countinghouselaw10.ClashMeets", spec := "clashMeets", unfollowed := true, recurses := true, plainKeys := false, apart := false }
def ClashMeetsSaid : Prop := clashMeetsRow.holds Try.pinned (OpenSpec.ofChange clashMeetsSpec)

/-- ITS FALSE NEIGHBOUR: 'it returns false'. Refute it at one input. -/
def clashMeetsWrong : ChangeSpec := { name := "clashMeets", fn := fun _ => fun
  | [d1, d2, d3] => { results := [.lit (.bool false)], args := [d1, d2, d3] }
  | _ => none }
def ClashMeetsWrongFalsely : Prop := clashMeetsRow.holds Try.pinned (OpenSpec.ofChange clashMeetsWrong)

/-- 'countinghouselaw10.ClashLists': WHATEVER THE INPUT: true; the input reads as it did. -/
def clashListsSpec : ChangeSpec := { name := "clashLists", fn := fun _ => fun
  | [d1, d2] => { results := [.lit (.bool true)], args := [d1, d2] }
  | _ => none }
def clashListsRow : OpenClaim := { program := "ytcpjopmgiogfkaa", sum := "5cf7359d143e0e6186db3ea2b82961bccba66f1fe3d8ac5e909edf87663e34df", func := "countinghouse/countinghouselaw10.ClashLists", spec := "clashLists", unfollowed := true, recurses := true, plainKeys := false, apart := false }
def ClashListsSaid : Prop := clashListsRow.holds Try.pinned (OpenSpec.ofChange clashListsSpec)

/-- ITS FALSE NEIGHBOUR: 'it returns false'. Refute it at one input. -/
def clashListsWrong : ChangeSpec := { name := "clashLists", fn := fun _ => fun
  | [d1, d2] => { results := [.lit (.bool false)], args := [d1, d2] }
  | _ => none }
def ClashListsWrongFalsely : Prop := clashListsRow.holds Try.pinned (OpenSpec.ofChange clashListsWrong)

/-- 'countinghouselaw10.ClashBegins': WHATEVER THE INPUT: true; the input reads as it did. -/
def clashBeginsSpec : ChangeSpec := { name := "clashBegins", fn := fun _ => fun
  | [d1, d2, d3] => { results := [.lit (.bool true)], args := [d1, d2, d3] }
  | _ => none }
def clashBeginsRow : OpenClaim := { program := "ytcpjopmgiogfkaa", sum := "5cf7359d143e0e6186db3ea2b82961bccba66f1fe3d8ac5e909edf87663e34df", func := "countinghouse/countinghouselaw10.ClashBegins", spec := "clashBegins", unfollowed := true, recurses := true, plainKeys := false, apart := false }
def ClashBeginsSaid : Prop := clashBeginsRow.holds Try.pinned (OpenSpec.ofChange clashBeginsSpec)

/-- ITS FALSE NEIGHBOUR: 'it returns false'. Refute it at one input. -/
def clashBeginsWrong : ChangeSpec := { name := "clashBegins", fn := fun _ => fun
  | [d1, d2, d3] => { results := [.lit (.bool false)], args := [d1, d2, d3] }
  | _ => none }
def ClashBeginsWrongFalsely : Prop := clashBeginsRow.holds Try.pinned (OpenSpec.ofChange clashBeginsWrong)

/- THE SECOND FORM. 'bulk': how many values and letters a reading holds, each counted each time it is reached (what is shared counts as often as it is met; a slice's spare places count too). A statement '..UptoSaid' is the law's where the arguments, and the package variables that the reading takes, are together of bulk at most 1048576: NARROWER than '..Said'. Prove '..Said' where nothing that the law and all that it calls make is longer than what came in: it says more and counts as full. Else prove '..UptoSaid'. A law counts once. -/
mutual
def uptoBulk {H : Type} : DataW H → Nat
  | .lit (.string bytes) => bytes.length + 1
  | .lit _ => 1
  | .nil => 1
  | .ptr d => uptoBulk d + 1
  | .slice elems spare => uptoBulkAll elems + uptoBulkAll spare + 1
  | .agg parts => uptoBulkAll parts + 1
  | .iface _ d => uptoBulk d + 1
  | .map entries => uptoBulkEntries entries + 1
  | .held _ => 1
def uptoBulkAll {H : Type} : List (DataW H) → Nat
  | [] => 0
  | d :: r => uptoBulk d + uptoBulkAll r
def uptoBulkEntries {H : Type} : List (Lit × DataW H) → Nat
  | [] => 0
  | x :: r => uptoBulkEntry x + uptoBulkEntries r
def uptoBulkEntry {H : Type} : Lit × DataW H → Nat
  | (.string bytes, d) => bytes.length + uptoBulk d + 1
  | (_, d) => uptoBulk d + 1
 end
def uptoSmall : (H : Type) → List (DataW H) → Bool := fun _ ds => decide (uptoBulkAll ds ≤ 1048576)
def OpenSpec.upto (s : _root_.Go.ChangeSpec) : _root_.Go.OpenSpec := { _root_.Go.OpenSpec.ofChange s with cond := some uptoSmall }

/-- 'countinghouselaw10.ClashSame', WHERE WHAT IT READS IS OF BULK AT MOST 1048576: true; the input reads as it did. -/
def clashSameUptoRow : OpenClaim := { program := "ytcpjopmgiogfkaa", sum := "5cf7359d143e0e6186db3ea2b82961bccba66f1fe3d8ac5e909edf87663e34df", func := "countinghouse/countinghouselaw10.ClashSame", spec := "clashSame", unfollowed := true, recurses := true, plainKeys := false, apart := false, narrowed := true }
def ClashSameUptoSaid : Prop := clashSameUptoRow.holds Try.pinned (OpenSpec.upto clashSameSpec)

/-- 'countinghouselaw10.ClashRest', WHERE WHAT IT READS IS OF BULK AT MOST 1048576: true; the input reads as it did. -/
def clashRestUptoRow : OpenClaim := { program := "ytcpjopmgiogfkaa", sum := "5cf7359d143e0e6186db3ea2b82961bccba66f1fe3d8ac5e909edf87663e34df", func := "countinghouse/countinghouselaw10.ClashRest", spec := "clashRest", unfollowed := true, recurses := true, plainKeys := false, apart := false, narrowed := true }
def ClashRestUptoSaid : Prop := clashRestUptoRow.holds Try.pinned (OpenSpec.upto clashRestSpec)

/-- 'countinghouselaw10.ClashMeets', WHERE WHAT IT READS IS OF BULK AT MOST 1048576: true; the input reads as it did. -/
def clashMeetsUptoRow : OpenClaim := { program := "ytcpjopmgiogfkaa", sum := "5cf7359d143e0e6186db3ea2b82961bccba66f1fe3d8ac5e909edf87663e34df", func := "countinghouse/countinghouselaw10.ClashMeets", spec := "clashMeets", unfollowed := true, recurses := true, plainKeys := false, apart := false, narrowed := true }
def ClashMeetsUptoSaid : Prop := clashMeetsUptoRow.holds Try.pinned (OpenSpec.upto clashMeetsSpec)

/-- 'countinghouselaw10.ClashLists', WHERE WHAT IT READS IS OF BULK AT MOST 1048576: true; the input reads as it did. -/
def clashListsUptoRow : OpenClaim := { program := "ytcpjopmgiogfkaa", sum := "5cf7359d143e0e6186db3ea2b82961bccba66f1fe3d8ac5e909edf87663e34df", func := "countinghouse/countinghouselaw10.ClashLists", spec := "clashLists", unfollowed := true, recurses := true, plainKeys := false, apart := false, narrowed := true }
def ClashListsUptoSaid : Prop := clashListsUptoRow.holds Try.pinned (OpenSpec.upto clashListsSpec)

/-- 'countinghouselaw10.ClashBegins', WHERE WHAT IT READS IS OF BULK AT MOST 1048576: true; the input reads as it did. -/
def clashBeginsUptoRow : OpenClaim := { program := "ytcpjopmgiogfkaa", sum := "5cf7359d143e0e6186db3ea2b82961bccba66f1fe3d8ac5e909edf87663e34df", func := "countinghouse/countinghouselaw10.ClashBegins", spec := "clashBegins", unfollowed := true, recurses := true, plainKeys := false, apart := false, narrowed := true }
def ClashBeginsUptoSaid : Prop := clashBeginsUptoRow.holds Try.pinned (OpenSpec.upto clashBeginsSpec)

end Rows
end Go.Proofs.Ytcpjopmgiogfkaa
