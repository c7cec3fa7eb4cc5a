/-
  No cell of these rows narrows 'for every input' (looked for: loops, veiled, ifaces, maps, wideKeys, modest, calm, conditions, laid).
  DERIVED. THE GIVEN ROWS OF THIS SEAT. 7 by the template 'for every input the law returns true; each argument reads behind the call as it read before'; 0 by the template 'total and deterministic' (their statements: YtogecfddkohigaaTotals.lean).
  GIVEN WITH THE SEED: the statements are not yours to turn. If you find one false, say at which input.
  Laid BY PROGRAM, IN A SANDBOX (cutbox-rows.mjs): the forced cells as the released guide's own fill.sh prints them over the translation f3906e355cd7d8da… (all of the seat's roots in one cut). By AI agents, Wed Nov 11 2026. No macro, syntax, notation, axiom, sorry.
-/
import Derived.Test.YtogecfddkohigaaChecked
import GoSem.Claim
import GoSem.ClaimJoined
import GoSem.ClaimMapViews
import Derived.JoinedTies
import Derived.KernelRfl
namespace Go.Proofs.Ytogecfddkohigaa
/- THE CELL 'sum', in the pinned program and in every row, IS THE sha256 OF THE DUMP (.gsa) THAT YtogecfddkohigaaProg.lean LOADS. Nothing in Lean hashes anything: it is a label: what it is worth is what the hold of that sum in a sandbox is worth. -/
noncomputable def Try.pinned : Pinned := { name := "ytogecfddkohigaa", sum := "f3906e355cd7d8da15555816f9c2eb418bd0e246fe5de4ff00529661b733b792", checked := Try.checked }
namespace Rows
def none {H : Type} : Left H := { results := [], args := [] }

/-- 'countinghouselaw10.ClashLists': WHATEVER THE INPUT: true; the input reads as it did. -/
def clashListsSpec : ChangeSpec := { name := "clashLists", fn := fun _ => fun
  | [d1, d2] => { results := [.lit (.bool true)], args := [d1, d2] }
  | _ => none }
def clashListsRow : OpenClaim := { program := "ytogecfddkohigaa", sum := "f3906e355cd7d8da15555816f9c2eb418bd0e246fe5de4ff00529661b733b792", func := "countinghouse/countinghouselaw10.ClashLists", spec := "clashLists", unfollowed := true, recurses := true, plainKeys := false, apart := false }
def ClashListsSaid : Prop := clashListsRow.holds Try.pinned (OpenSpec.ofChange clashListsSpec)

/-- ITS FALSE NEIGHBOUR: 'it returns false'. Refute it at one input. -/
def clashListsWrong : ChangeSpec := { name := "clashLists", fn := fun _ => fun
  | [d1, d2] => { results := [.lit (.bool false)], args := [d1, d2] }
  | _ => none }
def ClashListsWrongFalsely : Prop := clashListsRow.holds Try.pinned (OpenSpec.ofChange clashListsWrong)

/-- 'countinghouselaw06.OrderBack': WHATEVER THE INPUT: true; the input reads as it did. -/
def orderBackSpec : ChangeSpec := { name := "orderBack", fn := fun _ => fun
  | [d1, d2] => { results := [.lit (.bool true)], args := [d1, d2] }
  | _ => none }
def orderBackRow : OpenClaim := { program := "ytogecfddkohigaa", sum := "f3906e355cd7d8da15555816f9c2eb418bd0e246fe5de4ff00529661b733b792", func := "countinghouse/countinghouselaw06.OrderBack", spec := "orderBack", inPlace := ["internal/bytealg.IndexByteString", "internal/bytealg.IndexString"], unfollowed := true, recurses := true, named := ["internal/bytealg.MaxLen"], plainKeys := false, apart := false }
def OrderBackSaid : Prop := orderBackRow.holds Try.pinned (OpenSpec.ofChange orderBackSpec)

/-- ITS FALSE NEIGHBOUR: 'it returns false'. Refute it at one input. -/
def orderBackWrong : ChangeSpec := { name := "orderBack", fn := fun _ => fun
  | [d1, d2] => { results := [.lit (.bool false)], args := [d1, d2] }
  | _ => none }
def OrderBackWrongFalsely : Prop := orderBackRow.holds Try.pinned (OpenSpec.ofChange orderBackWrong)

/-- 'countinghouselaw06.OrderSame': WHATEVER THE INPUT: true; the input reads as it did. -/
def orderSameSpec : ChangeSpec := { name := "orderSame", fn := fun _ => fun
  | [d1, d2] => { results := [.lit (.bool true)], args := [d1, d2] }
  | _ => none }
def orderSameRow : OpenClaim := { program := "ytogecfddkohigaa", sum := "f3906e355cd7d8da15555816f9c2eb418bd0e246fe5de4ff00529661b733b792", func := "countinghouse/countinghouselaw06.OrderSame", spec := "orderSame", inPlace := ["internal/bytealg.IndexByteString", "internal/bytealg.IndexString"], unfollowed := true, recurses := true, named := ["internal/bytealg.MaxLen"], plainKeys := false, apart := false }
def OrderSameSaid : Prop := orderSameRow.holds Try.pinned (OpenSpec.ofChange orderSameSpec)

/-- ITS FALSE NEIGHBOUR: 'it returns false'. Refute it at one input. -/
def orderSameWrong : ChangeSpec := { name := "orderSame", fn := fun _ => fun
  | [d1, d2] => { results := [.lit (.bool false)], args := [d1, d2] }
  | _ => none }
def OrderSameWrongFalsely : Prop := orderSameRow.holds Try.pinned (OpenSpec.ofChange orderSameWrong)

/-- 'countinghouselaw06.OrderReads': WHATEVER THE INPUT: true; the input reads as it did. -/
def orderReadsSpec : ChangeSpec := { name := "orderReads", fn := fun _ => fun
  | [d] => { results := [.lit (.bool true)], args := [d] }
  | _ => none }
def orderReadsRow : OpenClaim := { program := "ytogecfddkohigaa", sum := "f3906e355cd7d8da15555816f9c2eb418bd0e246fe5de4ff00529661b733b792", func := "countinghouse/countinghouselaw06.OrderReads", spec := "orderReads", inPlace := ["internal/bytealg.IndexByteString", "internal/bytealg.IndexString"], unfollowed := true, recurses := true, named := ["internal/bytealg.MaxLen"], plainKeys := false, apart := false }
def OrderReadsSaid : Prop := orderReadsRow.holds Try.pinned (OpenSpec.ofChange orderReadsSpec)

/-- ITS FALSE NEIGHBOUR: 'it returns false'. Refute it at one input. -/
def orderReadsWrong : ChangeSpec := { name := "orderReads", fn := fun _ => fun
  | [d] => { results := [.lit (.bool false)], args := [d] }
  | _ => none }
def OrderReadsWrongFalsely : Prop := orderReadsRow.holds Try.pinned (OpenSpec.ofChange orderReadsWrong)

/-- 'countinghouselaw06.OrderReplies': WHATEVER THE INPUT: true; the input reads as it did. -/
def orderRepliesSpec : ChangeSpec := { name := "orderReplies", fn := fun _ => fun
  | [d1, d2] => { results := [.lit (.bool true)], args := [d1, d2] }
  | _ => none }
def orderRepliesRow : OpenClaim := { program := "ytogecfddkohigaa", sum := "f3906e355cd7d8da15555816f9c2eb418bd0e246fe5de4ff00529661b733b792", func := "countinghouse/countinghouselaw06.OrderReplies", spec := "orderReplies", inPlace := ["internal/bytealg.IndexByteString", "internal/bytealg.IndexString"], unfollowed := true, recurses := true, named := ["internal/bytealg.MaxLen"], plainKeys := false, apart := false }
def OrderRepliesSaid : Prop := orderRepliesRow.holds Try.pinned (OpenSpec.ofChange orderRepliesSpec)

/-- ITS FALSE NEIGHBOUR: 'it returns false'. Refute it at one input. -/
def orderRepliesWrong : ChangeSpec := { name := "orderReplies", fn := fun _ => fun
  | [d1, d2] => { results := [.lit (.bool false)], args := [d1, d2] }
  | _ => none }
def OrderRepliesWrongFalsely : Prop := orderRepliesRow.holds Try.pinned (OpenSpec.ofChange orderRepliesWrong)

/-- 'countinghouselaw06.OrderTouches': WHATEVER THE INPUT: true; the input reads as it did. -/
def orderTouchesSpec : ChangeSpec := { name := "orderTouches", fn := fun _ => fun
  | [d] => { results := [.lit (.bool true)], args := [d] }
  | _ => none }
def orderTouchesRow : OpenClaim := { program := "ytogecfddkohigaa", sum := "f3906e355cd7d8da15555816f9c2eb418bd0e246fe5de4ff00529661b733b792", func := "countinghouse/countinghouselaw06.OrderTouches", spec := "orderTouches", inPlace := ["internal/bytealg.IndexByteString", "internal/bytealg.IndexString"], unfollowed := true, recurses := true, named := ["internal/bytealg.MaxLen"], plainKeys := false, apart := false }
def OrderTouchesSaid : Prop := orderTouchesRow.holds Try.pinned (OpenSpec.ofChange orderTouchesSpec)

/-- ITS FALSE NEIGHBOUR: 'it returns false'. Refute it at one input. -/
def orderTouchesWrong : ChangeSpec := { name := "orderTouches", fn := fun _ => fun
  | [d] => { results := [.lit (.bool false)], args := [d] }
  | _ => none }
def OrderTouchesWrongFalsely : Prop := orderTouchesRow.holds Try.pinned (OpenSpec.ofChange orderTouchesWrong)

/-- 'countinghouselaw06.OrderBytes': WHATEVER THE INPUT: true; the input reads as it did. -/
def orderBytesSpec : ChangeSpec := { name := "orderBytes", fn := fun _ => fun
  | [d1, d2] => { results := [.lit (.bool true)], args := [d1, d2] }
  | _ => none }
def orderBytesRow : OpenClaim := { program := "ytogecfddkohigaa", sum := "f3906e355cd7d8da15555816f9c2eb418bd0e246fe5de4ff00529661b733b792", func := "countinghouse/countinghouselaw06.OrderBytes", spec := "orderBytes", inPlace := ["internal/bytealg.IndexByteString", "internal/bytealg.IndexString"], unfollowed := true, recurses := true, named := ["internal/bytealg.MaxLen"], plainKeys := false, apart := false }
def OrderBytesSaid : Prop := orderBytesRow.holds Try.pinned (OpenSpec.ofChange orderBytesSpec)

/-- ITS FALSE NEIGHBOUR: 'it returns false'. Refute it at one input. -/
def orderBytesWrong : ChangeSpec := { name := "orderBytes", fn := fun _ => fun
  | [d1, d2] => { results := [.lit (.bool false)], args := [d1, d2] }
  | _ => none }
def OrderBytesWrongFalsely : Prop := orderBytesRow.holds Try.pinned (OpenSpec.ofChange orderBytesWrong)

/- THE SECOND FORM. 'bulk': how many values and letters a reading holds, each counted each time it is reached (what is shared counts as often as it is met; a slice's spare places count too). A statement '..UptoSaid' is the law's where the arguments, and the package variables that the reading takes, are together of bulk at most 1048576: NARROWER than '..Said'. Prove '..Said' where nothing that the law and all that it calls make is longer than what came in: it says more and counts as full. Else prove '..UptoSaid'. A law counts once. -/
mutual
def uptoBulk {H : Type} : DataW H → Nat
  | .lit (.string bytes) => bytes.length + 1
  | .lit _ => 1
  | .nil => 1
  | .ptr d => uptoBulk d + 1
  | .slice elems spare => uptoBulkAll elems + uptoBulkAll spare + 1
  | .agg parts => uptoBulkAll parts + 1
  | .iface _ d => uptoBulk d + 1
  | .map entries => uptoBulkEntries entries + 1
  | .held _ => 1
def uptoBulkAll {H : Type} : List (DataW H) → Nat
  | [] => 0
  | d :: r => uptoBulk d + uptoBulkAll r
def uptoBulkEntries {H : Type} : List (Lit × DataW H) → Nat
  | [] => 0
  | x :: r => uptoBulkEntry x + uptoBulkEntries r
def uptoBulkEntry {H : Type} : Lit × DataW H → Nat
  | (.string bytes, d) => bytes.length + uptoBulk d + 1
  | (_, d) => uptoBulk d + 1
 end
def uptoSmall : (H : Type) → List (DataW H) → Bool := fun _ ds => decide (uptoBulkAll ds ≤ 1048576)
def OpenSpec.upto (s : _root_.Go.ChangeSpec) : _root_.Go.OpenSpec := { _root_.Go.OpenSpec.ofChange s with cond := some uptoSmall }

/-- 'countinghouselaw10.ClashLists', WHERE WHAT IT READS IS OF BULK AT MOST 1048576: true; the input reads as it did. -/
def clashListsUptoRow : OpenClaim := { program := "ytogecfddkohigaa", sum := "f3906e355cd7d8da15555816f9c2eb418bd0e246fe5de4ff00529661b733b792", func := "countinghouse/countinghouselaw10.ClashLists", spec := "clashLists", unfollowed := true, recurses := true, plainKeys := false, apart := false, narrowed := true }
def ClashListsUptoSaid : Prop := clashListsUptoRow.holds Try.pinned (OpenSpec.upto clashListsSpec)

/-- 'countinghouselaw06.OrderBack', WHERE WHAT IT READS IS OF BULK AT MOST 1048576: true; the input reads as it did. -/
def orderBackUptoRow : OpenClaim := { program := "ytogecfddkohigaa", sum := "f3906e355cd7d8da15555816f9c2eb418bd0e246fe5de4ff00529661b733b792", func := "countinghouse/countinghouselaw06.OrderBack", spec := "orderBack", inPlace := ["internal/bytealg.IndexByteString", "internal/bytealg.IndexString"], unfollowed := true, recurses := true, named := ["internal/bytealg.MaxLen"], plainKeys := false, apart := false, narrowed := true }
def OrderBackUptoSaid : Prop := orderBackUptoRow.holds Try.pinned (OpenSpec.upto orderBackSpec)

/-- 'countinghouselaw06.OrderSame', WHERE WHAT IT READS IS OF BULK AT MOST 1048576: true; the input reads as it did. -/
def orderSameUptoRow : OpenClaim := { program := "ytogecfddkohigaa", sum := "f3906e355cd7d8da15555816f9c2eb418bd0e246fe5de4ff00529661b733b792", func := "countinghouse/countinghouselaw06.OrderSame", spec := "orderSame", inPlace := ["internal/bytealg.IndexByteString", "internal/bytealg.IndexString"], unfollowed := true, recurses := true, named := ["internal/bytealg.MaxLen"], plainKeys := false, apart := false, narrowed := true }
def OrderSameUptoSaid : Prop := orderSameUptoRow.holds Try.pinned (OpenSpec.upto orderSameSpec)

/-- 'countinghouselaw06.OrderReads', WHERE WHAT IT READS IS OF BULK AT MOST 1048576: true; the input reads as it did. -/
def orderReadsUptoRow : OpenClaim := { program := "ytogecfddkohigaa", sum := "f3906e355cd7d8da15555816f9c2eb418bd0e246fe5de4ff00529661b733b792", func := "countinghouse/countinghouselaw06.OrderReads", spec := "orderReads", inPlace := ["internal/bytealg.IndexByteString", "internal/bytealg.IndexString"], unfollowed := true, recurses := true, named := ["internal/bytealg.MaxLen"], plainKeys := false, apart := false, narrowed := true }
def OrderReadsUptoSaid : Prop := orderReadsUptoRow.holds Try.pinned (OpenSpec.upto orderReadsSpec)

/-- 'countinghouselaw06.OrderReplies', WHERE WHAT IT READS IS OF BULK AT MOST 1048576: true; the input reads as it did. -/
def orderRepliesUptoRow : OpenClaim := { program := "ytogecfddkohigaa", sum := "f3906e355cd7d8da15555816f9c2eb418bd0e246fe5de4ff00529661b733b792", func := "countinghouse/countinghouselaw06.OrderReplies", spec := "orderReplies", inPlace := ["internal/bytealg.IndexByteString", "internal/bytealg.IndexString"], unfollowed := true, recurses := true, named := ["internal/bytealg.MaxLen"], plainKeys := false, apart := false, narrowed := true }
def OrderRepliesUptoSaid : Prop := orderRepliesUptoRow.holds Try.pinned (OpenSpec.upto orderRepliesSpec)

/-- 'countinghouselaw06.OrderTouches', WHERE WHAT IT READS IS OF BULK AT MOST 1048576: true; the input reads as it did. -/
def orderTouchesUptoRow : OpenClaim := { program := "ytogecfddkohigaa", sum := "f3906e355cd7d8da15555816f9c2eb418bd0e246fe5de4ff00529661b733b792", func := "countinghouse/countinghouselaw06.OrderTouches", spec := "orderTouches", inPlace := ["internal/bytealg.IndexByteString", "internal/bytealg.IndexString"], unfollowed := true, recurses := true, named := ["internal/bytealg.MaxLen"], plainKeys := false, apart := false, narrowed := true }
def OrderTouchesUptoSaid : Prop := orderTouchesUptoRow.holds Try.pinned (OpenSpec.upto orderTouchesSpec)

/-- 'countinghouselaw06.OrderBytes', WHERE WHAT IT READS IS OF BULK AT MOST 1048576: true; the input reads as it did. -/
def orderBytesUptoRow : OpenClaim := { program := "ytogecfddkohigaa", sum := "f3906e355cd7d8da15555816f9c2eb418bd0e246fe5de4ff00529661b733b792", func := "countinghouse/countinghouselaw06.OrderBytes", spec := "orderBytes", inPlace := ["internal/bytealg.IndexByteString", "internal/bytealg.IndexString"], unfollowed := true, recurses := true, named := ["internal/bytealg.MaxLen"], plainKeys := false, apart := false, narrowed := true }
def OrderBytesUptoSaid : Prop := orderBytesUptoRow.holds Try.pinned (OpenSpec.upto orderBytesSpec)

end Rows
end Go.Proofs.Ytogecfddkohigaa
