/-
  No cell of these rows narrows 'for every input' (looked for: loops, veiled, ifaces, maps, wideKeys, modest, calm, conditions, laid).
  DERIVED. THE GIVEN ROWS OF THIS SEAT. 3 by the template 'for every input the law returns true; each argument reads behind the call as it read before'; 0 by the template 'total and deterministic' (their statements: YthmgchohbdlonaaGreatTotals.lean).
  GIVEN WITH THE SEED: the statements are not yours to turn. If you find one false, say at which input.
  Laid BY PROGRAM, IN A SANDBOX (cutbox-rows.mjs): the forced cells as the released guide's own fill.sh prints them over the translation 876794e8fc240998… (all of the seat's roots in one cut). By AI agents, Wed Nov 11 2026. No macro, syntax, notation, axiom, sorry.
-/
import Derived.Test.YthmgchohbdlonaaGreatChecked
import GoSem.Claim
import GoSem.ClaimJoined
import GoSem.ClaimMapViews
import Derived.JoinedTies
import Derived.KernelRfl
namespace Go.Proofs.YthmgchohbdlonaaGreat
/- THE CELL 'sum', in the pinned program and in every row, IS THE sha256 OF THE DUMP (.gsa) THAT YthmgchohbdlonaaGreatProg.lean LOADS. Nothing in Lean hashes anything: it is a label: what it is worth is what the hold of that sum in a sandbox is worth. -/
noncomputable def Tryz.pinned : Pinned := { name := "ythmgchohbdlonaagreat", sum := "876794e8fc2409986d771b8888d7a43c89c43179720937fd24cee493c94e3cc2", checked := Tryz.checked }
namespace Rows
def none {H : Type} : Left H := { results := [], args := [] }

/-- 'countinghouselaw08.HoldPlays': WHATEVER THE INPUT: true; the input reads as it did. -/
def holdPlaysSpec : ChangeSpec := { name := "holdPlays", fn := fun _ => fun
  | [d] => { results := [.lit (.bool true)], args := [d] }
  | _ => none }
def holdPlaysRow : OpenClaim := { program := "ythmgchohbdlonaagreat", sum := "876794e8fc2409986d771b8888d7a43c89c43179720937fd24cee493c94e3cc2", func := "countinghouse/countinghouselaw08.HoldPlays", spec := "holdPlays", inPlace := ["internal/bytealg.IndexByteString", "internal/bytealg.IndexString", "maps.clone", "math/bits.Add64"], unfollowed := true, recurses := true, named := ["internal/bytealg.MaxLen"], plainKeys := false, apart := false }
def HoldPlaysSaid : Prop := holdPlaysRow.holds Tryz.pinned (OpenSpec.ofChange holdPlaysSpec)

/-- ITS FALSE NEIGHBOUR: 'it returns false'. Refute it at one input. -/
def holdPlaysWrong : ChangeSpec := { name := "holdPlays", fn := fun _ => fun
  | [d] => { results := [.lit (.bool false)], args := [d] }
  | _ => none }
def HoldPlaysWrongFalsely : Prop := holdPlaysRow.holds Tryz.pinned (OpenSpec.ofChange holdPlaysWrong)

/-- 'countinghouselaw08.HoldAside': WHATEVER THE INPUT: true; the input reads as it did. -/
def holdAsideSpec : ChangeSpec := { name := "holdAside", fn := fun _ => fun
  | [d] => { results := [.lit (.bool true)], args := [d] }
  | _ => none }
def holdAsideRow : OpenClaim := { program := "ythmgchohbdlonaagreat", sum := "876794e8fc2409986d771b8888d7a43c89c43179720937fd24cee493c94e3cc2", func := "countinghouse/countinghouselaw08.HoldAside", spec := "holdAside", inPlace := ["internal/bytealg.IndexByteString", "internal/bytealg.IndexString", "maps.clone", "math/bits.Add64"], unfollowed := true, recurses := true, named := ["internal/bytealg.MaxLen"], plainKeys := false, apart := false }
def HoldAsideSaid : Prop := holdAsideRow.holds Tryz.pinned (OpenSpec.ofChange holdAsideSpec)

/-- ITS FALSE NEIGHBOUR: 'it returns false'. Refute it at one input. -/
def holdAsideWrong : ChangeSpec := { name := "holdAside", fn := fun _ => fun
  | [d] => { results := [.lit (.bool false)], args := [d] }
  | _ => none }
def HoldAsideWrongFalsely : Prop := holdAsideRow.holds Tryz.pinned (OpenSpec.ofChange holdAsideWrong)

/-- 'countinghouselaw08.HoldBack': WHATEVER THE INPUT: true; the input reads as it did. -/
def holdBackSpec : ChangeSpec := { name := "holdBack", fn := fun _ => fun
  | [d1, d2] => { results := [.lit (.bool true)], args := [d1, d2] }
  | _ => none }
def holdBackRow : OpenClaim := { program := "ythmgchohbdlonaagreat", sum := "876794e8fc2409986d771b8888d7a43c89c43179720937fd24cee493c94e3cc2", func := "countinghouse/countinghouselaw08.HoldBack", spec := "holdBack", inPlace := ["internal/bytealg.IndexByteString", "internal/bytealg.IndexString", "maps.clone", "math/bits.Add64"], unfollowed := true, recurses := true, named := ["internal/bytealg.MaxLen"], plainKeys := false, apart := false }
def HoldBackSaid : Prop := holdBackRow.holds Tryz.pinned (OpenSpec.ofChange holdBackSpec)

/-- ITS FALSE NEIGHBOUR: 'it returns false'. Refute it at one input. -/
def holdBackWrong : ChangeSpec := { name := "holdBack", fn := fun _ => fun
  | [d1, d2] => { results := [.lit (.bool false)], args := [d1, d2] }
  | _ => none }
def HoldBackWrongFalsely : Prop := holdBackRow.holds Tryz.pinned (OpenSpec.ofChange holdBackWrong)

/- THE SECOND FORM. 'bulk': how many values and letters a reading holds, each counted each time it is reached (what is shared counts as often as it is met; a slice's spare places count too). A statement '..UptoSaid' is the law's where the arguments, and the package variables that the reading takes, are together of bulk at most 1048576: NARROWER than '..Said'. Prove '..Said' where nothing that the law and all that it calls make is longer than what came in: it says more and counts as full. Else prove '..UptoSaid'. A law counts once. -/
mutual
def uptoBulk {H : Type} : DataW H → Nat
  | .lit (.string bytes) => bytes.length + 1
  | .lit _ => 1
  | .nil => 1
  | .ptr d => uptoBulk d + 1
  | .slice elems spare => uptoBulkAll elems + uptoBulkAll spare + 1
  | .agg parts => uptoBulkAll parts + 1
  | .iface _ d => uptoBulk d + 1
  | .map entries => uptoBulkEntries entries + 1
  | .held _ => 1
def uptoBulkAll {H : Type} : List (DataW H) → Nat
  | [] => 0
  | d :: r => uptoBulk d + uptoBulkAll r
def uptoBulkEntries {H : Type} : List (Lit × DataW H) → Nat
  | [] => 0
  | x :: r => uptoBulkEntry x + uptoBulkEntries r
def uptoBulkEntry {H : Type} : Lit × DataW H → Nat
  | (.string bytes, d) => bytes.length + uptoBulk d + 1
  | (_, d) => uptoBulk d + 1
 end
def uptoSmall : (H : Type) → List (DataW H) → Bool := fun _ ds => decide (uptoBulkAll ds ≤ 1048576)
def OpenSpec.upto (s : _root_.Go.ChangeSpec) : _root_.Go.OpenSpec := { _root_.Go.OpenSpec.ofChange s with cond := some uptoSmall }

/-- 'countinghouselaw08.HoldPlays', WHERE WHAT IT READS IS OF BULK AT MOST 1048576: true; the input reads as it did. -/
def holdPlaysUptoRow : OpenClaim := { program := "ythmgchohbdlonaagreat", sum := "876794e8fc2409986d771b8888d7a43c89c43179720937fd24cee493c94e3cc2", func := "countinghouse/countinghouselaw08.HoldPlays", spec := "holdPlays", inPlace := ["internal/bytealg.IndexByteString", "internal/bytealg.IndexString", "maps.clone", "math/bits.Add64"], unfollowed := true, recurses := true, named := ["internal/bytealg.MaxLen"], plainKeys := false, apart := false, narrowed := true }
def HoldPlaysUptoSaid : Prop := holdPlaysUptoRow.holds Tryz.pinned (OpenSpec.upto holdPlaysSpec)

/-- 'countinghouselaw08.HoldAside', WHERE WHAT IT READS IS OF BULK AT MOST 1048576: true; the input reads as it did. -/
def holdAsideUptoRow : OpenClaim := { program := "ythmgchohbdlonaagreat", sum := "876794e8fc2409986d771b8888d7a43c89c43179720937fd24cee493c94e3cc2", func := "countinghouse/countinghouselaw08.HoldAside", spec := "holdAside", inPlace := ["internal/bytealg.IndexByteString", "internal/bytealg.IndexString", "maps.clone", "math/bits.Add64"], unfollowed := true, recurses := true, named := ["internal/bytealg.MaxLen"], plainKeys := false, apart := false, narrowed := true }
def HoldAsideUptoSaid : Prop := holdAsideUptoRow.holds Tryz.pinned (OpenSpec.upto holdAsideSpec)

/-- 'countinghouselaw08.HoldBack', WHERE WHAT IT READS IS OF BULK AT MOST 1048576: true; the input reads as it did. -/
def holdBackUptoRow : OpenClaim := { program := "ythmgchohbdlonaagreat", sum := "876794e8fc2409986d771b8888d7a43c89c43179720937fd24cee493c94e3cc2", func := "countinghouse/countinghouselaw08.HoldBack", spec := "holdBack", inPlace := ["internal/bytealg.IndexByteString", "internal/bytealg.IndexString", "maps.clone", "math/bits.Add64"], unfollowed := true, recurses := true, named := ["internal/bytealg.MaxLen"], plainKeys := false, apart := false, narrowed := true }
def HoldBackUptoSaid : Prop := holdBackUptoRow.holds Tryz.pinned (OpenSpec.upto holdBackSpec)

end Rows
end Go.Proofs.YthmgchohbdlonaaGreat
