/- What ClashBegins' frame uses: a slice of numbers, an array of two -/
import Derived.Test.YtgholbeehkfbiaaGreatRows
import Derived.Test.YtgholbeehkfbiaaGreatBpShutN
import Derived.WalkKit
import Derived.WalkSpells
import Derived.WalkLawsBesides
import Derived.Deep.QuietTactic
import Derived.BigQuiet
import Derived.Laws.StructEq
import Derived.Deep.DeepFit
import Derived.StillTailTactics
namespace Go.Proofs.YtgholbeehkfbiaaGreat
open Go.RowKit
section
variable {H : Type} {enc : TypeId × Value → H} {w : World} {base : Nat} {spare : Nat → Bool} {held : Bool} {r : Reach} {b0 : Nat} {v : Value} {d : DataW H} {p : List MemPlace}
set_option maxRecDepth 100000 in
set_option maxHeartbeats 1000000 in
theorem open_ns (hv : Value.okWide Tryz.prog w r b0 114 v) (h : DataW.Trod enc Tryz.prog w base spare held 114 v d p) : ∃ A c, ∃ l : List Int, v = .slice A l.length c ∧ Sl w w.heap.size A c l :=
  open_ns_of Tryz.underlying114 Tryz.underlying3 cellsN hv h
end
end Go.Proofs.YtgholbeehkfbiaaGreat
