/- What ClashBegins' frame uses: a slice of numbers, an array of two -/
import Derived.Test.YtcpjopmgiogfkaaRows
import Derived.Test.YtcpjopmgiogfkaaShutN
import Derived.WalkKit
import Derived.WalkSpells
import Derived.WalkLawsBesides
import Derived.Deep.QuietTactic
import Derived.BigQuiet
import Derived.Laws.StructEq
import Derived.Deep.DeepFit
import Derived.StillTailTactics
namespace Go.Proofs.Ytcpjopmgiogfkaa
open Go.RowKit
section
variable {H : Type} {enc : TypeId × Value → H} {w : World} {base : Nat} {spare : Nat → Bool} {held : Bool} {r : Reach} {b0 : Nat} {v : Value} {d : DataW H} {p : List MemPlace}
theorem open_ns (hv : Value.okWide Try.prog w r b0 41 v) (h : DataW.Trod enc Try.prog w base spare held 41 v d p) : ∃ A c, ∃ l : List Int, v = .slice A l.length c ∧ Sl w w.heap.size A c l :=
  open_ns_of Try.underlying41 Try.underlying3 cellsN hv h
theorem open_two (hv : Value.okWide Try.prog w r b0 42 v) (h : DataW.Trod enc Try.prog w base spare held 42 v d p) : ∃ x y : Int, v = .agg #[.int .i64 x, .int .i64 y] :=
  open_two_of Try.underlying42 Try.underlying3 cellsN (by kernel_rfl) hv h
end
end Go.Proofs.Ytcpjopmgiogfkaa
