/- what the reference's inner functions are to answer -/
import Derived.Test.YtogecfddkohigaaRows
import Derived.Test.YtogecfddkohigaaMore
import Derived.Test.YtogecfddkohigaaTouch
import Derived.Test.YtogecfddkohigaaClash
import Derived.Test.YtogecfddkohigaaBegins
import Derived.WalkKit
import Derived.WalkSpells
import Derived.WalkLawsBesides
import Derived.Deep.QuietTactic
import Derived.BigQuiet
import Derived.Laws.StructEq
import Derived.Deep.DeepFit
import Derived.StillTailTactics
namespace Go.Proofs.Ytogecfddkohigaa
open Go.RowKit
/-- what ref06.Touches is to answer -/
abbrev RTouch : Prop := ∀ (x : Od) (w : World), Okb w w.heap.size x → x.legs.length ≤ 10 →
  Calls Try.prog 46 #[x.v] w fun e w' => ∃ v, e = .returned v ∧ Own w' w.heap.size 9 v (touches x) ∧ Below w.heap.size w w'
/-- what ref10.Clash is to answer -/
abbrev RClash : Prop := ∀ (x y : Od) (w : World), Okb w w.heap.size x → Okb w w.heap.size y → x.legs.length ≤ 10 → y.legs.length ≤ 10 →
  Calls Try.prog 13 #[x.v, y.v] w fun e w' => e = .returned (.bool (clashB x y)) ∧ Below w.heap.size w w'
/-- what ref10.Begins is to answer -/
abbrev RBegins : Prop := ∀ (A C : Option Addr) (c d : Nat) (a b : List Od) (w : World), Sl w w.heap.size A c a → Sl w w.heap.size C d b → a.length ≤ 65536 → b.length ≤ 65536 → fewLegs a → fewLegs b →
  Calls Try.prog 19 #[.slice A a.length c, .slice C b.length d] w fun e w' => e = .returned (.bool (beginsB a b)) ∧ Below w.heap.size w w'
end Go.Proofs.Ytogecfddkohigaa
