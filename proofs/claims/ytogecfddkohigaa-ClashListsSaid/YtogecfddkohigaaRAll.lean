/- the reference's functions, joined -/
import Derived.Test.YtogecfddkohigaaRows
import Derived.Test.YtogecfddkohigaaRBegins
import Derived.Test.YtogecfddkohigaaRClash
import Derived.Test.YtogecfddkohigaaRTouch
import Derived.WalkKit
import Derived.WalkSpells
import Derived.WalkLawsBesides
import Derived.Deep.QuietTactic
import Derived.BigQuiet
import Derived.Laws.StructEq
import Derived.Deep.DeepFit
import Derived.StillTailTactics
namespace Go.Proofs.Ytogecfddkohigaa
open Go.RowKit
theorem rclash : RClash := fun x y w hx hy hlx hly => rclash_c rtouches_c x y w hx hy hlx hly
theorem rbegins : RBegins := fun A C c d a b w ha hb hna hnb hla hlb => rbegins_c rclash A C c d a b w ha hb hna hnb hla hlb
end Go.Proofs.Ytogecfddkohigaa
