/- What the frames of the statements use -/
import Derived.Test.YthmgchohbdlonaaGreatRows
import Derived.Test.YthmgchohbdlonaaGreatOpenB
import Derived.ShutString
import Derived.Below
import Derived.WalkKit
import Derived.WalkSpells
import Derived.WalkLawsBesides
import Derived.Deep.QuietTactic
import Derived.BigQuiet
import Derived.Laws.StructEq
import Derived.Deep.DeepFit
import Derived.StillTailTactics
namespace Go.Proofs.YthmgchohbdlonaaGreat
open Go.RowKit
open Go.ChangeShapes Go.WideShapes Go.Deep
set_option maxRecDepth 100000 in
set_option maxHeartbeats 1000000 in
theorem ownKnob_none : ownKnob Tryz.prog.godebug = none := by kernel_rfl
set_option maxRecDepth 100000 in
set_option maxHeartbeats 1000000 in
theorem laidOut : laidOutB Tryz.prog = true := by kernel_rfl
end Go.Proofs.YthmgchohbdlonaaGreat
