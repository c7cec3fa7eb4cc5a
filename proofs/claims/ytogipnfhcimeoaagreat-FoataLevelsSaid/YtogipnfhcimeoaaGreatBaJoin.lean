/- Closed facts on the whole program that each statement's frame asks. -/
import Derived.Test.YtogipnfhcimeoaaGreatRows
import Derived.Test.YtogipnfhcimeoaaGreatProg
import Derived.JoinedOf
import Derived.WalkKit
namespace Go.Proofs.YtogipnfhcimeoaaGreat
theorem join_laid : laidOutB Tryz.checked.prog = true := by kernel_rfl
theorem join_maps : mapsRowed Tryz.checked.prog = true := by kernel_rfl
end Go.Proofs.YtogipnfhcimeoaaGreat
