/- Closed facts on the whole program that each statement's frame asks. -/
import Derived.Test.YtampniiehgimhaaGreatRows
import Derived.Test.YtampniiehgimhaaGreatProg
import Derived.JoinedOf
import Derived.WalkKit

namespace Go.Proofs.YtampniiehgimhaaGreat
theorem join_laid : laidOutB Tryz.checked.prog = true := by kernel_rfl
theorem join_maps : mapsRowed Tryz.checked.prog = true := by kernel_rfl
end Go.Proofs.YtampniiehgimhaaGreat
