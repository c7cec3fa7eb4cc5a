/- Texts of this claim, laid together: Join. -/
import Derived.Test.YtampniiehgimhaaGreatRows
import Derived.Test.YtampniiehgimhaaGreatProg
import Derived.JoinedOf
import Derived.WalkKit

/- Closed facts on the whole program that each statement's frame asks. -/
namespace Go.Proofs.YtampniiehgimhaaGreat
theorem join_laid : laidOutB Tryz.checked.prog = true := by kernel_rfl
theorem join_maps : mapsRowed Tryz.checked.prog = true := by kernel_rfl
end Go.Proofs.YtampniiehgimhaaGreat
