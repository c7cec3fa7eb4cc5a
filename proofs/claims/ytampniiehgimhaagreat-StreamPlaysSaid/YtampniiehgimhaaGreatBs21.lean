/- Texts of this claim, laid together. -/
import Derived.Test.YtampniiehgimhaaGreatBs1
import Derived.Test.YtampniiehgimhaaGreatRows
import Derived.WalkKit
import Derived.WalkSpells
import Derived.WalkLawsBesides
import Derived.Deep.QuietTactic
import Derived.BigQuiet
import Derived.Laws.StructEq
import Derived.Deep.DeepFit
import Derived.StillTailTactics

/- few, in lists: so many legs of each. -/
namespace Go.Proofs.YtampniiehgimhaaGreat
open Go.RowKit
end Go.Proofs.YtampniiehgimhaaGreat
/- few, own of countinghouselaw09 -/
namespace Go.Proofs.YtampniiehgimhaaGreat
open Go.RowKit
end Go.Proofs.YtampniiehgimhaaGreat
