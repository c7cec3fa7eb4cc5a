/- Texts of this claim, laid together. -/
import Derived.Test.YtampniiehgimhaaGreatRows
import Derived.Test.YtampniiehgimhaaGreatBt33
import Derived.Deep.Cut
import Derived.WalkKit
import Derived.WalkSpells
import Derived.WalkLawsBesides
import Derived.Deep.QuietTactic
import Derived.BigQuiet
import Derived.Laws.StructEq
import Derived.Deep.DeepFit
import Derived.StillTailTactics
import Derived.Test.YtampniiehgimhaaGreatBtX

/- audit: sorting moves: insertion -/
namespace Go.Proofs.YtampniiehgimhaaGreat
open Go.RowKit
theorem RowM.put {V V' : World} {B g n cap : Nat} {l l' : List Mv} (h : RowM V B g n cap l) (ho : Own V' B 85 (.slice (some ⟨g, 0, none⟩) n cap) l') (hl : l'.length = l.length) : RowM V' B g n cap l' := ⟨ho, hl.trans h.len⟩
end Go.Proofs.YtampniiehgimhaaGreat
/- audit: sorting moves: swapRange, rotate -/
namespace Go.Proofs.YtampniiehgimhaaGreat
open Go.RowKit
end Go.Proofs.YtampniiehgimhaaGreat
/- sorting moves: where two runs part (plain) -/
namespace Go.Proofs.YtampniiehgimhaaGreat
open Go.RowKit
end Go.Proofs.YtampniiehgimhaaGreat
