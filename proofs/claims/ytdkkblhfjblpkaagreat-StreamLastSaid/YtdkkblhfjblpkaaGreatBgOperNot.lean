/- not, as one operation of a drawn region -/
import Derived.Test.YtdkkblhfjblpkaaGreatRows
import Derived.Test.YtdkkblhfjblpkaaGreatBi1
import Derived.WalkKit
import Derived.WalkSpells
import Derived.WalkLawsBesides
import Derived.Deep.QuietTactic
import Derived.BigQuiet
import Derived.Laws.StructEq
import Derived.Deep.DeepFit
import Derived.StillTailTactics
namespace Go.Proofs.YtdkkblhfjblpkaaGreat
open Go.RowKit
theorem oper_not {P : Program} {o : Oper} {a : Act} {w : World} {K : Act → World → Prop} {Q : Exit → Act → World → Prop} (n : Nat) (t : TypeId) (ho : o.op = .unOp .not t (.tmp n)) (b : Bool) (hx : a.tmps[n]?.getD undef = .bool b)
    (hK : K (a.put o.dst (.bool (!b))) w) : Oper.wp P o a w K Q := by
  obtain ⟨d, op, t, ps, af, gd⟩ := o
  dsimp only at ho hK
  subst ho
  go_simp
  exact hK
end Go.Proofs.YtdkkblhfjblpkaaGreat
