/- a literal of one order, as one operation of a drawn region -/
import Derived.Test.YtampniiehgimhaaGreatRows
import Derived.Test.YtampniiehgimhaaGreatBs1
import Derived.Test.YtampniiehgimhaaGreatBs23
import Derived.WalkKit
import Derived.WalkSpells
import Derived.WalkLawsBesides
import Derived.Deep.QuietTactic
import Derived.BigQuiet
import Derived.Laws.StructEq
import Derived.Deep.DeepFit
import Derived.StillTailTactics

namespace Go.Proofs.YtampniiehgimhaaGreat
open Go.RowKit
theorem oper_lit_od {o : Oper} {a : Act} {w : World} {K : Act → World → Prop} {Q : Exit → Act → World → Prop} (n : Nat) (ho : o.op = .buildSlice 22 1 #[(0, .tmp n)]) (z : Od) (hx : a.tmps[n]?.getD undef = .agg #[i64 z.client, i64 z.seq, i64 z.kind, .string z.acct, .string z.peer, i64 z.sum, .slice z.la z.legs.length z.lc, i64 z.period, i64 z.hold, .string z.note])
  (hK : K (a.put o.dst (.slice (some ⟨w.heap.size, 0, none⟩) 1 1)) (w.alloc (.cells #[i64 z.client, i64 z.seq, i64 z.kind, .string z.acct, .string z.peer, i64 z.sum, .slice z.la z.legs.length z.lc, i64 z.period, i64 z.hold, .string z.note] 37))) : Oper.wp Tryz.prog o a w K Q := by
 obtain ⟨d, op, t, ps, af, gd⟩ := o
 dsimp only at ho hK
 subst ho
 go_simp
 exact hK
end Go.Proofs.YtampniiehgimhaaGreat
