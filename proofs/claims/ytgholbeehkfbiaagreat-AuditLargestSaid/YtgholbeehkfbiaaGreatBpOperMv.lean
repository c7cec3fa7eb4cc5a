/- a literal of one move, one line, one sum, as one operation of a drawn region -/
import Derived.Test.YtgholbeehkfbiaaGreatRows
import Derived.Test.YtgholbeehkfbiaaGreatBpMv
import Derived.WalkKit
import Derived.WalkSpells
import Derived.WalkLawsBesides
import Derived.Deep.QuietTactic
import Derived.BigQuiet
import Derived.Laws.StructEq
import Derived.Deep.DeepFit
import Derived.StillTailTactics
namespace Go.Proofs.YtgholbeehkfbiaaGreat
open Go.RowKit
theorem oper_lit_mv {o : Oper} {a : Act} {w : World} {K : Act → World → Prop} {Q : Exit → Act → World → Prop} (n : Nat) (ho : o.op = .buildSlice 78 1 #[(0, .tmp n)]) (z : Mv) (hx : a.tmps[n]?.getD undef = .agg #[i64 z.client, i64 z.seq, i64 z.period, .slice z.la z.legs.length z.lc])
    (hK : K (a.put o.dst (.slice (some ⟨w.heap.size, 0, none⟩) 1 1)) (w.alloc (.cells #[i64 z.client, i64 z.seq, i64 z.period, .slice z.la z.legs.length z.lc] 85))) : Oper.wp Tryz.prog o a w K Q := by
  obtain ⟨d, op, t, ps, af, gd⟩ := o
  dsimp only at ho hK
  subst ho
  go_simp
  exact hK
theorem oper_lit_ln {o : Oper} {a : Act} {w : World} {K : Act → World → Prop} {Q : Exit → Act → World → Prop} (n : Nat) (ho : o.op = .buildSlice 95 1 #[(0, .tmp n)]) (z : Ln) (hx : a.tmps[n]?.getD undef = .agg #[.string z.acct, i64 z.inn, i64 z.out])
    (hK : K (a.put o.dst (.slice (some ⟨w.heap.size, 0, none⟩) 1 1)) (w.alloc (.cells #[.string z.acct, i64 z.inn, i64 z.out] 104))) : Oper.wp Tryz.prog o a w K Q := by
  obtain ⟨d, op, t, ps, af, gd⟩ := o
  dsimp only at ho hK
  subst ho
  go_simp
  exact hK
theorem oper_lit_i64 {o : Oper} {a : Act} {w : World} {K : Act → World → Prop} {Q : Exit → Act → World → Prop} (n : Nat) (ho : o.op = .buildSlice 187 1 #[(0, .tmp n)]) (z : Int) (hx : a.tmps[n]?.getD undef = i64 z)
    (hK : K (a.put o.dst (.slice (some ⟨w.heap.size, 0, none⟩) 1 1)) (w.alloc (.cells #[i64 z] 2))) : Oper.wp Tryz.prog o a w K Q := by
  obtain ⟨d, op, t, ps, af, gd⟩ := o
  dsimp only at ho hK
  subst ho
  go_simp
  exact hK
end Go.Proofs.YtgholbeehkfbiaaGreat
