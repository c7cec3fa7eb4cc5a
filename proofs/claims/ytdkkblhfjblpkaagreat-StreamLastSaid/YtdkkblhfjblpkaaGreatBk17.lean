/- Texts of this claim, laid together: OperLit, OperCall. -/
import Derived.Test.YtdkkblhfjblpkaaGreatRows
import Derived.Test.YtdkkblhfjblpkaaGreatBi1
import Derived.Test.YtdkkblhfjblpkaaGreatBi2
import Derived.WalkKit
import Derived.WalkSpells
import Derived.WalkLawsBesides
import Derived.Deep.QuietTactic
import Derived.BigQuiet
import Derived.Laws.StructEq
import Derived.Deep.DeepFit
import Derived.StillTailTactics

/- a literal of one order, as one operation of a drawn region -/
namespace Go.Proofs.YtdkkblhfjblpkaaGreat
open Go.RowKit
theorem oper_lit_od {o : Oper} {a : Act} {w : World} {K : Act → World → Prop} {Q : Exit → Act → World → Prop} (n : Nat) (ho : o.op = .buildSlice 22 1 #[(0, .tmp n)]) (z : Od) (hx : a.tmps[n]?.getD undef = .agg #[i64 z.client, i64 z.seq, i64 z.kind, .string z.acct, .string z.peer, i64 z.sum, .slice z.la z.legs.length z.lc, i64 z.period, i64 z.hold, .string z.note])
    (hK : K (a.put o.dst (.slice (some ⟨w.heap.size, 0, none⟩) 1 1)) (w.alloc (.cells #[i64 z.client, i64 z.seq, i64 z.kind, .string z.acct, .string z.peer, i64 z.sum, .slice z.la z.legs.length z.lc, i64 z.period, i64 z.hold, .string z.note] 50))) : Oper.wp Tryz.prog o a w K Q := by
  obtain ⟨d, op, t, ps, af, gd⟩ := o
  dsimp only at ho hK
  subst ho
  go_simp
  exact hK
theorem oper_assign {P : Program} {o : Oper} {a : Act} {w : World} {K : Act → World → Prop} {Q : Exit → Act → World → Prop} (x : Operand) (ho : o.op = .assign x) (v : Value) (hx : a.eval x = v)
    (hK : K (a.put o.dst v) w) : Oper.wp P o a w K Q := by
  obtain ⟨d, op, t, ps, af, gd⟩ := o
  dsimp only at ho hK
  subst ho hx
  unfold Oper.wp execOp
  simp only [Sem.run_pure]
  exact hK
end Go.Proofs.YtdkkblhfjblpkaaGreat

/- calls, as one operation of a drawn region -/
namespace Go.Proofs.YtdkkblhfjblpkaaGreat
open Go.RowKit
theorem oper_call1 {P : Program} {o : Oper} {a : Act} {w : World} {K : Act → World → Prop} {Q : Exit → Act → World → Prop} (f n : Nat) (ts : Array TypeId) (ho : o.op = .call { callee := .value (.func f), args := #[.tmp n], argTypes := ts }) (v : Value) (hx : a.tmps[n]?.getD undef = v)
    (ek : ∀ args w, (callFunc f args).run P w = .ok (.enter f args) w) (h : Calls P f #[v] w fun e w' => ∃ r, e = .returned r ∧ K (a.put o.dst r) w') : Oper.wp P o a w K Q := by
  obtain ⟨d, op, t, ps, af, gd⟩ := o
  dsimp only at ho h
  subst ho
  go_simp
  exact h.mono (by rintro e w' ⟨r, rfl, h2⟩; exact h2)
theorem oper_call1k {P : Program} {o : Oper} {a : Act} {w : World} {K : Act → World → Prop} {Q : Exit → Act → World → Prop} (f n : Nat) (z : Value) (ts : Array TypeId) (ho : o.op = .call { callee := .value (.func f), args := #[.tmp n, .const z], argTypes := ts }) (v : Value) (hx : a.tmps[n]?.getD undef = v)
    (ek : ∀ args w, (callFunc f args).run P w = .ok (.enter f args) w) (h : Calls P f #[v, z] w fun e w' => ∃ r, e = .returned r ∧ K (a.put o.dst r) w') : Oper.wp P o a w K Q := by
  obtain ⟨d, op, t, ps, af, gd⟩ := o
  dsimp only at ho h
  subst ho
  go_simp
  exact h.mono (by rintro e w' ⟨r, rfl, h2⟩; exact h2)
theorem oper_call2 {P : Program} {o : Oper} {a : Act} {w : World} {K : Act → World → Prop} {Q : Exit → Act → World → Prop} (f n m : Nat) (ts : Array TypeId) (ho : o.op = .call { callee := .value (.func f), args := #[.tmp n, .tmp m], argTypes := ts }) (v u : Value) (hx : a.tmps[n]?.getD undef = v) (hy : a.tmps[m]?.getD undef = u)
    (ek : ∀ args w, (callFunc f args).run P w = .ok (.enter f args) w) (h : Calls P f #[v, u] w fun e w' => ∃ r, e = .returned r ∧ K (a.put o.dst r) w') : Oper.wp P o a w K Q := by
  obtain ⟨d, op, t, ps, af, gd⟩ := o
  dsimp only at ho h
  subst ho
  go_simp
  exact h.mono (by rintro e w' ⟨r, rfl, h2⟩; exact h2)
end Go.Proofs.YtdkkblhfjblpkaaGreat
