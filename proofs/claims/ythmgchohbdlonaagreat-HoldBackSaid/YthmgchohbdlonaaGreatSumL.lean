/- Sums of lists -/
import Derived.Test.YthmgchohbdlonaaGreatRows
import Derived.Test.YthmgchohbdlonaaGreatRow
import Derived.WalkKit
import Derived.WalkSpells
import Derived.WalkLawsBesides
import Derived.Deep.QuietTactic
import Derived.BigQuiet
import Derived.Laws.StructEq
import Derived.Deep.DeepFit
import Derived.StillTailTactics
namespace Go.Proofs.YthmgchohbdlonaaGreat
open Go.RowKit
def sumL : List Int → Int
  | [] => 0
  | a :: r => a + sumL r
theorem sumL_app (l m : List Int) : sumL (l ++ m) = sumL l + sumL m := by
  induction l with
  | nil => simp [sumL]
  | cons b r ih => rw [List.cons_append, sumL, sumL, ih]; omega
theorem sumL_one (a : Int) : sumL [a] = a := by simp [sumL]
theorem sumL_perm {l m : List Int} (h : l.Perm m) : sumL l = sumL m := by
  induction h with
  | nil => rfl
  | cons x _ ih => rw [sumL, sumL, ih]
  | swap x y l => simp only [sumL]; omega
  | trans _ _ h1 h2 => rw [h1, h2]
theorem sumL_in : ∀ (l : List Int), (∀ a ∈ l, R64 a) → -(l.length * 9223372036854775808 : Int) ≤ sumL l ∧ sumL l ≤ l.length * 9223372036854775808
  | [], _ => by simp [sumL]
  | a :: r, h => by
    have h1 := sumL_in r fun b hb => h b (by simp [hb])
    have h2 := h a (by simp)
    unfold R64 at h2
    rw [sumL, List.length_cons]
    push_cast
    omega
theorem sumL_take {l : List Int} {k : Nat} (h : k < l.length) : sumL (l.take (k + 1)) = sumL (l.take k) + l[k] := by rw [List.take_succ_eq_append_getElem h, sumL_app, sumL_one]
end Go.Proofs.YthmgchohbdlonaaGreat
