/- ref01.Add -/
import Derived.Test.YthmgchohbdlonaaGreatRows
import Derived.Test.YthmgchohbdlonaaGreatRf01
import Derived.WalkKit
import Derived.WalkSpells
import Derived.WalkLawsBesides
import Derived.Deep.QuietTactic
import Derived.BigQuiet
import Derived.Laws.StructEq
import Derived.Deep.DeepFit
import Derived.StillTailTactics
namespace Go.Proofs.YthmgchohbdlonaaGreat
open Go.RowKit
set_option maxRecDepth 100000 in
set_option maxHeartbeats 4000000 in
theorem radd_c (a b : Int) (w : World) (ha : R64 a) (hb : R64 b) : Calls Tryz.prog 81 #[i64 a, i64 b] w fun e w' => e = .returned (.tuple #[i64 (sumR (a + b)).1, i64 (sumR (a + b)).2]) ∧ Below w.heap.size w w' := by
  have k1 := Lib.hid fun W => of_c a W ha
  have k2 := Lib.hid fun W => of_c b W hb
  have k4 := Lib.hid fun W => plus_c a b W (.of64 ha) (.of64 hb)
  have k5 := Lib.hid fun W => rsum_c (a + b) W
  generalize wdV a = A at *
  generalize wdV b = B at *
  generalize wdV (a + b) = D at *
  generalize sumR (a + b) = R at *
  clear ha hb
  go_enter Tryz.func81, Tryz.ntmps81
  go_wp2_with fail
  refine (k1.out _).mono ?_
  rintro e w1 ⟨rfl, h1⟩
  go_wp2_with fail
  refine (k2.out _).mono ?_
  rintro e w2 ⟨rfl, h2⟩
  have h2 := below_on h1 (Nat.le_refl _) h2
  go_wp2_with fail
  refine (k4.out _).mono ?_
  rintro e w4 ⟨rfl, h4⟩
  have h4 := below_on h2 (Nat.le_refl _) h4
  go_wp2_with fail
  refine (k5.out _).mono ?_
  rintro e w5 ⟨rfl, h5⟩
  have h5 := below_on h4 (Nat.le_refl _) h5
  go_wp2
  go_ret2
  exact ⟨rfl, h5⟩
end Go.Proofs.YthmgchohbdlonaaGreat
