/- arrays of 15 numbers: the same -/
import Derived.Test.YtgholbeehkfbiaaGreatRows
import Derived.Test.YtgholbeehkfbiaaGreatBpAuLv
import Derived.ChangeKeysEq
import Derived.WalkKit
import Derived.WalkSpells
import Derived.WalkLawsBesides
import Derived.Deep.QuietTactic
import Derived.BigQuiet
import Derived.Laws.StructEq
import Derived.Deep.DeepFit
import Derived.StillTailTactics
namespace Go.Proofs.YtgholbeehkfbiaaGreat
open Go.RowKit
set_option maxRecDepth 100000 in
set_option maxHeartbeats 4000000 in
theorem neq_errs (a0 a1 a2 a3 a4 a5 a6 a7 a8 a9 a10 a11 a12 a13 a14 : Int) (W : World) : (binOp .neq 82 (.agg #[i64 a0, i64 a1, i64 a2, i64 a3, i64 a4, i64 a5, i64 a6, i64 a7, i64 a8, i64 a9, i64 a10, i64 a11, i64 a12, i64 a13, i64 a14]) (.agg #[i64 a0, i64 a1, i64 a2, i64 a3, i64 a4, i64 a5, i64 a6, i64 a7, i64 a8, i64 a9, i64 a10, i64 a11, i64 a12, i64 a13, i64 a14])).run Tryz.prog W = .ok (.bool false) W := by
  have u := Tryz.underlying82
  have z := Tryz.sizeOf3
  have q := Tryz.isAgg3
  have v := Tryz.underlying3
  rw [run_neq_struct, show (10000 : Nat) = 9999 + 1 from rfl]
  obtain ⟨i, hi⟩ := Option.isSome_iff_exists.1 (show (Tryz.prog.info? 3).isSome = true by kernel_rfl)
  rw [run_equalIn_array W 9999 _ _ u hi]
  clear hi
  rw [show List.range 15 = [0, 1, 2, 3, 4, 5, 6, 7, 8, 9, 10, 11, 12, 13, 14] from rfl]
  have k1 : Tryz.prog.cellsOf 3 = 1 := by kernel_rfl
  rw [k1]
  simp only [Op.eqItems]
  go_simp
end Go.Proofs.YtgholbeehkfbiaaGreat
