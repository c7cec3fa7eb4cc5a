/- ask -/
import Derived.Test.YtogecfddkohigaaRows
import Derived.Test.YtogecfddkohigaaData
import Derived.WalkKit
import Derived.WalkSpells
import Derived.WalkLawsBesides
import Derived.Deep.QuietTactic
import Derived.BigQuiet
import Derived.Laws.StructEq
import Derived.Deep.DeepFit
import Derived.StillTailTactics
namespace Go.Proofs.Ytogecfddkohigaa
open Go.RowKit
/-- an Ask of an account -/
def askOd (seq : Int) (acct : ByteArray) : Od := ⟨0, seq, 7, acct, ⟨#[]⟩, 0, none, 0, [], 0, 0, ⟨#[]⟩⟩
set_option maxRecDepth 100000 in
set_option maxHeartbeats 400000 in
theorem ask_10 (seq : Int) (acct : ByteArray) (w : World) :
    Calls Try.prog 47 #[i64 seq, .string acct] w fun e w' => e = .returned (askOd seq acct).v ∧ Below w.heap.size w w' := by
  go_enter Try.func47, Try.ntmps47
  go_wp2
  refine bodyPost_ret (v := (askOd seq acct).v) (by simp [results, Try.results47, go_sem, askOd, Od.v]) rfl ⟨rfl, ?_⟩
  exact (Below.refl _ _).alloc (Nat.le_refl _) _
end Go.Proofs.Ytogecfddkohigaa
