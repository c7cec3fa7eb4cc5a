/- law06.ask, ref02.Same, order.Number, order.Ahead: small ones; concrete facts -/
import Derived.Test.YtogecfddkohigaaRows
import Derived.Test.YtogecfddkohigaaReadW
import Derived.Test.YtogecfddkohigaaBytesW
import Derived.Test.YtogecfddkohigaaAsk10
import Derived.WalkKit
import Derived.WalkSpells
import Derived.WalkLawsBesides
import Derived.Deep.QuietTactic
import Derived.BigQuiet
import Derived.Laws.StructEq
import Derived.Deep.DeepFit
import Derived.StillTailTactics
namespace Go.Proofs.Ytogecfddkohigaa
open Go.RowKit
set_option maxRecDepth 100000 in
set_option maxHeartbeats 1000000 in
theorem same2_c (A B : Option Addr) (c d : Nat) (l m : List UInt8) (w : World) (h : Sl w w.heap.size A c l) (k : Sl w w.heap.size B d m) :
    Calls Try.prog 30 #[.slice A l.length c, .slice B m.length d] w fun e w' => e = .returned (.bool (l == m)) ∧ Below w.heap.size w w' := by
  have c1 := conv_bytes h
  have c2 := conv_bytes k
  clear h k
  go_enter Try.func30, Try.ntmps30
  go_wp2
  go_ret
  exact ⟨rfl, Below.refl _ _⟩
set_option maxRecDepth 100000 in
set_option maxHeartbeats 1000000 in
theorem ask6_c (w : World) : Calls Try.prog 57 #[] w fun e w' => e = .returned (askOd 1 ⟨#[97]⟩).v ∧ Below w.heap.size w w' := by
  go_enter Try.func57, Try.ntmps57
  go_wp2
  refine bodyPost_ret (v := (askOd 1 ⟨#[97]⟩).v) (by simp [results, Try.results57, go_sem, askOd, Od.v]) rfl ⟨rfl, ?_⟩
  exact (Below.refl _ _).alloc (Nat.le_refl _) _
set_option maxRecDepth 100000 in
set_option maxHeartbeats 1000000 in
theorem number_c (a b : Int) (w : World) (h1 : -1000000 ≤ a ∧ a ≤ 1000000) (h2 : -1000000 ≤ b ∧ b ≤ 1000000) : Calls Try.prog 34 #[.agg #[i64 a, i64 b]] w fun e w' => e = .returned (i64 (1000 * a + b)) ∧ Below w.heap.size w w' := by
  have w1 : IntKind.i64.wrap (1000 * a) = 1000 * a := by rw [IntKind.wrap_i64]; omega
  have w2 : IntKind.i64.wrap (1000 * a + b) = 1000 * a + b := by rw [IntKind.wrap_i64]; omega
  go_enter Try.func34, Try.ntmps34
  go_wp2
  go_ret
  exact ⟨rfl, (Below.refl _ _).alloc (Nat.le_refl _) _⟩
abbrev askO : Od := askOd 1 ⟨#[97]⟩
abbrev askBs : List UInt8 := [0, 2, 14, 2, 97, 0, 0, 0, 0, 0, 0]
theorem ask_right : rightB askO = true := by kernel_rfl
theorem ask_bytes : bytesB askO = askBs := by kernel_rfl
theorem ask_ok : readOk askBs = true := by kernel_rfl
theorem ask_read : readO askBs = askO := by kernel_rfl
end Go.Proofs.Ytogecfddkohigaa
