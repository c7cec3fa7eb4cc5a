/- ref10.At. -/
import Derived.Test.YtogecfddkohigaaRows
import Derived.Test.YtogecfddkohigaaData
import Derived.WalkKit
import Derived.WalkSpells
import Derived.WalkLawsBesides
import Derived.Deep.QuietTactic
import Derived.BigQuiet
import Derived.Laws.StructEq
import Derived.Deep.DeepFit
namespace Go.Proofs.Ytogecfddkohigaa
open Go.RowKit

theorem eq_id (a b c d : Int) (w : World) : (binOp .eql 27 (.agg #[i64 a, i64 b]) (.agg #[i64 c, i64 d])).run Try.prog w = .ok (.bool (decide (Id.mk a b = ⟨c, d⟩))) w := by
  have u3 := Try.underlying3
  have a3 := Try.isAgg3
  have z3 := Try.sizeOf3
  have hS : Try.prog.underlying 27 = some (.struct (Try.prog.fieldsOf 27)) := by kernel_rfl
  have hp : Try.prog.stoodInHeld 27 = false := by kernel_rfl
  rw [run_eql_struct, show (10000 : Nat) = 9999 + 1 from rfl, run_equalIn_agg w 9999 27 _ _ hS hp]
  simp only [Program.fieldsOf, Try.underlying27]
  go_simp
  by_cases h1 : a = c <;> by_cases h2 : b = d <;> simp [h1, h2]

abbrev atIdx (l : List Od) (id : Id) : Int := idxP (fun x => decide (x.id = id)) l

set_option maxHeartbeats 400000 in
theorem at_any (A : Option Addr) (c : Nat) (l : List Od) (id : Id) (w : World) (h : Sl w w.heap.size A c l) (hn : l.length ≤ 65536) :
    Calls Try.prog 56 #[.slice A l.length c, .agg #[i64 id.client, i64 id.seq]] w fun e w' => e = .returned (i64 (atIdx l id)) ∧ Below w.heap.size w w' := by
  go_enter Try.func56, Try.ntmps56
  go_wp2
  go_loopw [5] (fun i wr => ∃ k n : Nat, k ≤ l.length ∧ i = i64 k ∧ (∀ j (hj : j < l.length), j < k → l[j].id ≠ id) ∧ wr = (w.alloc (.cells #[i64 id.client, i64 id.seq] 27)).drewN n) (fun i _ => l.length - (intOf i).toNat)
  case atStart => exact ⟨0, 0, Nat.zero_le _, rfl, by omega, rfl⟩
  case round =>
    obtain ⟨k, n, hk, rfl, hno, rfl⟩ := hrel
    by_cases hlt : k < l.length
    · obtain ⟨b, o, rfl, hb, _, hc⟩ := h.at_ hlt
      have c0 := hc 0 _ rfl
      have c1 := hc 1 _ rfl
      have d0 : w.cell? ⟨b, o + k * 10, none⟩ = some (i64 l[k].client) := c0
      have d1 : w.cell? ⟨b, o + k * 10 + 1, none⟩ = some (i64 l[k].seq) := c1
      have hne : b ≠ w.heap.size := by omega
      clear hc c0 c1
      have he := eq_id l[k].client l[k].seq id.client id.seq
      by_cases heq : l[k].id = id
      · simp only [show Id.mk l[k].client l[k].seq = l[k].id from rfl, show Id.mk id.client id.seq = id from rfl, heq, decide_true] at he
        have Heq := Lib.hid heq
        have Hno := Lib.hid hno
        clear heq hno
        go_wp2
        go_quiet (fail)
        go_wp2
        go_ret
        exact ⟨by rw [show atIdx l id = k from idxP_hit hlt (by simpa using Heq.out) (fun j hj h => by simpa using Hno.out j hj h)]; rfl, below_drewN (below_drewN ((Below.refl _ _).alloc (Nat.le_refl _) _) _) _⟩
      · simp only [show Id.mk l[k].client l[k].seq = l[k].id from rfl, show Id.mk id.client id.seq = id from rfl, heq, decide_false] at he
        have Heq := Lib.hid heq
        have Hno := Lib.hid hno
        clear heq hno
        go_wp2
        go_quiet (fail)
        go_wp2
        go_roundw
        case rel => exact ⟨k + 1, n + _, by omega, by go_num, fun j hj h => by
            rcases Nat.lt_succ_iff_lt_or_eq.1 h with h | rfl
            · exact Hno.out j hj h
            · exact Heq.out, rfl⟩
        case measure => simp [intOf]; omega
    · have hkl : k = l.length := by omega
      subst hkl
      go_wp2
      go_ret
      exact ⟨by rw [show atIdx l id = -1 from idxP_miss (fun j hj => by simpa using hno j hj hj)]; rfl, below_drewN ((Below.refl _ _).alloc (Nat.le_refl _) _) _⟩
end Go.Proofs.Ytogecfddkohigaa
