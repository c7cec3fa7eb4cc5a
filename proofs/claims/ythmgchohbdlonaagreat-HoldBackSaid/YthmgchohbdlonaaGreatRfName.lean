/- ref05.Name -/
import Derived.Test.YthmgchohbdlonaaGreatRows
import Derived.Test.YthmgchohbdlonaaGreatName
import Derived.WalkKit
import Derived.WalkSpells
import Derived.WalkLawsBesides
import Derived.Deep.QuietTactic
import Derived.BigQuiet
import Derived.Laws.StructEq
import Derived.Deep.DeepFit
import Derived.StillTailTactics
namespace Go.Proofs.YthmgchohbdlonaaGreat
open Go.RowKit
set_option maxRecDepth 100000 in
set_option maxHeartbeats 4000000 in
theorem rname_c (s : ByteArray) (hs : s.size ≤ maxLen) (w : World) : Calls Tryz.prog 48 #[.string s] w fun e w' => e = .returned (.bool (nameB s)) ∧ Below w.heap.size w w' := by
  have hs' : s.size ≤ 9223372036854775807 := Nat.le_trans hs (by decide)
  clear hs
  go_enter Tryz.func48, Tryz.ntmps48
  go_wp2_with fail
  go_loopw [3] (fun i wr => ∃ k : Nat, i = i64 k ∧ k ≤ s.size ∧ signTo s k ∧ w = wr) (fun i _ => s.size - (intOf i).toNat)
  case atStart => exact ⟨0, rfl, by omega, fun _ _ h => absurd h (by omega), rfl⟩
  case round =>
    obtain ⟨k, rfl, hk, hst, rfl⟩ := hrel
    have Hst := Lib.hid hst
    clear hst
    by_cases hlt : k < s.size
    · have i0 : (0 : Int) ≤ (k : Int) := by omega
      have i1 : (k : Int) < (s.size : Int) := by omega
      have hb8 := s[k].toNat_lt
      have HS := Lib.hid (show signB s[k] = (decide (97 ≤ s[k].toNat ∧ s[k].toNat ≤ 122) || decide (48 ≤ s[k].toNat ∧ s[k].toNat ≤ 57)) from rfl)
      by_cases hc : s[k].toNat ≤ 47
      · have t1 : decide ((97 : Int) ≤ ((s[k].toNat : Nat) : Int)) = false := by rw [decide_eq_false_iff_not]; omega
        have t2 : decide (((s[k].toNat : Nat) : Int) ≤ 122) = true := by rw [decide_eq_true_eq]; omega
        have t3 : decide ((48 : Int) ≤ ((s[k].toNat : Nat) : Int)) = false := by rw [decide_eq_false_iff_not]; omega
        have t4 : decide (((s[k].toNat : Nat) : Int) ≤ 57) = true := by rw [decide_eq_true_eq]; omega
        have Hs := Lib.hid (show signB s[k] = false by rw [HS.out]; simp; omega)
        clear hc HS hb8
        go_wp2
        go_ret
        exact ⟨by rw [nameB_bad hlt Hs.out]; rfl, Below.refl _ _⟩
      by_cases hc : 48 ≤ s[k].toNat ∧ s[k].toNat ≤ 57
      · have t1 : decide ((97 : Int) ≤ ((s[k].toNat : Nat) : Int)) = false := by rw [decide_eq_false_iff_not]; omega
        have t2 : decide (((s[k].toNat : Nat) : Int) ≤ 122) = true := by rw [decide_eq_true_eq]; omega
        have t3 : decide ((48 : Int) ≤ ((s[k].toNat : Nat) : Int)) = true := by rw [decide_eq_true_eq]; omega
        have t4 : decide (((s[k].toNat : Nat) : Int) ≤ 57) = true := by rw [decide_eq_true_eq]; omega
        have Hs := Lib.hid (show signB s[k] = true by rw [HS.out]; simp; omega)
        clear hc HS hb8
        go_wp2
        go_roundw
        case rel => exact ⟨k + 1, by go_num, by omega, Hst.out.next hlt Hs.out, trivial⟩
        case measure => simp [intOf]; omega
      by_cases hc : 58 ≤ s[k].toNat ∧ s[k].toNat ≤ 96
      · have t1 : decide ((97 : Int) ≤ ((s[k].toNat : Nat) : Int)) = false := by rw [decide_eq_false_iff_not]; omega
        have t2 : decide (((s[k].toNat : Nat) : Int) ≤ 122) = true := by rw [decide_eq_true_eq]; omega
        have t3 : decide ((48 : Int) ≤ ((s[k].toNat : Nat) : Int)) = true := by rw [decide_eq_true_eq]; omega
        have t4 : decide (((s[k].toNat : Nat) : Int) ≤ 57) = false := by rw [decide_eq_false_iff_not]; omega
        have Hs := Lib.hid (show signB s[k] = false by rw [HS.out]; simp; omega)
        clear hc HS hb8
        go_wp2
        go_ret
        exact ⟨by rw [nameB_bad hlt Hs.out]; rfl, Below.refl _ _⟩
      by_cases hc : 97 ≤ s[k].toNat ∧ s[k].toNat ≤ 122
      · have t1 : decide ((97 : Int) ≤ ((s[k].toNat : Nat) : Int)) = true := by rw [decide_eq_true_eq]; omega
        have t2 : decide (((s[k].toNat : Nat) : Int) ≤ 122) = true := by rw [decide_eq_true_eq]; omega
        have t3 : decide ((48 : Int) ≤ ((s[k].toNat : Nat) : Int)) = true := by rw [decide_eq_true_eq]; omega
        have t4 : decide (((s[k].toNat : Nat) : Int) ≤ 57) = false := by rw [decide_eq_false_iff_not]; omega
        have Hs := Lib.hid (show signB s[k] = true by rw [HS.out]; simp; omega)
        clear hc HS hb8
        go_wp2
        go_roundw
        case rel => exact ⟨k + 1, by go_num, by omega, Hst.out.next hlt Hs.out, trivial⟩
        case measure => simp [intOf]; omega
      by_cases hc : 123 ≤ s[k].toNat
      · have t1 : decide ((97 : Int) ≤ ((s[k].toNat : Nat) : Int)) = true := by rw [decide_eq_true_eq]; omega
        have t2 : decide (((s[k].toNat : Nat) : Int) ≤ 122) = false := by rw [decide_eq_false_iff_not]; omega
        have t3 : decide ((48 : Int) ≤ ((s[k].toNat : Nat) : Int)) = true := by rw [decide_eq_true_eq]; omega
        have t4 : decide (((s[k].toNat : Nat) : Int) ≤ 57) = false := by rw [decide_eq_false_iff_not]; omega
        have Hs := Lib.hid (show signB s[k] = false by rw [HS.out]; simp; omega)
        clear hc HS hb8
        go_wp2
        go_ret
        exact ⟨by rw [nameB_bad hlt Hs.out]; rfl, Below.refl _ _⟩
      omega
    · obtain rfl : k = s.size := by omega
      have hal := Hst.out.all
      have hem : s.toList.isEmpty = decide (s.size = 0) := by
        rw [Bool.eq_iff_iff, List.isEmpty_iff, decide_eq_true_eq, ← List.length_eq_zero_iff]
        rw [ByteArray.toList_eq]
        simp
      have Hs := Lib.hid (show nameB s = (decide (1 ≤ s.size) && decide (s.size ≤ 8)) by unfold nameB; rw [hal, hem, Bool.true_and]; congr 1; rw [Bool.eq_iff_iff]; simp only [Bool.not_eq_true', decide_eq_false_iff_not, decide_eq_true_eq]; omega)
      clear hal hem Hst
      by_cases h1 : 1 ≤ s.size
      · have t1 : decide ((1 : Int) ≤ (s.size : Int)) = true := decide_eq_true (by omega)
        have H1 := Lib.hid (decide_eq_true h1)
        by_cases h8 : s.size ≤ 8
        · have t2 : decide ((s.size : Int) ≤ 8) = true := decide_eq_true (by omega)
          have H8 := Lib.hid (decide_eq_true h8)
          clear h1 h8
          go_wp2
          go_ret
          exact ⟨by rw [Hs.out, H1.out, H8.out]; rfl, Below.refl _ _⟩
        · have t2 : decide ((s.size : Int) ≤ 8) = false := decide_eq_false (by omega)
          have H8 := Lib.hid (decide_eq_false h8)
          clear h1 h8
          go_wp2
          go_ret
          exact ⟨by rw [Hs.out, H1.out, H8.out]; rfl, Below.refl _ _⟩
      · have t1 : decide ((1 : Int) ≤ (s.size : Int)) = false := decide_eq_false (by omega)
        have H1 := Lib.hid (decide_eq_false h1)
        clear h1
        go_wp2
        go_ret
        exact ⟨by rw [Hs.out, H1.out]; rfl, Below.refl _ _⟩
end Go.Proofs.YthmgchohbdlonaaGreat
