/- coins.Add, Less -/
import Derived.Test.YthmgchohbdlonaaGreatRows
import Derived.Test.YthmgchohbdlonaaGreatRow
import Derived.WalkKit
import Derived.WalkSpells
import Derived.WalkLawsBesides
import Derived.Deep.QuietTactic
import Derived.BigQuiet
import Derived.Laws.StructEq
import Derived.Deep.DeepFit
import Derived.StillTailTactics
namespace Go.Proofs.YthmgchohbdlonaaGreat
open Go.RowKit
theorem ofInt_toInt64 {n : Int} (h : R64 n) : (BitVec.ofInt 64 n).toInt = n := by
  rw [BitVec.toInt_ofInt, Int.bmod_def]
  obtain ⟨h0, h1⟩ := h
  rw [show ((2 ^ 64 : Nat) : Int) = 18446744073709551616 from rfl]
  split <;> omega
theorem msb_ofInt64 {n : Int} (h : R64 n) : (BitVec.ofInt 64 n).msb = decide (n < 0) := by
  rw [BitVec.msb_eq_toInt, ofInt_toInt64 h]
theorem wrap_toNat (v : BitVec 64) : IntKind.i64.wrap (v.toNat : Int) = v.toInt := by
  rw [IntKind.wrap_i64, BitVec.toInt_eq_toNat_cond]
  have h := v.isLt
  rw [show ((2 ^ 64 : Nat) : Int) = 18446744073709551616 from rfl]
  have h2 : v.toNat < 18446744073709551616 := h
  rw [show (2 ^ 64 : Nat) = 18446744073709551616 from rfl]
  split <;> omega
theorem bits_xor64 (a b : Int) : bits .xor .i64 a b = (BitVec.ofInt 64 a ^^^ BitVec.ofInt 64 b).toInt := wrap_toNat _
theorem bits_and64 (a b : Int) : bits .and .i64 a b = (BitVec.ofInt 64 a &&& BitVec.ofInt 64 b).toInt := wrap_toNat _
theorem wrap_R64 (n : Int) : R64 (IntKind.i64.wrap n) := by
  rw [IntKind.wrap_i64]
  unfold R64
  omega
theorem over_bits (a b c : Int) (ha : R64 a) (hb : R64 b) (hc : R64 c) : decide (bits .and .i64 (bits .xor .i64 a b) (bits .xor .i64 a c) < 0) = ((decide (a < 0) ^^ decide (b < 0)) && (decide (a < 0) ^^ decide (c < 0))) := by
  rw [bits_and64, bits_xor64, bits_xor64, ← BitVec.msb_eq_toInt, BitVec.ofInt_toInt, BitVec.ofInt_toInt, BitVec.msb_and, BitVec.msb_xor, BitVec.msb_xor, msb_ofInt64 ha, msb_ofInt64 hb, msb_ofInt64 hc]
theorem bits_comm64 (a b : Int) : bits .xor .i64 a b = bits .xor .i64 b a := by rw [bits_xor64, bits_xor64, BitVec.xor_comm]
/-- is n no int64? -/
def overB (n : Int) : Bool := !(decide (-9223372036854775808 ≤ n) && decide (n ≤ 9223372036854775807))
theorem add_over {a b : Int} (ha : R64 a) (hb : R64 b) : decide (bits .and .i64 (bits .xor .i64 a (IntKind.i64.wrap (a + b))) (bits .xor .i64 b (IntKind.i64.wrap (a + b))) < 0) = overB (a + b) := by
  have h := over_bits (IntKind.i64.wrap (a + b)) a b (wrap_R64 _) ha hb
  rw [bits_comm64 a, bits_comm64 b, h]
  unfold overB
  rw [IntKind.wrap_i64]
  obtain ⟨h0, h1⟩ := ha
  obtain ⟨h2, h3⟩ := hb
  generalize hc : (a + b + 9223372036854775808) % 18446744073709551616 - 9223372036854775808 = c
  by_cases h4 : c < 0 <;> by_cases h5 : a < 0 <;> by_cases h6 : b < 0 <;> simp [h4, h5, h6] <;> omega
theorem less_over {a b : Int} (ha : R64 a) (hb : R64 b) : decide (bits .and .i64 (bits .xor .i64 a b) (bits .xor .i64 a (IntKind.i64.wrap (a - b))) < 0) = overB (a - b) := by
  rw [over_bits a b _ ha hb (wrap_R64 _)]
  unfold overB
  rw [IntKind.wrap_i64]
  obtain ⟨h0, h1⟩ := ha
  obtain ⟨h2, h3⟩ := hb
  generalize hc : (a - b + 9223372036854775808) % 18446744073709551616 - 9223372036854775808 = c
  by_cases h4 : c < 0 <;> by_cases h5 : a < 0 <;> by_cases h6 : b < 0 <;> simp [h4, h5, h6] <;> omega
/-- a sum, or that it is none -/
def sumR (n : Int) : Int × Int := if overB n then (0, 2) else (n, 0)
theorem wrap_over {n : Int} (h : overB n = false) : IntKind.i64.wrap n = n := by
  unfold overB at h
  simp only [Bool.not_eq_false', Bool.and_eq_true, decide_eq_true_eq] at h
  rw [IntKind.wrap_i64]
  omega
theorem sumR_R64 (n : Int) : R64 (sumR n).1 := by
  unfold sumR overB R64
  by_cases h : -9223372036854775808 ≤ n ∧ n ≤ 9223372036854775807
  · rw [decide_eq_true h.1, decide_eq_true h.2]
    exact h
  · rw [if_pos]
    · exact ⟨by decide, by decide⟩
    · rw [Bool.not_eq_true', Bool.and_eq_false_iff, decide_eq_false_iff_not, decide_eq_false_iff_not]
      omega
set_option maxRecDepth 100000 in
set_option maxHeartbeats 2000000 in
theorem add_c (a b : Int) (w : World) (ha : R64 a) (hb : R64 b) : Calls Tryz.prog 69 #[i64 a, i64 b] w fun e w' => e = .returned (.tuple #[i64 (sumR (a + b)).1, i64 (sumR (a + b)).2]) ∧ Below w.heap.size w w' := by
  have ho := add_over ha hb
  rw [IntWalk.i64_left] at ho
  cases h : overB (a + b) with
  | true =>
    rw [h] at ho
    have HS := Lib.hid (show sumR (a + b) = (0, 2) by unfold sumR; rw [h]; rfl)
    clear h
    go_enter Tryz.func69, Tryz.ntmps69
    go_wp2
    go_ret2
    exact ⟨by rw [HS.out]; rfl, Below.refl _ _⟩
  | false =>
    rw [h] at ho
    have hw := wrap_over h
    rw [IntWalk.i64_left] at hw
    have HW := Lib.hid hw
    have HS := Lib.hid (show sumR (a + b) = (a + b, 0) by unfold sumR; rw [h]; rfl)
    clear h hw
    go_enter Tryz.func69, Tryz.ntmps69
    go_wp2
    go_ret2
    exact ⟨by rw [HS.out]; exact congrArg (fun n => Ending.returned (.tuple #[.int .i64 n, i64 0])) HW.out, Below.refl _ _⟩
set_option maxRecDepth 100000 in
set_option maxHeartbeats 2000000 in
theorem less_c (a b : Int) (w : World) (ha : R64 a) (hb : R64 b) : Calls Tryz.prog 53 #[i64 a, i64 b] w fun e w' => e = .returned (.tuple #[i64 (sumR (a - b)).1, i64 (sumR (a - b)).2]) ∧ Below w.heap.size w w' := by
  have ho := less_over ha hb
  rw [IntWalk.i64_left] at ho
  cases h : overB (a - b) with
  | true =>
    rw [h] at ho
    have HS := Lib.hid (show sumR (a - b) = (0, 2) by unfold sumR; rw [h]; rfl)
    clear h
    go_enter Tryz.func53, Tryz.ntmps53
    go_wp2
    go_ret2
    exact ⟨by rw [HS.out]; rfl, Below.refl _ _⟩
  | false =>
    rw [h] at ho
    have hw := wrap_over h
    rw [IntWalk.i64_left] at hw
    have HW := Lib.hid hw
    have HS := Lib.hid (show sumR (a - b) = (a - b, 0) by unfold sumR; rw [h]; rfl)
    clear h hw
    go_enter Tryz.func53, Tryz.ntmps53
    go_wp2
    go_ret2
    exact ⟨by rw [HS.out]; exact congrArg (fun n => Ending.returned (.tuple #[.int .i64 n, i64 0])) HW.out, Below.refl _ _⟩
end Go.Proofs.YthmgchohbdlonaaGreat
