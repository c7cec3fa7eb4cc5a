/- pack.fold, Num; order.num -/
import Derived.Test.YtogecfddkohigaaRows
import Derived.Test.YtogecfddkohigaaSlB
import Derived.Test.YtogecfddkohigaaMore
import Derived.Lib.Zigzag
import Derived.Lib.VarintMem
import Derived.WalkKit
import Derived.WalkSpells
import Derived.WalkLawsBesides
import Derived.Deep.QuietTactic
import Derived.BigQuiet
import Derived.Laws.StructEq
import Derived.Deep.DeepFit
import Derived.StillTailTactics
namespace Go.Proofs.Ytogecfddkohigaa
open Go.RowKit
theorem fold_bits (n : Int) (h0 : -9223372036854775808 ≤ n) (h1 : n ≤ 9223372036854775807) : bits .xor .u64 (IntKind.u64.wrap (IntKind.u64.wrap n * 2)) (IntKind.u64.wrap (n / 9223372036854775808)) = ((Lib.zigzag n : Nat) : Int) := by
  by_cases hn : 0 ≤ n
  · have e1 : IntKind.u64.wrap (IntKind.u64.wrap n * 2) = (((2 * n).toNat : Nat) : Int) := by rw [IntKind.wrap_u64, IntKind.wrap_u64]; omega
    have e2 : IntKind.u64.wrap (n / 9223372036854775808) = ((0 : Nat) : Int) := by rw [IntKind.wrap_u64]; omega
    rw [e1, e2, bits_xor_u64_nat _ _ (by omega) (by decide), Nat.xor_zero]
    unfold Lib.zigzag
    rw [if_pos hn]
  · have e1 : IntKind.u64.wrap (IntKind.u64.wrap n * 2) = (((2 * n + 18446744073709551616).toNat : Nat) : Int) := by rw [IntKind.wrap_u64, IntKind.wrap_u64]; omega
    have e2 : IntKind.u64.wrap (n / 9223372036854775808) = ((2 ^ 64 - 1 : Nat) : Int) := by rw [IntKind.wrap_u64]; omega
    rw [e1, e2, bits_xor_u64_nat _ _ (by omega) (by decide), Nat.xor_comm, Lib.xor_ones64 _ (by omega)]
    unfold Lib.zigzag
    rw [if_neg hn]
    omega
set_option maxRecDepth 100000 in
set_option maxHeartbeats 400000 in
theorem fold_c (n : Int) (w : World) (h0 : -9223372036854775808 ≤ n) (h1 : n ≤ 9223372036854775807) :
    Calls Try.prog 90 #[.int .i64 n] w fun e w' => e = .returned (.int .u64 (Lib.zigzag n)) ∧ Below w.heap.size w w' := by
  have hf := Lib.hid (fold_bits n h0 h1)
  go_enter Try.func90, Try.ntmps90
  go_wp2
  go_ret
  exact ⟨by rw [← hf.out]; rfl, Below.refl _ _⟩
/-- a number's bytes -/
abbrev numB (n : Int) : List UInt8 := Lib.uvarint (Lib.zigzag n)
theorem uvarint_le {m : Nat} (h : m < 18446744073709551616) : (Lib.uvarint m).length ≤ 10 := Lib.uvarint_length64 h
set_option maxRecDepth 100000 in
set_option maxHeartbeats 1000000 in
theorem num_c (n : Int) (w : World) (h0 : -9223372036854775808 ≤ n) (h1 : n ≤ 9223372036854775807) :
    Calls Try.prog 61 #[.int .i64 n] w fun e w' => ∃ v, e = .returned v ∧ Own w' w.heap.size 5 v (numB n) ∧ Below w.heap.size w w' := by
  have hz := Lib.zigzag_lt h0 h1
  have hF := Lib.hid (fold_c n w h0 h1)
  unfold numB
  generalize Lib.zigzag n = z at hz hF ⊢
  clear h0 h1
  go_enter Try.func61, Try.ntmps61
  go_wp2_with fail
  refine hF.out.mono ?_
  rintro e w1 ⟨rfl, hb1⟩
  go_wp2_with fail
  go_loopw [3, 4] (fun v i wr => ∃ (m : Nat) (pre : List UInt8), i = .int .u64 (m : Int) ∧ m < 18446744073709551616 ∧ pre.length + (Lib.uvarint m).length ≤ 10 ∧ pre ++ Lib.uvarint m = Lib.uvarint z ∧ Own wr w.heap.size 5 v pre ∧ Below w.heap.size w wr) (fun _ i _ => (intOf i).toNat)
  case atStart => exact ⟨z, [], rfl, hz, by simpa using uvarint_le hz, rfl, Own.nil_ _ _ _, hb1⟩
  case round =>
    obtain ⟨m, pre, rfl, hm, hl, he, hO, hb⟩ := hrel
    by_cases hbig : 128 ≤ m
    · have g1 : decide ((128 : Int) ≤ (m : Int)) = true := decide_eq_true (by omega)
      rw [Lib.uvarint_big hbig] at he hl
      obtain ⟨y, hy⟩ : ∃ y : UInt8, y = (m % 128 + 128).toUInt8 := ⟨_, rfl⟩
      have hyn : y.toNat = m % 128 + 128 := by rw [hy, Lib.toUInt8_toNat (by omega)]
      have g2 : bits .or .u8 ((m : Int) % 256) 128 = ((y.toNat : Nat) : Int) := by
        rw [Lib.u8_or128_any _ (by omega) (by omega), hyn]
        omega
      rw [← hy] at he hl
      have He := Lib.hid he
      have Hl := Lib.hid hl
      have HB := (Below.refl wr.heap.size wr).alloc (Nat.le_refl _) (.cells #[.int .u8 y.toNat] 5)
      have HO2 := Lib.hid (hO.later HB)
      have HH := Lib.hid (heap_alloc_new wr (.cells #[.int .u8 y.toNat] 5))
      have Hne := Lib.hid (hO.new_ne (Nat.le_refl wr.heap.size))
      have hb3 := below_on hb (Nat.le_refl _) HB
      clear he hl hy hyn hO HB hF
      go_wp2_with (at_builtin; refine wpList_append_one rfl (some 16) (.tmp 11) (.tmp 15) 36 rfl rfl (.int .u8 0) 1 Try.underlying36 inf_byte rfl (by decide) (by decide) rfl HO2.out wr.heap.size y rfl _ 5 HH.out rfl Hne.out trivial (by have := Hl.out; simp only [List.length_cons] at this; omega) hb3.size ?_; intro v3 w3 hO3 hg3 hat3)
      go_roundw
      case rel => exact ⟨m / 128, pre ++ [y], by go_num, by omega, by have := Hl.out; simp only [List.length_append, List.length_cons, List.length_nil] at this ⊢; omega, by rw [List.append_assoc]; exact He.out, hO3, hb3.trans (HO2.out.below hg3 (Nat.le_refl _) hb3.size)⟩
      case measure => simp [intOf]; omega
    · have g1 : decide ((128 : Int) ≤ (m : Int)) = false := decide_eq_false (by omega)
      rw [Lib.uvarint_small (by omega)] at he hl
      obtain ⟨y, hy⟩ : ∃ y : UInt8, y = m.toUInt8 := ⟨_, rfl⟩
      have hyn : y.toNat = m := by rw [hy, Lib.toUInt8_toNat (by omega)]
      have hcs := Lib.hid (show [Value.int .u8 (m : Int)] = [Value.int .u8 ((y.toNat : Nat) : Int)] by rw [hyn])
      rw [← hy] at he hl
      have He := Lib.hid he
      have Hl := Lib.hid hl
      have HB := (Below.refl wr.heap.size wr).alloc (Nat.le_refl _) (.cells #[.int .u8 (m : Int)] 5)
      have HO2 := Lib.hid (hO.later HB)
      have HH := Lib.hid (heap_alloc_new wr (.cells #[.int .u8 (m : Int)] 5))
      have Hne := Lib.hid (hO.new_ne (Nat.le_refl wr.heap.size))
      have hb3 := below_on hb (Nat.le_refl _) HB
      clear he hl hy hyn hO HB hF
      go_wp2_with (at_builtin; refine wpList_append_one rfl (some 21) (.tmp 17) (.tmp 20) 36 rfl rfl (.int .u8 0) 1 Try.underlying36 inf_byte rfl (by decide) (by decide) rfl HO2.out wr.heap.size y rfl _ 5 HH.out hcs.out Hne.out trivial (by have := Hl.out; simp only [List.length_cons] at this; omega) hb3.size ?_; intro v3 w3 hO3 hg3 hat3)
      go_ret
      exact ⟨_, rfl, by rw [← He.out]; exact hO3, hb3.trans (HO2.out.below hg3 (Nat.le_refl _) hb3.size)⟩
set_option maxRecDepth 100000 in
set_option maxHeartbeats 400000 in
theorem onum_c (n : Int) (w : World) (h0 : -9223372036854775808 ≤ n) (h1 : n ≤ 9223372036854775807) :
    Calls Try.prog 59 #[.int .i64 n] w fun e w' => ∃ v, e = .returned v ∧ Own w' w.heap.size 5 v (numB n) ∧ Below w.heap.size w w' := by
  have H := Lib.hid (num_c n w h0 h1)
  clear h0 h1
  go_enter Try.func59, Try.ntmps59
  go_wp2_with fail
  refine H.out.mono ?_
  rintro e w1 ⟨v, rfl, hO, hb⟩
  go_wp2
  go_ret
  exact ⟨_, rfl, hO, hb⟩
end Go.Proofs.Ytogecfddkohigaa
