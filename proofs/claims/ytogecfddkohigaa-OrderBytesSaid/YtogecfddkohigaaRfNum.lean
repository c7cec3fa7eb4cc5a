/- the reference's Num -/
import Derived.Test.YtogecfddkohigaaRows
import Derived.Test.YtogecfddkohigaaRfLaw
import Derived.Deep.Cut
import Derived.WalkKit
import Derived.WalkSpells
import Derived.WalkLawsBesides
import Derived.Deep.QuietTactic
import Derived.BigQuiet
import Derived.Laws.StructEq
import Derived.Deep.DeepFit
import Derived.StillTailTactics
namespace Go.Proofs.Ytogecfddkohigaa
open Go.RowKit
theorem zig0 {n : Int} (h0 : 0 ≤ n) (h1 : n ≤ 9223372036854775807) : IntKind.u64.wrap (IntKind.u64.wrap n * 2) = ((Lib.zigzag n : Nat) : Int) := by
  unfold Lib.zigzag
  rw [if_pos h0, IntKind.wrap_u64, IntKind.wrap_u64]
  omega
theorem zig1 {n : Int} (h0 : n < 0) (h1 : -9223372036854775808 ≤ n) : IntKind.u64.wrap (IntKind.u64.wrap (IntKind.u64.wrap (IntKind.i64.wrap (-1 - n)) * 2) + 1) = ((Lib.zigzag n : Nat) : Int) := by
  unfold Lib.zigzag
  rw [if_neg (by omega), IntKind.wrap_u64, IntKind.wrap_u64, IntKind.wrap_u64, IntKind.wrap_i64]
  omega
set_option maxRecDepth 100000 in
set_option maxHeartbeats 1000000 in
theorem rnum2_c (n : Int) (w : World) (h0 : -9223372036854775808 ≤ n) (h1 : n ≤ 9223372036854775807) :
    Calls Try.prog 79 #[.int .i64 n] w fun e w' => ∃ v, e = .returned v ∧ Own w' w.heap.size 5 v (numB n) ∧ Below w.heap.size w w' := by
  have hz := Lib.zigzag_lt h0 h1
  have Z0 := Lib.hid fun h => zig0 (n := n) h h1
  have Z1 := Lib.hid fun h => zig1 (n := n) h h0
  unfold numB
  generalize Lib.zigzag n = z at *
  clear h0 h1
  go_enter Try.func79, Try.ntmps79
  go_upto_if 9 with fail
  go_cut [3] from 5 (fun s3 wx => s3 = .int .u64 (z : Int) ∧ w = wx)
  case first =>
    by_cases hn : n < 0
    · have g1 : decide (n < 0) = true := decide_eq_true hn
      have e := Z1.out hn
      rw [IntWalk.i64_left] at e
      have E := Lib.hid e
      rw [g1]
      clear e hn Z0 Z1
      go_wp2
      go_meet
      exact ⟨by rw [← E.out], rfl⟩
    · have g1 : decide (n < 0) = false := decide_eq_false hn
      have E := Lib.hid (Z0.out (by omega))
      rw [g1]
      clear hn Z0 Z1
      go_wp2
      go_meet
      exact ⟨by rw [← E.out], rfl⟩
  case rest =>
  obtain ⟨rfl, rfl⟩ := hcut
  clear Z0 Z1
  go_wp2_with fail
  go_loopw [4, 3] (fun v i wr => ∃ (m : Nat) (pre : List UInt8), i = .int .u64 (m : Int) ∧ m < 18446744073709551616 ∧ pre.length + (Lib.uvarint m).length ≤ 10 ∧ pre ++ Lib.uvarint m = Lib.uvarint z ∧ Own wr w.heap.size 5 v pre ∧ Below w.heap.size w wr) (fun _ i _ => (intOf i).toNat)
  case atStart => exact ⟨z, [], rfl, hz, by simpa using uvarint_le hz, rfl, Own.nil_ _ _ _, Below.refl _ _⟩
  case round =>
    obtain ⟨m, pre, rfl, hm, hl, he, hO, hb⟩ := hrel
    by_cases hbig : 128 ≤ m
    · have g1 : decide ((128 : Int) ≤ (m : Int)) = true := decide_eq_true (by omega)
      rw [Lib.uvarint_big hbig] at he hl
      obtain ⟨y, hy⟩ : ∃ y : UInt8, y = (m % 128 + 128).toUInt8 := ⟨_, rfl⟩
      have hyn : y.toNat = m % 128 + 128 := by rw [hy, Lib.toUInt8_toNat (by omega)]
      rw [← hy] at he hl
      have g2 : (m : Int) % 128 + 128 = ((y.toNat : Nat) : Int) := by omega
      have He := Lib.hid he
      have Hl := Lib.hid hl
      have HB := (Below.refl wr.heap.size wr).alloc (Nat.le_refl _) (.cells #[.int .u8 y.toNat] 5)
      have HO2 := Lib.hid (hO.later HB)
      have HH := Lib.hid (heap_alloc_new wr (.cells #[.int .u8 y.toNat] 5))
      have Hne := Lib.hid (hO.new_ne (Nat.le_refl wr.heap.size))
      have hb3 := below_on hb (Nat.le_refl _) HB
      clear he hl hy hyn hO HB
      go_wp2_with (at_builtin; refine wpList_append_one rfl (some 23) (.tmp 17) (.tmp 22) 36 rfl rfl (.int .u8 0) 1 Try.underlying36 inf_byte rfl (by decide) (by decide) rfl HO2.out wr.heap.size y rfl _ 5 HH.out rfl Hne.out trivial (by have := Hl.out; simp only [List.length_cons] at this; omega) hb3.size ?_; intro v3 w3 hO3 hg3 hat3)
      go_roundw
      case rel => exact ⟨m / 128, pre ++ [y], by go_num, by omega, by have := Hl.out; simp only [List.length_append, List.length_cons, List.length_nil] at this ⊢; omega, by rw [List.append_assoc]; exact He.out, hO3, hb3.trans (HO2.out.below hg3 (Nat.le_refl _) hb3.size)⟩
      case measure => simp [intOf]; omega
    · have g1 : decide ((128 : Int) ≤ (m : Int)) = false := decide_eq_false (by omega)
      rw [Lib.uvarint_small (by omega)] at he hl
      obtain ⟨y, hy⟩ : ∃ y : UInt8, y = m.toUInt8 := ⟨_, rfl⟩
      have hyn : y.toNat = m := by rw [hy, Lib.toUInt8_toNat (by omega)]
      have hcs := Lib.hid (show [Value.int .u8 (m : Int)] = [Value.int .u8 ((y.toNat : Nat) : Int)] by rw [hyn])
      rw [← hy] at he hl
      have He := Lib.hid he
      have Hl := Lib.hid hl
      have HB := (Below.refl wr.heap.size wr).alloc (Nat.le_refl _) (.cells #[.int .u8 (m : Int)] 5)
      have HO2 := Lib.hid (hO.later HB)
      have HH := Lib.hid (heap_alloc_new wr (.cells #[.int .u8 (m : Int)] 5))
      have Hne := Lib.hid (hO.new_ne (Nat.le_refl wr.heap.size))
      have hb3 := below_on hb (Nat.le_refl _) HB
      clear he hl hy hyn hO HB
      go_wp2_with (at_builtin; refine wpList_append_one rfl (some 30) (.tmp 26) (.tmp 29) 36 rfl rfl (.int .u8 0) 1 Try.underlying36 inf_byte rfl (by decide) (by decide) rfl HO2.out wr.heap.size y rfl _ 5 HH.out hcs.out Hne.out trivial (by have := Hl.out; simp only [List.length_cons] at this; omega) hb3.size ?_; intro v3 w3 hO3 hg3 hat3)
      go_ret
      exact ⟨_, rfl, by rw [← He.out]; exact hO3, hb3.trans (HO2.out.below hg3 (Nat.le_refl _) hb3.size)⟩
end Go.Proofs.Ytogecfddkohigaa
