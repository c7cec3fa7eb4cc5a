/- Clone, Grow, Concat at uint8 -/
import Derived.Test.YtogecfddkohigaaRows
import Derived.Test.YtogecfddkohigaaSlices
import Derived.WalkKit
import Derived.WalkSpells
import Derived.WalkLawsBesides
import Derived.Deep.QuietTactic
import Derived.BigQuiet
import Derived.Laws.StructEq
import Derived.Deep.DeepFit
import Derived.StillTailTactics
namespace Go.Proofs.Ytogecfddkohigaa
open Go.RowKit
theorem inf_byte : (Try.prog.info? 5).map (fun i => (i.zero, i.size, i.bytes)) = some (some (.int .u8 0), Enc.size UInt8, 1) := by kernel_rfl

set_option maxRecDepth 100000 in
set_option maxHeartbeats 400000 in
theorem grow_byte (n : Nat) (w : World) (hn : n ≤ 1000000000) :
    Calls Try.prog 89 #[.slice none 0 0, i64 n] w fun e w' => ∃ v, e = .returned v ∧ Own w' w.heap.size 5 v ([] : List UInt8) ∧ Below w.heap.size w w' := by
  rcases Nat.eq_zero_or_pos n with rfl | h0
  · go_enter Try.func89, Try.ntmps89
    go_wp2
    go_ret
    exact ⟨_, rfl, Own.nil_ _ _ _, Below.refl _ _⟩
  · obtain ⟨i, hi, hz, hz1, hz2⟩ := info_parts inf_byte
    have hrun := fun ty => Lib.run_append_nil_zeros (P := Try.prog) w 36 3 ty 5 i (.int .u8 0) .i64 .i64 Try.underlying36 Try.underlying3 hi hz n h0 (by rw [hz1]; decide) (by omega) (by rw [hz2]; omega)
    have hO := own_room (α := UInt8) w.drew w.heap.size 5 (grownCap w n 0 5) (Builtin.zeroCells (Value.cells (.int .u8 0)) n ++ Builtin.zeroCells (Value.cells (.int .u8 0)) (grownCap w n 0 5 - n)) (Nat.le_refl _) (grownCap_le_maxLen w n 0 _ (by simp only [maxLen]; omega)) (by
      rw [Array.size_append, size_zeroCells, size_zeroCells, show (Value.cells (.int .u8 0)).size = Enc.size UInt8 from rfl, ← Nat.add_mul]
      have := grownCap_ge w n 0 5
      rw [Nat.add_sub_cancel' this])
    have hb := ((Below.refl w.heap.size w).drew).alloc (Nat.le_refl _) (.cells (Builtin.zeroCells (Value.cells (.int .u8 0)) n ++ Builtin.zeroCells (Value.cells (.int .u8 0)) (grownCap w n 0 5 - n)) 5)
    have HO := Lib.hid hO
    have Hb := Lib.hid hb
    have Hrun := Lib.hid hrun
    clear hO hb hrun hi hz hz1 hz2
    generalize (Builtin.zeroCells (Value.cells (.int .u8 0)) n ++ Builtin.zeroCells (Value.cells (.int .u8 0)) (grownCap w n 0 5 - n)) = Z at *
    generalize grownCap w n 0 5 = gc at *
    go_enter Try.func89, Try.ntmps89
    go_wp2_with (at_builtin; refine Lib.wpList_append_run _ rfl (.tmp 20) (.tmp 21) _ _ rfl _ _ rfl rfl _ _ (Hrun.out _) ?_)
    go_ret
    exact ⟨_, rfl, HO.out, Hb.out⟩

set_option maxRecDepth 100000 in
set_option maxHeartbeats 1000000 in
theorem concat_byte (A : Option Addr) (c : Nat) (ss : List (SV UInt8)) (w : World) (h : Sl w w.heap.size A c ss) (hn : ss.length ≤ 65536) (ht : (ss.flatMap SV.l).length ≤ 65536) :
    Calls Try.prog 58 #[.slice A ss.length c] w fun e w' => ∃ v, e = .returned v ∧ Own w' w.heap.size 5 v (ss.flatMap SV.l) ∧ Below w.heap.size w w' := by
  have hpre : ∀ k, k ≤ ss.length → ((ss.take k).flatMap SV.l).length ≤ 65536 := fun k _ => by
    refine Nat.le_trans ?_ ht
    conv => rhs; rw [← List.take_append_drop k ss, List.flatMap_append, List.length_append]
    omega
  have hstep : ∀ k (hk : k < ss.length), (ss.take (k + 1)).flatMap SV.l = (ss.take k).flatMap SV.l ++ ss[k].l := fun k hk => by
    rw [List.take_succ_eq_append_getElem hk, List.flatMap_append]; simp
  have Hpre := Lib.hid hpre
  have Hstep := Lib.hid hstep
  clear hpre hstep
  go_enter Try.func58, Try.ntmps58
  go_wp2_with fail
  go_loop [3, 11] (fun sz i => ∃ k : Nat, k ≤ ss.length ∧ i = i64 k ∧ sz = i64 ((ss.take k).flatMap SV.l).length) (fun _ i => ss.length - (intOf i).toNat)
  case atStart => exact ⟨0, Nat.zero_le _, rfl, rfl⟩
  case round =>
    obtain ⟨k, hk, rfl, rfl⟩ := hrel
    have hpk := Hpre.out k hk
    by_cases hlt : k < ss.length
    · obtain ⟨b, o, rfl, hbb, -, d0⟩ := h.sv hlt
      have hpk1 := Hpre.out (k + 1) hlt
      have hl1 : ((ss.take (k + 1)).flatMap SV.l).length = ((ss.take k).flatMap SV.l).length + ss[k].l.length := by rw [Hstep.out k hlt, List.length_append]
      rw [hl1] at hpk1
      have Hl1 := Lib.hid hl1
      clear hl1
      generalize ((ss.take k).flatMap SV.l).length = p at *
      have hp1 : (p : Int) + (ss[k].l.length : Int) ≤ 65536 := by omega
      have hp0 : decide ((p : Int) + (ss[k].l.length : Int) < 0) = false := by rw [decide_eq_false_iff_not]; omega
      go_wp2
      go_round
      case rel => exact ⟨k + 1, by omega, by go_num, by rw [Hl1.out]; go_num⟩
      case measure => simp [intOf]; omega
    · obtain rfl : k = ss.length := by omega
      rw [List.take_length] at hpk ⊢
      clear ht
      generalize (ss.flatMap SV.l).length = q at *
      go_wp2_with fail
      refine (grow_byte _ _ (by omega)).mono ?_
      rintro e w1 ⟨v1, rfl, hO1, hb1⟩
      go_wp2_with fail
      go_loopw [6, 27] (fun v i wr => ∃ k : Nat, k ≤ ss.length ∧ i = i64 k ∧ Own wr w.heap.size 5 v ((ss.take k).flatMap SV.l) ∧ Below w.heap.size w wr) (fun _ i _ => ss.length - (intOf i).toNat)
      case atStart => exact ⟨0, Nat.zero_le _, rfl, hO1, hb1⟩
      case round =>
        obtain ⟨k, hk, rfl, hO, hb⟩ := hrel
        have hpk2 := Hpre.out k hk
        by_cases hlt : k < ss.length
        · obtain ⟨b, o, rfl, hbb, hok, d0⟩ := (h.below hb).sv hlt
          have hs := hok.mono (hO.oth (Nat.le_refl _) hb.size)
          have hpk1 := Hpre.out (k + 1) hlt
          rw [Hstep.out k hlt, List.length_append] at hpk1
          have HO := Lib.hid hO
          have Hs := Lib.hid hs
          clear hok hs hO1 hb1 hO
          go_wp2_with (at_builtin; refine wpList_append_slice rfl (some 33) (.tmp 31) (.tmp 32) 36 rfl rfl (.int .u8 0) 1 Try.underlying36 inf_byte rfl (by decide) (by decide) rfl HO.out ss[k].a ss[k].l.length ss[k].c ss[k].l rfl rfl Hs.out (by omega) hb.size ?_; intro v3 w3 hO3 hg3 hat3)
          go_roundw
          case rel => exact ⟨k + 1, by omega, by go_num, by rw [Hstep.out k hlt]; exact hO3, hb.trans (HO.out.below hg3 (Nat.le_refl _) hb.size)⟩
          case measure => simp [intOf]; omega
        · obtain rfl : k = ss.length := by omega
          rw [List.take_length] at hO
          go_wp2
          go_ret
          exact ⟨_, rfl, hO, hb⟩
end Go.Proofs.Ytogecfddkohigaa
