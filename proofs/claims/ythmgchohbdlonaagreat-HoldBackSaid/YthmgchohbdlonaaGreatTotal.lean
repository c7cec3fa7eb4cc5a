/- coins.Total -/
import Derived.Test.YthmgchohbdlonaaGreatRows
import Derived.Test.YthmgchohbdlonaaGreatCoins
import Derived.Test.YthmgchohbdlonaaGreatMore
import Derived.Test.YthmgchohbdlonaaGreatSumL
import Derived.Test.YthmgchohbdlonaaGreatShelf
import Derived.Shelf.Spec.BitsCarry
import Derived.WalkKit
import Derived.WalkSpells
import Derived.WalkLawsBesides
import Derived.Deep.QuietTactic
import Derived.BigQuiet
import Derived.Laws.StructEq
import Derived.Deep.DeepFit
import Derived.StillTailTactics
namespace Go.Proofs.YthmgchohbdlonaaGreat
open Go.RowKit
theorem shr63 {a : Int} (h : R64 a) : a / 9223372036854775808 = if a < 0 then -1 else 0 := by unfold R64 at h; split <;> omega
set_option maxRecDepth 100000 in
set_option maxHeartbeats 4000000 in
theorem total_c (A : Option Addr) (c : Nat) (l : List Int) (w : World) (h : Sl w w.heap.size A c l) (hl : l.length ≤ 1000000) (hr : ∀ a ∈ l, R64 a) :
    Calls Tryz.prog 95 #[.slice A l.length c] w fun e w' => e = .returned (.tuple #[i64 (sumR (sumL l)).1, i64 (sumR (sumL l)).2]) ∧ Below w.heap.size w w' := by
  have hadd : ∀ (x y : Nat) (W : World), (callFunc 117 #[.int .u64 x, .int .u64 y, .int .u64 0]).run Tryz.prog W = .ok (.value (.tuple #[.int .u64 (((x + y) % 18446744073709551616 : Nat) : Int), .int .u64 (((x + y) / 18446744073709551616 : Nat) : Int)])) W := fun x y W => Any7.bits_Add64 Tryz.ladd64 x y 0 (by decide) W
  have Hadd := Lib.hid hadd
  obtain ⟨R, hR⟩ : ∃ R, sumR (sumL l) = R := ⟨_, rfl⟩
  rw [hR]
  have HR := Lib.hid hR
  clear hR
  clear hadd
  go_enter Tryz.func95, Tryz.ntmps95
  go_wp2_with fail
  go_loopw [4, 5, 11] (fun hi lo i wr => ∃ (k : Nat) (x : Int) (y : Nat), i = i64 k ∧ hi = i64 x ∧ lo = .int .u64 (y : Int) ∧ k ≤ l.length ∧ y < 18446744073709551616 ∧ x * 18446744073709551616 + y = sumL (l.take k) ∧ Below w.heap.size w wr) (fun _ _ i _ => l.length - (intOf i).toNat)
  case atStart => exact ⟨0, 0, 0, rfl, rfl, rfl, by omega, by decide, by simp [sumL], Below.refl _ _⟩
  case round =>
    obtain ⟨k, x, y, rfl, rfl, rfl, hk, hy, hs, hB⟩ := hrel
    by_cases hlt : k < l.length
    · have ha := hr l[k] (List.getElem_mem hlt)
      obtain ⟨b, o, rfl, -, -, hc⟩ := (h.later hB).at_ hlt
      have d0 := hc 0 _ rfl
      rw [show k * Enc.size Int + 0 = k from Nat.mul_one k] at d0
      have i0 : (0 : Int) ≤ (k : Int) := by omega
      have i1 : (k : Int) < (l.length : Int) := by omega
      have hlc : l.length ≤ c := h.1
      have hst := sumL_take hlt
      have hin := sumL_in (l.take k) fun a h => hr a (List.mem_of_mem_take h)
      have htk : (l.take k).length = k := by rw [List.length_take]; omega
      rw [htk] at hin
      have hx : -1000001 ≤ x ∧ x ≤ 1000001 := by omega
      have h63 := shr63 ha
      obtain ⟨u, hu⟩ : ∃ u : Nat, (u : Int) = l[k] % 18446744073709551616 := ⟨(l[k] % 18446744073709551616).toNat, by omega⟩
      have hu2 : IntKind.u64.wrap l[k] = (u : Int) := by rw [IntKind.wrap_u64, hu]
      have had := fun W => Hadd.out y u W
      obtain ⟨s, es⟩ : ∃ s, (y + u) % 18446744073709551616 = s := ⟨_, rfl⟩
      obtain ⟨t, et⟩ : ∃ t, (y + u) / 18446744073709551616 = t := ⟨_, rfl⟩
      simp only [es, et] at had
      have ht2 : IntKind.i64.wrap (t : Int) = t := by rw [IntKind.wrap_i64]; omega
      have Hst : Hid ((x + (l[k] / 9223372036854775808 + t)) * 18446744073709551616 + (s : Int) = sumL (l.take (k + 1)) ∧ s < 18446744073709551616) := Lib.hid (by
        unfold R64 at ha
        rw [hst, ← hs, h63]
        split <;> omega)
      obtain ⟨p, ep⟩ : ∃ p, l[k] / 9223372036854775808 = p := ⟨_, rfl⟩
      rw [ep] at Hst
      have hp : -1 ≤ p ∧ p ≤ 0 := by rw [← ep, h63]; split <;> omega
      have hp0 := hp.1
      have hp1 := hp.2
      have htn : t ≤ 1 := by omega
      have e1 : IntKind.i64.wrap (p + t) = p + t := by rw [IntKind.wrap_i64]; omega
      have e2 : IntKind.i64.wrap (x + (p + t)) = x + (p + t) := by rw [IntKind.wrap_i64]; omega
      have EP := Lib.hid ep
      have E1 := Lib.hid e1
      have E2 := Lib.hid e2
      clear hs hc hin htk h63 hst es et hu ep e1 e2
      generalize l[k] = a at *
      go_wp2
      go_roundw
      case rel => exact ⟨k + 1, x + (p + t), s, by go_num, by rw [EP.out, ← IntWalk.i64_left, ← IntWalk.i64_left, E1.out, E2.out], rfl, by omega, Hst.out.2, Hst.out.1, hB⟩
      case measure => simp [intOf]; omega
    · obtain rfl : k = l.length := by omega
      rw [List.take_length] at hs
      obtain ⟨v, hv⟩ : ∃ v, IntKind.i64.wrap (y : Int) = v := ⟨_, rfl⟩
      have hv2 : v = if (y : Int) < 9223372036854775808 then (y : Int) else (y : Int) - 18446744073709551616 := by
        rw [← hv, IntKind.wrap_i64]
        split <;> omega
      have hv64 : R64 v := by rw [← hv]; exact wrap_R64 _
      have hd := shr63 hv64
      obtain ⟨q, hq⟩ : ∃ q, v / 9223372036854775808 = q := ⟨_, rfl⟩
      have hR := HR.out
      have hv3 : wrap64 (y : Int) = v := by rw [← IntWalk.i64_left]; exact hv
      by_cases hx : x = q
      · have g1 : (x != q) = false := by rw [hx]; simp
        have hT := Lib.hid (show R = (v, 0) by
          rw [← hR]
          unfold sumR overB
          unfold R64 at hv64
          have e : sumL l = v := by
            rw [← hs, hx, ← hq, hd, hv2]
            split <;> split <;> omega
          rw [e, decide_eq_true hv64.1, decide_eq_true hv64.2]
          rfl)
        clear hs hv2 hd hR hx hv64
        go_wp2
        all_goals (
          go_ret2
          exact ⟨by rw [hT.out]; rfl, hB⟩)
      · have g1 : (x != q) = true := by simpa using hx
        have hT := Lib.hid (show R = (0, 2) by
          rw [← hR]
          unfold sumR
          rw [if_pos]
          unfold overB
          rw [Bool.not_eq_true', Bool.and_eq_false_iff, decide_eq_false_iff_not, decide_eq_false_iff_not]
          rw [← hq, hd] at hx
          split at hv2 <;> split at hx <;> omega)
        clear hs hv2 hd hR hx hv64
        go_wp2
        all_goals (
          go_ret2
          exact ⟨by rw [hT.out]; rfl, hB⟩)
end Go.Proofs.YthmgchohbdlonaaGreat
