/- law06.has, few -/
import Derived.Test.YtogecfddkohigaaRows
import Derived.Test.YtogecfddkohigaaMore
import Derived.Test.YtogecfddkohigaaShelf
import Derived.Test.YtogecfddkohigaaStrB
import Derived.WalkKit
import Derived.WalkSpells
import Derived.WalkLawsBesides
import Derived.Deep.QuietTactic
import Derived.BigQuiet
import Derived.Laws.StructEq
import Derived.Deep.DeepFit
import Derived.StillTailTactics
namespace Go.Proofs.Ytogecfddkohigaa
open Go.RowKit
def anyS (l : List ByteArray) (s : ByteArray) : Bool := l.any fun t => decide (t = s)
def noS (l : List ByteArray) (s : ByteArray) (k : Nat) : Prop := ∀ j (hj : j < l.length), j < k → l[j] ≠ s
theorem noS.next {l : List ByteArray} {s : ByteArray} {k : Nat} (h : noS l s k) (hk : k < l.length) (he : l[k] ≠ s) : noS l s (k + 1) := fun j hj hjk => by
  rcases Nat.lt_succ_iff_lt_or_eq.1 hjk with hjk | rfl
  · exact h j hj hjk
  · exact he
set_option maxRecDepth 100000 in
set_option maxHeartbeats 1000000 in
theorem has_c (A : Option Addr) (c : Nat) (l : List ByteArray) (s : ByteArray) (w : World) (h : Sl w w.heap.size A c l) (hn : l.length ≤ 65536) :
    Calls Try.prog 41 #[.slice A l.length c, .string s] w fun e w' => e = .returned (.bool (anyS l s)) ∧ Below w.heap.size w w' := by
  go_enter Try.func41, Try.ntmps41
  go_wp2_with fail
  go_loopw [5] (fun i wr => ∃ k : Nat, i = i64 k ∧ k ≤ l.length ∧ noS l s k ∧ Below w.heap.size w wr) (fun i _ => l.length - (intOf i).toNat)
  case atStart => exact ⟨0, rfl, by omega, fun _ _ h => absurd h (by omega), Below.refl _ _⟩
  case round =>
    obtain ⟨k, rfl, hk, hno, hb⟩ := hrel
    have Hno := Lib.hid hno
    clear hno
    by_cases hlt : k < l.length
    · obtain ⟨b, o, rfl, -, -, d0⟩ := (h.later hb).str hlt
      have i0 : (0 : Int) ≤ (k : Int) := by omega
      have i1 : (k : Int) < (l.length : Int) := by omega
      by_cases he : l[k] = s
      · have g := beqS_of_eq he
        have He := Lib.hid he
        clear he
        have Hs := Lib.hid (show anyS l s = true by unfold anyS; rw [List.any_eq_true]; exact ⟨l[k], List.getElem_mem hlt, decide_eq_true He.out⟩)
        go_wp2
        go_ret
        exact ⟨by rw [Hs.out]; rfl, hb⟩
      · have g := beqS_of_ne he
        have He := Lib.hid he
        clear he
        go_wp2
        go_roundw
        case rel => exact ⟨k + 1, by go_num, by omega, Hno.out.next hlt He.out, hb⟩
        case measure => simp [intOf]; omega
    · obtain rfl : k = l.length := by omega
      have Hs := Lib.hid (show anyS l s = false by
        unfold anyS
        rw [List.any_eq_false]
        intro t ht
        obtain ⟨j, hj, rfl⟩ := List.getElem_of_mem ht
        rw [decide_eq_false (Hno.out j hj hj)]; simp)
      go_wp2
      go_ret
      exact ⟨by rw [Hs.out]; rfl, hb⟩
def cut10 (x : Od) : Od := { x with legs := x.legs.take 10 }
theorem cut10_legs (x : Od) : (cut10 x).legs.length ≤ 10 := by unfold cut10; simp; omega
theorem cut10_ok {w : World} {n : Nat} {x : Od} (h : Okb w n x) : Okb w n (cut10 x) := by
  obtain ⟨a, b, c, d⟩ := h
  exact ⟨a, b, c, d.take 10⟩
set_option maxRecDepth 100000 in
set_option maxHeartbeats 2000000 in
theorem few6_c (x : Od) (w : World) (hx : Okb w w.heap.size x) : Calls Try.prog 26 #[x.v] w fun e w' => e = .returned (cut10 x).v ∧ Below w.heap.size w w' := by
  have hlc : x.legs.length ≤ x.lc := by obtain ⟨_, _, _, d⟩ := hx; exact d.1
  have hlm : x.legs.length ≤ 9223372036854775807 := by obtain ⟨_, _, _, d⟩ := hx; exact d.len_le
  clear hx
  unfold Od.v
  have hn : (min (x.legs.length : Int) 10).toNat = (cut10 x).legs.length := by unfold cut10; simp only [List.length_take]; omega
  have Hn := Lib.hid hn
  clear hn
  go_enter Try.func26, Try.ntmps26
  go_wp2
  refine bodyPost_ret (results_cell_row rfl _ _ (w.heap.size + 1) 30 _ (0, 0) _ rfl (heap_alloc2_new w _ _) Try.underlying30 rfl (by kernel_rfl)) rfl ?_
  refine ⟨?_, ((Below.refl _ _).alloc (Nat.le_refl _) _).alloc (by simp) _⟩
  rw [← Hn.out]
  rfl
end Go.Proofs.Ytogecfddkohigaa
