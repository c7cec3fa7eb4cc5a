/- Slices of strings: Index, Contains, IndexFunc, ContainsFunc. -/
import Derived.Test.YtogecfddkohigaaRows
import Derived.Test.YtogecfddkohigaaData
import Derived.WalkKit
import Derived.WalkSpells
import Derived.WalkLawsBesides
import Derived.Deep.QuietTactic
import Derived.BigQuiet
import Derived.Deep.DeepFit
import Derived.Test.YtogecfddkohigaaRow
namespace Go.Proofs.Ytogecfddkohigaa
open Go.RowKit

set_option maxRecDepth 20000 in
set_option maxHeartbeats 400000 in
theorem indexFunc_str (A : Option Addr) (c : Nat) (l : List ByteArray) (g : FuncId) (cap : Array Value) (p : ByteArray → Bool) (w : World) (h : Sl w w.heap.size A c l) (hn : l.length ≤ 65536)
    (eg : ∀ args w, (callFunc g args).run Try.prog w = .ok (.enter g args) w)
    (hf : ∀ x, x ∈ l → ∀ w1, Below w.heap.size w w1 → Calls Try.prog g (#[.string x] ++ cap) w1 fun e w2 => e = .returned (.bool (p x)) ∧ Below w1.heap.size w1 w2) :
    Calls Try.prog 84 #[.slice A l.length c, .func (.func g) #[] cap] w fun e w' => e = .returned (i64 (idxP p l)) ∧ Below w.heap.size w w' := by
  have Hf := Lib.hid hf
  clear hf
  go_enter Try.func84, Try.ntmps84
  go_wp2
  go_loopw [8] (fun i wr => ∃ k : Nat, k ≤ l.length ∧ i = i64 k ∧ (∀ j (hj : j < l.length), j < k → p l[j] = false) ∧ Below w.heap.size w wr) (fun i _ => l.length - (intOf i).toNat)
  case atStart => exact ⟨0, Nat.zero_le _, rfl, by omega, Below.refl _ _⟩
  case round =>
    obtain ⟨k, hk, rfl, hno, hb⟩ := hrel
    by_cases hlt : k < l.length
    · obtain ⟨b, o, rfl, hbb, -, d0⟩ := (h.below hb).str hlt
      have Hno := Lib.hid hno
      clear hno
      go_wp2_with fail
      refine (Hf.out _ (List.getElem_mem hlt) _ hb).mono ?_
      rintro e w2 ⟨rfl, hb2⟩
      have hb3 := hb.trans (hb2.mono hb.size)
      by_cases hp : p l[k] = true
      · rw [hp]
        have Hp := Lib.hid hp
        clear hp
        go_wp2
        go_ret
        exact ⟨by rw [show idxP p l = k from idxP_hit hlt Hp.out Hno.out]; rfl, hb3⟩
      · have hp' : p l[k] = false := by simpa using hp
        rw [hp']
        have Hp := Lib.hid hp'
        clear hp hp'
        go_wp2
        go_roundw
        case rel => exact ⟨k + 1, by omega, by go_num, fun j hj h => by
            rcases Nat.lt_succ_iff_lt_or_eq.1 h with h | rfl
            · exact Hno.out j hj h
            · exact Hp.out, hb3⟩
        case measure => simp [intOf]; omega
    · have hkl : k = l.length := by omega
      subst hkl
      go_wp2
      go_ret
      exact ⟨by rw [show idxP p l = -1 from idxP_miss (fun j hj => hno j hj hj)]; rfl, hb⟩

set_option maxRecDepth 20000 in
set_option maxHeartbeats 400000 in
theorem containsFunc_str (A : Option Addr) (c : Nat) (l : List ByteArray) (g : FuncId) (cap : Array Value) (p : ByteArray → Bool) (w : World) (h : Sl w w.heap.size A c l) (hn : l.length ≤ 65536)
    (eg : ∀ args w, (callFunc g args).run Try.prog w = .ok (.enter g args) w)
    (hf : ∀ x, x ∈ l → ∀ w1, Below w.heap.size w w1 → Calls Try.prog g (#[.string x] ++ cap) w1 fun e w2 => e = .returned (.bool (p x)) ∧ Below w1.heap.size w1 w2) :
    Calls Try.prog 49 #[.slice A l.length c, .func (.func g) #[] cap] w fun e w' => e = .returned (.bool (l.any p)) ∧ Below w.heap.size w w' := by
  have H := Lib.hid (indexFunc_str A c l g cap p w h hn eg hf)
  have hr := idxP_range p l
  have HA := Lib.hid (idxP_any p l)
  clear hf h eg
  generalize idxP p l = r at *
  go_enter Try.func49, Try.ntmps49
  go_wp2_with (go_at_call 84; refine H.out.mono ?_; rintro e w' ⟨rfl, hb⟩)
  go_ret
  exact ⟨by rw [← HA.out]; rfl, hb⟩

set_option maxRecDepth 20000 in
set_option maxHeartbeats 400000 in
theorem index_str (A : Option Addr) (c : Nat) (l : List ByteArray) (s : ByteArray) (w : World) (h : Sl w w.heap.size A c l) (hn : l.length ≤ 65536) :
    Calls Try.prog 85 #[.slice A l.length c, .string s] w fun e w' => e = .returned (i64 (idxP (fun x => decide (s = x)) l)) ∧ Below w.heap.size w w' := by
  go_enter Try.func85, Try.ntmps85
  go_wp2
  go_loopw [8] (fun i wr => ∃ k : Nat, k ≤ l.length ∧ i = i64 k ∧ (∀ j (hj : j < l.length), j < k → decide (s = l[j]) = false) ∧ w = wr) (fun i _ => l.length - (intOf i).toNat)
  case atStart => exact ⟨0, Nat.zero_le _, rfl, by omega, rfl⟩
  case round =>
    obtain ⟨k, hk, rfl, hno, rfl⟩ := hrel
    by_cases hlt : k < l.length
    · obtain ⟨b, o, rfl, hbb, -, d0⟩ := h.str hlt
      have Hno := Lib.hid hno
      clear hno
      by_cases hp : s = l[k]
      · have hq := beqS_of_eq hp
        have Hp := Lib.hid hp
        clear hp
        go_wp2
        go_ret
        exact ⟨by rw [show idxP (fun x => decide (s = x)) l = k from idxP_hit hlt (by simpa using Hp.out) Hno.out]; rfl, Below.refl _ _⟩
      · have hq := beqS_of_ne hp
        have Hp := Lib.hid hp
        clear hp
        go_wp2
        go_roundw
        case rel => exact ⟨k + 1, by omega, by go_num, fun j hj h => by
            rcases Nat.lt_succ_iff_lt_or_eq.1 h with h | rfl
            · exact Hno.out j hj h
            · simpa using Hp.out, trivial⟩
        case measure => simp [intOf]; omega
    · have hkl : k = l.length := by omega
      subst hkl
      go_wp2
      go_ret
      exact ⟨by rw [show idxP (fun x => decide (s = x)) l = -1 from idxP_miss (fun j hj => hno j hj hj)]; rfl, Below.refl _ _⟩

set_option maxRecDepth 100000 in
set_option maxHeartbeats 400000 in
theorem contains_str (A : Option Addr) (c : Nat) (l : List ByteArray) (s : ByteArray) (w : World) (h : Sl w w.heap.size A c l) (hn : l.length ≤ 65536) :
    Calls Try.prog 51 #[.slice A l.length c, .string s] w fun e w' => e = .returned (.bool (l.any fun x => decide (s = x))) ∧ Below w.heap.size w w' := by
  have H := Lib.hid (index_str A c l s w h hn)
  have hr := idxP_range (fun x => decide (s = x)) l
  have HA := Lib.hid (idxP_any (fun x => decide (s = x)) l)
  clear h
  generalize idxP (fun x => decide (s = x)) l = r at *
  go_enter Try.func51, Try.ntmps51
  go_wp2_with (go_at_call 85; refine (H.out).mono ?_; rintro e w' ⟨rfl, hb⟩)
  go_ret
  refine ⟨?_, hb⟩
  rw [← HA.out]
  rfl
end Go.Proofs.Ytogecfddkohigaa
