/- mixed -/
import Derived.Test.YtcpjopmgiogfkaaRows
import Derived.Test.YtcpjopmgiogfkaaSwap
import Derived.Test.YtcpjopmgiogfkaaBeg
import Derived.Test.YtcpjopmgiogfkaaMore
import Derived.WalkKit
import Derived.WalkSpells
import Derived.WalkLawsBesides
import Derived.Deep.QuietTactic
import Derived.BigQuiet
import Derived.Laws.StructEq
import Derived.Deep.DeepFit
import Derived.StillTailTactics
namespace Go.Proofs.Ytcpjopmgiogfkaa
open Go.RowKit
set_option maxRecDepth 100000 in
set_option maxHeartbeats 2000000 in
theorem mixed_10 (A B : Option Addr) (c d : Nat) (l : List Od) (s : List Int) (w : World) (h : Sl w w.heap.size A c l) (hs : Sl w w.heap.size B d s) (hn : l.length ≤ 65536) (hl : ∀ x ∈ l, x.legs.length ≤ 10) :
    Calls Try.prog 26 #[.slice A l.length c, .slice B s.length d] w fun e w' => ∃ v, e = .returned v ∧ (∃ m A' c', v = .slice A' m.length c' ∧ Mix l m ∧ Sl w' w'.heap.size A' c' m) ∧ Below w.heap.size w w' := by
  have hsm : s.length ≤ 9223372036854775807 := hs.len_le
  have hper : ∀ m, Mix l m → m.length = l.length := fun m h => h.perm.length_eq.symm
  go_enter Try.func26, Try.ntmps26
  go_wp2_with fail
  go_loopw [0, 5] (fun v i wr => ∃ k : Nat, i = i64 k ∧ k ≤ s.length ∧ (∃ m A' c', v = .slice A' m.length c' ∧ Mix l m ∧ Sl wr wr.heap.size A' c' m) ∧ Below w.heap.size w wr) (fun _ i _ => s.length - (intOf i).toNat)
  case atStart => exact ⟨0, rfl, by omega, ⟨l, A, c, rfl, .refl l, h⟩, Below.refl _ _⟩
  case round =>
    obtain ⟨k, rfl, hk, ⟨m, A', c', rfl, hm, hsm2⟩, hb⟩ := hrel
    have hml := hper m hm
    by_cases hlt : k < s.length ∧ k < 200
    · obtain ⟨hk1, hk2⟩ := hlt
      obtain ⟨b, o, rfl, hbb, -, hcell⟩ := (hs.later hb).at_ hk1
      have c0 : wr.cell? ⟨b, o + k, none⟩ = some (i64 s[k]) := by
        have := hcell 0 _ rfl
        rwa [show k * Enc.size Int + 0 = k from Nat.mul_one k] at this
      clear hcell
      have Hm := Lib.hid hm
      have Hb := Lib.hid hb
      have Hs2 := Lib.hid hsm2
      have Hml := Lib.hid hml
      have hml2 : m.length ≤ 65536 := by omega
      have hlm : ∀ x ∈ m, x.legs.length ≤ 10 := fun x hx => hl x (hm.perm.mem_iff.2 hx)
      clear hm hb hsm2 hml
      go_wp2_with fail
      generalize wrap64 _ = ix
      refine (swap_c A' c' m ix _ Hs2.out hml2 hlm).mono ?_
      rintro e w1 ⟨v, rfl, hO, hb1⟩
      have hb2 := below_on Hb.out (Nat.le_refl _) hb1
      by_cases hsw : swapOk m ix = true
      · obtain ⟨A2, c2, rfl, hs3⟩ := hO.sl
        rw [hsw]
        have Hsw := Lib.hid hsw
        clear hsw hO
        go_wp2
        go_roundw
        case rel => exact ⟨k + 1, by go_num, by omega, ⟨swapR m ix, A2, c2, rfl, Hm.out.swap Hsw.out, hs3⟩, hb2⟩
        case measure => simp [intOf]; omega
      · rw [show swapOk m ix = false by simpa using hsw]
        clear hsw hO
        go_wp2
        go_roundw
        case rel => exact ⟨k + 1, by go_num, by omega, ⟨m, A', c', rfl, Hm.out, Hs2.out.later hb1⟩, hb2⟩
        case measure => simp [intOf]; omega
    · have Hm := Lib.hid hm
      have Hs2 := Lib.hid hsm2
      have Hb := Lib.hid hb
      clear hm hsm2 hml hb
      by_cases hk1 : k < s.length
      · have hk2 : ¬ k < 200 := fun h => hlt ⟨hk1, h⟩
        clear hlt
        go_wp2
        go_ret
        exact ⟨_, rfl, ⟨m, A', c', rfl, Hm.out, Hs2.out⟩, Hb.out⟩
      · clear hlt
        go_wp2
        go_ret
        exact ⟨_, rfl, ⟨m, A', c', rfl, Hm.out, Hs2.out⟩, Hb.out⟩
end Go.Proofs.Ytcpjopmgiogfkaa
