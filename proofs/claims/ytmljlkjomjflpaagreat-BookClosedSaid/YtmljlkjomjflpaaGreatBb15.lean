/- Texts of this claim, laid together: Legs. -/
import Derived.Test.YtmljlkjomjflpaaGreatRows
import Derived.Test.YtmljlkjomjflpaaGreatBb11
import Derived.WalkKit
import Derived.WalkSpells
import Derived.WalkLawsBesides
import Derived.Deep.QuietTactic
import Derived.BigQuiet
import Derived.Laws.StructEq
import Derived.Deep.DeepFit
import Derived.StillTailTactics

/- order.legs, period, held -/
namespace Go.Proofs.YtmljlkjomjflpaaGreat
open Go.RowKit
def periodB (n : Int) : Bool := decide (1 ≤ n) && decide (n ≤ 1000)
def heldB (n : Int) : Bool := decide (1 ≤ n) && decide (n ≤ 9999)
set_option maxRecDepth 100000 in
set_option maxHeartbeats 400000 in
theorem period_c (n : Int) (w : World) : Calls Tryz.prog 158 #[i64 n] w fun e w' => e = .returned (.bool (periodB n)) ∧ Below w.heap.size w w' := by
  by_cases h1 : 1 ≤ n
  · have g1 : decide (1 ≤ n) = true := decide_eq_true h1
    have Hs := Lib.hid (show periodB n = decide (n ≤ 1000) by unfold periodB; rw [g1]; rfl)
    clear h1
    by_cases h2 : n ≤ 1000
    · have g2 : decide (n ≤ 1000) = true := decide_eq_true h2
      have H2 := Lib.hid g2
      clear h2
      go_enter Tryz.func158, Tryz.ntmps158
      go_wp2
      go_ret
      exact ⟨by rw [Hs.out, H2.out]; rfl, Below.refl _ _⟩
    · have g2 : decide (n ≤ 1000) = false := decide_eq_false h2
      have H2 := Lib.hid g2
      clear h2
      go_enter Tryz.func158, Tryz.ntmps158
      go_wp2
      go_ret
      exact ⟨by rw [Hs.out, H2.out]; rfl, Below.refl _ _⟩
  · have g1 : decide (1 ≤ n) = false := decide_eq_false h1
    have Hs := Lib.hid (show periodB n = false by unfold periodB; rw [g1]; rfl)
    clear h1
    go_enter Tryz.func158, Tryz.ntmps158
    go_wp2
    go_ret
    exact ⟨by rw [Hs.out]; rfl, Below.refl _ _⟩
set_option maxRecDepth 100000 in
set_option maxHeartbeats 400000 in
theorem held_c (n : Int) (w : World) : Calls Tryz.prog 163 #[i64 n] w fun e w' => e = .returned (.bool (heldB n)) ∧ Below w.heap.size w w' := by
  by_cases h1 : 1 ≤ n
  · have g1 : decide (1 ≤ n) = true := decide_eq_true h1
    have Hs := Lib.hid (show heldB n = decide (n ≤ 9999) by unfold heldB; rw [g1]; rfl)
    clear h1
    by_cases h2 : n ≤ 9999
    · have g2 : decide (n ≤ 9999) = true := decide_eq_true h2
      have H2 := Lib.hid g2
      clear h2
      go_enter Tryz.func163, Tryz.ntmps163
      go_wp2
      go_ret
      exact ⟨by rw [Hs.out, H2.out]; rfl, Below.refl _ _⟩
    · have g2 : decide (n ≤ 9999) = false := decide_eq_false h2
      have H2 := Lib.hid g2
      clear h2
      go_enter Tryz.func163, Tryz.ntmps163
      go_wp2
      go_ret
      exact ⟨by rw [Hs.out, H2.out]; rfl, Below.refl _ _⟩
  · have g1 : decide (1 ≤ n) = false := decide_eq_false h1
    have Hs := Lib.hid (show heldB n = false by unfold heldB; rw [g1]; rfl)
    clear h1
    go_enter Tryz.func163, Tryz.ntmps163
    go_wp2
    go_ret
    exact ⟨by rw [Hs.out]; rfl, Below.refl _ _⟩
set_option maxRecDepth 100000 in
set_option maxHeartbeats 4000000 in
theorem legs_c (A : Option Addr) (c : Nat) (l : List Leg) (w : World) (h : Sl w w.heap.size A c l) (hn : l.length ≤ 65536) :
    Calls Tryz.prog 157 #[.slice A l.length c] w fun e w' => e = .returned (.bool (legsB l)) ∧ Below w.heap.size w w' := by
  have hmm := @run_makeMap Tryz.prog
  go_enter Tryz.func157, Tryz.ntmps157
  go_wp2
  have hm0 := MapIs.made (enc := Value.string) w
  have hb0 := (Below.refl w.heap.size w).alloc (Nat.le_refl _) (.map #[] 0)
  go_loopw [9] (fun i wr => ∃ k : Nat, i = i64 k ∧ k ≤ l.length ∧ MapIs Value.string wr w.heap.size (seenM (l.take k)) ∧ legsTo l k ∧ Below w.heap.size w wr) (fun i _ => l.length - (intOf i).toNat)
  case atStart => exact ⟨0, rfl, by omega, hm0, ⟨by simp, by simp⟩, hb0⟩
  case round =>
    obtain ⟨k, rfl, hk, hm, ht, hb⟩ := hrel
    have HT := Lib.hid ht
    clear hm0 hb0 hmm ht
    by_cases hlt : k < l.length
    · obtain ⟨b, o, rfl, hbb, hsz, c0, c1⟩ := (h.later hb).leg hlt
      have hB1 := (Below.refl wr.heap.size wr).alloc (Nat.le_refl _) (.cells #[.string l[k].acct, i64 l[k].sum] 137)
      have hm1 := hm.later hB1
      have hb1 := hb.alloc hb.size (.cells #[.string l[k].acct, i64 l[k].sum] 137)
      have hlk := run_lookup (P := Tryz.prog) strKey Tryz.underlying201 hm1 l[k].acct (.bool false) (by kernel_rfl) false
      have Hm1 := Lib.hid hm1
      have Hb1 := Lib.hid hb1
      by_cases hs : l[k].acct ∈ (l.take k).map Leg.acct
      · rw [getM_seen hs] at hlk
        have Hs := Lib.hid (legsB_seen hlt hs)
        clear hm hm1 hb1 hs
        go_wp2
        go_ret
        exact ⟨by rw [Hs.out]; rfl, Hb1.out⟩
      · rw [getM_unseen hs] at hlk
        have Hs := Lib.hid hs
        clear hm hm1 hb1 hs
        go_wp2_with fail
        refine (name_b l[k].acct _).mono ?_
        rintro e w2 ⟨rfl, hF⟩
        have e0 : (wr.alloc (.cells #[.string l[k].acct, i64 l[k].sum] 137)).cell? ⟨wr.heap.size, 0, none⟩ = some (.string l[k].acct) := by simp
        have e1 : (wr.alloc (.cells #[.string l[k].acct, i64 l[k].sum] 137)).cell? ⟨wr.heap.size, 1, none⟩ = some (i64 l[k].sum) := by simp
        have e0 := (hF.cell (p := ⟨wr.heap.size, 0, none⟩) (by simp)).trans e0
        have e1 := (hF.cell (p := ⟨wr.heap.size, 1, none⟩) (by simp)).trans e1
        have hm2 := Lib.hid (Hm1.out.later hF)
        have hb2 := Lib.hid (below_on Hb1.out (Nat.le_refl _) hF)
        clear hF hlk c0 c1 Hm1 Hb1 hb hB1
        by_cases hnm : nameB l[k].acct = true
        · rw [hnm]
          by_cases hz : l[k].sum = 0
          · have g1 : (l[k].sum == 0) = true := beq_iff_eq.2 hz
            have Hs2 := Lib.hid (legsB_bad hlt (by unfold legB; rw [hz]; simp))
            clear hz hnm
            go_wp2
            go_ret
            exact ⟨by rw [Hs2.out]; rfl, hb2.out⟩
          · have g1 : (l[k].sum == 0) = false := beq_eq_false_iff_ne.2 hz
            have Hl := Lib.hid (show legB l[k] = true by unfold legB; rw [hnm, decide_eq_true hz]; rfl)
            clear hz hnm
            go_wp2_with (refine wpList_put rfl none (.tmp 28) (.tmp 30) (.const (.bool true)) 201 rfl rfl strKey Tryz.underlying201 rfl hm2.out l[k].acct (.bool true) rfl rfl ?_; intro w3 hm3 hg3)
            go_roundw
            case rel => exact ⟨k + 1, by go_num, by omega, by rw [List.take_succ_eq_append_getElem hlt, seenM_snoc]; exact hm3, HT.out.next hlt Hs.out Hl.out, hb2.out.trans (below_of_grown hg3 hb2.out.size (fun g e => by injection e with e; omega))⟩
            case measure => simp [intOf]; omega
        · have hnm' : nameB l[k].acct = false := by simpa using hnm
          rw [hnm']
          have Hs2 := Lib.hid (legsB_bad hlt (by unfold legB; rw [hnm']; rfl))
          clear hnm hnm'
          go_wp2
          go_ret
          exact ⟨by rw [Hs2.out]; rfl, hb2.out⟩
    · obtain rfl : k = l.length := by omega
      have hal := legsB_all HT.out
      by_cases h2 : 2 ≤ l.length
      · have g1 : decide ((2 : Int) ≤ (l.length : Int)) = true := decide_eq_true (by omega)
        rw [decide_eq_true h2] at hal
        by_cases h6 : l.length ≤ 6
        · have g2 : decide ((l.length : Int) ≤ 6) = true := decide_eq_true (by omega)
          rw [decide_eq_true h6] at hal
          have Hs := Lib.hid hal
          clear hal h2 h6
          go_wp2
          go_ret
          exact ⟨by rw [Hs.out]; rfl, hb⟩
        · have g2 : decide ((l.length : Int) ≤ 6) = false := decide_eq_false (by omega)
          rw [decide_eq_false h6] at hal
          have Hs := Lib.hid hal
          clear hal h2 h6
          go_wp2
          go_ret
          exact ⟨by rw [Hs.out]; rfl, hb⟩
      · have g1 : decide ((2 : Int) ≤ (l.length : Int)) = false := decide_eq_false (by omega)
        rw [decide_eq_false h2] at hal
        have Hs := Lib.hid hal
        clear hal h2
        go_wp2
        go_ret
        exact ⟨by rw [Hs.out]; rfl, hb⟩
end Go.Proofs.YtmljlkjomjflpaaGreat
