/- Texts of this claim, laid together. -/
import Derived.Test.YtampniiehgimhaaGreatRows
import Derived.Test.YtampniiehgimhaaGreatBs5
import Derived.WalkKit
import Derived.WalkSpells
import Derived.WalkLawsBesides
import Derived.Deep.QuietTactic
import Derived.BigQuiet
import Derived.Laws.StructEq
import Derived.Deep.DeepFit
import Derived.StillTailTactics
import Derived.Laws.EntriesVeiled

/- order.legs, period, held -/
namespace Go.Proofs.YtampniiehgimhaaGreat
open Go.RowKit
def periodB (n : Int) : Bool := decide (1 ≤ n) && decide (n ≤ 1000)
def heldB (n : Int) : Bool := decide (1 ≤ n) && decide (n ≤ 9999)
set_option maxRecDepth 100000 in
set_option maxHeartbeats 400000 in
theorem period_c (n : Int) (w : World) : Calls Tryz.prog 150 #[i64 n] w fun e w' => e = .returned (.bool (periodB n)) ∧ Below w.heap.size w w' := by
 by_cases h1 : 1 ≤ n
 ·have g1 : decide (1 ≤ n) = true := decide_eq_true h1
  have Hs := Lib.hid (show periodB n = decide (n ≤ 1000) by unfold periodB; rw [g1]; rfl)
  clear h1
  by_cases h2 : n ≤ 1000
  ·have g2 : decide (n ≤ 1000) = true := decide_eq_true h2
   have H2 := Lib.hid g2
   clear h2
   go_enter Tryz.func150, Tryz.ntmps150
   go_wp2
   go_ret
   exact ⟨by rw [Hs.out, H2.out]; rfl, Below.refl _ _⟩
  ·have g2 : decide (n ≤ 1000) = false := decide_eq_false h2
   have H2 := Lib.hid g2
   clear h2
   go_enter Tryz.func150, Tryz.ntmps150
   go_wp2
   go_ret
   exact ⟨by rw [Hs.out, H2.out]; rfl, Below.refl _ _⟩
 ·have g1 : decide (1 ≤ n) = false := decide_eq_false h1
  have Hs := Lib.hid (show periodB n = false by unfold periodB; rw [g1]; rfl)
  clear h1
  go_enter Tryz.func150, Tryz.ntmps150
  go_wp2
  go_ret
  exact ⟨by rw [Hs.out]; rfl, Below.refl _ _⟩
set_option maxRecDepth 100000 in
set_option maxHeartbeats 400000 in
theorem held_c (n : Int) (w : World) : Calls Tryz.prog 155 #[i64 n] w fun e w' => e = .returned (.bool (heldB n)) ∧ Below w.heap.size w w' := by
 by_cases h1 : 1 ≤ n
 ·have g1 : decide (1 ≤ n) = true := decide_eq_true h1
  have Hs := Lib.hid (show heldB n = decide (n ≤ 9999) by unfold heldB; rw [g1]; rfl)
  clear h1
  by_cases h2 : n ≤ 9999
  ·have g2 : decide (n ≤ 9999) = true := decide_eq_true h2
   have H2 := Lib.hid g2
   clear h2
   go_enter Tryz.func155, Tryz.ntmps155
   go_wp2
   go_ret
   exact ⟨by rw [Hs.out, H2.out]; rfl, Below.refl _ _⟩
  ·have g2 : decide (n ≤ 9999) = false := decide_eq_false h2
   have H2 := Lib.hid g2
   clear h2
   go_enter Tryz.func155, Tryz.ntmps155
   go_wp2
   go_ret
   exact ⟨by rw [Hs.out, H2.out]; rfl, Below.refl _ _⟩
 ·have g1 : decide (1 ≤ n) = false := decide_eq_false h1
  have Hs := Lib.hid (show heldB n = false by unfold heldB; rw [g1]; rfl)
  clear h1
  go_enter Tryz.func155, Tryz.ntmps155
  go_wp2
  go_ret
  exact ⟨by rw [Hs.out]; rfl, Below.refl _ _⟩
set_option maxRecDepth 100000 in
set_option maxHeartbeats 4000000 in
theorem legs_c (A : Option Addr) (c : Nat) (l : List Leg) (w : World) (h : Sl w w.heap.size A c l) (hn : l.length ≤ 65536) :
  Calls Tryz.prog 149 #[.slice A l.length c] w fun e w' => e = .returned (.bool (legsB l)) ∧ Below w.heap.size w w' := by
 have hmm := @run_makeMap Tryz.prog
 go_enter Tryz.func149, Tryz.ntmps149
 go_wp2
 have hm0 := MapIs.made (enc := Value.string) w
 have hb0 := (Below.refl w.heap.size w).alloc (Nat.le_refl _) (.map #[] 0)
 go_loopw [9] (fun i wr => ∃ k : Nat, i = i64 k ∧ k ≤ l.length ∧ MapIs Value.string wr w.heap.size (seenM (l.take k)) ∧ legsTo l k ∧ Below w.heap.size w wr) (fun i _ => l.length - (intOf i).toNat)
 case atStart => exact ⟨0, rfl, by omega, hm0, ⟨by simp, by simp⟩, hb0⟩
 case round =>
  obtain ⟨k, rfl, hk, hm, ht, hb⟩ := hrel
  have HT := Lib.hid ht
  clear hm0 hb0 hmm ht
  by_cases hlt : k < l.length
  ·obtain ⟨b, o, rfl, hbb, hsz, c0, c1⟩ := (h.later hb).leg hlt
   have hB1 := (Below.refl wr.heap.size wr).alloc (Nat.le_refl _) (.cells #[.string l[k].acct, i64 l[k].sum] 167)
   have hm1 := hm.later hB1
   have hb1 := hb.alloc hb.size (.cells #[.string l[k].acct, i64 l[k].sum] 167)
   have hlk := run_lookup (P := Tryz.prog) strKey Tryz.underlying256 hm1 l[k].acct (.bool false) (by kernel_rfl) false
   have Hm1 := Lib.hid hm1
   have Hb1 := Lib.hid hb1
   by_cases hs : l[k].acct ∈ (l.take k).map Leg.acct
   ·rw [getM_seen hs] at hlk
    have Hs := Lib.hid (legsB_seen hlt hs)
    clear hm hm1 hb1 hs
    go_wp2
    go_ret
    exact ⟨by rw [Hs.out]; rfl, Hb1.out⟩
   ·rw [getM_unseen hs] at hlk
    have Hs := Lib.hid hs
    clear hm hm1 hb1 hs
    go_wp2_with fail
    refine (name_b l[k].acct _).mono ?_
    rintro e w2 ⟨rfl, hF⟩
    have e0 : (wr.alloc (.cells #[.string l[k].acct, i64 l[k].sum] 167)).cell? ⟨wr.heap.size, 0, none⟩ = some (.string l[k].acct) := by simp
    have e1 : (wr.alloc (.cells #[.string l[k].acct, i64 l[k].sum] 167)).cell? ⟨wr.heap.size, 1, none⟩ = some (i64 l[k].sum) := by simp
    have e0 := (hF.cell (p := ⟨wr.heap.size, 0, none⟩) (by simp)).trans e0
    have e1 := (hF.cell (p := ⟨wr.heap.size, 1, none⟩) (by simp)).trans e1
    have hm2 := Lib.hid (Hm1.out.later hF)
    have hb2 := Lib.hid (below_on Hb1.out (Nat.le_refl _) hF)
    clear hF hlk c0 c1 Hm1 Hb1 hb hB1
    by_cases hnm : nameB l[k].acct = true
    ·rw [hnm]
     by_cases hz : l[k].sum = 0
     ·have g1 : (l[k].sum == 0) = true := beq_iff_eq.2 hz
      have Hs2 := Lib.hid (legsB_bad hlt (by unfold legB; rw [hz]; simp))
      clear hz hnm
      go_wp2
      go_ret
      exact ⟨by rw [Hs2.out]; rfl, hb2.out⟩
     ·have g1 : (l[k].sum == 0) = false := beq_eq_false_iff_ne.2 hz
      have Hl := Lib.hid (show legB l[k] = true by unfold legB; rw [hnm, decide_eq_true hz]; rfl)
      clear hz hnm
      go_wp2_with (refine wpList_put rfl none (.tmp 28) (.tmp 30) (.const (.bool true)) 256 rfl rfl strKey Tryz.underlying256 rfl hm2.out l[k].acct (.bool true) rfl rfl ?_; intro w3 hm3 hg3)
      go_roundw
      case rel => exact ⟨k + 1, by go_num, by omega, by rw [List.take_succ_eq_append_getElem hlt, seenM_snoc]; exact hm3, HT.out.next hlt Hs.out Hl.out, hb2.out.trans (below_of_grown hg3 hb2.out.size (fun g e => by injection e with e; omega))⟩
      case measure => simp [intOf]; omega
    ·have hnm' : nameB l[k].acct = false := by simpa using hnm
     rw [hnm']
     have Hs2 := Lib.hid (legsB_bad hlt (by unfold legB; rw [hnm']; rfl))
     clear hnm hnm'
     go_wp2
     go_ret
     exact ⟨by rw [Hs2.out]; rfl, hb2.out⟩
  ·obtain rfl : k = l.length := by omega
   have hal := legsB_all HT.out
   by_cases h2 : 2 ≤ l.length
   ·have g1 : decide ((2 : Int) ≤ (l.length : Int)) = true := decide_eq_true (by omega)
    rw [decide_eq_true h2] at hal
    by_cases h6 : l.length ≤ 6
    ·have g2 : decide ((l.length : Int) ≤ 6) = true := decide_eq_true (by omega)
     rw [decide_eq_true h6] at hal
     have Hs := Lib.hid hal
     clear hal h2 h6
     go_wp2
     go_ret
     exact ⟨by rw [Hs.out]; rfl, hb⟩
    ·have g2 : decide ((l.length : Int) ≤ 6) = false := decide_eq_false (by omega)
     rw [decide_eq_false h6] at hal
     have Hs := Lib.hid hal
     clear hal h2 h6
     go_wp2
     go_ret
     exact ⟨by rw [Hs.out]; rfl, hb⟩
   ·have g1 : decide ((2 : Int) ≤ (l.length : Int)) = false := decide_eq_false (by omega)
    rw [decide_eq_false h2] at hal
    have Hs := Lib.hid hal
    clear hal h2
    go_wp2
    go_ret
    exact ⟨by rw [Hs.out]; rfl, hb⟩
end Go.Proofs.YtampniiehgimhaaGreat
/- order.shapes' functions; order.shapes -/
namespace Go.Proofs.YtampniiehgimhaaGreat
open Go.RowKit
/-- no order -/
def od0 : Od := ⟨0, 0, 0, ⟨#[]⟩, ⟨#[]⟩, 0, none, 0, [], 0, 0, ⟨#[]⟩⟩
abbrev bare1 (x : Od) : Od := { od0 with acct := x.acct, sum := x.sum }
set_option maxRecDepth 100000 in
set_option maxHeartbeats 1000000 in
theorem bare1_c (x : Od) (w : World) : Calls Tryz.prog 145 #[x.v] w fun e w' => e = .returned (bare1 x).v ∧ Below w.heap.size w w' := by
 unfold Od.v
 go_enter Tryz.func145, Tryz.ntmps145
 go_wp2
 refine bodyPost_ret (results_cell_row rfl _ _ (w.heap.size + 1) 37 _ (0, 0) _ rfl (heap_alloc2_new w _ _) Tryz.underlying37 rfl (by kernel_rfl)) rfl ?_
 exact ⟨rfl, ((Below.refl _ _).alloc (Nat.le_refl _) _).alloc (by simp) _⟩
abbrev bare2 (x : Od) : Od := { od0 with la := x.la, lc := x.lc, legs := x.legs, period := x.period, note := x.note }
set_option maxRecDepth 100000 in
set_option maxHeartbeats 1000000 in
theorem bare2_c (x : Od) (w : World) : Calls Tryz.prog 147 #[x.v] w fun e w' => e = .returned (bare2 x).v ∧ Below w.heap.size w w' := by
 unfold Od.v
 go_enter Tryz.func147, Tryz.ntmps147
 go_wp2
 refine bodyPost_ret (results_cell_row rfl _ _ (w.heap.size + 1) 37 _ (0, 0) _ rfl (heap_alloc2_new w _ _) Tryz.underlying37 rfl (by kernel_rfl)) rfl ?_
 exact ⟨rfl, ((Below.refl _ _).alloc (Nat.le_refl _) _).alloc (by simp) _⟩
abbrev bare3 (x : Od) : Od := { od0 with acct := x.acct, sum := x.sum }
set_option maxRecDepth 100000 in
set_option maxHeartbeats 1000000 in
theorem bare3_c (x : Od) (w : World) : Calls Tryz.prog 151 #[x.v] w fun e w' => e = .returned (bare3 x).v ∧ Below w.heap.size w w' := by
 unfold Od.v
 go_enter Tryz.func151, Tryz.ntmps151
 go_wp2
 refine bodyPost_ret (results_cell_row rfl _ _ (w.heap.size + 1) 37 _ (0, 0) _ rfl (heap_alloc2_new w _ _) Tryz.underlying37 rfl (by kernel_rfl)) rfl ?_
 exact ⟨rfl, ((Below.refl _ _).alloc (Nat.le_refl _) _).alloc (by simp) _⟩
abbrev bare4 (x : Od) : Od := { od0 with acct := x.acct, peer := x.peer, sum := x.sum, hold := x.hold, period := x.period }
set_option maxRecDepth 100000 in
set_option maxHeartbeats 1000000 in
theorem bare4_c (x : Od) (w : World) : Calls Tryz.prog 153 #[x.v] w fun e w' => e = .returned (bare4 x).v ∧ Below w.heap.size w w' := by
 unfold Od.v
 go_enter Tryz.func153, Tryz.ntmps153
 go_wp2
 refine bodyPost_ret (results_cell_row rfl _ _ (w.heap.size + 1) 37 _ (0, 0) _ rfl (heap_alloc2_new w _ _) Tryz.underlying37 rfl (by kernel_rfl)) rfl ?_
 exact ⟨rfl, ((Below.refl _ _).alloc (Nat.le_refl _) _).alloc (by simp) _⟩
abbrev bare5 (x : Od) : Od := { od0 with acct := x.acct, hold := x.hold }
set_option maxRecDepth 100000 in
set_option maxHeartbeats 1000000 in
theorem bare5_c (x : Od) (w : World) : Calls Tryz.prog 156 #[x.v] w fun e w' => e = .returned (bare5 x).v ∧ Below w.heap.size w w' := by
 unfold Od.v
 go_enter Tryz.func156, Tryz.ntmps156
 go_wp2
 refine bodyPost_ret (results_cell_row rfl _ _ (w.heap.size + 1) 37 _ (0, 0) _ rfl (heap_alloc2_new w _ _) Tryz.underlying37 rfl (by kernel_rfl)) rfl ?_
 exact ⟨rfl, ((Below.refl _ _).alloc (Nat.le_refl _) _).alloc (by simp) _⟩
abbrev bare6 (x : Od) : Od := { od0 with period := x.period }
set_option maxRecDepth 100000 in
set_option maxHeartbeats 1000000 in
theorem bare6_c (x : Od) (w : World) : Calls Tryz.prog 158 #[x.v] w fun e w' => e = .returned (bare6 x).v ∧ Below w.heap.size w w' := by
 unfold Od.v
 go_enter Tryz.func158, Tryz.ntmps158
 go_wp2
 refine bodyPost_ret (results_cell_row rfl _ _ (w.heap.size + 1) 37 _ (0, 0) _ rfl (heap_alloc2_new w _ _) Tryz.underlying37 rfl (by kernel_rfl)) rfl ?_
 exact ⟨rfl, ((Below.refl _ _).alloc (Nat.le_refl _) _).alloc (by simp) _⟩
abbrev bare7 (x : Od) : Od := { od0 with acct := x.acct }
set_option maxRecDepth 100000 in
set_option maxHeartbeats 1000000 in
theorem bare7_c (x : Od) (w : World) : Calls Tryz.prog 160 #[x.v] w fun e w' => e = .returned (bare7 x).v ∧ Below w.heap.size w w' := by
 unfold Od.v
 go_enter Tryz.func160, Tryz.ntmps160
 go_wp2
 refine bodyPost_ret (results_cell_row rfl _ _ (w.heap.size + 1) 37 _ (0, 0) _ rfl (heap_alloc2_new w _ _) Tryz.underlying37 rfl (by kernel_rfl)) rfl ?_
 exact ⟨rfl, ((Below.refl _ _).alloc (Nat.le_refl _) _).alloc (by simp) _⟩
set_option maxRecDepth 100000 in
set_option maxHeartbeats 1000000 in
theorem fname_c (x : Od) (w : World) : Calls Tryz.prog 144 #[x.v] w fun e w' => e = .returned (.bool (nameB x.acct)) ∧ Below w.heap.size w w' := by
 have hb := (Below.refl w.heap.size w).alloc (Nat.le_refl _) (.cells #[i64 x.client, i64 x.seq, i64 x.kind, .string x.acct, .string x.peer, i64 x.sum, .slice x.la x.legs.length x.lc, i64 x.period, i64 x.hold, .string x.note] 37)
 unfold Od.v
 go_enter Tryz.func144, Tryz.ntmps144
 go_wp2_with fail
 refine (name_b x.acct _).mono ?_
 rintro e w1 ⟨rfl, hF⟩
 go_wp2
 go_ret
 exact ⟨rfl, below_on hb (Nat.le_refl _) hF⟩
def fits1 (x : Od) : Bool := (nameB x.acct && decide ((0 : Int) ≤ x.sum))
set_option maxRecDepth 100000 in
set_option maxHeartbeats 2000000 in
theorem fits1_c (x : Od) (w : World) (p : Nat) (hp : w.cell? ⟨p, 0, none⟩ = some (.func (.func 144) #[] #[])) : Calls Tryz.prog 146 #[x.v, .pointer (some ⟨p, 0, none⟩)] w fun e w' => e = .returned (.bool (fits1 x)) ∧ Below w.heap.size w w' := by
 have hb := (Below.refl w.heap.size w).alloc (Nat.le_refl _) (.cells #[i64 x.client, i64 x.seq, i64 x.kind, .string x.acct, .string x.peer, i64 x.sum, .slice x.la x.legs.length x.lc, i64 x.period, i64 x.hold, .string x.note] 37)
 have e95 : ∀ args w, (callFunc 144 args).run Tryz.prog w = .ok (.enter 144 args) w := (enters_of Tryz.func144 (by kernel_rfl) rfl)
 have hlt := World.block_lt_of_cell? _ _ hp
 have hp1 := (hb.cell (p := ⟨p, 0, none⟩) hlt).trans hp
 have Hs := Lib.hid (show fits1 x = (nameB x.acct && decide ((0 : Int) ≤ x.sum)) from rfl)
 have c0 : (w.alloc (.cells #[i64 x.client, i64 x.seq, i64 x.kind, .string x.acct, .string x.peer, i64 x.sum, .slice x.la x.legs.length x.lc, i64 x.period, i64 x.hold, .string x.note] 37)).cell? ⟨w.heap.size, 0, none⟩ = some (i64 x.client) := cell_of_row _ w.heap.size 0 _ _ (0, 0) (heap_alloc_new w _)
 have c1 : (w.alloc (.cells #[i64 x.client, i64 x.seq, i64 x.kind, .string x.acct, .string x.peer, i64 x.sum, .slice x.la x.legs.length x.lc, i64 x.period, i64 x.hold, .string x.note] 37)).cell? ⟨w.heap.size, 1, none⟩ = some (i64 x.seq) := cell_of_row _ w.heap.size 1 _ _ (0, 0) (heap_alloc_new w _)
 have c2 : (w.alloc (.cells #[i64 x.client, i64 x.seq, i64 x.kind, .string x.acct, .string x.peer, i64 x.sum, .slice x.la x.legs.length x.lc, i64 x.period, i64 x.hold, .string x.note] 37)).cell? ⟨w.heap.size, 2, none⟩ = some (i64 x.kind) := cell_of_row _ w.heap.size 2 _ _ (0, 0) (heap_alloc_new w _)
 have c3 : (w.alloc (.cells #[i64 x.client, i64 x.seq, i64 x.kind, .string x.acct, .string x.peer, i64 x.sum, .slice x.la x.legs.length x.lc, i64 x.period, i64 x.hold, .string x.note] 37)).cell? ⟨w.heap.size, 3, none⟩ = some (.string x.acct) := cell_of_row _ w.heap.size 3 _ _ (0, 0) (heap_alloc_new w _)
 have c4 : (w.alloc (.cells #[i64 x.client, i64 x.seq, i64 x.kind, .string x.acct, .string x.peer, i64 x.sum, .slice x.la x.legs.length x.lc, i64 x.period, i64 x.hold, .string x.note] 37)).cell? ⟨w.heap.size, 4, none⟩ = some (.string x.peer) := cell_of_row _ w.heap.size 4 _ _ (0, 0) (heap_alloc_new w _)
 have c5 : (w.alloc (.cells #[i64 x.client, i64 x.seq, i64 x.kind, .string x.acct, .string x.peer, i64 x.sum, .slice x.la x.legs.length x.lc, i64 x.period, i64 x.hold, .string x.note] 37)).cell? ⟨w.heap.size, 5, none⟩ = some (i64 x.sum) := cell_of_row _ w.heap.size 5 _ _ (0, 0) (heap_alloc_new w _)
 have c6 : (w.alloc (.cells #[i64 x.client, i64 x.seq, i64 x.kind, .string x.acct, .string x.peer, i64 x.sum, .slice x.la x.legs.length x.lc, i64 x.period, i64 x.hold, .string x.note] 37)).cell? ⟨w.heap.size, 6, none⟩ = some (.slice x.la x.legs.length x.lc) := cell_of_row _ w.heap.size 6 _ _ (0, 0) (heap_alloc_new w _)
 have c7 : (w.alloc (.cells #[i64 x.client, i64 x.seq, i64 x.kind, .string x.acct, .string x.peer, i64 x.sum, .slice x.la x.legs.length x.lc, i64 x.period, i64 x.hold, .string x.note] 37)).cell? ⟨w.heap.size, 7, none⟩ = some (i64 x.period) := cell_of_row _ w.heap.size 7 _ _ (0, 0) (heap_alloc_new w _)
 have c8 : (w.alloc (.cells #[i64 x.client, i64 x.seq, i64 x.kind, .string x.acct, .string x.peer, i64 x.sum, .slice x.la x.legs.length x.lc, i64 x.period, i64 x.hold, .string x.note] 37)).cell? ⟨w.heap.size, 8, none⟩ = some (i64 x.hold) := cell_of_row _ w.heap.size 8 _ _ (0, 0) (heap_alloc_new w _)
 have c9 : (w.alloc (.cells #[i64 x.client, i64 x.seq, i64 x.kind, .string x.acct, .string x.peer, i64 x.sum, .slice x.la x.legs.length x.lc, i64 x.period, i64 x.hold, .string x.note] 37)).cell? ⟨w.heap.size, 9, none⟩ = some (.string x.note) := cell_of_row _ w.heap.size 9 _ _ (0, 0) (heap_alloc_new w _)
 unfold Od.v
 go_enter Tryz.func146, Tryz.ntmps146
 have hlw : w.heap.size < (w.alloc (.cells #[i64 x.client, i64 x.seq, i64 x.kind, .string x.acct, .string x.peer, i64 x.sum, .slice x.la x.legs.length x.lc, i64 x.period, i64 x.hold, .string x.note] 37)).heap.size := by simp
 go_wp2_with fail
 refine (fname_c x _).mono ?_
 rintro e w1 ⟨rfl, hF⟩
 have c0 := (hF.cell (p := ⟨w.heap.size, 0, none⟩) hlw).trans c0
 have c1 := (hF.cell (p := ⟨w.heap.size, 1, none⟩) hlw).trans c1
 have c2 := (hF.cell (p := ⟨w.heap.size, 2, none⟩) hlw).trans c2
 have c3 := (hF.cell (p := ⟨w.heap.size, 3, none⟩) hlw).trans c3
 have c4 := (hF.cell (p := ⟨w.heap.size, 4, none⟩) hlw).trans c4
 have c5 := (hF.cell (p := ⟨w.heap.size, 5, none⟩) hlw).trans c5
 have c6 := (hF.cell (p := ⟨w.heap.size, 6, none⟩) hlw).trans c6
 have c7 := (hF.cell (p := ⟨w.heap.size, 7, none⟩) hlw).trans c7
 have c8 := (hF.cell (p := ⟨w.heap.size, 8, none⟩) hlw).trans c8
 have c9 := (hF.cell (p := ⟨w.heap.size, 9, none⟩) hlw).trans c9
 have hb := below_on hb (Nat.le_refl _) hF
 have hlw := Nat.lt_of_lt_of_le hlw hF.size
 clear hF
 by_cases t0 : nameB x.acct = true
 ·rw [t0]
  have T0 := Lib.hid t0
  clear t0
  by_cases t1 : decide ((0 : Int) ≤ x.sum) = true
  ·have T1 := Lib.hid t1
   go_wp2
   go_ret
   exact ⟨by rw [Hs.out, T0.out, T1.out]; rfl, hb⟩
  ·have t1 : decide ((0 : Int) ≤ x.sum) = false := by simpa only [Bool.not_eq_true] using t1
   have T1 := Lib.hid t1
   go_wp2
   go_ret
   exact ⟨by rw [Hs.out, T0.out, T1.out]; rfl, hb⟩
 ·have t0 : nameB x.acct = false := by simpa using t0
  rw [t0]
  have T0 := Lib.hid t0
  clear t0
  go_wp2
  go_ret
  exact ⟨by rw [Hs.out, T0.out]; rfl, hb⟩
def fits2 (x : Od) : Bool := ((legsB x.legs && periodB x.period) && decide ((x.note.size : Int) ≤ 20))
set_option maxRecDepth 100000 in
set_option maxHeartbeats 2000000 in
theorem fits2_c (x : Od) (w : World) (hx : Okb w w.heap.size x) (hn : x.legs.length ≤ 65536) : Calls Tryz.prog 148 #[x.v] w fun e w' => e = .returned (.bool (fits2 x)) ∧ Below w.heap.size w w' := by
 have hb := (Below.refl w.heap.size w).alloc (Nat.le_refl _) (.cells #[i64 x.client, i64 x.seq, i64 x.kind, .string x.acct, .string x.peer, i64 x.sum, .slice x.la x.legs.length x.lc, i64 x.period, i64 x.hold, .string x.note] 37)
 have HL : ∀ W, Below w.heap.size w W → Sl W W.heap.size x.la x.lc x.legs := fun W h => (show Sl w w.heap.size x.la x.lc x.legs from by obtain ⟨_, _, _, hl⟩ := hx; exact hl).later h
 clear hx
 have Hs := Lib.hid (show fits2 x = ((legsB x.legs && periodB x.period) && decide ((x.note.size : Int) ≤ 20)) from rfl)
 have c0 : (w.alloc (.cells #[i64 x.client, i64 x.seq, i64 x.kind, .string x.acct, .string x.peer, i64 x.sum, .slice x.la x.legs.length x.lc, i64 x.period, i64 x.hold, .string x.note] 37)).cell? ⟨w.heap.size, 0, none⟩ = some (i64 x.client) := cell_of_row _ w.heap.size 0 _ _ (0, 0) (heap_alloc_new w _)
 have c1 : (w.alloc (.cells #[i64 x.client, i64 x.seq, i64 x.kind, .string x.acct, .string x.peer, i64 x.sum, .slice x.la x.legs.length x.lc, i64 x.period, i64 x.hold, .string x.note] 37)).cell? ⟨w.heap.size, 1, none⟩ = some (i64 x.seq) := cell_of_row _ w.heap.size 1 _ _ (0, 0) (heap_alloc_new w _)
 have c2 : (w.alloc (.cells #[i64 x.client, i64 x.seq, i64 x.kind, .string x.acct, .string x.peer, i64 x.sum, .slice x.la x.legs.length x.lc, i64 x.period, i64 x.hold, .string x.note] 37)).cell? ⟨w.heap.size, 2, none⟩ = some (i64 x.kind) := cell_of_row _ w.heap.size 2 _ _ (0, 0) (heap_alloc_new w _)
 have c3 : (w.alloc (.cells #[i64 x.client, i64 x.seq, i64 x.kind, .string x.acct, .string x.peer, i64 x.sum, .slice x.la x.legs.length x.lc, i64 x.period, i64 x.hold, .string x.note] 37)).cell? ⟨w.heap.size, 3, none⟩ = some (.string x.acct) := cell_of_row _ w.heap.size 3 _ _ (0, 0) (heap_alloc_new w _)
 have c4 : (w.alloc (.cells #[i64 x.client, i64 x.seq, i64 x.kind, .string x.acct, .string x.peer, i64 x.sum, .slice x.la x.legs.length x.lc, i64 x.period, i64 x.hold, .string x.note] 37)).cell? ⟨w.heap.size, 4, none⟩ = some (.string x.peer) := cell_of_row _ w.heap.size 4 _ _ (0, 0) (heap_alloc_new w _)
 have c5 : (w.alloc (.cells #[i64 x.client, i64 x.seq, i64 x.kind, .string x.acct, .string x.peer, i64 x.sum, .slice x.la x.legs.length x.lc, i64 x.period, i64 x.hold, .string x.note] 37)).cell? ⟨w.heap.size, 5, none⟩ = some (i64 x.sum) := cell_of_row _ w.heap.size 5 _ _ (0, 0) (heap_alloc_new w _)
 have c6 : (w.alloc (.cells #[i64 x.client, i64 x.seq, i64 x.kind, .string x.acct, .string x.peer, i64 x.sum, .slice x.la x.legs.length x.lc, i64 x.period, i64 x.hold, .string x.note] 37)).cell? ⟨w.heap.size, 6, none⟩ = some (.slice x.la x.legs.length x.lc) := cell_of_row _ w.heap.size 6 _ _ (0, 0) (heap_alloc_new w _)
 have c7 : (w.alloc (.cells #[i64 x.client, i64 x.seq, i64 x.kind, .string x.acct, .string x.peer, i64 x.sum, .slice x.la x.legs.length x.lc, i64 x.period, i64 x.hold, .string x.note] 37)).cell? ⟨w.heap.size, 7, none⟩ = some (i64 x.period) := cell_of_row _ w.heap.size 7 _ _ (0, 0) (heap_alloc_new w _)
 have c8 : (w.alloc (.cells #[i64 x.client, i64 x.seq, i64 x.kind, .string x.acct, .string x.peer, i64 x.sum, .slice x.la x.legs.length x.lc, i64 x.period, i64 x.hold, .string x.note] 37)).cell? ⟨w.heap.size, 8, none⟩ = some (i64 x.hold) := cell_of_row _ w.heap.size 8 _ _ (0, 0) (heap_alloc_new w _)
 have c9 : (w.alloc (.cells #[i64 x.client, i64 x.seq, i64 x.kind, .string x.acct, .string x.peer, i64 x.sum, .slice x.la x.legs.length x.lc, i64 x.period, i64 x.hold, .string x.note] 37)).cell? ⟨w.heap.size, 9, none⟩ = some (.string x.note) := cell_of_row _ w.heap.size 9 _ _ (0, 0) (heap_alloc_new w _)
 unfold Od.v
 go_enter Tryz.func148, Tryz.ntmps148
 have hlw : w.heap.size < (w.alloc (.cells #[i64 x.client, i64 x.seq, i64 x.kind, .string x.acct, .string x.peer, i64 x.sum, .slice x.la x.legs.length x.lc, i64 x.period, i64 x.hold, .string x.note] 37)).heap.size := by simp
 go_wp2_with fail
 refine (legs_c x.la x.lc x.legs _ (HL _ (by assumption)) hn).mono ?_
 rintro e w1 ⟨rfl, hF⟩
 have c0 := (hF.cell (p := ⟨w.heap.size, 0, none⟩) hlw).trans c0
 have c1 := (hF.cell (p := ⟨w.heap.size, 1, none⟩) hlw).trans c1
 have c2 := (hF.cell (p := ⟨w.heap.size, 2, none⟩) hlw).trans c2
 have c3 := (hF.cell (p := ⟨w.heap.size, 3, none⟩) hlw).trans c3
 have c4 := (hF.cell (p := ⟨w.heap.size, 4, none⟩) hlw).trans c4
 have c5 := (hF.cell (p := ⟨w.heap.size, 5, none⟩) hlw).trans c5
 have c6 := (hF.cell (p := ⟨w.heap.size, 6, none⟩) hlw).trans c6
 have c7 := (hF.cell (p := ⟨w.heap.size, 7, none⟩) hlw).trans c7
 have c8 := (hF.cell (p := ⟨w.heap.size, 8, none⟩) hlw).trans c8
 have c9 := (hF.cell (p := ⟨w.heap.size, 9, none⟩) hlw).trans c9
 have hb := below_on hb (Nat.le_refl _) hF
 have hlw := Nat.lt_of_lt_of_le hlw hF.size
 clear hF
 by_cases t0 : legsB x.legs = true
 ·rw [t0]
  have T0 := Lib.hid t0
  clear t0
  go_wp2_with fail
  refine (period_c x.period _).mono ?_
  rintro e w2 ⟨rfl, hF⟩
  have c0 := (hF.cell (p := ⟨w.heap.size, 0, none⟩) hlw).trans c0
  have c1 := (hF.cell (p := ⟨w.heap.size, 1, none⟩) hlw).trans c1
  have c2 := (hF.cell (p := ⟨w.heap.size, 2, none⟩) hlw).trans c2
  have c3 := (hF.cell (p := ⟨w.heap.size, 3, none⟩) hlw).trans c3
  have c4 := (hF.cell (p := ⟨w.heap.size, 4, none⟩) hlw).trans c4
  have c5 := (hF.cell (p := ⟨w.heap.size, 5, none⟩) hlw).trans c5
  have c6 := (hF.cell (p := ⟨w.heap.size, 6, none⟩) hlw).trans c6
  have c7 := (hF.cell (p := ⟨w.heap.size, 7, none⟩) hlw).trans c7
  have c8 := (hF.cell (p := ⟨w.heap.size, 8, none⟩) hlw).trans c8
  have c9 := (hF.cell (p := ⟨w.heap.size, 9, none⟩) hlw).trans c9
  have hb := below_on hb (Nat.le_refl _) hF
  have hlw := Nat.lt_of_lt_of_le hlw hF.size
  clear hF
  by_cases t1 : periodB x.period = true
  ·rw [t1]
   have T1 := Lib.hid t1
   clear t1
   by_cases t2 : decide ((x.note.size : Int) ≤ 20) = true
   ·have T2 := Lib.hid t2
    go_wp2
    go_ret
    exact ⟨by rw [Hs.out, T0.out, T1.out, T2.out]; rfl, hb⟩
   ·have t2 : decide ((x.note.size : Int) ≤ 20) = false := by simpa only [Bool.not_eq_true] using t2
    have T2 := Lib.hid t2
    go_wp2
    go_ret
    exact ⟨by rw [Hs.out, T0.out, T1.out, T2.out]; rfl, hb⟩
  ·have t1 : periodB x.period = false := by simpa using t1
   rw [t1]
   have T1 := Lib.hid t1
   clear t1
   go_wp2
   go_ret
   exact ⟨by rw [Hs.out, T0.out, T1.out]; rfl, hb⟩
 ·have t0 : legsB x.legs = false := by simpa using t0
  rw [t0]
  have T0 := Lib.hid t0
  clear t0
  go_wp2
  go_ret
  exact ⟨by rw [Hs.out, T0.out]; rfl, hb⟩
def fits3 (x : Od) : Bool := (nameB x.acct && decide ((0 : Int) < x.sum))
set_option maxRecDepth 100000 in
set_option maxHeartbeats 2000000 in
theorem fits3_c (x : Od) (w : World) (p : Nat) (hp : w.cell? ⟨p, 0, none⟩ = some (.func (.func 144) #[] #[])) : Calls Tryz.prog 152 #[x.v, .pointer (some ⟨p, 0, none⟩)] w fun e w' => e = .returned (.bool (fits3 x)) ∧ Below w.heap.size w w' := by
 have hb := (Below.refl w.heap.size w).alloc (Nat.le_refl _) (.cells #[i64 x.client, i64 x.seq, i64 x.kind, .string x.acct, .string x.peer, i64 x.sum, .slice x.la x.legs.length x.lc, i64 x.period, i64 x.hold, .string x.note] 37)
 have e95 : ∀ args w, (callFunc 144 args).run Tryz.prog w = .ok (.enter 144 args) w := (enters_of Tryz.func144 (by kernel_rfl) rfl)
 have hlt := World.block_lt_of_cell? _ _ hp
 have hp1 := (hb.cell (p := ⟨p, 0, none⟩) hlt).trans hp
 have Hs := Lib.hid (show fits3 x = (nameB x.acct && decide ((0 : Int) < x.sum)) from rfl)
 have c0 : (w.alloc (.cells #[i64 x.client, i64 x.seq, i64 x.kind, .string x.acct, .string x.peer, i64 x.sum, .slice x.la x.legs.length x.lc, i64 x.period, i64 x.hold, .string x.note] 37)).cell? ⟨w.heap.size, 0, none⟩ = some (i64 x.client) := cell_of_row _ w.heap.size 0 _ _ (0, 0) (heap_alloc_new w _)
 have c1 : (w.alloc (.cells #[i64 x.client, i64 x.seq, i64 x.kind, .string x.acct, .string x.peer, i64 x.sum, .slice x.la x.legs.length x.lc, i64 x.period, i64 x.hold, .string x.note] 37)).cell? ⟨w.heap.size, 1, none⟩ = some (i64 x.seq) := cell_of_row _ w.heap.size 1 _ _ (0, 0) (heap_alloc_new w _)
 have c2 : (w.alloc (.cells #[i64 x.client, i64 x.seq, i64 x.kind, .string x.acct, .string x.peer, i64 x.sum, .slice x.la x.legs.length x.lc, i64 x.period, i64 x.hold, .string x.note] 37)).cell? ⟨w.heap.size, 2, none⟩ = some (i64 x.kind) := cell_of_row _ w.heap.size 2 _ _ (0, 0) (heap_alloc_new w _)
 have c3 : (w.alloc (.cells #[i64 x.client, i64 x.seq, i64 x.kind, .string x.acct, .string x.peer, i64 x.sum, .slice x.la x.legs.length x.lc, i64 x.period, i64 x.hold, .string x.note] 37)).cell? ⟨w.heap.size, 3, none⟩ = some (.string x.acct) := cell_of_row _ w.heap.size 3 _ _ (0, 0) (heap_alloc_new w _)
 have c4 : (w.alloc (.cells #[i64 x.client, i64 x.seq, i64 x.kind, .string x.acct, .string x.peer, i64 x.sum, .slice x.la x.legs.length x.lc, i64 x.period, i64 x.hold, .string x.note] 37)).cell? ⟨w.heap.size, 4, none⟩ = some (.string x.peer) := cell_of_row _ w.heap.size 4 _ _ (0, 0) (heap_alloc_new w _)
 have c5 : (w.alloc (.cells #[i64 x.client, i64 x.seq, i64 x.kind, .string x.acct, .string x.peer, i64 x.sum, .slice x.la x.legs.length x.lc, i64 x.period, i64 x.hold, .string x.note] 37)).cell? ⟨w.heap.size, 5, none⟩ = some (i64 x.sum) := cell_of_row _ w.heap.size 5 _ _ (0, 0) (heap_alloc_new w _)
 have c6 : (w.alloc (.cells #[i64 x.client, i64 x.seq, i64 x.kind, .string x.acct, .string x.peer, i64 x.sum, .slice x.la x.legs.length x.lc, i64 x.period, i64 x.hold, .string x.note] 37)).cell? ⟨w.heap.size, 6, none⟩ = some (.slice x.la x.legs.length x.lc) := cell_of_row _ w.heap.size 6 _ _ (0, 0) (heap_alloc_new w _)
 have c7 : (w.alloc (.cells #[i64 x.client, i64 x.seq, i64 x.kind, .string x.acct, .string x.peer, i64 x.sum, .slice x.la x.legs.length x.lc, i64 x.period, i64 x.hold, .string x.note] 37)).cell? ⟨w.heap.size, 7, none⟩ = some (i64 x.period) := cell_of_row _ w.heap.size 7 _ _ (0, 0) (heap_alloc_new w _)
 have c8 : (w.alloc (.cells #[i64 x.client, i64 x.seq, i64 x.kind, .string x.acct, .string x.peer, i64 x.sum, .slice x.la x.legs.length x.lc, i64 x.period, i64 x.hold, .string x.note] 37)).cell? ⟨w.heap.size, 8, none⟩ = some (i64 x.hold) := cell_of_row _ w.heap.size 8 _ _ (0, 0) (heap_alloc_new w _)
 have c9 : (w.alloc (.cells #[i64 x.client, i64 x.seq, i64 x.kind, .string x.acct, .string x.peer, i64 x.sum, .slice x.la x.legs.length x.lc, i64 x.period, i64 x.hold, .string x.note] 37)).cell? ⟨w.heap.size, 9, none⟩ = some (.string x.note) := cell_of_row _ w.heap.size 9 _ _ (0, 0) (heap_alloc_new w _)
 unfold Od.v
 go_enter Tryz.func152, Tryz.ntmps152
 have hlw : w.heap.size < (w.alloc (.cells #[i64 x.client, i64 x.seq, i64 x.kind, .string x.acct, .string x.peer, i64 x.sum, .slice x.la x.legs.length x.lc, i64 x.period, i64 x.hold, .string x.note] 37)).heap.size := by simp
 go_wp2_with fail
 refine (fname_c x _).mono ?_
 rintro e w1 ⟨rfl, hF⟩
 have c0 := (hF.cell (p := ⟨w.heap.size, 0, none⟩) hlw).trans c0
 have c1 := (hF.cell (p := ⟨w.heap.size, 1, none⟩) hlw).trans c1
 have c2 := (hF.cell (p := ⟨w.heap.size, 2, none⟩) hlw).trans c2
 have c3 := (hF.cell (p := ⟨w.heap.size, 3, none⟩) hlw).trans c3
 have c4 := (hF.cell (p := ⟨w.heap.size, 4, none⟩) hlw).trans c4
 have c5 := (hF.cell (p := ⟨w.heap.size, 5, none⟩) hlw).trans c5
 have c6 := (hF.cell (p := ⟨w.heap.size, 6, none⟩) hlw).trans c6
 have c7 := (hF.cell (p := ⟨w.heap.size, 7, none⟩) hlw).trans c7
 have c8 := (hF.cell (p := ⟨w.heap.size, 8, none⟩) hlw).trans c8
 have c9 := (hF.cell (p := ⟨w.heap.size, 9, none⟩) hlw).trans c9
 have hb := below_on hb (Nat.le_refl _) hF
 have hlw := Nat.lt_of_lt_of_le hlw hF.size
 clear hF
 by_cases t0 : nameB x.acct = true
 ·rw [t0]
  have T0 := Lib.hid t0
  clear t0
  by_cases t1 : decide ((0 : Int) < x.sum) = true
  ·have T1 := Lib.hid t1
   go_wp2
   go_ret
   exact ⟨by rw [Hs.out, T0.out, T1.out]; rfl, hb⟩
  ·have t1 : decide ((0 : Int) < x.sum) = false := by simpa only [Bool.not_eq_true] using t1
   have T1 := Lib.hid t1
   go_wp2
   go_ret
   exact ⟨by rw [Hs.out, T0.out, T1.out]; rfl, hb⟩
 ·have t0 : nameB x.acct = false := by simpa using t0
  rw [t0]
  have T0 := Lib.hid t0
  clear t0
  go_wp2
  go_ret
  exact ⟨by rw [Hs.out, T0.out]; rfl, hb⟩
def fits4 (x : Od) : Bool := (((((nameB x.acct && nameB x.peer) && (x.peer.toList != x.acct.toList)) && decide ((0 : Int) < x.sum)) && heldB x.hold) && periodB x.period)
set_option maxRecDepth 100000 in
set_option maxHeartbeats 2000000 in
theorem fits4_c (x : Od) (w : World) (p : Nat) (hp : w.cell? ⟨p, 0, none⟩ = some (.func (.func 144) #[] #[])) : Calls Tryz.prog 154 #[x.v, .pointer (some ⟨p, 0, none⟩)] w fun e w' => e = .returned (.bool (fits4 x)) ∧ Below w.heap.size w w' := by
 have hb := (Below.refl w.heap.size w).alloc (Nat.le_refl _) (.cells #[i64 x.client, i64 x.seq, i64 x.kind, .string x.acct, .string x.peer, i64 x.sum, .slice x.la x.legs.length x.lc, i64 x.period, i64 x.hold, .string x.note] 37)
 have e95 : ∀ args w, (callFunc 144 args).run Tryz.prog w = .ok (.enter 144 args) w := (enters_of Tryz.func144 (by kernel_rfl) rfl)
 have hlt := World.block_lt_of_cell? _ _ hp
 have hp1 := (hb.cell (p := ⟨p, 0, none⟩) hlt).trans hp
 have Hs := Lib.hid (show fits4 x = (((((nameB x.acct && nameB x.peer) && (x.peer.toList != x.acct.toList)) && decide ((0 : Int) < x.sum)) && heldB x.hold) && periodB x.period) from rfl)
 have c0 : (w.alloc (.cells #[i64 x.client, i64 x.seq, i64 x.kind, .string x.acct, .string x.peer, i64 x.sum, .slice x.la x.legs.length x.lc, i64 x.period, i64 x.hold, .string x.note] 37)).cell? ⟨w.heap.size, 0, none⟩ = some (i64 x.client) := cell_of_row _ w.heap.size 0 _ _ (0, 0) (heap_alloc_new w _)
 have c1 : (w.alloc (.cells #[i64 x.client, i64 x.seq, i64 x.kind, .string x.acct, .string x.peer, i64 x.sum, .slice x.la x.legs.length x.lc, i64 x.period, i64 x.hold, .string x.note] 37)).cell? ⟨w.heap.size, 1, none⟩ = some (i64 x.seq) := cell_of_row _ w.heap.size 1 _ _ (0, 0) (heap_alloc_new w _)
 have c2 : (w.alloc (.cells #[i64 x.client, i64 x.seq, i64 x.kind, .string x.acct, .string x.peer, i64 x.sum, .slice x.la x.legs.length x.lc, i64 x.period, i64 x.hold, .string x.note] 37)).cell? ⟨w.heap.size, 2, none⟩ = some (i64 x.kind) := cell_of_row _ w.heap.size 2 _ _ (0, 0) (heap_alloc_new w _)
 have c3 : (w.alloc (.cells #[i64 x.client, i64 x.seq, i64 x.kind, .string x.acct, .string x.peer, i64 x.sum, .slice x.la x.legs.length x.lc, i64 x.period, i64 x.hold, .string x.note] 37)).cell? ⟨w.heap.size, 3, none⟩ = some (.string x.acct) := cell_of_row _ w.heap.size 3 _ _ (0, 0) (heap_alloc_new w _)
 have c4 : (w.alloc (.cells #[i64 x.client, i64 x.seq, i64 x.kind, .string x.acct, .string x.peer, i64 x.sum, .slice x.la x.legs.length x.lc, i64 x.period, i64 x.hold, .string x.note] 37)).cell? ⟨w.heap.size, 4, none⟩ = some (.string x.peer) := cell_of_row _ w.heap.size 4 _ _ (0, 0) (heap_alloc_new w _)
 have c5 : (w.alloc (.cells #[i64 x.client, i64 x.seq, i64 x.kind, .string x.acct, .string x.peer, i64 x.sum, .slice x.la x.legs.length x.lc, i64 x.period, i64 x.hold, .string x.note] 37)).cell? ⟨w.heap.size, 5, none⟩ = some (i64 x.sum) := cell_of_row _ w.heap.size 5 _ _ (0, 0) (heap_alloc_new w _)
 have c6 : (w.alloc (.cells #[i64 x.client, i64 x.seq, i64 x.kind, .string x.acct, .string x.peer, i64 x.sum, .slice x.la x.legs.length x.lc, i64 x.period, i64 x.hold, .string x.note] 37)).cell? ⟨w.heap.size, 6, none⟩ = some (.slice x.la x.legs.length x.lc) := cell_of_row _ w.heap.size 6 _ _ (0, 0) (heap_alloc_new w _)
 have c7 : (w.alloc (.cells #[i64 x.client, i64 x.seq, i64 x.kind, .string x.acct, .string x.peer, i64 x.sum, .slice x.la x.legs.length x.lc, i64 x.period, i64 x.hold, .string x.note] 37)).cell? ⟨w.heap.size, 7, none⟩ = some (i64 x.period) := cell_of_row _ w.heap.size 7 _ _ (0, 0) (heap_alloc_new w _)
 have c8 : (w.alloc (.cells #[i64 x.client, i64 x.seq, i64 x.kind, .string x.acct, .string x.peer, i64 x.sum, .slice x.la x.legs.length x.lc, i64 x.period, i64 x.hold, .string x.note] 37)).cell? ⟨w.heap.size, 8, none⟩ = some (i64 x.hold) := cell_of_row _ w.heap.size 8 _ _ (0, 0) (heap_alloc_new w _)
 have c9 : (w.alloc (.cells #[i64 x.client, i64 x.seq, i64 x.kind, .string x.acct, .string x.peer, i64 x.sum, .slice x.la x.legs.length x.lc, i64 x.period, i64 x.hold, .string x.note] 37)).cell? ⟨w.heap.size, 9, none⟩ = some (.string x.note) := cell_of_row _ w.heap.size 9 _ _ (0, 0) (heap_alloc_new w _)
 unfold Od.v
 go_enter Tryz.func154, Tryz.ntmps154
 have hlw : w.heap.size < (w.alloc (.cells #[i64 x.client, i64 x.seq, i64 x.kind, .string x.acct, .string x.peer, i64 x.sum, .slice x.la x.legs.length x.lc, i64 x.period, i64 x.hold, .string x.note] 37)).heap.size := by simp
 go_wp2_with fail
 refine (fname_c x _).mono ?_
 rintro e w1 ⟨rfl, hF⟩
 have c0 := (hF.cell (p := ⟨w.heap.size, 0, none⟩) hlw).trans c0
 have c1 := (hF.cell (p := ⟨w.heap.size, 1, none⟩) hlw).trans c1
 have c2 := (hF.cell (p := ⟨w.heap.size, 2, none⟩) hlw).trans c2
 have c3 := (hF.cell (p := ⟨w.heap.size, 3, none⟩) hlw).trans c3
 have c4 := (hF.cell (p := ⟨w.heap.size, 4, none⟩) hlw).trans c4
 have c5 := (hF.cell (p := ⟨w.heap.size, 5, none⟩) hlw).trans c5
 have c6 := (hF.cell (p := ⟨w.heap.size, 6, none⟩) hlw).trans c6
 have c7 := (hF.cell (p := ⟨w.heap.size, 7, none⟩) hlw).trans c7
 have c8 := (hF.cell (p := ⟨w.heap.size, 8, none⟩) hlw).trans c8
 have c9 := (hF.cell (p := ⟨w.heap.size, 9, none⟩) hlw).trans c9
 have hb := below_on hb (Nat.le_refl _) hF
 have hlw := Nat.lt_of_lt_of_le hlw hF.size
 clear hF
 by_cases t0 : nameB x.acct = true
 ·rw [t0]
  have T0 := Lib.hid t0
  clear t0
  go_wp2_with fail
  refine (name_b x.peer _).mono ?_
  rintro e w2 ⟨rfl, hF⟩
  have c0 := (hF.cell (p := ⟨w.heap.size, 0, none⟩) hlw).trans c0
  have c1 := (hF.cell (p := ⟨w.heap.size, 1, none⟩) hlw).trans c1
  have c2 := (hF.cell (p := ⟨w.heap.size, 2, none⟩) hlw).trans c2
  have c3 := (hF.cell (p := ⟨w.heap.size, 3, none⟩) hlw).trans c3
  have c4 := (hF.cell (p := ⟨w.heap.size, 4, none⟩) hlw).trans c4
  have c5 := (hF.cell (p := ⟨w.heap.size, 5, none⟩) hlw).trans c5
  have c6 := (hF.cell (p := ⟨w.heap.size, 6, none⟩) hlw).trans c6
  have c7 := (hF.cell (p := ⟨w.heap.size, 7, none⟩) hlw).trans c7
  have c8 := (hF.cell (p := ⟨w.heap.size, 8, none⟩) hlw).trans c8
  have c9 := (hF.cell (p := ⟨w.heap.size, 9, none⟩) hlw).trans c9
  have hb := below_on hb (Nat.le_refl _) hF
  have hlw := Nat.lt_of_lt_of_le hlw hF.size
  clear hF
  by_cases t1 : nameB x.peer = true
  ·rw [t1]
   have T1 := Lib.hid t1
   clear t1
   by_cases t2 : (x.peer.toList != x.acct.toList) = true
   ·have x2 : (x.peer.toList == x.acct.toList) = false := by revert t2; rw [bne]; cases (x.peer.toList == x.acct.toList) <;> simp
    have T2 := Lib.hid t2
    by_cases t3 : decide ((0 : Int) < x.sum) = true
    ·have T3 := Lib.hid t3
     go_wp2_with fail
     refine (held_c x.hold _).mono ?_
     rintro e w5 ⟨rfl, hF⟩
     have c0 := (hF.cell (p := ⟨w.heap.size, 0, none⟩) hlw).trans c0
     have c1 := (hF.cell (p := ⟨w.heap.size, 1, none⟩) hlw).trans c1
     have c2 := (hF.cell (p := ⟨w.heap.size, 2, none⟩) hlw).trans c2
     have c3 := (hF.cell (p := ⟨w.heap.size, 3, none⟩) hlw).trans c3
     have c4 := (hF.cell (p := ⟨w.heap.size, 4, none⟩) hlw).trans c4
     have c5 := (hF.cell (p := ⟨w.heap.size, 5, none⟩) hlw).trans c5
     have c6 := (hF.cell (p := ⟨w.heap.size, 6, none⟩) hlw).trans c6
     have c7 := (hF.cell (p := ⟨w.heap.size, 7, none⟩) hlw).trans c7
     have c8 := (hF.cell (p := ⟨w.heap.size, 8, none⟩) hlw).trans c8
     have c9 := (hF.cell (p := ⟨w.heap.size, 9, none⟩) hlw).trans c9
     have hb := below_on hb (Nat.le_refl _) hF
     have hlw := Nat.lt_of_lt_of_le hlw hF.size
     clear hF
     by_cases t4 : heldB x.hold = true
     ·rw [t4]
      have T4 := Lib.hid t4
      clear t4
      go_wp2_with fail
      refine (period_c x.period _).mono ?_
      rintro e w6 ⟨rfl, hF⟩
      have c0 := (hF.cell (p := ⟨w.heap.size, 0, none⟩) hlw).trans c0
      have c1 := (hF.cell (p := ⟨w.heap.size, 1, none⟩) hlw).trans c1
      have c2 := (hF.cell (p := ⟨w.heap.size, 2, none⟩) hlw).trans c2
      have c3 := (hF.cell (p := ⟨w.heap.size, 3, none⟩) hlw).trans c3
      have c4 := (hF.cell (p := ⟨w.heap.size, 4, none⟩) hlw).trans c4
      have c5 := (hF.cell (p := ⟨w.heap.size, 5, none⟩) hlw).trans c5
      have c6 := (hF.cell (p := ⟨w.heap.size, 6, none⟩) hlw).trans c6
      have c7 := (hF.cell (p := ⟨w.heap.size, 7, none⟩) hlw).trans c7
      have c8 := (hF.cell (p := ⟨w.heap.size, 8, none⟩) hlw).trans c8
      have c9 := (hF.cell (p := ⟨w.heap.size, 9, none⟩) hlw).trans c9
      have hb := below_on hb (Nat.le_refl _) hF
      have hlw := Nat.lt_of_lt_of_le hlw hF.size
      clear hF
      by_cases t5 : periodB x.period = true
      ·rw [t5]
       have T5 := Lib.hid t5
       clear t5
       go_wp2
       go_ret
       exact ⟨by rw [Hs.out, T0.out, T1.out, T2.out, T3.out, T4.out, T5.out]; rfl, hb⟩
      ·have t5 : periodB x.period = false := by simpa using t5
       rw [t5]
       have T5 := Lib.hid t5
       clear t5
       go_wp2
       go_ret
       exact ⟨by rw [Hs.out, T0.out, T1.out, T2.out, T3.out, T4.out, T5.out]; rfl, hb⟩
     ·have t4 : heldB x.hold = false := by simpa using t4
      rw [t4]
      have T4 := Lib.hid t4
      clear t4
      go_wp2
      go_ret
      exact ⟨by rw [Hs.out, T0.out, T1.out, T2.out, T3.out, T4.out]; rfl, hb⟩
    ·have t3 : decide ((0 : Int) < x.sum) = false := by simpa only [Bool.not_eq_true] using t3
     have T3 := Lib.hid t3
     go_wp2
     go_ret
     exact ⟨by rw [Hs.out, T0.out, T1.out, T2.out, T3.out]; rfl, hb⟩
   ·have t2 : (x.peer.toList != x.acct.toList) = false := by simpa only [Bool.not_eq_true] using t2
    have x2 : (x.peer.toList == x.acct.toList) = true := by revert t2; rw [bne]; cases (x.peer.toList == x.acct.toList) <;> simp
    have T2 := Lib.hid t2
    go_wp2
    go_ret
    exact ⟨by rw [Hs.out, T0.out, T1.out, T2.out]; rfl, hb⟩
  ·have t1 : nameB x.peer = false := by simpa using t1
   rw [t1]
   have T1 := Lib.hid t1
   clear t1
   go_wp2
   go_ret
   exact ⟨by rw [Hs.out, T0.out, T1.out]; rfl, hb⟩
 ·have t0 : nameB x.acct = false := by simpa using t0
  rw [t0]
  have T0 := Lib.hid t0
  clear t0
  go_wp2
  go_ret
  exact ⟨by rw [Hs.out, T0.out]; rfl, hb⟩
def fits5 (x : Od) : Bool := (nameB x.acct && heldB x.hold)
set_option maxRecDepth 100000 in
set_option maxHeartbeats 2000000 in
theorem fits5_c (x : Od) (w : World) (p : Nat) (hp : w.cell? ⟨p, 0, none⟩ = some (.func (.func 144) #[] #[])) : Calls Tryz.prog 157 #[x.v, .pointer (some ⟨p, 0, none⟩)] w fun e w' => e = .returned (.bool (fits5 x)) ∧ Below w.heap.size w w' := by
 have hb := (Below.refl w.heap.size w).alloc (Nat.le_refl _) (.cells #[i64 x.client, i64 x.seq, i64 x.kind, .string x.acct, .string x.peer, i64 x.sum, .slice x.la x.legs.length x.lc, i64 x.period, i64 x.hold, .string x.note] 37)
 have e95 : ∀ args w, (callFunc 144 args).run Tryz.prog w = .ok (.enter 144 args) w := (enters_of Tryz.func144 (by kernel_rfl) rfl)
 have hlt := World.block_lt_of_cell? _ _ hp
 have hp1 := (hb.cell (p := ⟨p, 0, none⟩) hlt).trans hp
 have Hs := Lib.hid (show fits5 x = (nameB x.acct && heldB x.hold) from rfl)
 have c0 : (w.alloc (.cells #[i64 x.client, i64 x.seq, i64 x.kind, .string x.acct, .string x.peer, i64 x.sum, .slice x.la x.legs.length x.lc, i64 x.period, i64 x.hold, .string x.note] 37)).cell? ⟨w.heap.size, 0, none⟩ = some (i64 x.client) := cell_of_row _ w.heap.size 0 _ _ (0, 0) (heap_alloc_new w _)
 have c1 : (w.alloc (.cells #[i64 x.client, i64 x.seq, i64 x.kind, .string x.acct, .string x.peer, i64 x.sum, .slice x.la x.legs.length x.lc, i64 x.period, i64 x.hold, .string x.note] 37)).cell? ⟨w.heap.size, 1, none⟩ = some (i64 x.seq) := cell_of_row _ w.heap.size 1 _ _ (0, 0) (heap_alloc_new w _)
 have c2 : (w.alloc (.cells #[i64 x.client, i64 x.seq, i64 x.kind, .string x.acct, .string x.peer, i64 x.sum, .slice x.la x.legs.length x.lc, i64 x.period, i64 x.hold, .string x.note] 37)).cell? ⟨w.heap.size, 2, none⟩ = some (i64 x.kind) := cell_of_row _ w.heap.size 2 _ _ (0, 0) (heap_alloc_new w _)
 have c3 : (w.alloc (.cells #[i64 x.client, i64 x.seq, i64 x.kind, .string x.acct, .string x.peer, i64 x.sum, .slice x.la x.legs.length x.lc, i64 x.period, i64 x.hold, .string x.note] 37)).cell? ⟨w.heap.size, 3, none⟩ = some (.string x.acct) := cell_of_row _ w.heap.size 3 _ _ (0, 0) (heap_alloc_new w _)
 have c4 : (w.alloc (.cells #[i64 x.client, i64 x.seq, i64 x.kind, .string x.acct, .string x.peer, i64 x.sum, .slice x.la x.legs.length x.lc, i64 x.period, i64 x.hold, .string x.note] 37)).cell? ⟨w.heap.size, 4, none⟩ = some (.string x.peer) := cell_of_row _ w.heap.size 4 _ _ (0, 0) (heap_alloc_new w _)
 have c5 : (w.alloc (.cells #[i64 x.client, i64 x.seq, i64 x.kind, .string x.acct, .string x.peer, i64 x.sum, .slice x.la x.legs.length x.lc, i64 x.period, i64 x.hold, .string x.note] 37)).cell? ⟨w.heap.size, 5, none⟩ = some (i64 x.sum) := cell_of_row _ w.heap.size 5 _ _ (0, 0) (heap_alloc_new w _)
 have c6 : (w.alloc (.cells #[i64 x.client, i64 x.seq, i64 x.kind, .string x.acct, .string x.peer, i64 x.sum, .slice x.la x.legs.length x.lc, i64 x.period, i64 x.hold, .string x.note] 37)).cell? ⟨w.heap.size, 6, none⟩ = some (.slice x.la x.legs.length x.lc) := cell_of_row _ w.heap.size 6 _ _ (0, 0) (heap_alloc_new w _)
 have c7 : (w.alloc (.cells #[i64 x.client, i64 x.seq, i64 x.kind, .string x.acct, .string x.peer, i64 x.sum, .slice x.la x.legs.length x.lc, i64 x.period, i64 x.hold, .string x.note] 37)).cell? ⟨w.heap.size, 7, none⟩ = some (i64 x.period) := cell_of_row _ w.heap.size 7 _ _ (0, 0) (heap_alloc_new w _)
 have c8 : (w.alloc (.cells #[i64 x.client, i64 x.seq, i64 x.kind, .string x.acct, .string x.peer, i64 x.sum, .slice x.la x.legs.length x.lc, i64 x.period, i64 x.hold, .string x.note] 37)).cell? ⟨w.heap.size, 8, none⟩ = some (i64 x.hold) := cell_of_row _ w.heap.size 8 _ _ (0, 0) (heap_alloc_new w _)
 have c9 : (w.alloc (.cells #[i64 x.client, i64 x.seq, i64 x.kind, .string x.acct, .string x.peer, i64 x.sum, .slice x.la x.legs.length x.lc, i64 x.period, i64 x.hold, .string x.note] 37)).cell? ⟨w.heap.size, 9, none⟩ = some (.string x.note) := cell_of_row _ w.heap.size 9 _ _ (0, 0) (heap_alloc_new w _)
 unfold Od.v
 go_enter Tryz.func157, Tryz.ntmps157
 have hlw : w.heap.size < (w.alloc (.cells #[i64 x.client, i64 x.seq, i64 x.kind, .string x.acct, .string x.peer, i64 x.sum, .slice x.la x.legs.length x.lc, i64 x.period, i64 x.hold, .string x.note] 37)).heap.size := by simp
 go_wp2_with fail
 refine (fname_c x _).mono ?_
 rintro e w1 ⟨rfl, hF⟩
 have c0 := (hF.cell (p := ⟨w.heap.size, 0, none⟩) hlw).trans c0
 have c1 := (hF.cell (p := ⟨w.heap.size, 1, none⟩) hlw).trans c1
 have c2 := (hF.cell (p := ⟨w.heap.size, 2, none⟩) hlw).trans c2
 have c3 := (hF.cell (p := ⟨w.heap.size, 3, none⟩) hlw).trans c3
 have c4 := (hF.cell (p := ⟨w.heap.size, 4, none⟩) hlw).trans c4
 have c5 := (hF.cell (p := ⟨w.heap.size, 5, none⟩) hlw).trans c5
 have c6 := (hF.cell (p := ⟨w.heap.size, 6, none⟩) hlw).trans c6
 have c7 := (hF.cell (p := ⟨w.heap.size, 7, none⟩) hlw).trans c7
 have c8 := (hF.cell (p := ⟨w.heap.size, 8, none⟩) hlw).trans c8
 have c9 := (hF.cell (p := ⟨w.heap.size, 9, none⟩) hlw).trans c9
 have hb := below_on hb (Nat.le_refl _) hF
 have hlw := Nat.lt_of_lt_of_le hlw hF.size
 clear hF
 by_cases t0 : nameB x.acct = true
 ·rw [t0]
  have T0 := Lib.hid t0
  clear t0
  go_wp2_with fail
  refine (held_c x.hold _).mono ?_
  rintro e w2 ⟨rfl, hF⟩
  have c0 := (hF.cell (p := ⟨w.heap.size, 0, none⟩) hlw).trans c0
  have c1 := (hF.cell (p := ⟨w.heap.size, 1, none⟩) hlw).trans c1
  have c2 := (hF.cell (p := ⟨w.heap.size, 2, none⟩) hlw).trans c2
  have c3 := (hF.cell (p := ⟨w.heap.size, 3, none⟩) hlw).trans c3
  have c4 := (hF.cell (p := ⟨w.heap.size, 4, none⟩) hlw).trans c4
  have c5 := (hF.cell (p := ⟨w.heap.size, 5, none⟩) hlw).trans c5
  have c6 := (hF.cell (p := ⟨w.heap.size, 6, none⟩) hlw).trans c6
  have c7 := (hF.cell (p := ⟨w.heap.size, 7, none⟩) hlw).trans c7
  have c8 := (hF.cell (p := ⟨w.heap.size, 8, none⟩) hlw).trans c8
  have c9 := (hF.cell (p := ⟨w.heap.size, 9, none⟩) hlw).trans c9
  have hb := below_on hb (Nat.le_refl _) hF
  have hlw := Nat.lt_of_lt_of_le hlw hF.size
  clear hF
  by_cases t1 : heldB x.hold = true
  ·rw [t1]
   have T1 := Lib.hid t1
   clear t1
   go_wp2
   go_ret
   exact ⟨by rw [Hs.out, T0.out, T1.out]; rfl, hb⟩
  ·have t1 : heldB x.hold = false := by simpa using t1
   rw [t1]
   have T1 := Lib.hid t1
   clear t1
   go_wp2
   go_ret
   exact ⟨by rw [Hs.out, T0.out, T1.out]; rfl, hb⟩
 ·have t0 : nameB x.acct = false := by simpa using t0
  rw [t0]
  have T0 := Lib.hid t0
  clear t0
  go_wp2
  go_ret
  exact ⟨by rw [Hs.out, T0.out]; rfl, hb⟩
def fits6 (x : Od) : Bool := periodB x.period
set_option maxRecDepth 100000 in
set_option maxHeartbeats 2000000 in
theorem fits6_c (x : Od) (w : World) : Calls Tryz.prog 159 #[x.v] w fun e w' => e = .returned (.bool (fits6 x)) ∧ Below w.heap.size w w' := by
 have hb := (Below.refl w.heap.size w).alloc (Nat.le_refl _) (.cells #[i64 x.client, i64 x.seq, i64 x.kind, .string x.acct, .string x.peer, i64 x.sum, .slice x.la x.legs.length x.lc, i64 x.period, i64 x.hold, .string x.note] 37)
 have Hs := Lib.hid (show fits6 x = periodB x.period from rfl)
 have c0 : (w.alloc (.cells #[i64 x.client, i64 x.seq, i64 x.kind, .string x.acct, .string x.peer, i64 x.sum, .slice x.la x.legs.length x.lc, i64 x.period, i64 x.hold, .string x.note] 37)).cell? ⟨w.heap.size, 0, none⟩ = some (i64 x.client) := cell_of_row _ w.heap.size 0 _ _ (0, 0) (heap_alloc_new w _)
 have c1 : (w.alloc (.cells #[i64 x.client, i64 x.seq, i64 x.kind, .string x.acct, .string x.peer, i64 x.sum, .slice x.la x.legs.length x.lc, i64 x.period, i64 x.hold, .string x.note] 37)).cell? ⟨w.heap.size, 1, none⟩ = some (i64 x.seq) := cell_of_row _ w.heap.size 1 _ _ (0, 0) (heap_alloc_new w _)
 have c2 : (w.alloc (.cells #[i64 x.client, i64 x.seq, i64 x.kind, .string x.acct, .string x.peer, i64 x.sum, .slice x.la x.legs.length x.lc, i64 x.period, i64 x.hold, .string x.note] 37)).cell? ⟨w.heap.size, 2, none⟩ = some (i64 x.kind) := cell_of_row _ w.heap.size 2 _ _ (0, 0) (heap_alloc_new w _)
 have c3 : (w.alloc (.cells #[i64 x.client, i64 x.seq, i64 x.kind, .string x.acct, .string x.peer, i64 x.sum, .slice x.la x.legs.length x.lc, i64 x.period, i64 x.hold, .string x.note] 37)).cell? ⟨w.heap.size, 3, none⟩ = some (.string x.acct) := cell_of_row _ w.heap.size 3 _ _ (0, 0) (heap_alloc_new w _)
 have c4 : (w.alloc (.cells #[i64 x.client, i64 x.seq, i64 x.kind, .string x.acct, .string x.peer, i64 x.sum, .slice x.la x.legs.length x.lc, i64 x.period, i64 x.hold, .string x.note] 37)).cell? ⟨w.heap.size, 4, none⟩ = some (.string x.peer) := cell_of_row _ w.heap.size 4 _ _ (0, 0) (heap_alloc_new w _)
 have c5 : (w.alloc (.cells #[i64 x.client, i64 x.seq, i64 x.kind, .string x.acct, .string x.peer, i64 x.sum, .slice x.la x.legs.length x.lc, i64 x.period, i64 x.hold, .string x.note] 37)).cell? ⟨w.heap.size, 5, none⟩ = some (i64 x.sum) := cell_of_row _ w.heap.size 5 _ _ (0, 0) (heap_alloc_new w _)
 have c6 : (w.alloc (.cells #[i64 x.client, i64 x.seq, i64 x.kind, .string x.acct, .string x.peer, i64 x.sum, .slice x.la x.legs.length x.lc, i64 x.period, i64 x.hold, .string x.note] 37)).cell? ⟨w.heap.size, 6, none⟩ = some (.slice x.la x.legs.length x.lc) := cell_of_row _ w.heap.size 6 _ _ (0, 0) (heap_alloc_new w _)
 have c7 : (w.alloc (.cells #[i64 x.client, i64 x.seq, i64 x.kind, .string x.acct, .string x.peer, i64 x.sum, .slice x.la x.legs.length x.lc, i64 x.period, i64 x.hold, .string x.note] 37)).cell? ⟨w.heap.size, 7, none⟩ = some (i64 x.period) := cell_of_row _ w.heap.size 7 _ _ (0, 0) (heap_alloc_new w _)
 have c8 : (w.alloc (.cells #[i64 x.client, i64 x.seq, i64 x.kind, .string x.acct, .string x.peer, i64 x.sum, .slice x.la x.legs.length x.lc, i64 x.period, i64 x.hold, .string x.note] 37)).cell? ⟨w.heap.size, 8, none⟩ = some (i64 x.hold) := cell_of_row _ w.heap.size 8 _ _ (0, 0) (heap_alloc_new w _)
 have c9 : (w.alloc (.cells #[i64 x.client, i64 x.seq, i64 x.kind, .string x.acct, .string x.peer, i64 x.sum, .slice x.la x.legs.length x.lc, i64 x.period, i64 x.hold, .string x.note] 37)).cell? ⟨w.heap.size, 9, none⟩ = some (.string x.note) := cell_of_row _ w.heap.size 9 _ _ (0, 0) (heap_alloc_new w _)
 unfold Od.v
 go_enter Tryz.func159, Tryz.ntmps159
 have hlw : w.heap.size < (w.alloc (.cells #[i64 x.client, i64 x.seq, i64 x.kind, .string x.acct, .string x.peer, i64 x.sum, .slice x.la x.legs.length x.lc, i64 x.period, i64 x.hold, .string x.note] 37)).heap.size := by simp
 go_wp2_with fail
 refine (period_c x.period _).mono ?_
 rintro e w1 ⟨rfl, hF⟩
 have c0 := (hF.cell (p := ⟨w.heap.size, 0, none⟩) hlw).trans c0
 have c1 := (hF.cell (p := ⟨w.heap.size, 1, none⟩) hlw).trans c1
 have c2 := (hF.cell (p := ⟨w.heap.size, 2, none⟩) hlw).trans c2
 have c3 := (hF.cell (p := ⟨w.heap.size, 3, none⟩) hlw).trans c3
 have c4 := (hF.cell (p := ⟨w.heap.size, 4, none⟩) hlw).trans c4
 have c5 := (hF.cell (p := ⟨w.heap.size, 5, none⟩) hlw).trans c5
 have c6 := (hF.cell (p := ⟨w.heap.size, 6, none⟩) hlw).trans c6
 have c7 := (hF.cell (p := ⟨w.heap.size, 7, none⟩) hlw).trans c7
 have c8 := (hF.cell (p := ⟨w.heap.size, 8, none⟩) hlw).trans c8
 have c9 := (hF.cell (p := ⟨w.heap.size, 9, none⟩) hlw).trans c9
 have hb := below_on hb (Nat.le_refl _) hF
 have hlw := Nat.lt_of_lt_of_le hlw hF.size
 clear hF
 by_cases t0 : periodB x.period = true
 ·rw [t0]
  have T0 := Lib.hid t0
  clear t0
  go_wp2
  go_ret
  exact ⟨by rw [Hs.out, T0.out]; rfl, hb⟩
 ·have t0 : periodB x.period = false := by simpa using t0
  rw [t0]
  have T0 := Lib.hid t0
  clear t0
  go_wp2
  go_ret
  exact ⟨by rw [Hs.out, T0.out]; rfl, hb⟩
section
variable {κ : Type} [DecidableEq κ] {enc : κ → Value} {P : Program} {K : TypeId} {w : World} {b : Nat} {M : List (κ × Value)}
end
/-- the shapes by their kinds, name's closure in block p -/
def shapesM (p : Nat) : List (Int × Value) := [(1, .agg #[.func (.func 145) #[] #[], .func (.func 146) #[] #[.pointer (some ⟨p, 0, none⟩)]]), (2, .agg #[.func (.func 147) #[] #[], .func (.func 148) #[] #[]]), (3, .agg #[.func (.func 151) #[] #[], .func (.func 152) #[] #[.pointer (some ⟨p, 0, none⟩)]]), (4, .agg #[.func (.func 153) #[] #[], .func (.func 154) #[] #[.pointer (some ⟨p, 0, none⟩)]]), (5, .agg #[.func (.func 156) #[] #[], .func (.func 157) #[] #[.pointer (some ⟨p, 0, none⟩)]]), (6, .agg #[.func (.func 158) #[] #[], .func (.func 159) #[] #[]]), (7, .agg #[.func (.func 160) #[] #[], .func (.func 144) #[] #[]])]
set_option maxRecDepth 100000 in
set_option maxHeartbeats 4000000 in
theorem shapes_c (w : World) : Calls Tryz.prog 102 #[] w fun e w' => e = .returned (.map (some (w.heap.size + 1))) ∧ MapIs i64 w' (w.heap.size + 1) (shapesM w.heap.size) ∧ w'.cell? ⟨w.heap.size, 0, none⟩ = some (.func (.func 144) #[] #[]) ∧ Below w.heap.size w w' := by
 have hmm := @run_makeMap Tryz.prog
 obtain ⟨W1, hW1⟩ : ∃ W1, (w.alloc (.cells #[.nilFunc] 128)).setCell ⟨w.heap.size, 0, none⟩ (.func (.func 144) #[] #[]) = W1 := ⟨_, rfl⟩
 have hb1 : Below w.heap.size w W1 := by rw [← hW1]; exact ((Below.refl _ _).alloc (Nat.le_refl _) _).setCell (Nat.le_refl _) _
 have hs1 : W1.heap.size = w.heap.size + 1 := by rw [← hW1]; simp [World.setCell]
 have hc1 : W1.cell? ⟨w.heap.size, 0, none⟩ = some (.func (.func 144) #[] #[]) := by rw [← hW1]; exact cell_of_row _ w.heap.size 0 _ _ (0, 0) (heap_setCell_same _ w.heap.size 0 _ _ (.func (.func 144) #[] #[]) (heap_alloc_new w (.cells #[.nilFunc] 128)))
 have m0 := MapIs.made (enc := i64) W1
 have hb2 := hb1.alloc (by omega) (.map #[] 0)
 have hc2 := ((Below.refl W1.heap.size W1).alloc (Nat.le_refl _) (.map #[] 0)).cell (p := ⟨w.heap.size, 0, none⟩) (by rw [hs1]; exact Nat.lt_succ_self _)
 rw [hc1] at hc2
 rw [hs1] at m0
 obtain ⟨v1, r1, m1, g1⟩ := run_put (P := Tryz.prog) intKey Tryz.underlying199 m0 1 (.agg #[.func (.func 145) #[] #[], .func (.func 146) #[] #[.pointer (some ⟨w.heap.size, 0, none⟩)]])
 have d1 := (World.cell?_of_block (a := ⟨w.heap.size, 0, none⟩) (g1.block w.heap.size (by simp; omega) (fun e => by injection e; omega))).trans hc2
 have k1 := hb2.trans (below_of_grown g1 (B := w.heap.size) (by exact hb2.size) (fun g e => by injection e; omega))
 obtain ⟨v2, r2, m2, g2⟩ := run_put (P := Tryz.prog) intKey Tryz.underlying199 m1 2 (.agg #[.func (.func 147) #[] #[], .func (.func 148) #[] #[]])
 have d2 := (World.cell?_of_block (a := ⟨w.heap.size, 0, none⟩) (g2.block w.heap.size (by have := k1.size; have := World.block_lt_of_cell? _ _ d1; exact this) (fun e => by injection e; omega))).trans d1
 have k2 := k1.trans (below_of_grown g2 (B := w.heap.size) (by exact k1.size) (fun g e => by injection e; omega))
 obtain ⟨v3, r3, m3, g3⟩ := run_put (P := Tryz.prog) intKey Tryz.underlying199 m2 3 (.agg #[.func (.func 151) #[] #[], .func (.func 152) #[] #[.pointer (some ⟨w.heap.size, 0, none⟩)]])
 have d3 := (World.cell?_of_block (a := ⟨w.heap.size, 0, none⟩) (g3.block w.heap.size (by have := k2.size; have := World.block_lt_of_cell? _ _ d2; exact this) (fun e => by injection e; omega))).trans d2
 have k3 := k2.trans (below_of_grown g3 (B := w.heap.size) (by exact k2.size) (fun g e => by injection e; omega))
 obtain ⟨v4, r4, m4, g4⟩ := run_put (P := Tryz.prog) intKey Tryz.underlying199 m3 4 (.agg #[.func (.func 153) #[] #[], .func (.func 154) #[] #[.pointer (some ⟨w.heap.size, 0, none⟩)]])
 have d4 := (World.cell?_of_block (a := ⟨w.heap.size, 0, none⟩) (g4.block w.heap.size (by have := k3.size; have := World.block_lt_of_cell? _ _ d3; exact this) (fun e => by injection e; omega))).trans d3
 have k4 := k3.trans (below_of_grown g4 (B := w.heap.size) (by exact k3.size) (fun g e => by injection e; omega))
 obtain ⟨v5, r5, m5, g5⟩ := run_put (P := Tryz.prog) intKey Tryz.underlying199 m4 5 (.agg #[.func (.func 156) #[] #[], .func (.func 157) #[] #[.pointer (some ⟨w.heap.size, 0, none⟩)]])
 have d5 := (World.cell?_of_block (a := ⟨w.heap.size, 0, none⟩) (g5.block w.heap.size (by have := k4.size; have := World.block_lt_of_cell? _ _ d4; exact this) (fun e => by injection e; omega))).trans d4
 have k5 := k4.trans (below_of_grown g5 (B := w.heap.size) (by exact k4.size) (fun g e => by injection e; omega))
 obtain ⟨v6, r6, m6, g6⟩ := run_put (P := Tryz.prog) intKey Tryz.underlying199 m5 6 (.agg #[.func (.func 158) #[] #[], .func (.func 159) #[] #[]])
 have d6 := (World.cell?_of_block (a := ⟨w.heap.size, 0, none⟩) (g6.block w.heap.size (by have := k5.size; have := World.block_lt_of_cell? _ _ d5; exact this) (fun e => by injection e; omega))).trans d5
 have k6 := k5.trans (below_of_grown g6 (B := w.heap.size) (by exact k5.size) (fun g e => by injection e; omega))
 obtain ⟨v7, r7, m7, g7⟩ := run_put (P := Tryz.prog) intKey Tryz.underlying199 m6 7 (.agg #[.func (.func 160) #[] #[], .func (.func 144) #[] #[]])
 have d7 := (World.cell?_of_block (a := ⟨w.heap.size, 0, none⟩) (g7.block w.heap.size (by have := k6.size; have := World.block_lt_of_cell? _ _ d6; exact this) (fun e => by injection e; omega))).trans d6
 have k7 := k6.trans (below_of_grown g7 (B := w.heap.size) (by exact k6.size) (fun g e => by injection e; omega))
 go_enter Tryz.func102, Tryz.ntmps102
 go_wp2
 go_ret
 exact ⟨rfl, by have := m7; simpa [putM, shapesM] using this, d7, k7⟩
end Go.Proofs.YtampniiehgimhaaGreat
