/- ref06.Right -/
import Derived.Test.YtampniiehgimhaaGreatRows
import Derived.Test.YtampniiehgimhaaGreatBs18
import Derived.WalkKit
import Derived.WalkSpells
import Derived.WalkLawsBesides
import Derived.Deep.QuietTactic
import Derived.BigQuiet
import Derived.Laws.StructEq
import Derived.Deep.DeepFit
import Derived.StillTailTactics

namespace Go.Proofs.YtampniiehgimhaaGreat
open Go.RowKit
set_option maxRecDepth 100000 in
set_option maxHeartbeats 8000000 in
theorem rright_4 (x : Od) (w : World) (hx : Okb w w.heap.size x) (hl : x.legs.length ≤ 65536) (hk : x.kind = 4) (hc : 0 ≤ x.client ∧ x.client ≤ 9) (hs : 1 ≤ x.seq ∧ x.seq ≤ 999) :
  Calls Tryz.prog 61 #[x.v] w fun e w' => e = .returned (.bool (sameB x (dress x (bare4 x)) && fits4 x)) ∧ Below w.heap.size w w' := by
 have hzb : ∀ W, Below w.heap.size w W → Okb W W.heap.size (dress x (bare4 x)) := fun W h => by
  obtain ⟨a, b, c, d⟩ := Okb.later hx h
  exact ⟨a, b, Nat.zero_le _, SlS.nil_ _ _⟩
 have hcB := Lib.hid fun W => rbare4_c x hk W
 have hcS := Lib.hid fun W (h : Below w.heap.size w W) => rsame_c x (dress x (bare4 x)) W (Okb.later hx h) (hzb W h) hl (by show (0 : Nat) ≤ 65536; omega)
 have hN := Lib.hid fun W => rname_c x.acct hx.acct W
 have hP := Lib.hid fun W => rname_c x.peer hx.peer W
 have hLg := Lib.hid hx.legs
 have hlm : x.note.size ≤ 9223372036854775807 := Nat.le_trans hx.note (by decide)
 generalize hsm : sameB x (dress x (bare4 x)) = sm at *
 unfold Od.v at hcB hcS ⊢
 rw [hk] at hcB hcS ⊢
 have g0 : decide (x.client < 0) = false := decide_eq_false (by omega)
 have g1 : decide ((9 : Int) < x.client) = false := decide_eq_false (by omega)
 have g2 : decide (x.seq < 1) = false := decide_eq_false (by omega)
 have g3 : decide ((999 : Int) < x.seq) = false := decide_eq_false (by omega)
 clear hx hzb hsm hk hc hs hl
 have hb0 := (Below.refl w.heap.size w).alloc (Nat.le_refl _) (.cells #[i64 x.client, i64 x.seq, i64 4, .string x.acct, .string x.peer, i64 x.sum, .slice x.la x.legs.length x.lc, i64 x.period, i64 x.hold, .string x.note] 37)
 have hg := heap_alloc_new w (.cells #[i64 x.client, i64 x.seq, i64 4, .string x.acct, .string x.peer, i64 x.sum, .slice x.la x.legs.length x.lc, i64 x.period, i64 x.hold, .string x.note] 37)
 have hz : w.heap.size < (w.alloc (.cells #[i64 x.client, i64 x.seq, i64 4, .string x.acct, .string x.peer, i64 x.sum, .slice x.la x.legs.length x.lc, i64 x.period, i64 x.hold, .string x.note] 37)).heap.size := by simp
 have k0 := cell_of_row _ (w.heap.size) 0 _ _ (0, 0) hg
 have k1 := cell_of_row _ (w.heap.size) 1 _ _ (0, 0) hg
 have k2 := cell_of_row _ (w.heap.size) 2 _ _ (0, 0) hg
 have k3 := cell_of_row _ (w.heap.size) 3 _ _ (0, 0) hg
 have k4 := cell_of_row _ (w.heap.size) 4 _ _ (0, 0) hg
 have k5 := cell_of_row _ (w.heap.size) 5 _ _ (0, 0) hg
 have k6 := cell_of_row _ (w.heap.size) 6 _ _ (0, 0) hg
 have k7 := cell_of_row _ (w.heap.size) 7 _ _ (0, 0) hg
 have k8 := cell_of_row _ (w.heap.size) 8 _ _ (0, 0) hg
 have k9 := cell_of_row _ (w.heap.size) 9 _ _ (0, 0) hg
 simp only [List.getElem?_toArray, List.getElem?_cons_zero, List.getElem?_cons_succ] at k0 k1 k2 k3 k4 k5 k6 k7 k8 k9
 go_enter Tryz.func61, Tryz.ntmps61
 go_wp2_with fail
 generalize w.alloc (.cells #[i64 x.client, i64 x.seq, i64 4, .string x.acct, .string x.peer, i64 x.sum, .slice x.la x.legs.length x.lc, i64 x.period, i64 x.hold, .string x.note] 37) = W1 at *
 have hSS : ∀ V, Below W1.heap.size W1 V → (fun V : World => Below W1.heap.size W1 V ∧ V.cell? ⟨w.heap.size, 0, none⟩ = some (i64 x.client) ∧ V.cell? ⟨w.heap.size, 1, none⟩ = some (i64 x.seq) ∧ V.cell? ⟨w.heap.size, 2, none⟩ = some (i64 4) ∧ V.cell? ⟨w.heap.size, 3, none⟩ = some (.string x.acct) ∧ V.cell? ⟨w.heap.size, 4, none⟩ = some (.string x.peer) ∧ V.cell? ⟨w.heap.size, 5, none⟩ = some (i64 x.sum) ∧ V.cell? ⟨w.heap.size, 6, none⟩ = some (.slice x.la x.legs.length x.lc) ∧ V.cell? ⟨w.heap.size, 7, none⟩ = some (i64 x.period) ∧ V.cell? ⟨w.heap.size, 8, none⟩ = some (i64 x.hold) ∧ V.cell? ⟨w.heap.size, 9, none⟩ = some (.string x.note)) V := fun V h => ⟨h, (h.cell (p := ⟨w.heap.size, 0, none⟩) hz).trans k0, (h.cell (p := ⟨w.heap.size, 1, none⟩) hz).trans k1, (h.cell (p := ⟨w.heap.size, 2, none⟩) hz).trans k2, (h.cell (p := ⟨w.heap.size, 3, none⟩) hz).trans k3, (h.cell (p := ⟨w.heap.size, 4, none⟩) hz).trans k4, (h.cell (p := ⟨w.heap.size, 5, none⟩) hz).trans k5, (h.cell (p := ⟨w.heap.size, 6, none⟩) hz).trans k6, (h.cell (p := ⟨w.heap.size, 7, none⟩) hz).trans k7, (h.cell (p := ⟨w.heap.size, 8, none⟩) hz).trans k8, (h.cell (p := ⟨w.heap.size, 9, none⟩) hz).trans k9⟩
 have h0 := (Below.refl W1.heap.size W1).drew
 have hB1 := fun V (h : Below W1.heap.size W1 V) => below_on hb0 (Nat.le_refl _) h
 go_region_held3 (fun V : World => Below W1.heap.size W1 V ∧ V.cell? ⟨w.heap.size, 0, none⟩ = some (i64 x.client) ∧ V.cell? ⟨w.heap.size, 1, none⟩ = some (i64 x.seq) ∧ V.cell? ⟨w.heap.size, 2, none⟩ = some (i64 4) ∧ V.cell? ⟨w.heap.size, 3, none⟩ = some (.string x.acct) ∧ V.cell? ⟨w.heap.size, 4, none⟩ = some (.string x.peer) ∧ V.cell? ⟨w.heap.size, 5, none⟩ = some (i64 x.sum) ∧ V.cell? ⟨w.heap.size, 6, none⟩ = some (.slice x.la x.legs.length x.lc) ∧ V.cell? ⟨w.heap.size, 7, none⟩ = some (i64 x.period) ∧ V.cell? ⟨w.heap.size, 8, none⟩ = some (i64 x.hold) ∧ V.cell? ⟨w.heap.size, 9, none⟩ = some (.string x.note)) (first | exact hSS _ h0 | exact hSS _ (by assumption))
  (first
   | (go_at_call 112; with_reducible refine (hcB.out _).mono ?_; rintro e u1 ⟨rfl, hF⟩; have hb1 := below_on h0 (Nat.le_refl _) hF; clear hF)
   | (go_at_call 111; refine (hcS.out _ (hB1 _ hb1)).mono ?_; rintro e u2 ⟨rfl, hF⟩; have hb2 := below_on hb1 (Nat.le_refl _) hF; clear hF))
 have hbw := hB1 _ hb2
 have hz2 := Nat.lt_of_lt_of_le hz hb2.size
 have k0 := (hb2.cell (p := ⟨w.heap.size, 0, none⟩) hz).trans k0
 have k1 := (hb2.cell (p := ⟨w.heap.size, 1, none⟩) hz).trans k1
 have k2 := (hb2.cell (p := ⟨w.heap.size, 2, none⟩) hz).trans k2
 have k3 := (hb2.cell (p := ⟨w.heap.size, 3, none⟩) hz).trans k3
 have k4 := (hb2.cell (p := ⟨w.heap.size, 4, none⟩) hz).trans k4
 have k5 := (hb2.cell (p := ⟨w.heap.size, 5, none⟩) hz).trans k5
 have k6 := (hb2.cell (p := ⟨w.heap.size, 6, none⟩) hz).trans k6
 have k7 := (hb2.cell (p := ⟨w.heap.size, 7, none⟩) hz).trans k7
 have k8 := (hb2.cell (p := ⟨w.heap.size, 8, none⟩) hz).trans k8
 have k9 := (hb2.cell (p := ⟨w.heap.size, 9, none⟩) hz).trans k9
 clear hSS h0 hB1 hb1 hcB hcS hg hb0 g0 g1 g2 g3
 clear hz hb2
 cases sm
 ·go_wp2
  go_ret
  exact ⟨rfl, hbw⟩
 go_wp2_with fail
 refine (hN.out _).mono ?_
 rintro e u3 ⟨rfl, hF⟩
 have k0 := (hF.cell (World.block_lt_of_cell? _ _ k0)).trans k0
 have k1 := (hF.cell (World.block_lt_of_cell? _ _ k1)).trans k1
 have k2 := (hF.cell (World.block_lt_of_cell? _ _ k2)).trans k2
 have k3 := (hF.cell (World.block_lt_of_cell? _ _ k3)).trans k3
 have k4 := (hF.cell (World.block_lt_of_cell? _ _ k4)).trans k4
 have k5 := (hF.cell (World.block_lt_of_cell? _ _ k5)).trans k5
 have k6 := (hF.cell (World.block_lt_of_cell? _ _ k6)).trans k6
 have k7 := (hF.cell (World.block_lt_of_cell? _ _ k7)).trans k7
 have k8 := (hF.cell (World.block_lt_of_cell? _ _ k8)).trans k8
 have k9 := (hF.cell (World.block_lt_of_cell? _ _ k9)).trans k9
 have hbw := below_on hbw (Nat.le_refl _) hF
 clear hF
 cases hn : nameB x.acct
 ·skip
  have hR := Lib.hid (show fits4 x = false by unfold fits4 periodB heldB; rw [hn]; rw [Bool.eq_iff_iff]; (try simp); (try omega))
  clear hN hP
  go_wp2
  go_ret
  exact ⟨by rw [hR.out]; rfl, hbw⟩
 by_cases hs : x.sum < 1
 ·have t : decide (x.sum < 1) = true := decide_eq_true hs
  have hR := Lib.hid (show fits4 x = false by unfold fits4 periodB heldB; rw [hn]; rw [Bool.eq_iff_iff]; (try simp); (try omega))
  clear hN hP
  go_wp2
  go_ret
  exact ⟨by rw [hR.out]; rfl, hbw⟩
 have t : decide (x.sum < 1) = false := decide_eq_false hs
 by_cases hp1 : x.period < 1
 ·have thp1 : decide (x.period < 1) = true := decide_eq_true hp1
  have hR := Lib.hid (show fits4 x = false by unfold fits4 periodB heldB; rw [hn]; rw [Bool.eq_iff_iff]; (try simp); (try omega))
  clear hN hP
  go_wp2
  go_ret
  exact ⟨by rw [hR.out]; rfl, hbw⟩
 have thp1 : decide (x.period < 1) = false := decide_eq_false hp1
 by_cases hp2 : 1000 < x.period
 ·have thp2 : decide ((1000 : Int) < x.period) = true := decide_eq_true hp2
  have hR := Lib.hid (show fits4 x = false by unfold fits4 periodB heldB; rw [hn]; rw [Bool.eq_iff_iff]; (try simp); (try omega))
  clear hN hP
  go_wp2
  go_ret
  exact ⟨by rw [hR.out]; rfl, hbw⟩
 have thp2 : decide ((1000 : Int) < x.period) = false := decide_eq_false hp2
 by_cases hh1 : x.hold < 1
 ·have thh1 : decide (x.hold < 1) = true := decide_eq_true hh1
  have hR := Lib.hid (show fits4 x = false by unfold fits4 periodB heldB; rw [hn]; rw [Bool.eq_iff_iff]; (try simp); (try omega))
  clear hN hP
  go_wp2
  go_ret
  exact ⟨by rw [hR.out]; rfl, hbw⟩
 have thh1 : decide (x.hold < 1) = false := decide_eq_false hh1
 by_cases hh2 : 9999 < x.hold
 ·have thh2 : decide ((9999 : Int) < x.hold) = true := decide_eq_true hh2
  have hR := Lib.hid (show fits4 x = false by unfold fits4 periodB heldB; rw [hn]; rw [Bool.eq_iff_iff]; (try simp); (try omega))
  clear hN hP
  go_wp2
  go_ret
  exact ⟨by rw [hR.out]; rfl, hbw⟩
 have thh2 : decide ((9999 : Int) < x.hold) = false := decide_eq_false hh2
 go_wp2_with fail
 refine (hP.out _).mono ?_
 rintro e u4 ⟨rfl, hF⟩
 have k0 := (hF.cell (World.block_lt_of_cell? _ _ k0)).trans k0
 have k1 := (hF.cell (World.block_lt_of_cell? _ _ k1)).trans k1
 have k2 := (hF.cell (World.block_lt_of_cell? _ _ k2)).trans k2
 have k3 := (hF.cell (World.block_lt_of_cell? _ _ k3)).trans k3
 have k4 := (hF.cell (World.block_lt_of_cell? _ _ k4)).trans k4
 have k5 := (hF.cell (World.block_lt_of_cell? _ _ k5)).trans k5
 have k6 := (hF.cell (World.block_lt_of_cell? _ _ k6)).trans k6
 have k7 := (hF.cell (World.block_lt_of_cell? _ _ k7)).trans k7
 have k8 := (hF.cell (World.block_lt_of_cell? _ _ k8)).trans k8
 have k9 := (hF.cell (World.block_lt_of_cell? _ _ k9)).trans k9
 have hbw := below_on hbw (Nat.le_refl _) hF
 clear hF
 cases hn2 : nameB x.peer
 ·skip
  have hR := Lib.hid (show fits4 x = false by unfold fits4 periodB heldB; rw [hn]; rw [hn2]; rw [Bool.eq_iff_iff]; (try simp); (try omega))
  clear hN hP
  go_wp2
  go_ret
  exact ⟨by rw [hR.out]; rfl, hbw⟩
 by_cases he : x.peer = x.acct
 ·have te : (x.peer.toList == x.acct.toList) = true := beqS_of_eq he
  have hR := Lib.hid (show fits4 x = false by unfold fits4 periodB heldB; rw [hn]; rw [hn2]; rw [show (x.peer.toList != x.acct.toList) = false by rw [bne, te]; rfl]; rw [Bool.eq_iff_iff]; (try simp); (try omega))
  clear hN hP
  go_wp2
  go_ret
  exact ⟨by rw [hR.out]; rfl, hbw⟩
 have te : (x.peer.toList == x.acct.toList) = false := beqS_of_ne he
 have hR := Lib.hid (show fits4 x = true by unfold fits4 periodB heldB; rw [hn]; rw [hn2]; rw [show (x.peer.toList != x.acct.toList) = true by rw [bne, te]; rfl]; rw [Bool.eq_iff_iff]; (try simp); (try omega))
 go_wp2
 go_ret
 exact ⟨by rw [hR.out]; rfl, hbw⟩
set_option maxRecDepth 100000 in
set_option maxHeartbeats 8000000 in
theorem rright_5 (x : Od) (w : World) (hx : Okb w w.heap.size x) (hl : x.legs.length ≤ 65536) (hk : x.kind = 5) (hc : 0 ≤ x.client ∧ x.client ≤ 9) (hs : 1 ≤ x.seq ∧ x.seq ≤ 999) :
  Calls Tryz.prog 61 #[x.v] w fun e w' => e = .returned (.bool (sameB x (dress x (bare5 x)) && fits5 x)) ∧ Below w.heap.size w w' := by
 have hzb : ∀ W, Below w.heap.size w W → Okb W W.heap.size (dress x (bare5 x)) := fun W h => by
  obtain ⟨a, b, c, d⟩ := Okb.later hx h
  exact ⟨a, Nat.zero_le _, Nat.zero_le _, SlS.nil_ _ _⟩
 have hcB := Lib.hid fun W => rbare5_c x hk W
 have hcS := Lib.hid fun W (h : Below w.heap.size w W) => rsame_c x (dress x (bare5 x)) W (Okb.later hx h) (hzb W h) hl (by show (0 : Nat) ≤ 65536; omega)
 have hN := Lib.hid fun W => rname_c x.acct hx.acct W
 have hP := Lib.hid fun W => rname_c x.peer hx.peer W
 have hLg := Lib.hid hx.legs
 have hlm : x.note.size ≤ 9223372036854775807 := Nat.le_trans hx.note (by decide)
 generalize hsm : sameB x (dress x (bare5 x)) = sm at *
 unfold Od.v at hcB hcS ⊢
 rw [hk] at hcB hcS ⊢
 have g0 : decide (x.client < 0) = false := decide_eq_false (by omega)
 have g1 : decide ((9 : Int) < x.client) = false := decide_eq_false (by omega)
 have g2 : decide (x.seq < 1) = false := decide_eq_false (by omega)
 have g3 : decide ((999 : Int) < x.seq) = false := decide_eq_false (by omega)
 clear hx hzb hsm hk hc hs hl
 have hb0 := (Below.refl w.heap.size w).alloc (Nat.le_refl _) (.cells #[i64 x.client, i64 x.seq, i64 5, .string x.acct, .string x.peer, i64 x.sum, .slice x.la x.legs.length x.lc, i64 x.period, i64 x.hold, .string x.note] 37)
 have hg := heap_alloc_new w (.cells #[i64 x.client, i64 x.seq, i64 5, .string x.acct, .string x.peer, i64 x.sum, .slice x.la x.legs.length x.lc, i64 x.period, i64 x.hold, .string x.note] 37)
 have hz : w.heap.size < (w.alloc (.cells #[i64 x.client, i64 x.seq, i64 5, .string x.acct, .string x.peer, i64 x.sum, .slice x.la x.legs.length x.lc, i64 x.period, i64 x.hold, .string x.note] 37)).heap.size := by simp
 have k0 := cell_of_row _ (w.heap.size) 0 _ _ (0, 0) hg
 have k1 := cell_of_row _ (w.heap.size) 1 _ _ (0, 0) hg
 have k2 := cell_of_row _ (w.heap.size) 2 _ _ (0, 0) hg
 have k3 := cell_of_row _ (w.heap.size) 3 _ _ (0, 0) hg
 have k4 := cell_of_row _ (w.heap.size) 4 _ _ (0, 0) hg
 have k5 := cell_of_row _ (w.heap.size) 5 _ _ (0, 0) hg
 have k6 := cell_of_row _ (w.heap.size) 6 _ _ (0, 0) hg
 have k7 := cell_of_row _ (w.heap.size) 7 _ _ (0, 0) hg
 have k8 := cell_of_row _ (w.heap.size) 8 _ _ (0, 0) hg
 have k9 := cell_of_row _ (w.heap.size) 9 _ _ (0, 0) hg
 simp only [List.getElem?_toArray, List.getElem?_cons_zero, List.getElem?_cons_succ] at k0 k1 k2 k3 k4 k5 k6 k7 k8 k9
 go_enter Tryz.func61, Tryz.ntmps61
 go_wp2_with fail
 generalize w.alloc (.cells #[i64 x.client, i64 x.seq, i64 5, .string x.acct, .string x.peer, i64 x.sum, .slice x.la x.legs.length x.lc, i64 x.period, i64 x.hold, .string x.note] 37) = W1 at *
 have hSS : ∀ V, Below W1.heap.size W1 V → (fun V : World => Below W1.heap.size W1 V ∧ V.cell? ⟨w.heap.size, 0, none⟩ = some (i64 x.client) ∧ V.cell? ⟨w.heap.size, 1, none⟩ = some (i64 x.seq) ∧ V.cell? ⟨w.heap.size, 2, none⟩ = some (i64 5) ∧ V.cell? ⟨w.heap.size, 3, none⟩ = some (.string x.acct) ∧ V.cell? ⟨w.heap.size, 4, none⟩ = some (.string x.peer) ∧ V.cell? ⟨w.heap.size, 5, none⟩ = some (i64 x.sum) ∧ V.cell? ⟨w.heap.size, 6, none⟩ = some (.slice x.la x.legs.length x.lc) ∧ V.cell? ⟨w.heap.size, 7, none⟩ = some (i64 x.period) ∧ V.cell? ⟨w.heap.size, 8, none⟩ = some (i64 x.hold) ∧ V.cell? ⟨w.heap.size, 9, none⟩ = some (.string x.note)) V := fun V h => ⟨h, (h.cell (p := ⟨w.heap.size, 0, none⟩) hz).trans k0, (h.cell (p := ⟨w.heap.size, 1, none⟩) hz).trans k1, (h.cell (p := ⟨w.heap.size, 2, none⟩) hz).trans k2, (h.cell (p := ⟨w.heap.size, 3, none⟩) hz).trans k3, (h.cell (p := ⟨w.heap.size, 4, none⟩) hz).trans k4, (h.cell (p := ⟨w.heap.size, 5, none⟩) hz).trans k5, (h.cell (p := ⟨w.heap.size, 6, none⟩) hz).trans k6, (h.cell (p := ⟨w.heap.size, 7, none⟩) hz).trans k7, (h.cell (p := ⟨w.heap.size, 8, none⟩) hz).trans k8, (h.cell (p := ⟨w.heap.size, 9, none⟩) hz).trans k9⟩
 have h0 := (Below.refl W1.heap.size W1).drew
 have hB1 := fun V (h : Below W1.heap.size W1 V) => below_on hb0 (Nat.le_refl _) h
 go_region_held3 (fun V : World => Below W1.heap.size W1 V ∧ V.cell? ⟨w.heap.size, 0, none⟩ = some (i64 x.client) ∧ V.cell? ⟨w.heap.size, 1, none⟩ = some (i64 x.seq) ∧ V.cell? ⟨w.heap.size, 2, none⟩ = some (i64 5) ∧ V.cell? ⟨w.heap.size, 3, none⟩ = some (.string x.acct) ∧ V.cell? ⟨w.heap.size, 4, none⟩ = some (.string x.peer) ∧ V.cell? ⟨w.heap.size, 5, none⟩ = some (i64 x.sum) ∧ V.cell? ⟨w.heap.size, 6, none⟩ = some (.slice x.la x.legs.length x.lc) ∧ V.cell? ⟨w.heap.size, 7, none⟩ = some (i64 x.period) ∧ V.cell? ⟨w.heap.size, 8, none⟩ = some (i64 x.hold) ∧ V.cell? ⟨w.heap.size, 9, none⟩ = some (.string x.note)) (first | exact hSS _ h0 | exact hSS _ (by assumption))
  (first
   | (go_at_call 112; with_reducible refine (hcB.out _).mono ?_; rintro e u1 ⟨rfl, hF⟩; have hb1 := below_on h0 (Nat.le_refl _) hF; clear hF)
   | (go_at_call 111; refine (hcS.out _ (hB1 _ hb1)).mono ?_; rintro e u2 ⟨rfl, hF⟩; have hb2 := below_on hb1 (Nat.le_refl _) hF; clear hF))
 have hbw := hB1 _ hb2
 have hz2 := Nat.lt_of_lt_of_le hz hb2.size
 have k0 := (hb2.cell (p := ⟨w.heap.size, 0, none⟩) hz).trans k0
 have k1 := (hb2.cell (p := ⟨w.heap.size, 1, none⟩) hz).trans k1
 have k2 := (hb2.cell (p := ⟨w.heap.size, 2, none⟩) hz).trans k2
 have k3 := (hb2.cell (p := ⟨w.heap.size, 3, none⟩) hz).trans k3
 have k4 := (hb2.cell (p := ⟨w.heap.size, 4, none⟩) hz).trans k4
 have k5 := (hb2.cell (p := ⟨w.heap.size, 5, none⟩) hz).trans k5
 have k6 := (hb2.cell (p := ⟨w.heap.size, 6, none⟩) hz).trans k6
 have k7 := (hb2.cell (p := ⟨w.heap.size, 7, none⟩) hz).trans k7
 have k8 := (hb2.cell (p := ⟨w.heap.size, 8, none⟩) hz).trans k8
 have k9 := (hb2.cell (p := ⟨w.heap.size, 9, none⟩) hz).trans k9
 clear hSS h0 hB1 hb1 hcB hcS hg hb0 g0 g1 g2 g3
 clear hz hb2
 cases sm
 ·go_wp2
  go_ret
  exact ⟨rfl, hbw⟩
 go_wp2_with fail
 refine (hN.out _).mono ?_
 rintro e u3 ⟨rfl, hF⟩
 have k0 := (hF.cell (World.block_lt_of_cell? _ _ k0)).trans k0
 have k1 := (hF.cell (World.block_lt_of_cell? _ _ k1)).trans k1
 have k2 := (hF.cell (World.block_lt_of_cell? _ _ k2)).trans k2
 have k3 := (hF.cell (World.block_lt_of_cell? _ _ k3)).trans k3
 have k4 := (hF.cell (World.block_lt_of_cell? _ _ k4)).trans k4
 have k5 := (hF.cell (World.block_lt_of_cell? _ _ k5)).trans k5
 have k6 := (hF.cell (World.block_lt_of_cell? _ _ k6)).trans k6
 have k7 := (hF.cell (World.block_lt_of_cell? _ _ k7)).trans k7
 have k8 := (hF.cell (World.block_lt_of_cell? _ _ k8)).trans k8
 have k9 := (hF.cell (World.block_lt_of_cell? _ _ k9)).trans k9
 have hbw := below_on hbw (Nat.le_refl _) hF
 clear hF
 cases hn : nameB x.acct
 ·skip
  have hR := Lib.hid (show fits5 x = false by unfold fits5 heldB; rw [hn]; rw [Bool.eq_iff_iff]; (try simp); (try omega))
  clear hN hP
  go_wp2
  go_ret
  exact ⟨by rw [hR.out]; rfl, hbw⟩
 by_cases hh1 : x.hold < 1
 ·have thh1 : decide (x.hold < 1) = true := decide_eq_true hh1
  have hR := Lib.hid (show fits5 x = false by unfold fits5 heldB; rw [hn]; rw [Bool.eq_iff_iff]; (try simp); (try omega))
  clear hN hP
  go_wp2
  go_ret
  exact ⟨by rw [hR.out]; rfl, hbw⟩
 have thh1 : decide (x.hold < 1) = false := decide_eq_false hh1
 by_cases hh2 : 9999 < x.hold
 ·have thh2 : decide ((9999 : Int) < x.hold) = true := decide_eq_true hh2
  have hR := Lib.hid (show fits5 x = false by unfold fits5 heldB; rw [hn]; rw [Bool.eq_iff_iff]; (try simp); (try omega))
  clear hN hP
  go_wp2
  go_ret
  exact ⟨by rw [hR.out]; rfl, hbw⟩
 have thh2 : decide ((9999 : Int) < x.hold) = false := decide_eq_false hh2
 have hR := Lib.hid (show fits5 x = true by unfold fits5 heldB; rw [hn]; rw [Bool.eq_iff_iff]; (try simp); (try omega))
 go_wp2
 go_ret
 exact ⟨by rw [hR.out]; rfl, hbw⟩
set_option maxRecDepth 100000 in
set_option maxHeartbeats 8000000 in
theorem rright_6 (x : Od) (w : World) (hx : Okb w w.heap.size x) (hl : x.legs.length ≤ 65536) (hk : x.kind = 6) (hc : 0 ≤ x.client ∧ x.client ≤ 9) (hs : 1 ≤ x.seq ∧ x.seq ≤ 999) :
  Calls Tryz.prog 61 #[x.v] w fun e w' => e = .returned (.bool (sameB x (dress x (bare6 x)) && fits6 x)) ∧ Below w.heap.size w w' := by
 have hzb : ∀ W, Below w.heap.size w W → Okb W W.heap.size (dress x (bare6 x)) := fun W h => by
  obtain ⟨a, b, c, d⟩ := Okb.later hx h
  exact ⟨Nat.zero_le _, Nat.zero_le _, Nat.zero_le _, SlS.nil_ _ _⟩
 have hcB := Lib.hid fun W => rbare6_c x hk W
 have hcS := Lib.hid fun W (h : Below w.heap.size w W) => rsame_c x (dress x (bare6 x)) W (Okb.later hx h) (hzb W h) hl (by show (0 : Nat) ≤ 65536; omega)
 have hN := Lib.hid fun W => rname_c x.acct hx.acct W
 have hP := Lib.hid fun W => rname_c x.peer hx.peer W
 have hLg := Lib.hid hx.legs
 have hlm : x.note.size ≤ 9223372036854775807 := Nat.le_trans hx.note (by decide)
 generalize hsm : sameB x (dress x (bare6 x)) = sm at *
 unfold Od.v at hcB hcS ⊢
 rw [hk] at hcB hcS ⊢
 have g0 : decide (x.client < 0) = false := decide_eq_false (by omega)
 have g1 : decide ((9 : Int) < x.client) = false := decide_eq_false (by omega)
 have g2 : decide (x.seq < 1) = false := decide_eq_false (by omega)
 have g3 : decide ((999 : Int) < x.seq) = false := decide_eq_false (by omega)
 clear hx hzb hsm hk hc hs hl
 have hb0 := (Below.refl w.heap.size w).alloc (Nat.le_refl _) (.cells #[i64 x.client, i64 x.seq, i64 6, .string x.acct, .string x.peer, i64 x.sum, .slice x.la x.legs.length x.lc, i64 x.period, i64 x.hold, .string x.note] 37)
 have hg := heap_alloc_new w (.cells #[i64 x.client, i64 x.seq, i64 6, .string x.acct, .string x.peer, i64 x.sum, .slice x.la x.legs.length x.lc, i64 x.period, i64 x.hold, .string x.note] 37)
 have hz : w.heap.size < (w.alloc (.cells #[i64 x.client, i64 x.seq, i64 6, .string x.acct, .string x.peer, i64 x.sum, .slice x.la x.legs.length x.lc, i64 x.period, i64 x.hold, .string x.note] 37)).heap.size := by simp
 have k0 := cell_of_row _ (w.heap.size) 0 _ _ (0, 0) hg
 have k1 := cell_of_row _ (w.heap.size) 1 _ _ (0, 0) hg
 have k2 := cell_of_row _ (w.heap.size) 2 _ _ (0, 0) hg
 have k3 := cell_of_row _ (w.heap.size) 3 _ _ (0, 0) hg
 have k4 := cell_of_row _ (w.heap.size) 4 _ _ (0, 0) hg
 have k5 := cell_of_row _ (w.heap.size) 5 _ _ (0, 0) hg
 have k6 := cell_of_row _ (w.heap.size) 6 _ _ (0, 0) hg
 have k7 := cell_of_row _ (w.heap.size) 7 _ _ (0, 0) hg
 have k8 := cell_of_row _ (w.heap.size) 8 _ _ (0, 0) hg
 have k9 := cell_of_row _ (w.heap.size) 9 _ _ (0, 0) hg
 simp only [List.getElem?_toArray, List.getElem?_cons_zero, List.getElem?_cons_succ] at k0 k1 k2 k3 k4 k5 k6 k7 k8 k9
 go_enter Tryz.func61, Tryz.ntmps61
 go_wp2_with fail
 generalize w.alloc (.cells #[i64 x.client, i64 x.seq, i64 6, .string x.acct, .string x.peer, i64 x.sum, .slice x.la x.legs.length x.lc, i64 x.period, i64 x.hold, .string x.note] 37) = W1 at *
 have hSS : ∀ V, Below W1.heap.size W1 V → (fun V : World => Below W1.heap.size W1 V ∧ V.cell? ⟨w.heap.size, 0, none⟩ = some (i64 x.client) ∧ V.cell? ⟨w.heap.size, 1, none⟩ = some (i64 x.seq) ∧ V.cell? ⟨w.heap.size, 2, none⟩ = some (i64 6) ∧ V.cell? ⟨w.heap.size, 3, none⟩ = some (.string x.acct) ∧ V.cell? ⟨w.heap.size, 4, none⟩ = some (.string x.peer) ∧ V.cell? ⟨w.heap.size, 5, none⟩ = some (i64 x.sum) ∧ V.cell? ⟨w.heap.size, 6, none⟩ = some (.slice x.la x.legs.length x.lc) ∧ V.cell? ⟨w.heap.size, 7, none⟩ = some (i64 x.period) ∧ V.cell? ⟨w.heap.size, 8, none⟩ = some (i64 x.hold) ∧ V.cell? ⟨w.heap.size, 9, none⟩ = some (.string x.note)) V := fun V h => ⟨h, (h.cell (p := ⟨w.heap.size, 0, none⟩) hz).trans k0, (h.cell (p := ⟨w.heap.size, 1, none⟩) hz).trans k1, (h.cell (p := ⟨w.heap.size, 2, none⟩) hz).trans k2, (h.cell (p := ⟨w.heap.size, 3, none⟩) hz).trans k3, (h.cell (p := ⟨w.heap.size, 4, none⟩) hz).trans k4, (h.cell (p := ⟨w.heap.size, 5, none⟩) hz).trans k5, (h.cell (p := ⟨w.heap.size, 6, none⟩) hz).trans k6, (h.cell (p := ⟨w.heap.size, 7, none⟩) hz).trans k7, (h.cell (p := ⟨w.heap.size, 8, none⟩) hz).trans k8, (h.cell (p := ⟨w.heap.size, 9, none⟩) hz).trans k9⟩
 have h0 := (Below.refl W1.heap.size W1).drew
 have hB1 := fun V (h : Below W1.heap.size W1 V) => below_on hb0 (Nat.le_refl _) h
 go_region_held3 (fun V : World => Below W1.heap.size W1 V ∧ V.cell? ⟨w.heap.size, 0, none⟩ = some (i64 x.client) ∧ V.cell? ⟨w.heap.size, 1, none⟩ = some (i64 x.seq) ∧ V.cell? ⟨w.heap.size, 2, none⟩ = some (i64 6) ∧ V.cell? ⟨w.heap.size, 3, none⟩ = some (.string x.acct) ∧ V.cell? ⟨w.heap.size, 4, none⟩ = some (.string x.peer) ∧ V.cell? ⟨w.heap.size, 5, none⟩ = some (i64 x.sum) ∧ V.cell? ⟨w.heap.size, 6, none⟩ = some (.slice x.la x.legs.length x.lc) ∧ V.cell? ⟨w.heap.size, 7, none⟩ = some (i64 x.period) ∧ V.cell? ⟨w.heap.size, 8, none⟩ = some (i64 x.hold) ∧ V.cell? ⟨w.heap.size, 9, none⟩ = some (.string x.note)) (first | exact hSS _ h0 | exact hSS _ (by assumption))
  (first
   | (go_at_call 112; with_reducible refine (hcB.out _).mono ?_; rintro e u1 ⟨rfl, hF⟩; have hb1 := below_on h0 (Nat.le_refl _) hF; clear hF)
   | (go_at_call 111; refine (hcS.out _ (hB1 _ hb1)).mono ?_; rintro e u2 ⟨rfl, hF⟩; have hb2 := below_on hb1 (Nat.le_refl _) hF; clear hF))
 have hbw := hB1 _ hb2
 have hz2 := Nat.lt_of_lt_of_le hz hb2.size
 have k0 := (hb2.cell (p := ⟨w.heap.size, 0, none⟩) hz).trans k0
 have k1 := (hb2.cell (p := ⟨w.heap.size, 1, none⟩) hz).trans k1
 have k2 := (hb2.cell (p := ⟨w.heap.size, 2, none⟩) hz).trans k2
 have k3 := (hb2.cell (p := ⟨w.heap.size, 3, none⟩) hz).trans k3
 have k4 := (hb2.cell (p := ⟨w.heap.size, 4, none⟩) hz).trans k4
 have k5 := (hb2.cell (p := ⟨w.heap.size, 5, none⟩) hz).trans k5
 have k6 := (hb2.cell (p := ⟨w.heap.size, 6, none⟩) hz).trans k6
 have k7 := (hb2.cell (p := ⟨w.heap.size, 7, none⟩) hz).trans k7
 have k8 := (hb2.cell (p := ⟨w.heap.size, 8, none⟩) hz).trans k8
 have k9 := (hb2.cell (p := ⟨w.heap.size, 9, none⟩) hz).trans k9
 clear hSS h0 hB1 hb1 hcB hcS hg hb0 g0 g1 g2 g3
 clear hz hb2
 cases sm
 ·go_wp2
  go_ret
  exact ⟨rfl, hbw⟩
 by_cases hp1 : x.period < 1
 ·have thp1 : decide (x.period < 1) = true := decide_eq_true hp1
  have hR := Lib.hid (show fits6 x = false by unfold fits6 periodB; rw [Bool.eq_iff_iff]; (try simp); (try omega))
  clear hN hP
  go_wp2
  go_ret
  exact ⟨by rw [hR.out]; rfl, hbw⟩
 have thp1 : decide (x.period < 1) = false := decide_eq_false hp1
 by_cases hp2 : 1000 < x.period
 ·have thp2 : decide ((1000 : Int) < x.period) = true := decide_eq_true hp2
  have hR := Lib.hid (show fits6 x = false by unfold fits6 periodB; rw [Bool.eq_iff_iff]; (try simp); (try omega))
  clear hN hP
  go_wp2
  go_ret
  exact ⟨by rw [hR.out]; rfl, hbw⟩
 have thp2 : decide ((1000 : Int) < x.period) = false := decide_eq_false hp2
 have hR := Lib.hid (show fits6 x = true by unfold fits6 periodB; rw [Bool.eq_iff_iff]; (try simp); (try omega))
 go_wp2
 go_ret
 exact ⟨by rw [hR.out]; rfl, hbw⟩
set_option maxRecDepth 100000 in
set_option maxHeartbeats 8000000 in
theorem rright_7 (x : Od) (w : World) (hx : Okb w w.heap.size x) (hl : x.legs.length ≤ 65536) (hk : x.kind = 7) (hc : 0 ≤ x.client ∧ x.client ≤ 9) (hs : 1 ≤ x.seq ∧ x.seq ≤ 999) :
  Calls Tryz.prog 61 #[x.v] w fun e w' => e = .returned (.bool (sameB x (dress x (bare7 x)) && nameB x.acct)) ∧ Below w.heap.size w w' := by
 have hzb : ∀ W, Below w.heap.size w W → Okb W W.heap.size (dress x (bare7 x)) := fun W h => by
  obtain ⟨a, b, c, d⟩ := Okb.later hx h
  exact ⟨a, Nat.zero_le _, Nat.zero_le _, SlS.nil_ _ _⟩
 have hcB := Lib.hid fun W => rbare7_c x hk W
 have hcS := Lib.hid fun W (h : Below w.heap.size w W) => rsame_c x (dress x (bare7 x)) W (Okb.later hx h) (hzb W h) hl (by show (0 : Nat) ≤ 65536; omega)
 have hN := Lib.hid fun W => rname_c x.acct hx.acct W
 have hP := Lib.hid fun W => rname_c x.peer hx.peer W
 have hLg := Lib.hid hx.legs
 have hlm : x.note.size ≤ 9223372036854775807 := Nat.le_trans hx.note (by decide)
 generalize hsm : sameB x (dress x (bare7 x)) = sm at *
 unfold Od.v at hcB hcS ⊢
 rw [hk] at hcB hcS ⊢
 have g0 : decide (x.client < 0) = false := decide_eq_false (by omega)
 have g1 : decide ((9 : Int) < x.client) = false := decide_eq_false (by omega)
 have g2 : decide (x.seq < 1) = false := decide_eq_false (by omega)
 have g3 : decide ((999 : Int) < x.seq) = false := decide_eq_false (by omega)
 clear hx hzb hsm hk hc hs hl
 have hb0 := (Below.refl w.heap.size w).alloc (Nat.le_refl _) (.cells #[i64 x.client, i64 x.seq, i64 7, .string x.acct, .string x.peer, i64 x.sum, .slice x.la x.legs.length x.lc, i64 x.period, i64 x.hold, .string x.note] 37)
 have hg := heap_alloc_new w (.cells #[i64 x.client, i64 x.seq, i64 7, .string x.acct, .string x.peer, i64 x.sum, .slice x.la x.legs.length x.lc, i64 x.period, i64 x.hold, .string x.note] 37)
 have hz : w.heap.size < (w.alloc (.cells #[i64 x.client, i64 x.seq, i64 7, .string x.acct, .string x.peer, i64 x.sum, .slice x.la x.legs.length x.lc, i64 x.period, i64 x.hold, .string x.note] 37)).heap.size := by simp
 have k0 := cell_of_row _ (w.heap.size) 0 _ _ (0, 0) hg
 have k1 := cell_of_row _ (w.heap.size) 1 _ _ (0, 0) hg
 have k2 := cell_of_row _ (w.heap.size) 2 _ _ (0, 0) hg
 have k3 := cell_of_row _ (w.heap.size) 3 _ _ (0, 0) hg
 have k4 := cell_of_row _ (w.heap.size) 4 _ _ (0, 0) hg
 have k5 := cell_of_row _ (w.heap.size) 5 _ _ (0, 0) hg
 have k6 := cell_of_row _ (w.heap.size) 6 _ _ (0, 0) hg
 have k7 := cell_of_row _ (w.heap.size) 7 _ _ (0, 0) hg
 have k8 := cell_of_row _ (w.heap.size) 8 _ _ (0, 0) hg
 have k9 := cell_of_row _ (w.heap.size) 9 _ _ (0, 0) hg
 simp only [List.getElem?_toArray, List.getElem?_cons_zero, List.getElem?_cons_succ] at k0 k1 k2 k3 k4 k5 k6 k7 k8 k9
 go_enter Tryz.func61, Tryz.ntmps61
 go_wp2_with fail
 generalize w.alloc (.cells #[i64 x.client, i64 x.seq, i64 7, .string x.acct, .string x.peer, i64 x.sum, .slice x.la x.legs.length x.lc, i64 x.period, i64 x.hold, .string x.note] 37) = W1 at *
 have hSS : ∀ V, Below W1.heap.size W1 V → (fun V : World => Below W1.heap.size W1 V ∧ V.cell? ⟨w.heap.size, 0, none⟩ = some (i64 x.client) ∧ V.cell? ⟨w.heap.size, 1, none⟩ = some (i64 x.seq) ∧ V.cell? ⟨w.heap.size, 2, none⟩ = some (i64 7) ∧ V.cell? ⟨w.heap.size, 3, none⟩ = some (.string x.acct) ∧ V.cell? ⟨w.heap.size, 4, none⟩ = some (.string x.peer) ∧ V.cell? ⟨w.heap.size, 5, none⟩ = some (i64 x.sum) ∧ V.cell? ⟨w.heap.size, 6, none⟩ = some (.slice x.la x.legs.length x.lc) ∧ V.cell? ⟨w.heap.size, 7, none⟩ = some (i64 x.period) ∧ V.cell? ⟨w.heap.size, 8, none⟩ = some (i64 x.hold) ∧ V.cell? ⟨w.heap.size, 9, none⟩ = some (.string x.note)) V := fun V h => ⟨h, (h.cell (p := ⟨w.heap.size, 0, none⟩) hz).trans k0, (h.cell (p := ⟨w.heap.size, 1, none⟩) hz).trans k1, (h.cell (p := ⟨w.heap.size, 2, none⟩) hz).trans k2, (h.cell (p := ⟨w.heap.size, 3, none⟩) hz).trans k3, (h.cell (p := ⟨w.heap.size, 4, none⟩) hz).trans k4, (h.cell (p := ⟨w.heap.size, 5, none⟩) hz).trans k5, (h.cell (p := ⟨w.heap.size, 6, none⟩) hz).trans k6, (h.cell (p := ⟨w.heap.size, 7, none⟩) hz).trans k7, (h.cell (p := ⟨w.heap.size, 8, none⟩) hz).trans k8, (h.cell (p := ⟨w.heap.size, 9, none⟩) hz).trans k9⟩
 have h0 := (Below.refl W1.heap.size W1).drew
 have hB1 := fun V (h : Below W1.heap.size W1 V) => below_on hb0 (Nat.le_refl _) h
 go_region_held3 (fun V : World => Below W1.heap.size W1 V ∧ V.cell? ⟨w.heap.size, 0, none⟩ = some (i64 x.client) ∧ V.cell? ⟨w.heap.size, 1, none⟩ = some (i64 x.seq) ∧ V.cell? ⟨w.heap.size, 2, none⟩ = some (i64 7) ∧ V.cell? ⟨w.heap.size, 3, none⟩ = some (.string x.acct) ∧ V.cell? ⟨w.heap.size, 4, none⟩ = some (.string x.peer) ∧ V.cell? ⟨w.heap.size, 5, none⟩ = some (i64 x.sum) ∧ V.cell? ⟨w.heap.size, 6, none⟩ = some (.slice x.la x.legs.length x.lc) ∧ V.cell? ⟨w.heap.size, 7, none⟩ = some (i64 x.period) ∧ V.cell? ⟨w.heap.size, 8, none⟩ = some (i64 x.hold) ∧ V.cell? ⟨w.heap.size, 9, none⟩ = some (.string x.note)) (first | exact hSS _ h0 | exact hSS _ (by assumption))
  (first
   | (go_at_call 112; with_reducible refine (hcB.out _).mono ?_; rintro e u1 ⟨rfl, hF⟩; have hb1 := below_on h0 (Nat.le_refl _) hF; clear hF)
   | (go_at_call 111; refine (hcS.out _ (hB1 _ hb1)).mono ?_; rintro e u2 ⟨rfl, hF⟩; have hb2 := below_on hb1 (Nat.le_refl _) hF; clear hF))
 have hbw := hB1 _ hb2
 have hz2 := Nat.lt_of_lt_of_le hz hb2.size
 have k0 := (hb2.cell (p := ⟨w.heap.size, 0, none⟩) hz).trans k0
 have k1 := (hb2.cell (p := ⟨w.heap.size, 1, none⟩) hz).trans k1
 have k2 := (hb2.cell (p := ⟨w.heap.size, 2, none⟩) hz).trans k2
 have k3 := (hb2.cell (p := ⟨w.heap.size, 3, none⟩) hz).trans k3
 have k4 := (hb2.cell (p := ⟨w.heap.size, 4, none⟩) hz).trans k4
 have k5 := (hb2.cell (p := ⟨w.heap.size, 5, none⟩) hz).trans k5
 have k6 := (hb2.cell (p := ⟨w.heap.size, 6, none⟩) hz).trans k6
 have k7 := (hb2.cell (p := ⟨w.heap.size, 7, none⟩) hz).trans k7
 have k8 := (hb2.cell (p := ⟨w.heap.size, 8, none⟩) hz).trans k8
 have k9 := (hb2.cell (p := ⟨w.heap.size, 9, none⟩) hz).trans k9
 clear hSS h0 hB1 hb1 hcB hcS hg hb0 g0 g1 g2 g3
 clear hz hb2
 cases sm
 ·go_wp2
  go_ret
  exact ⟨rfl, hbw⟩
 go_wp2_with fail
 refine (hN.out _).mono ?_
 rintro e u3 ⟨rfl, hF⟩
 have k0 := (hF.cell (World.block_lt_of_cell? _ _ k0)).trans k0
 have k1 := (hF.cell (World.block_lt_of_cell? _ _ k1)).trans k1
 have k2 := (hF.cell (World.block_lt_of_cell? _ _ k2)).trans k2
 have k3 := (hF.cell (World.block_lt_of_cell? _ _ k3)).trans k3
 have k4 := (hF.cell (World.block_lt_of_cell? _ _ k4)).trans k4
 have k5 := (hF.cell (World.block_lt_of_cell? _ _ k5)).trans k5
 have k6 := (hF.cell (World.block_lt_of_cell? _ _ k6)).trans k6
 have k7 := (hF.cell (World.block_lt_of_cell? _ _ k7)).trans k7
 have k8 := (hF.cell (World.block_lt_of_cell? _ _ k8)).trans k8
 have k9 := (hF.cell (World.block_lt_of_cell? _ _ k9)).trans k9
 have hbw := below_on hbw (Nat.le_refl _) hF
 clear hF
 cases hn : nameB x.acct
 ·skip
  have hR := Lib.hid (show nameB x.acct = false by rw [hn])
  clear hN hP
  go_wp2
  go_ret
  exact ⟨by rw [hR.out]; rfl, hbw⟩
 have hR := Lib.hid (show nameB x.acct = true by rw [hn])
 go_wp2
 go_ret
 exact ⟨by rw [hR.out]; rfl, hbw⟩
set_option maxRecDepth 100000 in
set_option maxHeartbeats 400000 in
theorem rright_c (x : Od) (w : World) (hx : Okb w w.heap.size x) (hl : x.legs.length ≤ 65536) :
  Calls Tryz.prog 61 #[x.v] w fun e w' => e = .returned (.bool (rightB x)) ∧ Below w.heap.size w w' := by
 by_cases h : (0 ≤ x.client ∧ x.client ≤ 9) ∧ (1 ≤ x.seq ∧ x.seq ≤ 999) ∧ 1 ≤ x.kind ∧ x.kind ≤ 7
 ·obtain ⟨hc, hs, h1, h7⟩ := h
  have hR : rightB x = (sameB x (dress x (bareO x)) && fitsO x) := by
   unfold rightB
   rw [decide_eq_true (show 1 ≤ x.kind ∧ x.kind ≤ 7 from ⟨h1, h7⟩), decide_eq_true hc.1, decide_eq_true hc.2, decide_eq_true hs.1, decide_eq_true hs.2]
   rfl
  rw [hR]
  by_cases h1' : x.kind = 1
  ·have e1 : bareO x = bare1 x := by unfold bareO; rw [if_pos h1']
   have e2 : fitsO x = fits1 x := by unfold fitsO; rw [if_pos h1']
   rw [e1, e2]
   exact rright_1 x w hx hl h1' hc hs
  by_cases h2' : x.kind = 2
  ·have e1 : bareO x = bare2 x := by unfold bareO; rw [if_neg h1', if_pos h2']
   have e2 : fitsO x = fits2 x := by unfold fitsO; rw [if_neg h1', if_pos h2']
   rw [e1, e2]
   exact rright_2 x w hx hl h2' hc hs
  by_cases h3' : x.kind = 3
  ·have e1 : bareO x = bare3 x := by unfold bareO; rw [if_neg h1', if_neg h2', if_pos h3']
   have e2 : fitsO x = fits3 x := by unfold fitsO; rw [if_neg h1', if_neg h2', if_pos h3']
   rw [e1, e2]
   exact rright_3 x w hx hl h3' hc hs
  by_cases h4' : x.kind = 4
  ·have e1 : bareO x = bare4 x := by unfold bareO; rw [if_neg h1', if_neg h2', if_neg h3', if_pos h4']
   have e2 : fitsO x = fits4 x := by unfold fitsO; rw [if_neg h1', if_neg h2', if_neg h3', if_pos h4']
   rw [e1, e2]
   exact rright_4 x w hx hl h4' hc hs
  by_cases h5' : x.kind = 5
  ·have e1 : bareO x = bare5 x := by unfold bareO; rw [if_neg h1', if_neg h2', if_neg h3', if_neg h4', if_pos h5']
   have e2 : fitsO x = fits5 x := by unfold fitsO; rw [if_neg h1', if_neg h2', if_neg h3', if_neg h4', if_pos h5']
   rw [e1, e2]
   exact rright_5 x w hx hl h5' hc hs
  by_cases h6' : x.kind = 6
  ·have e1 : bareO x = bare6 x := by unfold bareO; rw [if_neg h1', if_neg h2', if_neg h3', if_neg h4', if_neg h5', if_pos h6']
   have e2 : fitsO x = fits6 x := by unfold fitsO; rw [if_neg h1', if_neg h2', if_neg h3', if_neg h4', if_neg h5', if_pos h6']
   rw [e1, e2]
   exact rright_6 x w hx hl h6' hc hs
  have h7' : x.kind = 7 := by omega
  have e1 : bareO x = bare7 x := by unfold bareO; rw [if_neg h1', if_neg h2', if_neg h3', if_neg h4', if_neg h5', if_neg h6']
  have e2 : fitsO x = nameB x.acct := by unfold fitsO; rw [if_neg h1', if_neg h2', if_neg h3', if_neg h4', if_neg h5', if_neg h6']
  rw [e1, e2]
  exact rright_7 x w hx hl h7' hc hs
 ·rw [rightB_range h]
  exact rright_no x w h
end Go.Proofs.YtampniiehgimhaaGreat
