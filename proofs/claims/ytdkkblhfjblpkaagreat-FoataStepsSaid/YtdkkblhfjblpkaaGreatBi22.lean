/- Texts of this claim, laid together: RfRightB, RfLaw, RfNum, RfText. -/
import Derived.Test.YtdkkblhfjblpkaaGreatRows
import Derived.Test.YtdkkblhfjblpkaaGreatBi21
import Derived.WalkKit
import Derived.WalkSpells
import Derived.WalkLawsBesides
import Derived.Deep.QuietTactic
import Derived.BigQuiet
import Derived.Laws.StructEq
import Derived.Deep.DeepFit
import Derived.StillTailTactics
import Derived.Test.YtdkkblhfjblpkaaGreatBi14
import Derived.Deep.Cut
import Derived.Test.YtdkkblhfjblpkaaGreatBi11
import Derived.Test.YtdkkblhfjblpkaaGreatBi13
import Derived.Lib.AppendStr
import Derived.Deep.RegionHeld3

/- ref06.Right -/
namespace Go.Proofs.YtdkkblhfjblpkaaGreat
open Go.RowKit
set_option maxRecDepth 100000 in
set_option maxHeartbeats 8000000 in
theorem rright_4 (x : Od) (w : World) (hx : Okb w w.heap.size x) (hl : x.legs.length ≤ 65536) (hk : x.kind = 4) (hc : 0 ≤ x.client ∧ x.client ≤ 9) (hs : 1 ≤ x.seq ∧ x.seq ≤ 999) :
    Calls Tryz.prog 86 #[x.v] w fun e w' => e = .returned (.bool (sameB x (dress x (bare4 x)) && fits4 x)) ∧ Below w.heap.size w w' := by
  have hzb : ∀ W, Below w.heap.size w W → Okb W W.heap.size (dress x (bare4 x)) := fun W h => by
    obtain ⟨a, b, c, d⟩ := Okb.later hx h
    exact ⟨a, b, Nat.zero_le _, SlS.nil_ _ _⟩
  have hcB := Lib.hid fun W => rbare4_c x hk W
  have hcS := Lib.hid fun W (h : Below w.heap.size w W) => rsame_c x (dress x (bare4 x)) W (Okb.later hx h) (hzb W h) hl (by show (0 : Nat) ≤ 65536; omega)
  have hN := Lib.hid fun W => rname_c x.acct hx.acct W
  have hP := Lib.hid fun W => rname_c x.peer hx.peer W
  have hLg := Lib.hid hx.legs
  have hlm : x.note.size ≤ 9223372036854775807 := Nat.le_trans hx.note (by decide)
  generalize hsm : sameB x (dress x (bare4 x)) = sm at *
  unfold Od.v at hcB hcS ⊢
  rw [hk] at hcB hcS ⊢
  have g0 : decide (x.client < 0) = false := decide_eq_false (by omega)
  have g1 : decide ((9 : Int) < x.client) = false := decide_eq_false (by omega)
  have g2 : decide (x.seq < 1) = false := decide_eq_false (by omega)
  have g3 : decide ((999 : Int) < x.seq) = false := decide_eq_false (by omega)
  clear hx hzb hsm hk hc hs hl
  have hb0 := (Below.refl w.heap.size w).alloc (Nat.le_refl _) (.cells #[i64 x.client, i64 x.seq, i64 4, .string x.acct, .string x.peer, i64 x.sum, .slice x.la x.legs.length x.lc, i64 x.period, i64 x.hold, .string x.note] 50)
  have hg := heap_alloc_new w (.cells #[i64 x.client, i64 x.seq, i64 4, .string x.acct, .string x.peer, i64 x.sum, .slice x.la x.legs.length x.lc, i64 x.period, i64 x.hold, .string x.note] 50)
  have hz : w.heap.size < (w.alloc (.cells #[i64 x.client, i64 x.seq, i64 4, .string x.acct, .string x.peer, i64 x.sum, .slice x.la x.legs.length x.lc, i64 x.period, i64 x.hold, .string x.note] 50)).heap.size := by simp
  have k0 := cell_of_row _ (w.heap.size) 0 _ _ (0, 0) hg
  have k1 := cell_of_row _ (w.heap.size) 1 _ _ (0, 0) hg
  have k2 := cell_of_row _ (w.heap.size) 2 _ _ (0, 0) hg
  have k3 := cell_of_row _ (w.heap.size) 3 _ _ (0, 0) hg
  have k4 := cell_of_row _ (w.heap.size) 4 _ _ (0, 0) hg
  have k5 := cell_of_row _ (w.heap.size) 5 _ _ (0, 0) hg
  have k6 := cell_of_row _ (w.heap.size) 6 _ _ (0, 0) hg
  have k7 := cell_of_row _ (w.heap.size) 7 _ _ (0, 0) hg
  have k8 := cell_of_row _ (w.heap.size) 8 _ _ (0, 0) hg
  have k9 := cell_of_row _ (w.heap.size) 9 _ _ (0, 0) hg
  simp only [List.getElem?_toArray, List.getElem?_cons_zero, List.getElem?_cons_succ] at k0 k1 k2 k3 k4 k5 k6 k7 k8 k9
  go_enter Tryz.func86, Tryz.ntmps86
  go_wp2_with fail
  generalize w.alloc (.cells #[i64 x.client, i64 x.seq, i64 4, .string x.acct, .string x.peer, i64 x.sum, .slice x.la x.legs.length x.lc, i64 x.period, i64 x.hold, .string x.note] 50) = W1 at *
  have hSS : ∀ V, Below W1.heap.size W1 V → (fun V : World => Below W1.heap.size W1 V ∧ V.cell? ⟨w.heap.size, 0, none⟩ = some (i64 x.client) ∧ V.cell? ⟨w.heap.size, 1, none⟩ = some (i64 x.seq) ∧ V.cell? ⟨w.heap.size, 2, none⟩ = some (i64 4) ∧ V.cell? ⟨w.heap.size, 3, none⟩ = some (.string x.acct) ∧ V.cell? ⟨w.heap.size, 4, none⟩ = some (.string x.peer) ∧ V.cell? ⟨w.heap.size, 5, none⟩ = some (i64 x.sum) ∧ V.cell? ⟨w.heap.size, 6, none⟩ = some (.slice x.la x.legs.length x.lc) ∧ V.cell? ⟨w.heap.size, 7, none⟩ = some (i64 x.period) ∧ V.cell? ⟨w.heap.size, 8, none⟩ = some (i64 x.hold) ∧ V.cell? ⟨w.heap.size, 9, none⟩ = some (.string x.note)) V := fun V h => ⟨h, (h.cell (p := ⟨w.heap.size, 0, none⟩) hz).trans k0, (h.cell (p := ⟨w.heap.size, 1, none⟩) hz).trans k1, (h.cell (p := ⟨w.heap.size, 2, none⟩) hz).trans k2, (h.cell (p := ⟨w.heap.size, 3, none⟩) hz).trans k3, (h.cell (p := ⟨w.heap.size, 4, none⟩) hz).trans k4, (h.cell (p := ⟨w.heap.size, 5, none⟩) hz).trans k5, (h.cell (p := ⟨w.heap.size, 6, none⟩) hz).trans k6, (h.cell (p := ⟨w.heap.size, 7, none⟩) hz).trans k7, (h.cell (p := ⟨w.heap.size, 8, none⟩) hz).trans k8, (h.cell (p := ⟨w.heap.size, 9, none⟩) hz).trans k9⟩
  have h0 := (Below.refl W1.heap.size W1).drew
  have hB1 := fun V (h : Below W1.heap.size W1 V) => below_on hb0 (Nat.le_refl _) h
  go_region_held3 (fun V : World => Below W1.heap.size W1 V ∧ V.cell? ⟨w.heap.size, 0, none⟩ = some (i64 x.client) ∧ V.cell? ⟨w.heap.size, 1, none⟩ = some (i64 x.seq) ∧ V.cell? ⟨w.heap.size, 2, none⟩ = some (i64 4) ∧ V.cell? ⟨w.heap.size, 3, none⟩ = some (.string x.acct) ∧ V.cell? ⟨w.heap.size, 4, none⟩ = some (.string x.peer) ∧ V.cell? ⟨w.heap.size, 5, none⟩ = some (i64 x.sum) ∧ V.cell? ⟨w.heap.size, 6, none⟩ = some (.slice x.la x.legs.length x.lc) ∧ V.cell? ⟨w.heap.size, 7, none⟩ = some (i64 x.period) ∧ V.cell? ⟨w.heap.size, 8, none⟩ = some (i64 x.hold) ∧ V.cell? ⟨w.heap.size, 9, none⟩ = some (.string x.note)) (first | exact hSS _ h0 | exact hSS _ (by assumption))
    (first
      | (go_at_call 141; with_reducible refine (hcB.out _).mono ?_; rintro e u1 ⟨rfl, hF⟩; have hb1 := below_on h0 (Nat.le_refl _) hF; clear hF)
      | (go_at_call 73; refine (hcS.out _ (hB1 _ hb1)).mono ?_; rintro e u2 ⟨rfl, hF⟩; have hb2 := below_on hb1 (Nat.le_refl _) hF; clear hF))
  have hbw := hB1 _ hb2
  have hz2 := Nat.lt_of_lt_of_le hz hb2.size
  have k0 := (hb2.cell (p := ⟨w.heap.size, 0, none⟩) hz).trans k0
  have k1 := (hb2.cell (p := ⟨w.heap.size, 1, none⟩) hz).trans k1
  have k2 := (hb2.cell (p := ⟨w.heap.size, 2, none⟩) hz).trans k2
  have k3 := (hb2.cell (p := ⟨w.heap.size, 3, none⟩) hz).trans k3
  have k4 := (hb2.cell (p := ⟨w.heap.size, 4, none⟩) hz).trans k4
  have k5 := (hb2.cell (p := ⟨w.heap.size, 5, none⟩) hz).trans k5
  have k6 := (hb2.cell (p := ⟨w.heap.size, 6, none⟩) hz).trans k6
  have k7 := (hb2.cell (p := ⟨w.heap.size, 7, none⟩) hz).trans k7
  have k8 := (hb2.cell (p := ⟨w.heap.size, 8, none⟩) hz).trans k8
  have k9 := (hb2.cell (p := ⟨w.heap.size, 9, none⟩) hz).trans k9
  clear hSS h0 hB1 hb1 hcB hcS hg hb0 g0 g1 g2 g3
  clear hz hb2
  cases sm
  · go_wp2
    go_ret
    exact ⟨rfl, hbw⟩
  go_wp2_with fail
  refine (hN.out _).mono ?_
  rintro e u3 ⟨rfl, hF⟩
  have k0 := (hF.cell (World.block_lt_of_cell? _ _ k0)).trans k0
  have k1 := (hF.cell (World.block_lt_of_cell? _ _ k1)).trans k1
  have k2 := (hF.cell (World.block_lt_of_cell? _ _ k2)).trans k2
  have k3 := (hF.cell (World.block_lt_of_cell? _ _ k3)).trans k3
  have k4 := (hF.cell (World.block_lt_of_cell? _ _ k4)).trans k4
  have k5 := (hF.cell (World.block_lt_of_cell? _ _ k5)).trans k5
  have k6 := (hF.cell (World.block_lt_of_cell? _ _ k6)).trans k6
  have k7 := (hF.cell (World.block_lt_of_cell? _ _ k7)).trans k7
  have k8 := (hF.cell (World.block_lt_of_cell? _ _ k8)).trans k8
  have k9 := (hF.cell (World.block_lt_of_cell? _ _ k9)).trans k9
  have hbw := below_on hbw (Nat.le_refl _) hF
  clear hF
  cases hn : nameB x.acct
  · skip
    have hR := Lib.hid (show fits4 x = false by unfold fits4 periodB heldB; rw [hn]; rw [Bool.eq_iff_iff]; (try simp); (try omega))
    clear hN hP
    go_wp2
    go_ret
    exact ⟨by rw [hR.out]; rfl, hbw⟩
  by_cases hs : x.sum < 1
  · have t : decide (x.sum < 1) = true := decide_eq_true hs
    have hR := Lib.hid (show fits4 x = false by unfold fits4 periodB heldB; rw [hn]; rw [Bool.eq_iff_iff]; (try simp); (try omega))
    clear hN hP
    go_wp2
    go_ret
    exact ⟨by rw [hR.out]; rfl, hbw⟩
  have t : decide (x.sum < 1) = false := decide_eq_false hs
  by_cases hp1 : x.period < 1
  · have thp1 : decide (x.period < 1) = true := decide_eq_true hp1
    have hR := Lib.hid (show fits4 x = false by unfold fits4 periodB heldB; rw [hn]; rw [Bool.eq_iff_iff]; (try simp); (try omega))
    clear hN hP
    go_wp2
    go_ret
    exact ⟨by rw [hR.out]; rfl, hbw⟩
  have thp1 : decide (x.period < 1) = false := decide_eq_false hp1
  by_cases hp2 : 1000 < x.period
  · have thp2 : decide ((1000 : Int) < x.period) = true := decide_eq_true hp2
    have hR := Lib.hid (show fits4 x = false by unfold fits4 periodB heldB; rw [hn]; rw [Bool.eq_iff_iff]; (try simp); (try omega))
    clear hN hP
    go_wp2
    go_ret
    exact ⟨by rw [hR.out]; rfl, hbw⟩
  have thp2 : decide ((1000 : Int) < x.period) = false := decide_eq_false hp2
  by_cases hh1 : x.hold < 1
  · have thh1 : decide (x.hold < 1) = true := decide_eq_true hh1
    have hR := Lib.hid (show fits4 x = false by unfold fits4 periodB heldB; rw [hn]; rw [Bool.eq_iff_iff]; (try simp); (try omega))
    clear hN hP
    go_wp2
    go_ret
    exact ⟨by rw [hR.out]; rfl, hbw⟩
  have thh1 : decide (x.hold < 1) = false := decide_eq_false hh1
  by_cases hh2 : 9999 < x.hold
  · have thh2 : decide ((9999 : Int) < x.hold) = true := decide_eq_true hh2
    have hR := Lib.hid (show fits4 x = false by unfold fits4 periodB heldB; rw [hn]; rw [Bool.eq_iff_iff]; (try simp); (try omega))
    clear hN hP
    go_wp2
    go_ret
    exact ⟨by rw [hR.out]; rfl, hbw⟩
  have thh2 : decide ((9999 : Int) < x.hold) = false := decide_eq_false hh2
  go_wp2_with fail
  refine (hP.out _).mono ?_
  rintro e u4 ⟨rfl, hF⟩
  have k0 := (hF.cell (World.block_lt_of_cell? _ _ k0)).trans k0
  have k1 := (hF.cell (World.block_lt_of_cell? _ _ k1)).trans k1
  have k2 := (hF.cell (World.block_lt_of_cell? _ _ k2)).trans k2
  have k3 := (hF.cell (World.block_lt_of_cell? _ _ k3)).trans k3
  have k4 := (hF.cell (World.block_lt_of_cell? _ _ k4)).trans k4
  have k5 := (hF.cell (World.block_lt_of_cell? _ _ k5)).trans k5
  have k6 := (hF.cell (World.block_lt_of_cell? _ _ k6)).trans k6
  have k7 := (hF.cell (World.block_lt_of_cell? _ _ k7)).trans k7
  have k8 := (hF.cell (World.block_lt_of_cell? _ _ k8)).trans k8
  have k9 := (hF.cell (World.block_lt_of_cell? _ _ k9)).trans k9
  have hbw := below_on hbw (Nat.le_refl _) hF
  clear hF
  cases hn2 : nameB x.peer
  · skip
    have hR := Lib.hid (show fits4 x = false by unfold fits4 periodB heldB; rw [hn]; rw [hn2]; rw [Bool.eq_iff_iff]; (try simp); (try omega))
    clear hN hP
    go_wp2
    go_ret
    exact ⟨by rw [hR.out]; rfl, hbw⟩
  by_cases he : x.peer = x.acct
  · have te : (x.peer.toList == x.acct.toList) = true := beqS_of_eq he
    have hR := Lib.hid (show fits4 x = false by unfold fits4 periodB heldB; rw [hn]; rw [hn2]; rw [show (x.peer.toList != x.acct.toList) = false by rw [bne, te]; rfl]; rw [Bool.eq_iff_iff]; (try simp); (try omega))
    clear hN hP
    go_wp2
    go_ret
    exact ⟨by rw [hR.out]; rfl, hbw⟩
  have te : (x.peer.toList == x.acct.toList) = false := beqS_of_ne he
  have hR := Lib.hid (show fits4 x = true by unfold fits4 periodB heldB; rw [hn]; rw [hn2]; rw [show (x.peer.toList != x.acct.toList) = true by rw [bne, te]; rfl]; rw [Bool.eq_iff_iff]; (try simp); (try omega))
  go_wp2
  go_ret
  exact ⟨by rw [hR.out]; rfl, hbw⟩
set_option maxRecDepth 100000 in
set_option maxHeartbeats 8000000 in
theorem rright_5 (x : Od) (w : World) (hx : Okb w w.heap.size x) (hl : x.legs.length ≤ 65536) (hk : x.kind = 5) (hc : 0 ≤ x.client ∧ x.client ≤ 9) (hs : 1 ≤ x.seq ∧ x.seq ≤ 999) :
    Calls Tryz.prog 86 #[x.v] w fun e w' => e = .returned (.bool (sameB x (dress x (bare5 x)) && fits5 x)) ∧ Below w.heap.size w w' := by
  have hzb : ∀ W, Below w.heap.size w W → Okb W W.heap.size (dress x (bare5 x)) := fun W h => by
    obtain ⟨a, b, c, d⟩ := Okb.later hx h
    exact ⟨a, Nat.zero_le _, Nat.zero_le _, SlS.nil_ _ _⟩
  have hcB := Lib.hid fun W => rbare5_c x hk W
  have hcS := Lib.hid fun W (h : Below w.heap.size w W) => rsame_c x (dress x (bare5 x)) W (Okb.later hx h) (hzb W h) hl (by show (0 : Nat) ≤ 65536; omega)
  have hN := Lib.hid fun W => rname_c x.acct hx.acct W
  have hP := Lib.hid fun W => rname_c x.peer hx.peer W
  have hLg := Lib.hid hx.legs
  have hlm : x.note.size ≤ 9223372036854775807 := Nat.le_trans hx.note (by decide)
  generalize hsm : sameB x (dress x (bare5 x)) = sm at *
  unfold Od.v at hcB hcS ⊢
  rw [hk] at hcB hcS ⊢
  have g0 : decide (x.client < 0) = false := decide_eq_false (by omega)
  have g1 : decide ((9 : Int) < x.client) = false := decide_eq_false (by omega)
  have g2 : decide (x.seq < 1) = false := decide_eq_false (by omega)
  have g3 : decide ((999 : Int) < x.seq) = false := decide_eq_false (by omega)
  clear hx hzb hsm hk hc hs hl
  have hb0 := (Below.refl w.heap.size w).alloc (Nat.le_refl _) (.cells #[i64 x.client, i64 x.seq, i64 5, .string x.acct, .string x.peer, i64 x.sum, .slice x.la x.legs.length x.lc, i64 x.period, i64 x.hold, .string x.note] 50)
  have hg := heap_alloc_new w (.cells #[i64 x.client, i64 x.seq, i64 5, .string x.acct, .string x.peer, i64 x.sum, .slice x.la x.legs.length x.lc, i64 x.period, i64 x.hold, .string x.note] 50)
  have hz : w.heap.size < (w.alloc (.cells #[i64 x.client, i64 x.seq, i64 5, .string x.acct, .string x.peer, i64 x.sum, .slice x.la x.legs.length x.lc, i64 x.period, i64 x.hold, .string x.note] 50)).heap.size := by simp
  have k0 := cell_of_row _ (w.heap.size) 0 _ _ (0, 0) hg
  have k1 := cell_of_row _ (w.heap.size) 1 _ _ (0, 0) hg
  have k2 := cell_of_row _ (w.heap.size) 2 _ _ (0, 0) hg
  have k3 := cell_of_row _ (w.heap.size) 3 _ _ (0, 0) hg
  have k4 := cell_of_row _ (w.heap.size) 4 _ _ (0, 0) hg
  have k5 := cell_of_row _ (w.heap.size) 5 _ _ (0, 0) hg
  have k6 := cell_of_row _ (w.heap.size) 6 _ _ (0, 0) hg
  have k7 := cell_of_row _ (w.heap.size) 7 _ _ (0, 0) hg
  have k8 := cell_of_row _ (w.heap.size) 8 _ _ (0, 0) hg
  have k9 := cell_of_row _ (w.heap.size) 9 _ _ (0, 0) hg
  simp only [List.getElem?_toArray, List.getElem?_cons_zero, List.getElem?_cons_succ] at k0 k1 k2 k3 k4 k5 k6 k7 k8 k9
  go_enter Tryz.func86, Tryz.ntmps86
  go_wp2_with fail
  generalize w.alloc (.cells #[i64 x.client, i64 x.seq, i64 5, .string x.acct, .string x.peer, i64 x.sum, .slice x.la x.legs.length x.lc, i64 x.period, i64 x.hold, .string x.note] 50) = W1 at *
  have hSS : ∀ V, Below W1.heap.size W1 V → (fun V : World => Below W1.heap.size W1 V ∧ V.cell? ⟨w.heap.size, 0, none⟩ = some (i64 x.client) ∧ V.cell? ⟨w.heap.size, 1, none⟩ = some (i64 x.seq) ∧ V.cell? ⟨w.heap.size, 2, none⟩ = some (i64 5) ∧ V.cell? ⟨w.heap.size, 3, none⟩ = some (.string x.acct) ∧ V.cell? ⟨w.heap.size, 4, none⟩ = some (.string x.peer) ∧ V.cell? ⟨w.heap.size, 5, none⟩ = some (i64 x.sum) ∧ V.cell? ⟨w.heap.size, 6, none⟩ = some (.slice x.la x.legs.length x.lc) ∧ V.cell? ⟨w.heap.size, 7, none⟩ = some (i64 x.period) ∧ V.cell? ⟨w.heap.size, 8, none⟩ = some (i64 x.hold) ∧ V.cell? ⟨w.heap.size, 9, none⟩ = some (.string x.note)) V := fun V h => ⟨h, (h.cell (p := ⟨w.heap.size, 0, none⟩) hz).trans k0, (h.cell (p := ⟨w.heap.size, 1, none⟩) hz).trans k1, (h.cell (p := ⟨w.heap.size, 2, none⟩) hz).trans k2, (h.cell (p := ⟨w.heap.size, 3, none⟩) hz).trans k3, (h.cell (p := ⟨w.heap.size, 4, none⟩) hz).trans k4, (h.cell (p := ⟨w.heap.size, 5, none⟩) hz).trans k5, (h.cell (p := ⟨w.heap.size, 6, none⟩) hz).trans k6, (h.cell (p := ⟨w.heap.size, 7, none⟩) hz).trans k7, (h.cell (p := ⟨w.heap.size, 8, none⟩) hz).trans k8, (h.cell (p := ⟨w.heap.size, 9, none⟩) hz).trans k9⟩
  have h0 := (Below.refl W1.heap.size W1).drew
  have hB1 := fun V (h : Below W1.heap.size W1 V) => below_on hb0 (Nat.le_refl _) h
  go_region_held3 (fun V : World => Below W1.heap.size W1 V ∧ V.cell? ⟨w.heap.size, 0, none⟩ = some (i64 x.client) ∧ V.cell? ⟨w.heap.size, 1, none⟩ = some (i64 x.seq) ∧ V.cell? ⟨w.heap.size, 2, none⟩ = some (i64 5) ∧ V.cell? ⟨w.heap.size, 3, none⟩ = some (.string x.acct) ∧ V.cell? ⟨w.heap.size, 4, none⟩ = some (.string x.peer) ∧ V.cell? ⟨w.heap.size, 5, none⟩ = some (i64 x.sum) ∧ V.cell? ⟨w.heap.size, 6, none⟩ = some (.slice x.la x.legs.length x.lc) ∧ V.cell? ⟨w.heap.size, 7, none⟩ = some (i64 x.period) ∧ V.cell? ⟨w.heap.size, 8, none⟩ = some (i64 x.hold) ∧ V.cell? ⟨w.heap.size, 9, none⟩ = some (.string x.note)) (first | exact hSS _ h0 | exact hSS _ (by assumption))
    (first
      | (go_at_call 141; with_reducible refine (hcB.out _).mono ?_; rintro e u1 ⟨rfl, hF⟩; have hb1 := below_on h0 (Nat.le_refl _) hF; clear hF)
      | (go_at_call 73; refine (hcS.out _ (hB1 _ hb1)).mono ?_; rintro e u2 ⟨rfl, hF⟩; have hb2 := below_on hb1 (Nat.le_refl _) hF; clear hF))
  have hbw := hB1 _ hb2
  have hz2 := Nat.lt_of_lt_of_le hz hb2.size
  have k0 := (hb2.cell (p := ⟨w.heap.size, 0, none⟩) hz).trans k0
  have k1 := (hb2.cell (p := ⟨w.heap.size, 1, none⟩) hz).trans k1
  have k2 := (hb2.cell (p := ⟨w.heap.size, 2, none⟩) hz).trans k2
  have k3 := (hb2.cell (p := ⟨w.heap.size, 3, none⟩) hz).trans k3
  have k4 := (hb2.cell (p := ⟨w.heap.size, 4, none⟩) hz).trans k4
  have k5 := (hb2.cell (p := ⟨w.heap.size, 5, none⟩) hz).trans k5
  have k6 := (hb2.cell (p := ⟨w.heap.size, 6, none⟩) hz).trans k6
  have k7 := (hb2.cell (p := ⟨w.heap.size, 7, none⟩) hz).trans k7
  have k8 := (hb2.cell (p := ⟨w.heap.size, 8, none⟩) hz).trans k8
  have k9 := (hb2.cell (p := ⟨w.heap.size, 9, none⟩) hz).trans k9
  clear hSS h0 hB1 hb1 hcB hcS hg hb0 g0 g1 g2 g3
  clear hz hb2
  cases sm
  · go_wp2
    go_ret
    exact ⟨rfl, hbw⟩
  go_wp2_with fail
  refine (hN.out _).mono ?_
  rintro e u3 ⟨rfl, hF⟩
  have k0 := (hF.cell (World.block_lt_of_cell? _ _ k0)).trans k0
  have k1 := (hF.cell (World.block_lt_of_cell? _ _ k1)).trans k1
  have k2 := (hF.cell (World.block_lt_of_cell? _ _ k2)).trans k2
  have k3 := (hF.cell (World.block_lt_of_cell? _ _ k3)).trans k3
  have k4 := (hF.cell (World.block_lt_of_cell? _ _ k4)).trans k4
  have k5 := (hF.cell (World.block_lt_of_cell? _ _ k5)).trans k5
  have k6 := (hF.cell (World.block_lt_of_cell? _ _ k6)).trans k6
  have k7 := (hF.cell (World.block_lt_of_cell? _ _ k7)).trans k7
  have k8 := (hF.cell (World.block_lt_of_cell? _ _ k8)).trans k8
  have k9 := (hF.cell (World.block_lt_of_cell? _ _ k9)).trans k9
  have hbw := below_on hbw (Nat.le_refl _) hF
  clear hF
  cases hn : nameB x.acct
  · skip
    have hR := Lib.hid (show fits5 x = false by unfold fits5 heldB; rw [hn]; rw [Bool.eq_iff_iff]; (try simp); (try omega))
    clear hN hP
    go_wp2
    go_ret
    exact ⟨by rw [hR.out]; rfl, hbw⟩
  by_cases hh1 : x.hold < 1
  · have thh1 : decide (x.hold < 1) = true := decide_eq_true hh1
    have hR := Lib.hid (show fits5 x = false by unfold fits5 heldB; rw [hn]; rw [Bool.eq_iff_iff]; (try simp); (try omega))
    clear hN hP
    go_wp2
    go_ret
    exact ⟨by rw [hR.out]; rfl, hbw⟩
  have thh1 : decide (x.hold < 1) = false := decide_eq_false hh1
  by_cases hh2 : 9999 < x.hold
  · have thh2 : decide ((9999 : Int) < x.hold) = true := decide_eq_true hh2
    have hR := Lib.hid (show fits5 x = false by unfold fits5 heldB; rw [hn]; rw [Bool.eq_iff_iff]; (try simp); (try omega))
    clear hN hP
    go_wp2
    go_ret
    exact ⟨by rw [hR.out]; rfl, hbw⟩
  have thh2 : decide ((9999 : Int) < x.hold) = false := decide_eq_false hh2
  have hR := Lib.hid (show fits5 x = true by unfold fits5 heldB; rw [hn]; rw [Bool.eq_iff_iff]; (try simp); (try omega))
  go_wp2
  go_ret
  exact ⟨by rw [hR.out]; rfl, hbw⟩
set_option maxRecDepth 100000 in
set_option maxHeartbeats 8000000 in
theorem rright_6 (x : Od) (w : World) (hx : Okb w w.heap.size x) (hl : x.legs.length ≤ 65536) (hk : x.kind = 6) (hc : 0 ≤ x.client ∧ x.client ≤ 9) (hs : 1 ≤ x.seq ∧ x.seq ≤ 999) :
    Calls Tryz.prog 86 #[x.v] w fun e w' => e = .returned (.bool (sameB x (dress x (bare6 x)) && fits6 x)) ∧ Below w.heap.size w w' := by
  have hzb : ∀ W, Below w.heap.size w W → Okb W W.heap.size (dress x (bare6 x)) := fun W h => by
    obtain ⟨a, b, c, d⟩ := Okb.later hx h
    exact ⟨Nat.zero_le _, Nat.zero_le _, Nat.zero_le _, SlS.nil_ _ _⟩
  have hcB := Lib.hid fun W => rbare6_c x hk W
  have hcS := Lib.hid fun W (h : Below w.heap.size w W) => rsame_c x (dress x (bare6 x)) W (Okb.later hx h) (hzb W h) hl (by show (0 : Nat) ≤ 65536; omega)
  have hN := Lib.hid fun W => rname_c x.acct hx.acct W
  have hP := Lib.hid fun W => rname_c x.peer hx.peer W
  have hLg := Lib.hid hx.legs
  have hlm : x.note.size ≤ 9223372036854775807 := Nat.le_trans hx.note (by decide)
  generalize hsm : sameB x (dress x (bare6 x)) = sm at *
  unfold Od.v at hcB hcS ⊢
  rw [hk] at hcB hcS ⊢
  have g0 : decide (x.client < 0) = false := decide_eq_false (by omega)
  have g1 : decide ((9 : Int) < x.client) = false := decide_eq_false (by omega)
  have g2 : decide (x.seq < 1) = false := decide_eq_false (by omega)
  have g3 : decide ((999 : Int) < x.seq) = false := decide_eq_false (by omega)
  clear hx hzb hsm hk hc hs hl
  have hb0 := (Below.refl w.heap.size w).alloc (Nat.le_refl _) (.cells #[i64 x.client, i64 x.seq, i64 6, .string x.acct, .string x.peer, i64 x.sum, .slice x.la x.legs.length x.lc, i64 x.period, i64 x.hold, .string x.note] 50)
  have hg := heap_alloc_new w (.cells #[i64 x.client, i64 x.seq, i64 6, .string x.acct, .string x.peer, i64 x.sum, .slice x.la x.legs.length x.lc, i64 x.period, i64 x.hold, .string x.note] 50)
  have hz : w.heap.size < (w.alloc (.cells #[i64 x.client, i64 x.seq, i64 6, .string x.acct, .string x.peer, i64 x.sum, .slice x.la x.legs.length x.lc, i64 x.period, i64 x.hold, .string x.note] 50)).heap.size := by simp
  have k0 := cell_of_row _ (w.heap.size) 0 _ _ (0, 0) hg
  have k1 := cell_of_row _ (w.heap.size) 1 _ _ (0, 0) hg
  have k2 := cell_of_row _ (w.heap.size) 2 _ _ (0, 0) hg
  have k3 := cell_of_row _ (w.heap.size) 3 _ _ (0, 0) hg
  have k4 := cell_of_row _ (w.heap.size) 4 _ _ (0, 0) hg
  have k5 := cell_of_row _ (w.heap.size) 5 _ _ (0, 0) hg
  have k6 := cell_of_row _ (w.heap.size) 6 _ _ (0, 0) hg
  have k7 := cell_of_row _ (w.heap.size) 7 _ _ (0, 0) hg
  have k8 := cell_of_row _ (w.heap.size) 8 _ _ (0, 0) hg
  have k9 := cell_of_row _ (w.heap.size) 9 _ _ (0, 0) hg
  simp only [List.getElem?_toArray, List.getElem?_cons_zero, List.getElem?_cons_succ] at k0 k1 k2 k3 k4 k5 k6 k7 k8 k9
  go_enter Tryz.func86, Tryz.ntmps86
  go_wp2_with fail
  generalize w.alloc (.cells #[i64 x.client, i64 x.seq, i64 6, .string x.acct, .string x.peer, i64 x.sum, .slice x.la x.legs.length x.lc, i64 x.period, i64 x.hold, .string x.note] 50) = W1 at *
  have hSS : ∀ V, Below W1.heap.size W1 V → (fun V : World => Below W1.heap.size W1 V ∧ V.cell? ⟨w.heap.size, 0, none⟩ = some (i64 x.client) ∧ V.cell? ⟨w.heap.size, 1, none⟩ = some (i64 x.seq) ∧ V.cell? ⟨w.heap.size, 2, none⟩ = some (i64 6) ∧ V.cell? ⟨w.heap.size, 3, none⟩ = some (.string x.acct) ∧ V.cell? ⟨w.heap.size, 4, none⟩ = some (.string x.peer) ∧ V.cell? ⟨w.heap.size, 5, none⟩ = some (i64 x.sum) ∧ V.cell? ⟨w.heap.size, 6, none⟩ = some (.slice x.la x.legs.length x.lc) ∧ V.cell? ⟨w.heap.size, 7, none⟩ = some (i64 x.period) ∧ V.cell? ⟨w.heap.size, 8, none⟩ = some (i64 x.hold) ∧ V.cell? ⟨w.heap.size, 9, none⟩ = some (.string x.note)) V := fun V h => ⟨h, (h.cell (p := ⟨w.heap.size, 0, none⟩) hz).trans k0, (h.cell (p := ⟨w.heap.size, 1, none⟩) hz).trans k1, (h.cell (p := ⟨w.heap.size, 2, none⟩) hz).trans k2, (h.cell (p := ⟨w.heap.size, 3, none⟩) hz).trans k3, (h.cell (p := ⟨w.heap.size, 4, none⟩) hz).trans k4, (h.cell (p := ⟨w.heap.size, 5, none⟩) hz).trans k5, (h.cell (p := ⟨w.heap.size, 6, none⟩) hz).trans k6, (h.cell (p := ⟨w.heap.size, 7, none⟩) hz).trans k7, (h.cell (p := ⟨w.heap.size, 8, none⟩) hz).trans k8, (h.cell (p := ⟨w.heap.size, 9, none⟩) hz).trans k9⟩
  have h0 := (Below.refl W1.heap.size W1).drew
  have hB1 := fun V (h : Below W1.heap.size W1 V) => below_on hb0 (Nat.le_refl _) h
  go_region_held3 (fun V : World => Below W1.heap.size W1 V ∧ V.cell? ⟨w.heap.size, 0, none⟩ = some (i64 x.client) ∧ V.cell? ⟨w.heap.size, 1, none⟩ = some (i64 x.seq) ∧ V.cell? ⟨w.heap.size, 2, none⟩ = some (i64 6) ∧ V.cell? ⟨w.heap.size, 3, none⟩ = some (.string x.acct) ∧ V.cell? ⟨w.heap.size, 4, none⟩ = some (.string x.peer) ∧ V.cell? ⟨w.heap.size, 5, none⟩ = some (i64 x.sum) ∧ V.cell? ⟨w.heap.size, 6, none⟩ = some (.slice x.la x.legs.length x.lc) ∧ V.cell? ⟨w.heap.size, 7, none⟩ = some (i64 x.period) ∧ V.cell? ⟨w.heap.size, 8, none⟩ = some (i64 x.hold) ∧ V.cell? ⟨w.heap.size, 9, none⟩ = some (.string x.note)) (first | exact hSS _ h0 | exact hSS _ (by assumption))
    (first
      | (go_at_call 141; with_reducible refine (hcB.out _).mono ?_; rintro e u1 ⟨rfl, hF⟩; have hb1 := below_on h0 (Nat.le_refl _) hF; clear hF)
      | (go_at_call 73; refine (hcS.out _ (hB1 _ hb1)).mono ?_; rintro e u2 ⟨rfl, hF⟩; have hb2 := below_on hb1 (Nat.le_refl _) hF; clear hF))
  have hbw := hB1 _ hb2
  have hz2 := Nat.lt_of_lt_of_le hz hb2.size
  have k0 := (hb2.cell (p := ⟨w.heap.size, 0, none⟩) hz).trans k0
  have k1 := (hb2.cell (p := ⟨w.heap.size, 1, none⟩) hz).trans k1
  have k2 := (hb2.cell (p := ⟨w.heap.size, 2, none⟩) hz).trans k2
  have k3 := (hb2.cell (p := ⟨w.heap.size, 3, none⟩) hz).trans k3
  have k4 := (hb2.cell (p := ⟨w.heap.size, 4, none⟩) hz).trans k4
  have k5 := (hb2.cell (p := ⟨w.heap.size, 5, none⟩) hz).trans k5
  have k6 := (hb2.cell (p := ⟨w.heap.size, 6, none⟩) hz).trans k6
  have k7 := (hb2.cell (p := ⟨w.heap.size, 7, none⟩) hz).trans k7
  have k8 := (hb2.cell (p := ⟨w.heap.size, 8, none⟩) hz).trans k8
  have k9 := (hb2.cell (p := ⟨w.heap.size, 9, none⟩) hz).trans k9
  clear hSS h0 hB1 hb1 hcB hcS hg hb0 g0 g1 g2 g3
  clear hz hb2
  cases sm
  · go_wp2
    go_ret
    exact ⟨rfl, hbw⟩
  by_cases hp1 : x.period < 1
  · have thp1 : decide (x.period < 1) = true := decide_eq_true hp1
    have hR := Lib.hid (show fits6 x = false by unfold fits6 periodB; rw [Bool.eq_iff_iff]; (try simp); (try omega))
    clear hN hP
    go_wp2
    go_ret
    exact ⟨by rw [hR.out]; rfl, hbw⟩
  have thp1 : decide (x.period < 1) = false := decide_eq_false hp1
  by_cases hp2 : 1000 < x.period
  · have thp2 : decide ((1000 : Int) < x.period) = true := decide_eq_true hp2
    have hR := Lib.hid (show fits6 x = false by unfold fits6 periodB; rw [Bool.eq_iff_iff]; (try simp); (try omega))
    clear hN hP
    go_wp2
    go_ret
    exact ⟨by rw [hR.out]; rfl, hbw⟩
  have thp2 : decide ((1000 : Int) < x.period) = false := decide_eq_false hp2
  have hR := Lib.hid (show fits6 x = true by unfold fits6 periodB; rw [Bool.eq_iff_iff]; (try simp); (try omega))
  go_wp2
  go_ret
  exact ⟨by rw [hR.out]; rfl, hbw⟩
set_option maxRecDepth 100000 in
set_option maxHeartbeats 8000000 in
theorem rright_7 (x : Od) (w : World) (hx : Okb w w.heap.size x) (hl : x.legs.length ≤ 65536) (hk : x.kind = 7) (hc : 0 ≤ x.client ∧ x.client ≤ 9) (hs : 1 ≤ x.seq ∧ x.seq ≤ 999) :
    Calls Tryz.prog 86 #[x.v] w fun e w' => e = .returned (.bool (sameB x (dress x (bare7 x)) && nameB x.acct)) ∧ Below w.heap.size w w' := by
  have hzb : ∀ W, Below w.heap.size w W → Okb W W.heap.size (dress x (bare7 x)) := fun W h => by
    obtain ⟨a, b, c, d⟩ := Okb.later hx h
    exact ⟨a, Nat.zero_le _, Nat.zero_le _, SlS.nil_ _ _⟩
  have hcB := Lib.hid fun W => rbare7_c x hk W
  have hcS := Lib.hid fun W (h : Below w.heap.size w W) => rsame_c x (dress x (bare7 x)) W (Okb.later hx h) (hzb W h) hl (by show (0 : Nat) ≤ 65536; omega)
  have hN := Lib.hid fun W => rname_c x.acct hx.acct W
  have hP := Lib.hid fun W => rname_c x.peer hx.peer W
  have hLg := Lib.hid hx.legs
  have hlm : x.note.size ≤ 9223372036854775807 := Nat.le_trans hx.note (by decide)
  generalize hsm : sameB x (dress x (bare7 x)) = sm at *
  unfold Od.v at hcB hcS ⊢
  rw [hk] at hcB hcS ⊢
  have g0 : decide (x.client < 0) = false := decide_eq_false (by omega)
  have g1 : decide ((9 : Int) < x.client) = false := decide_eq_false (by omega)
  have g2 : decide (x.seq < 1) = false := decide_eq_false (by omega)
  have g3 : decide ((999 : Int) < x.seq) = false := decide_eq_false (by omega)
  clear hx hzb hsm hk hc hs hl
  have hb0 := (Below.refl w.heap.size w).alloc (Nat.le_refl _) (.cells #[i64 x.client, i64 x.seq, i64 7, .string x.acct, .string x.peer, i64 x.sum, .slice x.la x.legs.length x.lc, i64 x.period, i64 x.hold, .string x.note] 50)
  have hg := heap_alloc_new w (.cells #[i64 x.client, i64 x.seq, i64 7, .string x.acct, .string x.peer, i64 x.sum, .slice x.la x.legs.length x.lc, i64 x.period, i64 x.hold, .string x.note] 50)
  have hz : w.heap.size < (w.alloc (.cells #[i64 x.client, i64 x.seq, i64 7, .string x.acct, .string x.peer, i64 x.sum, .slice x.la x.legs.length x.lc, i64 x.period, i64 x.hold, .string x.note] 50)).heap.size := by simp
  have k0 := cell_of_row _ (w.heap.size) 0 _ _ (0, 0) hg
  have k1 := cell_of_row _ (w.heap.size) 1 _ _ (0, 0) hg
  have k2 := cell_of_row _ (w.heap.size) 2 _ _ (0, 0) hg
  have k3 := cell_of_row _ (w.heap.size) 3 _ _ (0, 0) hg
  have k4 := cell_of_row _ (w.heap.size) 4 _ _ (0, 0) hg
  have k5 := cell_of_row _ (w.heap.size) 5 _ _ (0, 0) hg
  have k6 := cell_of_row _ (w.heap.size) 6 _ _ (0, 0) hg
  have k7 := cell_of_row _ (w.heap.size) 7 _ _ (0, 0) hg
  have k8 := cell_of_row _ (w.heap.size) 8 _ _ (0, 0) hg
  have k9 := cell_of_row _ (w.heap.size) 9 _ _ (0, 0) hg
  simp only [List.getElem?_toArray, List.getElem?_cons_zero, List.getElem?_cons_succ] at k0 k1 k2 k3 k4 k5 k6 k7 k8 k9
  go_enter Tryz.func86, Tryz.ntmps86
  go_wp2_with fail
  generalize w.alloc (.cells #[i64 x.client, i64 x.seq, i64 7, .string x.acct, .string x.peer, i64 x.sum, .slice x.la x.legs.length x.lc, i64 x.period, i64 x.hold, .string x.note] 50) = W1 at *
  have hSS : ∀ V, Below W1.heap.size W1 V → (fun V : World => Below W1.heap.size W1 V ∧ V.cell? ⟨w.heap.size, 0, none⟩ = some (i64 x.client) ∧ V.cell? ⟨w.heap.size, 1, none⟩ = some (i64 x.seq) ∧ V.cell? ⟨w.heap.size, 2, none⟩ = some (i64 7) ∧ V.cell? ⟨w.heap.size, 3, none⟩ = some (.string x.acct) ∧ V.cell? ⟨w.heap.size, 4, none⟩ = some (.string x.peer) ∧ V.cell? ⟨w.heap.size, 5, none⟩ = some (i64 x.sum) ∧ V.cell? ⟨w.heap.size, 6, none⟩ = some (.slice x.la x.legs.length x.lc) ∧ V.cell? ⟨w.heap.size, 7, none⟩ = some (i64 x.period) ∧ V.cell? ⟨w.heap.size, 8, none⟩ = some (i64 x.hold) ∧ V.cell? ⟨w.heap.size, 9, none⟩ = some (.string x.note)) V := fun V h => ⟨h, (h.cell (p := ⟨w.heap.size, 0, none⟩) hz).trans k0, (h.cell (p := ⟨w.heap.size, 1, none⟩) hz).trans k1, (h.cell (p := ⟨w.heap.size, 2, none⟩) hz).trans k2, (h.cell (p := ⟨w.heap.size, 3, none⟩) hz).trans k3, (h.cell (p := ⟨w.heap.size, 4, none⟩) hz).trans k4, (h.cell (p := ⟨w.heap.size, 5, none⟩) hz).trans k5, (h.cell (p := ⟨w.heap.size, 6, none⟩) hz).trans k6, (h.cell (p := ⟨w.heap.size, 7, none⟩) hz).trans k7, (h.cell (p := ⟨w.heap.size, 8, none⟩) hz).trans k8, (h.cell (p := ⟨w.heap.size, 9, none⟩) hz).trans k9⟩
  have h0 := (Below.refl W1.heap.size W1).drew
  have hB1 := fun V (h : Below W1.heap.size W1 V) => below_on hb0 (Nat.le_refl _) h
  go_region_held3 (fun V : World => Below W1.heap.size W1 V ∧ V.cell? ⟨w.heap.size, 0, none⟩ = some (i64 x.client) ∧ V.cell? ⟨w.heap.size, 1, none⟩ = some (i64 x.seq) ∧ V.cell? ⟨w.heap.size, 2, none⟩ = some (i64 7) ∧ V.cell? ⟨w.heap.size, 3, none⟩ = some (.string x.acct) ∧ V.cell? ⟨w.heap.size, 4, none⟩ = some (.string x.peer) ∧ V.cell? ⟨w.heap.size, 5, none⟩ = some (i64 x.sum) ∧ V.cell? ⟨w.heap.size, 6, none⟩ = some (.slice x.la x.legs.length x.lc) ∧ V.cell? ⟨w.heap.size, 7, none⟩ = some (i64 x.period) ∧ V.cell? ⟨w.heap.size, 8, none⟩ = some (i64 x.hold) ∧ V.cell? ⟨w.heap.size, 9, none⟩ = some (.string x.note)) (first | exact hSS _ h0 | exact hSS _ (by assumption))
    (first
      | (go_at_call 141; with_reducible refine (hcB.out _).mono ?_; rintro e u1 ⟨rfl, hF⟩; have hb1 := below_on h0 (Nat.le_refl _) hF; clear hF)
      | (go_at_call 73; refine (hcS.out _ (hB1 _ hb1)).mono ?_; rintro e u2 ⟨rfl, hF⟩; have hb2 := below_on hb1 (Nat.le_refl _) hF; clear hF))
  have hbw := hB1 _ hb2
  have hz2 := Nat.lt_of_lt_of_le hz hb2.size
  have k0 := (hb2.cell (p := ⟨w.heap.size, 0, none⟩) hz).trans k0
  have k1 := (hb2.cell (p := ⟨w.heap.size, 1, none⟩) hz).trans k1
  have k2 := (hb2.cell (p := ⟨w.heap.size, 2, none⟩) hz).trans k2
  have k3 := (hb2.cell (p := ⟨w.heap.size, 3, none⟩) hz).trans k3
  have k4 := (hb2.cell (p := ⟨w.heap.size, 4, none⟩) hz).trans k4
  have k5 := (hb2.cell (p := ⟨w.heap.size, 5, none⟩) hz).trans k5
  have k6 := (hb2.cell (p := ⟨w.heap.size, 6, none⟩) hz).trans k6
  have k7 := (hb2.cell (p := ⟨w.heap.size, 7, none⟩) hz).trans k7
  have k8 := (hb2.cell (p := ⟨w.heap.size, 8, none⟩) hz).trans k8
  have k9 := (hb2.cell (p := ⟨w.heap.size, 9, none⟩) hz).trans k9
  clear hSS h0 hB1 hb1 hcB hcS hg hb0 g0 g1 g2 g3
  clear hz hb2
  cases sm
  · go_wp2
    go_ret
    exact ⟨rfl, hbw⟩
  go_wp2_with fail
  refine (hN.out _).mono ?_
  rintro e u3 ⟨rfl, hF⟩
  have k0 := (hF.cell (World.block_lt_of_cell? _ _ k0)).trans k0
  have k1 := (hF.cell (World.block_lt_of_cell? _ _ k1)).trans k1
  have k2 := (hF.cell (World.block_lt_of_cell? _ _ k2)).trans k2
  have k3 := (hF.cell (World.block_lt_of_cell? _ _ k3)).trans k3
  have k4 := (hF.cell (World.block_lt_of_cell? _ _ k4)).trans k4
  have k5 := (hF.cell (World.block_lt_of_cell? _ _ k5)).trans k5
  have k6 := (hF.cell (World.block_lt_of_cell? _ _ k6)).trans k6
  have k7 := (hF.cell (World.block_lt_of_cell? _ _ k7)).trans k7
  have k8 := (hF.cell (World.block_lt_of_cell? _ _ k8)).trans k8
  have k9 := (hF.cell (World.block_lt_of_cell? _ _ k9)).trans k9
  have hbw := below_on hbw (Nat.le_refl _) hF
  clear hF
  cases hn : nameB x.acct
  · skip
    have hR := Lib.hid (show nameB x.acct = false by rw [hn])
    clear hN hP
    go_wp2
    go_ret
    exact ⟨by rw [hR.out]; rfl, hbw⟩
  have hR := Lib.hid (show nameB x.acct = true by rw [hn])
  go_wp2
  go_ret
  exact ⟨by rw [hR.out]; rfl, hbw⟩
set_option maxRecDepth 100000 in
set_option maxHeartbeats 400000 in
theorem rright_c (x : Od) (w : World) (hx : Okb w w.heap.size x) (hl : x.legs.length ≤ 65536) :
    Calls Tryz.prog 86 #[x.v] w fun e w' => e = .returned (.bool (rightB x)) ∧ Below w.heap.size w w' := by
  by_cases h : (0 ≤ x.client ∧ x.client ≤ 9) ∧ (1 ≤ x.seq ∧ x.seq ≤ 999) ∧ 1 ≤ x.kind ∧ x.kind ≤ 7
  · obtain ⟨hc, hs, h1, h7⟩ := h
    have hR : rightB x = (sameB x (dress x (bareO x)) && fitsO x) := by
      unfold rightB
      rw [decide_eq_true (show 1 ≤ x.kind ∧ x.kind ≤ 7 from ⟨h1, h7⟩), decide_eq_true hc.1, decide_eq_true hc.2, decide_eq_true hs.1, decide_eq_true hs.2]
      rfl
    rw [hR]
    by_cases h1' : x.kind = 1
    · have e1 : bareO x = bare1 x := by unfold bareO; rw [if_pos h1']
      have e2 : fitsO x = fits1 x := by unfold fitsO; rw [if_pos h1']
      rw [e1, e2]
      exact rright_1 x w hx hl h1' hc hs
    by_cases h2' : x.kind = 2
    · have e1 : bareO x = bare2 x := by unfold bareO; rw [if_neg h1', if_pos h2']
      have e2 : fitsO x = fits2 x := by unfold fitsO; rw [if_neg h1', if_pos h2']
      rw [e1, e2]
      exact rright_2 x w hx hl h2' hc hs
    by_cases h3' : x.kind = 3
    · have e1 : bareO x = bare3 x := by unfold bareO; rw [if_neg h1', if_neg h2', if_pos h3']
      have e2 : fitsO x = fits3 x := by unfold fitsO; rw [if_neg h1', if_neg h2', if_pos h3']
      rw [e1, e2]
      exact rright_3 x w hx hl h3' hc hs
    by_cases h4' : x.kind = 4
    · have e1 : bareO x = bare4 x := by unfold bareO; rw [if_neg h1', if_neg h2', if_neg h3', if_pos h4']
      have e2 : fitsO x = fits4 x := by unfold fitsO; rw [if_neg h1', if_neg h2', if_neg h3', if_pos h4']
      rw [e1, e2]
      exact rright_4 x w hx hl h4' hc hs
    by_cases h5' : x.kind = 5
    · have e1 : bareO x = bare5 x := by unfold bareO; rw [if_neg h1', if_neg h2', if_neg h3', if_neg h4', if_pos h5']
      have e2 : fitsO x = fits5 x := by unfold fitsO; rw [if_neg h1', if_neg h2', if_neg h3', if_neg h4', if_pos h5']
      rw [e1, e2]
      exact rright_5 x w hx hl h5' hc hs
    by_cases h6' : x.kind = 6
    · have e1 : bareO x = bare6 x := by unfold bareO; rw [if_neg h1', if_neg h2', if_neg h3', if_neg h4', if_neg h5', if_pos h6']
      have e2 : fitsO x = fits6 x := by unfold fitsO; rw [if_neg h1', if_neg h2', if_neg h3', if_neg h4', if_neg h5', if_pos h6']
      rw [e1, e2]
      exact rright_6 x w hx hl h6' hc hs
    have h7' : x.kind = 7 := by omega
    have e1 : bareO x = bare7 x := by unfold bareO; rw [if_neg h1', if_neg h2', if_neg h3', if_neg h4', if_neg h5', if_neg h6']
    have e2 : fitsO x = nameB x.acct := by unfold fitsO; rw [if_neg h1', if_neg h2', if_neg h3', if_neg h4', if_neg h5', if_neg h6']
    rw [e1, e2]
    exact rright_7 x w hx hl h7' hc hs
  · rw [rightB_range h]
    exact rright_no x w h
end Go.Proofs.YtdkkblhfjblpkaaGreat

/- what the reference's Num reads is what pack.Reader.Num reads -/
namespace Go.Proofs.YtdkkblhfjblpkaaGreat
open Go.RowKit
/-- what a number's bytes spell, seven bits each -/
def val7 : List UInt8 → Nat
  | [] => 0
  | b :: t => b.toNat % 128 + 128 * val7 t
theorem uvR_torn : ∀ (l : List UInt8) (i acc : Nat), i + l.length ≤ 10 → (∀ b ∈ l, 128 ≤ b.toNat) → uvR i acc l = .error 4
  | [], _, _, _, _ => by simp [uvR]
  | b :: t, i, acc, hl, h => by
    have hb := h b (by simp)
    simp only [List.length_cons] at hl
    rw [uvR]
    by_cases hi : i = 10 ∨ (i = 9 ∧ 1 < b.toNat)
    · rw [if_pos hi]
      have ht : t = [] := List.length_eq_zero_iff.1 (by omega)
      rw [if_pos ⟨ht, hb, by omega⟩]
    · rw [if_neg hi, if_neg (by omega), if_neg (by omega)]
      exact uvR_torn t (i + 1) _ (by omega) fun c hc => h c (by simp [hc])
theorem uvR_over : ∀ (l : List UInt8) (i acc : Nat), i ≤ 9 → 10 < i + l.length → (∀ (j : Nat) (hj : j < l.length), j < 10 - i → 128 ≤ l[j].toNat) → uvR i acc l = .error 3
  | [], _, _, h, hl, _ => absurd hl (by simp; omega)
  | b :: t, i, acc, h9, hl, h => by
    have hb : 128 ≤ b.toNat := h 0 (by simp) (by omega)
    simp only [List.length_cons] at hl
    rw [uvR]
    by_cases hi : i = 10 ∨ (i = 9 ∧ 1 < b.toNat)
    · rw [if_pos hi, if_neg]
      rintro ⟨ht, _⟩
      rw [ht] at hl
      simp at hl
      omega
    · rw [if_neg hi, if_neg (by omega), if_neg (by omega)]
      exact uvR_over t (i + 1) _ (by omega) (by omega) fun j hj hk => h (j + 1) (by simp; omega) (by omega)
theorem uvR_ended : ∀ (l : List UInt8) (i acc n : Nat) (hn : n < l.length), i + n ≤ 9 → (∀ (j : Nat) (hj : j < n), 128 ≤ l[j].toNat) → l[n].toNat < 128 → ∀ {e : Int}, uvR i acc l = .error e → e = 3
  | [], _, _, _, hn, _, _, _, _, _ => absurd hn (by simp)
  | b :: t, i, acc, 0, hn, hi, _, hb, e, he => by
    have hb : b.toNat < 128 := hb
    rw [uvR] at he
    by_cases h1 : i = 10 ∨ (i = 9 ∧ 1 < b.toNat)
    · rw [if_pos h1, if_neg (by omega)] at he
      simp only [Except.error.injEq] at he
      exact he.symm
    · rw [if_neg h1] at he
      by_cases h2 : b.toNat = 0 ∧ 0 < i
      · rw [if_pos h2] at he
        simp only [Except.error.injEq] at he
        exact he.symm
      · rw [if_neg h2, if_pos hb] at he
        simp at he
  | b :: t, i, acc, n + 1, hn, hi, h, hb, e, he => by
    have h0 : 128 ≤ b.toNat := h 0 (by omega)
    simp only [List.length_cons] at hn
    rw [uvR, if_neg (by omega), if_neg (by omega), if_neg (by omega)] at he
    exact uvR_ended t (i + 1) _ n (by omega) (by omega) (fun j hj => h (j + 1) (by omega)) hb he
theorem uvarint_ends (f : Nat) : ∀ m < f, (∀ (j : Nat) (hj : j + 1 < (Lib.uvarint m).length), 128 ≤ (Lib.uvarint m)[j].toNat) ∧ ∃ h : 0 < (Lib.uvarint m).length, ((Lib.uvarint m)[(Lib.uvarint m).length - 1]'(by omega)).toNat < 128 := by
  induction f with
  | zero => intro m h; omega
  | succ f ih =>
    intro m hm
    by_cases hs : m < 128
    · have e := Lib.uvarint_small hs
      have hb : (m.toUInt8).toNat = m := Lib.toUInt8_toNat (by omega)
      refine ⟨fun j hj => ?_, ?_⟩
      · rw [e] at hj; simp at hj
      · refine ⟨by rw [e]; simp, ?_⟩
        simp only [e, List.length_singleton, Nat.sub_self, List.getElem_cons_zero, hb]
        exact hs
    · have e := Lib.uvarint_big (x := m) (by omega)
      obtain ⟨a, h0, b⟩ := ih (m / 128) (by omega)
      have hb : ((m % 128 + 128).toUInt8).toNat = m % 128 + 128 := Lib.toUInt8_toNat (by omega)
      refine ⟨fun j hj => ?_, ?_⟩
      · simp only [e, List.length_cons] at hj ⊢
        cases j with
        | zero => simp only [List.getElem_cons_zero, hb]; omega
        | succ j => simp only [List.getElem_cons_succ]; exact a j (by omega)
      · refine ⟨by rw [e]; simp, ?_⟩
        simp only [e, List.length_cons, Nat.add_sub_cancel]
        have e2 : (Lib.uvarint (m / 128)).length = ((Lib.uvarint (m / 128)).length - 1) + 1 := by omega
        simp only [List.getElem_cons]
        rw [dif_neg (by omega)]
        exact b
theorem val7_uvarint (f : Nat) : ∀ m < f, val7 (Lib.uvarint m) = m := by
  induction f with
  | zero => intro m h; omega
  | succ f ih =>
    intro m hm
    by_cases hs : m < 128
    · rw [Lib.uvarint_small hs, val7, val7, Lib.toUInt8_toNat (by omega)]
      omega
    · rw [Lib.uvarint_big (by omega), val7, ih (m / 128) (by omega), Lib.toUInt8_toNat (by omega)]
      omega
/-- the reference's Num at bytes of which n go on and the next one ends -/
theorem rf_num {l : List UInt8} {n : Nat} (hn : n < l.length) (h9 : n < 10) (hc : ∀ (j : Nat) (hj : j < n), 128 ≤ l[j].toNat) (he : l[n].toNat < 128) :
    numRd 0 l = if numB (Lib.unzigzag (val7 (l.take (n + 1)) % 18446744073709551616)) = l.take (n + 1) then ((Lib.unzigzag (val7 (l.take (n + 1)) % 18446744073709551616), 0), (0, l.drop (n + 1))) else ((0, 3), (3, [])) := by
  have enc : ∀ m, numB (Lib.unzigzag m) = Lib.uvarint m := fun m => by unfold numB; rw [unzig_zig]
  rw [enc]
  generalize hm : val7 (l.take (n + 1)) % 18446744073709551616 = m
  have hm2 : m < 18446744073709551616 := by rw [← hm]; exact Nat.mod_lt _ (by decide)
  by_cases h : Lib.uvarint m = l.take (n + 1)
  · rw [if_pos h]
    have h1 := uvR_enc (m + 1) m 0 0 (l.drop (n + 1)) (Nat.lt_succ_self _) (by decide) hm2 (fun h => absurd h (by decide))
    rw [h, List.take_append_drop] at h1
    rw [numRd_ok h1]
    simp only [Nat.zero_add, Nat.mul_zero, Nat.pow_zero, Nat.mul_one]
  · rw [if_neg h]
    cases hu : uvR 0 0 l with
    | error e =>
      rw [numRd_bad hu, uvR_ended l 0 0 n hn (by omega) hc he hu]
    | ok p =>
      exfalso
      obtain ⟨M, t⟩ := p
      obtain ⟨k, hl, hM, hk, _⟩ := uvR_dec l 0 0 M t (by decide) hu
      have hk2 : k < 18446744073709551616 := hk
      obtain ⟨a, h0, b⟩ := uvarint_ends (k + 1) k (Nat.lt_succ_self _)
      have hlen : (Lib.uvarint k).length = n + 1 := by
        rcases Nat.lt_trichotomy (Lib.uvarint k).length (n + 1) with h1 | h1 | h1
        · exfalso
          have h2 := hc ((Lib.uvarint k).length - 1) (by omega)
          simp only [hl] at h2
          rw [List.getElem_append_left (by omega)] at h2
          omega
        · exact h1
        · exfalso
          have h2 := a n h1
          simp only [hl] at he
          rw [List.getElem_append_left (by omega)] at he
          omega
      have ht : l.take (n + 1) = Lib.uvarint k := by
        rw [hl, ← hlen, List.take_left']
        rfl
      rw [ht, val7_uvarint (k + 1) k (Nat.lt_succ_self _), Nat.mod_eq_of_lt hk2] at hm
      exact h (by rw [ht, hm])
theorem rf_torn {l : List UInt8} (hl : l.length ≤ 10) (h : ∀ b ∈ l, 128 ≤ b.toNat) : numRd 0 l = ((0, 4), (4, [])) := numRd_bad (uvR_torn l 0 0 (by omega) h)
theorem rf_over {l : List UInt8} (hl : 10 < l.length) (h : ∀ (j : Nat) (hj : j < l.length), j < 10 → 128 ≤ l[j].toNat) : numRd 0 l = ((0, 3), (3, [])) := numRd_bad (uvR_over l 0 0 (by omega) (by omega) fun j hj hk => h j hj (by omega))
theorem val7_app (a : List UInt8) (b : UInt8) : val7 (b :: a) = val7 a * 128 + b.toNat % 128 := by rw [val7]; omega
end Go.Proofs.YtdkkblhfjblpkaaGreat

/- the reference's Num -/
namespace Go.Proofs.YtdkkblhfjblpkaaGreat
open Go.RowKit
theorem zig0 {n : Int} (h0 : 0 ≤ n) (h1 : n ≤ 9223372036854775807) : IntKind.u64.wrap (IntKind.u64.wrap n * 2) = ((Lib.zigzag n : Nat) : Int) := by
  unfold Lib.zigzag
  rw [if_pos h0, IntKind.wrap_u64, IntKind.wrap_u64]
  omega
theorem zig1 {n : Int} (h0 : n < 0) (h1 : -9223372036854775808 ≤ n) : IntKind.u64.wrap (IntKind.u64.wrap (IntKind.u64.wrap (IntKind.i64.wrap (-1 - n)) * 2) + 1) = ((Lib.zigzag n : Nat) : Int) := by
  unfold Lib.zigzag
  rw [if_neg (by omega), IntKind.wrap_u64, IntKind.wrap_u64, IntKind.wrap_u64, IntKind.wrap_i64]
  omega
set_option maxRecDepth 100000 in
set_option maxHeartbeats 1000000 in
theorem rnum2_c (n : Int) (w : World) (h0 : -9223372036854775808 ≤ n) (h1 : n ≤ 9223372036854775807) :
    Calls Tryz.prog 63 #[.int .i64 n] w fun e w' => ∃ v, e = .returned v ∧ Own w' w.heap.size 5 v (numB n) ∧ Below w.heap.size w w' := by
  have hz := Lib.zigzag_lt h0 h1
  have Z0 := Lib.hid fun h => zig0 (n := n) h h1
  have Z1 := Lib.hid fun h => zig1 (n := n) h h0
  unfold numB
  generalize Lib.zigzag n = z at *
  clear h0 h1
  go_enter Tryz.func63, Tryz.ntmps63
  go_upto_if 9 with fail
  go_cut [3] from 5 (fun s3 wx => s3 = .int .u64 (z : Int) ∧ w = wx)
  case first =>
    by_cases hn : n < 0
    · have g1 : decide (n < 0) = true := decide_eq_true hn
      have e := Z1.out hn
      rw [IntWalk.i64_left] at e
      have E := Lib.hid e
      rw [g1]
      clear e hn Z0 Z1
      go_wp2
      go_meet
      exact ⟨by rw [← E.out], rfl⟩
    · have g1 : decide (n < 0) = false := decide_eq_false hn
      have E := Lib.hid (Z0.out (by omega))
      rw [g1]
      clear hn Z0 Z1
      go_wp2
      go_meet
      exact ⟨by rw [← E.out], rfl⟩
  case rest =>
  obtain ⟨rfl, rfl⟩ := hcut
  clear Z0 Z1
  go_wp2_with fail
  go_loopw [4, 3] (fun v i wr => ∃ (m : Nat) (pre : List UInt8), i = .int .u64 (m : Int) ∧ m < 18446744073709551616 ∧ pre.length + (Lib.uvarint m).length ≤ 10 ∧ pre ++ Lib.uvarint m = Lib.uvarint z ∧ Own wr w.heap.size 5 v pre ∧ Below w.heap.size w wr) (fun _ i _ => (intOf i).toNat)
  case atStart => exact ⟨z, [], rfl, hz, by simpa using uvarint_le hz, rfl, Own.nil_ _ _ _, Below.refl _ _⟩
  case round =>
    obtain ⟨m, pre, rfl, hm, hl, he, hO, hb⟩ := hrel
    by_cases hbig : 128 ≤ m
    · have g1 : decide ((128 : Int) ≤ (m : Int)) = true := decide_eq_true (by omega)
      rw [Lib.uvarint_big hbig] at he hl
      obtain ⟨y, hy⟩ : ∃ y : UInt8, y = (m % 128 + 128).toUInt8 := ⟨_, rfl⟩
      have hyn : y.toNat = m % 128 + 128 := by rw [hy, Lib.toUInt8_toNat (by omega)]
      rw [← hy] at he hl
      have g2 : (m : Int) % 128 + 128 = ((y.toNat : Nat) : Int) := by omega
      have He := Lib.hid he
      have Hl := Lib.hid hl
      have HB := (Below.refl wr.heap.size wr).alloc (Nat.le_refl _) (.cells #[.int .u8 y.toNat] 5)
      have HO2 := Lib.hid (hO.later HB)
      have HH := Lib.hid (heap_alloc_new wr (.cells #[.int .u8 y.toNat] 5))
      have Hne := Lib.hid (hO.new_ne (Nat.le_refl wr.heap.size))
      have hb3 := below_on hb (Nat.le_refl _) HB
      clear he hl hy hyn hO HB
      go_wp2_with (at_builtin; refine wpList_append_one rfl (some 23) (.tmp 17) (.tmp 22) 25 rfl rfl (.int .u8 0) 1 Tryz.underlying25 inf_byte rfl (by decide) (by decide) rfl HO2.out wr.heap.size y rfl _ 5 HH.out rfl Hne.out trivial (by have := Hl.out; simp only [List.length_cons] at this; omega) hb3.size ?_; intro v3 w3 hO3 hg3 hat3)
      go_roundw
      case rel => exact ⟨m / 128, pre ++ [y], by go_num, by omega, by have := Hl.out; simp only [List.length_append, List.length_cons, List.length_nil] at this ⊢; omega, by rw [List.append_assoc]; exact He.out, hO3, hb3.trans (HO2.out.below hg3 (Nat.le_refl _) hb3.size)⟩
      case measure => simp [intOf]; omega
    · have g1 : decide ((128 : Int) ≤ (m : Int)) = false := decide_eq_false (by omega)
      rw [Lib.uvarint_small (by omega)] at he hl
      obtain ⟨y, hy⟩ : ∃ y : UInt8, y = m.toUInt8 := ⟨_, rfl⟩
      have hyn : y.toNat = m := by rw [hy, Lib.toUInt8_toNat (by omega)]
      have hcs := Lib.hid (show [Value.int .u8 (m : Int)] = [Value.int .u8 ((y.toNat : Nat) : Int)] by rw [hyn])
      rw [← hy] at he hl
      have He := Lib.hid he
      have Hl := Lib.hid hl
      have HB := (Below.refl wr.heap.size wr).alloc (Nat.le_refl _) (.cells #[.int .u8 (m : Int)] 5)
      have HO2 := Lib.hid (hO.later HB)
      have HH := Lib.hid (heap_alloc_new wr (.cells #[.int .u8 (m : Int)] 5))
      have Hne := Lib.hid (hO.new_ne (Nat.le_refl wr.heap.size))
      have hb3 := below_on hb (Nat.le_refl _) HB
      clear he hl hy hyn hO HB
      go_wp2_with (at_builtin; refine wpList_append_one rfl (some 30) (.tmp 26) (.tmp 29) 25 rfl rfl (.int .u8 0) 1 Tryz.underlying25 inf_byte rfl (by decide) (by decide) rfl HO2.out wr.heap.size y rfl _ 5 HH.out hcs.out Hne.out trivial (by have := Hl.out; simp only [List.length_cons] at this; omega) hb3.size ?_; intro v3 w3 hO3 hg3 hat3)
      go_ret
      exact ⟨_, rfl, by rw [← He.out]; exact hO3, hb3.trans (HO2.out.below hg3 (Nat.le_refl _) hb3.size)⟩
end Go.Proofs.YtdkkblhfjblpkaaGreat

/- ref02.Text, ref06.num, ref06.Told -/
namespace Go.Proofs.YtdkkblhfjblpkaaGreat
open Go.RowKit
theorem strCells_flat (s : ByteArray) : Lib.strCells s = s.data.toList.flatMap (Enc.cells (α := UInt8)) := by
  have e : ∀ l : List UInt8, l.flatMap (Enc.cells (α := UInt8)) = l.map fun b => Value.int .u8 b.toNat := fun l => by
    induction l with
    | nil => rfl
    | cons x r ih => rw [List.flatMap_cons, List.map_cons, ih]; rfl
  rw [e]
  unfold Lib.strCells
  rfl
theorem u8_info : ∃ i, Tryz.prog.info? 5 = some i ∧ i.zero = some (.int .u8 0) ∧ i.size = 1 ∧ i.bytes = 1 := by
  obtain ⟨i, hi, hz, h1, h2⟩ := info_parts inf_byte
  exact ⟨i, hi, hz, h1, h2⟩
set_option maxRecDepth 100000 in
set_option maxHeartbeats 2000000 in
theorem rtext2_c (s : ByteArray) (w : World) (hs : s.size ≤ 60000) :
    Calls Tryz.prog 65 #[.string s] w fun e w' => ∃ v, e = .returned v ∧ Own w' w.heap.size 5 v (textB s) ∧ Below w.heap.size w w' := by
  have hN := Lib.hid (rnum2_c s.size w (by omega) (by omega))
  have hnl : (numB s.size).length ≤ 10 := uvarint_le (Lib.zigzag_lt (by omega) (by omega))
  obtain ⟨i, hi, hz, hi1, hi2⟩ := u8_info
  have hsl : s.data.toList.length = s.size := by simp
  unfold textB
  generalize numB s.size = nb at hN hnl ⊢
  go_enter Tryz.func65, Tryz.ntmps65
  go_wp2_with fail
  refine hN.out.mono ?_
  rintro e w1 ⟨v, rfl, hO, hb⟩
  have HO := Lib.hid hO.1
  have Hv := Lib.hid (fun g hg => hO.1.lt g hg)
  go_wp2_with (at_builtin; refine Lib.wpList_append_own_string _ rfl (.tmp 5) (.tmp 6) 25 9 rfl w.heap.size 5 i Tryz.underlying25 Tryz.underlying9 hi hz hi1 hi2 _ nb.length _ rfl HO.out s rfl (by simp only [maxLen]; omega) (by omega) hb.size ?_; intro v3 w3 hO3 hg3 hat3)
  go_ret
  refine ⟨_, rfl, ⟨?_, fun _ _ => trivial⟩, hb.trans (below_of_grown hg3 hb.size (fun g hg => (Hv.out g hg).1))⟩
  rw [List.flatMap_append, List.length_append, hsl, ← strCells_flat]
  exact hO3
set_option maxRecDepth 100000 in
set_option maxHeartbeats 400000 in
theorem rnum6_c (n : Int) (w : World) (h0 : -9223372036854775808 ≤ n) (h1 : n ≤ 9223372036854775807) :
    Calls Tryz.prog 118 #[.int .i64 n] w fun e w' => ∃ v, e = .returned v ∧ Own w' w.heap.size 5 v (numB n) ∧ Below w.heap.size w w' := by
  have H := Lib.hid (rnum2_c n w h0 h1)
  clear h0 h1
  go_enter Tryz.func118, Tryz.ntmps118
  go_wp2_with fail
  refine H.out.mono ?_
  rintro e w1 ⟨v, rfl, hO, hb⟩
  go_wp2
  go_ret
  exact ⟨_, rfl, hO, hb⟩
end Go.Proofs.YtdkkblhfjblpkaaGreat
