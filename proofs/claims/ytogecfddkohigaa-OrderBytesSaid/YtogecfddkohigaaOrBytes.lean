/- OrderBytes -/
import Derived.Test.YtogecfddkohigaaRows
import Derived.Test.YtogecfddkohigaaRfBytes
import Derived.Test.YtogecfddkohigaaRTouch
import Derived.Test.YtogecfddkohigaaRTouchP
import Derived.Test.YtogecfddkohigaaMore
import Derived.Test.YtogecfddkohigaaOrdC
import Derived.Test.YtogecfddkohigaaCodec
import Derived.Test.YtogecfddkohigaaBytesW
import Derived.Deep.RegionHeld3
import Derived.Deep.Cut
import Derived.WalkKit
import Derived.WalkSpells
import Derived.WalkLawsBesides
import Derived.Deep.QuietTactic
import Derived.BigQuiet
import Derived.Laws.StructEq
import Derived.Deep.DeepFit
import Derived.StillTailTactics
namespace Go.Proofs.Ytogecfddkohigaa
open Go.RowKit
set_option maxRecDepth 100000 in
set_option maxHeartbeats 4000000 in
theorem sametexts_c (A B : Option Addr) (c d : Nat) (l m : List ByteArray) (w : World) (h : Sl w w.heap.size A c l) (k : Sl w w.heap.size B d m) :
    Calls Try.prog 45 #[.slice A l.length c, .slice B m.length d] w fun e w' => e = .returned (.bool (decide (l = m))) ∧ Below w.heap.size w w' := by
  have hlm : l.length ≤ 9223372036854775807 := h.len_le
  have hmm : m.length ≤ 9223372036854775807 := k.len_le
  by_cases hn : l.length = m.length
  · have t1 : ((l.length : Int) != (m.length : Int)) = false := by rw [hn]; simp
    go_enter Try.func45, Try.ntmps45
    have Hn := Lib.hid hn
    clear hn
    go_wp2_with fail
    go_loopw [5] (fun i wr => ∃ n : Nat, i = i64 n ∧ n ≤ l.length ∧ (∀ q, q < n → l[q]? = m[q]?) ∧ Below w.heap.size w wr) (fun i _ => l.length - (intOf i).toNat)
    case atStart => exact ⟨0, rfl, by omega, fun q hq => absurd hq (by omega), Below.refl _ _⟩
    case round =>
      obtain ⟨n, rfl, hnl, hq, hB⟩ := hrel
      have Hq := Lib.hid hq
      clear hq
      by_cases hlt : n < l.length
      · have hlt2 : n < m.length := by have := Hn.out; omega
        obtain ⟨b1, o1, rfl, -, -, d1⟩ := h.str hlt
        obtain ⟨b2, o2, rfl, -, -, d2⟩ := k.str hlt2
        have d1 := (hB.cell (World.block_lt_of_cell? _ _ d1)).trans d1
        have d2 := (hB.cell (World.block_lt_of_cell? _ _ d2)).trans d2
        have i0 : (0 : Int) ≤ (n : Int) := by omega
        have i1 : (n : Int) < (l.length : Int) := by omega
        have i2 : (n : Int) < (m.length : Int) := by omega
        by_cases he : l[n] = m[n]
        · have te : (l[n].toList != m[n].toList) = false := by rw [bne, beqS_of_eq he]; rfl
          have te2 : (l[n].toList == m[n].toList) = true := beqS_of_eq he
          have He := Lib.hid he
          clear he
          go_wp2_with fail
          go_quiet (fail)
          go_wp2
          go_roundw
          case rel => exact ⟨n + 1, by go_num, by omega, fun q hq => by
            rcases Nat.lt_succ_iff_lt_or_eq.1 hq with h1 | rfl
            · exact Hq.out q h1
            · rw [List.getElem?_eq_getElem hlt, List.getElem?_eq_getElem hlt2, He.out], below_drewN hB _⟩
          case measure => simp [intOf]; omega
        · have te : (l[n].toList != m[n].toList) = true := by rw [bne, beqS_of_ne he]; rfl
          have te2 : (l[n].toList == m[n].toList) = false := beqS_of_ne he
          have hR := Lib.hid (show decide (l = m) = false from decide_eq_false (fun h => he (by subst h; rfl)))
          clear he
          go_wp2_with fail
          go_quiet (fail)
          go_wp2
          go_ret
          exact ⟨by rw [hR.out]; rfl, below_drewN hB _⟩
      · obtain rfl : n = l.length := by omega
        have hR := Lib.hid (show decide (l = m) = true from decide_eq_true (List.ext_getElem? fun q => by
          rcases Nat.lt_or_ge q l.length with h1 | h1
          · exact Hq.out q h1
          · rw [List.getElem?_eq_none h1, List.getElem?_eq_none (by have := Hn.out; omega)]))
        clear Hq
        go_wp2
        go_ret
        exact ⟨by rw [hR.out]; rfl, hB⟩
  · have t1 : ((l.length : Int) != (m.length : Int)) = true := by rw [bne_iff_ne]; omega
    have hR := Lib.hid (show decide (l = m) = false from decide_eq_false (fun h => hn (by rw [h])))
    clear hn
    go_enter Try.func45, Try.ntmps45
    go_wp2
    go_ret
    exact ⟨by rw [hR.out]; rfl, Below.refl _ _⟩
set_option maxRecDepth 100000 in
set_option maxHeartbeats 8000000 in
theorem orBytes_c (a : Od) (r : Rp) (w : World) (ha : Okb w w.heap.size a) (har : InR a) (hr : InP r) :
    Calls Try.prog 9 #[a.v, r.v] w fun e w' => e = .returned (.bool true) ∧ Below w.heap.size w w' := by
  have hA := heap_alloc_new w (.cells #[i64 a.client, i64 a.seq, i64 a.kind, .string a.acct, .string a.peer, i64 a.sum, .slice a.la a.legs.length a.lc, i64 a.period, i64 a.hold, .string a.note] 30)
  have hB := heap_alloc_new (w.alloc (.cells #[i64 a.client, i64 a.seq, i64 a.kind, .string a.acct, .string a.peer, i64 a.sum, .slice a.la a.legs.length a.lc, i64 a.period, i64 a.hold, .string a.note] 30)) (.cells #[i64 r.err, i64 r.hav, i64 r.set_, i64 r.num] 49)
  rw [show (w.alloc (.cells #[i64 a.client, i64 a.seq, i64 a.kind, .string a.acct, .string a.peer, i64 a.sum, .slice a.la a.legs.length a.lc, i64 a.period, i64 a.hold, .string a.note] 30)).heap.size = w.heap.size + 1 by simp] at hB
  replace hA := (((Below.refl (w.alloc (.cells #[i64 a.client, i64 a.seq, i64 a.kind, .string a.acct, .string a.peer, i64 a.sum, .slice a.la a.legs.length a.lc, i64 a.period, i64 a.hold, .string a.note] 30)).heap.size (w.alloc (.cells #[i64 a.client, i64 a.seq, i64 a.kind, .string a.acct, .string a.peer, i64 a.sum, .slice a.la a.legs.length a.lc, i64 a.period, i64 a.hold, .string a.note] 30))).alloc (Nat.le_refl _) (.cells #[i64 r.err, i64 r.hav, i64 r.set_, i64 r.num] 49)).block w.heap.size (by simp)).trans hA
  have hbw := ((Below.refl w.heap.size w).alloc (Nat.le_refl _) (.cells #[i64 a.client, i64 a.seq, i64 a.kind, .string a.acct, .string a.peer, i64 a.sum, .slice a.la a.legs.length a.lc, i64 a.period, i64 a.hold, .string a.note] 30)).alloc (by simp) (.cells #[i64 r.err, i64 r.hav, i64 r.set_, i64 r.num] 49)
  have fA := Lib.hid fun W h => few6_c a W (Okb.later ha h)
  unfold Od.v at fA ⊢
  unfold Rp.v
  have hx := cut10_ok ha
  have hxr := cut10_in har
  have hxl := cut10_legs a
  generalize cut10 a = x at *
  go_enter Try.func9, Try.ntmps9
  go_wp2_with fail
  generalize (w.alloc (.cells #[i64 a.client, i64 a.seq, i64 a.kind, .string a.acct, .string a.peer, i64 a.sum, .slice a.la a.legs.length a.lc, i64 a.period, i64 a.hold, .string a.note] 30)).alloc (.cells #[i64 r.err, i64 r.hav, i64 r.set_, i64 r.num] 49) = w0 at *
  refine (lives_06 _).mono ?_
  rintro e w1 ⟨rfl, hF⟩
  replace hA := (hF.block _ (Array.getElem?_eq_some_iff.1 hA).1).trans hA
  replace hB := (hF.block _ (Array.getElem?_eq_some_iff.1 hB).1).trans hB
  replace hbw := below_on hbw (Nat.le_refl _) hF
  clear hF
  have k0 := cell_of_row _ (w.heap.size) 0 _ _ (0, 0) hA
  have k1 := cell_of_row _ (w.heap.size) 1 _ _ (0, 0) hA
  have k2 := cell_of_row _ (w.heap.size) 2 _ _ (0, 0) hA
  have k3 := cell_of_row _ (w.heap.size) 3 _ _ (0, 0) hA
  have k4 := cell_of_row _ (w.heap.size) 4 _ _ (0, 0) hA
  have k5 := cell_of_row _ (w.heap.size) 5 _ _ (0, 0) hA
  have k6 := cell_of_row _ (w.heap.size) 6 _ _ (0, 0) hA
  have k7 := cell_of_row _ (w.heap.size) 7 _ _ (0, 0) hA
  have k8 := cell_of_row _ (w.heap.size) 8 _ _ (0, 0) hA
  have k9 := cell_of_row _ (w.heap.size) 9 _ _ (0, 0) hA
  simp only [List.getElem?_toArray, List.getElem?_cons_zero, List.getElem?_cons_succ] at k0 k1 k2 k3 k4 k5 k6 k7 k8 k9
  go_wp2_with fail
  clear k0 k1 k2 k3 k4 k5 k6 k7 k8 k9
  refine (fA.out _ hbw).mono ?_
  rintro e w2 ⟨rfl, hF⟩
  replace hA := (hF.block _ (Array.getElem?_eq_some_iff.1 hA).1).trans hA
  replace hB := (hF.block _ (Array.getElem?_eq_some_iff.1 hB).1).trans hB
  replace hbw := below_on hbw (Nat.le_refl _) hF
  have hrow := setRow_heap w2 w.heap.size _ #[i64 x.client, i64 x.seq, i64 x.kind, .string x.acct, .string x.peer, i64 x.sum, .slice x.la x.legs.length x.lc, i64 x.period, i64 x.hold, .string x.note] _ _ hA
  have hB3 := (setRow_other w2 w.heap.size (w.heap.size + 1) #[i64 x.client, i64 x.seq, i64 x.kind, .string x.acct, .string x.peer, i64 x.sum, .slice x.la x.legs.length x.lc, i64 x.period, i64 x.hold, .string x.note] (by omega)).trans hB
  have hb3 := hbw.trans (⟨rfl, rfl, rfl, by simp, fun k hk => setRow_other _ _ _ _ (by omega)⟩ : Below w.heap.size w2 (w2.setRow w.heap.size #[i64 x.client, i64 x.seq, i64 x.kind, .string x.acct, .string x.peer, i64 x.sum, .slice x.la x.legs.length x.lc, i64 x.period, i64 x.hold, .string x.note]))
  generalize hW3 : w2.setRow w.heap.size #[i64 x.client, i64 x.seq, i64 x.kind, .string x.acct, .string x.peer, i64 x.sum, .slice x.la x.legs.length x.lc, i64 x.period, i64 x.hold, .string x.note] = W3 at *
  have HW3 := Lib.hid hW3
  have HRes := Lib.hid hA
  clear hF fA hbw hA hW3 hB
  have k0 := cell_of_row _ (w.heap.size) 0 _ _ (0, 0) hrow
  have k1 := cell_of_row _ (w.heap.size) 1 _ _ (0, 0) hrow
  have k2 := cell_of_row _ (w.heap.size) 2 _ _ (0, 0) hrow
  have k3 := cell_of_row _ (w.heap.size) 3 _ _ (0, 0) hrow
  have k4 := cell_of_row _ (w.heap.size) 4 _ _ (0, 0) hrow
  have k5 := cell_of_row _ (w.heap.size) 5 _ _ (0, 0) hrow
  have k6 := cell_of_row _ (w.heap.size) 6 _ _ (0, 0) hrow
  have k7 := cell_of_row _ (w.heap.size) 7 _ _ (0, 0) hrow
  have k8 := cell_of_row _ (w.heap.size) 8 _ _ (0, 0) hrow
  have k9 := cell_of_row _ (w.heap.size) 9 _ _ (0, 0) hrow
  simp only [List.getElem?_toArray, List.getElem?_cons_zero, List.getElem?_cons_succ] at k0 k1 k2 k3 k4 k5 k6 k7 k8 k9
  have oX := fun W (h : Below w.heap.size w W) => Okb.later hx h
  have B1 := Lib.hid fun W (h : Below w.heap.size w W) => bytes_c x W (oX W h) (by omega) hxr
  have B2 := Lib.hid fun W (h : Below w.heap.size w W) => rbytes_c x W (oX W h) (by omega) hxr
  have R1 := Lib.hid fun W (h : Below w.heap.size w W) => right_c0 x W (oX W h) (by omega)
  have R2 := Lib.hid fun W (h : Below w.heap.size w W) => rright_c x W (oX W h) (by omega)
  have T1 := Lib.hid fun W (h : Below w.heap.size w W) => touches_c x W (oX W h) hxl
  have T2 := Lib.hid fun W (h : Below w.heap.size w W) => rtouches_c x W (oX W h) hxl
  have D1 := Lib.hid fun W => told_c r W hr
  have D2 := Lib.hid fun W => rtold_c r W hr
  unfold Od.v at B1 B2 R1 R2 T1 T2
  unfold Rp.v at D1 D2
  clear oX hx ha har hr hxr hxl
  generalize rightB x = rx at *
  generalize touches x = tx at *
  generalize toldB r = dr at *
  obtain ⟨ex, hex⟩ : ∃ ex : Int, (if rx then (0 : Int) else 1) = ex := ⟨_, rfl⟩
  obtain ⟨lx, hlx⟩ : ∃ lx : List UInt8, (if rx then bytesB x else []) = lx := ⟨_, rfl⟩
  rw [hex, hlx] at B1 B2
  clear hex hlx
  have Hrow := Lib.hid hrow
  clear hrow
  go_wp2_with (refine wpList_store_row rfl 30 (.tmp 2) (.tmp 12) rfl w.heap.size #[i64 x.client, i64 x.seq, i64 x.kind, .string x.acct, .string x.peer, i64 x.sum, .slice x.la x.legs.length x.lc, i64 x.period, i64 x.hold, .string x.note] rfl rfl 30 #[i64 a.client, i64 a.seq, i64 a.kind, .string a.acct, .string a.peer, i64 a.sum, .slice a.la a.legs.length a.lc, i64 a.period, i64 a.hold, .string a.note] HRes.out (by kernel_rfl) rfl (by simp [Value.oneCell']) ?_; rw [HW3.out])
  clear HRes HW3 k0 k1 k2 k3 k4 k5 k6 k7 k8 k9
  have hX := Hrow.out
  have hY := hB3
  clear Hrow hB3
  refine (B1.out _ hb3).mono ?_
  rintro e w4 ⟨v, rfl, hO, hF⟩
  obtain ⟨A1, c1, rfl, hs1⟩ := hO.sl
  replace hX := (hF.block _ (Array.getElem?_eq_some_iff.1 hX).1).trans hX
  replace hY := (hF.block _ (Array.getElem?_eq_some_iff.1 hY).1).trans hY
  replace hb3 := below_on hb3 (Nat.le_refl _) hF
  clear hF hO B1
  have k0 := cell_of_row _ (w.heap.size) 0 _ _ (0, 0) hX
  have k1 := cell_of_row _ (w.heap.size) 1 _ _ (0, 0) hX
  have k2 := cell_of_row _ (w.heap.size) 2 _ _ (0, 0) hX
  have k3 := cell_of_row _ (w.heap.size) 3 _ _ (0, 0) hX
  have k4 := cell_of_row _ (w.heap.size) 4 _ _ (0, 0) hX
  have k5 := cell_of_row _ (w.heap.size) 5 _ _ (0, 0) hX
  have k6 := cell_of_row _ (w.heap.size) 6 _ _ (0, 0) hX
  have k7 := cell_of_row _ (w.heap.size) 7 _ _ (0, 0) hX
  have k8 := cell_of_row _ (w.heap.size) 8 _ _ (0, 0) hX
  have k9 := cell_of_row _ (w.heap.size) 9 _ _ (0, 0) hX
  simp only [List.getElem?_toArray, List.getElem?_cons_zero, List.getElem?_cons_succ] at k0 k1 k2 k3 k4 k5 k6 k7 k8 k9
  go_wp2_with fail
  clear k0 k1 k2 k3 k4 k5 k6 k7 k8 k9
  refine (B2.out _ hb3).mono ?_
  rintro e w5 ⟨v, rfl, hO, hF⟩
  obtain ⟨A2, c2, rfl, hs2⟩ := hO.sl
  replace hs1 := hs1.later hF
  replace hX := (hF.block _ (Array.getElem?_eq_some_iff.1 hX).1).trans hX
  replace hY := (hF.block _ (Array.getElem?_eq_some_iff.1 hY).1).trans hY
  replace hb3 := below_on hb3 (Nat.le_refl _) hF
  clear hF hO B2
  go_upto_region 6 with fail
  have k0 := cell_of_row _ (w.heap.size) 0 _ _ (0, 0) hX
  have k1 := cell_of_row _ (w.heap.size) 1 _ _ (0, 0) hX
  have k2 := cell_of_row _ (w.heap.size) 2 _ _ (0, 0) hX
  have k3 := cell_of_row _ (w.heap.size) 3 _ _ (0, 0) hX
  have k4 := cell_of_row _ (w.heap.size) 4 _ _ (0, 0) hX
  have k5 := cell_of_row _ (w.heap.size) 5 _ _ (0, 0) hX
  have k6 := cell_of_row _ (w.heap.size) 6 _ _ (0, 0) hX
  have k7 := cell_of_row _ (w.heap.size) 7 _ _ (0, 0) hX
  have k8 := cell_of_row _ (w.heap.size) 8 _ _ (0, 0) hX
  have k9 := cell_of_row _ (w.heap.size) 9 _ _ (0, 0) hX
  simp only [List.getElem?_toArray, List.getElem?_cons_zero, List.getElem?_cons_succ] at k0 k1 k2 k3 k4 k5 k6 k7 k8 k9
  have d0 := cell_of_row _ (w.heap.size + 1) 0 _ _ (0, 0) hY
  have d1 := cell_of_row _ (w.heap.size + 1) 1 _ _ (0, 0) hY
  have d2 := cell_of_row _ (w.heap.size + 1) 2 _ _ (0, 0) hY
  have d3 := cell_of_row _ (w.heap.size + 1) 3 _ _ (0, 0) hY
  simp only [List.getElem?_toArray, List.getElem?_cons_zero, List.getElem?_cons_succ] at d0 d1 d2 d3
  have hz : w.heap.size < w5.heap.size := (Array.getElem?_eq_some_iff.1 hX).1
  have hz2 : w.heap.size + 1 < w5.heap.size := (Array.getElem?_eq_some_iff.1 hY).1
  have hSS : ∀ V, Below w5.heap.size w5 V → (fun V : World => Below w5.heap.size w5 V ∧ V.cell? ⟨w.heap.size, 0, none⟩ = some (i64 x.client) ∧ V.cell? ⟨w.heap.size, 1, none⟩ = some (i64 x.seq) ∧ V.cell? ⟨w.heap.size, 2, none⟩ = some (i64 x.kind) ∧ V.cell? ⟨w.heap.size, 3, none⟩ = some (.string x.acct) ∧ V.cell? ⟨w.heap.size, 4, none⟩ = some (.string x.peer) ∧ V.cell? ⟨w.heap.size, 5, none⟩ = some (i64 x.sum) ∧ V.cell? ⟨w.heap.size, 6, none⟩ = some (.slice x.la x.legs.length x.lc) ∧ V.cell? ⟨w.heap.size, 7, none⟩ = some (i64 x.period) ∧ V.cell? ⟨w.heap.size, 8, none⟩ = some (i64 x.hold) ∧ V.cell? ⟨w.heap.size, 9, none⟩ = some (.string x.note) ∧ V.cell? ⟨w.heap.size + 1, 0, none⟩ = some (i64 r.err) ∧ V.cell? ⟨w.heap.size + 1, 1, none⟩ = some (i64 r.hav) ∧ V.cell? ⟨w.heap.size + 1, 2, none⟩ = some (i64 r.set_) ∧ V.cell? ⟨w.heap.size + 1, 3, none⟩ = some (i64 r.num)) V := fun V h => ⟨h, (h.cell (p := ⟨w.heap.size, 0, none⟩) hz).trans k0, (h.cell (p := ⟨w.heap.size, 1, none⟩) hz).trans k1, (h.cell (p := ⟨w.heap.size, 2, none⟩) hz).trans k2, (h.cell (p := ⟨w.heap.size, 3, none⟩) hz).trans k3, (h.cell (p := ⟨w.heap.size, 4, none⟩) hz).trans k4, (h.cell (p := ⟨w.heap.size, 5, none⟩) hz).trans k5, (h.cell (p := ⟨w.heap.size, 6, none⟩) hz).trans k6, (h.cell (p := ⟨w.heap.size, 7, none⟩) hz).trans k7, (h.cell (p := ⟨w.heap.size, 8, none⟩) hz).trans k8, (h.cell (p := ⟨w.heap.size, 9, none⟩) hz).trans k9, (h.cell (p := ⟨w.heap.size + 1, 0, none⟩) hz2).trans d0, (h.cell (p := ⟨w.heap.size + 1, 1, none⟩) hz2).trans d1, (h.cell (p := ⟨w.heap.size + 1, 2, none⟩) hz2).trans d2, (h.cell (p := ⟨w.heap.size + 1, 3, none⟩) hz2).trans d3⟩
  have h0 := (Below.refl w5.heap.size w5).drew
  have hB := fun V (h : Below w5.heap.size w5 V) => below_on hb3 (Nat.le_refl _) h
  clear hX hY k0 k1 k2 k3 k4 k5 k6 k7 k8 k9 d0 d1 d2 d3
  go_region_held3 (fun V : World => Below w5.heap.size w5 V ∧ V.cell? ⟨w.heap.size, 0, none⟩ = some (i64 x.client) ∧ V.cell? ⟨w.heap.size, 1, none⟩ = some (i64 x.seq) ∧ V.cell? ⟨w.heap.size, 2, none⟩ = some (i64 x.kind) ∧ V.cell? ⟨w.heap.size, 3, none⟩ = some (.string x.acct) ∧ V.cell? ⟨w.heap.size, 4, none⟩ = some (.string x.peer) ∧ V.cell? ⟨w.heap.size, 5, none⟩ = some (i64 x.sum) ∧ V.cell? ⟨w.heap.size, 6, none⟩ = some (.slice x.la x.legs.length x.lc) ∧ V.cell? ⟨w.heap.size, 7, none⟩ = some (i64 x.period) ∧ V.cell? ⟨w.heap.size, 8, none⟩ = some (i64 x.hold) ∧ V.cell? ⟨w.heap.size, 9, none⟩ = some (.string x.note) ∧ V.cell? ⟨w.heap.size + 1, 0, none⟩ = some (i64 r.err) ∧ V.cell? ⟨w.heap.size + 1, 1, none⟩ = some (i64 r.hav) ∧ V.cell? ⟨w.heap.size + 1, 2, none⟩ = some (i64 r.set_) ∧ V.cell? ⟨w.heap.size + 1, 3, none⟩ = some (i64 r.num)) (first | exact hSS _ h0 | exact hSS _ (by assumption))
    (first
      | (go_at_call 31; with_reducible refine (R1.out _ ?hq).mono ?_; (case hq => (exact hB _ h0)); rintro e u1 ⟨rfl, hF⟩; have hb1 := below_on h0 (Nat.le_refl _) hF; clear hF)
      | (go_at_call 43; with_reducible refine (R2.out _ ?hq).mono ?_; (case hq => (exact hB _ hb1)); rintro e u2 ⟨rfl, hF⟩; have hb2 := below_on hb1 (Nat.le_refl _) hF; clear hF)
      | (go_at_call 30; refine (same2_c A1 A2 c1 c2 lx lx _ (hs1.later hb2) (hs2.later hb2)).mono ?_; rintro e u3 ⟨rfl, hF⟩; have e1 : (lx == lx) = true := (by simp); rw [e1]; have hb4 := below_on hb2 (Nat.le_refl _) hF; clear hF e1 hb1 hb2 hs1 hs2)
      | (go_at_call 39; with_reducible refine (D1.out _).mono ?_; rintro e u4 ⟨v, rfl, hO, hF⟩; obtain ⟨A3, c3, rfl, hs3⟩ := hO.sl; have hb5 := below_on hb4 (Nat.le_refl _) hF; clear hO hF)
      | (go_at_call 44; with_reducible refine (D2.out _).mono ?_; rintro e u5 ⟨v, rfl, hO, hF⟩; obtain ⟨A4, c4, rfl, hs4⟩ := hO.sl; replace hs3 := hs3.later hF; have hb6 := below_on hb5 (Nat.le_refl _) hF; clear hO hF hb4 hb5)
      | (go_at_call 30; refine (same2_c A3 A4 c3 c4 dr dr _ hs3 hs4).mono ?_; rintro e u6 ⟨rfl, hF⟩; have e1 : (dr == dr) = true := (by simp); rw [e1]; have hb7 := below_on hb6 (Nat.le_refl _) hF; clear hF e1 hb6 hs3 hs4)
      | (go_at_call 40; with_reducible refine (T1.out _ ?hq).mono ?_; (case hq => (exact hB _ hb7)); rintro e u7 ⟨v, rfl, hO, hF⟩; obtain ⟨A5, c5, rfl, hs5⟩ := hO.sl; have hb8 := below_on hb7 (Nat.le_refl _) hF; clear hO hF)
      | (go_at_call 46; with_reducible refine (T2.out _ ?hq).mono ?_; (case hq => (exact hB _ hb8)); rintro e u8 ⟨v, rfl, hO, hF⟩; obtain ⟨A6, c6, rfl, hs6⟩ := hO.sl; replace hs5 := hs5.later hF; have hb9 := below_on hb8 (Nat.le_refl _) hF; clear hO hF hb7 hb8)
      | (go_at_call 45; refine (sametexts_c A5 A6 c5 c6 tx tx _ hs5 hs6).mono ?_; rintro e u9 ⟨rfl, hF⟩; have e1 : decide (tx = tx) = true := (by simp); rw [e1]; have hb10 := below_on hb9 (Nat.le_refl _) hF; clear hF e1 hb9 hs5 hs6))
  go_wp2
  go_ret
  exact ⟨by simp, hB _ hb10⟩
end Go.Proofs.Ytogecfddkohigaa
