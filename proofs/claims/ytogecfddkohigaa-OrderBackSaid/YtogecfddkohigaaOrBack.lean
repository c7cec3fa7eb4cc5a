/- OrderBack -/
import Derived.Test.YtogecfddkohigaaRows
import Derived.Test.YtogecfddkohigaaCodec
import Derived.Test.YtogecfddkohigaaOrdC
import Derived.Test.YtogecfddkohigaaHas6
import Derived.Test.YtogecfddkohigaaFewBase
import Derived.Test.YtogecfddkohigaaReadW
import Derived.Deep.RegionHeld3
import Derived.Deep.Cut
import Derived.WalkKit
import Derived.WalkSpells
import Derived.WalkLawsBesides
import Derived.Deep.QuietTactic
import Derived.BigQuiet
import Derived.Laws.StructEq
import Derived.Deep.DeepFit
import Derived.StillTailTactics
namespace Go.Proofs.Ytogecfddkohigaa
open Go.RowKit
theorem inR_core {x : Od} (h : InR x.core) : InR x := h
theorem inR_core2 {x : Od} (h : InR x) : InR x.core := h
theorem rightB_core (x : Od) : rightB x.core = rightB x := rightB_la x none 0
theorem bytesB_core (x : Od) : bytesB x.core = bytesB x := rfl
set_option maxRecDepth 100000 in
set_option maxHeartbeats 8000000 in
theorem orBack_c (A : Option Addr) (c : Nat) (a : Od) (l : List UInt8) (w : World) (ha : Okb w w.heap.size a) (har : InR a) (h : Sl w w.heap.size A c l) :
    Calls Try.prog 4 #[a.v, .slice A l.length c] w fun e w' => e = .returned (.bool true) ∧ Below w.heap.size w w' := by
  have hlc : l.length ≤ c := h.1
  have hlm : l.length ≤ 9223372036854775807 := h.len_le
  have hn : (min (l.length : Int) 300).toNat = (l.take 300).length := by simp only [List.length_take]; omega
  have hL : (l.take 300).length ≤ 300 := by simp only [List.length_take]; omega
  have hT := h.take 300
  generalize l.take 300 = L at *
  have HT := Lib.hid fun W (hb : Below w.heap.size w W) => (show Calls Try.prog 28 #[.slice A (min (l.length : Int) 300).toNat c] W fun e w' => ∃ o : Od, e = .returned (.tuple #[o.v, i64 (readE L)]) ∧ ({ o with la := none, lc := 0 } : Od) = readO L ∧ Okb w' w'.heap.size o ∧ Below W.heap.size W w' by rw [hn]; exact read_c A c L W (hT.later hb) (by omega))
  have HS := Lib.hid fun W (hb : Below w.heap.size w W) B d M (hM : Sl W W.heap.size B d M) => (show Calls Try.prog 30 #[.slice B M.length d, .slice A (min (l.length : Int) 300).toNat c] W fun e w' => e = .returned (.bool (M == L)) ∧ Below W.heap.size W w' by rw [hn]; exact same2_c B A d c M L W hM (hT.later hb))
  clear hn hT h
  have hA := heap_alloc_new w (.cells #[i64 a.client, i64 a.seq, i64 a.kind, .string a.acct, .string a.peer, i64 a.sum, .slice a.la a.legs.length a.lc, i64 a.period, i64 a.hold, .string a.note] 30)
  have hbw := (Below.refl w.heap.size w).alloc (Nat.le_refl _) (.cells #[i64 a.client, i64 a.seq, i64 a.kind, .string a.acct, .string a.peer, i64 a.sum, .slice a.la a.legs.length a.lc, i64 a.period, i64 a.hold, .string a.note] 30)
  have hz : w.heap.size < (w.alloc (.cells #[i64 a.client, i64 a.seq, i64 a.kind, .string a.acct, .string a.peer, i64 a.sum, .slice a.la a.legs.length a.lc, i64 a.period, i64 a.hold, .string a.note] 30)).heap.size := by simp
  have fA := Lib.hid fun W h => few6_c a W (Okb.later ha h)
  unfold Od.v at fA ⊢
  have hx := cut10_ok ha
  have hxr := cut10_in har
  have hxl := cut10_legs a
  generalize cut10 a = x at *
  go_enter Try.func4, Try.ntmps4
  go_wp2_with fail
  generalize w.alloc (.cells #[i64 a.client, i64 a.seq, i64 a.kind, .string a.acct, .string a.peer, i64 a.sum, .slice a.la a.legs.length a.lc, i64 a.period, i64 a.hold, .string a.note] 30) = w0 at *
  refine (lives_06 _).mono ?_
  rintro e w1 ⟨rfl, hF⟩
  have hA := (hF.block _ hz).trans hA
  have hbw := below_on hbw (Nat.le_refl _) hF
  have hz := Nat.lt_of_lt_of_le hz hF.size
  clear hF
  have k0 := cell_of_row _ (w.heap.size) 0 _ _ (0, 0) hA
  have k1 := cell_of_row _ (w.heap.size) 1 _ _ (0, 0) hA
  have k2 := cell_of_row _ (w.heap.size) 2 _ _ (0, 0) hA
  have k3 := cell_of_row _ (w.heap.size) 3 _ _ (0, 0) hA
  have k4 := cell_of_row _ (w.heap.size) 4 _ _ (0, 0) hA
  have k5 := cell_of_row _ (w.heap.size) 5 _ _ (0, 0) hA
  have k6 := cell_of_row _ (w.heap.size) 6 _ _ (0, 0) hA
  have k7 := cell_of_row _ (w.heap.size) 7 _ _ (0, 0) hA
  have k8 := cell_of_row _ (w.heap.size) 8 _ _ (0, 0) hA
  have k9 := cell_of_row _ (w.heap.size) 9 _ _ (0, 0) hA
  simp only [List.getElem?_toArray, List.getElem?_cons_zero, List.getElem?_cons_succ] at k0 k1 k2 k3 k4 k5 k6 k7 k8 k9
  go_wp2_with fail
  clear k0 k1 k2 k3 k4 k5 k6 k7 k8 k9
  refine (fA.out _ hbw).mono ?_
  rintro e w2 ⟨rfl, hF⟩
  have hA := (hF.block _ hz).trans hA
  have hbw := below_on hbw (Nat.le_refl _) hF
  have hz := Nat.lt_of_lt_of_le hz hF.size
  have hrow := setRow_heap w2 w.heap.size _ #[i64 x.client, i64 x.seq, i64 x.kind, .string x.acct, .string x.peer, i64 x.sum, .slice x.la x.legs.length x.lc, i64 x.period, i64 x.hold, .string x.note] _ _ hA
  have hb3 := hbw.trans (⟨rfl, rfl, rfl, by simp, fun k hk => setRow_other _ _ _ _ (by omega)⟩ : Below w.heap.size w2 (w2.setRow w.heap.size #[i64 x.client, i64 x.seq, i64 x.kind, .string x.acct, .string x.peer, i64 x.sum, .slice x.la x.legs.length x.lc, i64 x.period, i64 x.hold, .string x.note]))
  have hz3 : w.heap.size < (w2.setRow w.heap.size #[i64 x.client, i64 x.seq, i64 x.kind, .string x.acct, .string x.peer, i64 x.sum, .slice x.la x.legs.length x.lc, i64 x.period, i64 x.hold, .string x.note]).heap.size := by simpa using hz
  generalize hW3 : w2.setRow w.heap.size #[i64 x.client, i64 x.seq, i64 x.kind, .string x.acct, .string x.peer, i64 x.sum, .slice x.la x.legs.length x.lc, i64 x.period, i64 x.hold, .string x.note] = W3 at *
  have HW3 := Lib.hid hW3
  have HRes := Lib.hid hA
  clear hF fA hbw hz hA hW3
  have k0 := cell_of_row _ (w.heap.size) 0 _ _ (0, 0) hrow
  have k1 := cell_of_row _ (w.heap.size) 1 _ _ (0, 0) hrow
  have k2 := cell_of_row _ (w.heap.size) 2 _ _ (0, 0) hrow
  have k3 := cell_of_row _ (w.heap.size) 3 _ _ (0, 0) hrow
  have k4 := cell_of_row _ (w.heap.size) 4 _ _ (0, 0) hrow
  have k5 := cell_of_row _ (w.heap.size) 5 _ _ (0, 0) hrow
  have k6 := cell_of_row _ (w.heap.size) 6 _ _ (0, 0) hrow
  have k7 := cell_of_row _ (w.heap.size) 7 _ _ (0, 0) hrow
  have k8 := cell_of_row _ (w.heap.size) 8 _ _ (0, 0) hrow
  have k9 := cell_of_row _ (w.heap.size) 9 _ _ (0, 0) hrow
  simp only [List.getElem?_toArray, List.getElem?_cons_zero, List.getElem?_cons_succ] at k0 k1 k2 k3 k4 k5 k6 k7 k8 k9
  have hB := Lib.hid fun W (h : Below W3.heap.size W3 W) => bytes_c x W (Okb.later (Okb.later hx hb3) h) (by omega) hxr
  have hS := Lib.hid fun W (h : Below W3.heap.size W3 W) (y : Od) (hy : Okb W W.heap.size y) (hl : y.legs.length ≤ 65536) => same_c x y W (Okb.later (Okb.later hx hb3) h) hy (by omega) hl
  have Hrow := Lib.hid hrow
  have Hxr := Lib.hid hxr
  unfold Od.v at hB hS
  clear hrow hx ha har hxr
  go_wp2_with (refine wpList_store_row rfl 30 (.tmp 2) (.tmp 16) rfl w.heap.size #[i64 x.client, i64 x.seq, i64 x.kind, .string x.acct, .string x.peer, i64 x.sum, .slice x.la x.legs.length x.lc, i64 x.period, i64 x.hold, .string x.note] rfl rfl 30 #[i64 a.client, i64 a.seq, i64 a.kind, .string a.acct, .string a.peer, i64 a.sum, .slice a.la a.legs.length a.lc, i64 a.period, i64 a.hold, .string a.note] HRes.out (by kernel_rfl) rfl (by simp [Value.oneCell']) ?_; rw [HW3.out])
  clear HRes HW3 k0 k1 k2 k3 k4 k5 k6 k7 k8 k9
  refine (hB.out _ (Below.refl _ _)).mono ?_
  rintro e w4 ⟨v, rfl, hO, hF⟩
  have hA := (hF.block _ hz3).trans Hrow.out
  have hb4 := below_on hb3 (Nat.le_refl _) hF
  have hz := Nat.lt_of_lt_of_le hz3 hF.size
  have HF := Lib.hid hF
  clear hF hB Hrow hb3 hz3
  obtain ⟨A2, c2, rfl, hs⟩ := hO.sl
  clear hO
  go_upto_if 23 with fail
  go_cut [5, 6] from 13 (fun _ _ wx => Below w.heap.size w wx)
  case first =>
    by_cases hr : rightB x = true
    · rw [hr] at hs
      simp only [if_true] at hs
      obtain ⟨t1, t2⟩ := back_law1 hr Hxr.out
      have hR := Lib.hid (read_c A2 c2 (bytesB x) w4 hs (by have := bytesB_le hr Hxr.out; omega))
      have hE : readE (bytesB x) = 0 := by unfold readE; rw [if_pos t1]
      have hO : readO (bytesB x) = x.core := by unfold readO; rw [if_pos t1]; exact t2
      rw [hE, hO] at hR
      rw [hr]
      simp only [if_true]
      clear hE hO t1 t2 hr hs
      generalize bytesB x = bx at *
      go_wp2_with fail
      refine hR.out.mono ?_
      rintro e w5 ⟨y, rfl, hyx, hy, hF⟩
      have hA := (hF.block _ hz).trans hA
      have hbw := below_on hb4 (Nat.le_refl _) hF
      have hz := Nat.lt_of_lt_of_le hz hF.size
      have h5 := HF.out.trans (hF.mono HF.out.size)
      have hyc : y.core = x.core := hyx
      have hyl : y.legs.length ≤ 10 := by rw [show y.legs = x.legs from (congrArg Od.legs hyc : y.core.legs = x.core.legs)]; exact hxl
      have hsy : sameB x y = true := sameB_core.2 hyc.symm
      have hC := hS.out (w5.alloc (.cells #[i64 y.client, i64 y.seq, i64 y.kind, .string y.acct, .string y.peer, i64 y.sum, .slice y.la y.legs.length y.lc, i64 y.period, i64 y.hold, .string y.note] 30)) (h5.trans (((Below.refl w5.heap.size w5).alloc (Nat.le_refl _) _).mono h5.size)) y (Okb.later hy ((Below.refl w5.heap.size w5).alloc (Nat.le_refl _) _)) (by omega)
      rw [hsy] at hC
      have HC := Lib.hid hC
      have hb6 := (Below.refl w5.heap.size w5).alloc (Nat.le_refl _) (.cells #[i64 y.client, i64 y.seq, i64 y.kind, .string y.acct, .string y.peer, i64 y.sum, .slice y.la y.legs.length y.lc, i64 y.period, i64 y.hold, .string y.note] 30)
      have hA := (hb6.block _ hz).trans hA
      have hY := heap_alloc_new w5 (.cells #[i64 y.client, i64 y.seq, i64 y.kind, .string y.acct, .string y.peer, i64 y.sum, .slice y.la y.legs.length y.lc, i64 y.period, i64 y.hold, .string y.note] 30)
      have hbw := below_on hbw (Nat.le_refl _) hb6
      clear hF hC hR hyx hyc hyl hsy hy hS HF h5 hb6 hz hb4
      unfold Od.v
      have k0 := cell_of_row _ (w.heap.size) 0 _ _ (0, 0) hA
      have k1 := cell_of_row _ (w.heap.size) 1 _ _ (0, 0) hA
      have k2 := cell_of_row _ (w.heap.size) 2 _ _ (0, 0) hA
      have k3 := cell_of_row _ (w.heap.size) 3 _ _ (0, 0) hA
      have k4 := cell_of_row _ (w.heap.size) 4 _ _ (0, 0) hA
      have k5 := cell_of_row _ (w.heap.size) 5 _ _ (0, 0) hA
      have k6 := cell_of_row _ (w.heap.size) 6 _ _ (0, 0) hA
      have k7 := cell_of_row _ (w.heap.size) 7 _ _ (0, 0) hA
      have k8 := cell_of_row _ (w.heap.size) 8 _ _ (0, 0) hA
      have k9 := cell_of_row _ (w.heap.size) 9 _ _ (0, 0) hA
      simp only [List.getElem?_toArray, List.getElem?_cons_zero, List.getElem?_cons_succ] at k0 k1 k2 k3 k4 k5 k6 k7 k8 k9
      have d0 := cell_of_row _ (w5.heap.size) 0 _ _ (0, 0) hY
      have d1 := cell_of_row _ (w5.heap.size) 1 _ _ (0, 0) hY
      have d2 := cell_of_row _ (w5.heap.size) 2 _ _ (0, 0) hY
      have d3 := cell_of_row _ (w5.heap.size) 3 _ _ (0, 0) hY
      have d4 := cell_of_row _ (w5.heap.size) 4 _ _ (0, 0) hY
      have d5 := cell_of_row _ (w5.heap.size) 5 _ _ (0, 0) hY
      have d6 := cell_of_row _ (w5.heap.size) 6 _ _ (0, 0) hY
      have d7 := cell_of_row _ (w5.heap.size) 7 _ _ (0, 0) hY
      have d8 := cell_of_row _ (w5.heap.size) 8 _ _ (0, 0) hY
      have d9 := cell_of_row _ (w5.heap.size) 9 _ _ (0, 0) hY
      simp only [List.getElem?_toArray, List.getElem?_cons_zero, List.getElem?_cons_succ] at d0 d1 d2 d3 d4 d5 d6 d7 d8 d9
      go_wp2_with fail
      refine HC.out.mono ?_
      rintro e w6 ⟨rfl, hF⟩
      have hbw := below_on hbw (Nat.le_refl _) hF
      clear HC hF hA hY k0 k1 k2 k3 k4 k5 k6 k7 k8 k9 d0 d1 d2 d3 d4 d5 d6 d7 d8 d9
      go_wp2
      go_meet
      exact hbw
    · have hr' : rightB x = false := by simpa using hr
      rw [hr']
      clear hr hr' hs
      go_wp2
      go_meet
      exact hb4
  case rest =>
  clear hS HF hs hA hz hb4 Hxr hxl
  go_wp2_with fail
  refine (HT.out _ hcut).mono ?_
  rintro e w5 ⟨y, rfl, hyx, hy, hF⟩
  have hbw := below_on hcut (Nat.le_refl _) hF
  clear hF
  have hb6 := (Below.refl w5.heap.size w5).alloc (Nat.le_refl _) (.cells #[i64 y.client, i64 y.seq, i64 y.kind, .string y.acct, .string y.peer, i64 y.sum, .slice y.la y.legs.length y.lc, i64 y.period, i64 y.hold, .string y.note] 30)
  have hY := heap_alloc_new w5 (.cells #[i64 y.client, i64 y.seq, i64 y.kind, .string y.acct, .string y.peer, i64 y.sum, .slice y.la y.legs.length y.lc, i64 y.period, i64 y.hold, .string y.note] 30)
  have hz : w5.heap.size < (w5.alloc (.cells #[i64 y.client, i64 y.seq, i64 y.kind, .string y.acct, .string y.peer, i64 y.sum, .slice y.la y.legs.length y.lc, i64 y.period, i64 y.hold, .string y.note] 30)).heap.size := by simp
  have hbw := below_on hbw (Nat.le_refl _) hb6
  have hy := Okb.later hy hb6
  have hyc : y.core = readO L := hyx
  unfold Od.v
  generalize hW6 : w5.alloc (.cells #[i64 y.client, i64 y.seq, i64 y.kind, .string y.acct, .string y.peer, i64 y.sum, .slice y.la y.legs.length y.lc, i64 y.period, i64 y.hold, .string y.note] 30) = w6 at *
  have HW6 := Lib.hid hW6
  clear hb6 hyx hW6
  have d0 := cell_of_row _ (w5.heap.size) 0 _ _ (0, 0) hY
  have d1 := cell_of_row _ (w5.heap.size) 1 _ _ (0, 0) hY
  have d2 := cell_of_row _ (w5.heap.size) 2 _ _ (0, 0) hY
  have d3 := cell_of_row _ (w5.heap.size) 3 _ _ (0, 0) hY
  have d4 := cell_of_row _ (w5.heap.size) 4 _ _ (0, 0) hY
  have d5 := cell_of_row _ (w5.heap.size) 5 _ _ (0, 0) hY
  have d6 := cell_of_row _ (w5.heap.size) 6 _ _ (0, 0) hY
  have d7 := cell_of_row _ (w5.heap.size) 7 _ _ (0, 0) hY
  have d8 := cell_of_row _ (w5.heap.size) 8 _ _ (0, 0) hY
  have d9 := cell_of_row _ (w5.heap.size) 9 _ _ (0, 0) hY
  simp only [List.getElem?_toArray, List.getElem?_cons_zero, List.getElem?_cons_succ] at d0 d1 d2 d3 d4 d5 d6 d7 d8 d9
  by_cases hok : readOk L = true
  · obtain ⟨t1, t2, t3⟩ := back_law2 hok
    have hE : readE L = 0 := by unfold readE; rw [if_pos hok]
    have hO : readO L = rawO L := by unfold readO; rw [if_pos hok]
    rw [hO] at hyc
    rw [← hyc] at t1 t2 t3
    rw [rightB_core] at t3
    rw [bytesB_core] at t1
    have hyl : y.legs.length ≤ 10 := by have := (fit_of t3).legs.1; omega
    have hB := Lib.hid fun W (h : Below w6.heap.size w6 W) => bytes_c y W (Okb.later hy h) (by omega) (inR_core t2)
    have hR := Lib.hid fun W (h : Below w6.heap.size w6 W) => right_c0 y W (Okb.later hy h) (by omega)
    rw [t3] at hR
    rw [t3, t1] at hB
    simp only [if_true] at hB
    rw [hE]
    unfold Od.v at hB hR
    clear hE hO hyc t1 t2 t3 hyl hok hy
    go_wp2_with (rw [HW6.out])
    refine (hB.out _ (Below.refl _ _)).mono ?_
    rintro e w7 ⟨v, rfl, hO, hF⟩
    obtain ⟨A2, c2, rfl, hs⟩ := hO.sl
    have h7 := hF
    have hY := (hF.block _ hz).trans hY
    have hbw := below_on hbw (Nat.le_refl _) hF
    have hz := Nat.lt_of_lt_of_le hz hF.size
    have hC := Lib.hid (HS.out _ hbw _ _ _ hs)
    clear hO hF hs hB d0 d1 d2 d3 d4 d5 d6 d7 d8 d9 HW6
    go_wp2_with fail
    refine hC.out.mono ?_
    rintro e w8 ⟨rfl, hF⟩
    have hY := (hF.block _ hz).trans hY
    have hbw := below_on hbw (Nat.le_refl _) hF
    have h8 := below_on h7 (Nat.le_refl _) hF
    have hz := Nat.lt_of_lt_of_le hz hF.size
    clear hC hF h7
    have d0 := cell_of_row _ (w5.heap.size) 0 _ _ (0, 0) hY
    have d1 := cell_of_row _ (w5.heap.size) 1 _ _ (0, 0) hY
    have d2 := cell_of_row _ (w5.heap.size) 2 _ _ (0, 0) hY
    have d3 := cell_of_row _ (w5.heap.size) 3 _ _ (0, 0) hY
    have d4 := cell_of_row _ (w5.heap.size) 4 _ _ (0, 0) hY
    have d5 := cell_of_row _ (w5.heap.size) 5 _ _ (0, 0) hY
    have d6 := cell_of_row _ (w5.heap.size) 6 _ _ (0, 0) hY
    have d7 := cell_of_row _ (w5.heap.size) 7 _ _ (0, 0) hY
    have d8 := cell_of_row _ (w5.heap.size) 8 _ _ (0, 0) hY
    have d9 := cell_of_row _ (w5.heap.size) 9 _ _ (0, 0) hY
    simp only [List.getElem?_toArray, List.getElem?_cons_zero, List.getElem?_cons_succ] at d0 d1 d2 d3 d4 d5 d6 d7 d8 d9
    rw [show (L == L) = true by simp]
    go_wp2_with fail
    refine (hR.out _ h8).mono ?_
    rintro e w9 ⟨rfl, hF⟩
    have hbw := below_on hbw (Nat.le_refl _) hF
    clear hF d0 d1 d2 d3 d4 d5 d6 d7 d8 d9 hY h8 hR
    go_wp2
    go_ret
    exact ⟨rfl, hbw⟩
  · have hok : readOk L = false := by simpa using hok
    have hE : readE L = 3 := by unfold readE; rw [hok]; rfl
    have hk : y.kind = 0 := by
      have : readO L = od0 := by unfold readO; rw [hok]; rfl
      rw [this] at hyc
      exact (congrArg Od.kind hyc : y.core.kind = od0.kind)
    rw [hE]
    rw [hk] at d2
    clear hE hyc hok hy hk
    go_wp2_with (rw [HW6.out])
    go_ret
    exact ⟨rfl, hbw⟩
end Go.Proofs.Ytogecfddkohigaa
