/- OrderReads -/
import Derived.Test.YtogecfddkohigaaRows
import Derived.Test.YtogecfddkohigaaRfTRead
import Derived.Test.YtogecfddkohigaaOrdC
import Derived.Test.YtogecfddkohigaaRSame
import Derived.Test.YtogecfddkohigaaCodec
import Derived.Deep.Cut
import Derived.WalkKit
import Derived.WalkSpells
import Derived.WalkLawsBesides
import Derived.Deep.QuietTactic
import Derived.BigQuiet
import Derived.Laws.StructEq
import Derived.Deep.DeepFit
import Derived.StillTailTactics
namespace Go.Proofs.Ytogecfddkohigaa
open Go.RowKit
theorem eql_rp2 (a b c d : Int) (w : World) : (binOp .eql 49 (.agg #[i64 a, i64 b, i64 c, i64 d]) (.agg #[i64 a, i64 b, i64 c, i64 d])).run Try.prog w = .ok (.bool true) w := by
  have u3 := Try.underlying3
  have a3 := Try.isAgg3
  have z3 := Try.sizeOf3
  have u4 := Try.underlying2
  have a4 := Try.isAgg2
  have z4 := Try.sizeOf2
  have u5 := Try.underlying38
  have a5 := Try.isAgg38
  have z5 := Try.sizeOf38
  have hS : Try.prog.underlying 49 = some (.struct (Try.prog.fieldsOf 49)) := by kernel_rfl
  have hp : Try.prog.stoodInHeld 49 = false := by kernel_rfl
  rw [run_eql_struct, show (10000 : Nat) = 9999 + 1 from rfl, run_equalIn_agg w 9999 49 _ _ hS hp]
  simp only [Program.fieldsOf, Try.underlying49]
  go_simp
theorem readO_legs (l : List UInt8) : (readO l).legs.length ≤ 6 := by
  unfold readO
  split
  · rename_i h
    exact (fit_of (back_law2 h).2.2).legs.1
  · decide
set_option maxRecDepth 100000 in
set_option maxHeartbeats 8000000 in
theorem orReads_c (A : Option Addr) (c : Nat) (l : List UInt8) (w : World) (h : Sl w w.heap.size A c l) :
    Calls Try.prog 6 #[.slice A l.length c] w fun e w' => e = .returned (.bool true) ∧ Below w.heap.size w w' := by
  have hlc : l.length ≤ c := h.1
  have hlm : l.length ≤ 9223372036854775807 := h.len_le
  have hn : (min (l.length : Int) 300).toNat = (l.take 300).length := by simp only [List.length_take]; omega
  have hL : (l.take 300).length ≤ 300 := by simp only [List.length_take]; omega
  have hT := h.take 300
  generalize l.take 300 = L at *
  have C1 := Lib.hid fun W (hb : Below w.heap.size w W) => (show Calls Try.prog 28 #[.slice A (min (l.length : Int) 300).toNat c] W fun e w' => ∃ o : Od, e = .returned (.tuple #[o.v, i64 (readE L)]) ∧ ({ o with la := none, lc := 0 } : Od) = readO L ∧ Okb w' w'.heap.size o ∧ Below W.heap.size W w' by rw [hn]; exact read_c A c L W (hT.later hb) (by omega))
  have C2 := Lib.hid fun W (hb : Below w.heap.size w W) => (show Calls Try.prog 35 #[.slice A (min (l.length : Int) 300).toNat c] W fun e w' => ∃ o : Od, e = .returned (.tuple #[o.v, i64 (readE L)]) ∧ ({ o with la := none, lc := 0 } : Od) = readO L ∧ Okb w' w'.heap.size o ∧ Below W.heap.size W w' by rw [hn]; exact rread_c A c L W (hT.later hb) (by omega))
  have C3 := Lib.hid fun W (hb : Below w.heap.size w W) => (show Calls Try.prog 36 #[.slice A (min (l.length : Int) 300).toNat c] W fun e w' => e = .returned (.tuple #[(readT L).v, i64 (toldE L)]) ∧ Below W.heap.size W w' by rw [hn]; exact tread_c A c L W (hT.later hb) (by omega))
  have C4 := Lib.hid fun W (hb : Below w.heap.size w W) => (show Calls Try.prog 37 #[.slice A (min (l.length : Int) 300).toNat c] W fun e w' => e = .returned (.tuple #[(readT L).v, i64 (toldE L)]) ∧ Below W.heap.size W w' by rw [hn]; exact rtread_c A c L W (hT.later hb) (by omega))
  have hlegs := readO_legs L
  generalize readE L = ee at *
  generalize toldE L = te at *
  generalize readO L = oo at *
  generalize readT L = y at *
  clear hn hT h
  go_enter Try.func6, Try.ntmps6
  go_wp2_with fail
  refine (lives_06 _).mono ?_
  rintro e w1 ⟨rfl, hbw⟩
  go_wp2_with fail
  refine (C1.out _ hbw).mono ?_
  rintro e w2 ⟨o, rfl, oc, ok, hF⟩
  replace hbw := below_on hbw (Nat.le_refl _) hF
  have hB := (Below.refl w2.heap.size w2).alloc (Nat.le_refl _) (.cells #[i64 o.client, i64 o.seq, i64 o.kind, .string o.acct, .string o.peer, i64 o.sum, .slice o.la o.legs.length o.lc, i64 o.period, i64 o.hold, .string o.note] 30)
  have ho := heap_alloc_new w2 (.cells #[i64 o.client, i64 o.seq, i64 o.kind, .string o.acct, .string o.peer, i64 o.sum, .slice o.la o.legs.length o.lc, i64 o.period, i64 o.hold, .string o.note] 30)
  replace hbw := below_on hbw (Nat.le_refl _) hB
  replace ok := Okb.later ok hB
  clear hF C1
  generalize hV2 : w2.alloc (.cells #[i64 o.client, i64 o.seq, i64 o.kind, .string o.acct, .string o.peer, i64 o.sum, .slice o.la o.legs.length o.lc, i64 o.period, i64 o.hold, .string o.note] 30) = V2 at *
  have HV2 := Lib.hid hV2
  clear hB hV2
  unfold Od.v
  go_wp2_with (rw [HV2.out])
  clear HV2
  generalize w2.heap.size = go at *
  refine (C2.out _ hbw).mono ?_
  rintro e w3 ⟨p, rfl, pc, pk, hF⟩
  replace ho := (hF.block _ (Array.getElem?_eq_some_iff.1 ho).1).trans ho
  replace ok := Okb.later ok hF
  replace hbw := below_on hbw (Nat.le_refl _) hF
  have hB := (Below.refl w3.heap.size w3).alloc (Nat.le_refl _) (.cells #[i64 p.client, i64 p.seq, i64 p.kind, .string p.acct, .string p.peer, i64 p.sum, .slice p.la p.legs.length p.lc, i64 p.period, i64 p.hold, .string p.note] 30)
  have hp := heap_alloc_new w3 (.cells #[i64 p.client, i64 p.seq, i64 p.kind, .string p.acct, .string p.peer, i64 p.sum, .slice p.la p.legs.length p.lc, i64 p.period, i64 p.hold, .string p.note] 30)
  replace hbw := below_on hbw (Nat.le_refl _) hB
  replace pk := Okb.later pk hB
  clear hF C2
  replace ho := (hB.block _ (Array.getElem?_eq_some_iff.1 ho).1).trans ho
  replace ok := Okb.later ok hB
  generalize hV3 : w3.alloc (.cells #[i64 p.client, i64 p.seq, i64 p.kind, .string p.acct, .string p.peer, i64 p.sum, .slice p.la p.legs.length p.lc, i64 p.period, i64 p.hold, .string p.note] 30) = V3 at *
  have HV3 := Lib.hid hV3
  clear hB hV3
  unfold Od.v
  go_wp2_with (rw [HV3.out])
  clear HV3
  generalize w3.heap.size = gp at *
  refine (C3.out _ hbw).mono ?_
  rintro e w4 ⟨rfl, hF⟩
  replace ho := (hF.block _ (Array.getElem?_eq_some_iff.1 ho).1).trans ho
  replace hp := (hF.block _ (Array.getElem?_eq_some_iff.1 hp).1).trans hp
  replace ok := Okb.later ok hF
  replace pk := Okb.later pk hF
  replace hbw := below_on hbw (Nat.le_refl _) hF
  have hB := (Below.refl w4.heap.size w4).alloc (Nat.le_refl _) (.cells #[i64 y.err, i64 y.hav, i64 y.set_, i64 y.num] 49)
  have hr := heap_alloc_new w4 (.cells #[i64 y.err, i64 y.hav, i64 y.set_, i64 y.num] 49)
  replace hbw := below_on hbw (Nat.le_refl _) hB
  clear hF C3
  replace ho := (hB.block _ (Array.getElem?_eq_some_iff.1 ho).1).trans ho
  replace hp := (hB.block _ (Array.getElem?_eq_some_iff.1 hp).1).trans hp
  replace ok := Okb.later ok hB
  replace pk := Okb.later pk hB
  generalize hV4 : w4.alloc (.cells #[i64 y.err, i64 y.hav, i64 y.set_, i64 y.num] 49) = V4 at *
  have HV4 := Lib.hid hV4
  clear hB hV4
  unfold Rp.v
  go_wp2_with (rw [HV4.out])
  clear HV4
  generalize w4.heap.size = gr at *
  refine (C4.out _ hbw).mono ?_
  rintro e w5 ⟨rfl, hF⟩
  replace ho := (hF.block _ (Array.getElem?_eq_some_iff.1 ho).1).trans ho
  replace hp := (hF.block _ (Array.getElem?_eq_some_iff.1 hp).1).trans hp
  replace hr := (hF.block _ (Array.getElem?_eq_some_iff.1 hr).1).trans hr
  replace ok := Okb.later ok hF
  replace pk := Okb.later pk hF
  replace hbw := below_on hbw (Nat.le_refl _) hF
  have hB := (Below.refl w5.heap.size w5).alloc (Nat.le_refl _) (.cells #[i64 y.err, i64 y.hav, i64 y.set_, i64 y.num] 49)
  have hq := heap_alloc_new w5 (.cells #[i64 y.err, i64 y.hav, i64 y.set_, i64 y.num] 49)
  replace hbw := below_on hbw (Nat.le_refl _) hB
  clear hF C4
  replace ho := (hB.block _ (Array.getElem?_eq_some_iff.1 ho).1).trans ho
  replace hp := (hB.block _ (Array.getElem?_eq_some_iff.1 hp).1).trans hp
  replace hr := (hB.block _ (Array.getElem?_eq_some_iff.1 hr).1).trans hr
  replace ok := Okb.later ok hB
  replace pk := Okb.later pk hB
  generalize hV5 : w5.alloc (.cells #[i64 y.err, i64 y.hav, i64 y.set_, i64 y.num] 49) = V5 at *
  have HV5 := Lib.hid hV5
  clear hB hV5
  have h0 := Below.refl V5.heap.size V5
  replace oc : o.core = oo := oc
  replace pc : p.core = oo := pc
  have ol : o.legs.length ≤ 65536 := by have e : o.legs = oo.legs := (congrArg Od.legs oc : o.core.legs = oo.legs); rw [e]; omega
  have pl : p.legs.length ≤ 65536 := by have e : p.legs = oo.legs := (congrArg Od.legs pc : p.core.legs = oo.legs); rw [e]; omega
  have hsm : sameB o p = true := sameB_core.2 (oc.trans pc.symm)
  have S1 := Lib.hid fun W (h : Below V5.heap.size V5 W) => same_c o p W (Okb.later ok h) (Okb.later pk h) ol pl
  have S2 := Lib.hid fun W (h : Below V5.heap.size V5 W) => rsame_c o p W (Okb.later ok h) (Okb.later pk h) ol pl
  rw [hsm] at S1 S2
  unfold Od.v at S1 S2
  have qe := eql_rp2 y.err y.hav y.set_ y.num
  clear oc pc ol pl hsm ok pk hlegs
  generalize hgq : w5.heap.size = gq at *
  have k0 := cell_of_row _ (go) 0 _ _ (0, 0) ho
  have k1 := cell_of_row _ (go) 1 _ _ (0, 0) ho
  have k2 := cell_of_row _ (go) 2 _ _ (0, 0) ho
  have k3 := cell_of_row _ (go) 3 _ _ (0, 0) ho
  have k4 := cell_of_row _ (go) 4 _ _ (0, 0) ho
  have k5 := cell_of_row _ (go) 5 _ _ (0, 0) ho
  have k6 := cell_of_row _ (go) 6 _ _ (0, 0) ho
  have k7 := cell_of_row _ (go) 7 _ _ (0, 0) ho
  have k8 := cell_of_row _ (go) 8 _ _ (0, 0) ho
  have k9 := cell_of_row _ (go) 9 _ _ (0, 0) ho
  simp only [List.getElem?_toArray, List.getElem?_cons_zero, List.getElem?_cons_succ] at k0 k1 k2 k3 k4 k5 k6 k7 k8 k9
  have d0 := cell_of_row _ (gp) 0 _ _ (0, 0) hp
  have d1 := cell_of_row _ (gp) 1 _ _ (0, 0) hp
  have d2 := cell_of_row _ (gp) 2 _ _ (0, 0) hp
  have d3 := cell_of_row _ (gp) 3 _ _ (0, 0) hp
  have d4 := cell_of_row _ (gp) 4 _ _ (0, 0) hp
  have d5 := cell_of_row _ (gp) 5 _ _ (0, 0) hp
  have d6 := cell_of_row _ (gp) 6 _ _ (0, 0) hp
  have d7 := cell_of_row _ (gp) 7 _ _ (0, 0) hp
  have d8 := cell_of_row _ (gp) 8 _ _ (0, 0) hp
  have d9 := cell_of_row _ (gp) 9 _ _ (0, 0) hp
  simp only [List.getElem?_toArray, List.getElem?_cons_zero, List.getElem?_cons_succ] at d0 d1 d2 d3 d4 d5 d6 d7 d8 d9
  unfold Rp.v
  go_wp2_with (rw [HV5.out])
  clear HV5
  refine (S1.out _ h0).mono ?_
  rintro e w6 ⟨rfl, hF⟩
  replace h0 := below_on h0 (Nat.le_refl _) hF
  replace hbw := below_on hbw (Nat.le_refl _) hF
  replace ho := (hF.block _ (Array.getElem?_eq_some_iff.1 ho).1).trans ho
  replace hp := (hF.block _ (Array.getElem?_eq_some_iff.1 hp).1).trans hp
  replace hr := (hF.block _ (Array.getElem?_eq_some_iff.1 hr).1).trans hr
  replace hq := (hF.block _ (Array.getElem?_eq_some_iff.1 hq).1).trans hq
  clear hF S1 k0 d0 k1 d1 k2 d2 k3 d3 k4 d4 k5 d5 k6 d6 k7 d7 k8 d8 k9 d9
  have k0 := cell_of_row _ (go) 0 _ _ (0, 0) ho
  have k1 := cell_of_row _ (go) 1 _ _ (0, 0) ho
  have k2 := cell_of_row _ (go) 2 _ _ (0, 0) ho
  have k3 := cell_of_row _ (go) 3 _ _ (0, 0) ho
  have k4 := cell_of_row _ (go) 4 _ _ (0, 0) ho
  have k5 := cell_of_row _ (go) 5 _ _ (0, 0) ho
  have k6 := cell_of_row _ (go) 6 _ _ (0, 0) ho
  have k7 := cell_of_row _ (go) 7 _ _ (0, 0) ho
  have k8 := cell_of_row _ (go) 8 _ _ (0, 0) ho
  have k9 := cell_of_row _ (go) 9 _ _ (0, 0) ho
  simp only [List.getElem?_toArray, List.getElem?_cons_zero, List.getElem?_cons_succ] at k0 k1 k2 k3 k4 k5 k6 k7 k8 k9
  have d0 := cell_of_row _ (gp) 0 _ _ (0, 0) hp
  have d1 := cell_of_row _ (gp) 1 _ _ (0, 0) hp
  have d2 := cell_of_row _ (gp) 2 _ _ (0, 0) hp
  have d3 := cell_of_row _ (gp) 3 _ _ (0, 0) hp
  have d4 := cell_of_row _ (gp) 4 _ _ (0, 0) hp
  have d5 := cell_of_row _ (gp) 5 _ _ (0, 0) hp
  have d6 := cell_of_row _ (gp) 6 _ _ (0, 0) hp
  have d7 := cell_of_row _ (gp) 7 _ _ (0, 0) hp
  have d8 := cell_of_row _ (gp) 8 _ _ (0, 0) hp
  have d9 := cell_of_row _ (gp) 9 _ _ (0, 0) hp
  simp only [List.getElem?_toArray, List.getElem?_cons_zero, List.getElem?_cons_succ] at d0 d1 d2 d3 d4 d5 d6 d7 d8 d9
  go_wp2_with fail
  refine (S2.out _ h0).mono ?_
  rintro e w7 ⟨rfl, hF⟩
  replace hbw := below_on hbw (Nat.le_refl _) hF
  replace ho := (hF.block _ (Array.getElem?_eq_some_iff.1 ho).1).trans ho
  replace hp := (hF.block _ (Array.getElem?_eq_some_iff.1 hp).1).trans hp
  replace hr := (hF.block _ (Array.getElem?_eq_some_iff.1 hr).1).trans hr
  replace hq := (hF.block _ (Array.getElem?_eq_some_iff.1 hq).1).trans hq
  clear hF S2 k0 d0 k1 d1 k2 d2 k3 d3 k4 d4 k5 d5 k6 d6 k7 d7 k8 d8 k9 d9
  have k0 := cell_of_row _ (gr) 0 _ _ (0, 0) hr
  have k1 := cell_of_row _ (gr) 1 _ _ (0, 0) hr
  have k2 := cell_of_row _ (gr) 2 _ _ (0, 0) hr
  have k3 := cell_of_row _ (gr) 3 _ _ (0, 0) hr
  simp only [List.getElem?_toArray, List.getElem?_cons_zero, List.getElem?_cons_succ] at k0 k1 k2 k3
  have d0 := cell_of_row _ (gq) 0 _ _ (0, 0) hq
  have d1 := cell_of_row _ (gq) 1 _ _ (0, 0) hq
  have d2 := cell_of_row _ (gq) 2 _ _ (0, 0) hq
  have d3 := cell_of_row _ (gq) 3 _ _ (0, 0) hq
  simp only [List.getElem?_toArray, List.getElem?_cons_zero, List.getElem?_cons_succ] at d0 d1 d2 d3
  go_wp2
  go_ret
  exact ⟨by simp, hbw⟩
end Go.Proofs.Ytogecfddkohigaa
