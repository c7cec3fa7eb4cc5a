/- AuditLargest -/
import Derived.Test.YtgholbeehkfbiaaGreatRows
import Derived.Test.YtgholbeehkfbiaaGreatBpAuLa
import Derived.Test.YtgholbeehkfbiaaGreatBm20
import Derived.Test.YtgholbeehkfbiaaGreatBm15
import Derived.WalkKit
import Derived.WalkSpells
import Derived.WalkLawsBesides
import Derived.Deep.QuietTactic
import Derived.BigQuiet
import Derived.Laws.StructEq
import Derived.Deep.DeepFit
import Derived.StillTailTactics
namespace Go.Proofs.YtgholbeehkfbiaaGreat
open Go.RowKit
theorem odB_id2 {x : Od} (h : OdB x) {c s : Int} (hc : R64 c) (hs : R64 s) : OdB { x with client := c, seq := s } := ⟨h.acct, h.peer, hc, hs, h.rng.2.2⟩
theorem idK_le2 (k : Nat) : R64 ((k : Int).tmod 9) := by
 have h1 := Int.tmod_nonneg 9 (show (0 : Int) ≤ (k : Int) by omega)
 have h2 := Int.tmod_lt_of_pos (k : Int) (show (0 : Int) < 9 by omega)
 unfold R64; omega
theorem seq_nodup {G : List Od} (h : ∀ (j : Nat) (hj : j < G.length), G[j].seq = 1 + (j : Int)) : (G.map Od.id).Nodup := by
 refine List.pairwise_iff_getElem.2 fun i j hi hj hij e => ?_
 rw [List.length_map] at hi hj
 rw [List.getElem_map, List.getElem_map] at e
 have h1 : G[i].seq = G[j].seq := congrArg Id.seq e
 rw [h i hi, h j hj] at h1
 omega
theorem mem_take_step {I : List Id} {j : Nat} (hj : j < I.length) (x : Id) : decide (x ∈ I.take (j + 1)) = (decide (x ∈ I.take j) || decide (I[j] = x)) := by
 rw [List.take_succ_eq_append_getElem hj]
 by_cases h1 : x ∈ I.take j
 ·rw [decide_eq_true h1, decide_eq_true (List.mem_append.2 (.inl h1))]; rfl
 ·rw [decide_eq_false h1, Bool.false_or]
  exact decide_eq_decide.2 ⟨fun h => by
   rcases List.mem_append.1 h with h | h
   ·exact absurd h h1
   ·exact (List.mem_singleton.1 h).symm, fun h => List.mem_append.2 (.inr (List.mem_singleton.2 h.symm))⟩
set_option maxRecDepth 100000 in
set_option maxHeartbeats 16000000 in
theorem auditLargest_c (A : Option Addr) (c : Nat) (l : List Od) (n : Int) (w : World) (h : Sl w w.heap.size A c l) (hr : ∀ x ∈ l, InR x) (_hp : R64 n) :
  Calls Tryz.prog 9 #[.slice A l.length c, i64 n] w fun e w' => e = .returned (.bool true) ∧ Below w.heap.size w w' := by
 have hL := Lib.hid fun W => lives_22 W
 have Hod := Lib.hid (fewL_od (n := 50) h hr)
 have H := Lib.hid h
 clear h hr
 go_enter Tryz.func9, Tryz.ntmps9
 go_wp2_with fail
 refine (hL.out _).mono ?_
 rintro e w1 ⟨rfl, hF⟩
 have hb1 := hF
 have hl1 := H.out.later hF
 clear hL hF
 have HFw := Lib.hid (few_22 A c 50 l w1 hl1 (by decide))
 go_wp2_with fail
 refine HFw.out.mono ?_
 rintro e w2 ⟨v, rfl, hO, hF⟩
 have hn := fewL_le 50 l
 have Hleg := Lib.hid (fewL_legs 50 l)
 have Hb1 := Lib.hid hb1
 have HF2 := Lib.hid hF
 obtain ⟨AF, cF, rfl, -⟩ := hO.sl
 have HO2 := Lib.hid hO
 clear hF hb1 hl1 HFw hO H
 generalize fewL 50 l = F at *
 have hw2 := HF2.out.size
 go_wp2_with fail
 go_loopw [5] (fun i wr => ∃ (k : Nat) (G : List Od), i = i64 k ∧ k ≤ F.length ∧ Hid (G.length = F.length) ∧ Hid (∀ x ∈ G, OdB x ∧ x.legs.length ≤ 8) ∧ Hid (∀ (j : Nat) (hj : j < G.length), j < k → G[j].seq = 1 + (j : Int)) ∧ Own wr w1.heap.size 37 (.slice AF F.length cF) G ∧ Below w1.heap.size w1 wr) (fun i _ => F.length - (intOf i).toNat)
 case atStart => exact ⟨0, F, rfl, Nat.zero_le _, Lib.hid rfl, Lib.hid (fun x hx => ⟨Hod.out x hx, Hleg.out x hx⟩), Lib.hid (fun j _ h => by omega), HO2.out, HF2.out⟩
 case round =>
  clear HO2 HF2
  obtain ⟨k, G, rfl, hk, HGl, HG, HQ, hO, hb⟩ := hrel
  by_cases hlt : k < F.length
  ·have g1 : decide ((k : Int) < (F.length : Int)) = true := decide_eq_true (by omega)
   have g2 : decide (k < F.length) = true := decide_eq_true hlt
   have i0 : (0 : Int) ≤ (k : Int) := by omega
   have i1 : (k : Int) < (F.length : Int) := by omega
   have hkG : k < G.length := by rw [HGl.out]; exact hlt
   obtain ⟨gb, cap, cur, hv, hgb, -, hc1, hc2, -, -⟩ := hO.form (by omega)
   injection hv with e1 e2 e3
   subst e1 e3
   clear e2
   have hok := hO.2 G[k] (List.getElem_mem hkG)
   have HO := Lib.hid hO
   have Hok := Lib.hid hok
   have HG1 := Lib.hid (HG.out G[k] (List.getElem_mem hkG))
   have hx1 : wrap64 (1 + (k : Int)) = 1 + (k : Int) := by unfold wrap64; omega
   clear hO hok hc1 hc2
   have Hb := Lib.hid hb
   clear hb
   go_wp2_with (refine wpList_store_head (α := Od) rfl none (.tmp 33) (.tmp 31) 34 rfl rfl 2 (by decide) (by kernel_rfl) gb F.length cF k (k * 10) { G[k] with client := (k : Int).tmod 9, seq := 1 + (k : Int) } HO.out hkG (by first | rfl | simp) rfl (by first | rfl | simp) rfl (show Od.Ok _ _ { G[k] with client := (k : Int).tmod 9, seq := 1 + (k : Int) } from ⟨Hok.out.acct, Hok.out.peer, Hok.out.note, Hok.out.legs⟩) ?_; intro w4 hO4 hg4)
   have hb4 := Hb.out.trans ((Gr.of_grown hg4).below Hb.out.size (fun j e => by injection e with e; omega))
   have HO4 := Lib.hid hO4
   clear hO4 hg4
   go_roundw
   case rel => exact ⟨k + 1, _, by go_num, by omega, Lib.hid (by rw [List.length_set]; exact HGl.out), Lib.hid (fun x hx => by
    rcases List.mem_or_eq_of_mem_set hx with hx | rfl
    ·exact HG.out x hx
    ·exact ⟨odB_id2 HG1.out.1 (idK_le2 k) (by unfold R64; omega), HG1.out.2⟩), Lib.hid (fun j hj hjk => by
    rw [List.getElem_set]
    split
    ·rename_i e; subst e; rfl
    ·exact HQ.out j (by rw [List.length_set] at hj; exact hj) (by omega)), HO4.out, hb4⟩
   case measure => simp [intOf]; omega
  ·obtain rfl : k = F.length := by omega
   have g1 : decide ((F.length : Int) < (F.length : Int)) = false := decide_eq_false (by omega)
   obtain ⟨w5, rfl⟩ : ∃ w5, w5 = wr := ⟨wr, rfl⟩
   obtain ⟨L, rfl⟩ : ∃ L, L = G := ⟨G, rfl⟩
   have nL : L.length ≤ 50 := by rw [HGl.out]; exact hn
   obtain ⟨AL, cL, hv5, hsL⟩ := hO.sl
   injection hv5 with e1 e2 e3
   subst e1 e3
   have e2 : F.length = L.length := HGl.out.symm
   rw [e2]
   rw [e2] at g1
   have HoL := Lib.hid (show ∀ x ∈ L, OdB x from fun x hx => (HG.out x hx).1)
   have HlL := Lib.hid (show ∀ x ∈ L, x.legs.length ≤ 65536 from fun x hx => Nat.le_trans (HG.out x hx).2 (by decide))
   have Hnd := Lib.hid (seq_nodup (G := L) (fun j hj => HQ.out j hj (by rw [← HGl.out]; exact hj)))
   have Hb5 := Lib.hid (Hb1.out.trans (hb.mono Hb1.out.size))
   have HLs := Lib.hid (fun V (hV : Below w5.heap.size w5 V) => hsL.later hV)
   have HM := Lib.hid (amoves_c _ _ L w5 hsL HoL.out HlL.out (by omega))
   clear hsL hw2 hO hb e2 HGl HG HQ Hod Hleg hn Hb1 hlt hk
   go_wp2_with fail
   refine HM.out.mono ?_
   rintro e w6 ⟨vm, M, rfl, hcore, hOm, hF⟩
   obtain ⟨X, hX⟩ := larg_law n hcore Hnd.out
   have HX := Lib.hid hX
   have Hmk := Lib.hid (mv_ok HoL.out hcore)
   have HLg := Lib.hid (alarg_c _ _ L n w6 (HLs.out _ hF) HoL.out HlL.out (by omega))
   have hM60 : M.length ≤ 50 := by have := congrArg List.length hcore; rw [List.length_map, List.length_map] at this; have := movedL_len L; omega
   obtain ⟨Am, cm, rfl, hsm⟩ := hOm.sl
   have hcm : M.length ≤ cm := hsm.1
   have HMs := Lib.hid (fun V (hV : Below w6.heap.size w6 V) => hsm.later hV)
   have Hb6 := Lib.hid (Hb5.out.trans (hF.mono Hb5.out.size))
   generalize largI L n = I at *
   clear HM hX hcore hOm hsm hF HLs Hnd Hb5 HoL HlL
   go_wp2_with fail
   refine HLg.out.mono ?_
   rintro e w7 ⟨vi, rfl, hOi, hF⟩
   obtain ⟨Ai, ci, rfl, hsi⟩ := hOi.sl
   have hci : I.length ≤ ci := hsi.1
   have HIs := Lib.hid (fun V (hV : Below w7.heap.size w7 V) => hsi.later hV)
   have HMs := Lib.hid (fun V (hV : Below w7.heap.size w7 V) => HMs.out V (hF.trans (hV.mono hF.size)))
   have Hb7 := Lib.hid (Hb6.out.trans (hF.mono Hb6.out.size))
   have hI50 : I.length ≤ 50 := by have := HX.out.len; omega
   have z1 : ((I.length : Int) != min (max n 0) (M.length : Int)) = false := by rw [← HX.out.len]; simp
   clear HLg hOi hsi hF Hb6
   go_wp2_with fail
   clear z1
   go_loopw [8, 9] (fun v8 v9 wr => ∃ (i : Nat) (lv : Int), v8 = i64 lv ∧ v9 = i64 (i : Int) ∧ i ≤ I.length ∧ Hid (lv = lastA X i) ∧ Hid (Below w7.heap.size w7 wr)) (fun _ v9 _ => I.length - (intOf v9).toNat)
   case atStart => exact ⟨0, 9223372036854775807, by go_num, by go_num, Nat.zero_le _, Lib.hid rfl, Lib.hid (Below.refl _ _)⟩
   case round =>
    obtain ⟨i, lv, rfl, rfl, hi, Hlv, Hb⟩ := hrel
    by_cases hiI : i < I.length
    ·have g3 : decide ((i : Int) < (I.length : Int)) = true := decide_eq_true (by omega)
     have g3b : decide (i < I.length) = true := decide_eq_true hiI
     have i0 : (0 : Int) ≤ (i : Int) := by omega
     have i1 : (i : Int) < (I.length : Int) := by omega
     go_wp2_with fail
     go_loopw [10, 11] (fun v10 v11 wr => ∃ (j : Nat) (gv : Int), v10 = i64 gv ∧ v11 = i64 (j : Int) ∧ j ≤ M.length ∧ Hid (gv = gotM (M.take j) I[i]) ∧ Hid (Below w7.heap.size w7 wr)) (fun _ v11 _ => M.length - (intOf v11).toNat)
     case atStart => exact ⟨0, -1, by go_num, by go_num, Nat.zero_le _, Lib.hid rfl, Hb⟩
     case round =>
      clear Hb
      obtain ⟨j, gv, rfl, rfl, hj, Hgv, Hb⟩ := hrel
      obtain ⟨wo, rfl⟩ : ∃ wo, wo = wr := ⟨wr, rfl⟩
      by_cases hjM : j < M.length
      ·have g4 : decide ((j : Int) < (M.length : Int)) = true := decide_eq_true (by omega)
       have g4b : decide (j < M.length) = true := decide_eq_true hjM
       have j0 : (0 : Int) ≤ (j : Int) := by omega
       have j1 : (j : Int) < (M.length : Int) := by omega
       obtain ⟨bm, om, rfl, hbm, hok, c0, c1, -, c3⟩ := (HMs.out _ Hb.out).mv hjM
       obtain ⟨bi, oi, rfl, hbi, -, hc⟩ := (HIs.out _ Hb.out).at_ hiI
       have d0 : wo.cell? ⟨bi, oi + i * 2, none⟩ = some (i64 I[i].client) := hc 0 _ rfl
       have d1 : wo.cell? ⟨bi, oi + i * 2 + 1, none⟩ = some (i64 I[i].seq) := hc 1 _ rfl
       have Hgn := Lib.hid (gotM_take hjM I[i])
       have Hxk := Lib.hid (Hmk.out M[j] (List.getElem_mem hjM))
       obtain ⟨x, hx⟩ : ∃ x, M[j] = x := ⟨_, rfl⟩
       obtain ⟨y, hy⟩ : ∃ y, I[i] = y := ⟨_, rfl⟩
       simp only [hx, hy] at c0 c1 c3 d0 d1 Hgn Hxk Hgv hok
       rw [← Hgv.out] at Hgn
       have hwo := Hb.out.size
       have HS : Hid (∀ V, Below wo.heap.size wo V → (fun V : World => Below wo.heap.size wo V ∧ V.cell? ⟨bm, om + j * 4, none⟩ = some (i64 x.client) ∧ V.cell? ⟨bm, om + j * 4 + 1, none⟩ = some (i64 x.seq) ∧ V.cell? ⟨bi, oi + i * 2, none⟩ = some (i64 y.client) ∧ V.cell? ⟨bi, oi + i * 2 + 1, none⟩ = some (i64 y.seq)) V) := Lib.hid fun V hV => ⟨hV, (hV.cell (p := ⟨bm, om + j * 4, none⟩) hbm).trans c0, (hV.cell (p := ⟨bm, om + j * 4 + 1, none⟩) hbm).trans c1, (hV.cell (p := ⟨bi, oi + i * 2, none⟩) hbi).trans d0, (hV.cell (p := ⟨bi, oi + i * 2 + 1, none⟩) hbi).trans d1⟩
       have Hc3 := Lib.hid (fun V (hV : Below wo.heap.size wo V) => (hV.cell (p := ⟨bm, om + j * 4 + 3, none⟩) hbm).trans c3)
       have HAm := Lib.hid (fun V (hV : Below wo.heap.size wo V) => lamount_c x.la x.lc x.legs V (SlS.later (show Sl wo wo.heap.size x.la x.lc x.legs from hok.legs) hV) Hxk.out.1 Hxk.out.2)
       have Hxy := Lib.hid (show I[i] = y from hy)
       clear hc c0 c1 c3 d0 d1 hx hok Hxk hbm hbi Hgv
       by_cases heq : Id.mk x.client x.seq = y
       ·have Hg2 := Lib.hid (show gotM (M.take (j + 1)) I[i] = amtL x.legs by rw [Hxy.out, Hgn.out, if_pos heq])
        have q1 : ∀ W : World, (binOp .eql 34 (.agg #[i64 x.client, i64 x.seq]) (.agg #[i64 y.client, i64 y.seq])).run Tryz.prog W = .ok (.bool true) W := fun W => by rw [eq_id, decide_eq_true (show Id.mk x.client x.seq = ⟨y.client, y.seq⟩ from heq)]
        clear Hgn heq hy
        go_upto_region 20 with fail
        refine wp_region_noPanic ?_
        refine wp_region_l 9 (fun V : World => Below wo.heap.size wo V ∧ V.cell? ⟨bm, om + j * 4, none⟩ = some (i64 x.client) ∧ V.cell? ⟨bm, om + j * 4 + 1, none⟩ = some (i64 x.seq) ∧ V.cell? ⟨bi, oi + i * 2, none⟩ = some (i64 y.client) ∧ V.cell? ⟨bi, oi + i * 2 + 1, none⟩ = some (i64 y.seq)) (by kernel_rfl) (HS.out _ (Below.refl _ _).drew) (fun hH => ?_)
        refine tkY 0 (v := ?v20001) ?y20001 ?r20001
        case y20001 => (intro W hW; go_simp; try with_reducible rfl)
        try simp only [List.set]
        refine tkY 1 (v := ?v20002) ?y20002 ?r20002
        case y20002 => (intro W hW; go_simp; try with_reducible rfl)
        try simp only [List.set]
        refine tkY 2 (v := ?v20003) ?y20003 ?r20003
        case y20003 => (intro W hW; go_simp; try with_reducible rfl)
        try simp only [List.set]
        refine tkY 3 (v := ?v20004) ?y20004 ?r20004
        case y20004 => (intro W hW; go_simp; try with_reducible rfl)
        try simp only [List.set]
        refine tkY 4 (v := ?v20005) ?y20005 ?r20005
        case y20005 => (intro W hW; go_simp; try with_reducible rfl)
        try simp only [List.set]
        refine tkY 5 (v := ?v20006) ?y20006 ?r20006
        case y20006 => (intro W hW; go_simp; try with_reducible rfl)
        try simp only [List.set]
        refine tkY 6 (v := ?v20007) ?y20007 ?r20007
        case y20007 => (intro W hW; go_simp; try with_reducible rfl)
        try simp only [List.set]
        refine tkY 7 (v := ?v20008) ?y20008 ?r20008
        case y20008 => (intro W hW; go_simp; try with_reducible rfl)
        try simp only [List.set]
        refine tkY 8 (v := ?v20009) ?y20009 ?r20009
        case y20009 => (intro W hW; go_simp; try with_reducible rfl)
        try simp only [List.set]
        refine wpAnyL_last (by kernel_rfl) rfl (fun K hK => ?_)
        go_simp
        refine hK.out _ _ ?_
        clear hK K
        try simp only [Act.put, List.getElem_toArray, List.getElem_cons_zero, List.getElem_cons_succ, List.setIfInBounds_toArray, List.set_cons_zero, List.set_cons_succ]
        refine wpAnyL_done (by kernel_rfl) ?_ _
        refine NoPanic.normal ?_
        have hbf := hH.1
        clear hH HS q1
        have c3 := Hc3.out _ hbf
        go_wp2_with fail
        refine (HAm.out _ hbf).mono ?_
        rintro e w9 ⟨rfl, hF⟩
        have Hb9 := Lib.hid (Hb.out.trans ((below_on hbf (Nat.le_refl _) hF).mono hwo))
        clear hF HAm c3 Hc3 hbf
        go_wp2
        go_roundw
        case rel => exact ⟨j + 1, amtL x.legs, by go_num, by go_num, by omega, Lib.hid Hg2.out.symm, Hb9⟩
        case measure => simp [intOf]; omega
       ·have Hg2 := Lib.hid (show gotM (M.take (j + 1)) I[i] = gv by rw [Hxy.out, Hgn.out, if_neg heq])
        have q1 : ∀ W : World, (binOp .eql 34 (.agg #[i64 x.client, i64 x.seq]) (.agg #[i64 y.client, i64 y.seq])).run Tryz.prog W = .ok (.bool false) W := fun W => by rw [eq_id, decide_eq_false (show ¬ Id.mk x.client x.seq = ⟨y.client, y.seq⟩ from heq)]
        clear Hgn heq hy Hc3 HAm
        go_upto_region 20 with fail
        refine wp_region_noPanic ?_
        refine wp_region_l 9 (fun V : World => Below wo.heap.size wo V ∧ V.cell? ⟨bm, om + j * 4, none⟩ = some (i64 x.client) ∧ V.cell? ⟨bm, om + j * 4 + 1, none⟩ = some (i64 x.seq) ∧ V.cell? ⟨bi, oi + i * 2, none⟩ = some (i64 y.client) ∧ V.cell? ⟨bi, oi + i * 2 + 1, none⟩ = some (i64 y.seq)) (by kernel_rfl) (HS.out _ (Below.refl _ _).drew) (fun hH => ?_)
        refine tkY 0 (v := ?v20010) ?y20010 ?r20010
        case y20010 => (intro W hW; go_simp; try with_reducible rfl)
        try simp only [List.set]
        refine tkY 1 (v := ?v20011) ?y20011 ?r20011
        case y20011 => (intro W hW; go_simp; try with_reducible rfl)
        try simp only [List.set]
        refine tkY 2 (v := ?v20012) ?y20012 ?r20012
        case y20012 => (intro W hW; go_simp; try with_reducible rfl)
        try simp only [List.set]
        refine tkY 3 (v := ?v20013) ?y20013 ?r20013
        case y20013 => (intro W hW; go_simp; try with_reducible rfl)
        try simp only [List.set]
        refine tkY 4 (v := ?v20014) ?y20014 ?r20014
        case y20014 => (intro W hW; go_simp; try with_reducible rfl)
        try simp only [List.set]
        refine tkY 5 (v := ?v20015) ?y20015 ?r20015
        case y20015 => (intro W hW; go_simp; try with_reducible rfl)
        try simp only [List.set]
        refine tkY 6 (v := ?v20016) ?y20016 ?r20016
        case y20016 => (intro W hW; go_simp; try with_reducible rfl)
        try simp only [List.set]
        refine tkY 7 (v := ?v20017) ?y20017 ?r20017
        case y20017 => (intro W hW; go_simp; try with_reducible rfl)
        try simp only [List.set]
        refine tkY 8 (v := ?v20018) ?y20018 ?r20018
        case y20018 => (intro W hW; go_simp; try with_reducible rfl)
        try simp only [List.set]
        refine wpAnyL_last (by kernel_rfl) rfl (fun K hK => ?_)
        go_simp
        refine hK.out _ _ ?_
        clear hK K
        try simp only [Act.put, List.getElem_toArray, List.getElem_cons_zero, List.getElem_cons_succ, List.setIfInBounds_toArray, List.set_cons_zero, List.set_cons_succ]
        refine wpAnyL_done (by kernel_rfl) ?_ _
        refine NoPanic.normal ?_
        have hbf := hH.1
        clear hH HS q1
        have Hb9 := Lib.hid (Hb.out.trans (hbf.mono hwo))
        clear hbf
        go_wp2
        go_roundw
        case rel => exact ⟨j + 1, gv, by go_num, by go_num, by omega, Lib.hid Hg2.out.symm, Hb9⟩
        case measure => simp [intOf]; omega
      ·obtain rfl : j = M.length := by omega
       have g4 : decide ((M.length : Int) < (M.length : Int)) = false := decide_eq_false (by omega)
       obtain ⟨f1, f2, f3⟩ := HX.out.got i hiI
       have hgv : gv = lastA X (i + 1) := by rw [Hgv.out, List.take_length]; exact f1
       rw [← hgv] at f2 f3
       rw [← Hlv.out] at f3
       have g5 : decide (gv < 0) = false := decide_eq_false (by omega)
       have g6 : decide (gv > lv) = false := decide_eq_false (by omega)
       have g6b : decide (lv < gv) = false := decide_eq_false (by omega)
       have Hgv2 := Lib.hid hgv
       clear hgv f1 f2 f3 Hgv hjM
       go_wp2
       go_roundw
       case rel => exact ⟨i + 1, gv, by go_num, by go_num, by omega, Hgv2, Hb⟩
       case measure => simp [intOf]; omega
    ·obtain rfl : i = I.length := by omega
     have g3 : decide ((I.length : Int) < (I.length : Int)) = false := decide_eq_false (by omega)
     go_wp2_with fail
     go_loopw [12] (fun v12 wr => ∃ (k : Nat), v12 = i64 (k : Int) ∧ k ≤ M.length ∧ Hid (Below w7.heap.size w7 wr)) (fun v12 _ => M.length - (intOf v12).toNat)
     case atStart => exact ⟨0, by go_num, Nat.zero_le _, Hb⟩
     case round =>
      clear Hb
      obtain ⟨k, rfl, hk, Hb⟩ := hrel
      by_cases hkM : k < M.length
      ·have g4 : decide ((k : Int) < (M.length : Int)) = true := decide_eq_true (by omega)
       have g4b : decide (k < M.length) = true := decide_eq_true hkM
       have j0 : (0 : Int) ≤ (k : Int) := by omega
       have j1 : (k : Int) < (M.length : Int) := by omega
       obtain ⟨x, hx⟩ : ∃ x, M[k] = x := ⟨_, rfl⟩
       have Hx := Lib.hid hx
       clear hx
       go_wp2_with fail
       go_loopw [13, 14] (fun v13 v14 wr => ∃ (j : Nat) (fb : Bool), v13 = .bool fb ∧ v14 = i64 (j : Int) ∧ j ≤ I.length ∧ Hid (fb = decide (Id.mk x.client x.seq ∈ I.take j)) ∧ Hid (Below w7.heap.size w7 wr)) (fun _ v14 _ => I.length - (intOf v14).toNat)
       case atStart => exact ⟨0, false, rfl, by go_num, Nat.zero_le _, Lib.hid (by simp), Hb⟩
       case round =>
        clear Hb
        obtain ⟨j, fb, rfl, rfl, hj, Hfb, Hb⟩ := hrel
        obtain ⟨wo, rfl⟩ : ∃ wo, wo = wr := ⟨wr, rfl⟩
        obtain ⟨bm, om, rfl, hbm, hok, c0, c1, -, c3⟩ := (HMs.out _ Hb.out).mv hkM
        have Hxk := Lib.hid (Hmk.out M[k] (List.getElem_mem hkM))
        simp only [Hx.out] at c0 c1 c3 Hxk hok
        have hwo := Hb.out.size
        by_cases hjI : j < I.length
        ·have g5 : decide ((j : Int) < (I.length : Int)) = true := decide_eq_true (by omega)
         have g5b : decide (j < I.length) = true := decide_eq_true hjI
         have i0 : (0 : Int) ≤ (j : Int) := by omega
         have i1 : (j : Int) < (I.length : Int) := by omega
         obtain ⟨bi, oi, rfl, hbi, -, hc⟩ := (HIs.out _ Hb.out).at_ hjI
         have d0 : wo.cell? ⟨bi, oi + j * 2, none⟩ = some (i64 I[j].client) := hc 0 _ rfl
         have d1 : wo.cell? ⟨bi, oi + j * 2 + 1, none⟩ = some (i64 I[j].seq) := hc 1 _ rfl
         have Hst := Lib.hid (mem_take_step hjI (Id.mk x.client x.seq))
         rw [← Hfb.out] at Hst
         obtain ⟨y, hy⟩ : ∃ y, I[j] = y := ⟨_, rfl⟩
         simp only [hy] at d0 d1 Hst
         obtain ⟨qb, hqb⟩ : ∃ qb, decide (y = Id.mk x.client x.seq) = qb := ⟨_, rfl⟩
         have q1 : ∀ W : World, (binOp .eql 34 (.agg #[i64 y.client, i64 y.seq]) (.agg #[i64 x.client, i64 x.seq])).run Tryz.prog W = .ok (.bool qb) W := fun W => by rw [eq_id, ← hqb]
         rw [hqb] at Hst
         have HS : Hid (∀ V, Below wo.heap.size wo V → (fun V : World => Below wo.heap.size wo V ∧ V.cell? ⟨bi, oi + j * 2, none⟩ = some (i64 y.client) ∧ V.cell? ⟨bi, oi + j * 2 + 1, none⟩ = some (i64 y.seq) ∧ V.cell? ⟨bm, om + k * 4, none⟩ = some (i64 x.client) ∧ V.cell? ⟨bm, om + k * 4 + 1, none⟩ = some (i64 x.seq)) V) := Lib.hid fun V hV => ⟨hV, (hV.cell (p := ⟨bi, oi + j * 2, none⟩) hbi).trans d0, (hV.cell (p := ⟨bi, oi + j * 2 + 1, none⟩) hbi).trans d1, (hV.cell (p := ⟨bm, om + k * 4, none⟩) hbm).trans c0, (hV.cell (p := ⟨bm, om + k * 4 + 1, none⟩) hbm).trans c1⟩
         clear hc c0 c1 c3 d0 d1 hok Hxk hbm hbi Hfb hqb hy
         cases fb with
         | true =>
          go_upto_region 32 with fail
          refine wp_region_noPanic ?_
          refine wp_region_l 13 (fun V : World => Below wo.heap.size wo V ∧ V.cell? ⟨bi, oi + j * 2, none⟩ = some (i64 y.client) ∧ V.cell? ⟨bi, oi + j * 2 + 1, none⟩ = some (i64 y.seq) ∧ V.cell? ⟨bm, om + k * 4, none⟩ = some (i64 x.client) ∧ V.cell? ⟨bm, om + k * 4 + 1, none⟩ = some (i64 x.seq)) (by kernel_rfl) (HS.out _ (Below.refl _ _).drew) (fun hH => ?_)
          refine tkY 0 (v := ?v20019) ?y20019 ?r20019
          case y20019 => (intro W hW; go_simp; try with_reducible rfl)
          try simp only [List.set]
          refine tkY 1 (v := ?v20020) ?y20020 ?r20020
          case y20020 => (intro W hW; go_simp; try with_reducible rfl)
          try simp only [List.set]
          refine tkN 2 ?_
          try simp only [List.set]
          refine tkN 3 ?_
          try simp only [List.set]
          refine tkN 4 ?_
          try simp only [List.set]
          refine tkN 5 ?_
          try simp only [List.set]
          refine tkN 6 ?_
          try simp only [List.set]
          refine tkN 7 ?_
          try simp only [List.set]
          refine tkN 8 ?_
          try simp only [List.set]
          refine tkN 9 ?_
          try simp only [List.set]
          refine tkN 10 ?_
          try simp only [List.set]
          refine tkN 11 ?_
          try simp only [List.set]
          refine tkY 12 (v := ?v20031) ?y20031 ?r20031
          case y20031 => (intro W hW; go_simp; try with_reducible rfl)
          try simp only [List.set]
          refine wpAnyL_last (by kernel_rfl) rfl (fun K hK => ?_)
          go_simp
          refine hK.out _ _ ?_
          clear hK K
          try simp only [Act.put, List.getElem_toArray, List.getElem_cons_zero, List.getElem_cons_succ, List.setIfInBounds_toArray, List.set_cons_zero, List.set_cons_succ]
          refine wpAnyL_done (by kernel_rfl) ?_ _
          refine NoPanic.normal ?_
          have hbf := hH.1
          clear hH HS q1
          have Hb9 := Lib.hid (Hb.out.trans (hbf.mono hwo))
          clear hbf
          go_wp2
          go_roundw
          case rel => exact ⟨j + 1, true, by go_num, by go_num, by omega, Lib.hid (by rw [Hst.out]; rfl), Hb9⟩
          case measure => simp [intOf]; omega
         | false =>
          rw [Bool.false_or] at Hst
          go_upto_region 32 with fail
          refine wp_region_noPanic ?_
          refine wp_region_l 13 (fun V : World => Below wo.heap.size wo V ∧ V.cell? ⟨bi, oi + j * 2, none⟩ = some (i64 y.client) ∧ V.cell? ⟨bi, oi + j * 2 + 1, none⟩ = some (i64 y.seq) ∧ V.cell? ⟨bm, om + k * 4, none⟩ = some (i64 x.client) ∧ V.cell? ⟨bm, om + k * 4 + 1, none⟩ = some (i64 x.seq)) (by kernel_rfl) (HS.out _ (Below.refl _ _).drew) (fun hH => ?_)
          refine tkY 0 (v := ?v20032) ?y20032 ?r20032
          case y20032 => (intro W hW; go_simp; try with_reducible rfl)
          try simp only [List.set]
          refine tkY 1 (v := ?v20033) ?y20033 ?r20033
          case y20033 => (intro W hW; go_simp; try with_reducible rfl)
          try simp only [List.set]
          refine tkY 2 (v := ?v20034) ?y20034 ?r20034
          case y20034 => (intro W hW; go_simp; try with_reducible rfl)
          try simp only [List.set]
          refine tkY 3 (v := ?v20035) ?y20035 ?r20035
          case y20035 => (intro W hW; go_simp; try with_reducible rfl)
          try simp only [List.set]
          refine tkY 4 (v := ?v20036) ?y20036 ?r20036
          case y20036 => (intro W hW; go_simp; try with_reducible rfl)
          try simp only [List.set]
          refine tkY 5 (v := ?v20037) ?y20037 ?r20037
          case y20037 => (intro W hW; go_simp; try with_reducible rfl)
          try simp only [List.set]
          refine tkY 6 (v := ?v20038) ?y20038 ?r20038
          case y20038 => (intro W hW; go_simp; try with_reducible rfl)
          try simp only [List.set]
          refine tkY 7 (v := ?v20039) ?y20039 ?r20039
          case y20039 => (intro W hW; go_simp; try with_reducible rfl)
          try simp only [List.set]
          refine tkY 8 (v := ?v20040) ?y20040 ?r20040
          case y20040 => (intro W hW; go_simp; try with_reducible rfl)
          try simp only [List.set]
          refine tkY 9 (v := ?v20041) ?y20041 ?r20041
          case y20041 => (intro W hW; go_simp; try with_reducible rfl)
          try simp only [List.set]
          refine tkY 10 (v := ?v20042) ?y20042 ?r20042
          case y20042 => (intro W hW; go_simp; try with_reducible rfl)
          try simp only [List.set]
          refine tkY 11 (v := ?v20043) ?y20043 ?r20043
          case y20043 => (intro W hW; go_simp; try with_reducible rfl)
          try simp only [List.set]
          refine tkY 12 (v := ?v20044) ?y20044 ?r20044
          case y20044 => (intro W hW; go_simp; try with_reducible rfl)
          try simp only [List.set]
          refine wpAnyL_last (by kernel_rfl) rfl (fun K hK => ?_)
          go_simp
          refine hK.out _ _ ?_
          clear hK K
          try simp only [Act.put, List.getElem_toArray, List.getElem_cons_zero, List.getElem_cons_succ, List.setIfInBounds_toArray, List.set_cons_zero, List.set_cons_succ]
          refine wpAnyL_done (by kernel_rfl) ?_ _
          refine NoPanic.normal ?_
          have hbf := hH.1
          clear hH HS q1
          have Hb9 := Lib.hid (Hb.out.trans (hbf.mono hwo))
          clear hbf
          go_wp2
          go_roundw
          case rel => exact ⟨j + 1, qb, by go_num, by go_num, by omega, Lib.hid (by rw [Hst.out]), Hb9⟩
          case measure => simp [intOf]; omega
        ·obtain rfl : j = I.length := by omega
         have g5 : decide ((I.length : Int) < (I.length : Int)) = false := decide_eq_false (by omega)
         have Hfb2 := Lib.hid (show fb = decide (Id.mk x.client x.seq ∈ I) by have := Hfb.out; rwa [List.take_length] at this)
         have HAm := Lib.hid (fun V (hV : Below wo.heap.size wo V) => lamount_c x.la x.lc x.legs V (SlS.later (show Sl wo wo.heap.size x.la x.lc x.legs from hok.legs) hV) Hxk.out.1 Hxk.out.2)
         clear hok Hxk c0 c1 Hfb hjI
         cases fb with
         | true =>
          clear c3 HAm
          go_wp2
          go_roundw
          case rel => exact ⟨k + 1, by go_num, by omega, Hb⟩
          case measure => simp [intOf]; omega
         | false =>
          by_cases hI0 : 0 < I.length
          ·have g6 : decide ((I.length : Int) > 0) = true := decide_eq_true (by omega)
           have g6b : decide ((0 : Int) < (I.length : Int)) = true := decide_eq_true (by omega)
           have g6c : decide (0 < I.length) = true := decide_eq_true hI0
           have hfar := HX.out.far k hkM hI0 (by rw [Hx.out]; exact of_decide_eq_false Hfb2.out.symm)
           rw [Hx.out, ← Hlv.out] at hfar
           have g7 : decide (amtL x.legs > lv) = false := decide_eq_false (by omega)
           have g7b : decide (lv < amtL x.legs) = false := decide_eq_false (by omega)
           clear hfar
           go_wp2_with fail
           refine (HAm.out _ (Below.refl _ _)).mono ?_
           rintro e w9 ⟨rfl, hF⟩
           have Hb9 := Lib.hid (Hb.out.trans (hF.mono hwo))
           clear hF HAm c3
           go_wp2
           go_roundw
           case rel => exact ⟨k + 1, by go_num, by omega, Hb9⟩
           case measure => simp [intOf]; omega
          ·have g6 : decide ((I.length : Int) > 0) = false := decide_eq_false (by omega)
           have g6b : decide ((0 : Int) < (I.length : Int)) = false := decide_eq_false (by omega)
           have g6c : decide (0 < I.length) = false := decide_eq_false hI0
           clear c3 HAm
           go_wp2
           go_roundw
           case rel => exact ⟨k + 1, by go_num, by omega, Hb⟩
           case measure => simp [intOf]; omega
      ·obtain rfl : k = M.length := by omega
       have g4 : decide ((M.length : Int) < (M.length : Int)) = false := decide_eq_false (by omega)
       have hend := Hb7.out.trans (Hb.out.mono Hb7.out.size)
       go_wp2
       go_ret
       exact ⟨rfl, hend⟩
end Go.Proofs.YtgholbeehkfbiaaGreat
