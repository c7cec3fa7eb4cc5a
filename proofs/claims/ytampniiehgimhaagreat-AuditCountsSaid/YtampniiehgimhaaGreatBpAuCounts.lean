/- AuditCounts -/
import Derived.Test.YtampniiehgimhaaGreatRows
import Derived.Test.YtampniiehgimhaaGreatBq37
import Derived.Test.YtampniiehgimhaaGreatBq26
import Derived.Test.YtampniiehgimhaaGreatBq4
import Derived.Test.YtampniiehgimhaaGreatBq5
import Derived.WalkKit
import Derived.WalkSpells
import Derived.WalkLawsBesides
import Derived.Deep.QuietTactic
import Derived.BigQuiet
import Derived.Laws.StructEq
import Derived.Deep.DeepFit
import Derived.StillTailTactics
namespace Go.Proofs.YtampniiehgimhaaGreat
open Go.RowKit
theorem neq_id2 (a b c d : Int) (w : World) : (binOp .neq 34 (.agg #[i64 a, i64 b]) (.agg #[i64 c, i64 d])).run Tryz.prog w = .ok (.bool (!decide (Id.mk a b = ⟨c, d⟩))) w := by
 have u3 := Tryz.underlying3
 have a3 := Tryz.isAgg3
 have z3 := Tryz.sizeOf3
 have hS : Tryz.prog.underlying 34 = some (.struct (Tryz.prog.fieldsOf 34)) := by kernel_rfl
 have hp : Tryz.prog.stoodInHeld 34 = false := by kernel_rfl
 rw [run_neq_struct, show (10000 : Nat) = 9999 + 1 from rfl, run_equalIn_agg w 9999 34 _ _ hS hp]
 simp only [Program.fieldsOf, Tryz.underlying34]
 go_simp
 by_cases h1 : a = c <;> by_cases h2 : b = d <;> simp [h1, h2]
theorem sub_next {a b : Id} {I S : List Id} (h : (a :: I).Sublist (b :: S)) (e : a = b) : I.Sublist S := by
 subst e
 exact List.cons_sublist_cons.1 h
theorem sub_skip {a b : Id} {I S : List Id} (h : (a :: I).Sublist (b :: S)) (e : ¬ a = b) : (a :: I).Sublist S := by
 cases h with
 | cons _ h => exact h
 | cons_cons _ h => exact absurd rfl e
theorem errs_nn (R : List Rp) : ∀ a ∈ errsL R, 0 ≤ a := fun a ha => by
 obtain ⟨e, -, rfl⟩ := List.mem_map.1 ha
 exact (cntE_range R e).1
theorem movedZ_one (x : Od) (r : Rp) : (movedZ [(x, r)]).length = if mvB (x, r) = true then 1 else 0 := by
 unfold movedZ
 cases hb : mvB (x, r) <;> simp [List.filter_cons, hb]
theorem larg_len (l : List Od) (n : Int) : (largI l n).length = min (max n 0).toNat (movedL l).length := by
 unfold largI
 rw [List.length_map, List.length_take, (sortB_perm _).length_eq, List.length_map]
set_option maxRecDepth 100000 in
set_option maxHeartbeats 16000000 in
theorem auditCounts_c (A : Option Addr) (c : Nat) (l : List Od) (note : ByteArray) (w : World) (h : Sl w w.heap.size A c l) (hr : ∀ x ∈ l, InR x) (_hs : note.size ≤ maxLen) :
  Calls Tryz.prog 7 #[.slice A l.length c, .string note] w fun e w' => e = .returned (.bool true) ∧ Below w.heap.size w w' := by
 have hL := Lib.hid fun W => lives_22 W
 have Hod := Lib.hid (fewL_od (n := 60) h hr)
 have H := Lib.hid h
 clear h hr
 go_enter Tryz.func7, Tryz.ntmps7
 go_wp2_with fail
 refine (hL.out _).mono ?_
 rintro e w1 ⟨rfl, hF⟩
 have hb1 := hF
 have hl1 := H.out.later hF
 clear hL hF
 have HFw := Lib.hid (few_22 A c 60 l w1 hl1 (by decide))
 go_wp2_with fail
 refine HFw.out.mono ?_
 rintro e w2 ⟨v, rfl, hO, hF⟩
 have hn := fewL_le 60 l
 have Hleg := Lib.hid (show ∀ x ∈ fewL 60 l, x.legs.length ≤ 65536 from fun x hx => Nat.le_trans (fewL_legs 60 l x hx) (by decide))
 have Hb2 := Lib.hid (hb1.trans (hF.mono hb1.size))
 obtain ⟨AF, cF, rfl, hsF⟩ := hO.sl
 have hcF : (fewL 60 l).length ≤ cF := hsF.1
 have HFs := Lib.hid (fun V (hV : Below w2.heap.size w2 V) => hsF.later hV)
 have HE := Lib.hid (aerrors_c AF cF (fewL 60 l) w2 hsF Hod.out Hleg.out (by omega))
 clear hF hb1 hl1 HFw hO H hsF
 generalize fewL 60 l = F at *
 have Hnn := Lib.hid (errs_nn (toldL bk0 F))
 have Hsum := Lib.hid (show sumL (errsL (toldL bk0 F)) = (F.length : Int) by rw [errsL_sum _ (toldL_errN F bk0), toldL_len])
 obtain ⟨E, hE⟩ : ∃ E, errsL (toldL bk0 F) = E := ⟨_, rfl⟩
 have hE15 : E.length = 15 := by rw [← hE]; exact errsL_len _
 rw [hE] at HE Hnn Hsum
 clear hE
 obtain ⟨e0, e1, e2, e3, e4, e5, e6, e7, e8, e9, e10, e11, e12, e13, e14, hEl⟩ := list15 hE15
 rw [hEl] at HE
 simp only [List.map_cons, List.map_nil] at HE
 have HEl := Lib.hid hEl
 clear hEl
 go_wp2_with fail
 refine HE.out.mono ?_
 rintro e w3 ⟨rfl, hF3⟩
 have hob := heap_alloc_new w3 (.cells #[i64 e0, i64 e1, i64 e2, i64 e3, i64 e4, i64 e5, i64 e6, i64 e7, i64 e8, i64 e9, i64 e10, i64 e11, i64 e12, i64 e13, i64 e14] 82)
 have hb4 := hF3.alloc hF3.size (.cells #[i64 e0, i64 e1, i64 e2, i64 e3, i64 e4, i64 e5, i64 e6, i64 e7, i64 e8, i64 e9, i64 e10, i64 e11, i64 e12, i64 e13, i64 e14] 82)
 clear hF3 HE
 go_wp2_with fail
 generalize w3.alloc (.cells #[i64 e0, i64 e1, i64 e2, i64 e3, i64 e4, i64 e5, i64 e6, i64 e7, i64 e8, i64 e9, i64 e10, i64 e11, i64 e12, i64 e13, i64 e14] 82) = w4 at *
 have Hcell := Lib.hid (show ∀ (k : Nat) (hk : k < E.length), w4.cell? ⟨w3.heap.size, k, none⟩ = some (i64 E[k]) from fun k hk => by
  rw [cell_of_row _ _ k _ _ (0, 0) hob, show #[i64 e0, i64 e1, i64 e2, i64 e3, i64 e4, i64 e5, i64 e6, i64 e7, i64 e8, i64 e9, i64 e10, i64 e11, i64 e12, i64 e13, i64 e14] = (E.map fun n => i64 n).toArray by rw [HEl.out]; rfl, List.getElem?_toArray, List.getElem?_map, List.getElem?_eq_getElem hk]
  rfl)
 have Hb4 := Lib.hid hb4
 clear hob hb4 HEl
 go_loopw [6, 7] (fun v6 v7 wr => ∃ (k : Nat) (s : Int), v6 = i64 s ∧ v7 = i64 (k : Int) ∧ k ≤ 15 ∧ Hid (s = sumL (E.take k)) ∧ Hid (w4 = wr)) (fun _ v7 _ => 15 - (intOf v7).toNat)
 case atStart => exact ⟨0, 0, by go_num, by go_num, Nat.zero_le _, Lib.hid rfl, Lib.hid rfl⟩
 case round =>
  obtain ⟨k, s, rfl, rfl, hk, Hs, Hw⟩ := hrel
  obtain rfl : w4 = wr := Hw.out
  clear Hw
  have s0 := sumL_nn (E.take k) (fun a ha => Hnn.out a (List.mem_of_mem_take ha))
  have s1 := sumL_pre E Hnn.out k
  by_cases hlt : k < 15
  ·have g1 : decide ((k : Int) < 15) = true := decide_eq_true (by omega)
   have g2 : decide (k < 15) = true := decide_eq_true hlt
   have i0 : (0 : Int) ≤ (k : Int) := by omega
   have i1 : (k : Int) < 15 := by omega
   have hkE : k < E.length := by omega
   have d0 := Hcell.out k hkE
   have hst := sumL_take hkE
   have s2 := sumL_nn (E.take (k + 1)) (fun a ha => Hnn.out a (List.mem_of_mem_take ha))
   have s3 := sumL_pre E Hnn.out (k + 1)
   rw [Hsum.out] at s1 s3
   rw [hst] at s2 s3
   rw [← Hs.out] at s0 s1 s2 s3 hst
   generalize E[k] = ek at *
   have w1 : IntKind.i64.wrap (s + ek) = s + ek := by rw [IntKind.wrap_i64]; omega
   have Hst := Lib.hid hst
   clear hst s0 s1 s2 s3
   go_wp2
   go_roundw
   case rel => exact ⟨k + 1, s + ek, by go_num, by go_num, by omega, Lib.hid Hst.out.symm, by first | exact Lib.hid rfl | exact Lib.hid trivial⟩
   case measure => simp [intOf]; omega
  ·obtain rfl : k = 15 := by omega
   have g1 : decide (((15 : Nat) : Int) < 15) = false := by decide
   have hsF : s = (F.length : Int) := by rw [Hs.out, List.take_of_length_le (by omega), Hsum.out]
   subst hsF
   clear hlt hk s0 s1 Hs Hcell Hnn Hsum hE15
   have HB := Lib.hid (bfold_c AF cF F w4 (HFs.out _ Hb4.out) Hod.out Hleg.out (by omega))
   go_wp2_with fail
   refine HB.out.mono ?_
   rintro e w5 ⟨a, vt, B0, rfl, -, -, hOt, -, -, hF⟩
   obtain ⟨At, ct, rfl, hst⟩ := hOt.sl
   have hRl : (toldL bk0 F).length = F.length := toldL_len F bk0
   have hct : (toldL bk0 F).length ≤ ct := hst.1
   have HS := Lib.hid (fun V (hV : Below w5.heap.size w5 V) => hst.later hV)
   have Hb5 := Lib.hid (Hb4.out.trans (hF.mono Hb4.out.size))
   have HF5 := Lib.hid (fun V (hV : Below w5.heap.size w5 V) => HFs.out V (Hb5.out.trans (hV.mono Hb5.out.size)))
   have HT := Lib.hid (show ∀ k (hk : k < F.length) (hk2 : k < (toldL bk0 F).length), (movedZ ((toldZ bk0 F).take (k + 1))).length = (movedZ ((toldZ bk0 F).take k)).length + if (decide ((toldL bk0 F)[k].err = 0) && (decide (F[k].kind = 2) || decide (F[k].kind = 4))) = true then 1 else 0 from fun k hk hk2 => by
    rw [toldZ_take bk0 hk, movedZ_app, List.length_append]
    congr 1
    exact movedZ_one _ _)
   have HZe := Lib.hid (show movedZ ((toldZ bk0 F).take F.length) = movedL F by rw [List.take_of_length_le (Nat.le_of_eq (toldZ_len _ _))])
   have HZl := Lib.hid (show ∀ k, (movedZ ((toldZ bk0 F).take k)).length ≤ F.length from fun k => by
    unfold movedZ
    rw [List.length_map]
    refine Nat.le_trans (List.length_filter_le _ _) (Nat.le_trans ?_ (Nat.le_of_eq (toldZ_len bk0 F)))
    rw [List.length_take]; omega)
   generalize toldL bk0 F = R at *
   generalize toldZ bk0 F = Z at *
   clear HB hOt hst hF Hb4 HFs
   go_wp2_with fail
   go_loopw [10, 11] (fun v10 v11 wr => ∃ (k q : Nat), v10 = i64 (q : Int) ∧ v11 = i64 (k : Int) ∧ k ≤ F.length ∧ Hid (q = (movedZ (Z.take k)).length) ∧ Hid (Below w5.heap.size w5 wr)) (fun _ v11 _ => F.length - (intOf v11).toNat)
   case atStart => exact ⟨0, 0, by go_num, by go_num, Nat.zero_le _, Lib.hid rfl, Lib.hid (Below.refl _ _)⟩
   case round =>
    obtain ⟨k, q, rfl, rfl, hk, Hq, Hb⟩ := hrel
    have hq60 : q ≤ 60 := by rw [Hq.out]; exact Nat.le_trans (HZl.out k) hn
    by_cases hlt : k < F.length
    ·have g1 : decide ((k : Int) < (F.length : Int)) = true := decide_eq_true (by omega)
     have g2 : decide (k < F.length) = true := decide_eq_true hlt
     have i0 : (0 : Int) ≤ (k : Int) := by omega
     have i1 : (k : Int) < (F.length : Int) := by omega
     have hkR : k < R.length := by omega
     have i2 : (k : Int) < (R.length : Int) := by omega
     obtain ⟨b, o, rfl, hbb, hok, -, -, c2, -, -, -, -, -, -, -⟩ := (HF5.out _ Hb.out).od hlt
     obtain ⟨bt, ot, rfl, hbt, r0, -⟩ := (HS.out _ Hb.out).rp hkR
     have ht := HT.out k hlt hkR
     rw [← Hq.out] at ht
     generalize F[k] = x at *
     generalize R[k] = r at *
     obtain ⟨b1, hb1⟩ : ∃ b, decide (r.err = 0) = b := ⟨_, rfl⟩
     obtain ⟨b2, hb2⟩ : ∃ b, decide (x.kind = 2) = b := ⟨_, rfl⟩
     obtain ⟨b4, hb4⟩ : ∃ b, decide (x.kind = 4) = b := ⟨_, rfl⟩
     rw [hb1, hb2, hb4] at ht
     have y1 : (r.err == 0) = b1 := by rw [← hb1]; rfl
     have y2 : (x.kind == 2) = b2 := by rw [← hb2]; rfl
     have y4 : (x.kind == 4) = b4 := by rw [← hb4]; rfl
     have Ht := Lib.hid ht
     clear ht hb1 hb2 hb4 Hq hbb hok hbt
     cases b1 with
     | false =>
      go_wp2
      go_roundw
      case rel => exact ⟨k + 1, q, by go_num, by go_num, by omega, Lib.hid (by rw [Ht.out]; rfl), Hb⟩
      case measure => simp [intOf]; omega
     | true =>
      cases b2 with
      | true =>
       go_wp2
       go_roundw
       case rel => exact ⟨k + 1, q + 1, by go_num, by go_num, by omega, Lib.hid (by rw [Ht.out]; rfl), Hb⟩
       case measure => simp [intOf]; omega
      | false =>
       cases b4 with
       | true =>
        go_wp2
        go_roundw
        case rel => exact ⟨k + 1, q + 1, by go_num, by go_num, by omega, Lib.hid (by rw [Ht.out]; rfl), Hb⟩
        case measure => simp [intOf]; omega
       | false =>
        go_wp2
        go_roundw
        case rel => exact ⟨k + 1, q, by go_num, by go_num, by omega, Lib.hid (by rw [Ht.out]; rfl), Hb⟩
        case measure => simp [intOf]; omega
    ·obtain rfl : k = F.length := by omega
     have g1 : decide ((F.length : Int) < (F.length : Int)) = false := decide_eq_false (by omega)
     have hqm := Lib.hid (show q = (movedL F).length by rw [Hq.out, HZe.out])
     obtain ⟨w6, rfl⟩ : ∃ w6, w6 = wr := ⟨wr, rfl⟩
     have HM := Lib.hid (amoves_c AF cF F w6 (HF5.out _ Hb.out) Hod.out Hleg.out (by omega))
     have HNt := Lib.hid (fun V (hV : Below w6.heap.size w6 V) => anotes_c AF cF F note V (HF5.out V (Hb.out.trans (hV.mono Hb.out.size))) Hod.out Hleg.out (by omega))
     have HLg := Lib.hid (fun n V (hV : Below w6.heap.size w6 V) => alarg_c AF cF F n V (HF5.out V (Hb.out.trans (hV.mono Hb.out.size))) Hod.out Hleg.out (by omega))
     have Hb6 := Lib.hid (Hb2.out.trans ((Hb5.out.trans (Hb.out.mono Hb5.out.size)).mono Hb2.out.size))
     clear Hq HZe HZl HT HS HF5 Hb5 Hb Hb2 hlt hk
     go_wp2_with fail
     refine HM.out.mono ?_
     rintro e w7 ⟨vm, M, rfl, hcore, hOm, hF⟩
     have HqM := Lib.hid (show M.length = (movedL F).length by have := congrArg List.length hcore; rwa [List.length_map, List.length_map] at this)
     have HmF := Lib.hid (movedL_len F)
     obtain ⟨Am, cm, rfl, hsm⟩ := hOm.sl
     have hcm : M.length ≤ cm := hsm.1
     have HMs := Lib.hid (fun V (hV : Below w7.heap.size w7 V) => hsm.later hV)
     have hc7 := hF
     clear hOm hsm hF HM
     go_wp2_with fail
     refine (HNt.out _ hc7).mono ?_
     rintro e w8 ⟨vi, rfl, hOi, hF⟩
     have hsub : (((movedL F).filter fun x => decide (x.note = note)).map Od.id).Sublist (M.map fun m : Mv => Id.mk m.client m.seq) := by
      have e : (M.map fun m : Mv => Id.mk m.client m.seq) = (movedL F).map Od.id := by
       have := congrArg (List.map (·.1)) hcore
       rw [List.map_map, List.map_map] at this
       exact this
      rw [e]
      exact List.filter_sublist.map _
     generalize ((movedL F).filter fun x => decide (x.note = note)).map Od.id = I at *
     obtain ⟨Ai, ci, rfl, hsi⟩ := hOi.sl
     have hci : I.length ≤ ci := hsi.1
     have HMs := Lib.hid (fun V (hV : Below w8.heap.size w8 V) => HMs.out V (hF.trans (hV.mono hF.size)))
     have HIs := Lib.hid (fun V (hV : Below w8.heap.size w8 V) => hsi.later hV)
     have Hc8 := Lib.hid (below_on hc7 (Nat.le_refl _) hF)
     have HL1 := Lib.hid (larg_len F)
     obtain rfl : q = M.length := by have := HqM.out; have := hqm.out; omega
     have Hsub := Lib.hid hsub
     have hI60 : I.length ≤ 60 := by have := hsub.length_le; have := HqM.out; have := HmF.out; simp only [List.length_map] at *; omega
     clear hOi hsi hF hc7 HNt hsub hcore hqm
     generalize (movedL F).length = mm at *
     go_wp2_with fail
     go_loopw [14, 15] (fun v14 v15 wr => ∃ (i j : Nat), v14 = i64 (j : Int) ∧ v15 = i64 (i : Int) ∧ i ≤ I.length ∧ j ≤ M.length ∧ Hid ((I.drop i).Sublist ((M.map fun m : Mv => Id.mk m.client m.seq).drop j)) ∧ Hid (Below w8.heap.size w8 wr)) (fun _ v15 _ => I.length - (intOf v15).toNat)
     case atStart => exact ⟨0, 0, by go_num, by go_num, Nat.zero_le _, Nat.zero_le _, Hsub, Lib.hid (Below.refl _ _)⟩
     case round =>
      clear Hsub
      obtain ⟨i, j, rfl, rfl, hi, hj, Hsb, Hb⟩ := hrel
      by_cases hiI : i < I.length
      ·have g3 : decide ((i : Int) < (I.length : Int)) = true := decide_eq_true (by omega)
       have g3b : decide (i < I.length) = true := decide_eq_true hiI
       have i0 : (0 : Int) ≤ (i : Int) := by omega
       have i1 : (i : Int) < (I.length : Int) := by omega
       go_wp2_with fail
       go_loopw [14] (fun v14 wr => ∃ (j : Nat), v14 = i64 (j : Int) ∧ j ≤ M.length ∧ Hid ((I.drop i).Sublist ((M.map fun m : Mv => Id.mk m.client m.seq).drop j)) ∧ Hid (Below w8.heap.size w8 wr)) (fun v14 _ => M.length - (intOf v14).toNat)
       case atStart => exact ⟨j, rfl, hj, Hsb, Hb⟩
       case round =>
        clear Hsb Hb hj
        obtain ⟨j, rfl, hj, Hsb, Hb⟩ := hrel
        obtain ⟨wo, rfl⟩ : ∃ wo, wo = wr := ⟨wr, rfl⟩
        have hjM : j < M.length := by
         have := Hsb.out.length_le
         rw [List.length_drop, List.length_drop, List.length_map] at this
         omega
        have g4 : decide ((j : Int) < (M.length : Int)) = true := decide_eq_true (by omega)
        have g4b : decide (j < M.length) = true := decide_eq_true hjM
        have j0 : (0 : Int) ≤ (j : Int) := by omega
        have j1 : (j : Int) < (M.length : Int) := by omega
        obtain ⟨bm, om, rfl, hbm, hok, c0, c1, -, -⟩ := (HMs.out _ Hb.out).mv hjM
        obtain ⟨bi, oi, rfl, hbi, -, hc⟩ := (HIs.out _ Hb.out).at_ hiI
        have d0 : wo.cell? ⟨bi, oi + i * 2, none⟩ = some (i64 I[i].client) := hc 0 _ rfl
        have d1 : wo.cell? ⟨bi, oi + i * 2 + 1, none⟩ = some (i64 I[i].seq) := hc 1 _ rfl
        have hjm : j < (M.map fun m : Mv => Id.mk m.client m.seq).length := by rw [List.length_map]; exact hjM
        have hS0 := Hsb.out
        rw [List.drop_eq_getElem_cons hiI, List.drop_eq_getElem_cons hjm, List.getElem_map] at hS0
        have HS0 := Lib.hid hS0
        have HdI := Lib.hid (show I.drop i = I[i] :: I.drop (i + 1) from List.drop_eq_getElem_cons hiI)
        obtain ⟨x, hx⟩ : ∃ x, M[j] = x := ⟨_, rfl⟩
        obtain ⟨y, hy⟩ : ∃ y, I[i] = y := ⟨_, rfl⟩
        simp only [hx, hy] at c0 c1 d0 d1 HS0 HdI
        have hwo := Hb.out.size
        have HS : Hid (∀ V, Below wo.heap.size wo V → (fun V : World => Below wo.heap.size wo V ∧ V.cell? ⟨bm, om + j * 4, none⟩ = some (i64 x.client) ∧ V.cell? ⟨bm, om + j * 4 + 1, none⟩ = some (i64 x.seq) ∧ V.cell? ⟨bi, oi + i * 2, none⟩ = some (i64 y.client) ∧ V.cell? ⟨bi, oi + i * 2 + 1, none⟩ = some (i64 y.seq)) V) := Lib.hid fun V hV => ⟨hV, (hV.cell (p := ⟨bm, om + j * 4, none⟩) hbm).trans c0, (hV.cell (p := ⟨bm, om + j * 4 + 1, none⟩) hbm).trans c1, (hV.cell (p := ⟨bi, oi + i * 2, none⟩) hbi).trans d0, (hV.cell (p := ⟨bi, oi + i * 2 + 1, none⟩) hbi).trans d1⟩
        clear hS0 Hsb hc c0 c1 d0 d1 hx hy hok hbm hbi
        by_cases heq : Id.mk x.client x.seq = y
        ·have q1 : ∀ W : World, (binOp .neq 34 (.agg #[i64 x.client, i64 x.seq]) (.agg #[i64 y.client, i64 y.seq])).run Tryz.prog W = .ok (.bool false) W := fun W => by rw [neq_id2, decide_eq_true (show Id.mk x.client x.seq = ⟨y.client, y.seq⟩ from heq)]; rfl
         have Hn := Lib.hid (sub_next HS0.out heq.symm)
         have z5 : ((j : Int) == (M.length : Int)) = false := by rw [beq_eq_false_iff_ne]; omega
         clear HS0 heq HdI
         go_upto_region 22 with fail
         refine wp_region_noPanic ?_
         refine wp_region_l 15 (fun V : World => Below wo.heap.size wo V ∧ V.cell? ⟨bm, om + j * 4, none⟩ = some (i64 x.client) ∧ V.cell? ⟨bm, om + j * 4 + 1, none⟩ = some (i64 x.seq) ∧ V.cell? ⟨bi, oi + i * 2, none⟩ = some (i64 y.client) ∧ V.cell? ⟨bi, oi + i * 2 + 1, none⟩ = some (i64 y.seq)) (by kernel_rfl) (HS.out _ (Below.refl _ _).drew) (fun hH => ?_)
         refine tkZ 0 ?_; refine tkZ 1 ?_; refine tkZ 2 ?_; refine tkZ 3 ?_; refine tkZ 4 ?_; refine tkZ 5 ?_; refine tkZ 6 ?_; refine tkZ 7 ?_; refine tkZ 8 ?_; refine tkZ 9 ?_; refine tkZ 10 ?_; refine tkZ 11 ?_; refine tkZ 12 ?_; refine tkZ 13 ?_; refine tkZ 14 ?_
         refine tkL (fun K hK => ?_)
         go_simp
         refine hK.out _ _ ?_
         clear hK K
         try simp only [Act.put, uA, uZ, uS, vA, vZ, vS]
         refine tkD ?_
         have hbf := hH.1
         clear hH HS q1
         have Hb9 := Lib.hid (Hb.out.trans (hbf.mono hwo))
         clear hbf
         go_wp2
         go_roundw
         case rel => exact ⟨i + 1, j + 1, by go_num, by go_num, by omega, by omega, Hn, Hb9⟩
         case measure => simp [intOf]; omega
        ·have q1 : ∀ W : World, (binOp .neq 34 (.agg #[i64 x.client, i64 x.seq]) (.agg #[i64 y.client, i64 y.seq])).run Tryz.prog W = .ok (.bool true) W := fun W => by rw [neq_id2, decide_eq_false (show ¬ Id.mk x.client x.seq = ⟨y.client, y.seq⟩ from heq)]; rfl
         have Hn := Lib.hid (sub_skip HS0.out (fun e => heq e.symm))
         rw [← HdI.out] at Hn
         clear HS0 heq HdI
         go_upto_region 22 with fail
         refine wp_region_noPanic ?_
         refine wp_region_l 15 (fun V : World => Below wo.heap.size wo V ∧ V.cell? ⟨bm, om + j * 4, none⟩ = some (i64 x.client) ∧ V.cell? ⟨bm, om + j * 4 + 1, none⟩ = some (i64 x.seq) ∧ V.cell? ⟨bi, oi + i * 2, none⟩ = some (i64 y.client) ∧ V.cell? ⟨bi, oi + i * 2 + 1, none⟩ = some (i64 y.seq)) (by kernel_rfl) (HS.out _ (Below.refl _ _).drew) (fun hH => ?_)
         refine tkZ 0 ?_; refine tkZ 1 ?_; refine tkZ 2 ?_; refine tkZ 3 ?_; refine tkZ 4 ?_; refine tkZ 5 ?_; refine tkZ 6 ?_; refine tkZ 7 ?_; refine tkZ 8 ?_; refine tkZ 9 ?_; refine tkZ 10 ?_; refine tkZ 11 ?_; refine tkZ 12 ?_; refine tkZ 13 ?_; refine tkZ 14 ?_
         refine tkL (fun K hK => ?_)
         go_simp
         refine hK.out _ _ ?_
         clear hK K
         try simp only [Act.put, uA, uZ, uS, vA, vZ, vS]
         refine tkD ?_
         have hbf := hH.1
         clear hH HS q1
         have Hb9 := Lib.hid (Hb.out.trans (hbf.mono hwo))
         clear hbf
         go_wp2
         go_roundw
         case rel => exact ⟨j + 1, by go_num, by omega, Hn, Hb9⟩
         case measure => simp [intOf]; omega
      ·obtain rfl : i = I.length := by omega
       have g3 : decide ((I.length : Int) < (I.length : Int)) = false := decide_eq_false (by omega)
       have hc9 := Hc8.out.trans (Hb.out.mono Hc8.out.size)
       clear Hb Hc8 HMs HIs Hsb
       go_wp2_with fail
       refine (HLg.out _ _ hc9).mono ?_
       rintro e w10 ⟨v1, rfl, hO1, hF⟩
       have hc10 := below_on hc9 (Nat.le_refl _) hF
       obtain ⟨A1, c1, rfl, -⟩ := hO1.sl
       have hl1 : (largI F (F.length : Int)).length = M.length := by rw [HL1.out]; have := HqM.out; have := HmF.out; omega
       rw [hl1]
       clear hO1 hF hl1 hc9
       go_wp2_with fail
       refine (HLg.out _ _ hc10).mono ?_
       rintro e w11 ⟨v2, rfl, hO2, hF⟩
       have hc11 := below_on hc10 (Nat.le_refl _) hF
       obtain ⟨A2, c2, rfl, -⟩ := hO2.sl
       have hl2 : (largI F (-1)).length = 0 := by rw [HL1.out]; omega
       rw [hl2]
       have hend := Hb6.out.trans (hc11.mono Hb6.out.size)
       clear hO2 hF hl2 hc10 hc11
       go_wp2
       go_ret
       exact ⟨rfl, hend⟩
end Go.Proofs.YtampniiehgimhaaGreat
