/- AuditAlike -/
import Derived.Test.YtgholbeehkfbiaaGreatRows
import Derived.Test.YtgholbeehkfbiaaGreatBpAuNe
import Derived.Test.YtgholbeehkfbiaaGreatBpAuParts
import Derived.Test.YtgholbeehkfbiaaGreatBpAuWeighs
import Derived.Test.YtgholbeehkfbiaaGreatBm2
import Derived.Test.YtgholbeehkfbiaaGreatBm4
import Derived.Test.YtgholbeehkfbiaaGreatBm20
import Derived.Test.YtgholbeehkfbiaaGreatBm15
import Derived.Deep.CutBlock
import Derived.WalkKit
import Derived.WalkSpells
import Derived.WalkLawsBesides
import Derived.Deep.QuietTactic
import Derived.BigQuiet
import Derived.Laws.StructEq
import Derived.Deep.DeepFit
import Derived.StillTailTactics
namespace Go.Proofs.YtgholbeehkfbiaaGreat
open Go.RowKit
theorem told_perm {F m : List Od} (hx : ∀ x ∈ F, OdB x) (h : Mix F m) : (toldL bk0 F).Perm (toldL bk0 m) := by
  have := (mix_told inv_bk0 h hx).2.map (·.2)
  rwa [toldZ_snd, toldZ_snd] at this
theorem legs_mix {F m : List Od} (hx : ∀ x ∈ F, OdB x) (h : Mix F m) (a b : Int) : (legsR (movedL F) a b).Perm (legsR (movedL m) a b) := legsR_perm (movedZ_perm (mix_told inv_bk0 h hx).2) a b
/-- an order with another Id -/
theorem odB_id {x : Od} (h : OdB x) {c s : Int} (hc : R64 c) (hs : R64 s) : OdB { x with client := c, seq := s } := ⟨h.acct, h.peer, hc, hs, h.rng.2.2⟩
theorem idK_le (k : Nat) : R64 ((k : Int).tmod 9) := by
  have h1 := Int.tmod_nonneg 9 (show (0 : Int) ≤ (k : Int) by omega)
  have h2 := Int.tmod_lt_of_pos (k : Int) (show (0 : Int) < 9 by omega)
  unfold R64; omega
set_option maxRecDepth 100000 in
set_option maxHeartbeats 16000000 in
theorem auditAlike_c (A B : Option Addr) (c d : Nat) (l : List Od) (s : List Int) (p : Int) (w : World) (h : Sl w w.heap.size A c l) (hr : ∀ x ∈ l, InR x) (hs : Sl w w.heap.size B d s) (_hp : R64 p) :
    Calls Tryz.prog 11 #[.slice A l.length c, .slice B s.length d, i64 p] w fun e w' => e = .returned (.bool true) ∧ Below w.heap.size w w' := by
  have hL := Lib.hid fun W => lives_22 W
  have Hod := Lib.hid (fewL_od (n := 40) h hr)
  have H := Lib.hid h
  have Hs := Lib.hid hs
  have hsm : s.length ≤ 9223372036854775807 := hs.len_le
  clear h hr hs
  go_enter Tryz.func11, Tryz.ntmps11
  go_wp2_with fail
  refine (hL.out _).mono ?_
  rintro e w1 ⟨rfl, hF⟩
  have hb1 := hF
  have hl1 := H.out.later hF
  clear hL hF
  have HFw := Lib.hid (few_22 A c 40 l w1 hl1 (by decide))
  go_wp2_with fail
  refine HFw.out.mono ?_
  rintro e w2 ⟨v, rfl, hO, hF⟩
  have hn := fewL_le 40 l
  have Hleg := Lib.hid (fewL_legs 40 l)
  have Hb1 := Lib.hid hb1
  have HF2 := Lib.hid hF
  obtain ⟨AF, cF, rfl, -⟩ := hO.sl
  have HO2 := Lib.hid hO
  clear hF hb1 hl1 HFw hO H
  generalize fewL 40 l = F at *
  have hw2 := HF2.out.size
  go_upto_block 0 with fail
  go_cut [7] from 31 to 49 (fun _ wx => ∃ G : List Od, Hid (G.length = F.length) ∧ Hid (∀ x ∈ G, OdB x ∧ x.legs.length ≤ 8) ∧ Own wx w1.heap.size 37 (.slice AF F.length cF) G ∧ Below w1.heap.size w1 wx)
  case first =>
    go_wp2_with fail
    go_loopw [7] (fun i wr => ∃ (k : Nat) (G : List Od), i = i64 k ∧ k ≤ F.length ∧ Hid (G.length = F.length) ∧ Hid (∀ x ∈ G, OdB x ∧ x.legs.length ≤ 8) ∧ Own wr w1.heap.size 37 (.slice AF F.length cF) G ∧ Below w1.heap.size w1 wr) (fun i _ => F.length - (intOf i).toNat)
    case atStart => exact ⟨0, F, rfl, Nat.zero_le _, Lib.hid rfl, Lib.hid (fun x hx => ⟨Hod.out x hx, Hleg.out x hx⟩), HO2.out, HF2.out⟩
    case round =>
      clear HO2 HF2
      obtain ⟨k, G, rfl, hk, HGl, HG, hO, hb⟩ := hrel
      by_cases hlt : k < F.length
      · have g1 : decide ((k : Int) < (F.length : Int)) = true := decide_eq_true (by omega)
        have g2 : decide (k < F.length) = true := decide_eq_true hlt
        have i0 : (0 : Int) ≤ (k : Int) := by omega
        have i1 : (k : Int) < (F.length : Int) := by omega
        have hkG : k < G.length := by rw [HGl.out]; exact hlt
        obtain ⟨gb, cap, cur, hv, hgb, -, hc1, hc2, -, -⟩ := hO.form (by omega)
        injection hv with e1 e2 e3
        subst e1 e3
        clear e2
        have hok := hO.2 G[k] (List.getElem_mem hkG)
        have HO := Lib.hid hO
        have Hok := Lib.hid hok
        have HG1 := Lib.hid (HG.out G[k] (List.getElem_mem hkG))
        have hx1 : wrap64 (1 + (k : Int)) = 1 + (k : Int) := wrap_id (by unfold R64; omega)
        clear hO hok hc1 hc2
        have Hb := Lib.hid hb
        clear hb
        go_wp2_with (refine wpList_store_head (α := Od) rfl none (.tmp 39) (.tmp 37) 34 rfl rfl 2 (by decide) (by kernel_rfl) gb F.length cF k (k * 10) { G[k] with client := (k : Int).tmod 9, seq := 1 + (k : Int) } HO.out hkG (by first | rfl | simp) rfl (by first | rfl | simp) rfl (show Od.Ok _ _ { G[k] with client := (k : Int).tmod 9, seq := 1 + (k : Int) } from ⟨Hok.out.acct, Hok.out.peer, Hok.out.note, Hok.out.legs⟩) ?_; intro w4 hO4 hg4)
        have hb4 := Hb.out.trans ((Gr.of_grown hg4).below Hb.out.size (fun j e => by injection e with e; omega))
        have HO4 := Lib.hid hO4
        clear hO4 hg4
        go_roundw
        case rel => exact ⟨k + 1, _, by go_num, by omega, Lib.hid (by rw [List.length_set]; exact HGl.out), Lib.hid (fun x hx => by
          rcases List.mem_or_eq_of_mem_set hx with hx | rfl
          · exact HG.out x hx
          · exact ⟨odB_id HG1.out.1 (idK_le k) (by unfold R64; omega), HG1.out.2⟩), HO4.out, hb4⟩
        case measure => simp [intOf]; omega
      · obtain rfl : k = F.length := by omega
        have g1 : decide ((F.length : Int) < (F.length : Int)) = false := decide_eq_false (by omega)
        have HO := Lib.hid hO
        have Hb := Lib.hid hb
        clear hO hb
        go_wp2
        go_meet
        exact ⟨G, HGl, HG, HO.out, Hb.out⟩
  case rest =>
    obtain ⟨L, HGl, HG, hO5, hb5⟩ := hcut
    obtain ⟨w5, rfl⟩ : ∃ w5, w5 = wc := ⟨wc, rfl⟩
    have nL : L.length ≤ 40 := by rw [HGl.out]; exact hn
    obtain ⟨AL, cL, hv5, hsL⟩ := hO5.sl
    injection hv5 with e1 e2 e3
    subst e1 e3
    have e2 : F.length = L.length := HGl.out.symm
    rw [e2]
    have HoL := Lib.hid (show ∀ x ∈ L, OdB x from fun x hx => (HG.out x hx).1)
    have HlL := Lib.hid (show ∀ x ∈ L, x.legs.length ≤ 10 from fun x hx => Nat.le_trans (HG.out x hx).2 (by decide))
    have hb05 := Hb1.out.trans (hb5.mono Hb1.out.size)
    have HL5 := Lib.hid (fun V (hV : Below w5.heap.size w5 V) => hsL.later hV)
    have hL5 := Lib.hid hsL
    have Hs5 := Lib.hid (fun V (hV : Below w5.heap.size w5 V) => Hs.out.later (hb05.trans (hV.mono hb05.size)))
    have Hb05 := Lib.hid hb05
    have hper : Hid (∀ m, Mix L m → m.length = L.length) := Lib.hid fun m h => h.perm.length_eq.symm
    clear hsL hb05 hw2 Hs hO5 hb5 e2 HGl HG HO2 HF2 Hod Hleg hn Hb1
    go_upto_block 2 with fail
    go_cut [8] from 41 to 69 (fun s8 wx => ∃ m A' c', s8 = .slice A' m.length c' ∧ Mix L m ∧ Sl wx wx.heap.size A' c' m ∧ Below w5.heap.size w5 wx)
    case first =>
      go_wp2_with fail
      go_loopw [8, 9] (fun v i wr => ∃ k : Nat, i = i64 k ∧ k ≤ s.length ∧ (∃ m A' c', v = .slice A' m.length c' ∧ Mix L m ∧ Sl wr wr.heap.size A' c' m) ∧ Below w5.heap.size w5 wr) (fun _ i _ => s.length - (intOf i).toNat)
      case atStart => exact ⟨0, rfl, by omega, ⟨L, _, _, rfl, .refl L, hL5.out⟩, Below.refl _ _⟩
      case round =>
        obtain ⟨k, rfl, hk, ⟨m, A', c', rfl, hm, hsm2⟩, hb⟩ := hrel
        have hml := hper.out m hm
        by_cases hlt : k < s.length ∧ k < 100
        · obtain ⟨hk1, hk2⟩ := hlt
          obtain ⟨b, o, rfl, hbb, -, hcell⟩ := (Hs5.out _ hb).at_ hk1
          have c0 : wr.cell? ⟨b, o + k, none⟩ = some (i64 s[k]) := by
            have := hcell 0 _ rfl
            rwa [show k * Enc.size Int + 0 = k from Nat.mul_one k] at this
          clear hcell
          have Hm := Lib.hid hm
          have Hb := Lib.hid hb
          have Hs2 := Lib.hid hsm2
          have Hml := Lib.hid hml
          have hml2 : m.length ≤ 65536 := by omega
          have hlm : ∀ x ∈ m, x.legs.length ≤ 10 := fun x hx => HlL.out x (hm.perm.mem_iff.2 hx)
          clear hm hb hsm2 hml
          go_wp2_with fail
          generalize wrap64 _ = ix
          refine (swap_c A' c' m ix _ Hs2.out hml2 hlm).mono ?_
          rintro e w6 ⟨v, rfl, hO, hb1⟩
          have hb2 := below_on Hb.out (Nat.le_refl _) hb1
          by_cases hsw : swapOk m ix = true
          · obtain ⟨A2, c2, rfl, hs3⟩ := hO.sl
            rw [hsw]
            have Hsw := Lib.hid hsw
            clear hsw hO
            go_wp2
            go_roundw
            case rel => exact ⟨k + 1, by go_num, by omega, ⟨swapR m ix, A2, c2, rfl, Hm.out.swap Hsw.out, hs3⟩, hb2⟩
            case measure => simp [intOf]; omega
          · rw [show swapOk m ix = false by simpa using hsw]
            clear hsw hO
            go_wp2
            go_roundw
            case rel => exact ⟨k + 1, by go_num, by omega, ⟨m, A', c', rfl, Hm.out, Hs2.out.later hb1⟩, hb2⟩
            case measure => simp [intOf]; omega
        · have Hm := Lib.hid hm
          have Hs2 := Lib.hid hsm2
          have Hb := Lib.hid hb
          clear hm hsm2 hml hb
          by_cases hk1 : k < s.length
          · have hk2 : ¬ k < 100 := fun h => hlt ⟨hk1, h⟩
            clear hlt
            go_wp2
            go_meet
            exact ⟨m, A', c', rfl, Hm.out, Hs2.out, Hb.out⟩
          · clear hlt
            go_wp2
            go_meet
            exact ⟨m, A', c', rfl, Hm.out, Hs2.out, Hb.out⟩
    case rest =>
      obtain ⟨w6, rfl⟩ : ∃ w6, w6 = wc := ⟨wc, rfl⟩
      obtain ⟨m, AM, cM, rfl, hm, hsM, hb6⟩ := hcut
      have hml : m.length ≤ 40 := Nat.le_trans (Nat.le_of_eq (hper.out m hm)) nL
      have HoM := Lib.hid (show ∀ x ∈ m, OdB x from fun x hx => HoL.out x (hm.perm.mem_iff.2 hx))
      have HlL2 := Lib.hid (show ∀ x ∈ L, x.legs.length ≤ 65536 from fun x hx => Nat.le_trans (HlL.out x hx) (by decide))
      have HlM := Lib.hid (show ∀ x ∈ m, x.legs.length ≤ 65536 from fun x hx => HlL2.out x (hm.perm.mem_iff.2 hx))
      have HTe := Lib.hid (trialL_perm (legs_mix HoL.out hm 0 p))
      have HBe := Lib.hid (fun k => betwL_perm (legs_mix HoL.out hm 0 p) k)
      have HEe := Lib.hid (errsL_perm (told_perm HoL.out hm))
      have HsL6 := Lib.hid (fun V (hV : Below w6.heap.size w6 V) => (HL5.out _ (hb6.trans (hV.mono hb6.size))))
      have HsM6 := Lib.hid (fun V (hV : Below w6.heap.size w6 V) => hsM.later hV)
      have HT1 := Lib.hid (fun V (hV : Below w6.heap.size w6 V) => atrial_c _ _ L p V (HsL6.out V hV) HoL.out HlL2.out (by omega))
      have HT2 := Lib.hid (fun V (hV : Below w6.heap.size w6 V) => atrial_c AM cM m p V (HsM6.out V hV) HoM.out HlM.out (by omega))
      have HE1 := Lib.hid (fun V (hV : Below w6.heap.size w6 V) => aerrors_c _ _ L V (HsL6.out V hV) HoL.out HlL2.out (by omega))
      have HE2 := Lib.hid (fun V (hV : Below w6.heap.size w6 V) => aerrors_c AM cM m V (HsM6.out V hV) HoM.out HlM.out (by omega))
      have HB1 := Lib.hid (fun k V (hV : Below w6.heap.size w6 V) => abetw_c _ _ L k 0 p V (HsL6.out V hV) HoL.out HlL2.out (by omega))
      have HB2 := Lib.hid (fun k V (hV : Below w6.heap.size w6 V) => abetw_c AM cM m k 0 p V (HsM6.out V hV) HoM.out HlM.out (by omega))
      have hta := trial_len HoL.out (by omega) p
      rw [← HTe.out] at HT2
      rw [← HEe.out] at HE2
      simp only [← HBe.out] at HB2
      have Hb6 := Lib.hid (Hb05.out.trans (hb6.mono Hb05.out.size))
      clear hm hsM hb6 HL5 hL5 Hs5 Hb05 hper HTe HBe HEe HsL6 HsM6 HoM HlM HlL2 HoL HlL
      generalize betwL (legsR (movedL L) 0 p) = bw at *
      generalize trialL (legsR (movedL L) 0 p) = Ra at *
      obtain ⟨La, ea⟩ := Ra
      obtain ⟨e0, e1, e2, e3, e4, e5, e6, e7, e8, e9, e10, e11, e12, e13, e14, hEl⟩ := list15 (errsL_len (toldL bk0 L))
      rw [hEl] at HE1 HE2
      simp only [List.map_cons, List.map_nil] at HE1 HE2
      clear hEl
      dsimp only at HT1 HT2 hta
      go_wp2_with fail
      refine (HT1.out _ (Below.refl _ _)).mono ?_
      rintro e w7 ⟨va, rfl, hOa, hF⟩
      have hc := hF
      obtain ⟨A1, c1, rfl, hsa⟩ := hOa.sl
      have HSa := Lib.hid (fun V (hV : Below w7.heap.size w7 V) => hsa.later hV)
      have hca : La.length ≤ c1 := hsa.1
      clear hF hOa hsa HT1
      go_wp2_with fail
      refine (HT2.out _ hc).mono ?_
      rintro e w8 ⟨vb, rfl, hOb, hF⟩
      have HSa8 := Lib.hid (fun V (hV : Below w8.heap.size w8 V) => HSa.out V (hF.trans (hV.mono hF.size)))
      have hc := below_on hc (Nat.le_refl _) hF
      obtain ⟨A2, c2, rfl, hsb⟩ := hOb.sl
      have HSb := Lib.hid (fun V (hV : Below w8.heap.size w8 V) => hsb.later hV)
      have hcb : La.length ≤ c2 := hsb.1
      clear hF hOb hsb HT2 HSa
      have hne := neq_errs e0 e1 e2 e3 e4 e5 e6 e7 e8 e9 e10 e11 e12 e13 e14
      have z1 : (ea != ea) = false := by simp
      have z2 : ((La.length : Int) != (La.length : Int)) = false := by simp
      go_wp2_with fail
      refine (HE1.out _ hc).mono ?_
      rintro e w9 ⟨rfl, hF⟩
      have hc8 := hF
      have hc := below_on hc (Nat.le_refl _) hF
      clear hF HE1
      go_wp2_with fail
      refine (HE2.out _ hc).mono ?_
      rintro e w10 ⟨rfl, hF⟩
      have hc8 := below_on hc8 (Nat.le_refl _) hF
      have hc := below_on hc (Nat.le_refl _) hF
      have hw10 := hc.size
      have HSa10 := Lib.hid (fun V (hV : Below w10.heap.size w10 V) => HSa8.out V (hc8.trans (hV.mono hc8.size)))
      have HSb10 := Lib.hid (fun V (hV : Below w10.heap.size w10 V) => HSb.out V (hc8.trans (hV.mono hc8.size)))
      have Hc := Lib.hid hc
      have HB1 := Lib.hid (fun k V (hV : Below w10.heap.size w10 V) => HB1.out k V (Hc.out.trans (hV.mono hw10)))
      have HB2 := Lib.hid (fun k V (hV : Below w10.heap.size w10 V) => HB2.out k V (Hc.out.trans (hV.mono hw10)))
      have Hend := Lib.hid (fun V (hV : Below w10.heap.size w10 V) => Hb6.out.trans ((Hc.out.trans (hV.mono hw10)).mono Hb6.out.size))
      clear hF HE2 hc8 hc HSa8 HSb Hc Hb6
      go_wp2_with fail
      clear hne
      go_loopw [16] (fun i wr => ∃ k : Nat, i = i64 k ∧ k ≤ La.length ∧ Below w10.heap.size w10 wr) (fun i _ => La.length - (intOf i).toNat)
      case atStart => exact ⟨0, rfl, Nat.zero_le _, Below.refl _ _⟩
      case round =>
        obtain ⟨k, rfl, hk, hb⟩ := hrel
        obtain ⟨wo, rfl⟩ : ∃ wo, wo = wr := ⟨wr, rfl⟩
        by_cases hlt : k < La.length
        · have g1 : decide ((k : Int) < (La.length : Int)) = true := decide_eq_true (by omega)
          have g2 : decide (k < La.length) = true := decide_eq_true hlt
          have i0 : (0 : Int) ≤ (k : Int) := by omega
          have i1 : (k : Int) < (La.length : Int) := by omega
          obtain ⟨ba, oa, rfl, hba, -, a0, a1, a2⟩ := (HSa10.out _ hb).ln hlt
          obtain ⟨bb, ob, rfl, hbb, -, b0, b1, b2⟩ := (HSb10.out _ hb).ln hlt
          obtain ⟨x, hxk⟩ : ∃ x, La[k] = x := ⟨_, rfl⟩
          simp only [hxk] at a0 a1 a2 b0 b1 b2
          have hwo := hb.size
          have HBx := Lib.hid (fun V (hV : Below wo.heap.size wo V) => HB1.out x.acct V (hb.trans (hV.mono hwo)))
          have HBy := Lib.hid (fun V (hV : Below wo.heap.size wo V) => HB2.out x.acct V (hb.trans (hV.mono hwo)))
          generalize bw x.acct = R at *
          have HS : Hid (∀ V, Below wo.heap.size wo V → (fun V : World => Below wo.heap.size wo V ∧ V.cell? ⟨ba, oa + k * 3, none⟩ = some (.string x.acct) ∧ V.cell? ⟨ba, oa + k * 3 + 1, none⟩ = some (i64 x.inn) ∧ V.cell? ⟨ba, oa + k * 3 + 2, none⟩ = some (i64 x.out) ∧ V.cell? ⟨bb, ob + k * 3, none⟩ = some (.string x.acct) ∧ V.cell? ⟨bb, ob + k * 3 + 1, none⟩ = some (i64 x.inn) ∧ V.cell? ⟨bb, ob + k * 3 + 2, none⟩ = some (i64 x.out)) V) := Lib.hid fun V hV => ⟨hV, (hV.cell (p := ⟨ba, oa + k * 3, none⟩) hba).trans a0, (hV.cell (p := ⟨ba, oa + k * 3 + 1, none⟩) hba).trans a1, (hV.cell (p := ⟨ba, oa + k * 3 + 2, none⟩) hba).trans a2, (hV.cell (p := ⟨bb, ob + k * 3, none⟩) hbb).trans b0, (hV.cell (p := ⟨bb, ob + k * 3 + 1, none⟩) hbb).trans b1, (hV.cell (p := ⟨bb, ob + k * 3 + 2, none⟩) hbb).trans b2⟩
          have Hb := Lib.hid hb
          have ha0 := Lib.hid (fun V (hV : Below wo.heap.size wo V) => (hV.cell (p := ⟨ba, oa + k * 3, none⟩) hba).trans a0)
          clear hxk hb b0 b1 b2 a1 a2
          go_wp2_with fail
          refine (HBx.out _ (Below.refl _ _)).mono ?_
          rintro e w11 ⟨rfl, hF⟩
          have hc := hF
          have a0 := ha0.out _ hF
          clear hF HBx
          go_wp2_with fail
          refine (HBy.out _ hc).mono ?_
          rintro e w12 ⟨rfl, hF⟩
          have hc := below_on hc (Nat.le_refl _) hF
          have Hc := Lib.hid hc
          have hwc := hc.size
          clear hF HBy a0 ha0 hc
          have hnl := fun W => neq_ln x x W
          rw [decide_eq_true rfl] at hnl
          have z3 : (R.1 != R.1) = false := by simp
          have z4 : (R.2 != R.2) = false := by simp
          go_upto_region 24 with fail
          refine wp_region_noPanic ?_
          refine wp_region_l 18 (fun V : World => Below wo.heap.size wo V ∧ V.cell? ⟨ba, oa + k * 3, none⟩ = some (.string x.acct) ∧ V.cell? ⟨ba, oa + k * 3 + 1, none⟩ = some (i64 x.inn) ∧ V.cell? ⟨ba, oa + k * 3 + 2, none⟩ = some (i64 x.out) ∧ V.cell? ⟨bb, ob + k * 3, none⟩ = some (.string x.acct) ∧ V.cell? ⟨bb, ob + k * 3 + 1, none⟩ = some (i64 x.inn) ∧ V.cell? ⟨bb, ob + k * 3 + 2, none⟩ = some (i64 x.out)) (by kernel_rfl) (HS.out _ (Hc.out.drew)) (fun hH => ?_)
          refine tkY 0 (v := ?v20001) ?y20001 ?r20001
          case y20001 => (intro W hW; go_simp; try with_reducible rfl)
          try simp only [List.set]
          refine tkY 1 (v := ?v20002) ?y20002 ?r20002
          case y20002 => (intro W hW; go_simp; try with_reducible rfl)
          try simp only [List.set]
          refine tkY 2 (v := ?v20003) ?y20003 ?r20003
          case y20003 => (intro W hW; go_simp; try with_reducible rfl)
          try simp only [List.set]
          refine tkY 3 (v := ?v20004) ?y20004 ?r20004
          case y20004 => (intro W hW; go_simp; try with_reducible rfl)
          try simp only [List.set]
          refine tkY 4 (v := ?v20005) ?y20005 ?r20005
          case y20005 => (intro W hW; go_simp; try with_reducible rfl)
          try simp only [List.set]
          refine tkY 5 (v := ?v20006) ?y20006 ?r20006
          case y20006 => (intro W hW; go_simp; try with_reducible rfl)
          try simp only [List.set]
          refine tkY 6 (v := ?v20007) ?y20007 ?r20007
          case y20007 => (intro W hW; go_simp; try with_reducible rfl)
          try simp only [List.set]
          refine tkY 7 (v := ?v20008) ?y20008 ?r20008
          case y20008 => (intro W hW; go_simp; try with_reducible rfl)
          try simp only [List.set]
          refine tkY 8 (v := ?v20009) ?y20009 ?r20009
          case y20009 => (intro W hW; go_simp; try with_reducible rfl)
          try simp only [List.set]
          refine tkY 9 (v := ?v20010) ?y20010 ?r20010
          case y20010 => (intro W hW; go_simp; try with_reducible rfl)
          try simp only [List.set]
          refine tkY 10 (v := ?v20011) ?y20011 ?r20011
          case y20011 => (intro W hW; go_simp; try with_reducible rfl)
          try simp only [List.set]
          refine tkY 11 (v := ?v20012) ?y20012 ?r20012
          case y20012 => (intro W hW; go_simp; try with_reducible rfl)
          try simp only [List.set]
          refine tkY 12 (v := ?v20013) ?y20013 ?r20013
          case y20013 => (intro W hW; go_simp; try with_reducible rfl)
          try simp only [List.set]
          refine tkY 13 (v := ?v20014) ?y20014 ?r20014
          case y20014 => (intro W hW; go_simp; try with_reducible rfl)
          try simp only [List.set]
          refine tkY 14 (v := ?v20015) ?y20015 ?r20015
          case y20015 => (intro W hW; go_simp; try with_reducible rfl)
          try simp only [List.set]
          refine tkY 15 (v := ?v20016) ?y20016 ?r20016
          case y20016 => (intro W hW; go_simp; try with_reducible rfl)
          try simp only [List.set]
          refine tkY 16 (v := ?v20017) ?y20017 ?r20017
          case y20017 => (intro W hW; go_simp; try with_reducible rfl)
          try simp only [List.set]
          refine tkY 17 (v := ?v20018) ?y20018 ?r20018
          case y20018 => (intro W hW; go_simp; try with_reducible rfl)
          try simp only [List.set]
          refine wpAnyL_last (by kernel_rfl) rfl (fun K hK => ?_)
          go_simp
          refine hK.out _ _ ?_
          clear hK K
          try simp only [Act.put, List.getElem_toArray, List.getElem_cons_zero, List.getElem_cons_succ, List.setIfInBounds_toArray, List.set_cons_zero, List.set_cons_succ]
          refine wpAnyL_done (by kernel_rfl) ?_ _
          refine NoPanic.normal ?_
          have hbf := hH.1
          clear hH HS
          go_wp2
          go_roundw
          case rel => exact ⟨k + 1, by go_num, by omega, Hb.out.trans (hbf.mono hwo)⟩
          case measure => simp [intOf]; omega
        · obtain rfl : k = La.length := by omega
          have g1 : decide ((La.length : Int) < (La.length : Int)) = false := decide_eq_false (by omega)
          have hend := Hend.out _ hb
          clear hb
          go_wp2
          go_ret
          exact ⟨rfl, hend⟩
end Go.Proofs.YtgholbeehkfbiaaGreat
