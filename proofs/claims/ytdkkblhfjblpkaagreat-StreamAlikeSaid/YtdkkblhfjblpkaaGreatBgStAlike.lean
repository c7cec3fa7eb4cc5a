/- StreamAlike -/
import Derived.Test.YtdkkblhfjblpkaaGreatRows
import Derived.Test.YtdkkblhfjblpkaaGreatBk16
import Derived.Test.YtdkkblhfjblpkaaGreatBk1
import Derived.Test.YtdkkblhfjblpkaaGreatBk12
import Derived.Test.YtdkkblhfjblpkaaGreatBgNames5
import Derived.Test.YtdkkblhfjblpkaaGreatBi5
import Derived.Test.YtdkkblhfjblpkaaGreatBi1
import Derived.Test.YtdkkblhfjblpkaaGreatBk17
import Derived.Test.YtdkkblhfjblpkaaGreatBgOperNot
import Derived.Deep.CutBlock
import Derived.WalkKit
import Derived.WalkSpells
import Derived.WalkLawsBesides
import Derived.Deep.QuietTactic
import Derived.BigQuiet
import Derived.Laws.StructEq
import Derived.Deep.DeepFit
import Derived.StillTailTactics
namespace Go.Proofs.YtdkkblhfjblpkaaGreat
open Go.RowKit
set_option maxRecDepth 100000 in
set_option maxHeartbeats 16000000 in
theorem streamAlike_c (A B : Option Addr) (c d : Nat) (l : List Od) (s : List Int) (w : World) (h : Sl w w.heap.size A c l) (hr : ∀ x ∈ l, InR x) (hs : Sl w w.heap.size B d s) :
    Calls Tryz.prog 8 #[.slice A l.length c, .slice B s.length d] w fun e w' => e = .returned (.bool true) ∧ Below w.heap.size w w' := by
  have hL := Lib.hid fun W => lives_12 W
  have Hod := Lib.hid (fewL_od (n := 40) h hr)
  have Hleg := Lib.hid (fun x hx => Nat.le_trans (fewL_legs 40 l x hx) (by decide : 8 ≤ 10))
  have H := Lib.hid h
  have Hs := Lib.hid hs
  have hsm : s.length ≤ 9223372036854775807 := hs.len_le
  clear h hr hs
  go_enter Tryz.func8, Tryz.ntmps8
  go_wp2_with fail
  refine (hL.out _).mono ?_
  rintro e w1 ⟨rfl, hF⟩
  have hb1 := hF
  have hl1 := H.out.later hF
  clear hL hF
  have HFw := Lib.hid (few_12 A c 40 l w1 hl1 (by decide))
  go_wp2_with fail
  refine HFw.out.mono ?_
  rintro e w2 ⟨v, rfl, hO, hF⟩
  have hb2 := below_on hb1 (Nat.le_refl _) hF
  have hn := fewL_le 40 l
  obtain ⟨AF, cF, rfl, hsF⟩ := hO.sl
  clear hF hb1 hl1 HFw hO H
  generalize fewL 40 l = F at *
  have HF := Lib.hid hsF
  have hFc : F.length ≤ cF := hsF.1
  have hw2 : w.heap.size ≤ w2.heap.size := hb2.size
  have Hb2 := Lib.hid hb2
  clear hsF hb2
  go_upto_block 0 with fail
  go_cut [5] from 17 (fun s5 wx => Own wx w2.heap.size 50 s5 (ownL F) ∧ Below w2.heap.size w2 wx)
  case first =>
    go_wp2_with fail
    go_loopw [5, 6] (fun v i wr => ∃ k : Nat, i = i64 k ∧ k ≤ F.length ∧ Own wr w2.heap.size 50 v (ownK F k) ∧ Below w2.heap.size w2 wr) (fun _ i _ => F.length - (intOf i).toNat)
    case atStart => exact ⟨0, rfl, by omega, Own.nil_ _ _ _, Below.refl _ _⟩
    case round =>
      obtain ⟨k, rfl, hk, hO, hb⟩ := hrel
      by_cases hlt : k < F.length
      · obtain ⟨b, o, rfl, hbb, hok, c0, c1, c2, c3, c4, c5, c6, c7, c8, c9⟩ := (HF.out.below hb).od hlt
        have Hok := Lib.hid hok
        have HO := Lib.hid hO
        have HB := Lib.hid hb
        clear hok hO
        go_wp2_with fail
        refine (at_any _ cF F F[k].id _ (HF.out.keep (fun _ hp => HB.out.cell hp) (fun _ hp => Nat.lt_of_lt_of_le hp HB.out.size)) (Nat.le_trans hn (by decide))).mono ?_
        rintro e w3 ⟨rfl, hb1⟩
        have hbw := HB.out.trans (hb1.mono HB.out.size)
        have hO1 := HO.out.later hb1
        obtain ⟨_, _, hA1, _, hok1, d0, d1, d2, d3, d4, d5, d6, d7, d8, d9⟩ := (HF.out.below hbw).od hlt
        injection hA1 with hA1
        injection hA1 with hA2 hA3
        subst hA2 hA3
        have Hok1 := Lib.hid hok1
        have HO1 := Lib.hid hO1
        clear hok1 hO1 hb1 c0 c1 c2 c3 c4 c5 c6 c7 c8 c9
        by_cases hat : atIdx F F[k].id = (k : Int)
        · have hq : (atIdx F F[k].id == (k : Int)) = true := beq_iff_eq.2 hat
          have Hs1 := Lib.hid (show ownK F (k + 1) = ownK F k ++ [F[k]] by rw [ownK_succ hlt, if_pos hat])
          have Hk := Lib.hid (ownK_len F k)
          have hB2 := (Below.refl w3.heap.size w3).alloc (Nat.le_refl _) (.cells F[k].cells.toArray 50)
          have hb2 := hbw.trans (hB2.mono hbw.size)
          have hO2 := HO1.out.later hB2
          have HO2 := Lib.hid hO2
          have Hok2 := Lib.hid (Enc.keep (x := F[k]) Hok1.out (fun _ hp => hB2.cell (Nat.lt_of_lt_of_le hp hbw.size)) (hO2.oth (Nat.le_refl _) hb2.size))
          have HH := Lib.hid (heap_alloc_new w3 (.cells F[k].cells.toArray 50))
          have Hne := Lib.hid (HO1.out.new_ne (Nat.le_refl w3.heap.size))
          have Hb3 := Lib.hid hb2
          clear hO2 hb2 hB2 hat
          simp only [Od.cells] at HO2 HH Hb3 Hok2
          generalize atIdx F F[k].id = r at *
          go_wp2_with (at_builtin; refine wpList_append_one rfl (some 38) (.tmp 32) (.tmp 37) 22 rfl rfl _ 120 Tryz.underlying22 inf_od rfl (by decide) (by decide) rfl HO2.out w3.heap.size F[k] rfl _ 50 HH.out rfl Hne.out Hok2.out (by have := Hk.out; omega) Hb3.out.size ?_; intro v3 w4 hO3 hg3 hat3)
          go_roundw
          case rel => exact ⟨k + 1, by go_num, by omega, by rw [Hs1.out]; exact hO3, Hb3.out.trans (HO2.out.below hg3 (Nat.le_refl _) Hb3.out.size)⟩
          case measure => simp [intOf]; omega
        · have hq : (atIdx F F[k].id == (k : Int)) = false := beq_eq_false_iff_ne.2 hat
          have Hs1 := Lib.hid (show ownK F (k + 1) = ownK F k by rw [ownK_succ hlt, if_neg hat])
          clear hat
          generalize atIdx F F[k].id = r at *
          go_wp2
          go_roundw
          case rel => exact ⟨k + 1, by go_num, by omega, by rw [Hs1.out]; exact HO1.out, hbw⟩
          case measure => simp [intOf]; omega
      · obtain rfl : k = F.length := by omega
        have HO := Lib.hid hO
        have HB := Lib.hid hb
        clear hO hb
        go_wp2
        go_meet
        exact ⟨HO.out, HB.out⟩
  case rest =>
    obtain ⟨w5, rfl⟩ : ∃ w5, w5 = wc := ⟨wc, rfl⟩
    obtain ⟨hO5, hb5⟩ := hcut
    have nL : (ownL F).length ≤ 40 := Nat.le_trans (ownK_len F F.length) hn
    have HoL := Lib.hid (show ∀ x ∈ ownL F, OdB x from fun x hx => Hod.out x (ownK_sub F _ x hx))
    have HlL := Lib.hid (show ∀ x ∈ ownL F, x.legs.length ≤ 10 from fun x hx => Hleg.out x (ownK_sub F _ x hx))
    have hb05 := Hb2.out.trans (hb5.mono hw2)
    obtain ⟨AL, cL, hv5, hsL⟩ := hO5.sl
    subst hv5
    clear hO5 hb5 Hod Hleg HF Hb2
    generalize ownL F = L at *
    have HL5 := Lib.hid (fun V (hV : Below w5.heap.size w5 V) => hsL.later hV)
    have hL5 := Lib.hid hsL
    have Hs5 := Lib.hid (fun V (hV : Below w5.heap.size w5 V) => Hs.out.later (hb05.trans (hV.mono hb05.size)))
    have Hb05 := Lib.hid hb05
    have hper : Hid (∀ m, Mix L m → m.length = L.length) := Lib.hid fun m h => h.perm.length_eq.symm
    clear hsL hb05 hw2 Hs
    go_upto_block 2 with fail
    go_cut [7] from 40 (fun s7 wx => ∃ m A' c', s7 = .slice A' m.length c' ∧ Mix L m ∧ Sl wx wx.heap.size A' c' m ∧ Below w5.heap.size w5 wx)
    case first =>
      go_wp2_with fail
      go_loopw [7, 8] (fun v i wr => ∃ k : Nat, i = i64 k ∧ k ≤ s.length ∧ (∃ m A' c', v = .slice A' m.length c' ∧ Mix L m ∧ Sl wr wr.heap.size A' c' m) ∧ Below w5.heap.size w5 wr) (fun _ i _ => s.length - (intOf i).toNat)
      case atStart => exact ⟨0, rfl, by omega, ⟨L, AL, cL, rfl, .refl L, hL5.out⟩, Below.refl _ _⟩
      case round =>
        obtain ⟨k, rfl, hk, ⟨m, A', c', rfl, hm, hsm2⟩, hb⟩ := hrel
        have hml := hper.out m hm
        by_cases hlt : k < s.length ∧ k < 200
        · obtain ⟨hk1, hk2⟩ := hlt
          obtain ⟨b, o, rfl, hbb, -, hcell⟩ := (Hs5.out _ hb).at_ hk1
          have c0 : wr.cell? ⟨b, o + k, none⟩ = some (i64 s[k]) := by
            have := hcell 0 _ rfl
            rwa [show k * Enc.size Int + 0 = k from Nat.mul_one k] at this
          clear hcell
          have Hm := Lib.hid hm
          have Hb := Lib.hid hb
          have Hs2 := Lib.hid hsm2
          have Hml := Lib.hid hml
          have hml2 : m.length ≤ 65536 := by omega
          have hlm : ∀ x ∈ m, x.legs.length ≤ 10 := fun x hx => HlL.out x (hm.perm.mem_iff.2 hx)
          clear hm hb hsm2 hml
          go_wp2_with fail
          generalize wrap64 _ = ix
          refine (swap_c A' c' m ix _ Hs2.out hml2 hlm).mono ?_
          rintro e w6 ⟨v, rfl, hO, hb1⟩
          have hb2 := below_on Hb.out (Nat.le_refl _) hb1
          by_cases hsw : swapOk m ix = true
          · obtain ⟨A2, c2, rfl, hs3⟩ := hO.sl
            rw [hsw]
            have Hsw := Lib.hid hsw
            clear hsw hO
            go_wp2
            go_roundw
            case rel => exact ⟨k + 1, by go_num, by omega, ⟨swapR m ix, A2, c2, rfl, Hm.out.swap Hsw.out, hs3⟩, hb2⟩
            case measure => simp [intOf]; omega
          · rw [show swapOk m ix = false by simpa using hsw]
            clear hsw hO
            go_wp2
            go_roundw
            case rel => exact ⟨k + 1, by go_num, by omega, ⟨m, A', c', rfl, Hm.out, Hs2.out.later hb1⟩, hb2⟩
            case measure => simp [intOf]; omega
        · have Hm := Lib.hid hm
          have Hs2 := Lib.hid hsm2
          have Hb := Lib.hid hb
          clear hm hsm2 hml hb
          by_cases hk1 : k < s.length
          · have hk2 : ¬ k < 200 := fun h => hlt ⟨hk1, h⟩
            clear hlt
            go_wp2
            go_meet
            exact ⟨m, A', c', rfl, Hm.out, Hs2.out, Hb.out⟩
          · clear hlt
            go_wp2
            go_meet
            exact ⟨m, A', c', rfl, Hm.out, Hs2.out, Hb.out⟩
    case rest =>
      obtain ⟨w6, rfl⟩ : ∃ w6, w6 = wc := ⟨wc, rfl⟩
      obtain ⟨m, AM, cM, rfl, hm, hsM, hb6⟩ := hcut
      have hml : m.length ≤ 40 := Nat.le_trans (Nat.le_of_eq (hper.out m hm)) nL
      have HEv := Lib.hid (fun nm => show evL bk0 m nm = evL bk0 L nm from (ev_mix inv_bk0 hm HoL.out nm).symm)
      have HoM := Lib.hid (show ∀ x ∈ m, OdB x from fun x hx => HoL.out x (hm.perm.mem_iff.2 hx))
      have HlM := Lib.hid (show ∀ x ∈ m, x.legs.length ≤ 10 from fun x hx => HlL.out x (hm.perm.mem_iff.2 hx))
      have hbn := (Below.refl w6.heap.size w6).alloc (Nat.le_refl _) (.cells #[.string tA, .string tB, .string tC, .string tBank, .string tTill] 9)
      have hon := names5_own w6
      have Hb7 := Lib.hid (Hb05.out.trans ((hb6.trans (hbn.mono hb6.size)).mono Hb05.out.size))
      have HsL7 := Lib.hid ((HL5.out _ hb6).later hbn)
      have HsM7 := Lib.hid (hsM.later hbn)
      clear hm hsM hb6 hbn HL5 hL5 Hs5 Hb05 hper
      go_wp2_with fail
      generalize w6.alloc (.cells #[.string tA, .string tB, .string tC, .string tBank, .string tTill] 9) = w7 at *
      generalize w6.heap.size = nb at *
      have Hnam := Lib.hid (fun V (hV : Below w7.heap.size w7 V) => hon.later hV)
      clear hon
      go_loopw [12] (fun iv wr => ∃ i : Nat, iv = i64 i ∧ i ≤ 5 ∧ Below w7.heap.size w7 wr) (fun iv _ => 5 - (intOf iv).toNat)
      case atStart => exact ⟨0, rfl, Nat.zero_le _, Below.refl _ _⟩
      case round =>
        obtain ⟨i, rfl, hi5, hbi⟩ := hrel
        obtain ⟨wi, rfl⟩ : ∃ wi, wi = wr := ⟨wr, rfl⟩
        by_cases hlt : i < 5
        · have g1 : decide ((i : Int) < 5) = true := decide_eq_true (by omega)
          have g2 : decide (i < 5) = true := decide_eq_true hlt
          have i0 : (0 : Int) ≤ (i : Int) := by omega
          have i1 : (i : Int) < 5 := by omega
          obtain ⟨nm, hnm⟩ : ∃ nm, names5[i]'(by exact hlt) = nm := ⟨_, rfl⟩
          have Hcn := Lib.hid (fun V (hV : Below w7.heap.size w7 V) => show V.cell? ⟨nb, i, none⟩ = some (.string nm) by rw [← hnm]; exact (Hnam.out V hV).str hlt)
          clear hnm
          have hwi := hbi.size
          have HEx := Lib.hid (fun V (hV : Below wi.heap.size wi V) => sevents_c AL cL L nm V (HsL7.out.later (hbi.trans (hV.mono hwi))) HoL.out HlL.out (Nat.le_trans nL (by decide)))
          have HEy := Lib.hid (fun V (hV : Below wi.heap.size wi V) => sevents_c AM cM m nm V (HsM7.out.later (hbi.trans (hV.mono hwi))) HoM.out HlM.out (Nat.le_trans hml (by decide)))
          have hlx : (evL bk0 L nm).length ≤ 65536 := Nat.le_trans (evL_le inv_bk0 nm L HoL.out) (Nat.le_trans nL (by decide))
          rw [HEv.out nm] at HEy
          generalize evL bk0 L nm = X at *
          have HS : Hid (∀ V, Below wi.heap.size wi V → (fun V : World => Below wi.heap.size wi V ∧ V.cell? ⟨nb, i, none⟩ = some (.string nm)) V) := Lib.hid fun V hV => ⟨hV, Hcn.out V (hbi.trans (hV.mono hwi))⟩
          go_upto_region 21 with fail
          refine wp_region_noPanic ?_
          refine wp_region_l 15 (fun V : World => Below wi.heap.size wi V ∧ V.cell? ⟨nb, i, none⟩ = some (.string nm)) (by kernel_rfl) (HS.out _ (Below.refl _ _).drew) (fun hH => ?_)
          refine wpAnyL_take (i := 0) (v := ?v20001) rfl (by kernel_rfl) (by kernel_rfl) (by kernel_rfl) (by kernel_rfl) (fun _ _ _ h => h) (Or.inl ⟨by kernel_rfl, ?hy20001⟩) (by assumption) ?r20001
          case hy20001 => (intro W hSW; obtain ⟨hV0, s1⟩ := hSW; go_simp; try with_reducible rfl)
          try simp only [Act.put, List.getElem_toArray, List.getElem_cons_zero, List.setIfInBounds_toArray, List.set_cons_zero, List.set_cons_succ]
          refine wpAnyL_take (i := 1) (v := ?v20002) rfl (by kernel_rfl) (by kernel_rfl) (by kernel_rfl) (by kernel_rfl) (fun _ _ _ h => h) (Or.inl ⟨by kernel_rfl, ?hy20002⟩) (by assumption) ?r20002
          case hy20002 => (intro W hSW; obtain ⟨hV0, s1⟩ := hSW; go_simp; try with_reducible rfl)
          try simp only [Act.put, List.getElem_toArray, List.getElem_cons_zero, List.getElem_cons_succ, List.setIfInBounds_toArray, List.set_cons_zero, List.set_cons_succ]
          refine wpAnyL_take (i := 2) (v := ?v20003) rfl (by kernel_rfl) (by kernel_rfl) (by kernel_rfl) (by kernel_rfl) (fun _ _ _ h => h) (Or.inl ⟨by kernel_rfl, ?hy20003⟩) (by assumption) ?r20003
          case hy20003 => (intro W hSW; obtain ⟨hV0, s1⟩ := hSW; go_simp; try with_reducible rfl)
          try simp only [Act.put, List.getElem_toArray, List.getElem_cons_zero, List.getElem_cons_succ, List.setIfInBounds_toArray, List.set_cons_zero, List.set_cons_succ]
          refine wpAnyL_take (i := 3) (v := ?v20004) rfl (by kernel_rfl) (by kernel_rfl) (by kernel_rfl) (by kernel_rfl) (fun _ _ _ h => h) (Or.inl ⟨by kernel_rfl, ?hy20004⟩) (by assumption) ?r20004
          case hy20004 => (intro W hSW; obtain ⟨hV0, s1⟩ := hSW; go_simp; try with_reducible rfl)
          try simp only [Act.put, List.getElem_toArray, List.getElem_cons_zero, List.getElem_cons_succ, List.setIfInBounds_toArray, List.set_cons_zero, List.set_cons_succ]
          refine wpAnyL_take (i := 4) (v := ?v20005) rfl (by kernel_rfl) (by kernel_rfl) (by kernel_rfl) (by kernel_rfl) (fun _ _ _ h => h) (Or.inl ⟨by kernel_rfl, ?hy20005⟩) (by assumption) ?r20005
          case hy20005 => (intro W hSW; obtain ⟨hV0, s1⟩ := hSW; go_simp; try with_reducible rfl)
          try simp only [Act.put, List.getElem_toArray, List.getElem_cons_zero, List.getElem_cons_succ, List.setIfInBounds_toArray, List.set_cons_zero, List.set_cons_succ]
          refine wpAnyL_take (i := 7) (v := ?v20006) rfl (by kernel_rfl) (by kernel_rfl) (by kernel_rfl) (by kernel_rfl) (fun _ _ _ h => h) (Or.inl ⟨by kernel_rfl, ?hy20006⟩) (by assumption) ?r20006
          case hy20006 => (intro W hSW; obtain ⟨hV0, s1⟩ := hSW; go_simp; try with_reducible rfl)
          try simp only [Act.put, List.getElem_toArray, List.getElem_cons_zero, List.getElem_cons_succ, List.setIfInBounds_toArray, List.set_cons_zero, List.set_cons_succ]
          refine wpAnyL_take (i := 8) (v := ?v20007) rfl (by kernel_rfl) (by kernel_rfl) (by kernel_rfl) (by kernel_rfl) (fun _ _ _ h => h) (Or.inl ⟨by kernel_rfl, ?hy20007⟩) (by assumption) ?r20007
          case hy20007 => (intro W hSW; obtain ⟨hV0, s1⟩ := hSW; go_simp; try with_reducible rfl)
          try simp only [Act.put, List.getElem_toArray, List.getElem_cons_zero, List.getElem_cons_succ, List.setIfInBounds_toArray, List.set_cons_zero, List.set_cons_succ]
          refine wpAnyL_take (i := 9) (v := ?v20008) rfl (by kernel_rfl) (by kernel_rfl) (by kernel_rfl) (by kernel_rfl) (fun _ _ _ h => h) (Or.inl ⟨by kernel_rfl, ?hy20008⟩) (by assumption) ?r20008
          case hy20008 => (intro W hSW; obtain ⟨hV0, s1⟩ := hSW; go_simp; try with_reducible rfl)
          try simp only [Act.put, List.getElem_toArray, List.getElem_cons_zero, List.getElem_cons_succ, List.setIfInBounds_toArray, List.set_cons_zero, List.set_cons_succ]
          refine wpAnyL_take (i := 10) (v := ?v20009) rfl (by kernel_rfl) (by kernel_rfl) (by kernel_rfl) (by kernel_rfl) (fun _ _ _ h => h) (Or.inl ⟨by kernel_rfl, ?hy20009⟩) (by assumption) ?r20009
          case hy20009 => (intro W hSW; obtain ⟨hV0, s1⟩ := hSW; go_simp; try with_reducible rfl)
          try simp only [Act.put, List.getElem_toArray, List.getElem_cons_zero, List.getElem_cons_succ, List.setIfInBounds_toArray, List.set_cons_zero, List.set_cons_succ]
          refine wpAnyL_take (i := 11) (v := ?v20010) rfl (by kernel_rfl) (by kernel_rfl) (by kernel_rfl) (by kernel_rfl) (fun _ _ _ h => h) (Or.inl ⟨by kernel_rfl, ?hy20010⟩) (by assumption) ?r20010
          case hy20010 => (intro W hSW; obtain ⟨hV0, s1⟩ := hSW; go_simp; try with_reducible rfl)
          try simp only [Act.put, List.getElem_toArray, List.getElem_cons_zero, List.getElem_cons_succ, List.setIfInBounds_toArray, List.set_cons_zero, List.set_cons_succ]
          refine wpAnyL_one (i := 5) (by kernel_rfl) rfl (by decide) (fun K hK => ?_)
          refine oper_call2 38 75 79 _ rfl _ _ rfl rfl (enters_of Tryz.func38 (by kernel_rfl) rfl) ?_
          refine (HEx.out _ hH.1).mono ?_
          rintro e u1 ⟨v1, rfl, hO1, hF1⟩
          have hbu := below_on hH.1 (Nat.le_refl _) hF1
          obtain ⟨A1, c1, rfl, hs1⟩ := hO1.sl
          clear hO1 hF1
          refine ⟨_, rfl, ?_⟩
          refine hK.out _ _ (HS.out _ hbu) (fun hH => ?_)
          clear hK K
          try simp only [Act.put, List.getElem_toArray, List.getElem_cons_zero, List.getElem_cons_succ, List.setIfInBounds_toArray, List.set_cons_zero, List.set_cons_succ]
          refine wpAnyL_one (i := 6) (by kernel_rfl) rfl (by decide) (fun K hK => ?_)
          refine oper_call1 40 80 _ rfl _ rfl (enters_of Tryz.func40 (by kernel_rfl) rfl) ?_
          refine (as12_c A1 c1 X u1 hs1 hlx).mono ?_
          rintro e u2 ⟨v2, rfl, hO2, hF2⟩
          have hbu := below_on hH.1 (Nat.le_refl _) hF2
          obtain ⟨A2, c2, rfl, hs2⟩ := hO2.sl
          clear hO2 hF2 hs1
          refine ⟨_, rfl, ?_⟩
          refine hK.out _ _ (HS.out _ hbu) (fun hH => ?_)
          clear hK K
          try simp only [Act.put, List.getElem_toArray, List.getElem_cons_zero, List.getElem_cons_succ, List.setIfInBounds_toArray, List.set_cons_zero, List.set_cons_succ]
          refine wpAnyL_one (i := 12) (by kernel_rfl) rfl (by decide) (fun K hK => ?_)
          refine oper_call2 38 82 86 _ rfl _ _ rfl rfl (enters_of Tryz.func38 (by kernel_rfl) rfl) ?_
          refine (HEy.out _ hH.1).mono ?_
          rintro e u3 ⟨v3, rfl, hO3, hF3⟩
          have hbu := below_on hH.1 (Nat.le_refl _) hF3
          obtain ⟨A3, c3, rfl, hs3⟩ := hO3.sl
          have hs2 := hs2.later hF3
          clear hO3 hF3
          refine ⟨_, rfl, ?_⟩
          refine hK.out _ _ (HS.out _ hbu) (fun hH => ?_)
          clear hK K
          try simp only [Act.put, List.getElem_toArray, List.getElem_cons_zero, List.getElem_cons_succ, List.setIfInBounds_toArray, List.set_cons_zero, List.set_cons_succ]
          refine wpAnyL_one (i := 13) (by kernel_rfl) rfl (by decide) (fun K hK => ?_)
          refine oper_call1 40 87 _ rfl _ rfl (enters_of Tryz.func40 (by kernel_rfl) rfl) ?_
          refine (as12_c A3 c3 X u3 hs3 hlx).mono ?_
          rintro e u4 ⟨v4, rfl, hO4, hF4⟩
          have hbu := below_on hH.1 (Nat.le_refl _) hF4
          obtain ⟨A4, c4, rfl, hs4⟩ := hO4.sl
          have hs2 := hs2.later hF4
          clear hO4 hF4 hs3
          refine ⟨_, rfl, ?_⟩
          refine hK.out _ _ (HS.out _ hbu) (fun hH => ?_)
          clear hK K
          try simp only [Act.put, List.getElem_toArray, List.getElem_cons_zero, List.getElem_cons_succ, List.setIfInBounds_toArray, List.set_cons_zero, List.set_cons_succ]
          refine wpAnyL_one (i := 14) (by kernel_rfl) rfl (by decide) (fun K hK => ?_)
          refine oper_call2 39 81 88 _ rfl _ _ rfl rfl (enters_of Tryz.func39 (by kernel_rfl) rfl) ?_
          refine (same12_c _ _ A2 A4 c2 c4 X X u4 hs2 hs4).mono ?_
          rintro e u5 ⟨rfl, hF5⟩
          have hbu := below_on hH.1 (Nat.le_refl _) hF5
          rw [decide_eq_true (show X = X from rfl)]
          clear hF5 hs2 hs4
          refine ⟨_, rfl, ?_⟩
          refine hK.out _ _ (HS.out _ hbu) (fun hH => ?_)
          clear hK K
          try simp only [Act.put, List.getElem_toArray, List.getElem_cons_zero, List.getElem_cons_succ, List.setIfInBounds_toArray, List.set_cons_zero, List.set_cons_succ]
          refine wpAnyL_last (by kernel_rfl) rfl (fun K hK => ?_)
          refine oper_not 89 _ rfl true rfl ?_
          refine hK.out _ _ ?_
          clear hK K
          try simp only [Act.put, List.getElem_toArray, List.getElem_cons_zero, List.getElem_cons_succ, List.setIfInBounds_toArray, List.set_cons_zero, List.set_cons_succ]
          refine wpAnyL_done (by kernel_rfl) ?_ _
          refine NoPanic.normal ?_
          have hbf := hbi.trans (hH.1.mono hwi)
          clear hH HS
          go_wp2
          go_roundw
          case rel => exact ⟨i + 1, by go_num, by omega, hbf⟩
          case measure => simp [intOf]; omega
        · obtain rfl : i = 5 := by omega
          have g1 : decide (((5 : Nat) : Int) < 5) = false := decide_eq_false (by omega)
          have hbe := Hb7.out.trans (hbi.mono Hb7.out.size)
          go_wp2
          go_ret
          exact ⟨rfl, hbe⟩
end Go.Proofs.YtdkkblhfjblpkaaGreat
