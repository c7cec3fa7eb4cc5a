/- Texts of this claim, laid together. -/
import Derived.Test.YtampniiehgimhaaGreatRows
import Derived.Test.YtampniiehgimhaaGreatBs14
import Derived.Test.YtampniiehgimhaaGreatBs13
import Derived.Test.YtampniiehgimhaaGreatBs4
import Derived.Test.YtampniiehgimhaaGreatBs5
import Derived.WalkKit
import Derived.WalkSpells
import Derived.WalkLawsBesides
import Derived.Deep.QuietTactic
import Derived.BigQuiet
import Derived.Laws.StructEq
import Derived.Deep.DeepFit
import Derived.StillTailTactics

/- ref07.Check, Make -/
namespace Go.Proofs.YtampniiehgimhaaGreat
open Go.RowKit
theorem getLR_in {L : List Ac} (h : OkA L) (k : ByteArray) : InA (getLR L k).1 ∧ 0 ≤ (getLR L k).1.set_ := by
 rcases getLR_cases L k with ⟨_, h2⟩ | ⟨a, h1, h2⟩
 ·unfold getLR; rw [h2]
  exact ⟨⟨R64_0, R64_0, by decide, by decide⟩, by decide⟩
 ·rw [h2]
  exact ⟨(h a (getK_mem h1).1).1, (h a (getK_mem h1).1).2.1⟩
theorem legsB_six {l : List Leg} (h : legsB l = true) : l.length ≤ 6 := by
 unfold legsB at h
 simp only [Bool.and_eq_true, decide_eq_true_eq] at h
 exact h.2.2
set_option maxRecDepth 100000 in
set_option maxHeartbeats 16000000 in
theorem rcheck_c (T : Nat → Prop) (g : Nat) (L : List Ac) (A : Option Addr) (c : Nat) (l : List Leg) (w : World) (h : RcIs w T g L) (hl : L.length ≤ 65536) (hL : OkA L) (hs : Sl w w.heap.size A c l) (hn : l.length ≤ 65536) (hr : ∀ x ∈ l, R64 x.sum) :
  Calls Tryz.prog 114 #[.pointer (some ⟨g, 0, none⟩), .slice A l.length c] w fun e w' => e = .returned (i64 (checkL L l)) ∧ Below w.heap.size w w' := by
 have HRt := Lib.hid (rright7_c A c l w hs hn)
 obtain ⟨R, hR⟩ : ∃ R, checkL L l = R := ⟨_, rfl⟩
 rw [hR]
 rw [checkL_first hL] at hR
 have HR := Lib.hid hR.symm
 have H := Lib.hid h
 have Hs := Lib.hid hs
 have HL := Lib.hid hL
 have Hr := Lib.hid hr
 have h6 := @legsB_six l
 have hlc : l.length ≤ c := hs.1
 clear hR h hs hL hr
 generalize legsB l = lb at *
 have H6 := Lib.hid h6
 clear h6
 go_enter Tryz.func114, Tryz.ntmps114
 go_wp2_with fail
 refine HRt.out.mono ?_
 rintro e w1 ⟨rfl, hb1⟩
 clear HRt
 cases lb with
 | false =>
  have HR1 := Lib.hid (show R = 1 by rw [HR.out, if_pos rfl])
  clear HR
  go_wp2
  go_ret
  exact ⟨by rw [HR1.out]; rfl, hb1⟩
 | true =>
  have HR1 := Lib.hid (show R = if weighB l = false then 8 else firstE L l by rw [HR.out, if_neg (by decide)])
  have hl6 := H6.out rfl
  clear HR H6
  go_wp2_with fail
  go_loopw [5, 6] (fun v i wr => ∃ k : Nat, i = i64 k ∧ k ≤ l.length ∧ Own wr w.heap.size 2 v ((l.take k).map Leg.sum) ∧ Below w.heap.size w wr) (fun _ i _ => l.length - (intOf i).toNat)
  case atStart => exact ⟨0, rfl, by omega, Own.nil_ _ _ _, hb1⟩
  case round =>
   obtain ⟨k, rfl, hk, hO, hb⟩ := hrel
   clear hb1
   by_cases hlt : k < l.length
   ·have g1 : decide ((k : Int) < (l.length : Int)) = true := decide_eq_true (by omega)
    have i0 : (0 : Int) ≤ (k : Int) := by omega
    have i1 : (k : Int) < (l.length : Int) := by omega
    obtain ⟨b, o, rfl, hbb, hsz, c0, c1⟩ := (Hs.out.later hb).leg hlt
    have HO2 := Lib.hid (hO.later ((Below.refl _ _).alloc (Nat.le_refl _) (.cells #[i64 l[k].sum] 2)))
    have Hne := Lib.hid (hO.new_ne (Nat.le_refl wr.heap.size))
    have HH := Lib.hid (heap_alloc_new wr (.cells #[i64 l[k].sum] 2))
    have hbb' := hb.alloc hb.size (.cells #[i64 l[k].sum] 2)
    have HLn := Lib.hid (show ((l.take k).map Leg.sum).length = k by simp; omega)
    clear hO
    go_wp2_with (at_builtin; refine wpList_append_one rfl (some 32) (.tmp 25) (.tmp 31) 181 rfl rfl (i64 0) 8 Tryz.underlying181 intInfo64 rfl Nat.one_pos (by decide) rfl HO2.out wr.heap.size l[k].sum rfl _ 2 HH.out rfl Hne.out trivial (by rw [HLn.out]; omega) hbb'.size ?_; intro v3 w3 hO3 hg3 hat3)
    go_roundw
    case rel => exact ⟨k + 1, by go_num, by omega, by rw [List.take_succ_eq_append_getElem hlt, List.map_append]; exact hO3, hbb'.trans (HO2.out.below hg3 (Nat.le_refl _) hbb'.size)⟩
    case measure => simp [intOf]; omega
   ·obtain rfl : k = l.length := by omega
    have g1 : decide ((l.length : Int) < (l.length : Int)) = false := decide_eq_false (by omega)
    rw [List.take_length] at hO
    obtain ⟨A2, c2, hv2, hs2⟩ := hO.sl
    rw [List.length_map] at hv2
    subst hv2
    have hT := (rtotal_c A2 c2 _ _ hs2 (by simp; omega) (fun a ha => by
     obtain ⟨x, hx, rfl⟩ := List.mem_map.1 ha
     exact Hr.out x hx))
    rw [List.length_map] at hT
    have hT := Lib.hid hT
    have HW := Lib.hid (show weighB l = (decide ((sumR (sumL (l.map Leg.sum))).2 = 0) && decide ((sumR (sumL (l.map Leg.sum))).1 = 0)) from rfl)
    generalize weighB l = F at *
    generalize sumR (sumL (l.map Leg.sum)) = r at *
    clear hs2 hO
    go_wp2_with fail
    refine hT.out.mono ?_
    rintro e w2 ⟨rfl, hF⟩
    have hb2 := below_on hb (Nat.le_refl _) hF
    clear hF hT hb
    by_cases h1 : r.2 = 0
    ·have g2 : (r.2 != 0) = false := by rw [h1]; rfl
     have H1 := Lib.hid (decide_eq_true h1)
     clear h1
     by_cases h2 : r.1 = 0
     ·have g3 : (r.1 != 0) = false := by rw [h2]; rfl
      have HR2 := Lib.hid (show R = firstE L l by rw [HR1.out, if_neg]; rw [HW.out, H1.out, decide_eq_true h2]; decide)
      clear h2 H1 HR1 HW
      go_wp2_with fail
      go_loopw [9] (fun i wr => ∃ k : Nat, i = i64 k ∧ k ≤ l.length ∧ firstE L l = firstE L (l.drop k) ∧ Below w.heap.size w wr) (fun i _ => l.length - (intOf i).toNat)
      case atStart => exact ⟨0, rfl, Nat.zero_le _, rfl, hb2⟩
      case round =>
       obtain ⟨k, rfl, hk, hfe, hb⟩ := hrel
       clear hb2
       by_cases hlt : k < l.length
       ·have g1 : decide ((k : Int) < (l.length : Int)) = true := decide_eq_true (by omega)
        have g1' : decide (k < l.length) = true := decide_eq_true hlt
        have i0 : (0 : Int) ≤ (k : Int) := by omega
        have i1 : (k : Int) < (l.length : Int) := by omega
        obtain ⟨b, o, rfl, hbb, hsz, c0, c1⟩ := (Hs.out.later hb).leg hlt
        have hfe2 := hfe.trans (firstE_step hlt)
        obtain ⟨fr, hfr⟩ : ∃ fr, fr = firstE L (l.drop (k + 1)) := ⟨_, rfl⟩
        rw [← hfr] at hfe2
        have HFE := Lib.hid hfe2
        have Hfr := Lib.hid hfr
        clear hfr hfe2
        have HP := Lib.hid (show perrL L l[k] = if (getLR L l[k].acct).2 ≠ 0 then (getLR L l[k].acct).2 else if (sumR (0 - l[k].sum)).2 ≠ 0 ∨ (sumR ((getLR L l[k].acct).1.hav + l[k].sum)).2 ≠ 0 then 2 else if 0 < (sumR (0 - l[k].sum)).1 ∧ freeA (getLR L l[k].acct).1 (sumR (0 - l[k].sum)).1 = false then 9 else 0 from rfl)
        have hin := getLR_in HL.out l[k].acct
        have hrs := Hr.out l[k] (List.getElem_mem hlt)
        have HG := Lib.hid (rget_c T g L l[k].acct wr (H.out.later hb) hl)
        have HLs := Lib.hid fun W => rless_c 0 l[k].sum W R64_0 hrs
        have HAd := Lib.hid fun W => radd_c (getLR L l[k].acct).1.hav l[k].sum W hin.1.1 hrs
        have HFr := Lib.hid fun W => rfree_c (getLR L l[k].acct).1 (sumR (0 - l[k].sum)).1 W hin.1 hin.2 (sumR_R64 _)
        clear hfe hin hrs hsz
        generalize perrL L l[k] = pe at *
        generalize getLR L l[k].acct = gl at *
        generalize sumR (0 - l[k].sum) = p at *
        generalize sumR (gl.1.hav + l[k].sum) = q at *
        generalize freeA gl.1 p.1 = f at *
        obtain ⟨a, ge⟩ := gl
        dsimp only at *
        go_wp2_with fail
        refine HG.out.mono ?_
        rintro e w3 ⟨rfl, hF⟩
        have hb3 := hb.trans (hF.mono hb.size)
        have c1 := (hF.cell (p := ⟨b, o + k * 2 + 1, none⟩) (World.block_lt_of_cell? _ _ c1)).trans c1
        clear hF HG c0 hb hbb
        by_cases hg : ge = 0
        ·have g4 : (ge != 0) = false := by rw [hg]; rfl
         have HP1 := Lib.hid (show pe = _ by rw [HP.out, if_neg (by simpa using hg)])
         have hba := (Below.refl w3.heap.size w3).alloc (Nat.le_refl _) (.cells #[.string a.name, i64 a.hav, i64 a.set_, i64 a.lim] 140)
         have ht := heap_alloc_new w3 (.cells #[.string a.name, i64 a.hav, i64 a.set_, i64 a.lim] 140)
         have c1 := (hba.cell (p := ⟨b, o + k * 2 + 1, none⟩) (World.block_lt_of_cell? _ _ c1)).trans c1
         have hb4 := hb3.trans (hba.mono hb3.size)
         clear HP hg hba hb3
         go_wp2_with fail
         generalize w3.alloc (.cells #[.string a.name, i64 a.hav, i64 a.set_, i64 a.lim] 140) = w4 at *
         refine (HLs.out _).mono ?_
         rintro e w5 ⟨rfl, hF⟩
         have c1 := (hF.cell (p := ⟨b, o + k * 2 + 1, none⟩) (World.block_lt_of_cell? _ _ c1)).trans c1
         have ht5 := (hF.block _ (Array.getElem?_eq_some_iff.1 ht).1).trans ht
         have hb5 := hb4.trans (hF.mono hb4.size)
         have k1 := cell_of_row _ w3.heap.size 1 _ _ (0, 0) ht5
         simp only [List.getElem?_toArray, List.getElem?_cons_zero, List.getElem?_cons_succ] at k1
         have hSS := Lib.hid (show ∀ V, Below w5.heap.size w5 V → (fun V : World => V.cell? ⟨w3.heap.size, 1, none⟩ = some (i64 a.hav) ∧ V.cell? ⟨b, o + k * 2 + 1, none⟩ = some (i64 l[k].sum)) V from fun V h => ⟨(h.cell (World.block_lt_of_cell? _ _ k1)).trans k1, (h.cell (World.block_lt_of_cell? _ _ c1)).trans c1⟩)
         have hB0 := (Below.refl w5.heap.size w5).drew
         clear hF ht hb4 HLs c1
         go_wp2_with fail
         refine wp_region_noPanic ?_
         refine wp_region_held_drew (S := fun V => V.cell? ⟨w3.heap.size, 1, none⟩ = some (i64 a.hav) ∧ V.cell? ⟨b, o + k * 2 + 1, none⟩ = some (i64 l[k].sum)) (by kernel_rfl) (hSS.out _ hB0) (fun hH => ?_)
         refine wpAnyH_take (i := 0) (v := ?v1) rfl (by kernel_rfl) (by kernel_rfl) (by kernel_rfl) (fun _ _ _ h => h) (Or.inl ⟨by kernel_rfl, ?hy1⟩) (by assumption) ?r1
         case hy1 => (intro W hSW; obtain ⟨s0, s1⟩ := hSW; go_simp; try with_reducible rfl)
         simp only [Act.put, uA, uZ, vA, vZ, vS]
         refine wpAnyH_take (i := 1) (v := ?v2) rfl (by kernel_rfl) (by kernel_rfl) (by kernel_rfl) (fun _ _ _ h => h) (Or.inl ⟨by kernel_rfl, ?hy2⟩) (by assumption) ?r2
         case hy2 => (intro W hSW; obtain ⟨s0, s1⟩ := hSW; go_simp; try with_reducible rfl)
         simp only [Act.put, uA, uZ, uS, vA, vZ, vS]
         refine wpAnyH_take (i := 2) (v := ?v3) rfl (by kernel_rfl) (by kernel_rfl) (by kernel_rfl) (fun _ _ _ h => h) (Or.inl ⟨by kernel_rfl, ?hy3⟩) (by assumption) ?r3
         case hy3 => (intro W hSW; obtain ⟨s0, s1⟩ := hSW; go_simp; try with_reducible rfl)
         simp only [Act.put, uA, uZ, uS, vA, vZ, vS]
         refine wpAnyH_take (i := 3) (v := ?v4) rfl (by kernel_rfl) (by kernel_rfl) (by kernel_rfl) (fun _ _ _ h => h) (Or.inl ⟨by kernel_rfl, ?hy4⟩) (by assumption) ?r4
         case hy4 => (intro W hSW; obtain ⟨s0, s1⟩ := hSW; go_simp; try with_reducible rfl)
         simp only [Act.put, uA, uZ, uS, vA, vZ, vS]
         refine wpAnyH_take (i := 4) (v := ?v5) rfl (by kernel_rfl) (by kernel_rfl) (by kernel_rfl) (fun _ _ _ h => h) (Or.inl ⟨by kernel_rfl, ?hy5⟩) (by assumption) ?r5
         case hy5 => (intro W hSW; obtain ⟨s0, s1⟩ := hSW; go_simp; try with_reducible rfl)
         simp only [Act.put, uA, uZ, uS, vA, vZ, vS]
         refine wpAnyH_take (i := 5) (v := ?v6) rfl (by kernel_rfl) (by kernel_rfl) (by kernel_rfl) (fun _ _ _ h => h) (Or.inl ⟨by kernel_rfl, ?hy6⟩) (by assumption) ?r6
         case hy6 => (intro W hSW; obtain ⟨s0, s1⟩ := hSW; go_simp; try with_reducible rfl)
         simp only [Act.put, uA, uZ, uS, vA, vZ, vS]
         refine wpAnyH_take (i := 6) (v := ?v7) rfl (by kernel_rfl) (by kernel_rfl) (by kernel_rfl) (fun _ _ _ h => h) (Or.inl ⟨by kernel_rfl, ?hy7⟩) (by assumption) ?r7
         case hy7 => (intro W hSW; obtain ⟨s0, s1⟩ := hSW; go_simp; try with_reducible rfl)
         simp only [Act.put, uA, uZ, uS, vA, vZ, vS]
         refine wpAnyH_ready (rs := [7]) (by kernel_rfl) (by simp) ?_
         refine AllReadyH.cons rfl (fun K hK => ?_) AllReadyH.nil
         go_simp
         with_reducible refine (HAd.out _).mono ?_
         rintro e w6 ⟨rfl, hF⟩
         have hB := below_on hB0 (Nat.le_refl _) hF
         refine hK.out _ _ (hSS.out _ hB) (fun hH2 => ?_)
         clear hF
         clear hK K
         try simp only [Act.put, uA, uZ, uS, vA, vZ, vS]
         refine wpAnyH_take (i := 8) (v := ?v9) rfl (by kernel_rfl) (by kernel_rfl) (by kernel_rfl) (fun _ _ _ h => h) (Or.inl ⟨by kernel_rfl, ?hy9⟩) (by assumption) ?r9
         case hy9 => (intro W hSW; obtain ⟨s0, s1⟩ := hSW; go_simp; try with_reducible rfl)
         simp only [Act.put, uA, uZ, uS, vA, vZ, vS]
         refine wpAnyH_take (i := 9) (v := ?v10) rfl (by kernel_rfl) (by kernel_rfl) (by kernel_rfl) (fun _ _ _ h => h) (Or.inl ⟨by kernel_rfl, ?hy10⟩) (by assumption) ?r10
         case hy10 => (intro W hSW; obtain ⟨s0, s1⟩ := hSW; go_simp; try with_reducible rfl)
         simp only [Act.put, uA, uZ, uS, vA, vZ, vS]
         refine wpAnyH_take (i := 10) (v := ?v11) rfl (by kernel_rfl) (by kernel_rfl) (by kernel_rfl) (fun _ _ _ h => h) (Or.inl ⟨by kernel_rfl, ?hy11⟩) (by assumption) ?r11
         case hy11 => (intro W hSW; obtain ⟨s0, s1⟩ := hSW; go_simp; try with_reducible rfl)
         simp only [Act.put, uA, uZ, uS, vA, vZ, vS]
         refine wpAnyH_take (i := 11) (v := ?v12) rfl (by kernel_rfl) (by kernel_rfl) (by kernel_rfl) (fun _ _ _ h => h) (Or.inl ⟨by kernel_rfl, ?hy12⟩) (by assumption) ?r12
         case hy12 => (intro W hSW; obtain ⟨s0, s1⟩ := hSW; go_simp; try with_reducible rfl)
         simp only [Act.put, uA, uZ, uS, vA, vZ, vS]
         refine wpAnyH_take (i := 12) (v := ?v13) rfl (by kernel_rfl) (by kernel_rfl) (by kernel_rfl) (fun _ _ _ h => h) (Or.inl ⟨by kernel_rfl, ?hy13⟩) (by assumption) ?r13
         case hy13 => (intro W hSW; obtain ⟨s0, s1⟩ := hSW; go_simp; try with_reducible rfl)
         simp only [Act.put, uA, uZ, uS, vA, vZ, vS]
         refine wpAnyH_done (by kernel_rfl) ?_ _
         refine NoPanic.normal ?_
         have ht6 := (hB.block _ (Array.getElem?_eq_some_iff.1 ht5).1).trans ht5
         have hb6 := hb5.trans (hB.mono hb5.size)
         have m0 := cell_of_row _ w3.heap.size 0 _ _ (0, 0) ht6
         have m1 := cell_of_row _ w3.heap.size 1 _ _ (0, 0) ht6
         have m2 := cell_of_row _ w3.heap.size 2 _ _ (0, 0) ht6
         have m3 := cell_of_row _ w3.heap.size 3 _ _ (0, 0) ht6
         simp only [List.getElem?_toArray, List.getElem?_cons_zero, List.getElem?_cons_succ] at m0 m1 m2 m3
         clear hB hb5 ht5 ht6 k1 hSS HAd hB0
         by_cases hp : p.2 = 0
         ·have g5 : (p.2 != 0) = false := by rw [hp]; rfl
          by_cases hq : q.2 = 0
          ·have g6 : (q.2 != 0) = false := by rw [hq]; rfl
           have HP2 := Lib.hid (show pe = _ by rw [HP1.out, if_neg (by rw [hp, hq]; simp)])
           clear HP1 hp hq
           by_cases h0 : 0 < p.1
           ·have g7 : decide (0 < p.1) = true := decide_eq_true h0
            have HX := Lib.hid h0
            clear h0
            go_wp2_with fail
            refine (HFr.out _).mono ?_
            rintro e w7 ⟨rfl, hF⟩
            have hb7 := hb6.trans (hF.mono hb6.size)
            clear hF HFr m0 m1 m2 m3 hb6
            cases f with
            | false =>
             have HRR := Lib.hid (show R = 9 by have e : pe = 9 := HP2.out.trans (if_pos ⟨HX.out, rfl⟩); rw [HR2.out, HFE.out, e]; rfl)
             clear HP2 HFE HR2
             go_wp2
             go_ret
             exact ⟨by rw [HRR.out]; rfl, hb7⟩
            | true =>
             have HRR := Lib.hid (show firstE L l = fr by have e : pe = 0 := HP2.out.trans (if_neg fun h => absurd h.2 (by decide)); rw [HFE.out, e]; rfl)
             clear HP2 HFE
             go_wp2
             go_roundw
             case rel => exact ⟨k + 1, by go_num, by omega, by rw [HRR.out]; exact Hfr.out, hb7⟩
             case measure => simp [intOf]; omega
           ·have g7 : decide (0 < p.1) = false := decide_eq_false h0
            have HRR := Lib.hid (show firstE L l = fr by have e : pe = 0 := HP2.out.trans (if_neg fun h => h0 h.1); rw [HFE.out, e]; rfl)
            clear HP2 HFE h0 HFr
            go_wp2
            go_roundw
            case rel => exact ⟨k + 1, by go_num, by omega, by rw [HRR.out]; exact Hfr.out, hb6⟩
            case measure => simp [intOf]; omega
          ·have g6 : (q.2 != 0) = true := by simpa using hq
           have HRR := Lib.hid (show R = 2 by have e : pe = 2 := HP1.out.trans (if_pos (.inr hq)); rw [HR2.out, HFE.out, e]; rfl)
           clear HP1 HFE HR2 hp hq HFr
           go_wp2
           go_ret
           exact ⟨by rw [HRR.out]; rfl, hb6⟩
         ·have g5 : (p.2 != 0) = true := by simpa using hp
          have HRR := Lib.hid (show R = 2 by have e : pe = 2 := HP1.out.trans (if_pos (.inl hp)); rw [HR2.out, HFE.out, e]; rfl)
          clear HP1 HFE HR2 hp HFr
          go_wp2
          go_ret
          exact ⟨by rw [HRR.out]; rfl, hb6⟩
        ·have g4 : (ge != 0) = true := by simpa using hg
         have HRR := Lib.hid (show R = ge by have e : pe = ge := HP.out.trans (if_pos hg); rw [HR2.out, HFE.out, e, if_pos hg])
         clear HP HFE HR2 hg HLs HAd HFr
         go_wp2
         go_ret
         exact ⟨by rw [HRR.out]; rfl, hb3.alloc hb3.size _⟩
       ·obtain rfl : k = l.length := by omega
        have g1 : decide ((l.length : Int) < (l.length : Int)) = false := decide_eq_false (by omega)
        have HRR := Lib.hid (show R = 0 by rw [HR2.out, hfe, List.drop_length]; rfl)
        clear hfe HR2
        go_wp2
        go_ret
        exact ⟨by rw [HRR.out]; rfl, hb⟩
     ·have g3 : (r.1 != 0) = true := by simpa using h2
      have HR2 := Lib.hid (show R = 8 by rw [HR1.out, if_pos]; rw [HW.out, H1.out, decide_eq_false h2]; rfl)
      clear h2 H1 HR1 HW
      go_wp2
      go_ret
      exact ⟨by rw [HR2.out]; rfl, hb2⟩
    ·have g2 : (r.2 != 0) = true := by simpa using h1
     have HR2 := Lib.hid (show R = 8 by rw [HR1.out, if_pos]; rw [HW.out, decide_eq_false h1]; rfl)
     clear h1 HR1 HW
     go_wp2
     go_ret
     exact ⟨by rw [HR2.out]; rfl, hb2⟩
theorem rc_row {W : World} {T : Nat → Prop} {g gb base cap n : Nat} {L : List Ac} (hn : n = L.length) (hO : Own W base 140 (.slice (some ⟨gb, 0, none⟩) n cap) L) (hg : W.heap[g]? = some (.cells #[.slice (some ⟨gb, 0, none⟩) n cap] 121 (0, 0))) (hT : ∀ k, base ≤ k → T k) (hok : ∀ x ∈ L, x.name.size ≤ maxLen) : RcIs W T g L := by
 subst hn
 obtain ⟨A, c, hv, hs, hf⟩ := hO.slT hT hok
 injection hv with e1 e2 e3
 subst e1 e3
 exact ⟨_, _, hg, hs, hf⟩
theorem allL_of_check {L : List Ac} {l : List Leg} (h : checkL L l = 0) : makeL L l = allL L l ∧ (allL L l).1 = 0 := by
 constructor
 ·unfold makeL
  rw [if_neg (fun e => e h)]
 ·unfold checkL at h
  split at h
  ·cases h
  ·split at h
   ·cases h
   ·exact h
set_option maxRecDepth 100000 in
set_option maxHeartbeats 8000000 in
theorem rmake_c (T : Nat → Prop) (g : Nat) (L : List Ac) (A : Option Addr) (c : Nat) (l : List Leg) (w : World) (h : RcIs w T g L) (hl : L.length ≤ 65536) (hL : OkA L) (hS : SrtL ltA L) (hs : SlS w (fun k => k < w.heap.size ∧ k ≠ g) A c l) (hn : l.length ≤ 65536) (hr : ∀ x ∈ l, R64 x.sum) (hTn : ∀ k, w.heap.size ≤ k → T k) (hTg : ¬ T g) :
  Calls Tryz.prog 63 #[.pointer (some ⟨g, 0, none⟩), .slice A l.length c] w fun e w' => e = .returned (i64 (makeL L l).1) ∧ RcIs w' T g (makeL L l).2 ∧ w.grownBy w' (some g) := by
 have HC := Lib.hid (rcheck_c T g L A c l w h hl hL (hs.mono fun _ h => h.1) hn hr)
 obtain ⟨R, hR⟩ : ∃ R, makeL L l = R := ⟨_, rfl⟩
 rw [hR]
 have HR := Lib.hid hR.symm
 have H := Lib.hid h
 have Hs := Lib.hid hs
 have HL := Lib.hid hL
 have HS := Lib.hid hS
 have HTn := Lib.hid hTn
 have HTg := Lib.hid hTg
 have hlg := h.lt
 have hlc : l.length ≤ c := hs.1
 have Hch := Lib.hid (@allL_of_check L l)
 have hne := Lib.hid (show checkL L l ≠ 0 → makeL L l = (checkL L l, L) from fun e => by unfold makeL; rw [if_pos e])
 clear hR h hs hL hr hS hTn hTg
 obtain ⟨q, hq⟩ : ∃ q, checkL L l = q := ⟨_, rfl⟩
 rw [hq] at HC Hch hne
 clear hq
 go_enter Tryz.func63, Tryz.ntmps63
 go_wp2_with fail
 refine HC.out.mono ?_
 rintro e w1 ⟨rfl, hb1⟩
 clear HC
 by_cases hq0 : q = 0
 ·obtain ⟨h1, h2⟩ := Hch.out hq0
  have HR1 := Lib.hid (show R = allL L l from HR.out.trans h1)
  have H0 := Lib.hid h2
  subst hq0
  clear HR h1 h2 Hch hne
  go_wp2_with fail
  go_loopw [6] (fun i wr => ∃ (k : Nat) (Lk : List Ac), i = i64 k ∧ k ≤ l.length ∧ RcIs wr T g Lk ∧ OkA Lk ∧ SrtL ltA Lk ∧ Lk.length = L.length ∧ allL L l = allL Lk (l.drop k) ∧ w.grownBy wr (some g)) (fun i _ => l.length - (intOf i).toNat)
  case atStart => exact ⟨0, L, rfl, Nat.zero_le _, H.out.later hb1, HL.out, HS.out, rfl, rfl, grown_of_below hb1 _⟩
  case round =>
   obtain ⟨k, Lk, rfl, hk, hrc, hok, hso, hln, hal, hG⟩ := hrel
   clear hb1
   by_cases hlt : k < l.length
   ·have g1 : decide ((k : Int) < (l.length : Int)) = true := decide_eq_true (by omega)
    have g1' : decide (k < l.length) = true := decide_eq_true hlt
    have i0 : (0 : Int) ≤ (k : Int) := by omega
    have i1 : (k : Int) < (l.length : Int) := by omega
    have hsr := Hs.out.keep (fun p hp => World.cell?_of_block (hG.block _ hp.1 (fun e => hp.2 (by injection e)))) (fun k hk => (show k < wr.heap.size from Nat.lt_of_lt_of_le hk.1 hG.size))
    obtain ⟨b, o, rfl, hbb, _, c0, c1⟩ := hsr.leg hlt
    have hbg : b ≠ g := (Hs.out.leg hlt).elim fun b' h => h.elim fun o' h => by
     obtain ⟨e, h2, _⟩ := h
     injection e with e
     injection e with e _
     rw [e]
     exact h2.2
    have hst := allL_step (L := Lk) hlt
    rw [← hal] at hst
    have hp0 : (postL Lk l[k]).1 = 0 := by
     apply Classical.byContradiction
     intro hne
     rw [if_pos hne] at hst
     exact hne (by rw [← hst]; exact H0.out)
    rw [if_neg (fun e => e hp0)] at hst
    have hokn := postL_ok hok l[k]
    have hson := turnP_srt hso l[k]
    obtain ⟨n, hn1, hn2, hn3, hn4⟩ := postL_zero hso hp0
    rw [hn3] at hst hokn hson
    obtain ⟨hv, hhv⟩ : ∃ v, Lk[n].hav = v := ⟨_, rfl⟩
    obtain ⟨sm, hsm⟩ : ∃ v, l[k].sum = v := ⟨_, rfl⟩
    rw [hhv, hsm] at hst hokn hson hn4
    rw [hsm] at c1
    have Hhv := Lib.hid hhv
    clear hhv hsm
    have hw : IntKind.i64.wrap (hv + sm) = hv + sm := by rw [IntKind.wrap_i64]; unfold R64 at hn4; omega
    have hw2 : wrap64 (hv + sm) = hv + sm := by rw [← IntWalk.i64_left]; exact hw
    have Hst := Lib.hid hst
    have Hokn := Lib.hid hokn
    have Hson := Lib.hid hson
    have Hln := Lib.hid hln
    have Hlk := Lib.hid (show Lk.length ≤ 65536 by omega)
    have HG := Lib.hid hG
    have hsz := Lib.hid hG.size
    have Hn1 := Lib.hid hn1
    have j0 : (0 : Int) ≤ (n : Int) := by omega
    have j1 : (n : Int) < (Lk.length : Int) := by omega
    clear hst hokn hson hp0 hal hn3 hn4 hsr hok hso hln
    have hlgr := hrc.lt
    obtain ⟨A2, c2, hgc, hsl2, hf2⟩ := hrc
    have d0 := cell_of_row _ g 0 _ _ (0, 0) hgc
    simp only [List.getElem?_toArray, List.getElem?_cons_zero] at d0
    have hokk := Lib.hid (fun y hy => hsl2.2.2.2 y hy)
    have hsl := Lib.hid (show SlS wr (Oth wr (.slice none 0 0)) A2 c2 Lk from hsl2.keep (fun p hp => rfl) (fun b hb => ⟨hb.1, by simp [Value.ownBlock]⟩))
    have Hgc := Lib.hid hgc
    have hfz := frozen_of_row _ g 0 _ _ hgc
    clear hsl2 hf2 hgc
    go_wp2_with (at_builtin; refine wpList_append_slice rfl (some 25) (.const (.slice none 0 0)) (.tmp 24) 109 rfl rfl (.agg #[.string ByteArray.empty, i64 0, i64 0, i64 0]) 40 Tryz.underlying109 acInfo rfl (by decide) (by decide) rfl (Own.nil_ _ _ 140) A2 Lk.length c2 Lk rfl rfl hsl.out (by have := Hlk.out; simp <;> omega) (Nat.le_refl _) ?_; intro v2 w2 hO2 hg2 hat2; rw [List.nil_append] at hO2; have hF2 := (Own.nil_ (α := Ac) _ _ 140).below hg2 (Nat.le_refl _) (Nat.le_refl _); obtain ⟨gb, cap, cur, hv2, hgb, hrow, hcap, -, hcs, -⟩ := hO2.form (by have := Hn1.out; omega); subst hv2; have hO3 := Lib.hid hO2; have hcg2 := Lib.hid ((hF2.block g hlgr).trans Hgc.out); have hfz2 := frozen_of_row _ g 0 _ _ hcg2.out; have d02 := (hF2.cell (p := ⟨g, 0, none⟩) hlgr).trans d0; have hHB2 := Lib.hid hF2; have c0 := (hF2.cell (p := ⟨b, o + k * 2, none⟩) hbb).trans c0; have c1 := (hF2.cell (p := ⟨b, o + k * 2 + 1, none⟩) hbb).trans c1; have hne : gb ≠ g := (by omega); have Hgb := Lib.hid hgb; clear hO2 hg2 hat2 hF2 hrow hcs hcap d0 hfz)
    have hgr3 := grown_setCell (World.grownBy.refl w2 (some g)) (p := ⟨g, 0, none⟩) (.inl rfl) (.slice (some ⟨gb, 0, none⟩) Lk.length cap)
    have hg3 := heap_setCell_same w2 g 0 _ _ (.slice (some ⟨gb, 0, none⟩) Lk.length cap) hcg2.out
    have hO4 := hO3.out.grown hgr3 (.inr (fun e => hne (by injection e))) (fun x hx => hokk.out x hx)
    have c0 := (World.cell?_of_block (a := ⟨b, o + k * 2, none⟩) (hgr3.block _ (World.block_lt_of_cell? _ _ c0) (fun e => hbg (by injection e)))).trans c0
    have c1 := (World.cell?_of_block (a := ⟨b, o + k * 2 + 1, none⟩) (hgr3.block _ (World.block_lt_of_cell? _ _ c1) (fun e => hbg (by injection e)))).trans c1
    have hG3 := Lib.hid (grown_setCell (grown_of_below hHB2.out (some g)) (p := ⟨g, 0, none⟩) (.inl rfl) (.slice (some ⟨gb, 0, none⟩) Lk.length cap))
    generalize w2.setCell ⟨g, 0, none⟩ (.slice (some ⟨gb, 0, none⟩) Lk.length cap) = w3 at *
    have hg3 : w3.heap[g]? = some (.cells #[.slice (some ⟨gb, 0, none⟩) Lk.length cap] 121 (0, 0)) := hg3
    clear hgr3 hO3 hcg2 hHB2 hfz2 d02
    have HTb := Lib.hid (show ∀ k, wr.heap.size ≤ k → T k from fun k hk => HTn.out k (Nat.le_trans hsz.out hk))
    have hrc3 := rc_row rfl hO4 hg3 HTb.out (fun x hx => hokk.out x hx)
    have HAt := Lib.hid (rat_c T g Lk l[k].acct w3.drew (hrc3.later (Below.refl _ _).drew) Hlk.out)
    rw [hn2] at HAt
    have d0 := cell_of_row _ g 0 _ _ (0, 0) hg3
    simp only [List.getElem?_toArray, List.getElem?_cons_zero] at d0
    have hat : w3.cell? ⟨gb, n * 4 + 1, none⟩ = some (i64 hv) := by rw [← Hhv.out]; exact hO4.at_ Hn1.out 1 _ rfl
    have hfr := hO4.free (n * 4 + 1)
    have HO4 := Lib.hid hO4
    have Hg3 := Lib.hid hg3
    have hnc : n < cap := by have := hO4.cells; obtain ⟨_, _, _, _, h4, _⟩ := this; have := Hn1.out; omega
    clear hO4 hg3 hrc3 hn2
    go_wp2_with fail
    refine wp_region_noPanic ?_
    refine wp_region_l 22 (fun V => V.cell? ⟨g, 0, none⟩ = some (.slice (some ⟨gb, 0, none⟩) Lk.length cap) ∧ V.cell? ⟨gb, n * 4 + 1, none⟩ = some (i64 hv) ∧ V.cell? ⟨b, o + k * 2, none⟩ = some (.string l[k].acct) ∧ V.cell? ⟨b, o + k * 2 + 1, none⟩ = some (i64 sm)) (by kernel_rfl) (⟨d0, hat, c0, c1⟩) (fun hH => ?_)
    refine tkZ 0 ?_; refine tkZ 1 ?_; refine tkZ 2 ?_; refine tkZ 3 ?_; refine tkZ 4 ?_; refine tkZ 5 ?_; refine tkZ 6 ?_; refine tkZ 7 ?_; refine tkZ 8 ?_; refine tkZ 9 ?_; refine tkZ 14 ?_; refine tkZ 15 ?_; refine tkZ 16 ?_; refine tkZ 17 ?_; refine tkZ 18 ?_
    refine tkO 10 (fun K hK => ?_)
    go_simp
    with_reducible refine HAt.out.mono ?_
    rintro e w6 ⟨rfl, rfl⟩
    refine hK.out _ _ (hH) (fun hH => ?_)
    clear hK K
    try simp only [Act.put, uA, uZ, uS, vA, vZ, vS]
    refine tkZ 11 ?_; refine tkZ 12 ?_; refine tkZ 13 ?_; refine tkZ 19 ?_; refine tkZ 20 ?_; refine tkZ 21 ?_
    refine tkL (fun K hK => ?_)
    go_simp
    refine hK.out _ _ ?_
    clear hK K
    try simp only [Act.put, uA, uZ, uS, vA, vZ, vS]
    refine tkD ?_
    have hO5 := HO4.out.set_cell Hn1.out 1 (by decide) (i64 (hv + sm)) { Lk[n] with hav := hv + sm } rfl (show Lk[n].name.size ≤ maxLen from hokk.out Lk[n] (List.getElem_mem Hn1.out))
    have HO5 := Lib.hid hO5
    clear hO5
    go_wp2
    go_roundw
    case rel =>
     exact ⟨k + 1, Lk.set n { Lk[n] with hav := hv + sm }, by go_num, by omega, (rc_row (by rw [List.length_set]) HO5.out.1 ((HO5.out.2.block g (Array.getElem?_eq_some_iff.1 Hg3.out).1 (fun e => hne (by injection e with e; exact e.symm))).trans Hg3.out) HTb.out (fun x hx => by
      rcases List.mem_or_eq_of_mem_set hx with hx | rfl
      ·exact hokk.out x hx
      ·exact (show Lk[n].name.size ≤ maxLen from hokk.out Lk[n] (List.getElem_mem Hn1.out)))).later (Below.refl _ _).drew, Hokn.out, Hson.out, by rw [List.length_set]; exact Hln.out, Hst.out, grown_trans HG.out (grown_setCell (grown_drew hG3.out) (p := ⟨gb, n * 4 + 1, none⟩) (.inr Hgb.out) _)⟩
    case measure => simp [intOf]; omega
   ·obtain rfl : k = l.length := by omega
    have g1 : decide ((l.length : Int) < (l.length : Int)) = false := decide_eq_false (by omega)
    rw [List.drop_length] at hal
    have HRR := Lib.hid (show R = (0, Lk) from HR1.out.trans hal)
    clear hal HR1
    go_wp2
    go_ret
    exact ⟨by rw [HRR.out]; rfl, by rw [HRR.out]; exact hrc, hG⟩
 ·have g1 : (q == 0) = false := beq_eq_false_iff_ne.2 hq0
  have HR1 := Lib.hid (show R = (q, L) from HR.out.trans (hne.out hq0))
  have hq1 := Lib.hid hq0
  clear HR Hch hne hq0
  go_wp2_with fail
  go_loopw [6] (fun i wr => i = i64 0 ∧ w1 = wr) (fun i _ => 0)
  case atStart => exact ⟨rfl, rfl⟩
  case round =>
   obtain ⟨rfl, rfl⟩ := hrel
   rcases Nat.eq_zero_or_pos l.length with h0 | h0
   ·have g2 : decide ((0 : Int) < (l.length : Int)) = false := decide_eq_false (by omega)
    have g3 : decide (0 < l.length) = false := decide_eq_false (by omega)
    go_wp2
    go_ret
    exact ⟨by rw [HR1.out]; rfl, by rw [HR1.out]; exact H.out.later hb1, grown_of_below hb1 _⟩
   ·have g2 : decide ((0 : Int) < (l.length : Int)) = true := decide_eq_true (by omega)
    have g3 : decide (0 < l.length) = true := decide_eq_true h0
    go_wp2
    go_ret
    exact ⟨by rw [HR1.out]; rfl, by rw [HR1.out]; exact H.out.later hb1, grown_of_below hb1 _⟩
end Go.Proofs.YtampniiehgimhaaGreat
/- ref08.at, Of -/
namespace Go.Proofs.YtampniiehgimhaaGreat
open Go.RowKit
/-- block g holds the reference's holds: H; they lie in blocks of T -/
def RhIs (w : World) (T : Nat → Prop) (g : Nat) (H : List Held) : Prop := ∃ A c, w.heap[g]? = some (.cells #[.slice A H.length c] 125 (0, 0)) ∧ SlS w (fun k => k < w.heap.size ∧ T k) A c H ∧ FormA A c
theorem RhIs.kept {w w' : World} {T S : Nat → Prop} {g : Nat} {H : List Held} (h : RhIs w T g H) (hk : Gr w w' S) (h1 : ¬ S g) (h2 : ∀ k, T k → ¬ S k) : RhIs w' T g H := by
 obtain ⟨A, c, hc, hs, hf⟩ := h
 refine ⟨A, c, (hk.block g (Array.getElem?_eq_some_iff.1 hc).1 h1).trans hc, (hs.grs hk fun b hb => ⟨hb.1, h2 b hb.2⟩).mono fun b hb => ⟨Nat.lt_of_lt_of_le hb.1 hk.size, hb.2⟩, hf⟩
theorem RhIs.later {w w' : World} {T : Nat → Prop} {g : Nat} {H : List Held} (h : RhIs w T g H) (hb : Below w.heap.size w w') : RhIs w' T g H := h.kept (Gr.of_below hb (fun _ => False)) id (fun _ _ => id)
theorem RhIs.lt {w : World} {T : Nat → Prop} {g : Nat} {H : List Held} (h : RhIs w T g H) : g < w.heap.size := by
 obtain ⟨A, c, hc, hs, hf⟩ := h
 exact (Array.getElem?_eq_some_iff.1 hc).1
abbrev idxH (H : List Held) (k : ByteArray) (n : Int) : Int := idxP (fun a : Held => decide (a.key = ⟨k, n⟩)) H
theorem idxH_get {H : List Held} {k : ByteArray} {n : Int} : (idxH H k n < 0 ∧ getK Held.key H ⟨k, n⟩ = none) ∨ ∃ (i : Nat) (h : i < H.length), idxH H k n = i ∧ getK Held.key H ⟨k, n⟩ = some H[i] ∧ H[i].key = ⟨k, n⟩ := by
 unfold idxH idxP getK
 rw [List.find?_eq_bind_findIdx?_getElem?]
 cases h : H.findIdx? fun a => decide (a.key = ⟨k, n⟩) with
 | none => exact .inl ⟨by decide, rfl⟩
 | some i =>
  obtain ⟨h1, h2, _⟩ := List.findIdx?_eq_some_iff_getElem.1 h
  exact .inr ⟨i, h1, rfl, by simp [List.getElem?_eq_getElem h1], by simpa using h2⟩
theorem key_ne {x : Held} {k : ByteArray} {n : Int} (h : x.acct ≠ k ∨ x.num ≠ n) : x.key ≠ ⟨k, n⟩ := fun e => by
 unfold Held.key at e
 injection e with e1 e2
 rcases h with h | h
 ·exact h e1
 ·exact h e2
set_option maxRecDepth 100000 in
set_option maxHeartbeats 4000000 in
theorem rhat_c (T : Nat → Prop) (g : Nat) (H : List Held) (k : ByteArray) (m : Int) (w : World) (h : RhIs w T g H) (hL : H.length ≤ 65536) :
  Calls Tryz.prog 115 #[.pointer (some ⟨g, 0, none⟩), .string k, i64 m] w fun e w' => e = .returned (i64 (idxH H k m)) ∧ w = w' := by
 obtain ⟨A, c, hc, hs, hf⟩ := h
 have c0 := cell_of_row _ g 0 _ _ (0, 0) hc
 simp only [List.getElem?_toArray, List.getElem?_cons_zero] at c0
 clear hc hf
 go_enter Tryz.func115, Tryz.ntmps115
 go_wp2
 go_loop [7] (fun i => ∃ n : Nat, n ≤ H.length ∧ i = i64 n ∧ (∀ j (hj : j < H.length), j < n → H[j].key ≠ ⟨k, m⟩)) (fun i => H.length - (intOf i).toNat)
 case atStart => exact ⟨0, Nat.zero_le _, rfl, by omega⟩
 case round =>
  obtain ⟨n, hn, rfl, hno⟩ := hrel
  by_cases hlt : n < H.length
  ·obtain ⟨b, o, rfl, hb, _, d0, d1, _⟩ := hs.held hlt
   have Hno := Lib.hid hno
   clear hno hs
   have i0 : (0 : Int) ≤ (n : Int) := by omega
   have i1 : (n : Int) < (H.length : Int) := by omega
   by_cases heq : H[n].acct = k
   ·have e1 := beqS_of_eq heq
    by_cases heq2 : H[n].num = m
    ·have e2 : (H[n].num == m) = true := beq_iff_eq.2 heq2
     have Heq := Lib.hid (show H[n].key = ⟨k, m⟩ by unfold Held.key; rw [heq, heq2])
     clear heq heq2
     go_wp2
     go_ret
     exact ⟨by rw [show idxH H k m = n from idxP_hit hlt (by simpa using Heq.out) (fun j hj h => by simpa using Hno.out j hj h)]; rfl, rfl⟩
    ·have e2 : (H[n].num == m) = false := beq_eq_false_iff_ne.2 heq2
     have Heq := Lib.hid (key_ne (x := H[n]) (k := k) (.inr heq2))
     clear heq heq2
     go_wp2
     go_round
     case rel => exact ⟨n + 1, by omega, by go_num, fun j hj h => by
       rcases Nat.lt_succ_iff_lt_or_eq.1 h with h | rfl
       ·exact Hno.out j hj h
       ·exact Heq.out⟩
     case measure => simp [intOf]; omega
   ·have e1 := beqS_of_ne heq
    have Heq := Lib.hid (key_ne (x := H[n]) (n := m) (.inl heq))
    clear heq
    go_wp2
    go_round
    case rel => exact ⟨n + 1, by omega, by go_num, fun j hj h => by
      rcases Nat.lt_succ_iff_lt_or_eq.1 h with h | rfl
      ·exact Hno.out j hj h
      ·exact Heq.out⟩
    case measure => simp [intOf]; omega
  ·have hkl : n = H.length := by omega
   subst hkl
   go_wp2
   go_ret
   exact ⟨by rw [show idxH H k m = -1 from idxP_miss (fun j hj => by simpa using hno j hj hj)]; rfl, rfl⟩
theorem rheldInfo : (Tryz.prog.info? 136).map (fun i => (i.zero, i.size, i.bytes)) = some (some (.agg #[i64 0, .string ByteArray.empty, i64 0]), Enc.size Held, 32) := by kernel_rfl
theorem ofL_snoc (l : List Held) (x : Held) (s : ByteArray) : ofL (l ++ [x]) s = if x.acct = s then ofL l s ++ [x] else ofL l s := by
 unfold ofL
 rw [List.filter_append]
 by_cases h : x.acct = s
 ·rw [if_pos h, List.filter_cons_of_pos (by simpa using h)]; rfl
 ·rw [if_neg h, List.filter_cons_of_neg (by simpa using h)]; simp
set_option maxRecDepth 100000 in
set_option maxHeartbeats 4000000 in
theorem rhof_c (T : Nat → Prop) (g : Nat) (H : List Held) (k : ByteArray) (w : World) (h : RhIs w T g H) (hL : H.length ≤ 65536) :
  Calls Tryz.prog 116 #[.pointer (some ⟨g, 0, none⟩), .string k] w fun e w' => ∃ v, e = .returned v ∧ Own w' w.heap.size 136 v (ofL H k) ∧ Below w.heap.size w w' := by
 have Hr := Lib.hid h
 have hlt := h.lt
 clear h
 go_enter Tryz.func116, Tryz.ntmps116
 go_wp2
 go_loopw [5, 6] (fun v i wr => ∃ n : Nat, i = i64 n ∧ n ≤ H.length ∧ Own wr w.heap.size 136 v (ofL (H.take n) k) ∧ Below w.heap.size w wr) (fun _ i _ => H.length - (intOf i).toNat)
 case atStart => exact ⟨0, rfl, Nat.zero_le _, Own.nil_ _ _ _, Below.refl _ _⟩
 case round =>
  obtain ⟨n, rfl, hn, hO, hB⟩ := hrel
  obtain ⟨A, c, hc, hs, hf⟩ := Hr.out.later hB
  have c0 := cell_of_row _ g 0 _ _ (0, 0) hc
  simp only [List.getElem?_toArray, List.getElem?_cons_zero] at c0
  clear hc hf
  by_cases hlt2 : n < H.length
  ·obtain ⟨b, o, rfl, hb, hsz, d0, d1, d2⟩ := hs.held hlt2
   have hlc : H.length ≤ c := hs.1
   have g1 : decide ((n : Int) < (H.length : Int)) = true := decide_eq_true (by omega)
   have i0 : (0 : Int) ≤ (n : Int) := by omega
   have Hln := Lib.hid (show (ofL (H.take n) k).length + 1 ≤ 65536 by have h1 := List.length_filter_le (fun x : Held => decide (x.acct = k)) (H.take n); rw [List.length_take] at h1; unfold ofL; omega)
   have Htk := Lib.hid (show ofL (H.take (n + 1)) k = if H[n].acct = k then ofL (H.take n) k ++ [H[n]] else ofL (H.take n) k by rw [List.take_succ_eq_append_getElem hlt2, ofL_snoc])
   generalize H[n] = x at *
   by_cases heq : x.acct = k
   ·have e1 := beqS_of_eq heq
    have HT2 := Lib.hid (show ofL (H.take (n + 1)) k = ofL (H.take n) k ++ [x] by rw [Htk.out, if_pos heq])
    have HO2 := Lib.hid (hO.later ((Below.refl _ _).alloc (Nat.le_refl _) (.cells #[i64 x.num, .string x.acct, i64 x.sum] 136)))
    have Hne := Lib.hid (hO.new_ne (Nat.le_refl wr.heap.size))
    have HH := Lib.hid (heap_alloc_new wr (.cells #[i64 x.num, .string x.acct, i64 x.sum] 136))
    have HB2 := Lib.hid (hB.alloc hB.size (.cells #[i64 x.num, .string x.acct, i64 x.sum] 136))
    have Hsz := Lib.hid hsz
    clear heq Htk hs hO hB hsz
    go_wp2_with (at_builtin; refine wpList_append_one rfl (some 35) (.tmp 26) (.tmp 34) 123 rfl rfl (.agg #[i64 0, .string ByteArray.empty, i64 0]) 32 Tryz.underlying123 rheldInfo rfl (by decide) (by decide) rfl HO2.out wr.heap.size x rfl _ 136 HH.out rfl Hne.out Hsz.out (by have := Hln.out; omega) HB2.out.size ?_; intro v3 w3 hO3 hg3 hat3)
    rw [← HT2.out] at hO3
    have hB3 := HB2.out.trans (HO2.out.below hg3 (Nat.le_refl _) HB2.out.size)
    clear hg3 hat3 HO2 HB2 HH Hne
    go_roundw
    case rel => exact ⟨n + 1, by go_num, by omega, hO3, hB3⟩
    case measure => simp [intOf]; omega
   ·have e1 := beqS_of_ne heq
    have HT2 := Lib.hid (show ofL (H.take (n + 1)) k = ofL (H.take n) k by rw [Htk.out, if_neg heq])
    clear heq Htk hs
    go_wp2
    go_roundw
    case rel => exact ⟨n + 1, by go_num, by omega, by rw [HT2.out]; exact hO, hB⟩
    case measure => simp [intOf]; omega
  ·have g1 : decide ((n : Int) < (H.length : Int)) = false := decide_eq_false (by omega)
   rw [List.take_of_length_le (by omega)] at hO
   go_wp2
   go_ret
   exact ⟨_, rfl, hO, hB⟩
end Go.Proofs.YtampniiehgimhaaGreat
/- ref08.cut -/
namespace Go.Proofs.YtampniiehgimhaaGreat
open Go.RowKit
theorem add_noneC (b o n : Nat) : (⟨b, o, none⟩ : Addr).add n = ⟨b, o + n, none⟩ := by
 unfold Addr.add
 split
 ·rename_i h
  subst h
  rfl
 ·rfl
/-- a list of the call's own, put into the holds of block g -/
theorem rh_put {w u : World} {T : Nat → Prop} {g base : Nat} {L' : List Held} {v V0 : Value} (hb0 : w.heap.size ≤ base) (HB : Below w.heap.size w u) (hlg : g < w.heap.size) (hT : ∀ k, w.heap.size ≤ k → T k)
  (hg : u.heap[g]? = some (.cells #[V0] 125 (0, 0))) (hO : Own u base 136 v L') (hok : ∀ x ∈ L', x.acct.size ≤ maxLen) : RhIs (u.setCell ⟨g, 0, none⟩ v) T g L' ∧ w.grownBy (u.setCell ⟨g, 0, none⟩ v) (some g) := by
 have hg3 := heap_setCell_same u g 0 _ _ v hg
 have hgr := grown_setCell (World.grownBy.refl u (some g)) (p := ⟨g, 0, none⟩) (.inl rfl) v
 have hO3 := hO.grown hgr (by
  cases hv : v.ownBlock with
  | none => exact .inl rfl
  | some b =>
   right
   intro e
   injection e with e
   have := (hO.1.lt b hv).1
   omega) (fun x hx => hok x hx)
 obtain ⟨A, c, hv, hs, hf⟩ := hO3.slT (T := T) (fun k hk => hT k (Nat.le_trans hb0 hk)) hok
 refine ⟨⟨A, c, ?_, hs, hf⟩, grown_setCell (grown_of_below HB (some g)) (p := ⟨g, 0, none⟩) (.inl rfl) v⟩
 have e5 : (#[V0] : Array Value).setIfInBounds 0 v = #[.slice A L'.length c] := by rw [← hv]; rfl
 rw [e5] at hg3
 exact hg3
set_option maxRecDepth 100000 in
set_option maxHeartbeats 8000000 in
theorem rhcut_c (T : Nat → Prop) (g : Nat) (H : List Held) (i : Nat) (wq : World) (h : RhIs wq T g H) (hL : H.length ≤ 65536) (hi : i < H.length) (hTn : ∀ k, wq.heap.size ≤ k → T k) :
  Calls Tryz.prog 118 #[.pointer (some ⟨g, 0, none⟩), i64 i] wq fun e w' => e = .returned (.tuple #[]) ∧ RhIs w' T g (H.take i ++ H.drop (i + 1)) ∧ wq.grownBy w' (some g) := by
 have hlgq := h.lt
 have HTn := Lib.hid hTn
 obtain ⟨A, c, hc, hs, hf⟩ := h
 obtain ⟨b, o, rfl, -⟩ := hs.held hi
 have hcq := Lib.hid hc
 have c0q := cell_of_row _ g 0 _ _ (0, 0) hc
 simp only [List.getElem?_toArray, List.getElem?_cons_zero] at c0q
 have hlc : H.length ≤ c := hs.1
 have Hs := Lib.hid hs
 have hTk := Lib.hid (fun (V : World) (h : Below wq.heap.size wq V) => (show SlS V (Oth V (.slice none 0 0)) (some ⟨b, o, none⟩) c (H.take i) from ((hs.below_ h).take i).keep (fun _ _ => rfl) (fun b hb => ⟨hb.1, by simp [Value.ownBlock]⟩)))
 have hDr := Lib.hid (fun (V : World) (h : Below wq.heap.size wq V) => (show Sl V wq.heap.size (if c = i + 1 then some ⟨b, o, none⟩ else some ⟨b, o + (i + 1) * 3, none⟩) (c - (i + 1)) (H.drop (i + 1)) from by
  have := ((hs.mono (fun b hb => hb.1)).drop (k := i + 1) (by omega)).below h
  rwa [Option.map_some, show (⟨b, o, none⟩ : Addr).add ((i + 1) * Enc.size Held) = ⟨b, o + (i + 1) * 3, none⟩ from add_noneC ..] at this))
 have Hql := Lib.hid (show i = (H.take i).length by rw [List.length_take]; omega)
 have hw1 : IntKind.i64.wrap ((i : Int) + 1) = ((i + 1 : Nat) : Int) := by rw [IntKind.wrap_i64]; omega
 have q1 : ((i : Nat) : Int) ≤ (c : Int) := by omega
 have q0 : (0 : Int) ≤ ((i : Nat) : Int) := by omega
 have q4 : (i : Int) + 1 ≤ (H.length : Int) := by omega
 have q5 : (0 : Int) ≤ (i : Int) + 1 := by omega
 have q3 : (H.length : Int) ≤ (c : Int) := by omega
 clear hc hs hf hTn
 go_enter Tryz.func118, Tryz.ntmps118
 go_wp2_with fail
 have hb : Below wq.heap.size wq wq.drew := (Below.refl _ _).drew
 refine wp_region_noPanic ?_
 refine wp_region_l 18 (fun V => V.cell? ⟨g, 0, none⟩ = some (.slice (some ⟨b, o, none⟩) H.length c)) (by kernel_rfl) ((hb.cell (p := ⟨g, 0, none⟩) hlgq).trans c0q) (fun hH => ?_)
 refine tkZ 0 ?_; refine tkZ 1 ?_; refine tkZ 2 ?_; refine tkZ 3 ?_; refine tkZ 4 ?_; refine tkZ 5 ?_; refine tkZ 6 ?_; refine tkZ 8 ?_; refine tkZ 9 ?_; refine tkZ 10 ?_; refine tkZ 11 ?_; refine tkZ 12 ?_; refine tkZ 13 ?_; refine tkZ 14 ?_
 refine tkO 7 (fun K hK => ?_)
 rw [if_pos (by rfl)]
 refine oper_append (.const (.slice none 0 0)) (.tmp 10) 123 rfl (.agg #[i64 0, .string ByteArray.empty, i64 0]) 32 Tryz.underlying123 rheldInfo rfl (by decide) (by decide) rfl (Own.nil_ _ wq.heap.size 136) (some ⟨b, o, none⟩) i c (H.take i) rfl Hql.out (hTk.out _ hb) (by simp <;> omega) hb.size ?_
 intro v1 u1 hO1 hg1 hat1
 rw [List.nil_append] at hO1
 have hF := (Own.nil_ (α := Held) _ _ 136).below hg1 (Nat.le_refl _) (Nat.le_refl _)
 have hb := below_on hb (Nat.le_refl _) hF
 have HO1 := Lib.hid hO1
 clear hF hg1 hat1 hO1
 refine hK.out _ _ ((hb.cell (p := ⟨g, 0, none⟩) hlgq).trans c0q) (fun hH => ?_)
 clear hK K
 try simp only [Act.put, uA, uZ, uS, vA, vZ, vS]
 refine tkO 15 (fun K hK => ?_)
 rw [if_pos (by rfl)]
 refine oper_append (.tmp 11) (.tmp 18) 123 rfl (.agg #[i64 0, .string ByteArray.empty, i64 0]) 32 Tryz.underlying123 rheldInfo rfl (by decide) (by decide) rfl HO1.out _ _ _ (H.drop (i + 1)) rfl (by simp) ((hDr.out _ hb).mono (HO1.out.oth (Nat.le_refl _) hb.size)) (by simp <;> omega) hb.size ?_
 intro v3 u3 hO3 hg3 hat3
 obtain ⟨A3, cap3, hv3, -⟩ := hO3.sl
 generalize List.length _ = n3 at hv3
 subst hv3
 have hb := hb.trans (HO1.out.below hg3 (Nat.le_refl _) hb.size)
 have HO3 := Lib.hid hO3
 clear hg3 hat3 hO3 HO1
 refine hK.out _ _ ((hb.cell (p := ⟨g, 0, none⟩) hlgq).trans c0q) (fun hH => ?_)
 clear hK K
 try simp only [Act.put, uA, uZ, uS, vA, vZ, vS]
 refine tkZ 16 ?_; refine tkZ 17 ?_
 refine tkL (fun K hK => ?_)
 have c3 := (hb.cell (p := ⟨g, 0, none⟩) hlgq).trans c0q
 have hg3 := Lib.hid ((hb.block _ hlgq).trans hcq.out)
 have f3 := frozen_of_row _ g 0 _ _ hg3.out
 go_simp
 refine hK.out _ _ ?_
 clear hK K
 try simp only [Act.put, uA, uZ, uS, vA, vZ, vS]
 refine tkD ?_
 have hD := rh_put (Nat.le_refl _) hb hlgq HTn.out hg3.out HO3.out (fun x hx => by
  rcases List.mem_append.1 hx with hx | hx
  ·exact Hs.out.2.2.2 x (List.mem_of_mem_take hx)
  ·exact Hs.out.2.2.2 x (List.mem_of_mem_drop hx))
 have HD := Lib.hid hD
 clear hD
 go_wp2
 all_goals (refine bodyPost_end (results_none rfl _ _ _) rfl ?_; exact ⟨rfl, HD.out.1, HD.out.2⟩)
end Go.Proofs.YtampniiehgimhaaGreat
/- ref05: Aside -/
namespace Go.Proofs.YtampniiehgimhaaGreat
open Go.RowKit
set_option maxRecDepth 100000 in
set_option maxHeartbeats 8000000 in
theorem raside_c (T : Nat → Prop) (g : Nat) (L : List Ac) (k : ByteArray) (x : Int) (w : World) (h : RcIs w T g L) (hL : L.length ≤ 65536) (hk : OkA L) (hS : SrtL ltA L) (hx : R64 x) (hTn : ∀ k, w.heap.size ≤ k → T k) (hTg : ¬ T g) :
  Calls Tryz.prog 117 #[.pointer (some ⟨g, 0, none⟩), .string k, i64 x] w fun e w' => e = .returned (i64 (turnL (asiD x) L k x).1) ∧ RcIs w' T g (turnL (asiD x) L k x).2 ∧ w.grownBy w' (some g) := by
 have hA := Lib.hid (rat_c T g L k w h hL)
 have H := Lib.hid h
 have hlg := h.lt
 obtain ⟨A, c, hc, hs, hf⟩ := h
 have c0 := cell_of_row _ g 0 _ _ (0, 0) hc
 simp only [List.getElem?_toArray, List.getElem?_cons_zero] at c0
 obtain ⟨R, hR⟩ : ∃ R, turnL (asiD x) L k x = R := ⟨_, rfl⟩
 rw [hR]
 rcases idxA_get (L := L) (k := k) with ⟨h1, h2⟩ | ⟨n, hn, h1, h2, h3⟩
 ·have HR := Lib.hid (show R = (6, L) by rw [← hR]; unfold turnL; rw [h2])
  clear h2 hc hR hf
  generalize idxA L k = i at *
  have g1 : decide (i < 0) = true := decide_eq_true h1
  go_enter Tryz.func117, Tryz.ntmps117
  go_wp2_with fail
  refine hA.out.mono ?_
  rintro e w1 ⟨rfl, rfl⟩
  go_wp2
  go_ret
  exact ⟨by rw [HR.out]; rfl, by rw [HR.out]; exact H.out, World.grownBy.refl _ _⟩
 ·rw [h1] at hA
  have hLn := Lib.hid (show turnL (asiD x) L k x = if (asiD x L[n]).2 ≠ 0 then ((asiD x L[n]).2, L) else if 0 < x ∧ freeA L[n] x = false then (9, L) else if (asiD x L[n]).1.set_ < 0 then (13, L) else (0, L.set n (asiD x L[n]).1) by
   unfold turnL
   rw [h2, ← setK_set keyA hS hn (show L[n].name = (asiD x L[n]).1.name from rfl)])
  have hka := hk _ (List.getElem_mem hn)
  obtain ⟨hIn, hs0, hnm⟩ := hka
  have hok := Lib.hid (fun y hy => hs.2.2.2 y hy)
  have hmem := Lib.hid (List.getElem_mem hn)
  obtain ⟨b, o, rfl, hb, _, d0, d1, d2, d3⟩ := hs.ac hn
  have g1 : decide ((n : Int) < 0) = false := decide_eq_false (by omega)
  have i0 : (0 : Int) ≤ (n : Int) := by omega
  have i1 : (n : Int) < (L.length : Int) := by omega
  have hlc : L.length ≤ c := hs.1
  have hHs := Lib.hid hs
  have HT := Lib.hid hTn
  have HG := Lib.hid hTg
  have L1 := Lib.hid fun W => radd_c L[n].set_ x W hIn.2.1 hx
  have L2 := Lib.hid fun W => rfree_c L[n] x W hIn hs0 hx
  have hcg := Lib.hid hc
  have HU := Lib.hid (show R = _ from hR.symm.trans hLn.out)
  have HD := Lib.hid (show asiD x L[n] = ({ L[n] with set_ := (sumR (L[n].set_ + x)).1 }, (sumR (L[n].set_ + x)).2) from rfl)
  obtain ⟨a, ha⟩ : ∃ a, L[n] = a := ⟨_, rfl⟩
  rw [ha] at HU HD L1 L2 d0 d1 d2 d3 hs0 hnm hmem
  have Ha := Lib.hid ha
  have hfz := frozen_of_row _ g 0 _ _ hc
  clear hf h2 h1 hs h3 ha hLn hR hk hS hTn hTg hc hIn
  generalize asiD x a = d at *
  generalize sumR (a.set_ + x) = r at *
  obtain rfl := HD.out
  clear HD
  generalize freeA a x = f at *
  have HB := Lib.hid (Below.refl w.heap.size w)
  go_enter Tryz.func117, Tryz.ntmps117
  go_wp2_with fail
  refine hA.out.mono ?_
  rintro e w1 ⟨rfl, rfl⟩
  clear hA
  go_wp2_with fail
  refine (L1.out _).mono ?_
  rintro e w1 ⟨rfl, hF⟩
  have HB1 := Lib.hid hF
  have H1 := Lib.hid (H.out.later hF)
  have c0' := (hF.cell (p := ⟨g, 0, none⟩) hlg).trans c0
  have d0' := (hF.cell (p := ⟨b, o + n * 4, none⟩) hb.1).trans d0
  have d1' := (hF.cell (p := ⟨b, o + n * 4 + 1, none⟩) hb.1).trans d1
  have d2' := (hF.cell (p := ⟨b, o + n * 4 + 2, none⟩) hb.1).trans d2
  have d3' := (hF.cell (p := ⟨b, o + n * 4 + 3, none⟩) hb.1).trans d3
  clear hF L1 c0 d0 d1 d2 d3
  by_cases hr : r.2 = 0
  ·have g2 : (r.2 != 0) = false := by rw [hr]; rfl
   have HU2 := Lib.hid (show R = (if 0 < x ∧ f = false then (9, L) else if ({ a with set_ := r.1 } : Ac).set_ < 0 then (13, L) else (0, L.set n { a with set_ := r.1 })) by rw [HU.out, if_neg (by simpa using hr)])
   clear hr HU
   by_cases hx0 : 0 < x
   ·have g3 : decide ((0 : Int) < x) = true := decide_eq_true hx0
    have HX := Lib.hid hx0
    clear hx0
    go_wp2_with fail
    refine (L2.out _).mono ?_
    rintro e w2 ⟨rfl, hF⟩
    have HB2 := Lib.hid (below_on HB1.out (Nat.le_refl _) hF)
    have H2 := Lib.hid (H1.out.later hF)
    have c0' := (hF.cell (p := ⟨g, 0, none⟩) (Nat.lt_of_lt_of_le hlg HB1.out.size)).trans c0'
    clear hF L2 d0' d1' d2' d3' H1
    cases f with
    | false =>
     have HR := Lib.hid (show R = (9, L) by rw [HU2.out, if_pos ⟨HX.out, rfl⟩])
     clear HU2
     go_wp2
     go_ret
     exact ⟨by rw [HR.out]; rfl, by rw [HR.out]; exact H2.out, grown_of_below HB2.out _⟩
    | true =>
     have HU3 := Lib.hid (show R = (if ({ a with set_ := r.1 } : Ac).set_ < 0 then (13, L) else (0, L.set n { a with set_ := r.1 })) by rw [HU2.out, if_neg (fun h => absurd h.2 (by decide))])
     clear HU2
     have HB1 := HB2
     have H1 := H2
     clear HB2 H2
     have HS : True := trivial
     by_cases hz : r.1 < 0
     ·have g4 : decide (r.1 < 0) = true := decide_eq_true hz
      have HR := Lib.hid (show R = (13, L) by rw [HU3.out, if_pos hz])
      clear hz HU3
      go_wp2
      go_ret
      exact ⟨by rw [HR.out]; rfl, by rw [HR.out]; exact H1.out, grown_of_below HB1.out _⟩
     ·have g4 : decide (r.1 < 0) = false := decide_eq_false hz
      have HR := Lib.hid (show R = (0, L.set n { a with set_ := r.1 }) by rw [HU3.out, if_neg hz])
      clear HU3
      have hcg1 := Lib.hid ((HB1.out.block _ hlg).trans hcg.out)
      have hfz1 := frozen_of_row _ g 0 _ _ hcg1.out
      have hsl := Lib.hid (show SlS _ (Oth _ (.slice none 0 0)) (some ⟨b, o, none⟩) c L from (hHs.out.keep (fun p hp => HB1.out.cell hp.1) (fun b hb => ⟨Nat.lt_of_lt_of_le hb.1 HB1.out.size, by simp [Value.ownBlock]⟩)))
      have hBs := HB1.out.size
      clear hfz
      go_wp2_with (at_builtin; refine wpList_append_slice rfl (some 52) (.const (.slice none 0 0)) (.tmp 51) 109 rfl rfl (.agg #[.string ByteArray.empty, i64 0, i64 0, i64 0]) 40 Tryz.underlying109 acInfo rfl (by decide) (by decide) rfl (Own.nil_ _ _ 140) (some ⟨b, o, none⟩) L.length c L rfl rfl hsl.out (by simp <;> omega) (Nat.le_refl _) ?_; intro v2 w2 hO2 hg2 hat2; rw [List.nil_append] at hO2; have hF2 := (Own.nil_ (α := Ac) _ _ 140).below hg2 (Nat.le_refl _) (Nat.le_refl _); obtain ⟨gb, cap, cur, hv2, hgb, hrow, hcap, -, hcs, -⟩ := hO2.form (by omega); subst hv2; have hO3 := Lib.hid hO2; have hcg2 := Lib.hid ((hF2.block g (Nat.lt_of_lt_of_le hlg HB1.out.size)).trans hcg1.out); have hfz2 := frozen_of_row _ g 0 _ _ hcg2.out; have c02 := (hF2.cell (p := ⟨g, 0, none⟩) (Nat.lt_of_lt_of_le hlg HB1.out.size)).trans c0'; have hat : w2.cell? ⟨gb, n * 4 + 2, none⟩ = some (i64 L[n].set_) := hO2.at_ hn 2 _ rfl;  have hfr := hO2.free (n * 4 + 2); have hHB2 := Lib.hid (below_on HB1.out (Nat.le_refl _) hF2); have hlr := Lib.hid (Array.getElem?_eq_some_iff.1 hrow).1; have hne : gb ≠ g := (by omega); clear hO2 hg2 hat2 hF2 hrow hcs)
      have hDone := Lib.hid (rc_done hHB2.out hBs hlg HT.out hok.out hcg2.out hO3.out hn 2 (by decide) (i64 r.1) { L[n] with set_ := r.1 } rfl (hok.out L[n] (List.getElem_mem hn)))
      go_wp2
      go_ret
      exact ⟨by rw [HR.out]; rfl, by rw [HR.out]; rw [Ha.out] at hDone; exact hDone.out.1, hDone.out.2⟩
   ·have g3 : decide ((0 : Int) < x) = false := decide_eq_false hx0
    have HU3 := Lib.hid (show R = (if ({ a with set_ := r.1 } : Ac).set_ < 0 then (13, L) else (0, L.set n { a with set_ := r.1 })) by rw [HU2.out, if_neg (fun h => hx0 h.1)])
    clear hx0 HU2 d0' d1' d2' d3' L2
    have HS : True := trivial
    by_cases hz : r.1 < 0
    ·have g4 : decide (r.1 < 0) = true := decide_eq_true hz
     have HR := Lib.hid (show R = (13, L) by rw [HU3.out, if_pos hz])
     clear hz HU3
     go_wp2
     go_ret
     exact ⟨by rw [HR.out]; rfl, by rw [HR.out]; exact H1.out, grown_of_below HB1.out _⟩
    ·have g4 : decide (r.1 < 0) = false := decide_eq_false hz
     have HR := Lib.hid (show R = (0, L.set n { a with set_ := r.1 }) by rw [HU3.out, if_neg hz])
     clear HU3
     have hcg1 := Lib.hid ((HB1.out.block _ hlg).trans hcg.out)
     have hfz1 := frozen_of_row _ g 0 _ _ hcg1.out
     have hsl := Lib.hid (show SlS _ (Oth _ (.slice none 0 0)) (some ⟨b, o, none⟩) c L from (hHs.out.keep (fun p hp => HB1.out.cell hp.1) (fun b hb => ⟨Nat.lt_of_lt_of_le hb.1 HB1.out.size, by simp [Value.ownBlock]⟩)))
     have hBs := HB1.out.size
     clear hfz
     go_wp2_with (at_builtin; refine wpList_append_slice rfl (some 52) (.const (.slice none 0 0)) (.tmp 51) 109 rfl rfl (.agg #[.string ByteArray.empty, i64 0, i64 0, i64 0]) 40 Tryz.underlying109 acInfo rfl (by decide) (by decide) rfl (Own.nil_ _ _ 140) (some ⟨b, o, none⟩) L.length c L rfl rfl hsl.out (by simp <;> omega) (Nat.le_refl _) ?_; intro v2 w2 hO2 hg2 hat2; rw [List.nil_append] at hO2; have hF2 := (Own.nil_ (α := Ac) _ _ 140).below hg2 (Nat.le_refl _) (Nat.le_refl _); obtain ⟨gb, cap, cur, hv2, hgb, hrow, hcap, -, hcs, -⟩ := hO2.form (by omega); subst hv2; have hO3 := Lib.hid hO2; have hcg2 := Lib.hid ((hF2.block g (Nat.lt_of_lt_of_le hlg HB1.out.size)).trans hcg1.out); have hfz2 := frozen_of_row _ g 0 _ _ hcg2.out; have c02 := (hF2.cell (p := ⟨g, 0, none⟩) (Nat.lt_of_lt_of_le hlg HB1.out.size)).trans c0'; have hat : w2.cell? ⟨gb, n * 4 + 2, none⟩ = some (i64 L[n].set_) := hO2.at_ hn 2 _ rfl;  have hfr := hO2.free (n * 4 + 2); have hHB2 := Lib.hid (below_on HB1.out (Nat.le_refl _) hF2); have hlr := Lib.hid (Array.getElem?_eq_some_iff.1 hrow).1; have hne : gb ≠ g := (by omega); clear hO2 hg2 hat2 hF2 hrow hcs)
     have hDone := Lib.hid (rc_done hHB2.out hBs hlg HT.out hok.out hcg2.out hO3.out hn 2 (by decide) (i64 r.1) { L[n] with set_ := r.1 } rfl (hok.out L[n] (List.getElem_mem hn)))
     go_wp2
     go_ret
     exact ⟨by rw [HR.out]; rfl, by rw [HR.out]; rw [Ha.out] at hDone; exact hDone.out.1, hDone.out.2⟩
  ·have g2 : (r.2 != 0) = true := by simpa using hr
   have HR := Lib.hid (show R = (r.2, L) by rw [HU.out, if_pos hr])
   clear hr HU
   go_wp2
   go_ret
   exact ⟨by rw [HR.out]; rfl, by rw [HR.out]; exact H1.out, grown_of_below HB1.out _⟩
end Go.Proofs.YtampniiehgimhaaGreat
