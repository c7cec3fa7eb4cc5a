/- Texts of this claim, laid together: Rf07. -/
import Derived.Test.YtmljlkjomjflpaaGreatRows
import Derived.Test.YtmljlkjomjflpaaGreatHp19
import Derived.Test.YtmljlkjomjflpaaGreatHp10
import Derived.Test.YtmljlkjomjflpaaGreatHp16
import Derived.Test.YtmljlkjomjflpaaGreatHp9
import Derived.Test.YtmljlkjomjflpaaGreatHp7
import Derived.Test.YtmljlkjomjflpaaGreatHp2
import Derived.WalkKit
import Derived.WalkSpells
import Derived.WalkLawsBesides
import Derived.Deep.QuietTactic
import Derived.BigQuiet
import Derived.Laws.StructEq
import Derived.Deep.DeepFit
import Derived.StillTailTactics

/- ref07.Check, Make -/
namespace Go.Proofs.YtmljlkjomjflpaaGreat
open Go.RowKit
theorem getLR_in {L : List Ac} (h : OkA L) (k : ByteArray) : InA (getLR L k).1 ∧ 0 ≤ (getLR L k).1.set_ := by
  rcases getLR_cases L k with ⟨_, h2⟩ | ⟨a, h1, h2⟩
  · unfold getLR; rw [h2]
    exact ⟨⟨R64_0, R64_0, by decide, by decide⟩, by decide⟩
  · rw [h2]
    exact ⟨(h a (getK_mem h1).1).1, (h a (getK_mem h1).1).2.1⟩
theorem legsB_six {l : List Leg} (h : legsB l = true) : l.length ≤ 6 := by
  unfold legsB at h
  simp only [Bool.and_eq_true, decide_eq_true_eq] at h
  exact h.2.2
set_option maxRecDepth 100000 in
set_option maxHeartbeats 16000000 in
theorem rcheck_c (T : Nat → Prop) (g : Nat) (L : List Ac) (A : Option Addr) (c : Nat) (l : List Leg) (w : World) (h : RcIs w T g L) (hl : L.length ≤ 65536) (hL : OkA L) (hs : Sl w w.heap.size A c l) (hn : l.length ≤ 65536) (hr : ∀ x ∈ l, R64 x.sum) :
    Calls Tryz.prog 119 #[.pointer (some ⟨g, 0, none⟩), .slice A l.length c] w fun e w' => e = .returned (i64 (checkL L l)) ∧ Below w.heap.size w w' := by
  have HRt := Lib.hid (rright7_c A c l w hs hn)
  obtain ⟨R, hR⟩ : ∃ R, checkL L l = R := ⟨_, rfl⟩
  rw [hR]
  rw [checkL_first hL] at hR
  have HR := Lib.hid hR.symm
  have H := Lib.hid h
  have Hs := Lib.hid hs
  have HL := Lib.hid hL
  have Hr := Lib.hid hr
  have h6 := @legsB_six l
  have hlc : l.length ≤ c := hs.1
  clear hR h hs hL hr
  generalize legsB l = lb at *
  have H6 := Lib.hid h6
  clear h6
  go_enter Tryz.func119, Tryz.ntmps119
  go_wp2_with fail
  refine HRt.out.mono ?_
  rintro e w1 ⟨rfl, hb1⟩
  clear HRt
  cases lb with
  | false =>
    have HR1 := Lib.hid (show R = 1 by rw [HR.out, if_pos rfl])
    clear HR
    go_wp2
    go_ret
    exact ⟨by rw [HR1.out]; rfl, hb1⟩
  | true =>
    have HR1 := Lib.hid (show R = if weighB l = false then 8 else firstE L l by rw [HR.out, if_neg (by decide)])
    have hl6 := H6.out rfl
    clear HR H6
    go_wp2_with fail
    go_loopw [5, 6] (fun v i wr => ∃ k : Nat, i = i64 k ∧ k ≤ l.length ∧ Own wr w.heap.size 2 v ((l.take k).map Leg.sum) ∧ Below w.heap.size w wr) (fun _ i _ => l.length - (intOf i).toNat)
    case atStart => exact ⟨0, rfl, by omega, Own.nil_ _ _ _, hb1⟩
    case round =>
      obtain ⟨k, rfl, hk, hO, hb⟩ := hrel
      clear hb1
      by_cases hlt : k < l.length
      · have g1 : decide ((k : Int) < (l.length : Int)) = true := decide_eq_true (by omega)
        have i0 : (0 : Int) ≤ (k : Int) := by omega
        have i1 : (k : Int) < (l.length : Int) := by omega
        obtain ⟨b, o, rfl, hbb, hsz, c0, c1⟩ := (Hs.out.later hb).leg hlt
        have HO2 := Lib.hid (hO.later ((Below.refl _ _).alloc (Nat.le_refl _) (.cells #[i64 l[k].sum] 2)))
        have Hne := Lib.hid (hO.new_ne (Nat.le_refl wr.heap.size))
        have HH := Lib.hid (heap_alloc_new wr (.cells #[i64 l[k].sum] 2))
        have hbb' := hb.alloc hb.size (.cells #[i64 l[k].sum] 2)
        have HLn := Lib.hid (show ((l.take k).map Leg.sum).length = k by simp; omega)
        clear hO
        go_wp2_with (at_builtin; refine wpList_append_one rfl (some 32) (.tmp 25) (.tmp 31) 180 rfl rfl (i64 0) 8 Tryz.underlying180 intInfo64 rfl Nat.one_pos (by decide) rfl HO2.out wr.heap.size l[k].sum rfl _ 2 HH.out rfl Hne.out trivial (by rw [HLn.out]; omega) hbb'.size ?_; intro v3 w3 hO3 hg3 hat3)
        go_roundw
        case rel => exact ⟨k + 1, by go_num, by omega, by rw [List.take_succ_eq_append_getElem hlt, List.map_append]; exact hO3, hbb'.trans (HO2.out.below hg3 (Nat.le_refl _) hbb'.size)⟩
        case measure => simp [intOf]; omega
      · obtain rfl : k = l.length := by omega
        have g1 : decide ((l.length : Int) < (l.length : Int)) = false := decide_eq_false (by omega)
        rw [List.take_length] at hO
        obtain ⟨A2, c2, hv2, hs2⟩ := hO.sl
        rw [List.length_map] at hv2
        subst hv2
        have hT := (rtotal_c A2 c2 _ _ hs2 (by simp; omega) (fun a ha => by
          obtain ⟨x, hx, rfl⟩ := List.mem_map.1 ha
          exact Hr.out x hx))
        rw [List.length_map] at hT
        have hT := Lib.hid hT
        have HW := Lib.hid (show weighB l = (decide ((sumR (sumL (l.map Leg.sum))).2 = 0) && decide ((sumR (sumL (l.map Leg.sum))).1 = 0)) from rfl)
        generalize weighB l = F at *
        generalize sumR (sumL (l.map Leg.sum)) = r at *
        clear hs2 hO
        go_wp2_with fail
        refine hT.out.mono ?_
        rintro e w2 ⟨rfl, hF⟩
        have hb2 := below_on hb (Nat.le_refl _) hF
        clear hF hT hb
        by_cases h1 : r.2 = 0
        · have g2 : (r.2 != 0) = false := by rw [h1]; rfl
          have H1 := Lib.hid (decide_eq_true h1)
          clear h1
          by_cases h2 : r.1 = 0
          · have g3 : (r.1 != 0) = false := by rw [h2]; rfl
            have HR2 := Lib.hid (show R = firstE L l by rw [HR1.out, if_neg]; rw [HW.out, H1.out, decide_eq_true h2]; decide)
            clear h2 H1 HR1 HW
            go_wp2_with fail
            go_loopw [9] (fun i wr => ∃ k : Nat, i = i64 k ∧ k ≤ l.length ∧ firstE L l = firstE L (l.drop k) ∧ Below w.heap.size w wr) (fun i _ => l.length - (intOf i).toNat)
            case atStart => exact ⟨0, rfl, Nat.zero_le _, rfl, hb2⟩
            case round =>
              obtain ⟨k, rfl, hk, hfe, hb⟩ := hrel
              clear hb2
              by_cases hlt : k < l.length
              · have g1 : decide ((k : Int) < (l.length : Int)) = true := decide_eq_true (by omega)
                have g1' : decide (k < l.length) = true := decide_eq_true hlt
                have i0 : (0 : Int) ≤ (k : Int) := by omega
                have i1 : (k : Int) < (l.length : Int) := by omega
                obtain ⟨b, o, rfl, hbb, hsz, c0, c1⟩ := (Hs.out.later hb).leg hlt
                have hfe2 := hfe.trans (firstE_step hlt)
                obtain ⟨fr, hfr⟩ : ∃ fr, fr = firstE L (l.drop (k + 1)) := ⟨_, rfl⟩
                rw [← hfr] at hfe2
                have HFE := Lib.hid hfe2
                have Hfr := Lib.hid hfr
                clear hfr hfe2
                have HP := Lib.hid (show perrL L l[k] = if (getLR L l[k].acct).2 ≠ 0 then (getLR L l[k].acct).2 else if (sumR (0 - l[k].sum)).2 ≠ 0 ∨ (sumR ((getLR L l[k].acct).1.hav + l[k].sum)).2 ≠ 0 then 2 else if 0 < (sumR (0 - l[k].sum)).1 ∧ freeA (getLR L l[k].acct).1 (sumR (0 - l[k].sum)).1 = false then 9 else 0 from rfl)
                have hin := getLR_in HL.out l[k].acct
                have hrs := Hr.out l[k] (List.getElem_mem hlt)
                have HG := Lib.hid (rget_c T g L l[k].acct wr (H.out.later hb) hl)
                have HLs := Lib.hid fun W => rless_c 0 l[k].sum W R64_0 hrs
                have HAd := Lib.hid fun W => radd_c (getLR L l[k].acct).1.hav l[k].sum W hin.1.1 hrs
                have HFr := Lib.hid fun W => rfree_c (getLR L l[k].acct).1 (sumR (0 - l[k].sum)).1 W hin.1 hin.2 (sumR_R64 _)
                clear hfe hin hrs hsz
                generalize perrL L l[k] = pe at *
                generalize getLR L l[k].acct = gl at *
                generalize sumR (0 - l[k].sum) = p at *
                generalize sumR (gl.1.hav + l[k].sum) = q at *
                generalize freeA gl.1 p.1 = f at *
                obtain ⟨a, ge⟩ := gl
                dsimp only at *
                go_wp2_with fail
                refine HG.out.mono ?_
                rintro e w3 ⟨rfl, hF⟩
                have hb3 := hb.trans (hF.mono hb.size)
                have c1 := (hF.cell (p := ⟨b, o + k * 2 + 1, none⟩) (World.block_lt_of_cell? _ _ c1)).trans c1
                clear hF HG c0 hb hbb
                by_cases hg : ge = 0
                · have g4 : (ge != 0) = false := by rw [hg]; rfl
                  have HP1 := Lib.hid (show pe = _ by rw [HP.out, if_neg (by simpa using hg)])
                  have hba := (Below.refl w3.heap.size w3).alloc (Nat.le_refl _) (.cells #[.string a.name, i64 a.hav, i64 a.set_, i64 a.lim] 70)
                  have ht := heap_alloc_new w3 (.cells #[.string a.name, i64 a.hav, i64 a.set_, i64 a.lim] 70)
                  have c1 := (hba.cell (p := ⟨b, o + k * 2 + 1, none⟩) (World.block_lt_of_cell? _ _ c1)).trans c1
                  have hb4 := hb3.trans (hba.mono hb3.size)
                  clear HP hg hba hb3
                  go_wp2_with fail
                  generalize w3.alloc (.cells #[.string a.name, i64 a.hav, i64 a.set_, i64 a.lim] 70) = w4 at *
                  refine (HLs.out _).mono ?_
                  rintro e w5 ⟨rfl, hF⟩
                  have c1 := (hF.cell (p := ⟨b, o + k * 2 + 1, none⟩) (World.block_lt_of_cell? _ _ c1)).trans c1
                  have ht5 := (hF.block _ (Array.getElem?_eq_some_iff.1 ht).1).trans ht
                  have hb5 := hb4.trans (hF.mono hb4.size)
                  have k1 := cell_of_row _ w3.heap.size 1 _ _ (0, 0) ht5
                  simp only [List.getElem?_toArray, List.getElem?_cons_zero, List.getElem?_cons_succ] at k1
                  have hSS := Lib.hid (show ∀ V, Below w5.heap.size w5 V → (fun V : World => V.cell? ⟨w3.heap.size, 1, none⟩ = some (i64 a.hav) ∧ V.cell? ⟨b, o + k * 2 + 1, none⟩ = some (i64 l[k].sum)) V from fun V h => ⟨(h.cell (World.block_lt_of_cell? _ _ k1)).trans k1, (h.cell (World.block_lt_of_cell? _ _ c1)).trans c1⟩)
                  have hB0 := (Below.refl w5.heap.size w5).drew
                  clear hF ht hb4 HLs c1
                  go_wp2_with fail
                  refine wp_region_noPanic ?_
                  refine wp_region_held_drew (S := fun V => V.cell? ⟨w3.heap.size, 1, none⟩ = some (i64 a.hav) ∧ V.cell? ⟨b, o + k * 2 + 1, none⟩ = some (i64 l[k].sum)) (by kernel_rfl) (hSS.out _ hB0) (fun hH => ?_)
                  refine wpAnyH_take (i := 0) (v := ?v1) rfl (by kernel_rfl) (by kernel_rfl) (by kernel_rfl) (fun _ _ _ h => h) (Or.inl ⟨by kernel_rfl, ?hy1⟩) (by assumption) ?r1
                  case hy1 => (intro W hSW; obtain ⟨s0, s1⟩ := hSW; go_simp; try with_reducible rfl)
                  simp only [Act.put, List.getElem_toArray, List.getElem_cons_zero, List.setIfInBounds_toArray, List.set_cons_zero, List.set_cons_succ]
                  refine wpAnyH_take (i := 1) (v := ?v2) rfl (by kernel_rfl) (by kernel_rfl) (by kernel_rfl) (fun _ _ _ h => h) (Or.inl ⟨by kernel_rfl, ?hy2⟩) (by assumption) ?r2
                  case hy2 => (intro W hSW; obtain ⟨s0, s1⟩ := hSW; go_simp; try with_reducible rfl)
                  simp only [Act.put, List.getElem_toArray, List.getElem_cons_zero, List.getElem_cons_succ, List.setIfInBounds_toArray, List.set_cons_zero, List.set_cons_succ]
                  refine wpAnyH_take (i := 2) (v := ?v3) rfl (by kernel_rfl) (by kernel_rfl) (by kernel_rfl) (fun _ _ _ h => h) (Or.inl ⟨by kernel_rfl, ?hy3⟩) (by assumption) ?r3
                  case hy3 => (intro W hSW; obtain ⟨s0, s1⟩ := hSW; go_simp; try with_reducible rfl)
                  simp only [Act.put, List.getElem_toArray, List.getElem_cons_zero, List.getElem_cons_succ, List.setIfInBounds_toArray, List.set_cons_zero, List.set_cons_succ]
                  refine wpAnyH_take (i := 3) (v := ?v4) rfl (by kernel_rfl) (by kernel_rfl) (by kernel_rfl) (fun _ _ _ h => h) (Or.inl ⟨by kernel_rfl, ?hy4⟩) (by assumption) ?r4
                  case hy4 => (intro W hSW; obtain ⟨s0, s1⟩ := hSW; go_simp; try with_reducible rfl)
                  simp only [Act.put, List.getElem_toArray, List.getElem_cons_zero, List.getElem_cons_succ, List.setIfInBounds_toArray, List.set_cons_zero, List.set_cons_succ]
                  refine wpAnyH_take (i := 4) (v := ?v5) rfl (by kernel_rfl) (by kernel_rfl) (by kernel_rfl) (fun _ _ _ h => h) (Or.inl ⟨by kernel_rfl, ?hy5⟩) (by assumption) ?r5
                  case hy5 => (intro W hSW; obtain ⟨s0, s1⟩ := hSW; go_simp; try with_reducible rfl)
                  simp only [Act.put, List.getElem_toArray, List.getElem_cons_zero, List.getElem_cons_succ, List.setIfInBounds_toArray, List.set_cons_zero, List.set_cons_succ]
                  refine wpAnyH_take (i := 5) (v := ?v6) rfl (by kernel_rfl) (by kernel_rfl) (by kernel_rfl) (fun _ _ _ h => h) (Or.inl ⟨by kernel_rfl, ?hy6⟩) (by assumption) ?r6
                  case hy6 => (intro W hSW; obtain ⟨s0, s1⟩ := hSW; go_simp; try with_reducible rfl)
                  simp only [Act.put, List.getElem_toArray, List.getElem_cons_zero, List.getElem_cons_succ, List.setIfInBounds_toArray, List.set_cons_zero, List.set_cons_succ]
                  refine wpAnyH_take (i := 6) (v := ?v7) rfl (by kernel_rfl) (by kernel_rfl) (by kernel_rfl) (fun _ _ _ h => h) (Or.inl ⟨by kernel_rfl, ?hy7⟩) (by assumption) ?r7
                  case hy7 => (intro W hSW; obtain ⟨s0, s1⟩ := hSW; go_simp; try with_reducible rfl)
                  simp only [Act.put, List.getElem_toArray, List.getElem_cons_zero, List.getElem_cons_succ, List.setIfInBounds_toArray, List.set_cons_zero, List.set_cons_succ]
                  refine wpAnyH_ready (rs := [7]) (by kernel_rfl) (by simp) ?_
                  refine AllReadyH.cons rfl (fun K hK => ?_) AllReadyH.nil
                  go_simp
                  with_reducible refine (HAd.out _).mono ?_
                  rintro e w6 ⟨rfl, hF⟩
                  have hB := below_on hB0 (Nat.le_refl _) hF
                  refine hK.out _ _ (hSS.out _ hB) (fun hH2 => ?_)
                  clear hF
                  clear hK K
                  try simp only [Act.put, List.getElem_toArray, List.getElem_cons_zero, List.getElem_cons_succ, List.setIfInBounds_toArray, List.set_cons_zero, List.set_cons_succ]
                  refine wpAnyH_take (i := 8) (v := ?v9) rfl (by kernel_rfl) (by kernel_rfl) (by kernel_rfl) (fun _ _ _ h => h) (Or.inl ⟨by kernel_rfl, ?hy9⟩) (by assumption) ?r9
                  case hy9 => (intro W hSW; obtain ⟨s0, s1⟩ := hSW; go_simp; try with_reducible rfl)
                  simp only [Act.put, List.getElem_toArray, List.getElem_cons_zero, List.getElem_cons_succ, List.setIfInBounds_toArray, List.set_cons_zero, List.set_cons_succ]
                  refine wpAnyH_take (i := 9) (v := ?v10) rfl (by kernel_rfl) (by kernel_rfl) (by kernel_rfl) (fun _ _ _ h => h) (Or.inl ⟨by kernel_rfl, ?hy10⟩) (by assumption) ?r10
                  case hy10 => (intro W hSW; obtain ⟨s0, s1⟩ := hSW; go_simp; try with_reducible rfl)
                  simp only [Act.put, List.getElem_toArray, List.getElem_cons_zero, List.getElem_cons_succ, List.setIfInBounds_toArray, List.set_cons_zero, List.set_cons_succ]
                  refine wpAnyH_take (i := 10) (v := ?v11) rfl (by kernel_rfl) (by kernel_rfl) (by kernel_rfl) (fun _ _ _ h => h) (Or.inl ⟨by kernel_rfl, ?hy11⟩) (by assumption) ?r11
                  case hy11 => (intro W hSW; obtain ⟨s0, s1⟩ := hSW; go_simp; try with_reducible rfl)
                  simp only [Act.put, List.getElem_toArray, List.getElem_cons_zero, List.getElem_cons_succ, List.setIfInBounds_toArray, List.set_cons_zero, List.set_cons_succ]
                  refine wpAnyH_take (i := 11) (v := ?v12) rfl (by kernel_rfl) (by kernel_rfl) (by kernel_rfl) (fun _ _ _ h => h) (Or.inl ⟨by kernel_rfl, ?hy12⟩) (by assumption) ?r12
                  case hy12 => (intro W hSW; obtain ⟨s0, s1⟩ := hSW; go_simp; try with_reducible rfl)
                  simp only [Act.put, List.getElem_toArray, List.getElem_cons_zero, List.getElem_cons_succ, List.setIfInBounds_toArray, List.set_cons_zero, List.set_cons_succ]
                  refine wpAnyH_take (i := 12) (v := ?v13) rfl (by kernel_rfl) (by kernel_rfl) (by kernel_rfl) (fun _ _ _ h => h) (Or.inl ⟨by kernel_rfl, ?hy13⟩) (by assumption) ?r13
                  case hy13 => (intro W hSW; obtain ⟨s0, s1⟩ := hSW; go_simp; try with_reducible rfl)
                  simp only [Act.put, List.getElem_toArray, List.getElem_cons_zero, List.getElem_cons_succ, List.setIfInBounds_toArray, List.set_cons_zero, List.set_cons_succ]
                  refine wpAnyH_done (by kernel_rfl) ?_ _
                  refine NoPanic.normal ?_
                  have ht6 := (hB.block _ (Array.getElem?_eq_some_iff.1 ht5).1).trans ht5
                  have hb6 := hb5.trans (hB.mono hb5.size)
                  have m0 := cell_of_row _ w3.heap.size 0 _ _ (0, 0) ht6
                  have m1 := cell_of_row _ w3.heap.size 1 _ _ (0, 0) ht6
                  have m2 := cell_of_row _ w3.heap.size 2 _ _ (0, 0) ht6
                  have m3 := cell_of_row _ w3.heap.size 3 _ _ (0, 0) ht6
                  simp only [List.getElem?_toArray, List.getElem?_cons_zero, List.getElem?_cons_succ] at m0 m1 m2 m3
                  clear hB hb5 ht5 ht6 k1 hSS HAd hB0
                  by_cases hp : p.2 = 0
                  · have g5 : (p.2 != 0) = false := by rw [hp]; rfl
                    by_cases hq : q.2 = 0
                    · have g6 : (q.2 != 0) = false := by rw [hq]; rfl
                      have HP2 := Lib.hid (show pe = _ by rw [HP1.out, if_neg (by rw [hp, hq]; simp)])
                      clear HP1 hp hq
                      by_cases h0 : 0 < p.1
                      · have g7 : decide (0 < p.1) = true := decide_eq_true h0
                        have HX := Lib.hid h0
                        clear h0
                        go_wp2_with fail
                        refine (HFr.out _).mono ?_
                        rintro e w7 ⟨rfl, hF⟩
                        have hb7 := hb6.trans (hF.mono hb6.size)
                        clear hF HFr m0 m1 m2 m3 hb6
                        cases f with
                        | false =>
                          have HRR := Lib.hid (show R = 9 by have e : pe = 9 := HP2.out.trans (if_pos ⟨HX.out, rfl⟩); rw [HR2.out, HFE.out, e]; rfl)
                          clear HP2 HFE HR2
                          go_wp2
                          go_ret
                          exact ⟨by rw [HRR.out]; rfl, hb7⟩
                        | true =>
                          have HRR := Lib.hid (show firstE L l = fr by have e : pe = 0 := HP2.out.trans (if_neg fun h => absurd h.2 (by decide)); rw [HFE.out, e]; rfl)
                          clear HP2 HFE
                          go_wp2
                          go_roundw
                          case rel => exact ⟨k + 1, by go_num, by omega, by rw [HRR.out]; exact Hfr.out, hb7⟩
                          case measure => simp [intOf]; omega
                      · have g7 : decide (0 < p.1) = false := decide_eq_false h0
                        have HRR := Lib.hid (show firstE L l = fr by have e : pe = 0 := HP2.out.trans (if_neg fun h => h0 h.1); rw [HFE.out, e]; rfl)
                        clear HP2 HFE h0 HFr
                        go_wp2
                        go_roundw
                        case rel => exact ⟨k + 1, by go_num, by omega, by rw [HRR.out]; exact Hfr.out, hb6⟩
                        case measure => simp [intOf]; omega
                    · have g6 : (q.2 != 0) = true := by simpa using hq
                      have HRR := Lib.hid (show R = 2 by have e : pe = 2 := HP1.out.trans (if_pos (.inr hq)); rw [HR2.out, HFE.out, e]; rfl)
                      clear HP1 HFE HR2 hp hq HFr
                      go_wp2
                      go_ret
                      exact ⟨by rw [HRR.out]; rfl, hb6⟩
                  · have g5 : (p.2 != 0) = true := by simpa using hp
                    have HRR := Lib.hid (show R = 2 by have e : pe = 2 := HP1.out.trans (if_pos (.inl hp)); rw [HR2.out, HFE.out, e]; rfl)
                    clear HP1 HFE HR2 hp HFr
                    go_wp2
                    go_ret
                    exact ⟨by rw [HRR.out]; rfl, hb6⟩
                · have g4 : (ge != 0) = true := by simpa using hg
                  have HRR := Lib.hid (show R = ge by have e : pe = ge := HP.out.trans (if_pos hg); rw [HR2.out, HFE.out, e, if_pos hg])
                  clear HP HFE HR2 hg HLs HAd HFr
                  go_wp2
                  go_ret
                  exact ⟨by rw [HRR.out]; rfl, hb3.alloc hb3.size _⟩
              · obtain rfl : k = l.length := by omega
                have g1 : decide ((l.length : Int) < (l.length : Int)) = false := decide_eq_false (by omega)
                have HRR := Lib.hid (show R = 0 by rw [HR2.out, hfe, List.drop_length]; rfl)
                clear hfe HR2
                go_wp2
                go_ret
                exact ⟨by rw [HRR.out]; rfl, hb⟩
          · have g3 : (r.1 != 0) = true := by simpa using h2
            have HR2 := Lib.hid (show R = 8 by rw [HR1.out, if_pos]; rw [HW.out, H1.out, decide_eq_false h2]; rfl)
            clear h2 H1 HR1 HW
            go_wp2
            go_ret
            exact ⟨by rw [HR2.out]; rfl, hb2⟩
        · have g2 : (r.2 != 0) = true := by simpa using h1
          have HR2 := Lib.hid (show R = 8 by rw [HR1.out, if_pos]; rw [HW.out, decide_eq_false h1]; rfl)
          clear h1 HR1 HW
          go_wp2
          go_ret
          exact ⟨by rw [HR2.out]; rfl, hb2⟩
theorem rc_row {W : World} {T : Nat → Prop} {g gb base cap n : Nat} {L : List Ac} (hn : n = L.length) (hO : Own W base 70 (.slice (some ⟨gb, 0, none⟩) n cap) L) (hg : W.heap[g]? = some (.cells #[.slice (some ⟨gb, 0, none⟩) n cap] 49 (0, 0))) (hT : ∀ k, base ≤ k → T k) (hok : ∀ x ∈ L, x.name.size ≤ maxLen) : RcIs W T g L := by
  subst hn
  obtain ⟨A, c, hv, hs, hf⟩ := hO.slT hT hok
  injection hv with e1 e2 e3
  subst e1 e3
  exact ⟨_, _, hg, hs, hf⟩
theorem allL_of_check {L : List Ac} {l : List Leg} (h : checkL L l = 0) : makeL L l = allL L l ∧ (allL L l).1 = 0 := by
  constructor
  · unfold makeL
    rw [if_neg (fun e => e h)]
  · unfold checkL at h
    split at h
    · cases h
    · split at h
      · cases h
      · exact h
set_option maxRecDepth 100000 in
set_option maxHeartbeats 8000000 in
theorem rmake_c (T : Nat → Prop) (g : Nat) (L : List Ac) (A : Option Addr) (c : Nat) (l : List Leg) (w : World) (h : RcIs w T g L) (hl : L.length ≤ 65536) (hL : OkA L) (hS : SrtL ltA L) (hs : SlS w (fun k => k < w.heap.size ∧ k ≠ g) A c l) (hn : l.length ≤ 65536) (hr : ∀ x ∈ l, R64 x.sum) (hTn : ∀ k, w.heap.size ≤ k → T k) (hTg : ¬ T g) :
    Calls Tryz.prog 77 #[.pointer (some ⟨g, 0, none⟩), .slice A l.length c] w fun e w' => e = .returned (i64 (makeL L l).1) ∧ RcIs w' T g (makeL L l).2 ∧ w.grownBy w' (some g) := by
  have HC := Lib.hid (rcheck_c T g L A c l w h hl hL (hs.mono fun _ h => h.1) hn hr)
  obtain ⟨R, hR⟩ : ∃ R, makeL L l = R := ⟨_, rfl⟩
  rw [hR]
  have HR := Lib.hid hR.symm
  have H := Lib.hid h
  have Hs := Lib.hid hs
  have HL := Lib.hid hL
  have HS := Lib.hid hS
  have HTn := Lib.hid hTn
  have HTg := Lib.hid hTg
  have hlg := h.lt
  have hlc : l.length ≤ c := hs.1
  have Hch := Lib.hid (@allL_of_check L l)
  have hne := Lib.hid (show checkL L l ≠ 0 → makeL L l = (checkL L l, L) from fun e => by unfold makeL; rw [if_pos e])
  clear hR h hs hL hr hS hTn hTg
  obtain ⟨q, hq⟩ : ∃ q, checkL L l = q := ⟨_, rfl⟩
  rw [hq] at HC Hch hne
  clear hq
  go_enter Tryz.func77, Tryz.ntmps77
  go_wp2_with fail
  refine HC.out.mono ?_
  rintro e w1 ⟨rfl, hb1⟩
  clear HC
  by_cases hq0 : q = 0
  · obtain ⟨h1, h2⟩ := Hch.out hq0
    have HR1 := Lib.hid (show R = allL L l from HR.out.trans h1)
    have H0 := Lib.hid h2
    subst hq0
    clear HR h1 h2 Hch hne
    go_wp2_with fail
    go_loopw [6] (fun i wr => ∃ (k : Nat) (Lk : List Ac), i = i64 k ∧ k ≤ l.length ∧ RcIs wr T g Lk ∧ OkA Lk ∧ SrtL ltA Lk ∧ Lk.length = L.length ∧ allL L l = allL Lk (l.drop k) ∧ w.grownBy wr (some g)) (fun i _ => l.length - (intOf i).toNat)
    case atStart => exact ⟨0, L, rfl, Nat.zero_le _, H.out.later hb1, HL.out, HS.out, rfl, rfl, grown_of_below hb1 _⟩
    case round =>
      obtain ⟨k, Lk, rfl, hk, hrc, hok, hso, hln, hal, hG⟩ := hrel
      clear hb1
      by_cases hlt : k < l.length
      · have g1 : decide ((k : Int) < (l.length : Int)) = true := decide_eq_true (by omega)
        have g1' : decide (k < l.length) = true := decide_eq_true hlt
        have i0 : (0 : Int) ≤ (k : Int) := by omega
        have i1 : (k : Int) < (l.length : Int) := by omega
        have hsr := Hs.out.keep (fun p hp => World.cell?_of_block (hG.block _ hp.1 (fun e => hp.2 (by injection e)))) (fun k hk => (show k < wr.heap.size from Nat.lt_of_lt_of_le hk.1 hG.size))
        obtain ⟨b, o, rfl, hbb, _, c0, c1⟩ := hsr.leg hlt
        have hbg : b ≠ g := (Hs.out.leg hlt).elim fun b' h => h.elim fun o' h => by
          obtain ⟨e, h2, _⟩ := h
          injection e with e
          injection e with e _
          rw [e]
          exact h2.2
        have hst := allL_step (L := Lk) hlt
        rw [← hal] at hst
        have hp0 : (postL Lk l[k]).1 = 0 := by
          apply Classical.byContradiction
          intro hne
          rw [if_pos hne] at hst
          exact hne (by rw [← hst]; exact H0.out)
        rw [if_neg (fun e => e hp0)] at hst
        have hokn := postL_ok hok l[k]
        have hson := turnP_srt hso l[k]
        obtain ⟨n, hn1, hn2, hn3, hn4⟩ := postL_zero hso hp0
        rw [hn3] at hst hokn hson
        obtain ⟨hv, hhv⟩ : ∃ v, Lk[n].hav = v := ⟨_, rfl⟩
        obtain ⟨sm, hsm⟩ : ∃ v, l[k].sum = v := ⟨_, rfl⟩
        rw [hhv, hsm] at hst hokn hson hn4
        rw [hsm] at c1
        have Hhv := Lib.hid hhv
        clear hhv hsm
        have hw : IntKind.i64.wrap (hv + sm) = hv + sm := by rw [IntKind.wrap_i64]; unfold R64 at hn4; omega
        have hw2 : wrap64 (hv + sm) = hv + sm := by rw [← IntWalk.i64_left]; exact hw
        have Hst := Lib.hid hst
        have Hokn := Lib.hid hokn
        have Hson := Lib.hid hson
        have Hln := Lib.hid hln
        have Hlk := Lib.hid (show Lk.length ≤ 65536 by omega)
        have HG := Lib.hid hG
        have hsz := Lib.hid hG.size
        have Hn1 := Lib.hid hn1
        have j0 : (0 : Int) ≤ (n : Int) := by omega
        have j1 : (n : Int) < (Lk.length : Int) := by omega
        clear hst hokn hson hp0 hal hn3 hn4 hsr hok hso hln
        have hlgr := hrc.lt
        obtain ⟨A2, c2, hgc, hsl2, hf2⟩ := hrc
        have d0 := cell_of_row _ g 0 _ _ (0, 0) hgc
        simp only [List.getElem?_toArray, List.getElem?_cons_zero] at d0
        have hokk := Lib.hid (fun y hy => hsl2.2.2.2 y hy)
        have hsl := Lib.hid (show SlS wr (Oth wr (.slice none 0 0)) A2 c2 Lk from hsl2.keep (fun p hp => rfl) (fun b hb => ⟨hb.1, by simp [Value.ownBlock]⟩))
        have Hgc := Lib.hid hgc
        have hfz := frozen_of_row _ g 0 _ _ hgc
        clear hsl2 hf2 hgc
        go_wp2_with (at_builtin; refine wpList_append_slice rfl (some 25) (.const (.slice none 0 0)) (.tmp 24) 46 rfl rfl (.agg #[.string ByteArray.empty, i64 0, i64 0, i64 0]) 40 Tryz.underlying46 acInfo rfl (by decide) (by decide) rfl (Own.nil_ _ _ 70) A2 Lk.length c2 Lk rfl rfl hsl.out (by have := Hlk.out; simp <;> omega) (Nat.le_refl _) ?_; intro v2 w2 hO2 hg2 hat2; rw [List.nil_append] at hO2; have hF2 := (Own.nil_ (α := Ac) _ _ 70).below hg2 (Nat.le_refl _) (Nat.le_refl _); obtain ⟨gb, cap, cur, hv2, hgb, hrow, hcap, -, hcs, -⟩ := hO2.form (by have := Hn1.out; omega); subst hv2; have hO3 := Lib.hid hO2; have hcg2 := Lib.hid ((hF2.block g hlgr).trans Hgc.out); have hfz2 := frozen_of_row _ g 0 _ _ hcg2.out; have d02 := (hF2.cell (p := ⟨g, 0, none⟩) hlgr).trans d0; have hHB2 := Lib.hid hF2; have c0 := (hF2.cell (p := ⟨b, o + k * 2, none⟩) hbb).trans c0; have c1 := (hF2.cell (p := ⟨b, o + k * 2 + 1, none⟩) hbb).trans c1; have hne : gb ≠ g := (by omega); have Hgb := Lib.hid hgb; clear hO2 hg2 hat2 hF2 hrow hcs hcap d0 hfz)
        have hgr3 := grown_setCell (World.grownBy.refl w2 (some g)) (p := ⟨g, 0, none⟩) (.inl rfl) (.slice (some ⟨gb, 0, none⟩) Lk.length cap)
        have hg3 := heap_setCell_same w2 g 0 _ _ (.slice (some ⟨gb, 0, none⟩) Lk.length cap) hcg2.out
        have hO4 := hO3.out.grown hgr3 (.inr (fun e => hne (by injection e))) (fun x hx => hokk.out x hx)
        have c0 := (World.cell?_of_block (a := ⟨b, o + k * 2, none⟩) (hgr3.block _ (World.block_lt_of_cell? _ _ c0) (fun e => hbg (by injection e)))).trans c0
        have c1 := (World.cell?_of_block (a := ⟨b, o + k * 2 + 1, none⟩) (hgr3.block _ (World.block_lt_of_cell? _ _ c1) (fun e => hbg (by injection e)))).trans c1
        have hG3 := Lib.hid (grown_setCell (grown_of_below hHB2.out (some g)) (p := ⟨g, 0, none⟩) (.inl rfl) (.slice (some ⟨gb, 0, none⟩) Lk.length cap))
        generalize w2.setCell ⟨g, 0, none⟩ (.slice (some ⟨gb, 0, none⟩) Lk.length cap) = w3 at *
        have hg3 : w3.heap[g]? = some (.cells #[.slice (some ⟨gb, 0, none⟩) Lk.length cap] 49 (0, 0)) := hg3
        clear hgr3 hO3 hcg2 hHB2 hfz2 d02
        have HTb := Lib.hid (show ∀ k, wr.heap.size ≤ k → T k from fun k hk => HTn.out k (Nat.le_trans hsz.out hk))
        have hrc3 := rc_row rfl hO4 hg3 HTb.out (fun x hx => hokk.out x hx)
        have HAt := Lib.hid (rat_c T g Lk l[k].acct w3.drew (hrc3.later (Below.refl _ _).drew) Hlk.out)
        rw [hn2] at HAt
        have d0 := cell_of_row _ g 0 _ _ (0, 0) hg3
        simp only [List.getElem?_toArray, List.getElem?_cons_zero] at d0
        have hat : w3.cell? ⟨gb, n * 4 + 1, none⟩ = some (i64 hv) := by rw [← Hhv.out]; exact hO4.at_ Hn1.out 1 _ rfl
        have hfr := hO4.free (n * 4 + 1)
        have HO4 := Lib.hid hO4
        have Hg3 := Lib.hid hg3
        have hnc : n < cap := by have := hO4.cells; obtain ⟨_, _, _, _, h4, _⟩ := this; have := Hn1.out; omega
        clear hO4 hg3 hrc3 hn2
        go_wp2_with fail
        refine wp_region_noPanic ?_
        refine wp_region_l 22 (fun V => V.cell? ⟨g, 0, none⟩ = some (.slice (some ⟨gb, 0, none⟩) Lk.length cap) ∧ V.cell? ⟨gb, n * 4 + 1, none⟩ = some (i64 hv) ∧ V.cell? ⟨b, o + k * 2, none⟩ = some (.string l[k].acct) ∧ V.cell? ⟨b, o + k * 2 + 1, none⟩ = some (i64 sm)) (by kernel_rfl) (⟨d0, hat, c0, c1⟩) (fun hH => ?_)
        refine wpAnyL_take (i := 0) (v := ?v5001) rfl (by kernel_rfl) (by kernel_rfl) (by kernel_rfl) (by kernel_rfl) (fun _ _ _ h => h) (Or.inl ⟨by kernel_rfl, ?hy5001⟩) (by assumption) ?r5001
        case hy5001 => (intro W hSW; obtain ⟨s0, s1, s2, s3⟩ := hSW; go_simp; try with_reducible rfl)
        try simp only [Act.put, List.getElem_toArray, List.getElem_cons_zero, List.setIfInBounds_toArray, List.set_cons_zero, List.set_cons_succ]
        refine wpAnyL_take (i := 1) (v := ?v5002) rfl (by kernel_rfl) (by kernel_rfl) (by kernel_rfl) (by kernel_rfl) (fun _ _ _ h => h) (Or.inl ⟨by kernel_rfl, ?hy5002⟩) (by assumption) ?r5002
        case hy5002 => (intro W hSW; obtain ⟨s0, s1, s2, s3⟩ := hSW; go_simp; try with_reducible rfl)
        try simp only [Act.put, List.getElem_toArray, List.getElem_cons_zero, List.getElem_cons_succ, List.setIfInBounds_toArray, List.set_cons_zero, List.set_cons_succ]
        refine wpAnyL_take (i := 2) (v := ?v5003) rfl (by kernel_rfl) (by kernel_rfl) (by kernel_rfl) (by kernel_rfl) (fun _ _ _ h => h) (Or.inl ⟨by kernel_rfl, ?hy5003⟩) (by assumption) ?r5003
        case hy5003 => (intro W hSW; obtain ⟨s0, s1, s2, s3⟩ := hSW; go_simp; try with_reducible rfl)
        try simp only [Act.put, List.getElem_toArray, List.getElem_cons_zero, List.getElem_cons_succ, List.setIfInBounds_toArray, List.set_cons_zero, List.set_cons_succ]
        refine wpAnyL_take (i := 3) (v := ?v5004) rfl (by kernel_rfl) (by kernel_rfl) (by kernel_rfl) (by kernel_rfl) (fun _ _ _ h => h) (Or.inl ⟨by kernel_rfl, ?hy5004⟩) (by assumption) ?r5004
        case hy5004 => (intro W hSW; obtain ⟨s0, s1, s2, s3⟩ := hSW; go_simp; try with_reducible rfl)
        try simp only [Act.put, List.getElem_toArray, List.getElem_cons_zero, List.getElem_cons_succ, List.setIfInBounds_toArray, List.set_cons_zero, List.set_cons_succ]
        refine wpAnyL_take (i := 4) (v := ?v5005) rfl (by kernel_rfl) (by kernel_rfl) (by kernel_rfl) (by kernel_rfl) (fun _ _ _ h => h) (Or.inl ⟨by kernel_rfl, ?hy5005⟩) (by assumption) ?r5005
        case hy5005 => (intro W hSW; obtain ⟨s0, s1, s2, s3⟩ := hSW; go_simp; try with_reducible rfl)
        try simp only [Act.put, List.getElem_toArray, List.getElem_cons_zero, List.getElem_cons_succ, List.setIfInBounds_toArray, List.set_cons_zero, List.set_cons_succ]
        refine wpAnyL_take (i := 5) (v := ?v5006) rfl (by kernel_rfl) (by kernel_rfl) (by kernel_rfl) (by kernel_rfl) (fun _ _ _ h => h) (Or.inl ⟨by kernel_rfl, ?hy5006⟩) (by assumption) ?r5006
        case hy5006 => (intro W hSW; obtain ⟨s0, s1, s2, s3⟩ := hSW; go_simp; try with_reducible rfl)
        try simp only [Act.put, List.getElem_toArray, List.getElem_cons_zero, List.getElem_cons_succ, List.setIfInBounds_toArray, List.set_cons_zero, List.set_cons_succ]
        refine wpAnyL_take (i := 6) (v := ?v5007) rfl (by kernel_rfl) (by kernel_rfl) (by kernel_rfl) (by kernel_rfl) (fun _ _ _ h => h) (Or.inl ⟨by kernel_rfl, ?hy5007⟩) (by assumption) ?r5007
        case hy5007 => (intro W hSW; obtain ⟨s0, s1, s2, s3⟩ := hSW; go_simp; try with_reducible rfl)
        try simp only [Act.put, List.getElem_toArray, List.getElem_cons_zero, List.getElem_cons_succ, List.setIfInBounds_toArray, List.set_cons_zero, List.set_cons_succ]
        refine wpAnyL_take (i := 7) (v := ?v5008) rfl (by kernel_rfl) (by kernel_rfl) (by kernel_rfl) (by kernel_rfl) (fun _ _ _ h => h) (Or.inl ⟨by kernel_rfl, ?hy5008⟩) (by assumption) ?r5008
        case hy5008 => (intro W hSW; obtain ⟨s0, s1, s2, s3⟩ := hSW; go_simp; try with_reducible rfl)
        try simp only [Act.put, List.getElem_toArray, List.getElem_cons_zero, List.getElem_cons_succ, List.setIfInBounds_toArray, List.set_cons_zero, List.set_cons_succ]
        refine wpAnyL_take (i := 8) (v := ?v5009) rfl (by kernel_rfl) (by kernel_rfl) (by kernel_rfl) (by kernel_rfl) (fun _ _ _ h => h) (Or.inl ⟨by kernel_rfl, ?hy5009⟩) (by assumption) ?r5009
        case hy5009 => (intro W hSW; obtain ⟨s0, s1, s2, s3⟩ := hSW; go_simp; try with_reducible rfl)
        try simp only [Act.put, List.getElem_toArray, List.getElem_cons_zero, List.getElem_cons_succ, List.setIfInBounds_toArray, List.set_cons_zero, List.set_cons_succ]
        refine wpAnyL_take (i := 9) (v := ?v5010) rfl (by kernel_rfl) (by kernel_rfl) (by kernel_rfl) (by kernel_rfl) (fun _ _ _ h => h) (Or.inl ⟨by kernel_rfl, ?hy5010⟩) (by assumption) ?r5010
        case hy5010 => (intro W hSW; obtain ⟨s0, s1, s2, s3⟩ := hSW; go_simp; try with_reducible rfl)
        try simp only [Act.put, List.getElem_toArray, List.getElem_cons_zero, List.getElem_cons_succ, List.setIfInBounds_toArray, List.set_cons_zero, List.set_cons_succ]
        refine wpAnyL_take (i := 14) (v := ?v5011) rfl (by kernel_rfl) (by kernel_rfl) (by kernel_rfl) (by kernel_rfl) (fun _ _ _ h => h) (Or.inl ⟨by kernel_rfl, ?hy5011⟩) (by assumption) ?r5011
        case hy5011 => (intro W hSW; obtain ⟨s0, s1, s2, s3⟩ := hSW; go_simp; try with_reducible rfl)
        try simp only [Act.put, List.getElem_toArray, List.getElem_cons_zero, List.getElem_cons_succ, List.setIfInBounds_toArray, List.set_cons_zero, List.set_cons_succ]
        refine wpAnyL_take (i := 15) (v := ?v5012) rfl (by kernel_rfl) (by kernel_rfl) (by kernel_rfl) (by kernel_rfl) (fun _ _ _ h => h) (Or.inl ⟨by kernel_rfl, ?hy5012⟩) (by assumption) ?r5012
        case hy5012 => (intro W hSW; obtain ⟨s0, s1, s2, s3⟩ := hSW; go_simp; try with_reducible rfl)
        try simp only [Act.put, List.getElem_toArray, List.getElem_cons_zero, List.getElem_cons_succ, List.setIfInBounds_toArray, List.set_cons_zero, List.set_cons_succ]
        refine wpAnyL_take (i := 16) (v := ?v5013) rfl (by kernel_rfl) (by kernel_rfl) (by kernel_rfl) (by kernel_rfl) (fun _ _ _ h => h) (Or.inl ⟨by kernel_rfl, ?hy5013⟩) (by assumption) ?r5013
        case hy5013 => (intro W hSW; obtain ⟨s0, s1, s2, s3⟩ := hSW; go_simp; try with_reducible rfl)
        try simp only [Act.put, List.getElem_toArray, List.getElem_cons_zero, List.getElem_cons_succ, List.setIfInBounds_toArray, List.set_cons_zero, List.set_cons_succ]
        refine wpAnyL_take (i := 17) (v := ?v5014) rfl (by kernel_rfl) (by kernel_rfl) (by kernel_rfl) (by kernel_rfl) (fun _ _ _ h => h) (Or.inl ⟨by kernel_rfl, ?hy5014⟩) (by assumption) ?r5014
        case hy5014 => (intro W hSW; obtain ⟨s0, s1, s2, s3⟩ := hSW; go_simp; try with_reducible rfl)
        try simp only [Act.put, List.getElem_toArray, List.getElem_cons_zero, List.getElem_cons_succ, List.setIfInBounds_toArray, List.set_cons_zero, List.set_cons_succ]
        refine wpAnyL_take (i := 18) (v := ?v5015) rfl (by kernel_rfl) (by kernel_rfl) (by kernel_rfl) (by kernel_rfl) (fun _ _ _ h => h) (Or.inl ⟨by kernel_rfl, ?hy5015⟩) (by assumption) ?r5015
        case hy5015 => (intro W hSW; obtain ⟨s0, s1, s2, s3⟩ := hSW; go_simp; try with_reducible rfl)
        try simp only [Act.put, List.getElem_toArray, List.getElem_cons_zero, List.getElem_cons_succ, List.setIfInBounds_toArray, List.set_cons_zero, List.set_cons_succ]
        refine wpAnyL_one (i := 10) (by kernel_rfl) rfl (by decide) (fun K hK => ?_)
        go_simp
        with_reducible refine HAt.out.mono ?_
        rintro e w6 ⟨rfl, rfl⟩
        refine hK.out _ _ (hH) (fun hH => ?_)
        clear hK K
        try simp only [Act.put, List.getElem_toArray, List.getElem_cons_zero, List.getElem_cons_succ, List.setIfInBounds_toArray, List.set_cons_zero, List.set_cons_succ]
        refine wpAnyL_take (i := 11) (v := ?v5016) rfl (by kernel_rfl) (by kernel_rfl) (by kernel_rfl) (by kernel_rfl) (fun _ _ _ h => h) (Or.inl ⟨by kernel_rfl, ?hy5016⟩) (by assumption) ?r5016
        case hy5016 => (intro W hSW; obtain ⟨s0, s1, s2, s3⟩ := hSW; go_simp; try with_reducible rfl)
        try simp only [Act.put, List.getElem_toArray, List.getElem_cons_zero, List.getElem_cons_succ, List.setIfInBounds_toArray, List.set_cons_zero, List.set_cons_succ]
        refine wpAnyL_take (i := 12) (v := ?v5017) rfl (by kernel_rfl) (by kernel_rfl) (by kernel_rfl) (by kernel_rfl) (fun _ _ _ h => h) (Or.inl ⟨by kernel_rfl, ?hy5017⟩) (by assumption) ?r5017
        case hy5017 => (intro W hSW; obtain ⟨s0, s1, s2, s3⟩ := hSW; go_simp; try with_reducible rfl)
        try simp only [Act.put, List.getElem_toArray, List.getElem_cons_zero, List.getElem_cons_succ, List.setIfInBounds_toArray, List.set_cons_zero, List.set_cons_succ]
        refine wpAnyL_take (i := 13) (v := ?v5018) rfl (by kernel_rfl) (by kernel_rfl) (by kernel_rfl) (by kernel_rfl) (fun _ _ _ h => h) (Or.inl ⟨by kernel_rfl, ?hy5018⟩) (by assumption) ?r5018
        case hy5018 => (intro W hSW; obtain ⟨s0, s1, s2, s3⟩ := hSW; go_simp; try with_reducible rfl)
        try simp only [Act.put, List.getElem_toArray, List.getElem_cons_zero, List.getElem_cons_succ, List.setIfInBounds_toArray, List.set_cons_zero, List.set_cons_succ]
        refine wpAnyL_take (i := 19) (v := ?v5019) rfl (by kernel_rfl) (by kernel_rfl) (by kernel_rfl) (by kernel_rfl) (fun _ _ _ h => h) (Or.inl ⟨by kernel_rfl, ?hy5019⟩) (by assumption) ?r5019
        case hy5019 => (intro W hSW; obtain ⟨s0, s1, s2, s3⟩ := hSW; go_simp; try with_reducible rfl)
        try simp only [Act.put, List.getElem_toArray, List.getElem_cons_zero, List.getElem_cons_succ, List.setIfInBounds_toArray, List.set_cons_zero, List.set_cons_succ]
        refine wpAnyL_take (i := 20) (v := ?v5020) rfl (by kernel_rfl) (by kernel_rfl) (by kernel_rfl) (by kernel_rfl) (fun _ _ _ h => h) (Or.inl ⟨by kernel_rfl, ?hy5020⟩) (by assumption) ?r5020
        case hy5020 => (intro W hSW; obtain ⟨s0, s1, s2, s3⟩ := hSW; go_simp; try with_reducible rfl)
        try simp only [Act.put, List.getElem_toArray, List.getElem_cons_zero, List.getElem_cons_succ, List.setIfInBounds_toArray, List.set_cons_zero, List.set_cons_succ]
        refine wpAnyL_take (i := 21) (v := ?v5021) rfl (by kernel_rfl) (by kernel_rfl) (by kernel_rfl) (by kernel_rfl) (fun _ _ _ h => h) (Or.inl ⟨by kernel_rfl, ?hy5021⟩) (by assumption) ?r5021
        case hy5021 => (intro W hSW; obtain ⟨s0, s1, s2, s3⟩ := hSW; go_simp; try with_reducible rfl)
        try simp only [Act.put, List.getElem_toArray, List.getElem_cons_zero, List.getElem_cons_succ, List.setIfInBounds_toArray, List.set_cons_zero, List.set_cons_succ]
        refine wpAnyL_last (by kernel_rfl) rfl (fun K hK => ?_)
        go_simp
        refine hK.out _ _ ?_
        clear hK K
        try simp only [Act.put, List.getElem_toArray, List.getElem_cons_zero, List.getElem_cons_succ, List.setIfInBounds_toArray, List.set_cons_zero, List.set_cons_succ]
        refine wpAnyL_done (by kernel_rfl) ?_ _
        refine NoPanic.normal ?_
        have hO5 := HO4.out.set_cell Hn1.out 1 (by decide) (i64 (hv + sm)) { Lk[n] with hav := hv + sm } rfl (show Lk[n].name.size ≤ maxLen from hokk.out Lk[n] (List.getElem_mem Hn1.out))
        have HO5 := Lib.hid hO5
        clear hO5
        go_wp2
        go_roundw
        case rel =>
          exact ⟨k + 1, Lk.set n { Lk[n] with hav := hv + sm }, by go_num, by omega, (rc_row (by rw [List.length_set]) HO5.out.1 ((HO5.out.2.block g (Array.getElem?_eq_some_iff.1 Hg3.out).1 (fun e => hne (by injection e with e; exact e.symm))).trans Hg3.out) HTb.out (fun x hx => by
            rcases List.mem_or_eq_of_mem_set hx with hx | rfl
            · exact hokk.out x hx
            · exact (show Lk[n].name.size ≤ maxLen from hokk.out Lk[n] (List.getElem_mem Hn1.out)))).later (Below.refl _ _).drew, Hokn.out, Hson.out, by rw [List.length_set]; exact Hln.out, Hst.out, grown_trans HG.out (grown_setCell (grown_drew hG3.out) (p := ⟨gb, n * 4 + 1, none⟩) (.inr Hgb.out) _)⟩
        case measure => simp [intOf]; omega
      · obtain rfl : k = l.length := by omega
        have g1 : decide ((l.length : Int) < (l.length : Int)) = false := decide_eq_false (by omega)
        rw [List.drop_length] at hal
        have HRR := Lib.hid (show R = (0, Lk) from HR1.out.trans hal)
        clear hal HR1
        go_wp2
        go_ret
        exact ⟨by rw [HRR.out]; rfl, by rw [HRR.out]; exact hrc, hG⟩
  · have g1 : (q == 0) = false := beq_eq_false_iff_ne.2 hq0
    have HR1 := Lib.hid (show R = (q, L) from HR.out.trans (hne.out hq0))
    have hq1 := Lib.hid hq0
    clear HR Hch hne hq0
    go_wp2_with fail
    go_loopw [6] (fun i wr => i = i64 0 ∧ w1 = wr) (fun i _ => 0)
    case atStart => exact ⟨rfl, rfl⟩
    case round =>
      obtain ⟨rfl, rfl⟩ := hrel
      rcases Nat.eq_zero_or_pos l.length with h0 | h0
      · have g2 : decide ((0 : Int) < (l.length : Int)) = false := decide_eq_false (by omega)
        have g3 : decide (0 < l.length) = false := decide_eq_false (by omega)
        go_wp2
        go_ret
        exact ⟨by rw [HR1.out]; rfl, by rw [HR1.out]; exact H.out.later hb1, grown_of_below hb1 _⟩
      · have g2 : decide ((0 : Int) < (l.length : Int)) = true := decide_eq_true (by omega)
        have g3 : decide (0 < l.length) = true := decide_eq_true h0
        go_wp2
        go_ret
        exact ⟨by rw [HR1.out]; rfl, by rw [HR1.out]; exact H.out.later hb1, grown_of_below hb1 _⟩
end Go.Proofs.YtmljlkjomjflpaaGreat
