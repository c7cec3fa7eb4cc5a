/- ref11.Export -/
import Derived.Test.YtdkkblhfjblpkaaGreatRows
import Derived.Test.YtdkkblhfjblpkaaGreatBfRf11S
import Derived.Test.YtdkkblhfjblpkaaGreatBi18
import Derived.Test.YtdkkblhfjblpkaaGreatBi23
import Derived.Test.YtdkkblhfjblpkaaGreatBi22
import Derived.WalkKit
import Derived.WalkSpells
import Derived.WalkLawsBesides
import Derived.Deep.QuietTactic
import Derived.BigQuiet
import Derived.Laws.StructEq
import Derived.Deep.DeepFit
import Derived.StillTailTactics
namespace Go.Proofs.YtdkkblhfjblpkaaGreat
open Go.RowKit
set_option maxRecDepth 100000 in
set_option maxHeartbeats 8000000 in
theorem rexport_c (A0 : Option Addr) (c0 : Nat) (l : List Od) (w : World) (h : Sl w w.heap.size A0 c0 l) (hn : l.length ≤ 60000) (hl : ∀ x ∈ l, x.legs.length ≤ 10) (hr : ∀ x ∈ l, InR x) :
    Calls Tryz.prog 14 #[.slice A0 l.length c0] w fun e w' => ∃ v, e = .returned (.tuple #[v, i64 (errX l)]) ∧ Own w' w.heap.size 5 v (outX l) ∧ Below w.heap.size w w' := by
  have hR0 : Calls Tryz.prog 62 #[.slice A0 l.length c0] w fun e w' => e = .returned (.bool (validL l)) ∧ Below w.heap.size w w' := rright10_c A0 c0 l w h (by omega)
  have HR := Lib.hid hR0
  have HS := Lib.hid (fun W (h : Sl W W.heap.size A0 c0 l) => rsteps_c A0 c0 l W h hn hl)
  have Hs0 := Lib.hid h
  have Hr := Lib.hid hr
  have Hl := Lib.hid hl
  have hcap : l.length ≤ c0 := h.1
  have HN := Lib.hid (fun (n : Nat) (W : World) (h : n ≤ 200) => rnum2_c n W (by omega) (by omega))
  obtain ⟨E, hE⟩ : ∃ E, errX l = E := ⟨_, rfl⟩
  obtain ⟨U, hU⟩ : ∃ U, outX l = U := ⟨_, rfl⟩
  rw [hE, hU]
  have HE0 := Lib.hid hE
  have HU0 := Lib.hid hU
  clear h hr hl hE hU hR0
  go_enter Tryz.func14, Tryz.ntmps14
  by_cases hbig : l.length > 200
  · have g1 : decide ((l.length : Int) > 200) = true := decide_eq_true (by omega)
    have g2 : decide (l.length > 200) = true := decide_eq_true hbig
    have g3 : decide (200 < (l.length : Int)) = true := decide_eq_true (by omega)
    have g4 : decide (200 < l.length) = true := decide_eq_true hbig
    have Hno := Lib.hid (show okX l = false by unfold okX; rw [decide_eq_false (by omega)]; rfl)
    clear hbig
    go_wp2
    go_ret2
    obtain rfl : E = 1 := HE0.out.symm.trans (errX_no Hno.out)
    obtain rfl : U = [] := HU0.out.symm.trans (outX_no Hno.out)
    exact ⟨_, rfl, Own.nil_ _ _ _, by first | exact Below.refl _ _ | exact (Below.refl _ _).drew⟩
  · have g1 : decide ((l.length : Int) > 200) = false := decide_eq_false (by omega)
    have g2 : decide (l.length > 200) = false := decide_eq_false hbig
    have g3 : decide (200 < (l.length : Int)) = false := decide_eq_false (by omega)
    have g4 : decide (200 < l.length) = false := decide_eq_false hbig
    have hsm : l.length ≤ 200 := by omega
    clear hbig
    cases hv : validL l
    · have Hno := Lib.hid (show okX l = false by unfold okX; rw [hv, Bool.and_false])
      have hR := HR.out
      rw [hv] at hR
      have HR := Lib.hid hR
      clear hv hR
      go_wp2_with fail
      refine HR.out.mono ?_
      rintro e w1 ⟨rfl, hb1⟩
      go_wp2
      go_ret2
      obtain rfl : E = 1 := HE0.out.symm.trans (errX_no Hno.out)
      obtain rfl : U = [] := HU0.out.symm.trans (outX_no Hno.out)
      exact ⟨_, rfl, Own.nil_ _ _ _, hb1⟩
    · have Hok0 := Lib.hid (show okX l = true by unfold okX; rw [hv, decide_eq_true hsm]; rfl)
      have hR := HR.out
      rw [hv] at hR
      have HR := Lib.hid hR
      clear hv hR
      go_wp2_with fail
      refine HR.out.mono ?_
      rintro e w1 ⟨rfl, hb1⟩
      clear HR
      go_wp2_with fail
      refine (HS.out _ (Hs0.out.later hb1)).mono ?_
      rintro e wS ⟨v, S, rfl, hO, hm, hF⟩
      obtain ⟨A, c, rfl, s2⟩ := hO.sl
      have hin := stepsL_in hm
      have hn : S.length ≤ 200 := by omega
      have Hx := Lib.hid (show ∀ x ∈ S, x.l.length ≤ 200 ∧ ∀ y ∈ x.l, y.legs.length ≤ 10 ∧ InR y from fun x hx => ⟨by have := (hin.2 x hx).1; omega, fun y hy => ⟨Hl.out y ((hin.2 x hx).2 y hy), Hr.out y ((hin.2 x hx).2 y hy)⟩⟩)
      have Hs := Lib.hid s2
      have HE := Lib.hid (show errW (S.map SV.l) = E by rw [hm, ← HE0.out, errX_ok Hok0.out])
      have HU := Lib.hid (show outW (S.map SV.l) = U by rw [hm, ← HU0.out, outX_ok Hok0.out])
      have HbS := Lib.hid (below_on hb1 (Nat.le_refl _) hF)
      have hcap2 : S.length ≤ c := s2.1
      clear hO hF hm HS hin s2 hb1 HE0 HU0 Hs0 Hr Hl Hok0
      go_wp2_with fail
      refine (HN.out S.length wS hn).mono ?_
      rintro e w1 ⟨v, rfl, hO, hF⟩
      have HO := Lib.hid hO
      have HL0 := Lib.hid (numB_le (n := S.length) ⟨by omega, by omega⟩)
      clear hO
      go_wp2_with fail
      go_loopw [5, 6] (fun b i wr => ∃ (q : Nat) (B : List UInt8), i = i64 q ∧ q ≤ S.length ∧ B = numB S.length ++ ((S.take q).map SV.l).flatMap wrS ∧ B.length ≤ 10 + q * 14000010 ∧ okW ((S.take q).map SV.l) = true ∧ Own wr wS.heap.size 5 b B ∧ Below wS.heap.size wS wr) (fun _ i _ => S.length - (intOf i).toNat)
      case atStart => exact ⟨0, _, rfl, Nat.zero_le _, by simp, by have := HL0.out; omega, rfl, HO.out, hF⟩
      case round =>
        clear hF
        obtain ⟨q, B, rfl, hq, hB, hBl, hok, hO, hb⟩ := hrel
        have HB := Lib.hid hB
        have Hok := Lib.hid hok
        have HO := Lib.hid hO
        have HBl := Lib.hid hBl
        clear hB hok hO hBl
        by_cases hlt : q < S.length
        · have g1 : decide ((q : Int) < (S.length : Int)) = true := decide_eq_true (by omega)
          have g2 : decide (q < S.length) = true := decide_eq_true hlt
          have i0 : (0 : Int) ≤ (q : Int) := by omega
          have i1 : (q : Int) < (S.length : Int) := by omega
          have hx1 := Hx.out _ (List.getElem_mem hlt)
          have Hmem := Lib.hid (List.getElem_mem hlt)
          have Hne := Lib.hid (show ((S.take (q + 1)).map SV.l).flatMap wrS = ((S.take q).map SV.l).flatMap wrS ++ wrS S[q].l by rw [List.take_succ_eq_append_getElem hlt, List.map_append, List.flatMap_append]; rw [List.map_cons, List.map_nil, List.flatMap_cons, List.flatMap_nil, List.append_nil])
          have Hnk := Lib.hid (show okW ((S.take (q + 1)).map SV.l) = (okW ((S.take q).map SV.l) && S[q].l.all rightB) by unfold okW; rw [List.take_succ_eq_append_getElem hlt, List.map_append, List.all_append]; rw [List.map_cons, List.map_nil, List.all_cons, List.all_nil, Bool.and_true])
          obtain ⟨b6, o6, rfl, _, kx, p6⟩ := Hs.out.sv hlt
          obtain ⟨X, hX⟩ : ∃ X, S[q] = X := ⟨_, rfl⟩
          rw [hX] at hx1 Hne Hnk Hmem kx p6
          obtain ⟨A6, hA6⟩ : ∃ A6, X.a = A6 := ⟨_, rfl⟩
          rw [hA6] at kx p6
          have Hkx := Lib.hid kx
          have Hp6 := Lib.hid p6
          have p6 := (hb.cell (World.block_lt_of_cell? _ _ Hp6.out)).trans Hp6.out
          have hXl := hx1.1
          have hXc : X.l.length ≤ X.c := kx.1
          have HXg := Lib.hid hx1.2
          clear hx1 hX hA6 kx
          go_wp2_with fail
          refine (HN.out X.l.length _ hXl).mono ?_
          rintro e w2 ⟨v, rfl, hO2, hF⟩
          obtain ⟨A2, c2, hv, hs2⟩ := hO2.sl_ot HO.out (Nat.le_refl _)
          subst hv
          have HO2 := Lib.hid (HO.out.later hF)
          have HS2 := Lib.hid hs2
          have hb2 := hb.trans (hF.mono hb.size)
          have HL2 := Lib.hid (numB_le (n := X.l.length) ⟨by omega, by omega⟩)
          clear hO2 hF hs2 hb p6
          go_wp2_with (at_builtin; refine wpList_append_slice rfl (some 36) (.tmp 29) (.tmp 35) 25 rfl rfl (.int .u8 0) 1 Tryz.underlying25 inf_byte rfl (by decide) (by decide) rfl HO2.out _ _ _ (numB X.l.length) rfl rfl HS2.out (by have := HBl.out; have := HL2.out; omega) hb2.size ?_; intro v3 w3 hO3 hg3 hat3)
          have hb3 := hb2.trans (HO2.out.below hg3 (Nat.le_refl _) hb2.size)
          have HO3 := Lib.hid hO3
          clear hO3 hg3 hat3
          go_loopw [5, 7] (fun b j wq => ∃ (m : Nat) (D : List UInt8), j = i64 m ∧ m ≤ X.l.length ∧ D = B ++ numB X.l.length ++ (X.l.take m).flatMap wrO ∧ D.length ≤ 20 + q * 14000010 + m * 60010 ∧ (X.l.take m).all rightB = true ∧ Own wq wS.heap.size 5 b D ∧ Below wS.heap.size wS wq) (fun _ j _ => X.l.length - (intOf j).toNat)
          case atStart => exact ⟨0, _, rfl, Nat.zero_le _, by simp, by rw [List.length_append]; have := HBl.out; have := HL2.out; omega, rfl, HO3.out, hb3⟩
          case round =>
            clear hb2 hb3 HO3 HO2 HS2
            obtain ⟨m, D, rfl, hm, hD, hDl, hok, hO, hb⟩ := hrel
            have HD := Lib.hid hD
            have Hokm := Lib.hid hok
            have HO := Lib.hid hO
            have HDl := Lib.hid hDl
            clear hD hok hO hDl
            have p6 := (hb.cell (World.block_lt_of_cell? _ _ Hp6.out)).trans Hp6.out
            by_cases hml : m < X.l.length
            · have g3 : decide ((m : Int) < (X.l.length : Int)) = true := decide_eq_true (by omega)
              have g4 : decide (m < X.l.length) = true := decide_eq_true hml
              have j0 : (0 : Int) ≤ (m : Int) := by omega
              have j1 : (m : Int) < (X.l.length : Int) := by omega
              obtain ⟨bx, ox, rfl, _, hoky, d0, d1, d2, d3, d4, d5, d6, d7, d8, d9⟩ := (SlS.later Hkx.out hb).od hml
              have hy1 := HXg.out _ (List.getElem_mem hml)
              have Hym := Lib.hid (List.getElem_mem hml)
              have Hfn := Lib.hid (flat_next (f := wrO) hml)
              have Han := Lib.hid (all_next (f := rightB) hml)
              obtain ⟨y, hy⟩ : ∃ y, X.l[m] = y := ⟨_, rfl⟩
              rw [hy] at hoky d0 d1 d2 d3 d4 d5 d6 d7 d8 d9 hy1 Hym Hfn Han
              have HBy := Lib.hid (rbytes_c y wr hoky (by have := hy1.1; omega) hy1.2)
              unfold Od.v at HBy
              have Hin := Lib.hid hy1.2
              clear hy hoky hy1
              by_cases hr : rightB y = true
              · have hby := HBy.out
                rw [if_pos hr, if_pos hr] at hby
                have HBy := Lib.hid hby
                have hbl := bytesB_le hr Hin.out
                have hbp := bytesB_pos y hr Hin.out
                have hwl := wrO_le hr Hin.out
                have HT : Hid (∀ W : World, Calls Tryz.prog 65 #[.string ⟨(bytesB y).toArray⟩] W fun e w' => ∃ v, e = .returned v ∧ Own w' W.heap.size 5 v (wrO y) ∧ Below W.heap.size W w') := Lib.hid (fun W => rtext2_c ⟨(bytesB y).toArray⟩ W hbl)
                have Hr := Lib.hid hr
                have Hwl := Lib.hid hwl
                have Hbp := Lib.hid hbp
                clear hby hbl hbp hwl hr
                go_wp2_with fail
                refine HBy.out.mono ?_
                rintro e w4 ⟨v, rfl, hO4, hF⟩
                obtain ⟨A4, c4, hv, hs4⟩ := hO4.sl_ot HO.out (Nat.le_refl _)
                subst hv
                have hcv := conv_str hs4 Hbp.out
                have HO4 := Lib.hid (HO.out.later hF)
                have hb4 := hb.trans (hF.mono hb.size)
                clear hO4 hF hs4 HBy d0 d1 d2 d3 d4 d5 d6 d7 d8 d9 hb
                go_wp2_with fail
                refine (HT.out _).mono ?_
                rintro e w5 ⟨v, rfl, hO5, hF⟩
                obtain ⟨A5, c5, hv, hs5⟩ := hO5.sl_ot HO4.out (Nat.le_refl _)
                subst hv
                have HO5 := Lib.hid (HO4.out.later hF)
                have HS5 := Lib.hid hs5
                have hb5 := hb4.trans (hF.mono hb4.size)
                clear hO5 hF hs5 hcv
                go_wp2_with (at_builtin; refine wpList_append_slice rfl (some 64) (.tmp 60) (.tmp 63) 25 rfl rfl (.int .u8 0) 1 Tryz.underlying25 inf_byte rfl (by decide) (by decide) rfl HO5.out _ _ _ (wrO y) rfl rfl HS5.out (by have := HDl.out; have := Hwl.out; omega) hb5.size ?_; intro v6 w6 hO6 hg6 hat6)
                have hb6 := hb5.trans (HO5.out.below hg6 (Nat.le_refl _) hb5.size)
                go_roundw
                case rel => exact ⟨m + 1, _, by go_num, by omega, by rw [HD.out, Hfn.out]; simp only [List.append_assoc], by rw [List.length_append]; have := HDl.out; have := Hwl.out; omega, by rw [Han.out, Hokm.out, Hr.out]; rfl, hO6, hb6⟩
                case measure => simp [intOf]; omega
              · have hby := HBy.out
                rw [if_neg hr, if_neg hr] at hby
                have HBy := Lib.hid hby
                have Hno := Lib.hid (okW_no (S := S.map SV.l) (List.mem_map.2 ⟨_, Hmem.out, rfl⟩) Hym.out (by simpa using hr))
                clear hby hr
                go_wp2_with fail
                refine HBy.out.mono ?_
                rintro e w4 ⟨v, rfl, hO4, hF⟩
                have hb4 := hb.trans (hF.mono hb.size)
                clear hO4 hF HBy d0 d1 d2 d3 d4 d5 d6 d7 d8 d9 hb
                go_wp2
                go_ret2
                obtain rfl : E = 1 := HE.out.symm.trans (errW_no Hno.out)
                obtain rfl : U = [] := HU.out.symm.trans (outW_no Hno.out)
                exact ⟨_, rfl, Own.nil_ _ _ _, HbS.out.trans (hb4.mono HbS.out.size)⟩
            · obtain rfl : m = X.l.length := by omega
              have g3 : decide ((X.l.length : Int) < (X.l.length : Int)) = false := decide_eq_false (by omega)
              have Hta := Lib.hid (List.take_length (l := X.l))
              go_wp2
              go_roundw
              case rel => exact ⟨q + 1, D, by go_num, by omega, by rw [HD.out, Hta.out, Hne.out, HB.out]; unfold wrS; simp only [List.append_assoc], by have := HDl.out; omega, by rw [Hnk.out, Hok.out]; have := Hokm.out; rw [Hta.out] at this; rw [this]; rfl, HO.out, hb⟩
              case measure => simp [intOf]; omega
        · obtain rfl : q = S.length := by omega
          have g1 : decide ((S.length : Int) < (S.length : Int)) = false := decide_eq_false (by omega)
          have hfin := Hok.out
          have hfb := HB.out
          rw [List.take_length] at hfin hfb
          have Hfin := Lib.hid hfin
          have hfb2 : B = wrL (S.map SV.l) := by unfold wrL; rw [List.length_map]; exact hfb
          have Hfb := Lib.hid hfb2
          clear hfin hfb hfb2
          go_wp2
          go_ret2
          obtain rfl : E = 0 := HE.out.symm.trans (errW_ok Hfin.out)
          obtain rfl : U = wrL (S.map SV.l) := HU.out.symm.trans (outW_ok Hfin.out)
          exact ⟨_, rfl, (by have := HO.out.mono HbS.out.size; rw [Hfb.out] at this; exact this), HbS.out.trans (hb.mono HbS.out.size)⟩
end Go.Proofs.YtdkkblhfjblpkaaGreat
