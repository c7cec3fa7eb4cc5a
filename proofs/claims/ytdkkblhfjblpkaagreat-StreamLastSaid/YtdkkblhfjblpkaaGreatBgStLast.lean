/- StreamLast -/
import Derived.Test.YtdkkblhfjblpkaaGreatRows
import Derived.Test.YtdkkblhfjblpkaaGreatBk16
import Derived.Test.YtdkkblhfjblpkaaGreatBgStNil
import Derived.Test.YtdkkblhfjblpkaaGreatBk1
import Derived.Test.YtdkkblhfjblpkaaGreatBk12
import Derived.Test.YtdkkblhfjblpkaaGreatBk17
import Derived.Test.YtdkkblhfjblpkaaGreatBgOperNot
import Derived.Deep.Cut
import Derived.Deep.CutRange
import Derived.WalkKit
import Derived.WalkSpells
import Derived.WalkLawsBesides
import Derived.Deep.QuietTactic
import Derived.BigQuiet
import Derived.Laws.StructEq
import Derived.Deep.DeepFit
import Derived.StillTailTactics
namespace Go.Proofs.YtdkkblhfjblpkaaGreat
open Go.RowKit
set_option maxRecDepth 100000 in
set_option maxHeartbeats 16000000 in
theorem streamLast_c (A : Option Addr) (c : Nat) (l : List Od) (k : ByteArray) (w : World) (h : Sl w w.heap.size A c l) (hr : ∀ x ∈ l, InR x) (hk : k.size ≤ maxLen) :
    Calls Tryz.prog 9 #[.slice A l.length c, .string k] w fun e w' => e = .returned (.bool true) ∧ Below w.heap.size w w' := by
  have hL := Lib.hid fun W => lives_12 W
  have Hod := Lib.hid (fewL_od (n := 60) h hr)
  have Hleg := Lib.hid (fun x hx => Nat.le_trans (fewL_legs 60 l x hx) (by decide : 8 ≤ 10))
  have H := Lib.hid h
  clear h hr hk
  go_enter Tryz.func9, Tryz.ntmps9
  go_wp2_with fail
  refine (hL.out _).mono ?_
  rintro e w1 ⟨rfl, hF⟩
  have hb1 := hF
  have hl1 := H.out.later hF
  clear hL hF
  have HFw := Lib.hid (few_12 A c 60 l w1 hl1 (by decide))
  go_wp2_with fail
  refine HFw.out.mono ?_
  rintro e w2 ⟨v, rfl, hO, hF⟩
  have hb2 := below_on hb1 (Nat.le_refl _) hF
  have hn := fewL_le 60 l
  obtain ⟨AF, cF, rfl, hsF⟩ := hO.sl
  clear hF hb1 hl1 HFw hO H
  generalize fewL 60 l = F at *
  have HLaw := Lib.hid (ev_law Hod.out k)
  have HEv := Lib.hid (sevents_c AF cF F k w2 hsF Hod.out Hleg.out (Nat.le_trans hn (by decide)))
  have HsF := Lib.hid hsF
  clear hsF
  go_wp2_with fail
  refine HEv.out.mono ?_
  rintro e w3 ⟨v, rfl, hO, hF⟩
  have hb3 := below_on hb2 (Nat.le_refl _) hF
  obtain ⟨AE, cE, rfl, hsE⟩ := hO.sl
  have hsF3 := HsF.out.later hF
  have hEl : (evL bk0 F k).length ≤ 60 := Nat.le_trans (evL_le inv_bk0 k F Hod.out) hn
  have hEc : (evL bk0 F k).length ≤ cE := hsE.1
  clear hO hF HEv hb2 HsF
  generalize evL bk0 F k = E at *
  have HFo := Lib.hid (bfold_c AF cF F w3 hsF3 Hod.out (fun x hx => Nat.le_trans (Hleg.out x hx) (by decide)) (Nat.le_trans hn (by decide)))
  have HsE := Lib.hid hsE
  clear hsE hsF3
  go_wp2_with fail
  refine HFo.out.mono ?_
  rintro e w4 ⟨ba, vT, B0, rfl, hB, hI, -, h0, hlo, hF⟩
  have hb4 := below_on hb3 (Nat.le_refl _) hF
  have hsE4 := HsE.out.later hF
  clear hlo h0 hF hb3 HsE HFo Hod Hleg hn
  have Hsrt := Lib.hid hI.inv.srtA
  have HAc := Lib.hid (baccts_c ba _ w4 hB hI)
  have hLn := hI.len
  have HsE4 := Lib.hid hsE4
  clear hsE4 hB hI
  generalize foldL bk0 F = B at *
  go_wp2_with fail
  refine HAc.out.mono ?_
  rintro e wo ⟨va, rfl, hO, hF⟩
  have hbo := below_on hb4 (Nat.le_refl _) hF
  obtain ⟨AA, cA, rfl, hsA⟩ := hO.sl
  have hsEo := HsE4.out.later hF
  have hAc : B.L.length ≤ cA := hsA.1
  have HA := Lib.hid (fun V (hV : Below wo.heap.size wo V) => hsA.later hV)
  have HE := Lib.hid (fun V (hV : Below wo.heap.size wo V) => hsEo.later hV)
  have Hbo := Lib.hid hbo
  clear hO hF HAc HsE4 hsA hsEo hbo hb4
  generalize B.L = L at *
  go_wp2_with fail
  go_loopw [9] (fun iv wr => ∃ i : Nat, iv = i64 i ∧ i ≤ L.length ∧ Hid (∀ j (h : j < L.length), j < i → L[j].name ≠ k) ∧ Below wo.heap.size wo wr) (fun iv _ => L.length - (intOf iv).toNat)
  case atStart => exact ⟨0, rfl, Nat.zero_le _, Lib.hid (fun j _ h => by omega), Below.refl _ _⟩
  case round =>
    obtain ⟨i, rfl, hi, Hno, hbi⟩ := hrel
    obtain ⟨wi, rfl⟩ : ∃ wi, wi = wr := ⟨wr, rfl⟩
    have hwi := hbi.size
    by_cases hlt : i < L.length
    · have g1 : decide ((i : Int) < (L.length : Int)) = true := decide_eq_true (by omega)
      have g2 : decide (i < L.length) = true := decide_eq_true hlt
      have i0 : (0 : Int) ≤ (i : Int) := by omega
      have i1 : (i : Int) < (L.length : Int) := by omega
      have Hac := Lib.hid (fun V (hV : Below wo.heap.size wo V) => (HA.out V hV).acc hlt)
      obtain ⟨ba1, oa, hAA, -, -, b0, b1, b2, b3⟩ := Hac.out wi hbi
      have Hmem := Lib.hid (List.getElem_mem hlt)
      have Hnx := Lib.hid (show L[i].name ≠ k → ∀ j (h : j < L.length), j < i + 1 → L[j].name ≠ k from fun h1 j hj h2 => by
        by_cases e : j = i
        · subst e; exact h1
        · exact Hno.out j hj (by omega))
      obtain ⟨ac, hac⟩ : ∃ ac, L[i] = ac := ⟨_, rfl⟩
      simp only [hac] at Hac b0 b1 b2 b3 Hnx
      rw [hac] at Hmem
      clear hac
      by_cases hnm : ac.name = k
      · have e1 : (ac.name.toList == k.toList) = true := beqS_of_eq hnm
        have e2 : (ac.name.toList != k.toList) = false := by rw [bne, e1]; rfl
        have hget : getK Ac.name L k = some ac := by rw [← hnm]; exact getK_of keyA Hsrt.out Hmem.out
        obtain ⟨E', p, hE, hp1, hp2⟩ := HLaw.out.last ac hget
        have hEl2 : E.length = E'.length + 1 := by rw [hE]; simp
        have hpn : E[E'.length]'(by omega) = p := by simp only [hE]; simp
        obtain ⟨n, hn⟩ : ∃ n, E'.length = n := ⟨_, rfl⟩
        have HEn := Lib.hid (show E.length = n + 1 by omega)
        have hpn2 : E[n]? = some p := by rw [← hn]; rw [List.getElem?_eq_getElem (by omega)]; rw [hpn]
        obtain ⟨f, hf⟩ : ∃ f, E[0]? = some f := ⟨E[0]'(by omega), List.getElem?_eq_getElem (by omega)⟩
        have hf1 : f.kind = 1 := by
          cases E with
          | nil => simp at hf
          | cons x r => simp at hf; rw [← hf]; exact HLaw.out.first x r rfl
        have x1 : (f.kind != 1) = false := by rw [hf1]; rfl
        have x2 : (p.hav != ac.hav) = false := by rw [hp1]; simp
        have x3 : (p.set_ != ac.set_) = false := by rw [hp2]; simp
        have y1 : ((E.length : Int) == 0) = false := by rw [beq_eq_false_iff_ne]; omega
        have y2 : (E.length : Int) - 1 = (n : Int) := by omega
        have y3 : (n : Int) < (E.length : Int) := by omega
        have y4 : (0 : Int) ≤ (n : Int) := by omega
        have y5 : (0 : Int) < (E.length : Int) := by omega
        have y6 : 0 < E.length := by omega
        have Hch := Lib.hid HLaw.out.chain
        have Hpn := Lib.hid hpn2
        have Hf := Lib.hid hf
        obtain ⟨be, oe, hAE, -, -⟩ := (HE.out wi hbi).ev (k := 0) (by omega)
        have HEk := Lib.hid (fun j (hj : j < E.length) x (hx : E[j]? = some x) V (hV : Below wo.heap.size wo V) => show V.cell? ⟨be, oe + j * 5, none⟩ = some (i64 x.client) ∧ V.cell? ⟨be, oe + j * 5 + 1, none⟩ = some (i64 x.seq) ∧ V.cell? ⟨be, oe + j * 5 + 2, none⟩ = some (i64 x.kind) ∧ V.cell? ⟨be, oe + j * 5 + 3, none⟩ = some (i64 x.hav) ∧ V.cell? ⟨be, oe + j * 5 + 4, none⟩ = some (i64 x.set_) by
          obtain ⟨b2, o2, e, -, h2⟩ := (HE.out V hV).ev hj
          rw [hAE] at e
          injection e with e
          injection e with e1 e2
          subst e1 e2
          have : E[j] = x := (List.getElem_eq_iff hj).2 hx
          rw [this] at h2
          exact h2)
        subst hAE hAA
        have hS : ∀ V, Below wi.heap.size wi V → (fun V : World => Below wi.heap.size wi V ∧ (V.cell? ⟨be, oe + n * 5, none⟩ = some (i64 p.client) ∧ V.cell? ⟨be, oe + n * 5 + 1, none⟩ = some (i64 p.seq) ∧ V.cell? ⟨be, oe + n * 5 + 2, none⟩ = some (i64 p.kind) ∧ V.cell? ⟨be, oe + n * 5 + 3, none⟩ = some (i64 p.hav) ∧ V.cell? ⟨be, oe + n * 5 + 4, none⟩ = some (i64 p.set_)) ∧ (V.cell? ⟨be, oe, none⟩ = some (i64 f.client) ∧ V.cell? ⟨be, oe + 1, none⟩ = some (i64 f.seq) ∧ V.cell? ⟨be, oe + 2, none⟩ = some (i64 f.kind) ∧ V.cell? ⟨be, oe + 3, none⟩ = some (i64 f.hav) ∧ V.cell? ⟨be, oe + 4, none⟩ = some (i64 f.set_)) ∧ V.cell? ⟨ba1, oa + i * 4, none⟩ = some (.string ac.name) ∧ V.cell? ⟨ba1, oa + i * 4 + 1, none⟩ = some (i64 ac.hav) ∧ V.cell? ⟨ba1, oa + i * 4 + 2, none⟩ = some (i64 ac.set_) ∧ V.cell? ⟨ba1, oa + i * 4 + 3, none⟩ = some (i64 ac.lim)) V := fun V hV => by
          have hVo := hbi.trans (hV.mono hwi)
          have h0 := HEk.out 0 (by omega) f Hf.out V hVo
          rw [show oe + 0 * 5 = oe by omega] at h0
          obtain ⟨b9, o9, e, -, -, h9⟩ := Hac.out V hVo
          injection e with e
          injection e with e1 e2
          subst e1 e2
          exact ⟨hV, HEk.out n (by omega) p Hpn.out V hVo, h0, h9⟩
        have HS := Lib.hid hS
        clear hS hE hp1 hp2 hEl2 hpn hn hpn2 hf hf1 hget hnm Hnx Hno Hac Hmem HA HLaw Hsrt E'
        have yw : IntKind.i64.wrap (n : Int) = (n : Int) := by rw [IntKind.wrap_i64]; omega
        have yw2 : wrap64 (n : Int) = (n : Int) := by rw [← IntWalk.i64_left]; exact yw
        go_upto_region 11 with fail
        clear b0 b1 b2 b3
        go_cut [79] from 27 to 153 (fun s79 wx => s79 = .bool false ∧ Below wi.heap.size wi wx)
        case first =>
          as_aux_lemma =>
          refine wp_region_noPanic ?_
          refine wp_region_l 39 (fun V : World => Below wi.heap.size wi V ∧ (V.cell? ⟨be, oe + n * 5, none⟩ = some (i64 p.client) ∧ V.cell? ⟨be, oe + n * 5 + 1, none⟩ = some (i64 p.seq) ∧ V.cell? ⟨be, oe + n * 5 + 2, none⟩ = some (i64 p.kind) ∧ V.cell? ⟨be, oe + n * 5 + 3, none⟩ = some (i64 p.hav) ∧ V.cell? ⟨be, oe + n * 5 + 4, none⟩ = some (i64 p.set_)) ∧ (V.cell? ⟨be, oe, none⟩ = some (i64 f.client) ∧ V.cell? ⟨be, oe + 1, none⟩ = some (i64 f.seq) ∧ V.cell? ⟨be, oe + 2, none⟩ = some (i64 f.kind) ∧ V.cell? ⟨be, oe + 3, none⟩ = some (i64 f.hav) ∧ V.cell? ⟨be, oe + 4, none⟩ = some (i64 f.set_)) ∧ V.cell? ⟨ba1, oa + i * 4, none⟩ = some (.string ac.name) ∧ V.cell? ⟨ba1, oa + i * 4 + 1, none⟩ = some (i64 ac.hav) ∧ V.cell? ⟨ba1, oa + i * 4 + 2, none⟩ = some (i64 ac.set_) ∧ V.cell? ⟨ba1, oa + i * 4 + 3, none⟩ = some (i64 ac.lim)) (by kernel_rfl) (HS.out _ (Below.refl _ _).drew) (fun hH => ?_)
          refine wpAnyL_take (i := 0) (v := ?v20001) rfl (by kernel_rfl) (by kernel_rfl) (by kernel_rfl) (by kernel_rfl) (fun _ _ _ h => h) (Or.inl ⟨by kernel_rfl, ?hy20001⟩) (by assumption) ?r20001
          case hy20001 => (intro W hSW; obtain ⟨hV0, ⟨p0, p1, p2, p3, p4⟩, ⟨f0, f1, f2, f3, f4⟩, b0, b1, b2, b3⟩ := hSW; go_simp; try with_reducible rfl)
          try simp only [Act.put, List.getElem_toArray, List.getElem_cons_zero, List.setIfInBounds_toArray, List.set_cons_zero, List.set_cons_succ]
          refine wpAnyL_take (i := 1) (v := ?v20002) rfl (by kernel_rfl) (by kernel_rfl) (by kernel_rfl) (by kernel_rfl) (fun _ _ _ h => h) (Or.inl ⟨by kernel_rfl, ?hy20002⟩) (by assumption) ?r20002
          case hy20002 => (intro W hSW; obtain ⟨hV0, ⟨p0, p1, p2, p3, p4⟩, ⟨f0, f1, f2, f3, f4⟩, b0, b1, b2, b3⟩ := hSW; go_simp; try with_reducible rfl)
          try simp only [Act.put, List.getElem_toArray, List.getElem_cons_zero, List.getElem_cons_succ, List.setIfInBounds_toArray, List.set_cons_zero, List.set_cons_succ]
          refine wpAnyL_take (i := 2) (v := ?v20003) rfl (by kernel_rfl) (by kernel_rfl) (by kernel_rfl) (by kernel_rfl) (fun _ _ _ h => h) (Or.inl ⟨by kernel_rfl, ?hy20003⟩) (by assumption) ?r20003
          case hy20003 => (intro W hSW; obtain ⟨hV0, ⟨p0, p1, p2, p3, p4⟩, ⟨f0, f1, f2, f3, f4⟩, b0, b1, b2, b3⟩ := hSW; go_simp; try with_reducible rfl)
          try simp only [Act.put, List.getElem_toArray, List.getElem_cons_zero, List.getElem_cons_succ, List.setIfInBounds_toArray, List.set_cons_zero, List.set_cons_succ]
          refine wpAnyL_take (i := 3) (v := ?v20004) rfl (by kernel_rfl) (by kernel_rfl) (by kernel_rfl) (by kernel_rfl) (fun _ _ _ h => h) (Or.inl ⟨by kernel_rfl, ?hy20004⟩) (by assumption) ?r20004
          case hy20004 => (intro W hSW; obtain ⟨hV0, ⟨p0, p1, p2, p3, p4⟩, ⟨f0, f1, f2, f3, f4⟩, b0, b1, b2, b3⟩ := hSW; go_simp; try with_reducible rfl)
          try simp only [Act.put, List.getElem_toArray, List.getElem_cons_zero, List.getElem_cons_succ, List.setIfInBounds_toArray, List.set_cons_zero, List.set_cons_succ]
          refine wpAnyL_take (i := 4) (v := ?v20005) rfl (by kernel_rfl) (by kernel_rfl) (by kernel_rfl) (by kernel_rfl) (fun _ _ _ h => h) (Or.inl ⟨by kernel_rfl, ?hy20005⟩) (by assumption) ?r20005
          case hy20005 => (intro W hSW; obtain ⟨hV0, ⟨p0, p1, p2, p3, p4⟩, ⟨f0, f1, f2, f3, f4⟩, b0, b1, b2, b3⟩ := hSW; go_simp; try with_reducible rfl)
          try simp only [Act.put, List.getElem_toArray, List.getElem_cons_zero, List.getElem_cons_succ, List.setIfInBounds_toArray, List.set_cons_zero, List.set_cons_succ]
          refine wpAnyL_take (i := 5) (v := ?v20006) rfl (by kernel_rfl) (by kernel_rfl) (by kernel_rfl) (by kernel_rfl) (fun _ _ _ h => h) (Or.inl ⟨by kernel_rfl, ?hy20006⟩) (by assumption) ?r20006
          case hy20006 => (intro W hSW; obtain ⟨hV0, ⟨p0, p1, p2, p3, p4⟩, ⟨f0, f1, f2, f3, f4⟩, b0, b1, b2, b3⟩ := hSW; go_simp; try with_reducible rfl)
          try simp only [Act.put, List.getElem_toArray, List.getElem_cons_zero, List.getElem_cons_succ, List.setIfInBounds_toArray, List.set_cons_zero, List.set_cons_succ]
          refine wpAnyL_take (i := 6) (v := ?v20007) rfl (by kernel_rfl) (by kernel_rfl) (by kernel_rfl) (by kernel_rfl) (fun _ _ _ h => h) (Or.inl ⟨by kernel_rfl, ?hy20007⟩) (by assumption) ?r20007
          case hy20007 => (intro W hSW; obtain ⟨hV0, ⟨p0, p1, p2, p3, p4⟩, ⟨f0, f1, f2, f3, f4⟩, b0, b1, b2, b3⟩ := hSW; go_simp; try with_reducible rfl)
          try simp only [Act.put, List.getElem_toArray, List.getElem_cons_zero, List.getElem_cons_succ, List.setIfInBounds_toArray, List.set_cons_zero, List.set_cons_succ]
          refine wpAnyL_take (i := 7) (v := ?v20008) rfl (by kernel_rfl) (by kernel_rfl) (by kernel_rfl) (by kernel_rfl) (fun _ _ _ h => h) (Or.inl ⟨by kernel_rfl, ?hy20008⟩) (by assumption) ?r20008
          case hy20008 => (intro W hSW; obtain ⟨hV0, ⟨p0, p1, p2, p3, p4⟩, ⟨f0, f1, f2, f3, f4⟩, b0, b1, b2, b3⟩ := hSW; go_simp; try with_reducible rfl)
          try simp only [Act.put, List.getElem_toArray, List.getElem_cons_zero, List.getElem_cons_succ, List.setIfInBounds_toArray, List.set_cons_zero, List.set_cons_succ]
          refine wpAnyL_take (i := 8) (v := ?v20009) rfl (by kernel_rfl) (by kernel_rfl) (by kernel_rfl) (by kernel_rfl) (fun _ _ _ h => h) (Or.inl ⟨by kernel_rfl, ?hy20009⟩) (by assumption) ?r20009
          case hy20009 => (intro W hSW; obtain ⟨hV0, ⟨p0, p1, p2, p3, p4⟩, ⟨f0, f1, f2, f3, f4⟩, b0, b1, b2, b3⟩ := hSW; go_simp; try with_reducible rfl)
          try simp only [Act.put, List.getElem_toArray, List.getElem_cons_zero, List.getElem_cons_succ, List.setIfInBounds_toArray, List.set_cons_zero, List.set_cons_succ]
          refine wpAnyL_take (i := 9) (v := ?v20010) rfl (by kernel_rfl) (by kernel_rfl) (by kernel_rfl) (by kernel_rfl) (fun _ _ _ h => h) (Or.inl ⟨by kernel_rfl, ?hy20010⟩) (by assumption) ?r20010
          case hy20010 => (intro W hSW; obtain ⟨hV0, ⟨p0, p1, p2, p3, p4⟩, ⟨f0, f1, f2, f3, f4⟩, b0, b1, b2, b3⟩ := hSW; go_simp; try with_reducible rfl)
          try simp only [Act.put, List.getElem_toArray, List.getElem_cons_zero, List.getElem_cons_succ, List.setIfInBounds_toArray, List.set_cons_zero, List.set_cons_succ]
          refine wpAnyL_take (i := 10) (v := ?v20011) rfl (by kernel_rfl) (by kernel_rfl) (by kernel_rfl) (by kernel_rfl) (fun _ _ _ h => h) (Or.inl ⟨by kernel_rfl, ?hy20011⟩) (by assumption) ?r20011
          case hy20011 => (intro W hSW; obtain ⟨hV0, ⟨p0, p1, p2, p3, p4⟩, ⟨f0, f1, f2, f3, f4⟩, b0, b1, b2, b3⟩ := hSW; go_simp; try with_reducible rfl)
          try simp only [Act.put, List.getElem_toArray, List.getElem_cons_zero, List.getElem_cons_succ, List.setIfInBounds_toArray, List.set_cons_zero, List.set_cons_succ]
          refine wpAnyL_take (i := 11) (v := ?v20012) rfl (by kernel_rfl) (by kernel_rfl) (by kernel_rfl) (by kernel_rfl) (fun _ _ _ h => h) (Or.inl ⟨by kernel_rfl, ?hy20012⟩) (by assumption) ?r20012
          case hy20012 => (intro W hSW; obtain ⟨hV0, ⟨p0, p1, p2, p3, p4⟩, ⟨f0, f1, f2, f3, f4⟩, b0, b1, b2, b3⟩ := hSW; go_simp; try with_reducible rfl)
          try simp only [Act.put, List.getElem_toArray, List.getElem_cons_zero, List.getElem_cons_succ, List.setIfInBounds_toArray, List.set_cons_zero, List.set_cons_succ]
          refine wpAnyL_take (i := 12) (v := ?v20013) rfl (by kernel_rfl) (by kernel_rfl) (by kernel_rfl) (by kernel_rfl) (fun _ _ _ h => h) (Or.inl ⟨by kernel_rfl, ?hy20013⟩) (by assumption) ?r20013
          case hy20013 => (intro W hSW; obtain ⟨hV0, ⟨p0, p1, p2, p3, p4⟩, ⟨f0, f1, f2, f3, f4⟩, b0, b1, b2, b3⟩ := hSW; go_simp; try with_reducible rfl)
          try simp only [Act.put, List.getElem_toArray, List.getElem_cons_zero, List.getElem_cons_succ, List.setIfInBounds_toArray, List.set_cons_zero, List.set_cons_succ]
          refine wpAnyL_take (i := 13) (v := ?v20014) rfl (by kernel_rfl) (by kernel_rfl) (by kernel_rfl) (by kernel_rfl) (fun _ _ _ h => h) (Or.inl ⟨by kernel_rfl, ?hy20014⟩) (by assumption) ?r20014
          case hy20014 => (intro W hSW; obtain ⟨hV0, ⟨p0, p1, p2, p3, p4⟩, ⟨f0, f1, f2, f3, f4⟩, b0, b1, b2, b3⟩ := hSW; go_simp; try with_reducible rfl)
          try simp only [Act.put, List.getElem_toArray, List.getElem_cons_zero, List.getElem_cons_succ, List.setIfInBounds_toArray, List.set_cons_zero, List.set_cons_succ]
          refine wpAnyL_take (i := 14) (v := ?v20015) rfl (by kernel_rfl) (by kernel_rfl) (by kernel_rfl) (by kernel_rfl) (fun _ _ _ h => h) (Or.inl ⟨by kernel_rfl, ?hy20015⟩) (by assumption) ?r20015
          case hy20015 => (intro W hSW; obtain ⟨hV0, ⟨p0, p1, p2, p3, p4⟩, ⟨f0, f1, f2, f3, f4⟩, b0, b1, b2, b3⟩ := hSW; go_simp; try with_reducible rfl)
          try simp only [Act.put, List.getElem_toArray, List.getElem_cons_zero, List.getElem_cons_succ, List.setIfInBounds_toArray, List.set_cons_zero, List.set_cons_succ]
          refine wpAnyL_take (i := 15) (v := ?v20016) rfl (by kernel_rfl) (by kernel_rfl) (by kernel_rfl) (by kernel_rfl) (fun _ _ _ h => h) (Or.inl ⟨by kernel_rfl, ?hy20016⟩) (by assumption) ?r20016
          case hy20016 => (intro W hSW; obtain ⟨hV0, ⟨p0, p1, p2, p3, p4⟩, ⟨f0, f1, f2, f3, f4⟩, b0, b1, b2, b3⟩ := hSW; go_simp; try with_reducible rfl)
          try simp only [Act.put, List.getElem_toArray, List.getElem_cons_zero, List.getElem_cons_succ, List.setIfInBounds_toArray, List.set_cons_zero, List.set_cons_succ]
          refine wpAnyL_take (i := 16) (v := ?v20017) rfl (by kernel_rfl) (by kernel_rfl) (by kernel_rfl) (by kernel_rfl) (fun _ _ _ h => h) (Or.inl ⟨by kernel_rfl, ?hy20017⟩) (by assumption) ?r20017
          case hy20017 => (intro W hSW; obtain ⟨hV0, ⟨p0, p1, p2, p3, p4⟩, ⟨f0, f1, f2, f3, f4⟩, b0, b1, b2, b3⟩ := hSW; go_simp; try with_reducible rfl)
          try simp only [Act.put, List.getElem_toArray, List.getElem_cons_zero, List.getElem_cons_succ, List.setIfInBounds_toArray, List.set_cons_zero, List.set_cons_succ]
          refine wpAnyL_take (i := 17) (v := ?v20018) rfl (by kernel_rfl) (by kernel_rfl) (by kernel_rfl) (by kernel_rfl) (fun _ _ _ h => h) (Or.inl ⟨by kernel_rfl, ?hy20018⟩) (by assumption) ?r20018
          case hy20018 => (intro W hSW; obtain ⟨hV0, ⟨p0, p1, p2, p3, p4⟩, ⟨f0, f1, f2, f3, f4⟩, b0, b1, b2, b3⟩ := hSW; go_simp; try with_reducible rfl)
          try simp only [Act.put, List.getElem_toArray, List.getElem_cons_zero, List.getElem_cons_succ, List.setIfInBounds_toArray, List.set_cons_zero, List.set_cons_succ]
          refine wpAnyL_take (i := 18) (v := ?v20019) rfl (by kernel_rfl) (by kernel_rfl) (by kernel_rfl) (by kernel_rfl) (fun _ _ _ h => h) (Or.inl ⟨by kernel_rfl, ?hy20019⟩) (by assumption) ?r20019
          case hy20019 => (intro W hSW; obtain ⟨hV0, ⟨p0, p1, p2, p3, p4⟩, ⟨f0, f1, f2, f3, f4⟩, b0, b1, b2, b3⟩ := hSW; go_simp; try with_reducible rfl)
          try simp only [Act.put, List.getElem_toArray, List.getElem_cons_zero, List.getElem_cons_succ, List.setIfInBounds_toArray, List.set_cons_zero, List.set_cons_succ]
          refine wpAnyL_take (i := 19) (v := ?v20020) rfl (by kernel_rfl) (by kernel_rfl) (by kernel_rfl) (by kernel_rfl) (fun _ _ _ h => h) (Or.inl ⟨by kernel_rfl, ?hy20020⟩) (by assumption) ?r20020
          case hy20020 => (intro W hSW; obtain ⟨hV0, ⟨p0, p1, p2, p3, p4⟩, ⟨f0, f1, f2, f3, f4⟩, b0, b1, b2, b3⟩ := hSW; go_simp; try with_reducible rfl)
          try simp only [Act.put, List.getElem_toArray, List.getElem_cons_zero, List.getElem_cons_succ, List.setIfInBounds_toArray, List.set_cons_zero, List.set_cons_succ]
          refine wpAnyL_take (i := 20) (v := ?v20021) rfl (by kernel_rfl) (by kernel_rfl) (by kernel_rfl) (by kernel_rfl) (fun _ _ _ h => h) (Or.inl ⟨by kernel_rfl, ?hy20021⟩) (by assumption) ?r20021
          case hy20021 => (intro W hSW; obtain ⟨hV0, ⟨p0, p1, p2, p3, p4⟩, ⟨f0, f1, f2, f3, f4⟩, b0, b1, b2, b3⟩ := hSW; go_simp; try with_reducible rfl)
          try simp only [Act.put, List.getElem_toArray, List.getElem_cons_zero, List.getElem_cons_succ, List.setIfInBounds_toArray, List.set_cons_zero, List.set_cons_succ]
          refine wpAnyL_take (i := 21) (v := ?v20022) rfl (by kernel_rfl) (by kernel_rfl) (by kernel_rfl) (by kernel_rfl) (fun _ _ _ h => h) (Or.inl ⟨by kernel_rfl, ?hy20022⟩) (by assumption) ?r20022
          case hy20022 => (intro W hSW; obtain ⟨hV0, ⟨p0, p1, p2, p3, p4⟩, ⟨f0, f1, f2, f3, f4⟩, b0, b1, b2, b3⟩ := hSW; go_simp; try with_reducible rfl)
          try simp only [Act.put, List.getElem_toArray, List.getElem_cons_zero, List.getElem_cons_succ, List.setIfInBounds_toArray, List.set_cons_zero, List.set_cons_succ]
          refine wpAnyL_take (i := 22) (v := ?v20023) rfl (by kernel_rfl) (by kernel_rfl) (by kernel_rfl) (by kernel_rfl) (fun _ _ _ h => h) (Or.inl ⟨by kernel_rfl, ?hy20023⟩) (by assumption) ?r20023
          case hy20023 => (intro W hSW; obtain ⟨hV0, ⟨p0, p1, p2, p3, p4⟩, ⟨f0, f1, f2, f3, f4⟩, b0, b1, b2, b3⟩ := hSW; go_simp; try with_reducible rfl)
          try simp only [Act.put, List.getElem_toArray, List.getElem_cons_zero, List.getElem_cons_succ, List.setIfInBounds_toArray, List.set_cons_zero, List.set_cons_succ]
          refine wpAnyL_take (i := 23) (v := ?v20024) rfl (by kernel_rfl) (by kernel_rfl) (by kernel_rfl) (by kernel_rfl) (fun _ _ _ h => h) (Or.inl ⟨by kernel_rfl, ?hy20024⟩) (by assumption) ?r20024
          case hy20024 => (intro W hSW; obtain ⟨hV0, ⟨p0, p1, p2, p3, p4⟩, ⟨f0, f1, f2, f3, f4⟩, b0, b1, b2, b3⟩ := hSW; go_simp; try with_reducible rfl)
          try simp only [Act.put, List.getElem_toArray, List.getElem_cons_zero, List.getElem_cons_succ, List.setIfInBounds_toArray, List.set_cons_zero, List.set_cons_succ]
          refine wpAnyL_take (i := 24) (v := ?v20025) rfl (by kernel_rfl) (by kernel_rfl) (by kernel_rfl) (by kernel_rfl) (fun _ _ _ h => h) (Or.inl ⟨by kernel_rfl, ?hy20025⟩) (by assumption) ?r20025
          case hy20025 => (intro W hSW; obtain ⟨hV0, ⟨p0, p1, p2, p3, p4⟩, ⟨f0, f1, f2, f3, f4⟩, b0, b1, b2, b3⟩ := hSW; go_simp; try with_reducible rfl)
          try simp only [Act.put, List.getElem_toArray, List.getElem_cons_zero, List.getElem_cons_succ, List.setIfInBounds_toArray, List.set_cons_zero, List.set_cons_succ]
          refine wpAnyL_take (i := 25) (v := ?v20026) rfl (by kernel_rfl) (by kernel_rfl) (by kernel_rfl) (by kernel_rfl) (fun _ _ _ h => h) (Or.inl ⟨by kernel_rfl, ?hy20026⟩) (by assumption) ?r20026
          case hy20026 => (intro W hSW; obtain ⟨hV0, ⟨p0, p1, p2, p3, p4⟩, ⟨f0, f1, f2, f3, f4⟩, b0, b1, b2, b3⟩ := hSW; go_simp; try with_reducible rfl)
          try simp only [Act.put, List.getElem_toArray, List.getElem_cons_zero, List.getElem_cons_succ, List.setIfInBounds_toArray, List.set_cons_zero, List.set_cons_succ]
          refine wpAnyL_take (i := 26) (v := ?v20027) rfl (by kernel_rfl) (by kernel_rfl) (by kernel_rfl) (by kernel_rfl) (fun _ _ _ h => h) (Or.inl ⟨by kernel_rfl, ?hy20027⟩) (by assumption) ?r20027
          case hy20027 => (intro W hSW; obtain ⟨hV0, ⟨p0, p1, p2, p3, p4⟩, ⟨f0, f1, f2, f3, f4⟩, b0, b1, b2, b3⟩ := hSW; go_simp; try with_reducible rfl)
          try simp only [Act.put, List.getElem_toArray, List.getElem_cons_zero, List.getElem_cons_succ, List.setIfInBounds_toArray, List.set_cons_zero, List.set_cons_succ]
          refine wpAnyL_take (i := 27) (v := ?v20028) rfl (by kernel_rfl) (by kernel_rfl) (by kernel_rfl) (by kernel_rfl) (fun _ _ _ h => h) (Or.inl ⟨by kernel_rfl, ?hy20028⟩) (by assumption) ?r20028
          case hy20028 => (intro W hSW; obtain ⟨hV0, ⟨p0, p1, p2, p3, p4⟩, ⟨f0, f1, f2, f3, f4⟩, b0, b1, b2, b3⟩ := hSW; go_simp; try with_reducible rfl)
          try simp only [Act.put, List.getElem_toArray, List.getElem_cons_zero, List.getElem_cons_succ, List.setIfInBounds_toArray, List.set_cons_zero, List.set_cons_succ]
          refine wpAnyL_take (i := 28) (v := ?v20029) rfl (by kernel_rfl) (by kernel_rfl) (by kernel_rfl) (by kernel_rfl) (fun _ _ _ h => h) (Or.inl ⟨by kernel_rfl, ?hy20029⟩) (by assumption) ?r20029
          case hy20029 => (intro W hSW; obtain ⟨hV0, ⟨p0, p1, p2, p3, p4⟩, ⟨f0, f1, f2, f3, f4⟩, b0, b1, b2, b3⟩ := hSW; go_simp; try with_reducible rfl)
          try simp only [Act.put, List.getElem_toArray, List.getElem_cons_zero, List.getElem_cons_succ, List.setIfInBounds_toArray, List.set_cons_zero, List.set_cons_succ]
          refine wpAnyL_take (i := 29) (v := ?v20030) rfl (by kernel_rfl) (by kernel_rfl) (by kernel_rfl) (by kernel_rfl) (fun _ _ _ h => h) (Or.inl ⟨by kernel_rfl, ?hy20030⟩) (by assumption) ?r20030
          case hy20030 => (intro W hSW; obtain ⟨hV0, ⟨p0, p1, p2, p3, p4⟩, ⟨f0, f1, f2, f3, f4⟩, b0, b1, b2, b3⟩ := hSW; go_simp; try with_reducible rfl)
          try simp only [Act.put, List.getElem_toArray, List.getElem_cons_zero, List.getElem_cons_succ, List.setIfInBounds_toArray, List.set_cons_zero, List.set_cons_succ]
          refine wpAnyL_take (i := 30) (v := ?v20031) rfl (by kernel_rfl) (by kernel_rfl) (by kernel_rfl) (by kernel_rfl) (fun _ _ _ h => h) (Or.inl ⟨by kernel_rfl, ?hy20031⟩) (by assumption) ?r20031
          case hy20031 => (intro W hSW; obtain ⟨hV0, ⟨p0, p1, p2, p3, p4⟩, ⟨f0, f1, f2, f3, f4⟩, b0, b1, b2, b3⟩ := hSW; go_simp; try with_reducible rfl)
          try simp only [Act.put, List.getElem_toArray, List.getElem_cons_zero, List.getElem_cons_succ, List.setIfInBounds_toArray, List.set_cons_zero, List.set_cons_succ]
          refine wpAnyL_take (i := 31) (v := ?v20032) rfl (by kernel_rfl) (by kernel_rfl) (by kernel_rfl) (by kernel_rfl) (fun _ _ _ h => h) (Or.inl ⟨by kernel_rfl, ?hy20032⟩) (by assumption) ?r20032
          case hy20032 => (intro W hSW; obtain ⟨hV0, ⟨p0, p1, p2, p3, p4⟩, ⟨f0, f1, f2, f3, f4⟩, b0, b1, b2, b3⟩ := hSW; go_simp; try with_reducible rfl)
          try simp only [Act.put, List.getElem_toArray, List.getElem_cons_zero, List.getElem_cons_succ, List.setIfInBounds_toArray, List.set_cons_zero, List.set_cons_succ]
          refine wpAnyL_take (i := 32) (v := ?v20033) rfl (by kernel_rfl) (by kernel_rfl) (by kernel_rfl) (by kernel_rfl) (fun _ _ _ h => h) (Or.inl ⟨by kernel_rfl, ?hy20033⟩) (by assumption) ?r20033
          case hy20033 => (intro W hSW; obtain ⟨hV0, ⟨p0, p1, p2, p3, p4⟩, ⟨f0, f1, f2, f3, f4⟩, b0, b1, b2, b3⟩ := hSW; go_simp; try with_reducible rfl)
          try simp only [Act.put, List.getElem_toArray, List.getElem_cons_zero, List.getElem_cons_succ, List.setIfInBounds_toArray, List.set_cons_zero, List.set_cons_succ]
          refine wpAnyL_take (i := 33) (v := ?v20034) rfl (by kernel_rfl) (by kernel_rfl) (by kernel_rfl) (by kernel_rfl) (fun _ _ _ h => h) (Or.inl ⟨by kernel_rfl, ?hy20034⟩) (by assumption) ?r20034
          case hy20034 => (intro W hSW; obtain ⟨hV0, ⟨p0, p1, p2, p3, p4⟩, ⟨f0, f1, f2, f3, f4⟩, b0, b1, b2, b3⟩ := hSW; go_simp; try with_reducible rfl)
          try simp only [Act.put, List.getElem_toArray, List.getElem_cons_zero, List.getElem_cons_succ, List.setIfInBounds_toArray, List.set_cons_zero, List.set_cons_succ]
          refine wpAnyL_take (i := 34) (v := ?v20035) rfl (by kernel_rfl) (by kernel_rfl) (by kernel_rfl) (by kernel_rfl) (fun _ _ _ h => h) (Or.inl ⟨by kernel_rfl, ?hy20035⟩) (by assumption) ?r20035
          case hy20035 => (intro W hSW; obtain ⟨hV0, ⟨p0, p1, p2, p3, p4⟩, ⟨f0, f1, f2, f3, f4⟩, b0, b1, b2, b3⟩ := hSW; go_simp; try with_reducible rfl)
          try simp only [Act.put, List.getElem_toArray, List.getElem_cons_zero, List.getElem_cons_succ, List.setIfInBounds_toArray, List.set_cons_zero, List.set_cons_succ]
          refine wpAnyL_take (i := 35) (v := ?v20036) rfl (by kernel_rfl) (by kernel_rfl) (by kernel_rfl) (by kernel_rfl) (fun _ _ _ h => h) (Or.inl ⟨by kernel_rfl, ?hy20036⟩) (by assumption) ?r20036
          case hy20036 => (intro W hSW; obtain ⟨hV0, ⟨p0, p1, p2, p3, p4⟩, ⟨f0, f1, f2, f3, f4⟩, b0, b1, b2, b3⟩ := hSW; go_simp; try with_reducible rfl)
          try simp only [Act.put, List.getElem_toArray, List.getElem_cons_zero, List.getElem_cons_succ, List.setIfInBounds_toArray, List.set_cons_zero, List.set_cons_succ]
          refine wpAnyL_take (i := 36) (v := ?v20037) rfl (by kernel_rfl) (by kernel_rfl) (by kernel_rfl) (by kernel_rfl) (fun _ _ _ h => h) (Or.inl ⟨by kernel_rfl, ?hy20037⟩) (by assumption) ?r20037
          case hy20037 => (intro W hSW; obtain ⟨hV0, ⟨p0, p1, p2, p3, p4⟩, ⟨f0, f1, f2, f3, f4⟩, b0, b1, b2, b3⟩ := hSW; go_simp; try with_reducible rfl)
          try simp only [Act.put, List.getElem_toArray, List.getElem_cons_zero, List.getElem_cons_succ, List.setIfInBounds_toArray, List.set_cons_zero, List.set_cons_succ]
          refine wpAnyL_take (i := 37) (v := ?v20038) rfl (by kernel_rfl) (by kernel_rfl) (by kernel_rfl) (by kernel_rfl) (fun _ _ _ h => h) (Or.inl ⟨by kernel_rfl, ?hy20038⟩) (by assumption) ?r20038
          case hy20038 => (intro W hSW; obtain ⟨hV0, ⟨p0, p1, p2, p3, p4⟩, ⟨f0, f1, f2, f3, f4⟩, b0, b1, b2, b3⟩ := hSW; go_simp; try with_reducible rfl)
          try simp only [Act.put, List.getElem_toArray, List.getElem_cons_zero, List.getElem_cons_succ, List.setIfInBounds_toArray, List.set_cons_zero, List.set_cons_succ]
          refine wpAnyL_take (i := 38) (v := ?v20039) rfl (by kernel_rfl) (by kernel_rfl) (by kernel_rfl) (by kernel_rfl) (fun _ _ _ h => h) (Or.inl ⟨by kernel_rfl, ?hy20039⟩) (by assumption) ?r20039
          case hy20039 => (intro W hSW; obtain ⟨hV0, ⟨p0, p1, p2, p3, p4⟩, ⟨f0, f1, f2, f3, f4⟩, b0, b1, b2, b3⟩ := hSW; go_simp; try with_reducible rfl)
          try simp only [Act.put, List.getElem_toArray, List.getElem_cons_zero, List.getElem_cons_succ, List.setIfInBounds_toArray, List.set_cons_zero, List.set_cons_succ]
          refine wpAnyL_last (by kernel_rfl) rfl (fun K hK => ?_)
          go_simp
          refine hK.out _ _ ?_
          clear hK K
          try simp only [Act.put, List.getElem_toArray, List.getElem_cons_zero, List.getElem_cons_succ, List.setIfInBounds_toArray, List.set_cons_zero, List.set_cons_succ]
          refine wpAnyL_done (by kernel_rfl) ?_ _
          refine NoPanic.normal ?_
          have hbx := hH.1
          clear hH HS yw yw2
          go_wp2_with fail
          go_meet
          exact ⟨rfl, hbx⟩
        case rest =>
          obtain ⟨w9, rfl⟩ : ∃ w9, w9 = wc := ⟨wc, rfl⟩
          obtain ⟨e79, hbx⟩ := hcut
          subst e79
          clear yw yw2 HS x1 x2 x3 y1 y2 y3 y4 y5
          go_wp2_with fail
          go_loopw [10] (fun jv wr => ∃ j : Nat, jv = i64 ((j : Int) + 1) ∧ j + 1 ≤ E.length ∧ j ≤ n ∧ Below wo.heap.size wo wr) (fun jv _ => E.length + 1 - (intOf jv).toNat)
          case atStart => exact ⟨0, rfl, by have := HEn.out; omega, Nat.zero_le _, hbi.trans (hbx.mono hwi)⟩
          case round =>
            clear hbi hbx
            obtain ⟨j, rfl, hj, hjn, hbk⟩ := hrel
            obtain ⟨wk, rfl⟩ : ∃ wk, wk = wr := ⟨wr, rfl⟩
            by_cases hjl : j + 1 < E.length
            · have z1 : decide ((j : Int) + 1 < (E.length : Int)) = true := decide_eq_true (by omega)
              have z2 : (0 : Int) ≤ (j : Int) + 1 := by omega
              have z3 : (j : Int) + 1 < (E.length : Int) := by omega
              have z4 : (0 : Int) ≤ (j : Int) := by omega
              have z5 : (j : Int) < (E.length : Int) := by omega
              obtain ⟨p, hp⟩ : ∃ p, E[j]? = some p := ⟨E[j], List.getElem?_eq_getElem (by omega)⟩
              obtain ⟨q, hq⟩ : ∃ q, E[j + 1]? = some q := ⟨E[j + 1], List.getElem?_eq_getElem hjl⟩
              have hst : EvStep p q := by
                have h1 := Hch.out j hjl
                rwa [(List.getElem_eq_iff _).2 hp, (List.getElem_eq_iff _).2 hq] at h1
              obtain ⟨s1, s6, s24, s3⟩ := hst
              obtain ⟨P0, P1, P2, P3, P4⟩ := HEk.out j (by omega) p hp wk hbk
              obtain ⟨Q0, Q1, Q2, Q3, Q4⟩ := HEk.out (j + 1) hjl q hq wk hbk
              have hS : ∀ V, Below wk.heap.size wk V → (fun V : World => Below wk.heap.size wk V ∧ (V.cell? ⟨be, oe + j * 5, none⟩ = some (i64 p.client) ∧ V.cell? ⟨be, oe + j * 5 + 1, none⟩ = some (i64 p.seq) ∧ V.cell? ⟨be, oe + j * 5 + 2, none⟩ = some (i64 p.kind) ∧ V.cell? ⟨be, oe + j * 5 + 3, none⟩ = some (i64 p.hav) ∧ V.cell? ⟨be, oe + j * 5 + 4, none⟩ = some (i64 p.set_)) ∧ (V.cell? ⟨be, oe + (j + 1) * 5, none⟩ = some (i64 q.client) ∧ V.cell? ⟨be, oe + (j + 1) * 5 + 1, none⟩ = some (i64 q.seq) ∧ V.cell? ⟨be, oe + (j + 1) * 5 + 2, none⟩ = some (i64 q.kind) ∧ V.cell? ⟨be, oe + (j + 1) * 5 + 3, none⟩ = some (i64 q.hav) ∧ V.cell? ⟨be, oe + (j + 1) * 5 + 4, none⟩ = some (i64 q.set_))) V := fun V hV => ⟨hV, HEk.out j (by omega) p hp V (hbk.trans (hV.mono hbk.size)), HEk.out (j + 1) hjl q hq V (hbk.trans (hV.mono hbk.size))⟩
              have HS := Lib.hid hS
              have m1 : (q.kind == 1) = false := by rw [beq_eq_false_iff_ne]; exact s1
              have m6 : (q.kind == 6) = false := by rw [beq_eq_false_iff_ne]; exact s6
              have S24 := Lib.hid s24
              have S3 := Lib.hid s3
              obtain ⟨mv, hmv⟩ : ∃ mv : Bool, ((q.kind == 2) || (q.kind == 4)) = mv := ⟨_, rfl⟩
              have Hmv := Lib.hid hmv
              clear hS hp hq s1 s6 s24 s3 hmv
              go_upto_region 16 with fail
              go_cut [11] from 80 to 153 (fun s11 wx => s11 = .bool mv ∧ wx = wk)
              case first =>
                by_cases h2 : q.kind = 2
                · have b2 : (q.kind == 2) = true := by rw [beq_iff_eq]; exact h2
                  have Hm := Lib.hid (show mv = true by rw [← Hmv.out, b2]; rfl)
                  clear h2
                  go_wp2_with fail
                  go_meet
                  exact ⟨by rw [Hm.out], rfl⟩
                · have b2 : (q.kind == 2) = false := by rw [beq_eq_false_iff_ne]; exact h2
                  have Hm := Lib.hid (show mv = (q.kind == 4) by rw [← Hmv.out, b2]; rfl)
                  clear h2
                  by_cases h4 : q.kind = 4
                  · have b4 : (q.kind == 4) = true := by rw [beq_iff_eq]; exact h4
                    have Hm2 := Lib.hid (show mv = true by rw [Hm.out, b4])
                    clear h4
                    go_wp2_with fail
                    go_meet
                    exact ⟨by rw [Hm2.out], rfl⟩
                  · have b4 : (q.kind == 4) = false := by rw [beq_eq_false_iff_ne]; exact h4
                    have Hm2 := Lib.hid (show mv = false by rw [Hm.out, b4])
                    clear h4
                    go_wp2_with fail
                    go_meet
                    exact ⟨by rw [Hm2.out], rfl⟩
              case rest =>
                obtain ⟨e11, hwc⟩ := hcut
                obtain rfl : wk = wc := hwc.symm
                subst e11
                clear P0 P1 P2 P3 P4 Q0 Q1 Q2 Q3 Q4
                have jw : IntKind.i64.wrap (j : Int) = (j : Int) := by rw [IntKind.wrap_i64]; omega
                have jw2 : wrap64 (j : Int) = (j : Int) := by rw [← IntWalk.i64_left]; exact jw
                go_upto_region 17 with fail
                go_cut [153] from 80 to 153 (fun s153 wx => s153 = .bool false ∧ Below wk.heap.size wk wx)
                case first =>
                  by_cases hg : p.set_ < q.set_
                  · have k3 : q.kind = 3 := by
                      rcases Decidable.em (q.kind = 3) with e | e
                      · exact e
                      · exact absurd (S3.out e) (by omega)
                    have n3 : (q.kind != 3) = false := by rw [k3]; rfl
                    have n4 : decide (q.set_ > p.set_) = true := decide_eq_true hg
                    have n5 : decide (p.set_ < q.set_) = true := decide_eq_true hg
                    by_cases hh : q.hav = p.hav
                    · have n1 : (q.hav != p.hav) = false := by rw [hh]; simp
                      clear hh hg k3
                      as_aux_lemma =>
                      refine wp_region_noPanic ?_
                      refine wp_region_l 53 (fun V : World => Below wk.heap.size wk V ∧ (V.cell? ⟨be, oe + j * 5, none⟩ = some (i64 p.client) ∧ V.cell? ⟨be, oe + j * 5 + 1, none⟩ = some (i64 p.seq) ∧ V.cell? ⟨be, oe + j * 5 + 2, none⟩ = some (i64 p.kind) ∧ V.cell? ⟨be, oe + j * 5 + 3, none⟩ = some (i64 p.hav) ∧ V.cell? ⟨be, oe + j * 5 + 4, none⟩ = some (i64 p.set_)) ∧ (V.cell? ⟨be, oe + (j + 1) * 5, none⟩ = some (i64 q.client) ∧ V.cell? ⟨be, oe + (j + 1) * 5 + 1, none⟩ = some (i64 q.seq) ∧ V.cell? ⟨be, oe + (j + 1) * 5 + 2, none⟩ = some (i64 q.kind) ∧ V.cell? ⟨be, oe + (j + 1) * 5 + 3, none⟩ = some (i64 q.hav) ∧ V.cell? ⟨be, oe + (j + 1) * 5 + 4, none⟩ = some (i64 q.set_))) (by kernel_rfl) (HS.out _ (Below.refl _ _).drew) (fun hH => ?_)
                      refine wpAnyL_take (i := 0) (v := ?v20093) rfl (by kernel_rfl) (by kernel_rfl) (by kernel_rfl) (by kernel_rfl) (fun _ _ _ h => h) (Or.inl ⟨by kernel_rfl, ?hy20093⟩) (by assumption) ?r20093
                      case hy20093 => (intro W hSW; obtain ⟨hV0, ⟨p0, p1, p2, p3, p4⟩, ⟨q0, q1, q2, q3, q4⟩⟩ := hSW; go_simp; try with_reducible rfl)
                      try simp only [Act.put, List.getElem_toArray, List.getElem_cons_zero, List.setIfInBounds_toArray, List.set_cons_zero, List.set_cons_succ]
                      refine wpAnyL_take (i := 1) (v := ?v20094) rfl (by kernel_rfl) (by kernel_rfl) (by kernel_rfl) (by kernel_rfl) (fun _ _ _ h => h) (Or.inl ⟨by kernel_rfl, ?hy20094⟩) (by assumption) ?r20094
                      case hy20094 => (intro W hSW; obtain ⟨hV0, ⟨p0, p1, p2, p3, p4⟩, ⟨q0, q1, q2, q3, q4⟩⟩ := hSW; go_simp; try with_reducible rfl)
                      try simp only [Act.put, List.getElem_toArray, List.getElem_cons_zero, List.getElem_cons_succ, List.setIfInBounds_toArray, List.set_cons_zero, List.set_cons_succ]
                      refine wpAnyL_take (i := 2) (v := ?v20095) rfl (by kernel_rfl) (by kernel_rfl) (by kernel_rfl) (by kernel_rfl) (fun _ _ _ h => h) (Or.inl ⟨by kernel_rfl, ?hy20095⟩) (by assumption) ?r20095
                      case hy20095 => (intro W hSW; obtain ⟨hV0, ⟨p0, p1, p2, p3, p4⟩, ⟨q0, q1, q2, q3, q4⟩⟩ := hSW; go_simp; try with_reducible rfl)
                      try simp only [Act.put, List.getElem_toArray, List.getElem_cons_zero, List.getElem_cons_succ, List.setIfInBounds_toArray, List.set_cons_zero, List.set_cons_succ]
                      refine wpAnyL_take (i := 3) (v := ?v20096) rfl (by kernel_rfl) (by kernel_rfl) (by kernel_rfl) (by kernel_rfl) (fun _ _ _ h => h) (Or.inl ⟨by kernel_rfl, ?hy20096⟩) (by assumption) ?r20096
                      case hy20096 => (intro W hSW; obtain ⟨hV0, ⟨p0, p1, p2, p3, p4⟩, ⟨q0, q1, q2, q3, q4⟩⟩ := hSW; go_simp; try with_reducible rfl)
                      try simp only [Act.put, List.getElem_toArray, List.getElem_cons_zero, List.getElem_cons_succ, List.setIfInBounds_toArray, List.set_cons_zero, List.set_cons_succ]
                      refine wpAnyL_take (i := 4) (v := ?v20097) rfl (by kernel_rfl) (by kernel_rfl) (by kernel_rfl) (by kernel_rfl) (fun _ _ _ h => h) (Or.inl ⟨by kernel_rfl, ?hy20097⟩) (by assumption) ?r20097
                      case hy20097 => (intro W hSW; obtain ⟨hV0, ⟨p0, p1, p2, p3, p4⟩, ⟨q0, q1, q2, q3, q4⟩⟩ := hSW; go_simp; try with_reducible rfl)
                      try simp only [Act.put, List.getElem_toArray, List.getElem_cons_zero, List.getElem_cons_succ, List.setIfInBounds_toArray, List.set_cons_zero, List.set_cons_succ]
                      refine wpAnyL_take (i := 5) (v := ?v20098) rfl (by kernel_rfl) (by kernel_rfl) (by kernel_rfl) (by kernel_rfl) (fun _ _ _ h => h) (Or.inl ⟨by kernel_rfl, ?hy20098⟩) (by assumption) ?r20098
                      case hy20098 => (intro W hSW; obtain ⟨hV0, ⟨p0, p1, p2, p3, p4⟩, ⟨q0, q1, q2, q3, q4⟩⟩ := hSW; go_simp; try with_reducible rfl)
                      try simp only [Act.put, List.getElem_toArray, List.getElem_cons_zero, List.getElem_cons_succ, List.setIfInBounds_toArray, List.set_cons_zero, List.set_cons_succ]
                      refine wpAnyL_take (i := 6) (v := ?v20099) rfl (by kernel_rfl) (by kernel_rfl) (by kernel_rfl) (by kernel_rfl) (fun _ _ _ h => h) (Or.inl ⟨by kernel_rfl, ?hy20099⟩) (by assumption) ?r20099
                      case hy20099 => (intro W hSW; obtain ⟨hV0, ⟨p0, p1, p2, p3, p4⟩, ⟨q0, q1, q2, q3, q4⟩⟩ := hSW; go_simp; try with_reducible rfl)
                      try simp only [Act.put, List.getElem_toArray, List.getElem_cons_zero, List.getElem_cons_succ, List.setIfInBounds_toArray, List.set_cons_zero, List.set_cons_succ]
                      refine wpAnyL_take (i := 7) (v := ?v20100) rfl (by kernel_rfl) (by kernel_rfl) (by kernel_rfl) (by kernel_rfl) (fun _ _ _ h => h) (Or.inl ⟨by kernel_rfl, ?hy20100⟩) (by assumption) ?r20100
                      case hy20100 => (intro W hSW; obtain ⟨hV0, ⟨p0, p1, p2, p3, p4⟩, ⟨q0, q1, q2, q3, q4⟩⟩ := hSW; go_simp; try with_reducible rfl)
                      try simp only [Act.put, List.getElem_toArray, List.getElem_cons_zero, List.getElem_cons_succ, List.setIfInBounds_toArray, List.set_cons_zero, List.set_cons_succ]
                      refine wpAnyL_take (i := 8) (v := ?v20101) rfl (by kernel_rfl) (by kernel_rfl) (by kernel_rfl) (by kernel_rfl) (fun _ _ _ h => h) (Or.inl ⟨by kernel_rfl, ?hy20101⟩) (by assumption) ?r20101
                      case hy20101 => (intro W hSW; obtain ⟨hV0, ⟨p0, p1, p2, p3, p4⟩, ⟨q0, q1, q2, q3, q4⟩⟩ := hSW; go_simp; try with_reducible rfl)
                      try simp only [Act.put, List.getElem_toArray, List.getElem_cons_zero, List.getElem_cons_succ, List.setIfInBounds_toArray, List.set_cons_zero, List.set_cons_succ]
                      refine wpAnyL_take (i := 9) (v := ?v20102) rfl (by kernel_rfl) (by kernel_rfl) (by kernel_rfl) (by kernel_rfl) (fun _ _ _ h => h) (Or.inl ⟨by kernel_rfl, ?hy20102⟩) (by assumption) ?r20102
                      case hy20102 => (intro W hSW; obtain ⟨hV0, ⟨p0, p1, p2, p3, p4⟩, ⟨q0, q1, q2, q3, q4⟩⟩ := hSW; go_simp; try with_reducible rfl)
                      try simp only [Act.put, List.getElem_toArray, List.getElem_cons_zero, List.getElem_cons_succ, List.setIfInBounds_toArray, List.set_cons_zero, List.set_cons_succ]
                      refine wpAnyL_take (i := 10) (v := ?v20103) rfl (by kernel_rfl) (by kernel_rfl) (by kernel_rfl) (by kernel_rfl) (fun _ _ _ h => h) (Or.inl ⟨by kernel_rfl, ?hy20103⟩) (by assumption) ?r20103
                      case hy20103 => (intro W hSW; obtain ⟨hV0, ⟨p0, p1, p2, p3, p4⟩, ⟨q0, q1, q2, q3, q4⟩⟩ := hSW; go_simp; try with_reducible rfl)
                      try simp only [Act.put, List.getElem_toArray, List.getElem_cons_zero, List.getElem_cons_succ, List.setIfInBounds_toArray, List.set_cons_zero, List.set_cons_succ]
                      refine wpAnyL_take (i := 11) (v := ?v20104) rfl (by kernel_rfl) (by kernel_rfl) (by kernel_rfl) (by kernel_rfl) (fun _ _ _ h => h) (Or.inl ⟨by kernel_rfl, ?hy20104⟩) (by assumption) ?r20104
                      case hy20104 => (intro W hSW; obtain ⟨hV0, ⟨p0, p1, p2, p3, p4⟩, ⟨q0, q1, q2, q3, q4⟩⟩ := hSW; go_simp; try with_reducible rfl)
                      try simp only [Act.put, List.getElem_toArray, List.getElem_cons_zero, List.getElem_cons_succ, List.setIfInBounds_toArray, List.set_cons_zero, List.set_cons_succ]
                      refine wpAnyL_take (i := 12) (v := ?v20105) rfl (by kernel_rfl) (by kernel_rfl) (by kernel_rfl) (by kernel_rfl) (fun _ _ _ h => h) (Or.inl ⟨by kernel_rfl, ?hy20105⟩) (by assumption) ?r20105
                      case hy20105 => (intro W hSW; obtain ⟨hV0, ⟨p0, p1, p2, p3, p4⟩, ⟨q0, q1, q2, q3, q4⟩⟩ := hSW; go_simp; try with_reducible rfl)
                      try simp only [Act.put, List.getElem_toArray, List.getElem_cons_zero, List.getElem_cons_succ, List.setIfInBounds_toArray, List.set_cons_zero, List.set_cons_succ]
                      refine wpAnyL_take (i := 13) (v := undef) rfl (by kernel_rfl) (by kernel_rfl) (by kernel_rfl) (by kernel_rfl) (fun _ _ _ h => h) (Or.inr ⟨by kernel_rfl, rfl⟩) (by assumption) ?r20106
                      try simp only [Act.put, List.getElem_toArray, List.getElem_cons_zero, List.getElem_cons_succ, List.setIfInBounds_toArray, List.set_cons_zero, List.set_cons_succ]
                      refine wpAnyL_take (i := 14) (v := undef) rfl (by kernel_rfl) (by kernel_rfl) (by kernel_rfl) (by kernel_rfl) (fun _ _ _ h => h) (Or.inr ⟨by kernel_rfl, rfl⟩) (by assumption) ?r20107
                      try simp only [Act.put, List.getElem_toArray, List.getElem_cons_zero, List.getElem_cons_succ, List.setIfInBounds_toArray, List.set_cons_zero, List.set_cons_succ]
                      refine wpAnyL_take (i := 15) (v := ?v20108) rfl (by kernel_rfl) (by kernel_rfl) (by kernel_rfl) (by kernel_rfl) (fun _ _ _ h => h) (Or.inl ⟨by kernel_rfl, ?hy20108⟩) (by assumption) ?r20108
                      case hy20108 => (intro W hSW; obtain ⟨hV0, ⟨p0, p1, p2, p3, p4⟩, ⟨q0, q1, q2, q3, q4⟩⟩ := hSW; go_simp; try with_reducible rfl)
                      try simp only [Act.put, List.getElem_toArray, List.getElem_cons_zero, List.getElem_cons_succ, List.setIfInBounds_toArray, List.set_cons_zero, List.set_cons_succ]
                      refine wpAnyL_take (i := 16) (v := ?v20109) rfl (by kernel_rfl) (by kernel_rfl) (by kernel_rfl) (by kernel_rfl) (fun _ _ _ h => h) (Or.inl ⟨by kernel_rfl, ?hy20109⟩) (by assumption) ?r20109
                      case hy20109 => (intro W hSW; obtain ⟨hV0, ⟨p0, p1, p2, p3, p4⟩, ⟨q0, q1, q2, q3, q4⟩⟩ := hSW; go_simp; try with_reducible rfl)
                      try simp only [Act.put, List.getElem_toArray, List.getElem_cons_zero, List.getElem_cons_succ, List.setIfInBounds_toArray, List.set_cons_zero, List.set_cons_succ]
                      refine wpAnyL_take (i := 17) (v := ?v20110) rfl (by kernel_rfl) (by kernel_rfl) (by kernel_rfl) (by kernel_rfl) (fun _ _ _ h => h) (Or.inl ⟨by kernel_rfl, ?hy20110⟩) (by assumption) ?r20110
                      case hy20110 => (intro W hSW; obtain ⟨hV0, ⟨p0, p1, p2, p3, p4⟩, ⟨q0, q1, q2, q3, q4⟩⟩ := hSW; go_simp; try with_reducible rfl)
                      try simp only [Act.put, List.getElem_toArray, List.getElem_cons_zero, List.getElem_cons_succ, List.setIfInBounds_toArray, List.set_cons_zero, List.set_cons_succ]
                      refine wpAnyL_take (i := 18) (v := ?v20111) rfl (by kernel_rfl) (by kernel_rfl) (by kernel_rfl) (by kernel_rfl) (fun _ _ _ h => h) (Or.inl ⟨by kernel_rfl, ?hy20111⟩) (by assumption) ?r20111
                      case hy20111 => (intro W hSW; obtain ⟨hV0, ⟨p0, p1, p2, p3, p4⟩, ⟨q0, q1, q2, q3, q4⟩⟩ := hSW; go_simp; try with_reducible rfl)
                      try simp only [Act.put, List.getElem_toArray, List.getElem_cons_zero, List.getElem_cons_succ, List.setIfInBounds_toArray, List.set_cons_zero, List.set_cons_succ]
                      refine wpAnyL_take (i := 19) (v := ?v20112) rfl (by kernel_rfl) (by kernel_rfl) (by kernel_rfl) (by kernel_rfl) (fun _ _ _ h => h) (Or.inl ⟨by kernel_rfl, ?hy20112⟩) (by assumption) ?r20112
                      case hy20112 => (intro W hSW; obtain ⟨hV0, ⟨p0, p1, p2, p3, p4⟩, ⟨q0, q1, q2, q3, q4⟩⟩ := hSW; go_simp; try with_reducible rfl)
                      try simp only [Act.put, List.getElem_toArray, List.getElem_cons_zero, List.getElem_cons_succ, List.setIfInBounds_toArray, List.set_cons_zero, List.set_cons_succ]
                      refine wpAnyL_take (i := 20) (v := ?v20113) rfl (by kernel_rfl) (by kernel_rfl) (by kernel_rfl) (by kernel_rfl) (fun _ _ _ h => h) (Or.inl ⟨by kernel_rfl, ?hy20113⟩) (by assumption) ?r20113
                      case hy20113 => (intro W hSW; obtain ⟨hV0, ⟨p0, p1, p2, p3, p4⟩, ⟨q0, q1, q2, q3, q4⟩⟩ := hSW; go_simp; try with_reducible rfl)
                      try simp only [Act.put, List.getElem_toArray, List.getElem_cons_zero, List.getElem_cons_succ, List.setIfInBounds_toArray, List.set_cons_zero, List.set_cons_succ]
                      refine wpAnyL_take (i := 21) (v := ?v20114) rfl (by kernel_rfl) (by kernel_rfl) (by kernel_rfl) (by kernel_rfl) (fun _ _ _ h => h) (Or.inl ⟨by kernel_rfl, ?hy20114⟩) (by assumption) ?r20114
                      case hy20114 => (intro W hSW; obtain ⟨hV0, ⟨p0, p1, p2, p3, p4⟩, ⟨q0, q1, q2, q3, q4⟩⟩ := hSW; go_simp; try with_reducible rfl)
                      try simp only [Act.put, List.getElem_toArray, List.getElem_cons_zero, List.getElem_cons_succ, List.setIfInBounds_toArray, List.set_cons_zero, List.set_cons_succ]
                      refine wpAnyL_take (i := 22) (v := ?v20115) rfl (by kernel_rfl) (by kernel_rfl) (by kernel_rfl) (by kernel_rfl) (fun _ _ _ h => h) (Or.inl ⟨by kernel_rfl, ?hy20115⟩) (by assumption) ?r20115
                      case hy20115 => (intro W hSW; obtain ⟨hV0, ⟨p0, p1, p2, p3, p4⟩, ⟨q0, q1, q2, q3, q4⟩⟩ := hSW; go_simp; try with_reducible rfl)
                      try simp only [Act.put, List.getElem_toArray, List.getElem_cons_zero, List.getElem_cons_succ, List.setIfInBounds_toArray, List.set_cons_zero, List.set_cons_succ]
                      refine wpAnyL_take (i := 23) (v := ?v20116) rfl (by kernel_rfl) (by kernel_rfl) (by kernel_rfl) (by kernel_rfl) (fun _ _ _ h => h) (Or.inl ⟨by kernel_rfl, ?hy20116⟩) (by assumption) ?r20116
                      case hy20116 => (intro W hSW; obtain ⟨hV0, ⟨p0, p1, p2, p3, p4⟩, ⟨q0, q1, q2, q3, q4⟩⟩ := hSW; go_simp; try with_reducible rfl)
                      try simp only [Act.put, List.getElem_toArray, List.getElem_cons_zero, List.getElem_cons_succ, List.setIfInBounds_toArray, List.set_cons_zero, List.set_cons_succ]
                      refine wpAnyL_take (i := 24) (v := ?v20117) rfl (by kernel_rfl) (by kernel_rfl) (by kernel_rfl) (by kernel_rfl) (fun _ _ _ h => h) (Or.inl ⟨by kernel_rfl, ?hy20117⟩) (by assumption) ?r20117
                      case hy20117 => (intro W hSW; obtain ⟨hV0, ⟨p0, p1, p2, p3, p4⟩, ⟨q0, q1, q2, q3, q4⟩⟩ := hSW; go_simp; try with_reducible rfl)
                      try simp only [Act.put, List.getElem_toArray, List.getElem_cons_zero, List.getElem_cons_succ, List.setIfInBounds_toArray, List.set_cons_zero, List.set_cons_succ]
                      refine wpAnyL_take (i := 25) (v := ?v20118) rfl (by kernel_rfl) (by kernel_rfl) (by kernel_rfl) (by kernel_rfl) (fun _ _ _ h => h) (Or.inl ⟨by kernel_rfl, ?hy20118⟩) (by assumption) ?r20118
                      case hy20118 => (intro W hSW; obtain ⟨hV0, ⟨p0, p1, p2, p3, p4⟩, ⟨q0, q1, q2, q3, q4⟩⟩ := hSW; go_simp; try with_reducible rfl)
                      try simp only [Act.put, List.getElem_toArray, List.getElem_cons_zero, List.getElem_cons_succ, List.setIfInBounds_toArray, List.set_cons_zero, List.set_cons_succ]
                      refine wpAnyL_take (i := 26) (v := ?v20119) rfl (by kernel_rfl) (by kernel_rfl) (by kernel_rfl) (by kernel_rfl) (fun _ _ _ h => h) (Or.inl ⟨by kernel_rfl, ?hy20119⟩) (by assumption) ?r20119
                      case hy20119 => (intro W hSW; obtain ⟨hV0, ⟨p0, p1, p2, p3, p4⟩, ⟨q0, q1, q2, q3, q4⟩⟩ := hSW; go_simp; try with_reducible rfl)
                      try simp only [Act.put, List.getElem_toArray, List.getElem_cons_zero, List.getElem_cons_succ, List.setIfInBounds_toArray, List.set_cons_zero, List.set_cons_succ]
                      refine wpAnyL_take (i := 27) (v := ?v20120) rfl (by kernel_rfl) (by kernel_rfl) (by kernel_rfl) (by kernel_rfl) (fun _ _ _ h => h) (Or.inl ⟨by kernel_rfl, ?hy20120⟩) (by assumption) ?r20120
                      case hy20120 => (intro W hSW; obtain ⟨hV0, ⟨p0, p1, p2, p3, p4⟩, ⟨q0, q1, q2, q3, q4⟩⟩ := hSW; go_simp; try with_reducible rfl)
                      try simp only [Act.put, List.getElem_toArray, List.getElem_cons_zero, List.getElem_cons_succ, List.setIfInBounds_toArray, List.set_cons_zero, List.set_cons_succ]
                      refine wpAnyL_take (i := 28) (v := ?v20121) rfl (by kernel_rfl) (by kernel_rfl) (by kernel_rfl) (by kernel_rfl) (fun _ _ _ h => h) (Or.inl ⟨by kernel_rfl, ?hy20121⟩) (by assumption) ?r20121
                      case hy20121 => (intro W hSW; obtain ⟨hV0, ⟨p0, p1, p2, p3, p4⟩, ⟨q0, q1, q2, q3, q4⟩⟩ := hSW; go_simp; try with_reducible rfl)
                      try simp only [Act.put, List.getElem_toArray, List.getElem_cons_zero, List.getElem_cons_succ, List.setIfInBounds_toArray, List.set_cons_zero, List.set_cons_succ]
                      refine wpAnyL_take (i := 29) (v := ?v20122) rfl (by kernel_rfl) (by kernel_rfl) (by kernel_rfl) (by kernel_rfl) (fun _ _ _ h => h) (Or.inl ⟨by kernel_rfl, ?hy20122⟩) (by assumption) ?r20122
                      case hy20122 => (intro W hSW; obtain ⟨hV0, ⟨p0, p1, p2, p3, p4⟩, ⟨q0, q1, q2, q3, q4⟩⟩ := hSW; go_simp; try with_reducible rfl)
                      try simp only [Act.put, List.getElem_toArray, List.getElem_cons_zero, List.getElem_cons_succ, List.setIfInBounds_toArray, List.set_cons_zero, List.set_cons_succ]
                      refine wpAnyL_take (i := 30) (v := ?v20123) rfl (by kernel_rfl) (by kernel_rfl) (by kernel_rfl) (by kernel_rfl) (fun _ _ _ h => h) (Or.inl ⟨by kernel_rfl, ?hy20123⟩) (by assumption) ?r20123
                      case hy20123 => (intro W hSW; obtain ⟨hV0, ⟨p0, p1, p2, p3, p4⟩, ⟨q0, q1, q2, q3, q4⟩⟩ := hSW; go_simp; try with_reducible rfl)
                      try simp only [Act.put, List.getElem_toArray, List.getElem_cons_zero, List.getElem_cons_succ, List.setIfInBounds_toArray, List.set_cons_zero, List.set_cons_succ]
                      refine wpAnyL_take (i := 31) (v := ?v20124) rfl (by kernel_rfl) (by kernel_rfl) (by kernel_rfl) (by kernel_rfl) (fun _ _ _ h => h) (Or.inl ⟨by kernel_rfl, ?hy20124⟩) (by assumption) ?r20124
                      case hy20124 => (intro W hSW; obtain ⟨hV0, ⟨p0, p1, p2, p3, p4⟩, ⟨q0, q1, q2, q3, q4⟩⟩ := hSW; go_simp; try with_reducible rfl)
                      try simp only [Act.put, List.getElem_toArray, List.getElem_cons_zero, List.getElem_cons_succ, List.setIfInBounds_toArray, List.set_cons_zero, List.set_cons_succ]
                      refine wpAnyL_take (i := 32) (v := ?v20125) rfl (by kernel_rfl) (by kernel_rfl) (by kernel_rfl) (by kernel_rfl) (fun _ _ _ h => h) (Or.inl ⟨by kernel_rfl, ?hy20125⟩) (by assumption) ?r20125
                      case hy20125 => (intro W hSW; obtain ⟨hV0, ⟨p0, p1, p2, p3, p4⟩, ⟨q0, q1, q2, q3, q4⟩⟩ := hSW; go_simp; try with_reducible rfl)
                      try simp only [Act.put, List.getElem_toArray, List.getElem_cons_zero, List.getElem_cons_succ, List.setIfInBounds_toArray, List.set_cons_zero, List.set_cons_succ]
                      refine wpAnyL_take (i := 33) (v := ?v20126) rfl (by kernel_rfl) (by kernel_rfl) (by kernel_rfl) (by kernel_rfl) (fun _ _ _ h => h) (Or.inl ⟨by kernel_rfl, ?hy20126⟩) (by assumption) ?r20126
                      case hy20126 => (intro W hSW; obtain ⟨hV0, ⟨p0, p1, p2, p3, p4⟩, ⟨q0, q1, q2, q3, q4⟩⟩ := hSW; go_simp; try with_reducible rfl)
                      try simp only [Act.put, List.getElem_toArray, List.getElem_cons_zero, List.getElem_cons_succ, List.setIfInBounds_toArray, List.set_cons_zero, List.set_cons_succ]
                      refine wpAnyL_take (i := 34) (v := ?v20127) rfl (by kernel_rfl) (by kernel_rfl) (by kernel_rfl) (by kernel_rfl) (fun _ _ _ h => h) (Or.inl ⟨by kernel_rfl, ?hy20127⟩) (by assumption) ?r20127
                      case hy20127 => (intro W hSW; obtain ⟨hV0, ⟨p0, p1, p2, p3, p4⟩, ⟨q0, q1, q2, q3, q4⟩⟩ := hSW; go_simp; try with_reducible rfl)
                      try simp only [Act.put, List.getElem_toArray, List.getElem_cons_zero, List.getElem_cons_succ, List.setIfInBounds_toArray, List.set_cons_zero, List.set_cons_succ]
                      refine wpAnyL_take (i := 35) (v := ?v20128) rfl (by kernel_rfl) (by kernel_rfl) (by kernel_rfl) (by kernel_rfl) (fun _ _ _ h => h) (Or.inl ⟨by kernel_rfl, ?hy20128⟩) (by assumption) ?r20128
                      case hy20128 => (intro W hSW; obtain ⟨hV0, ⟨p0, p1, p2, p3, p4⟩, ⟨q0, q1, q2, q3, q4⟩⟩ := hSW; go_simp; try with_reducible rfl)
                      try simp only [Act.put, List.getElem_toArray, List.getElem_cons_zero, List.getElem_cons_succ, List.setIfInBounds_toArray, List.set_cons_zero, List.set_cons_succ]
                      refine wpAnyL_take (i := 36) (v := ?v20129) rfl (by kernel_rfl) (by kernel_rfl) (by kernel_rfl) (by kernel_rfl) (fun _ _ _ h => h) (Or.inl ⟨by kernel_rfl, ?hy20129⟩) (by assumption) ?r20129
                      case hy20129 => (intro W hSW; obtain ⟨hV0, ⟨p0, p1, p2, p3, p4⟩, ⟨q0, q1, q2, q3, q4⟩⟩ := hSW; go_simp; try with_reducible rfl)
                      try simp only [Act.put, List.getElem_toArray, List.getElem_cons_zero, List.getElem_cons_succ, List.setIfInBounds_toArray, List.set_cons_zero, List.set_cons_succ]
                      refine wpAnyL_take (i := 37) (v := ?v20130) rfl (by kernel_rfl) (by kernel_rfl) (by kernel_rfl) (by kernel_rfl) (fun _ _ _ h => h) (Or.inl ⟨by kernel_rfl, ?hy20130⟩) (by assumption) ?r20130
                      case hy20130 => (intro W hSW; obtain ⟨hV0, ⟨p0, p1, p2, p3, p4⟩, ⟨q0, q1, q2, q3, q4⟩⟩ := hSW; go_simp; try with_reducible rfl)
                      try simp only [Act.put, List.getElem_toArray, List.getElem_cons_zero, List.getElem_cons_succ, List.setIfInBounds_toArray, List.set_cons_zero, List.set_cons_succ]
                      refine wpAnyL_take (i := 38) (v := ?v20131) rfl (by kernel_rfl) (by kernel_rfl) (by kernel_rfl) (by kernel_rfl) (fun _ _ _ h => h) (Or.inl ⟨by kernel_rfl, ?hy20131⟩) (by assumption) ?r20131
                      case hy20131 => (intro W hSW; obtain ⟨hV0, ⟨p0, p1, p2, p3, p4⟩, ⟨q0, q1, q2, q3, q4⟩⟩ := hSW; go_simp; try with_reducible rfl)
                      try simp only [Act.put, List.getElem_toArray, List.getElem_cons_zero, List.getElem_cons_succ, List.setIfInBounds_toArray, List.set_cons_zero, List.set_cons_succ]
                      refine wpAnyL_take (i := 39) (v := ?v20132) rfl (by kernel_rfl) (by kernel_rfl) (by kernel_rfl) (by kernel_rfl) (fun _ _ _ h => h) (Or.inl ⟨by kernel_rfl, ?hy20132⟩) (by assumption) ?r20132
                      case hy20132 => (intro W hSW; obtain ⟨hV0, ⟨p0, p1, p2, p3, p4⟩, ⟨q0, q1, q2, q3, q4⟩⟩ := hSW; go_simp; try with_reducible rfl)
                      try simp only [Act.put, List.getElem_toArray, List.getElem_cons_zero, List.getElem_cons_succ, List.setIfInBounds_toArray, List.set_cons_zero, List.set_cons_succ]
                      refine wpAnyL_take (i := 40) (v := ?v20133) rfl (by kernel_rfl) (by kernel_rfl) (by kernel_rfl) (by kernel_rfl) (fun _ _ _ h => h) (Or.inl ⟨by kernel_rfl, ?hy20133⟩) (by assumption) ?r20133
                      case hy20133 => (intro W hSW; obtain ⟨hV0, ⟨p0, p1, p2, p3, p4⟩, ⟨q0, q1, q2, q3, q4⟩⟩ := hSW; go_simp; try with_reducible rfl)
                      try simp only [Act.put, List.getElem_toArray, List.getElem_cons_zero, List.getElem_cons_succ, List.setIfInBounds_toArray, List.set_cons_zero, List.set_cons_succ]
                      refine wpAnyL_take (i := 41) (v := ?v20134) rfl (by kernel_rfl) (by kernel_rfl) (by kernel_rfl) (by kernel_rfl) (fun _ _ _ h => h) (Or.inl ⟨by kernel_rfl, ?hy20134⟩) (by assumption) ?r20134
                      case hy20134 => (intro W hSW; obtain ⟨hV0, ⟨p0, p1, p2, p3, p4⟩, ⟨q0, q1, q2, q3, q4⟩⟩ := hSW; go_simp; try with_reducible rfl)
                      try simp only [Act.put, List.getElem_toArray, List.getElem_cons_zero, List.getElem_cons_succ, List.setIfInBounds_toArray, List.set_cons_zero, List.set_cons_succ]
                      refine wpAnyL_take (i := 42) (v := ?v20135) rfl (by kernel_rfl) (by kernel_rfl) (by kernel_rfl) (by kernel_rfl) (fun _ _ _ h => h) (Or.inl ⟨by kernel_rfl, ?hy20135⟩) (by assumption) ?r20135
                      case hy20135 => (intro W hSW; obtain ⟨hV0, ⟨p0, p1, p2, p3, p4⟩, ⟨q0, q1, q2, q3, q4⟩⟩ := hSW; go_simp; try with_reducible rfl)
                      try simp only [Act.put, List.getElem_toArray, List.getElem_cons_zero, List.getElem_cons_succ, List.setIfInBounds_toArray, List.set_cons_zero, List.set_cons_succ]
                      refine wpAnyL_take (i := 43) (v := ?v20136) rfl (by kernel_rfl) (by kernel_rfl) (by kernel_rfl) (by kernel_rfl) (fun _ _ _ h => h) (Or.inl ⟨by kernel_rfl, ?hy20136⟩) (by assumption) ?r20136
                      case hy20136 => (intro W hSW; obtain ⟨hV0, ⟨p0, p1, p2, p3, p4⟩, ⟨q0, q1, q2, q3, q4⟩⟩ := hSW; go_simp; try with_reducible rfl)
                      try simp only [Act.put, List.getElem_toArray, List.getElem_cons_zero, List.getElem_cons_succ, List.setIfInBounds_toArray, List.set_cons_zero, List.set_cons_succ]
                      refine wpAnyL_take (i := 44) (v := ?v20137) rfl (by kernel_rfl) (by kernel_rfl) (by kernel_rfl) (by kernel_rfl) (fun _ _ _ h => h) (Or.inl ⟨by kernel_rfl, ?hy20137⟩) (by assumption) ?r20137
                      case hy20137 => (intro W hSW; obtain ⟨hV0, ⟨p0, p1, p2, p3, p4⟩, ⟨q0, q1, q2, q3, q4⟩⟩ := hSW; go_simp; try with_reducible rfl)
                      try simp only [Act.put, List.getElem_toArray, List.getElem_cons_zero, List.getElem_cons_succ, List.setIfInBounds_toArray, List.set_cons_zero, List.set_cons_succ]
                      refine wpAnyL_take (i := 45) (v := ?v20138) rfl (by kernel_rfl) (by kernel_rfl) (by kernel_rfl) (by kernel_rfl) (fun _ _ _ h => h) (Or.inl ⟨by kernel_rfl, ?hy20138⟩) (by assumption) ?r20138
                      case hy20138 => (intro W hSW; obtain ⟨hV0, ⟨p0, p1, p2, p3, p4⟩, ⟨q0, q1, q2, q3, q4⟩⟩ := hSW; go_simp; try with_reducible rfl)
                      try simp only [Act.put, List.getElem_toArray, List.getElem_cons_zero, List.getElem_cons_succ, List.setIfInBounds_toArray, List.set_cons_zero, List.set_cons_succ]
                      refine wpAnyL_take (i := 46) (v := ?v20139) rfl (by kernel_rfl) (by kernel_rfl) (by kernel_rfl) (by kernel_rfl) (fun _ _ _ h => h) (Or.inl ⟨by kernel_rfl, ?hy20139⟩) (by assumption) ?r20139
                      case hy20139 => (intro W hSW; obtain ⟨hV0, ⟨p0, p1, p2, p3, p4⟩, ⟨q0, q1, q2, q3, q4⟩⟩ := hSW; go_simp; try with_reducible rfl)
                      try simp only [Act.put, List.getElem_toArray, List.getElem_cons_zero, List.getElem_cons_succ, List.setIfInBounds_toArray, List.set_cons_zero, List.set_cons_succ]
                      refine wpAnyL_take (i := 47) (v := ?v20140) rfl (by kernel_rfl) (by kernel_rfl) (by kernel_rfl) (by kernel_rfl) (fun _ _ _ h => h) (Or.inl ⟨by kernel_rfl, ?hy20140⟩) (by assumption) ?r20140
                      case hy20140 => (intro W hSW; obtain ⟨hV0, ⟨p0, p1, p2, p3, p4⟩, ⟨q0, q1, q2, q3, q4⟩⟩ := hSW; go_simp; try with_reducible rfl)
                      try simp only [Act.put, List.getElem_toArray, List.getElem_cons_zero, List.getElem_cons_succ, List.setIfInBounds_toArray, List.set_cons_zero, List.set_cons_succ]
                      refine wpAnyL_take (i := 48) (v := ?v20141) rfl (by kernel_rfl) (by kernel_rfl) (by kernel_rfl) (by kernel_rfl) (fun _ _ _ h => h) (Or.inl ⟨by kernel_rfl, ?hy20141⟩) (by assumption) ?r20141
                      case hy20141 => (intro W hSW; obtain ⟨hV0, ⟨p0, p1, p2, p3, p4⟩, ⟨q0, q1, q2, q3, q4⟩⟩ := hSW; go_simp; try with_reducible rfl)
                      try simp only [Act.put, List.getElem_toArray, List.getElem_cons_zero, List.getElem_cons_succ, List.setIfInBounds_toArray, List.set_cons_zero, List.set_cons_succ]
                      refine wpAnyL_take (i := 49) (v := ?v20142) rfl (by kernel_rfl) (by kernel_rfl) (by kernel_rfl) (by kernel_rfl) (fun _ _ _ h => h) (Or.inl ⟨by kernel_rfl, ?hy20142⟩) (by assumption) ?r20142
                      case hy20142 => (intro W hSW; obtain ⟨hV0, ⟨p0, p1, p2, p3, p4⟩, ⟨q0, q1, q2, q3, q4⟩⟩ := hSW; go_simp; try with_reducible rfl)
                      try simp only [Act.put, List.getElem_toArray, List.getElem_cons_zero, List.getElem_cons_succ, List.setIfInBounds_toArray, List.set_cons_zero, List.set_cons_succ]
                      refine wpAnyL_take (i := 50) (v := ?v20143) rfl (by kernel_rfl) (by kernel_rfl) (by kernel_rfl) (by kernel_rfl) (fun _ _ _ h => h) (Or.inl ⟨by kernel_rfl, ?hy20143⟩) (by assumption) ?r20143
                      case hy20143 => (intro W hSW; obtain ⟨hV0, ⟨p0, p1, p2, p3, p4⟩, ⟨q0, q1, q2, q3, q4⟩⟩ := hSW; go_simp; try with_reducible rfl)
                      try simp only [Act.put, List.getElem_toArray, List.getElem_cons_zero, List.getElem_cons_succ, List.setIfInBounds_toArray, List.set_cons_zero, List.set_cons_succ]
                      refine wpAnyL_take (i := 51) (v := ?v20144) rfl (by kernel_rfl) (by kernel_rfl) (by kernel_rfl) (by kernel_rfl) (fun _ _ _ h => h) (Or.inl ⟨by kernel_rfl, ?hy20144⟩) (by assumption) ?r20144
                      case hy20144 => (intro W hSW; obtain ⟨hV0, ⟨p0, p1, p2, p3, p4⟩, ⟨q0, q1, q2, q3, q4⟩⟩ := hSW; go_simp; try with_reducible rfl)
                      try simp only [Act.put, List.getElem_toArray, List.getElem_cons_zero, List.getElem_cons_succ, List.setIfInBounds_toArray, List.set_cons_zero, List.set_cons_succ]
                      refine wpAnyL_take (i := 52) (v := ?v20145) rfl (by kernel_rfl) (by kernel_rfl) (by kernel_rfl) (by kernel_rfl) (fun _ _ _ h => h) (Or.inl ⟨by kernel_rfl, ?hy20145⟩) (by assumption) ?r20145
                      case hy20145 => (intro W hSW; obtain ⟨hV0, ⟨p0, p1, p2, p3, p4⟩, ⟨q0, q1, q2, q3, q4⟩⟩ := hSW; go_simp; try with_reducible rfl)
                      try simp only [Act.put, List.getElem_toArray, List.getElem_cons_zero, List.getElem_cons_succ, List.setIfInBounds_toArray, List.set_cons_zero, List.set_cons_succ]
                      refine wpAnyL_last (by kernel_rfl) rfl (fun K hK => ?_)
                      go_simp
                      refine hK.out _ _ ?_
                      clear hK K
                      try simp only [Act.put, List.getElem_toArray, List.getElem_cons_zero, List.getElem_cons_succ, List.setIfInBounds_toArray, List.set_cons_zero, List.set_cons_succ]
                      refine wpAnyL_done (by kernel_rfl) ?_ _
                      refine NoPanic.normal ?_
                      have hbj := hH.1
                      clear hH HS jw jw2
                      go_wp2_with fail
                      go_meet
                      exact ⟨rfl, hbj⟩
                    · exact absurd (S24.out (by omega) (by omega)) hh
                  · have n4 : decide (q.set_ > p.set_) = false := decide_eq_false hg
                    have n5 : decide (p.set_ < q.set_) = false := decide_eq_false hg
                    by_cases hh : q.hav = p.hav
                    · have n1 : (q.hav != p.hav) = false := by rw [hh]; simp
                      clear hh hg
                      as_aux_lemma =>
                      refine wp_region_noPanic ?_
                      refine wp_region_l 53 (fun V : World => Below wk.heap.size wk V ∧ (V.cell? ⟨be, oe + j * 5, none⟩ = some (i64 p.client) ∧ V.cell? ⟨be, oe + j * 5 + 1, none⟩ = some (i64 p.seq) ∧ V.cell? ⟨be, oe + j * 5 + 2, none⟩ = some (i64 p.kind) ∧ V.cell? ⟨be, oe + j * 5 + 3, none⟩ = some (i64 p.hav) ∧ V.cell? ⟨be, oe + j * 5 + 4, none⟩ = some (i64 p.set_)) ∧ (V.cell? ⟨be, oe + (j + 1) * 5, none⟩ = some (i64 q.client) ∧ V.cell? ⟨be, oe + (j + 1) * 5 + 1, none⟩ = some (i64 q.seq) ∧ V.cell? ⟨be, oe + (j + 1) * 5 + 2, none⟩ = some (i64 q.kind) ∧ V.cell? ⟨be, oe + (j + 1) * 5 + 3, none⟩ = some (i64 q.hav) ∧ V.cell? ⟨be, oe + (j + 1) * 5 + 4, none⟩ = some (i64 q.set_))) (by kernel_rfl) (HS.out _ (Below.refl _ _).drew) (fun hH => ?_)
                      refine wpAnyL_take (i := 0) (v := ?v20040) rfl (by kernel_rfl) (by kernel_rfl) (by kernel_rfl) (by kernel_rfl) (fun _ _ _ h => h) (Or.inl ⟨by kernel_rfl, ?hy20040⟩) (by assumption) ?r20040
                      case hy20040 => (intro W hSW; obtain ⟨hV0, ⟨p0, p1, p2, p3, p4⟩, ⟨q0, q1, q2, q3, q4⟩⟩ := hSW; go_simp; try with_reducible rfl)
                      try simp only [Act.put, List.getElem_toArray, List.getElem_cons_zero, List.setIfInBounds_toArray, List.set_cons_zero, List.set_cons_succ]
                      refine wpAnyL_take (i := 1) (v := ?v20041) rfl (by kernel_rfl) (by kernel_rfl) (by kernel_rfl) (by kernel_rfl) (fun _ _ _ h => h) (Or.inl ⟨by kernel_rfl, ?hy20041⟩) (by assumption) ?r20041
                      case hy20041 => (intro W hSW; obtain ⟨hV0, ⟨p0, p1, p2, p3, p4⟩, ⟨q0, q1, q2, q3, q4⟩⟩ := hSW; go_simp; try with_reducible rfl)
                      try simp only [Act.put, List.getElem_toArray, List.getElem_cons_zero, List.getElem_cons_succ, List.setIfInBounds_toArray, List.set_cons_zero, List.set_cons_succ]
                      refine wpAnyL_take (i := 2) (v := ?v20042) rfl (by kernel_rfl) (by kernel_rfl) (by kernel_rfl) (by kernel_rfl) (fun _ _ _ h => h) (Or.inl ⟨by kernel_rfl, ?hy20042⟩) (by assumption) ?r20042
                      case hy20042 => (intro W hSW; obtain ⟨hV0, ⟨p0, p1, p2, p3, p4⟩, ⟨q0, q1, q2, q3, q4⟩⟩ := hSW; go_simp; try with_reducible rfl)
                      try simp only [Act.put, List.getElem_toArray, List.getElem_cons_zero, List.getElem_cons_succ, List.setIfInBounds_toArray, List.set_cons_zero, List.set_cons_succ]
                      refine wpAnyL_take (i := 3) (v := ?v20043) rfl (by kernel_rfl) (by kernel_rfl) (by kernel_rfl) (by kernel_rfl) (fun _ _ _ h => h) (Or.inl ⟨by kernel_rfl, ?hy20043⟩) (by assumption) ?r20043
                      case hy20043 => (intro W hSW; obtain ⟨hV0, ⟨p0, p1, p2, p3, p4⟩, ⟨q0, q1, q2, q3, q4⟩⟩ := hSW; go_simp; try with_reducible rfl)
                      try simp only [Act.put, List.getElem_toArray, List.getElem_cons_zero, List.getElem_cons_succ, List.setIfInBounds_toArray, List.set_cons_zero, List.set_cons_succ]
                      refine wpAnyL_take (i := 4) (v := ?v20044) rfl (by kernel_rfl) (by kernel_rfl) (by kernel_rfl) (by kernel_rfl) (fun _ _ _ h => h) (Or.inl ⟨by kernel_rfl, ?hy20044⟩) (by assumption) ?r20044
                      case hy20044 => (intro W hSW; obtain ⟨hV0, ⟨p0, p1, p2, p3, p4⟩, ⟨q0, q1, q2, q3, q4⟩⟩ := hSW; go_simp; try with_reducible rfl)
                      try simp only [Act.put, List.getElem_toArray, List.getElem_cons_zero, List.getElem_cons_succ, List.setIfInBounds_toArray, List.set_cons_zero, List.set_cons_succ]
                      refine wpAnyL_take (i := 5) (v := ?v20045) rfl (by kernel_rfl) (by kernel_rfl) (by kernel_rfl) (by kernel_rfl) (fun _ _ _ h => h) (Or.inl ⟨by kernel_rfl, ?hy20045⟩) (by assumption) ?r20045
                      case hy20045 => (intro W hSW; obtain ⟨hV0, ⟨p0, p1, p2, p3, p4⟩, ⟨q0, q1, q2, q3, q4⟩⟩ := hSW; go_simp; try with_reducible rfl)
                      try simp only [Act.put, List.getElem_toArray, List.getElem_cons_zero, List.getElem_cons_succ, List.setIfInBounds_toArray, List.set_cons_zero, List.set_cons_succ]
                      refine wpAnyL_take (i := 6) (v := ?v20046) rfl (by kernel_rfl) (by kernel_rfl) (by kernel_rfl) (by kernel_rfl) (fun _ _ _ h => h) (Or.inl ⟨by kernel_rfl, ?hy20046⟩) (by assumption) ?r20046
                      case hy20046 => (intro W hSW; obtain ⟨hV0, ⟨p0, p1, p2, p3, p4⟩, ⟨q0, q1, q2, q3, q4⟩⟩ := hSW; go_simp; try with_reducible rfl)
                      try simp only [Act.put, List.getElem_toArray, List.getElem_cons_zero, List.getElem_cons_succ, List.setIfInBounds_toArray, List.set_cons_zero, List.set_cons_succ]
                      refine wpAnyL_take (i := 7) (v := ?v20047) rfl (by kernel_rfl) (by kernel_rfl) (by kernel_rfl) (by kernel_rfl) (fun _ _ _ h => h) (Or.inl ⟨by kernel_rfl, ?hy20047⟩) (by assumption) ?r20047
                      case hy20047 => (intro W hSW; obtain ⟨hV0, ⟨p0, p1, p2, p3, p4⟩, ⟨q0, q1, q2, q3, q4⟩⟩ := hSW; go_simp; try with_reducible rfl)
                      try simp only [Act.put, List.getElem_toArray, List.getElem_cons_zero, List.getElem_cons_succ, List.setIfInBounds_toArray, List.set_cons_zero, List.set_cons_succ]
                      refine wpAnyL_take (i := 8) (v := ?v20048) rfl (by kernel_rfl) (by kernel_rfl) (by kernel_rfl) (by kernel_rfl) (fun _ _ _ h => h) (Or.inl ⟨by kernel_rfl, ?hy20048⟩) (by assumption) ?r20048
                      case hy20048 => (intro W hSW; obtain ⟨hV0, ⟨p0, p1, p2, p3, p4⟩, ⟨q0, q1, q2, q3, q4⟩⟩ := hSW; go_simp; try with_reducible rfl)
                      try simp only [Act.put, List.getElem_toArray, List.getElem_cons_zero, List.getElem_cons_succ, List.setIfInBounds_toArray, List.set_cons_zero, List.set_cons_succ]
                      refine wpAnyL_take (i := 9) (v := ?v20049) rfl (by kernel_rfl) (by kernel_rfl) (by kernel_rfl) (by kernel_rfl) (fun _ _ _ h => h) (Or.inl ⟨by kernel_rfl, ?hy20049⟩) (by assumption) ?r20049
                      case hy20049 => (intro W hSW; obtain ⟨hV0, ⟨p0, p1, p2, p3, p4⟩, ⟨q0, q1, q2, q3, q4⟩⟩ := hSW; go_simp; try with_reducible rfl)
                      try simp only [Act.put, List.getElem_toArray, List.getElem_cons_zero, List.getElem_cons_succ, List.setIfInBounds_toArray, List.set_cons_zero, List.set_cons_succ]
                      refine wpAnyL_take (i := 10) (v := ?v20050) rfl (by kernel_rfl) (by kernel_rfl) (by kernel_rfl) (by kernel_rfl) (fun _ _ _ h => h) (Or.inl ⟨by kernel_rfl, ?hy20050⟩) (by assumption) ?r20050
                      case hy20050 => (intro W hSW; obtain ⟨hV0, ⟨p0, p1, p2, p3, p4⟩, ⟨q0, q1, q2, q3, q4⟩⟩ := hSW; go_simp; try with_reducible rfl)
                      try simp only [Act.put, List.getElem_toArray, List.getElem_cons_zero, List.getElem_cons_succ, List.setIfInBounds_toArray, List.set_cons_zero, List.set_cons_succ]
                      refine wpAnyL_take (i := 11) (v := ?v20051) rfl (by kernel_rfl) (by kernel_rfl) (by kernel_rfl) (by kernel_rfl) (fun _ _ _ h => h) (Or.inl ⟨by kernel_rfl, ?hy20051⟩) (by assumption) ?r20051
                      case hy20051 => (intro W hSW; obtain ⟨hV0, ⟨p0, p1, p2, p3, p4⟩, ⟨q0, q1, q2, q3, q4⟩⟩ := hSW; go_simp; try with_reducible rfl)
                      try simp only [Act.put, List.getElem_toArray, List.getElem_cons_zero, List.getElem_cons_succ, List.setIfInBounds_toArray, List.set_cons_zero, List.set_cons_succ]
                      refine wpAnyL_take (i := 12) (v := ?v20052) rfl (by kernel_rfl) (by kernel_rfl) (by kernel_rfl) (by kernel_rfl) (fun _ _ _ h => h) (Or.inl ⟨by kernel_rfl, ?hy20052⟩) (by assumption) ?r20052
                      case hy20052 => (intro W hSW; obtain ⟨hV0, ⟨p0, p1, p2, p3, p4⟩, ⟨q0, q1, q2, q3, q4⟩⟩ := hSW; go_simp; try with_reducible rfl)
                      try simp only [Act.put, List.getElem_toArray, List.getElem_cons_zero, List.getElem_cons_succ, List.setIfInBounds_toArray, List.set_cons_zero, List.set_cons_succ]
                      refine wpAnyL_take (i := 13) (v := undef) rfl (by kernel_rfl) (by kernel_rfl) (by kernel_rfl) (by kernel_rfl) (fun _ _ _ h => h) (Or.inr ⟨by kernel_rfl, rfl⟩) (by assumption) ?r20053
                      try simp only [Act.put, List.getElem_toArray, List.getElem_cons_zero, List.getElem_cons_succ, List.setIfInBounds_toArray, List.set_cons_zero, List.set_cons_succ]
                      refine wpAnyL_take (i := 14) (v := undef) rfl (by kernel_rfl) (by kernel_rfl) (by kernel_rfl) (by kernel_rfl) (fun _ _ _ h => h) (Or.inr ⟨by kernel_rfl, rfl⟩) (by assumption) ?r20054
                      try simp only [Act.put, List.getElem_toArray, List.getElem_cons_zero, List.getElem_cons_succ, List.setIfInBounds_toArray, List.set_cons_zero, List.set_cons_succ]
                      refine wpAnyL_take (i := 15) (v := ?v20055) rfl (by kernel_rfl) (by kernel_rfl) (by kernel_rfl) (by kernel_rfl) (fun _ _ _ h => h) (Or.inl ⟨by kernel_rfl, ?hy20055⟩) (by assumption) ?r20055
                      case hy20055 => (intro W hSW; obtain ⟨hV0, ⟨p0, p1, p2, p3, p4⟩, ⟨q0, q1, q2, q3, q4⟩⟩ := hSW; go_simp; try with_reducible rfl)
                      try simp only [Act.put, List.getElem_toArray, List.getElem_cons_zero, List.getElem_cons_succ, List.setIfInBounds_toArray, List.set_cons_zero, List.set_cons_succ]
                      refine wpAnyL_take (i := 16) (v := ?v20056) rfl (by kernel_rfl) (by kernel_rfl) (by kernel_rfl) (by kernel_rfl) (fun _ _ _ h => h) (Or.inl ⟨by kernel_rfl, ?hy20056⟩) (by assumption) ?r20056
                      case hy20056 => (intro W hSW; obtain ⟨hV0, ⟨p0, p1, p2, p3, p4⟩, ⟨q0, q1, q2, q3, q4⟩⟩ := hSW; go_simp; try with_reducible rfl)
                      try simp only [Act.put, List.getElem_toArray, List.getElem_cons_zero, List.getElem_cons_succ, List.setIfInBounds_toArray, List.set_cons_zero, List.set_cons_succ]
                      refine wpAnyL_take (i := 17) (v := ?v20057) rfl (by kernel_rfl) (by kernel_rfl) (by kernel_rfl) (by kernel_rfl) (fun _ _ _ h => h) (Or.inl ⟨by kernel_rfl, ?hy20057⟩) (by assumption) ?r20057
                      case hy20057 => (intro W hSW; obtain ⟨hV0, ⟨p0, p1, p2, p3, p4⟩, ⟨q0, q1, q2, q3, q4⟩⟩ := hSW; go_simp; try with_reducible rfl)
                      try simp only [Act.put, List.getElem_toArray, List.getElem_cons_zero, List.getElem_cons_succ, List.setIfInBounds_toArray, List.set_cons_zero, List.set_cons_succ]
                      refine wpAnyL_take (i := 18) (v := ?v20058) rfl (by kernel_rfl) (by kernel_rfl) (by kernel_rfl) (by kernel_rfl) (fun _ _ _ h => h) (Or.inl ⟨by kernel_rfl, ?hy20058⟩) (by assumption) ?r20058
                      case hy20058 => (intro W hSW; obtain ⟨hV0, ⟨p0, p1, p2, p3, p4⟩, ⟨q0, q1, q2, q3, q4⟩⟩ := hSW; go_simp; try with_reducible rfl)
                      try simp only [Act.put, List.getElem_toArray, List.getElem_cons_zero, List.getElem_cons_succ, List.setIfInBounds_toArray, List.set_cons_zero, List.set_cons_succ]
                      refine wpAnyL_take (i := 19) (v := ?v20059) rfl (by kernel_rfl) (by kernel_rfl) (by kernel_rfl) (by kernel_rfl) (fun _ _ _ h => h) (Or.inl ⟨by kernel_rfl, ?hy20059⟩) (by assumption) ?r20059
                      case hy20059 => (intro W hSW; obtain ⟨hV0, ⟨p0, p1, p2, p3, p4⟩, ⟨q0, q1, q2, q3, q4⟩⟩ := hSW; go_simp; try with_reducible rfl)
                      try simp only [Act.put, List.getElem_toArray, List.getElem_cons_zero, List.getElem_cons_succ, List.setIfInBounds_toArray, List.set_cons_zero, List.set_cons_succ]
                      refine wpAnyL_take (i := 20) (v := ?v20060) rfl (by kernel_rfl) (by kernel_rfl) (by kernel_rfl) (by kernel_rfl) (fun _ _ _ h => h) (Or.inl ⟨by kernel_rfl, ?hy20060⟩) (by assumption) ?r20060
                      case hy20060 => (intro W hSW; obtain ⟨hV0, ⟨p0, p1, p2, p3, p4⟩, ⟨q0, q1, q2, q3, q4⟩⟩ := hSW; go_simp; try with_reducible rfl)
                      try simp only [Act.put, List.getElem_toArray, List.getElem_cons_zero, List.getElem_cons_succ, List.setIfInBounds_toArray, List.set_cons_zero, List.set_cons_succ]
                      refine wpAnyL_take (i := 21) (v := ?v20061) rfl (by kernel_rfl) (by kernel_rfl) (by kernel_rfl) (by kernel_rfl) (fun _ _ _ h => h) (Or.inl ⟨by kernel_rfl, ?hy20061⟩) (by assumption) ?r20061
                      case hy20061 => (intro W hSW; obtain ⟨hV0, ⟨p0, p1, p2, p3, p4⟩, ⟨q0, q1, q2, q3, q4⟩⟩ := hSW; go_simp; try with_reducible rfl)
                      try simp only [Act.put, List.getElem_toArray, List.getElem_cons_zero, List.getElem_cons_succ, List.setIfInBounds_toArray, List.set_cons_zero, List.set_cons_succ]
                      refine wpAnyL_take (i := 22) (v := ?v20062) rfl (by kernel_rfl) (by kernel_rfl) (by kernel_rfl) (by kernel_rfl) (fun _ _ _ h => h) (Or.inl ⟨by kernel_rfl, ?hy20062⟩) (by assumption) ?r20062
                      case hy20062 => (intro W hSW; obtain ⟨hV0, ⟨p0, p1, p2, p3, p4⟩, ⟨q0, q1, q2, q3, q4⟩⟩ := hSW; go_simp; try with_reducible rfl)
                      try simp only [Act.put, List.getElem_toArray, List.getElem_cons_zero, List.getElem_cons_succ, List.setIfInBounds_toArray, List.set_cons_zero, List.set_cons_succ]
                      refine wpAnyL_take (i := 23) (v := ?v20063) rfl (by kernel_rfl) (by kernel_rfl) (by kernel_rfl) (by kernel_rfl) (fun _ _ _ h => h) (Or.inl ⟨by kernel_rfl, ?hy20063⟩) (by assumption) ?r20063
                      case hy20063 => (intro W hSW; obtain ⟨hV0, ⟨p0, p1, p2, p3, p4⟩, ⟨q0, q1, q2, q3, q4⟩⟩ := hSW; go_simp; try with_reducible rfl)
                      try simp only [Act.put, List.getElem_toArray, List.getElem_cons_zero, List.getElem_cons_succ, List.setIfInBounds_toArray, List.set_cons_zero, List.set_cons_succ]
                      refine wpAnyL_take (i := 24) (v := ?v20064) rfl (by kernel_rfl) (by kernel_rfl) (by kernel_rfl) (by kernel_rfl) (fun _ _ _ h => h) (Or.inl ⟨by kernel_rfl, ?hy20064⟩) (by assumption) ?r20064
                      case hy20064 => (intro W hSW; obtain ⟨hV0, ⟨p0, p1, p2, p3, p4⟩, ⟨q0, q1, q2, q3, q4⟩⟩ := hSW; go_simp; try with_reducible rfl)
                      try simp only [Act.put, List.getElem_toArray, List.getElem_cons_zero, List.getElem_cons_succ, List.setIfInBounds_toArray, List.set_cons_zero, List.set_cons_succ]
                      refine wpAnyL_take (i := 25) (v := ?v20065) rfl (by kernel_rfl) (by kernel_rfl) (by kernel_rfl) (by kernel_rfl) (fun _ _ _ h => h) (Or.inl ⟨by kernel_rfl, ?hy20065⟩) (by assumption) ?r20065
                      case hy20065 => (intro W hSW; obtain ⟨hV0, ⟨p0, p1, p2, p3, p4⟩, ⟨q0, q1, q2, q3, q4⟩⟩ := hSW; go_simp; try with_reducible rfl)
                      try simp only [Act.put, List.getElem_toArray, List.getElem_cons_zero, List.getElem_cons_succ, List.setIfInBounds_toArray, List.set_cons_zero, List.set_cons_succ]
                      refine wpAnyL_take (i := 26) (v := ?v20066) rfl (by kernel_rfl) (by kernel_rfl) (by kernel_rfl) (by kernel_rfl) (fun _ _ _ h => h) (Or.inl ⟨by kernel_rfl, ?hy20066⟩) (by assumption) ?r20066
                      case hy20066 => (intro W hSW; obtain ⟨hV0, ⟨p0, p1, p2, p3, p4⟩, ⟨q0, q1, q2, q3, q4⟩⟩ := hSW; go_simp; try with_reducible rfl)
                      try simp only [Act.put, List.getElem_toArray, List.getElem_cons_zero, List.getElem_cons_succ, List.setIfInBounds_toArray, List.set_cons_zero, List.set_cons_succ]
                      refine wpAnyL_take (i := 27) (v := ?v20067) rfl (by kernel_rfl) (by kernel_rfl) (by kernel_rfl) (by kernel_rfl) (fun _ _ _ h => h) (Or.inl ⟨by kernel_rfl, ?hy20067⟩) (by assumption) ?r20067
                      case hy20067 => (intro W hSW; obtain ⟨hV0, ⟨p0, p1, p2, p3, p4⟩, ⟨q0, q1, q2, q3, q4⟩⟩ := hSW; go_simp; try with_reducible rfl)
                      try simp only [Act.put, List.getElem_toArray, List.getElem_cons_zero, List.getElem_cons_succ, List.setIfInBounds_toArray, List.set_cons_zero, List.set_cons_succ]
                      refine wpAnyL_take (i := 28) (v := ?v20068) rfl (by kernel_rfl) (by kernel_rfl) (by kernel_rfl) (by kernel_rfl) (fun _ _ _ h => h) (Or.inl ⟨by kernel_rfl, ?hy20068⟩) (by assumption) ?r20068
                      case hy20068 => (intro W hSW; obtain ⟨hV0, ⟨p0, p1, p2, p3, p4⟩, ⟨q0, q1, q2, q3, q4⟩⟩ := hSW; go_simp; try with_reducible rfl)
                      try simp only [Act.put, List.getElem_toArray, List.getElem_cons_zero, List.getElem_cons_succ, List.setIfInBounds_toArray, List.set_cons_zero, List.set_cons_succ]
                      refine wpAnyL_take (i := 29) (v := ?v20069) rfl (by kernel_rfl) (by kernel_rfl) (by kernel_rfl) (by kernel_rfl) (fun _ _ _ h => h) (Or.inl ⟨by kernel_rfl, ?hy20069⟩) (by assumption) ?r20069
                      case hy20069 => (intro W hSW; obtain ⟨hV0, ⟨p0, p1, p2, p3, p4⟩, ⟨q0, q1, q2, q3, q4⟩⟩ := hSW; go_simp; try with_reducible rfl)
                      try simp only [Act.put, List.getElem_toArray, List.getElem_cons_zero, List.getElem_cons_succ, List.setIfInBounds_toArray, List.set_cons_zero, List.set_cons_succ]
                      refine wpAnyL_take (i := 30) (v := ?v20070) rfl (by kernel_rfl) (by kernel_rfl) (by kernel_rfl) (by kernel_rfl) (fun _ _ _ h => h) (Or.inl ⟨by kernel_rfl, ?hy20070⟩) (by assumption) ?r20070
                      case hy20070 => (intro W hSW; obtain ⟨hV0, ⟨p0, p1, p2, p3, p4⟩, ⟨q0, q1, q2, q3, q4⟩⟩ := hSW; go_simp; try with_reducible rfl)
                      try simp only [Act.put, List.getElem_toArray, List.getElem_cons_zero, List.getElem_cons_succ, List.setIfInBounds_toArray, List.set_cons_zero, List.set_cons_succ]
                      refine wpAnyL_take (i := 31) (v := ?v20071) rfl (by kernel_rfl) (by kernel_rfl) (by kernel_rfl) (by kernel_rfl) (fun _ _ _ h => h) (Or.inl ⟨by kernel_rfl, ?hy20071⟩) (by assumption) ?r20071
                      case hy20071 => (intro W hSW; obtain ⟨hV0, ⟨p0, p1, p2, p3, p4⟩, ⟨q0, q1, q2, q3, q4⟩⟩ := hSW; go_simp; try with_reducible rfl)
                      try simp only [Act.put, List.getElem_toArray, List.getElem_cons_zero, List.getElem_cons_succ, List.setIfInBounds_toArray, List.set_cons_zero, List.set_cons_succ]
                      refine wpAnyL_take (i := 32) (v := ?v20072) rfl (by kernel_rfl) (by kernel_rfl) (by kernel_rfl) (by kernel_rfl) (fun _ _ _ h => h) (Or.inl ⟨by kernel_rfl, ?hy20072⟩) (by assumption) ?r20072
                      case hy20072 => (intro W hSW; obtain ⟨hV0, ⟨p0, p1, p2, p3, p4⟩, ⟨q0, q1, q2, q3, q4⟩⟩ := hSW; go_simp; try with_reducible rfl)
                      try simp only [Act.put, List.getElem_toArray, List.getElem_cons_zero, List.getElem_cons_succ, List.setIfInBounds_toArray, List.set_cons_zero, List.set_cons_succ]
                      refine wpAnyL_take (i := 33) (v := ?v20073) rfl (by kernel_rfl) (by kernel_rfl) (by kernel_rfl) (by kernel_rfl) (fun _ _ _ h => h) (Or.inl ⟨by kernel_rfl, ?hy20073⟩) (by assumption) ?r20073
                      case hy20073 => (intro W hSW; obtain ⟨hV0, ⟨p0, p1, p2, p3, p4⟩, ⟨q0, q1, q2, q3, q4⟩⟩ := hSW; go_simp; try with_reducible rfl)
                      try simp only [Act.put, List.getElem_toArray, List.getElem_cons_zero, List.getElem_cons_succ, List.setIfInBounds_toArray, List.set_cons_zero, List.set_cons_succ]
                      refine wpAnyL_take (i := 34) (v := ?v20074) rfl (by kernel_rfl) (by kernel_rfl) (by kernel_rfl) (by kernel_rfl) (fun _ _ _ h => h) (Or.inl ⟨by kernel_rfl, ?hy20074⟩) (by assumption) ?r20074
                      case hy20074 => (intro W hSW; obtain ⟨hV0, ⟨p0, p1, p2, p3, p4⟩, ⟨q0, q1, q2, q3, q4⟩⟩ := hSW; go_simp; try with_reducible rfl)
                      try simp only [Act.put, List.getElem_toArray, List.getElem_cons_zero, List.getElem_cons_succ, List.setIfInBounds_toArray, List.set_cons_zero, List.set_cons_succ]
                      refine wpAnyL_take (i := 35) (v := ?v20075) rfl (by kernel_rfl) (by kernel_rfl) (by kernel_rfl) (by kernel_rfl) (fun _ _ _ h => h) (Or.inl ⟨by kernel_rfl, ?hy20075⟩) (by assumption) ?r20075
                      case hy20075 => (intro W hSW; obtain ⟨hV0, ⟨p0, p1, p2, p3, p4⟩, ⟨q0, q1, q2, q3, q4⟩⟩ := hSW; go_simp; try with_reducible rfl)
                      try simp only [Act.put, List.getElem_toArray, List.getElem_cons_zero, List.getElem_cons_succ, List.setIfInBounds_toArray, List.set_cons_zero, List.set_cons_succ]
                      refine wpAnyL_take (i := 36) (v := ?v20076) rfl (by kernel_rfl) (by kernel_rfl) (by kernel_rfl) (by kernel_rfl) (fun _ _ _ h => h) (Or.inl ⟨by kernel_rfl, ?hy20076⟩) (by assumption) ?r20076
                      case hy20076 => (intro W hSW; obtain ⟨hV0, ⟨p0, p1, p2, p3, p4⟩, ⟨q0, q1, q2, q3, q4⟩⟩ := hSW; go_simp; try with_reducible rfl)
                      try simp only [Act.put, List.getElem_toArray, List.getElem_cons_zero, List.getElem_cons_succ, List.setIfInBounds_toArray, List.set_cons_zero, List.set_cons_succ]
                      refine wpAnyL_take (i := 37) (v := ?v20077) rfl (by kernel_rfl) (by kernel_rfl) (by kernel_rfl) (by kernel_rfl) (fun _ _ _ h => h) (Or.inl ⟨by kernel_rfl, ?hy20077⟩) (by assumption) ?r20077
                      case hy20077 => (intro W hSW; obtain ⟨hV0, ⟨p0, p1, p2, p3, p4⟩, ⟨q0, q1, q2, q3, q4⟩⟩ := hSW; go_simp; try with_reducible rfl)
                      try simp only [Act.put, List.getElem_toArray, List.getElem_cons_zero, List.getElem_cons_succ, List.setIfInBounds_toArray, List.set_cons_zero, List.set_cons_succ]
                      refine wpAnyL_take (i := 38) (v := ?v20078) rfl (by kernel_rfl) (by kernel_rfl) (by kernel_rfl) (by kernel_rfl) (fun _ _ _ h => h) (Or.inl ⟨by kernel_rfl, ?hy20078⟩) (by assumption) ?r20078
                      case hy20078 => (intro W hSW; obtain ⟨hV0, ⟨p0, p1, p2, p3, p4⟩, ⟨q0, q1, q2, q3, q4⟩⟩ := hSW; go_simp; try with_reducible rfl)
                      try simp only [Act.put, List.getElem_toArray, List.getElem_cons_zero, List.getElem_cons_succ, List.setIfInBounds_toArray, List.set_cons_zero, List.set_cons_succ]
                      refine wpAnyL_take (i := 39) (v := ?v20079) rfl (by kernel_rfl) (by kernel_rfl) (by kernel_rfl) (by kernel_rfl) (fun _ _ _ h => h) (Or.inl ⟨by kernel_rfl, ?hy20079⟩) (by assumption) ?r20079
                      case hy20079 => (intro W hSW; obtain ⟨hV0, ⟨p0, p1, p2, p3, p4⟩, ⟨q0, q1, q2, q3, q4⟩⟩ := hSW; go_simp; try with_reducible rfl)
                      try simp only [Act.put, List.getElem_toArray, List.getElem_cons_zero, List.getElem_cons_succ, List.setIfInBounds_toArray, List.set_cons_zero, List.set_cons_succ]
                      refine wpAnyL_take (i := 40) (v := ?v20080) rfl (by kernel_rfl) (by kernel_rfl) (by kernel_rfl) (by kernel_rfl) (fun _ _ _ h => h) (Or.inl ⟨by kernel_rfl, ?hy20080⟩) (by assumption) ?r20080
                      case hy20080 => (intro W hSW; obtain ⟨hV0, ⟨p0, p1, p2, p3, p4⟩, ⟨q0, q1, q2, q3, q4⟩⟩ := hSW; go_simp; try with_reducible rfl)
                      try simp only [Act.put, List.getElem_toArray, List.getElem_cons_zero, List.getElem_cons_succ, List.setIfInBounds_toArray, List.set_cons_zero, List.set_cons_succ]
                      refine wpAnyL_take (i := 41) (v := ?v20081) rfl (by kernel_rfl) (by kernel_rfl) (by kernel_rfl) (by kernel_rfl) (fun _ _ _ h => h) (Or.inl ⟨by kernel_rfl, ?hy20081⟩) (by assumption) ?r20081
                      case hy20081 => (intro W hSW; obtain ⟨hV0, ⟨p0, p1, p2, p3, p4⟩, ⟨q0, q1, q2, q3, q4⟩⟩ := hSW; go_simp; try with_reducible rfl)
                      try simp only [Act.put, List.getElem_toArray, List.getElem_cons_zero, List.getElem_cons_succ, List.setIfInBounds_toArray, List.set_cons_zero, List.set_cons_succ]
                      refine wpAnyL_take (i := 42) (v := ?v20082) rfl (by kernel_rfl) (by kernel_rfl) (by kernel_rfl) (by kernel_rfl) (fun _ _ _ h => h) (Or.inl ⟨by kernel_rfl, ?hy20082⟩) (by assumption) ?r20082
                      case hy20082 => (intro W hSW; obtain ⟨hV0, ⟨p0, p1, p2, p3, p4⟩, ⟨q0, q1, q2, q3, q4⟩⟩ := hSW; go_simp; try with_reducible rfl)
                      try simp only [Act.put, List.getElem_toArray, List.getElem_cons_zero, List.getElem_cons_succ, List.setIfInBounds_toArray, List.set_cons_zero, List.set_cons_succ]
                      refine wpAnyL_take (i := 43) (v := ?v20083) rfl (by kernel_rfl) (by kernel_rfl) (by kernel_rfl) (by kernel_rfl) (fun _ _ _ h => h) (Or.inl ⟨by kernel_rfl, ?hy20083⟩) (by assumption) ?r20083
                      case hy20083 => (intro W hSW; obtain ⟨hV0, ⟨p0, p1, p2, p3, p4⟩, ⟨q0, q1, q2, q3, q4⟩⟩ := hSW; go_simp; try with_reducible rfl)
                      try simp only [Act.put, List.getElem_toArray, List.getElem_cons_zero, List.getElem_cons_succ, List.setIfInBounds_toArray, List.set_cons_zero, List.set_cons_succ]
                      refine wpAnyL_take (i := 44) (v := ?v20084) rfl (by kernel_rfl) (by kernel_rfl) (by kernel_rfl) (by kernel_rfl) (fun _ _ _ h => h) (Or.inl ⟨by kernel_rfl, ?hy20084⟩) (by assumption) ?r20084
                      case hy20084 => (intro W hSW; obtain ⟨hV0, ⟨p0, p1, p2, p3, p4⟩, ⟨q0, q1, q2, q3, q4⟩⟩ := hSW; go_simp; try with_reducible rfl)
                      try simp only [Act.put, List.getElem_toArray, List.getElem_cons_zero, List.getElem_cons_succ, List.setIfInBounds_toArray, List.set_cons_zero, List.set_cons_succ]
                      refine wpAnyL_take (i := 45) (v := ?v20085) rfl (by kernel_rfl) (by kernel_rfl) (by kernel_rfl) (by kernel_rfl) (fun _ _ _ h => h) (Or.inl ⟨by kernel_rfl, ?hy20085⟩) (by assumption) ?r20085
                      case hy20085 => (intro W hSW; obtain ⟨hV0, ⟨p0, p1, p2, p3, p4⟩, ⟨q0, q1, q2, q3, q4⟩⟩ := hSW; go_simp; try with_reducible rfl)
                      try simp only [Act.put, List.getElem_toArray, List.getElem_cons_zero, List.getElem_cons_succ, List.setIfInBounds_toArray, List.set_cons_zero, List.set_cons_succ]
                      refine wpAnyL_take (i := 46) (v := undef) rfl (by kernel_rfl) (by kernel_rfl) (by kernel_rfl) (by kernel_rfl) (fun _ _ _ h => h) (Or.inr ⟨by kernel_rfl, rfl⟩) (by assumption) ?r20086
                      try simp only [Act.put, List.getElem_toArray, List.getElem_cons_zero, List.getElem_cons_succ, List.setIfInBounds_toArray, List.set_cons_zero, List.set_cons_succ]
                      refine wpAnyL_take (i := 47) (v := undef) rfl (by kernel_rfl) (by kernel_rfl) (by kernel_rfl) (by kernel_rfl) (fun _ _ _ h => h) (Or.inr ⟨by kernel_rfl, rfl⟩) (by assumption) ?r20087
                      try simp only [Act.put, List.getElem_toArray, List.getElem_cons_zero, List.getElem_cons_succ, List.setIfInBounds_toArray, List.set_cons_zero, List.set_cons_succ]
                      refine wpAnyL_take (i := 48) (v := undef) rfl (by kernel_rfl) (by kernel_rfl) (by kernel_rfl) (by kernel_rfl) (fun _ _ _ h => h) (Or.inr ⟨by kernel_rfl, rfl⟩) (by assumption) ?r20088
                      try simp only [Act.put, List.getElem_toArray, List.getElem_cons_zero, List.getElem_cons_succ, List.setIfInBounds_toArray, List.set_cons_zero, List.set_cons_succ]
                      refine wpAnyL_take (i := 49) (v := undef) rfl (by kernel_rfl) (by kernel_rfl) (by kernel_rfl) (by kernel_rfl) (fun _ _ _ h => h) (Or.inr ⟨by kernel_rfl, rfl⟩) (by assumption) ?r20089
                      try simp only [Act.put, List.getElem_toArray, List.getElem_cons_zero, List.getElem_cons_succ, List.setIfInBounds_toArray, List.set_cons_zero, List.set_cons_succ]
                      refine wpAnyL_take (i := 50) (v := undef) rfl (by kernel_rfl) (by kernel_rfl) (by kernel_rfl) (by kernel_rfl) (fun _ _ _ h => h) (Or.inr ⟨by kernel_rfl, rfl⟩) (by assumption) ?r20090
                      try simp only [Act.put, List.getElem_toArray, List.getElem_cons_zero, List.getElem_cons_succ, List.setIfInBounds_toArray, List.set_cons_zero, List.set_cons_succ]
                      refine wpAnyL_take (i := 51) (v := undef) rfl (by kernel_rfl) (by kernel_rfl) (by kernel_rfl) (by kernel_rfl) (fun _ _ _ h => h) (Or.inr ⟨by kernel_rfl, rfl⟩) (by assumption) ?r20091
                      try simp only [Act.put, List.getElem_toArray, List.getElem_cons_zero, List.getElem_cons_succ, List.setIfInBounds_toArray, List.set_cons_zero, List.set_cons_succ]
                      refine wpAnyL_take (i := 52) (v := ?v20092) rfl (by kernel_rfl) (by kernel_rfl) (by kernel_rfl) (by kernel_rfl) (fun _ _ _ h => h) (Or.inl ⟨by kernel_rfl, ?hy20092⟩) (by assumption) ?r20092
                      case hy20092 => (intro W hSW; obtain ⟨hV0, ⟨p0, p1, p2, p3, p4⟩, ⟨q0, q1, q2, q3, q4⟩⟩ := hSW; go_simp; try with_reducible rfl)
                      try simp only [Act.put, List.getElem_toArray, List.getElem_cons_zero, List.getElem_cons_succ, List.setIfInBounds_toArray, List.set_cons_zero, List.set_cons_succ]
                      refine wpAnyL_last (by kernel_rfl) rfl (fun K hK => ?_)
                      go_simp
                      refine hK.out _ _ ?_
                      clear hK K
                      try simp only [Act.put, List.getElem_toArray, List.getElem_cons_zero, List.getElem_cons_succ, List.setIfInBounds_toArray, List.set_cons_zero, List.set_cons_succ]
                      refine wpAnyL_done (by kernel_rfl) ?_ _
                      refine NoPanic.normal ?_
                      have hbj := hH.1
                      clear hH HS jw jw2
                      go_wp2_with fail
                      go_meet
                      exact ⟨rfl, hbj⟩
                    · have n1 : (q.hav != p.hav) = true := by rw [bne_iff_ne]; exact hh
                      have hm : mv = true := by
                        rw [← Hmv.out, Bool.or_eq_true, beq_iff_eq, beq_iff_eq]
                        by_cases h2 : q.kind = 2
                        · exact .inl h2
                        · by_cases h4 : q.kind = 4
                          · exact .inr h4
                          · exact absurd (S24.out h2 h4) hh
                      subst hm
                      clear hh hg
                      as_aux_lemma =>
                      refine wp_region_noPanic ?_
                      refine wp_region_l 53 (fun V : World => Below wk.heap.size wk V ∧ (V.cell? ⟨be, oe + j * 5, none⟩ = some (i64 p.client) ∧ V.cell? ⟨be, oe + j * 5 + 1, none⟩ = some (i64 p.seq) ∧ V.cell? ⟨be, oe + j * 5 + 2, none⟩ = some (i64 p.kind) ∧ V.cell? ⟨be, oe + j * 5 + 3, none⟩ = some (i64 p.hav) ∧ V.cell? ⟨be, oe + j * 5 + 4, none⟩ = some (i64 p.set_)) ∧ (V.cell? ⟨be, oe + (j + 1) * 5, none⟩ = some (i64 q.client) ∧ V.cell? ⟨be, oe + (j + 1) * 5 + 1, none⟩ = some (i64 q.seq) ∧ V.cell? ⟨be, oe + (j + 1) * 5 + 2, none⟩ = some (i64 q.kind) ∧ V.cell? ⟨be, oe + (j + 1) * 5 + 3, none⟩ = some (i64 q.hav) ∧ V.cell? ⟨be, oe + (j + 1) * 5 + 4, none⟩ = some (i64 q.set_))) (by kernel_rfl) (HS.out _ (Below.refl _ _).drew) (fun hH => ?_)
                      refine wpAnyL_take (i := 0) (v := ?v20146) rfl (by kernel_rfl) (by kernel_rfl) (by kernel_rfl) (by kernel_rfl) (fun _ _ _ h => h) (Or.inl ⟨by kernel_rfl, ?hy20146⟩) (by assumption) ?r20146
                      case hy20146 => (intro W hSW; obtain ⟨hV0, ⟨p0, p1, p2, p3, p4⟩, ⟨q0, q1, q2, q3, q4⟩⟩ := hSW; go_simp; try with_reducible rfl)
                      try simp only [Act.put, List.getElem_toArray, List.getElem_cons_zero, List.setIfInBounds_toArray, List.set_cons_zero, List.set_cons_succ]
                      refine wpAnyL_take (i := 1) (v := ?v20147) rfl (by kernel_rfl) (by kernel_rfl) (by kernel_rfl) (by kernel_rfl) (fun _ _ _ h => h) (Or.inl ⟨by kernel_rfl, ?hy20147⟩) (by assumption) ?r20147
                      case hy20147 => (intro W hSW; obtain ⟨hV0, ⟨p0, p1, p2, p3, p4⟩, ⟨q0, q1, q2, q3, q4⟩⟩ := hSW; go_simp; try with_reducible rfl)
                      try simp only [Act.put, List.getElem_toArray, List.getElem_cons_zero, List.getElem_cons_succ, List.setIfInBounds_toArray, List.set_cons_zero, List.set_cons_succ]
                      refine wpAnyL_take (i := 2) (v := ?v20148) rfl (by kernel_rfl) (by kernel_rfl) (by kernel_rfl) (by kernel_rfl) (fun _ _ _ h => h) (Or.inl ⟨by kernel_rfl, ?hy20148⟩) (by assumption) ?r20148
                      case hy20148 => (intro W hSW; obtain ⟨hV0, ⟨p0, p1, p2, p3, p4⟩, ⟨q0, q1, q2, q3, q4⟩⟩ := hSW; go_simp; try with_reducible rfl)
                      try simp only [Act.put, List.getElem_toArray, List.getElem_cons_zero, List.getElem_cons_succ, List.setIfInBounds_toArray, List.set_cons_zero, List.set_cons_succ]
                      refine wpAnyL_take (i := 3) (v := ?v20149) rfl (by kernel_rfl) (by kernel_rfl) (by kernel_rfl) (by kernel_rfl) (fun _ _ _ h => h) (Or.inl ⟨by kernel_rfl, ?hy20149⟩) (by assumption) ?r20149
                      case hy20149 => (intro W hSW; obtain ⟨hV0, ⟨p0, p1, p2, p3, p4⟩, ⟨q0, q1, q2, q3, q4⟩⟩ := hSW; go_simp; try with_reducible rfl)
                      try simp only [Act.put, List.getElem_toArray, List.getElem_cons_zero, List.getElem_cons_succ, List.setIfInBounds_toArray, List.set_cons_zero, List.set_cons_succ]
                      refine wpAnyL_take (i := 4) (v := ?v20150) rfl (by kernel_rfl) (by kernel_rfl) (by kernel_rfl) (by kernel_rfl) (fun _ _ _ h => h) (Or.inl ⟨by kernel_rfl, ?hy20150⟩) (by assumption) ?r20150
                      case hy20150 => (intro W hSW; obtain ⟨hV0, ⟨p0, p1, p2, p3, p4⟩, ⟨q0, q1, q2, q3, q4⟩⟩ := hSW; go_simp; try with_reducible rfl)
                      try simp only [Act.put, List.getElem_toArray, List.getElem_cons_zero, List.getElem_cons_succ, List.setIfInBounds_toArray, List.set_cons_zero, List.set_cons_succ]
                      refine wpAnyL_take (i := 5) (v := ?v20151) rfl (by kernel_rfl) (by kernel_rfl) (by kernel_rfl) (by kernel_rfl) (fun _ _ _ h => h) (Or.inl ⟨by kernel_rfl, ?hy20151⟩) (by assumption) ?r20151
                      case hy20151 => (intro W hSW; obtain ⟨hV0, ⟨p0, p1, p2, p3, p4⟩, ⟨q0, q1, q2, q3, q4⟩⟩ := hSW; go_simp; try with_reducible rfl)
                      try simp only [Act.put, List.getElem_toArray, List.getElem_cons_zero, List.getElem_cons_succ, List.setIfInBounds_toArray, List.set_cons_zero, List.set_cons_succ]
                      refine wpAnyL_take (i := 6) (v := ?v20152) rfl (by kernel_rfl) (by kernel_rfl) (by kernel_rfl) (by kernel_rfl) (fun _ _ _ h => h) (Or.inl ⟨by kernel_rfl, ?hy20152⟩) (by assumption) ?r20152
                      case hy20152 => (intro W hSW; obtain ⟨hV0, ⟨p0, p1, p2, p3, p4⟩, ⟨q0, q1, q2, q3, q4⟩⟩ := hSW; go_simp; try with_reducible rfl)
                      try simp only [Act.put, List.getElem_toArray, List.getElem_cons_zero, List.getElem_cons_succ, List.setIfInBounds_toArray, List.set_cons_zero, List.set_cons_succ]
                      refine wpAnyL_take (i := 7) (v := ?v20153) rfl (by kernel_rfl) (by kernel_rfl) (by kernel_rfl) (by kernel_rfl) (fun _ _ _ h => h) (Or.inl ⟨by kernel_rfl, ?hy20153⟩) (by assumption) ?r20153
                      case hy20153 => (intro W hSW; obtain ⟨hV0, ⟨p0, p1, p2, p3, p4⟩, ⟨q0, q1, q2, q3, q4⟩⟩ := hSW; go_simp; try with_reducible rfl)
                      try simp only [Act.put, List.getElem_toArray, List.getElem_cons_zero, List.getElem_cons_succ, List.setIfInBounds_toArray, List.set_cons_zero, List.set_cons_succ]
                      refine wpAnyL_take (i := 8) (v := ?v20154) rfl (by kernel_rfl) (by kernel_rfl) (by kernel_rfl) (by kernel_rfl) (fun _ _ _ h => h) (Or.inl ⟨by kernel_rfl, ?hy20154⟩) (by assumption) ?r20154
                      case hy20154 => (intro W hSW; obtain ⟨hV0, ⟨p0, p1, p2, p3, p4⟩, ⟨q0, q1, q2, q3, q4⟩⟩ := hSW; go_simp; try with_reducible rfl)
                      try simp only [Act.put, List.getElem_toArray, List.getElem_cons_zero, List.getElem_cons_succ, List.setIfInBounds_toArray, List.set_cons_zero, List.set_cons_succ]
                      refine wpAnyL_take (i := 9) (v := ?v20155) rfl (by kernel_rfl) (by kernel_rfl) (by kernel_rfl) (by kernel_rfl) (fun _ _ _ h => h) (Or.inl ⟨by kernel_rfl, ?hy20155⟩) (by assumption) ?r20155
                      case hy20155 => (intro W hSW; obtain ⟨hV0, ⟨p0, p1, p2, p3, p4⟩, ⟨q0, q1, q2, q3, q4⟩⟩ := hSW; go_simp; try with_reducible rfl)
                      try simp only [Act.put, List.getElem_toArray, List.getElem_cons_zero, List.getElem_cons_succ, List.setIfInBounds_toArray, List.set_cons_zero, List.set_cons_succ]
                      refine wpAnyL_take (i := 10) (v := ?v20156) rfl (by kernel_rfl) (by kernel_rfl) (by kernel_rfl) (by kernel_rfl) (fun _ _ _ h => h) (Or.inl ⟨by kernel_rfl, ?hy20156⟩) (by assumption) ?r20156
                      case hy20156 => (intro W hSW; obtain ⟨hV0, ⟨p0, p1, p2, p3, p4⟩, ⟨q0, q1, q2, q3, q4⟩⟩ := hSW; go_simp; try with_reducible rfl)
                      try simp only [Act.put, List.getElem_toArray, List.getElem_cons_zero, List.getElem_cons_succ, List.setIfInBounds_toArray, List.set_cons_zero, List.set_cons_succ]
                      refine wpAnyL_take (i := 11) (v := ?v20157) rfl (by kernel_rfl) (by kernel_rfl) (by kernel_rfl) (by kernel_rfl) (fun _ _ _ h => h) (Or.inl ⟨by kernel_rfl, ?hy20157⟩) (by assumption) ?r20157
                      case hy20157 => (intro W hSW; obtain ⟨hV0, ⟨p0, p1, p2, p3, p4⟩, ⟨q0, q1, q2, q3, q4⟩⟩ := hSW; go_simp; try with_reducible rfl)
                      try simp only [Act.put, List.getElem_toArray, List.getElem_cons_zero, List.getElem_cons_succ, List.setIfInBounds_toArray, List.set_cons_zero, List.set_cons_succ]
                      refine wpAnyL_take (i := 12) (v := ?v20158) rfl (by kernel_rfl) (by kernel_rfl) (by kernel_rfl) (by kernel_rfl) (fun _ _ _ h => h) (Or.inl ⟨by kernel_rfl, ?hy20158⟩) (by assumption) ?r20158
                      case hy20158 => (intro W hSW; obtain ⟨hV0, ⟨p0, p1, p2, p3, p4⟩, ⟨q0, q1, q2, q3, q4⟩⟩ := hSW; go_simp; try with_reducible rfl)
                      try simp only [Act.put, List.getElem_toArray, List.getElem_cons_zero, List.getElem_cons_succ, List.setIfInBounds_toArray, List.set_cons_zero, List.set_cons_succ]
                      refine wpAnyL_take (i := 13) (v := ?v20159) rfl (by kernel_rfl) (by kernel_rfl) (by kernel_rfl) (by kernel_rfl) (fun _ _ _ h => h) (Or.inl ⟨by kernel_rfl, ?hy20159⟩) (by assumption) ?r20159
                      case hy20159 => (intro W hSW; obtain ⟨hV0, ⟨p0, p1, p2, p3, p4⟩, ⟨q0, q1, q2, q3, q4⟩⟩ := hSW; go_simp; try with_reducible rfl)
                      try simp only [Act.put, List.getElem_toArray, List.getElem_cons_zero, List.getElem_cons_succ, List.setIfInBounds_toArray, List.set_cons_zero, List.set_cons_succ]
                      refine wpAnyL_take (i := 14) (v := ?v20160) rfl (by kernel_rfl) (by kernel_rfl) (by kernel_rfl) (by kernel_rfl) (fun _ _ _ h => h) (Or.inl ⟨by kernel_rfl, ?hy20160⟩) (by assumption) ?r20160
                      case hy20160 => (intro W hSW; obtain ⟨hV0, ⟨p0, p1, p2, p3, p4⟩, ⟨q0, q1, q2, q3, q4⟩⟩ := hSW; go_simp; try with_reducible rfl)
                      try simp only [Act.put, List.getElem_toArray, List.getElem_cons_zero, List.getElem_cons_succ, List.setIfInBounds_toArray, List.set_cons_zero, List.set_cons_succ]
                      refine wpAnyL_take (i := 15) (v := ?v20161) rfl (by kernel_rfl) (by kernel_rfl) (by kernel_rfl) (by kernel_rfl) (fun _ _ _ h => h) (Or.inl ⟨by kernel_rfl, ?hy20161⟩) (by assumption) ?r20161
                      case hy20161 => (intro W hSW; obtain ⟨hV0, ⟨p0, p1, p2, p3, p4⟩, ⟨q0, q1, q2, q3, q4⟩⟩ := hSW; go_simp; try with_reducible rfl)
                      try simp only [Act.put, List.getElem_toArray, List.getElem_cons_zero, List.getElem_cons_succ, List.setIfInBounds_toArray, List.set_cons_zero, List.set_cons_succ]
                      refine wpAnyL_take (i := 16) (v := ?v20162) rfl (by kernel_rfl) (by kernel_rfl) (by kernel_rfl) (by kernel_rfl) (fun _ _ _ h => h) (Or.inl ⟨by kernel_rfl, ?hy20162⟩) (by assumption) ?r20162
                      case hy20162 => (intro W hSW; obtain ⟨hV0, ⟨p0, p1, p2, p3, p4⟩, ⟨q0, q1, q2, q3, q4⟩⟩ := hSW; go_simp; try with_reducible rfl)
                      try simp only [Act.put, List.getElem_toArray, List.getElem_cons_zero, List.getElem_cons_succ, List.setIfInBounds_toArray, List.set_cons_zero, List.set_cons_succ]
                      refine wpAnyL_take (i := 17) (v := ?v20163) rfl (by kernel_rfl) (by kernel_rfl) (by kernel_rfl) (by kernel_rfl) (fun _ _ _ h => h) (Or.inl ⟨by kernel_rfl, ?hy20163⟩) (by assumption) ?r20163
                      case hy20163 => (intro W hSW; obtain ⟨hV0, ⟨p0, p1, p2, p3, p4⟩, ⟨q0, q1, q2, q3, q4⟩⟩ := hSW; go_simp; try with_reducible rfl)
                      try simp only [Act.put, List.getElem_toArray, List.getElem_cons_zero, List.getElem_cons_succ, List.setIfInBounds_toArray, List.set_cons_zero, List.set_cons_succ]
                      refine wpAnyL_take (i := 18) (v := ?v20164) rfl (by kernel_rfl) (by kernel_rfl) (by kernel_rfl) (by kernel_rfl) (fun _ _ _ h => h) (Or.inl ⟨by kernel_rfl, ?hy20164⟩) (by assumption) ?r20164
                      case hy20164 => (intro W hSW; obtain ⟨hV0, ⟨p0, p1, p2, p3, p4⟩, ⟨q0, q1, q2, q3, q4⟩⟩ := hSW; go_simp; try with_reducible rfl)
                      try simp only [Act.put, List.getElem_toArray, List.getElem_cons_zero, List.getElem_cons_succ, List.setIfInBounds_toArray, List.set_cons_zero, List.set_cons_succ]
                      refine wpAnyL_take (i := 19) (v := ?v20165) rfl (by kernel_rfl) (by kernel_rfl) (by kernel_rfl) (by kernel_rfl) (fun _ _ _ h => h) (Or.inl ⟨by kernel_rfl, ?hy20165⟩) (by assumption) ?r20165
                      case hy20165 => (intro W hSW; obtain ⟨hV0, ⟨p0, p1, p2, p3, p4⟩, ⟨q0, q1, q2, q3, q4⟩⟩ := hSW; go_simp; try with_reducible rfl)
                      try simp only [Act.put, List.getElem_toArray, List.getElem_cons_zero, List.getElem_cons_succ, List.setIfInBounds_toArray, List.set_cons_zero, List.set_cons_succ]
                      refine wpAnyL_take (i := 20) (v := ?v20166) rfl (by kernel_rfl) (by kernel_rfl) (by kernel_rfl) (by kernel_rfl) (fun _ _ _ h => h) (Or.inl ⟨by kernel_rfl, ?hy20166⟩) (by assumption) ?r20166
                      case hy20166 => (intro W hSW; obtain ⟨hV0, ⟨p0, p1, p2, p3, p4⟩, ⟨q0, q1, q2, q3, q4⟩⟩ := hSW; go_simp; try with_reducible rfl)
                      try simp only [Act.put, List.getElem_toArray, List.getElem_cons_zero, List.getElem_cons_succ, List.setIfInBounds_toArray, List.set_cons_zero, List.set_cons_succ]
                      refine wpAnyL_take (i := 21) (v := ?v20167) rfl (by kernel_rfl) (by kernel_rfl) (by kernel_rfl) (by kernel_rfl) (fun _ _ _ h => h) (Or.inl ⟨by kernel_rfl, ?hy20167⟩) (by assumption) ?r20167
                      case hy20167 => (intro W hSW; obtain ⟨hV0, ⟨p0, p1, p2, p3, p4⟩, ⟨q0, q1, q2, q3, q4⟩⟩ := hSW; go_simp; try with_reducible rfl)
                      try simp only [Act.put, List.getElem_toArray, List.getElem_cons_zero, List.getElem_cons_succ, List.setIfInBounds_toArray, List.set_cons_zero, List.set_cons_succ]
                      refine wpAnyL_take (i := 22) (v := ?v20168) rfl (by kernel_rfl) (by kernel_rfl) (by kernel_rfl) (by kernel_rfl) (fun _ _ _ h => h) (Or.inl ⟨by kernel_rfl, ?hy20168⟩) (by assumption) ?r20168
                      case hy20168 => (intro W hSW; obtain ⟨hV0, ⟨p0, p1, p2, p3, p4⟩, ⟨q0, q1, q2, q3, q4⟩⟩ := hSW; go_simp; try with_reducible rfl)
                      try simp only [Act.put, List.getElem_toArray, List.getElem_cons_zero, List.getElem_cons_succ, List.setIfInBounds_toArray, List.set_cons_zero, List.set_cons_succ]
                      refine wpAnyL_take (i := 23) (v := ?v20169) rfl (by kernel_rfl) (by kernel_rfl) (by kernel_rfl) (by kernel_rfl) (fun _ _ _ h => h) (Or.inl ⟨by kernel_rfl, ?hy20169⟩) (by assumption) ?r20169
                      case hy20169 => (intro W hSW; obtain ⟨hV0, ⟨p0, p1, p2, p3, p4⟩, ⟨q0, q1, q2, q3, q4⟩⟩ := hSW; go_simp; try with_reducible rfl)
                      try simp only [Act.put, List.getElem_toArray, List.getElem_cons_zero, List.getElem_cons_succ, List.setIfInBounds_toArray, List.set_cons_zero, List.set_cons_succ]
                      refine wpAnyL_take (i := 24) (v := ?v20170) rfl (by kernel_rfl) (by kernel_rfl) (by kernel_rfl) (by kernel_rfl) (fun _ _ _ h => h) (Or.inl ⟨by kernel_rfl, ?hy20170⟩) (by assumption) ?r20170
                      case hy20170 => (intro W hSW; obtain ⟨hV0, ⟨p0, p1, p2, p3, p4⟩, ⟨q0, q1, q2, q3, q4⟩⟩ := hSW; go_simp; try with_reducible rfl)
                      try simp only [Act.put, List.getElem_toArray, List.getElem_cons_zero, List.getElem_cons_succ, List.setIfInBounds_toArray, List.set_cons_zero, List.set_cons_succ]
                      refine wpAnyL_take (i := 25) (v := ?v20171) rfl (by kernel_rfl) (by kernel_rfl) (by kernel_rfl) (by kernel_rfl) (fun _ _ _ h => h) (Or.inl ⟨by kernel_rfl, ?hy20171⟩) (by assumption) ?r20171
                      case hy20171 => (intro W hSW; obtain ⟨hV0, ⟨p0, p1, p2, p3, p4⟩, ⟨q0, q1, q2, q3, q4⟩⟩ := hSW; go_simp; try with_reducible rfl)
                      try simp only [Act.put, List.getElem_toArray, List.getElem_cons_zero, List.getElem_cons_succ, List.setIfInBounds_toArray, List.set_cons_zero, List.set_cons_succ]
                      refine wpAnyL_take (i := 26) (v := ?v20172) rfl (by kernel_rfl) (by kernel_rfl) (by kernel_rfl) (by kernel_rfl) (fun _ _ _ h => h) (Or.inl ⟨by kernel_rfl, ?hy20172⟩) (by assumption) ?r20172
                      case hy20172 => (intro W hSW; obtain ⟨hV0, ⟨p0, p1, p2, p3, p4⟩, ⟨q0, q1, q2, q3, q4⟩⟩ := hSW; go_simp; try with_reducible rfl)
                      try simp only [Act.put, List.getElem_toArray, List.getElem_cons_zero, List.getElem_cons_succ, List.setIfInBounds_toArray, List.set_cons_zero, List.set_cons_succ]
                      refine wpAnyL_take (i := 27) (v := ?v20173) rfl (by kernel_rfl) (by kernel_rfl) (by kernel_rfl) (by kernel_rfl) (fun _ _ _ h => h) (Or.inl ⟨by kernel_rfl, ?hy20173⟩) (by assumption) ?r20173
                      case hy20173 => (intro W hSW; obtain ⟨hV0, ⟨p0, p1, p2, p3, p4⟩, ⟨q0, q1, q2, q3, q4⟩⟩ := hSW; go_simp; try with_reducible rfl)
                      try simp only [Act.put, List.getElem_toArray, List.getElem_cons_zero, List.getElem_cons_succ, List.setIfInBounds_toArray, List.set_cons_zero, List.set_cons_succ]
                      refine wpAnyL_take (i := 28) (v := ?v20174) rfl (by kernel_rfl) (by kernel_rfl) (by kernel_rfl) (by kernel_rfl) (fun _ _ _ h => h) (Or.inl ⟨by kernel_rfl, ?hy20174⟩) (by assumption) ?r20174
                      case hy20174 => (intro W hSW; obtain ⟨hV0, ⟨p0, p1, p2, p3, p4⟩, ⟨q0, q1, q2, q3, q4⟩⟩ := hSW; go_simp; try with_reducible rfl)
                      try simp only [Act.put, List.getElem_toArray, List.getElem_cons_zero, List.getElem_cons_succ, List.setIfInBounds_toArray, List.set_cons_zero, List.set_cons_succ]
                      refine wpAnyL_take (i := 29) (v := ?v20175) rfl (by kernel_rfl) (by kernel_rfl) (by kernel_rfl) (by kernel_rfl) (fun _ _ _ h => h) (Or.inl ⟨by kernel_rfl, ?hy20175⟩) (by assumption) ?r20175
                      case hy20175 => (intro W hSW; obtain ⟨hV0, ⟨p0, p1, p2, p3, p4⟩, ⟨q0, q1, q2, q3, q4⟩⟩ := hSW; go_simp; try with_reducible rfl)
                      try simp only [Act.put, List.getElem_toArray, List.getElem_cons_zero, List.getElem_cons_succ, List.setIfInBounds_toArray, List.set_cons_zero, List.set_cons_succ]
                      refine wpAnyL_take (i := 30) (v := ?v20176) rfl (by kernel_rfl) (by kernel_rfl) (by kernel_rfl) (by kernel_rfl) (fun _ _ _ h => h) (Or.inl ⟨by kernel_rfl, ?hy20176⟩) (by assumption) ?r20176
                      case hy20176 => (intro W hSW; obtain ⟨hV0, ⟨p0, p1, p2, p3, p4⟩, ⟨q0, q1, q2, q3, q4⟩⟩ := hSW; go_simp; try with_reducible rfl)
                      try simp only [Act.put, List.getElem_toArray, List.getElem_cons_zero, List.getElem_cons_succ, List.setIfInBounds_toArray, List.set_cons_zero, List.set_cons_succ]
                      refine wpAnyL_take (i := 31) (v := ?v20177) rfl (by kernel_rfl) (by kernel_rfl) (by kernel_rfl) (by kernel_rfl) (fun _ _ _ h => h) (Or.inl ⟨by kernel_rfl, ?hy20177⟩) (by assumption) ?r20177
                      case hy20177 => (intro W hSW; obtain ⟨hV0, ⟨p0, p1, p2, p3, p4⟩, ⟨q0, q1, q2, q3, q4⟩⟩ := hSW; go_simp; try with_reducible rfl)
                      try simp only [Act.put, List.getElem_toArray, List.getElem_cons_zero, List.getElem_cons_succ, List.setIfInBounds_toArray, List.set_cons_zero, List.set_cons_succ]
                      refine wpAnyL_take (i := 32) (v := ?v20178) rfl (by kernel_rfl) (by kernel_rfl) (by kernel_rfl) (by kernel_rfl) (fun _ _ _ h => h) (Or.inl ⟨by kernel_rfl, ?hy20178⟩) (by assumption) ?r20178
                      case hy20178 => (intro W hSW; obtain ⟨hV0, ⟨p0, p1, p2, p3, p4⟩, ⟨q0, q1, q2, q3, q4⟩⟩ := hSW; go_simp; try with_reducible rfl)
                      try simp only [Act.put, List.getElem_toArray, List.getElem_cons_zero, List.getElem_cons_succ, List.setIfInBounds_toArray, List.set_cons_zero, List.set_cons_succ]
                      refine wpAnyL_take (i := 33) (v := ?v20179) rfl (by kernel_rfl) (by kernel_rfl) (by kernel_rfl) (by kernel_rfl) (fun _ _ _ h => h) (Or.inl ⟨by kernel_rfl, ?hy20179⟩) (by assumption) ?r20179
                      case hy20179 => (intro W hSW; obtain ⟨hV0, ⟨p0, p1, p2, p3, p4⟩, ⟨q0, q1, q2, q3, q4⟩⟩ := hSW; go_simp; try with_reducible rfl)
                      try simp only [Act.put, List.getElem_toArray, List.getElem_cons_zero, List.getElem_cons_succ, List.setIfInBounds_toArray, List.set_cons_zero, List.set_cons_succ]
                      refine wpAnyL_take (i := 34) (v := ?v20180) rfl (by kernel_rfl) (by kernel_rfl) (by kernel_rfl) (by kernel_rfl) (fun _ _ _ h => h) (Or.inl ⟨by kernel_rfl, ?hy20180⟩) (by assumption) ?r20180
                      case hy20180 => (intro W hSW; obtain ⟨hV0, ⟨p0, p1, p2, p3, p4⟩, ⟨q0, q1, q2, q3, q4⟩⟩ := hSW; go_simp; try with_reducible rfl)
                      try simp only [Act.put, List.getElem_toArray, List.getElem_cons_zero, List.getElem_cons_succ, List.setIfInBounds_toArray, List.set_cons_zero, List.set_cons_succ]
                      refine wpAnyL_take (i := 35) (v := ?v20181) rfl (by kernel_rfl) (by kernel_rfl) (by kernel_rfl) (by kernel_rfl) (fun _ _ _ h => h) (Or.inl ⟨by kernel_rfl, ?hy20181⟩) (by assumption) ?r20181
                      case hy20181 => (intro W hSW; obtain ⟨hV0, ⟨p0, p1, p2, p3, p4⟩, ⟨q0, q1, q2, q3, q4⟩⟩ := hSW; go_simp; try with_reducible rfl)
                      try simp only [Act.put, List.getElem_toArray, List.getElem_cons_zero, List.getElem_cons_succ, List.setIfInBounds_toArray, List.set_cons_zero, List.set_cons_succ]
                      refine wpAnyL_take (i := 36) (v := ?v20182) rfl (by kernel_rfl) (by kernel_rfl) (by kernel_rfl) (by kernel_rfl) (fun _ _ _ h => h) (Or.inl ⟨by kernel_rfl, ?hy20182⟩) (by assumption) ?r20182
                      case hy20182 => (intro W hSW; obtain ⟨hV0, ⟨p0, p1, p2, p3, p4⟩, ⟨q0, q1, q2, q3, q4⟩⟩ := hSW; go_simp; try with_reducible rfl)
                      try simp only [Act.put, List.getElem_toArray, List.getElem_cons_zero, List.getElem_cons_succ, List.setIfInBounds_toArray, List.set_cons_zero, List.set_cons_succ]
                      refine wpAnyL_take (i := 37) (v := ?v20183) rfl (by kernel_rfl) (by kernel_rfl) (by kernel_rfl) (by kernel_rfl) (fun _ _ _ h => h) (Or.inl ⟨by kernel_rfl, ?hy20183⟩) (by assumption) ?r20183
                      case hy20183 => (intro W hSW; obtain ⟨hV0, ⟨p0, p1, p2, p3, p4⟩, ⟨q0, q1, q2, q3, q4⟩⟩ := hSW; go_simp; try with_reducible rfl)
                      try simp only [Act.put, List.getElem_toArray, List.getElem_cons_zero, List.getElem_cons_succ, List.setIfInBounds_toArray, List.set_cons_zero, List.set_cons_succ]
                      refine wpAnyL_take (i := 38) (v := ?v20184) rfl (by kernel_rfl) (by kernel_rfl) (by kernel_rfl) (by kernel_rfl) (fun _ _ _ h => h) (Or.inl ⟨by kernel_rfl, ?hy20184⟩) (by assumption) ?r20184
                      case hy20184 => (intro W hSW; obtain ⟨hV0, ⟨p0, p1, p2, p3, p4⟩, ⟨q0, q1, q2, q3, q4⟩⟩ := hSW; go_simp; try with_reducible rfl)
                      try simp only [Act.put, List.getElem_toArray, List.getElem_cons_zero, List.getElem_cons_succ, List.setIfInBounds_toArray, List.set_cons_zero, List.set_cons_succ]
                      refine wpAnyL_take (i := 39) (v := ?v20185) rfl (by kernel_rfl) (by kernel_rfl) (by kernel_rfl) (by kernel_rfl) (fun _ _ _ h => h) (Or.inl ⟨by kernel_rfl, ?hy20185⟩) (by assumption) ?r20185
                      case hy20185 => (intro W hSW; obtain ⟨hV0, ⟨p0, p1, p2, p3, p4⟩, ⟨q0, q1, q2, q3, q4⟩⟩ := hSW; go_simp; try with_reducible rfl)
                      try simp only [Act.put, List.getElem_toArray, List.getElem_cons_zero, List.getElem_cons_succ, List.setIfInBounds_toArray, List.set_cons_zero, List.set_cons_succ]
                      refine wpAnyL_take (i := 40) (v := ?v20186) rfl (by kernel_rfl) (by kernel_rfl) (by kernel_rfl) (by kernel_rfl) (fun _ _ _ h => h) (Or.inl ⟨by kernel_rfl, ?hy20186⟩) (by assumption) ?r20186
                      case hy20186 => (intro W hSW; obtain ⟨hV0, ⟨p0, p1, p2, p3, p4⟩, ⟨q0, q1, q2, q3, q4⟩⟩ := hSW; go_simp; try with_reducible rfl)
                      try simp only [Act.put, List.getElem_toArray, List.getElem_cons_zero, List.getElem_cons_succ, List.setIfInBounds_toArray, List.set_cons_zero, List.set_cons_succ]
                      refine wpAnyL_take (i := 41) (v := ?v20187) rfl (by kernel_rfl) (by kernel_rfl) (by kernel_rfl) (by kernel_rfl) (fun _ _ _ h => h) (Or.inl ⟨by kernel_rfl, ?hy20187⟩) (by assumption) ?r20187
                      case hy20187 => (intro W hSW; obtain ⟨hV0, ⟨p0, p1, p2, p3, p4⟩, ⟨q0, q1, q2, q3, q4⟩⟩ := hSW; go_simp; try with_reducible rfl)
                      try simp only [Act.put, List.getElem_toArray, List.getElem_cons_zero, List.getElem_cons_succ, List.setIfInBounds_toArray, List.set_cons_zero, List.set_cons_succ]
                      refine wpAnyL_take (i := 42) (v := ?v20188) rfl (by kernel_rfl) (by kernel_rfl) (by kernel_rfl) (by kernel_rfl) (fun _ _ _ h => h) (Or.inl ⟨by kernel_rfl, ?hy20188⟩) (by assumption) ?r20188
                      case hy20188 => (intro W hSW; obtain ⟨hV0, ⟨p0, p1, p2, p3, p4⟩, ⟨q0, q1, q2, q3, q4⟩⟩ := hSW; go_simp; try with_reducible rfl)
                      try simp only [Act.put, List.getElem_toArray, List.getElem_cons_zero, List.getElem_cons_succ, List.setIfInBounds_toArray, List.set_cons_zero, List.set_cons_succ]
                      refine wpAnyL_take (i := 43) (v := ?v20189) rfl (by kernel_rfl) (by kernel_rfl) (by kernel_rfl) (by kernel_rfl) (fun _ _ _ h => h) (Or.inl ⟨by kernel_rfl, ?hy20189⟩) (by assumption) ?r20189
                      case hy20189 => (intro W hSW; obtain ⟨hV0, ⟨p0, p1, p2, p3, p4⟩, ⟨q0, q1, q2, q3, q4⟩⟩ := hSW; go_simp; try with_reducible rfl)
                      try simp only [Act.put, List.getElem_toArray, List.getElem_cons_zero, List.getElem_cons_succ, List.setIfInBounds_toArray, List.set_cons_zero, List.set_cons_succ]
                      refine wpAnyL_take (i := 44) (v := ?v20190) rfl (by kernel_rfl) (by kernel_rfl) (by kernel_rfl) (by kernel_rfl) (fun _ _ _ h => h) (Or.inl ⟨by kernel_rfl, ?hy20190⟩) (by assumption) ?r20190
                      case hy20190 => (intro W hSW; obtain ⟨hV0, ⟨p0, p1, p2, p3, p4⟩, ⟨q0, q1, q2, q3, q4⟩⟩ := hSW; go_simp; try with_reducible rfl)
                      try simp only [Act.put, List.getElem_toArray, List.getElem_cons_zero, List.getElem_cons_succ, List.setIfInBounds_toArray, List.set_cons_zero, List.set_cons_succ]
                      refine wpAnyL_take (i := 45) (v := ?v20191) rfl (by kernel_rfl) (by kernel_rfl) (by kernel_rfl) (by kernel_rfl) (fun _ _ _ h => h) (Or.inl ⟨by kernel_rfl, ?hy20191⟩) (by assumption) ?r20191
                      case hy20191 => (intro W hSW; obtain ⟨hV0, ⟨p0, p1, p2, p3, p4⟩, ⟨q0, q1, q2, q3, q4⟩⟩ := hSW; go_simp; try with_reducible rfl)
                      try simp only [Act.put, List.getElem_toArray, List.getElem_cons_zero, List.getElem_cons_succ, List.setIfInBounds_toArray, List.set_cons_zero, List.set_cons_succ]
                      refine wpAnyL_take (i := 46) (v := undef) rfl (by kernel_rfl) (by kernel_rfl) (by kernel_rfl) (by kernel_rfl) (fun _ _ _ h => h) (Or.inr ⟨by kernel_rfl, rfl⟩) (by assumption) ?r20192
                      try simp only [Act.put, List.getElem_toArray, List.getElem_cons_zero, List.getElem_cons_succ, List.setIfInBounds_toArray, List.set_cons_zero, List.set_cons_succ]
                      refine wpAnyL_take (i := 47) (v := undef) rfl (by kernel_rfl) (by kernel_rfl) (by kernel_rfl) (by kernel_rfl) (fun _ _ _ h => h) (Or.inr ⟨by kernel_rfl, rfl⟩) (by assumption) ?r20193
                      try simp only [Act.put, List.getElem_toArray, List.getElem_cons_zero, List.getElem_cons_succ, List.setIfInBounds_toArray, List.set_cons_zero, List.set_cons_succ]
                      refine wpAnyL_take (i := 48) (v := undef) rfl (by kernel_rfl) (by kernel_rfl) (by kernel_rfl) (by kernel_rfl) (fun _ _ _ h => h) (Or.inr ⟨by kernel_rfl, rfl⟩) (by assumption) ?r20194
                      try simp only [Act.put, List.getElem_toArray, List.getElem_cons_zero, List.getElem_cons_succ, List.setIfInBounds_toArray, List.set_cons_zero, List.set_cons_succ]
                      refine wpAnyL_take (i := 49) (v := undef) rfl (by kernel_rfl) (by kernel_rfl) (by kernel_rfl) (by kernel_rfl) (fun _ _ _ h => h) (Or.inr ⟨by kernel_rfl, rfl⟩) (by assumption) ?r20195
                      try simp only [Act.put, List.getElem_toArray, List.getElem_cons_zero, List.getElem_cons_succ, List.setIfInBounds_toArray, List.set_cons_zero, List.set_cons_succ]
                      refine wpAnyL_take (i := 50) (v := undef) rfl (by kernel_rfl) (by kernel_rfl) (by kernel_rfl) (by kernel_rfl) (fun _ _ _ h => h) (Or.inr ⟨by kernel_rfl, rfl⟩) (by assumption) ?r20196
                      try simp only [Act.put, List.getElem_toArray, List.getElem_cons_zero, List.getElem_cons_succ, List.setIfInBounds_toArray, List.set_cons_zero, List.set_cons_succ]
                      refine wpAnyL_take (i := 51) (v := undef) rfl (by kernel_rfl) (by kernel_rfl) (by kernel_rfl) (by kernel_rfl) (fun _ _ _ h => h) (Or.inr ⟨by kernel_rfl, rfl⟩) (by assumption) ?r20197
                      try simp only [Act.put, List.getElem_toArray, List.getElem_cons_zero, List.getElem_cons_succ, List.setIfInBounds_toArray, List.set_cons_zero, List.set_cons_succ]
                      refine wpAnyL_take (i := 52) (v := ?v20198) rfl (by kernel_rfl) (by kernel_rfl) (by kernel_rfl) (by kernel_rfl) (fun _ _ _ h => h) (Or.inl ⟨by kernel_rfl, ?hy20198⟩) (by assumption) ?r20198
                      case hy20198 => (intro W hSW; obtain ⟨hV0, ⟨p0, p1, p2, p3, p4⟩, ⟨q0, q1, q2, q3, q4⟩⟩ := hSW; go_simp; try with_reducible rfl)
                      try simp only [Act.put, List.getElem_toArray, List.getElem_cons_zero, List.getElem_cons_succ, List.setIfInBounds_toArray, List.set_cons_zero, List.set_cons_succ]
                      refine wpAnyL_last (by kernel_rfl) rfl (fun K hK => ?_)
                      go_simp
                      refine hK.out _ _ ?_
                      clear hK K
                      try simp only [Act.put, List.getElem_toArray, List.getElem_cons_zero, List.getElem_cons_succ, List.setIfInBounds_toArray, List.set_cons_zero, List.set_cons_succ]
                      refine wpAnyL_done (by kernel_rfl) ?_ _
                      refine NoPanic.normal ?_
                      have hbj := hH.1
                      clear hH HS jw jw2
                      go_wp2_with fail
                      go_meet
                      exact ⟨rfl, hbj⟩
                case rest =>
                  obtain ⟨w8, rfl⟩ : ∃ w8, w8 = wc := ⟨wc, rfl⟩
                  obtain ⟨e153, hbj⟩ := hcut
                  subst e153
                  have hbk8 := hbk.trans (hbj.mono hbk.size)
                  clear jw jw2
                  go_wp2
                  go_roundw
                  case rel => exact ⟨j + 1, by go_num, by omega, (by have h9 := HEn.out; omega), hbk8⟩
                  case measure => simp [intOf]; omega
            · have hjE : j + 1 = E.length := by omega
              have z1 : decide ((j : Int) + 1 < (E.length : Int)) = false := decide_eq_false (by omega)
              have hbe := Hbo.out.trans (hbk.mono Hbo.out.size)
              clear hjE
              go_wp2
              go_ret
              exact ⟨rfl, hbe⟩
      · have e1 : (ac.name.toList == k.toList) = false := beqS_of_ne hnm
        have e2 : (ac.name.toList != k.toList) = true := by rw [bne, e1]; rfl
        have Hnx2 := Lib.hid (Hnx.out hnm)
        subst hAA
        clear hnm Hnx Hno Hac Hmem
        go_wp2
        go_roundw
        case rel => exact ⟨i + 1, by go_num, by omega, Hnx2, hbi⟩
        case measure => simp [intOf]; omega
    · obtain rfl : i = L.length := by omega
      have g1 : decide ((L.length : Int) < (L.length : Int)) = false := decide_eq_false (by omega)
      have hE0 : E = [] := HLaw.out.none_ (getK_none.2 fun a ha e => by
        obtain ⟨j, hj, rfl⟩ := List.mem_iff_getElem.1 ha
        exact Hno.out j hj hj e)
      subst hE0
      have HD := Lib.hid (fun W => sdo_nil W)
      have HR := Lib.hid (fun W => sread_nil ⟨#[97]⟩ ⟨#[97]⟩ W)
      have HOf := Lib.hid (fun W => sof_nil k W)
      have HBk := Lib.hid (fun W => sbook_nil W)
      have hfd : ∀ W : World, (Instr.field 44 (.agg #[i64 1, i64 0, i64 0, i64 0]) 0).run Tryz.prog W = .ok (i64 1) W := fun W => by kernel_rfl
      clear Hno HLaw HA HE Hsrt
      go_wp2_with fail
      refine (HD.out _).mono ?_
      rintro e w5 ⟨rfl, hF⟩
      have hb5 := hbi.trans (hF.mono hwi)
      clear HD hF
      go_wp2_with fail
      refine (HR.out _).mono ?_
      rintro e w6 ⟨rfl, rfl⟩
      go_wp2_with fail
      refine (HOf.out _).mono ?_
      rintro e w6 ⟨rfl, rfl⟩
      go_wp2_with fail
      refine (HBk.out _).mono ?_
      rintro e w6 ⟨rfl, rfl⟩
      have hbe := Hbo.out.trans (hb5.mono Hbo.out.size)
      clear HR HOf HBk
      go_wp2
      go_ret
      exact ⟨rfl, hbe⟩
end Go.Proofs.YtdkkblhfjblpkaaGreat
