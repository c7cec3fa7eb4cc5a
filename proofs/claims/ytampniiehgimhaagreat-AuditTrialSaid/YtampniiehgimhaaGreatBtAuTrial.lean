/- AuditTrial -/
import Derived.Test.YtampniiehgimhaaGreatRows
import Derived.Test.YtampniiehgimhaaGreatBtRa22T
import Derived.Test.YtampniiehgimhaaGreatBt32
import Derived.Test.YtampniiehgimhaaGreatBs4
import Derived.Test.YtampniiehgimhaaGreatBs5
import Derived.Test.YtampniiehgimhaaGreatBt37
import Derived.WalkKit
import Derived.WalkSpells
import Derived.WalkLawsBesides
import Derived.Deep.QuietTactic
import Derived.BigQuiet
import Derived.Laws.StructEq
import Derived.Deep.DeepFit
import Derived.StillTailTactics
import Derived.Test.YtampniiehgimhaaGreatBtX

namespace Go.Proofs.YtampniiehgimhaaGreat
open Go.RowKit
set_option maxRecDepth 100000 in
set_option maxHeartbeats 16000000 in
theorem auditTrial_c (A : Option Addr) (c : Nat) (l : List Od) (x y z : Int) (k : ByteArray) (w : World) (h : Sl w w.heap.size A c l) (hr : ∀ x ∈ l, InR x) (_hs : k.size ≤ maxLen) :
  Calls Tryz.prog 6 #[.slice A l.length c, .agg #[i64 x, i64 y, i64 z], .string k] w fun e w' => e = .returned (.bool true) ∧ Below w.heap.size w w' := by
 have hL := Lib.hid fun W => lives_22 W
 have Hod := Lib.hid (fewL_od (n := 60) h hr)
 have hba := (Below.refl w.heap.size w).alloc (Nat.le_refl _) (.cells #[i64 x, i64 y, i64 z] 94)
 have hob := heap_alloc_new w (.cells #[i64 x, i64 y, i64 z] 94)
 have c0 := cell_of_row _ w.heap.size 0 _ _ (0, 0) hob
 have c1 := cell_of_row _ w.heap.size 1 _ _ (0, 0) hob
 have c2 := cell_of_row _ w.heap.size 2 _ _ (0, 0) hob
 simp only [List.getElem?_toArray, List.getElem?_cons_zero, List.getElem?_cons_succ] at c0 c1 c2
 have hl0 := h.later hba
 have hz0 : w.heap.size < (w.alloc (.cells #[i64 x, i64 y, i64 z] 94)).heap.size := by simp
 clear h hr hob
 go_enter Tryz.func6, Tryz.ntmps6
 go_wp2_with fail
 generalize w.alloc (.cells #[i64 x, i64 y, i64 z] 94) = w0 at *
 have HAt := Lib.hid (show ∀ V, Below w0.heap.size w0 V → V.cell? ⟨w.heap.size, 0, none⟩ = some (i64 x) ∧ V.cell? ⟨w.heap.size, 1, none⟩ = some (i64 y) ∧ V.cell? ⟨w.heap.size, 2, none⟩ = some (i64 z) from fun V hV => ⟨(hV.cell (p := ⟨w.heap.size, 0, none⟩) hz0).trans c0, (hV.cell (p := ⟨w.heap.size, 1, none⟩) hz0).trans c1, (hV.cell (p := ⟨w.heap.size, 2, none⟩) hz0).trans c2⟩)
 clear c0 c1 c2
 refine (hL.out _).mono ?_
 rintro e w1 ⟨rfl, hF⟩
 have hb1 := hF
 have HFw := Lib.hid (few_22 A c 60 l w1 (hl0.later hF) (by decide))
 clear hL hF hl0
 go_wp2_with fail
 refine HFw.out.mono ?_
 rintro e w2 ⟨v, rfl, hO, hF⟩
 have hn := fewL_le 60 l
 have Hleg := Lib.hid (show ∀ x ∈ fewL 60 l, x.legs.length ≤ 65536 from fun x hx => Nat.le_trans (fewL_legs 60 l x hx) (by decide))
 have hb2 := below_on hb1 (Nat.le_refl _) hF
 obtain ⟨AF, cF, rfl, hsF⟩ := hO.sl
 have hcF : (fewL 60 l).length ≤ cF := hsF.1
 have HFs := Lib.hid (fun V (hV : Below w2.heap.size w2 V) => hsF.later hV)
 clear hF hb1 HFw hO hsF
 generalize fewL 60 l = F at *
 have HT1 := Lib.hid (fun V (hV : Below w2.heap.size w2 V) => atrial_c AF cF F x V (HFs.out V hV) Hod.out Hleg.out (by omega))
 have HT2 := Lib.hid (fun V (hV : Below w2.heap.size w2 V) => rtrial_c AF cF F x V (HFs.out V hV) Hod.out Hleg.out (by omega))
 have HB1 := Lib.hid (fun V (hV : Below w2.heap.size w2 V) => abetw_c AF cF F k y z V (HFs.out V hV) Hod.out Hleg.out (by omega))
 have HB2 := Lib.hid (fun V (hV : Below w2.heap.size w2 V) => rbetw_c AF cF F k y z V (HFs.out V hV) Hod.out Hleg.out (by omega))
 generalize trialL (legsR (movedL F) 0 x) = R at *
 generalize betwL (legsR (movedL F) y z) k = B at *
 obtain ⟨c0, c1, c2⟩ := HAt.out _ hb2
 have hw2 := hb2.size
 clear Hod Hleg HFs
 go_wp2_with fail
 refine (HT1.out _ (Below.refl _ _)).mono ?_
 rintro e w3 ⟨v3, rfl, hO3, hF3⟩
 obtain ⟨A3, c3, rfl, s3⟩ := hO3.sl
 have hb3 := hb2.trans (hF3.mono hw2)
 obtain ⟨c0, c1, c2⟩ := HAt.out _ hb3
 have hc3 := s3.1
 have hc3m : c3 ≤ 9223372036854775807 := Nat.le_trans s3.2.1 (by decide)
 have H3 := Lib.hid (fun V (hV : Below w3.heap.size w3 V) => s3.later hV)
 clear hO3 s3
 go_wp2_with fail
 refine (HT2.out _ hF3).mono ?_
 rintro e w4 ⟨v4, rfl, hO4, hF4⟩
 obtain ⟨A4, c4, rfl, s4⟩ := hO4.sl
 have hb34 := hF4
 have hb24 := below_on hF3 (Nat.le_refl _) hF4
 obtain ⟨c0, c1, c2⟩ := HAt.out _ (hb2.trans (hb24.mono hw2))
 have hc4 := s4.1
 have H4 := Lib.hid (fun V (hV : Below w4.heap.size w4 V) => s4.later hV)
 clear hO4 s4 hF3 hF4 hb3
 go_wp2_with fail
 refine (HB1.out _ hb24).mono ?_
 rintro e w5 ⟨rfl, hF5⟩
 have hb45 := hF5
 have hb25 := below_on hb24 (Nat.le_refl _) hF5
 obtain ⟨c0, c1, c2⟩ := HAt.out _ (hb2.trans (hb25.mono hw2))
 clear hF5 hb24
 go_wp2_with fail
 refine (HB2.out _ hb25).mono ?_
 rintro e w6 ⟨rfl, hF6⟩
 have hb26 := below_on hb25 (Nat.le_refl _) hF6
 have hb46 := below_on hb45 (Nat.le_refl _) hF6
 have Hb6 := Lib.hid (hba.trans ((hb2.trans (hb26.mono hw2)).mono (Nat.le_of_lt hz0)))
 have H36 := Lib.hid (fun V (hV : Below w6.heap.size w6 V) => H3.out V (below_on (below_on hb34 (Nat.le_refl _) hb46) (Nat.le_refl _) hV))
 have H46 := Lib.hid (fun V (hV : Below w6.heap.size w6 V) => H4.out V (below_on hb46 (Nat.le_refl _) hV))
 have hw6 := Hb6.out.size
 clear hF6 hb25 hb26 hb45 hb46 hb34 hb2 HT1 HT2 HB1 HB2 c0 c1 c2 HAt H3 H4 hba
 obtain ⟨L, r⟩ := R
 obtain ⟨n, g⟩ := B
 dsimp only at *
 have q1 : (r != r) = false := by simp
 have q2 : (n != n) = false := by simp
 have q3 : (g != g) = false := by simp
 have q4 : ((L.length : Int) != (L.length : Int)) = false := by simp
 go_wp2_with fail
 go_loopw [15] (fun v wr => ∃ j : Nat, v = i64 j ∧ j ≤ L.length ∧ Below w6.heap.size w6 wr) (fun v _ => L.length - (intOf v).toNat)
 case atStart => exact ⟨0, rfl, Nat.zero_le _, Below.refl _ _⟩
 case round =>
  obtain ⟨j, rfl, hj, hb⟩ := hrel
  by_cases hlt : j < L.length
  ·have g1 : decide ((j : Int) < (L.length : Int)) = true := decide_eq_true (by omega)
   have g2 : decide (j < L.length) = true := decide_eq_true hlt
   have i0 : (0 : Int) ≤ (j : Int) := by omega
   have i1 : (j : Int) < (L.length : Int) := by omega
   obtain ⟨ba, oa, hA, -, -, -, -, -⟩ := (H36.out _ hb).ln hlt
   obtain ⟨bb, ob, hB, -, -, -, -, -⟩ := (H46.out _ hb).ln hlt
   subst hA hB
   have HS := Lib.hid (show ∀ V, Below wr.heap.size wr V → (fun V : World => V.cell? ⟨ba, oa + j * 3, none⟩ = some (.string L[j].acct) ∧ V.cell? ⟨ba, oa + j * 3 + 1, none⟩ = some (i64 L[j].inn) ∧ V.cell? ⟨ba, oa + j * 3 + 2, none⟩ = some (i64 L[j].out) ∧ V.cell? ⟨bb, ob + j * 3, none⟩ = some (.string L[j].acct) ∧ V.cell? ⟨bb, ob + j * 3 + 1, none⟩ = some (i64 L[j].inn) ∧ V.cell? ⟨bb, ob + j * 3 + 2, none⟩ = some (i64 L[j].out)) V from fun V hV => by
    obtain ⟨ba', oa', hA, -, -, m0, m1, m2⟩ := (H36.out _ (below_on hb (Nat.le_refl _) hV)).ln hlt
    obtain ⟨bb', ob', hB, -, -, k0, k1, k2⟩ := (H46.out _ (below_on hb (Nat.le_refl _) hV)).ln hlt
    injection hA with hA
    injection hA with hA1 hA2
    injection hB with hB
    injection hB with hB1 hB2
    subst hA1 hA2 hB1 hB2
    exact ⟨m0, m1, m2, k0, k1, k2⟩)
   generalize L[j] = y1 at *
   have hlt2 : j + 1 ≤ L.length := hlt
   have p1 := beqS_of_eq (show y1.acct = y1.acct from rfl)
   have p2 : (y1.inn != y1.inn) = false := by simp
   have p3 : (y1.out != y1.out) = false := by simp
   go_upto_region 13 with fail
   refine wp_region_noPanic ?_
   refine wp_region_l 36 (fun V : World => V.cell? ⟨ba, oa + j * 3, none⟩ = some (.string y1.acct) ∧ V.cell? ⟨ba, oa + j * 3 + 1, none⟩ = some (i64 y1.inn) ∧ V.cell? ⟨ba, oa + j * 3 + 2, none⟩ = some (i64 y1.out) ∧ V.cell? ⟨bb, ob + j * 3, none⟩ = some (.string y1.acct) ∧ V.cell? ⟨bb, ob + j * 3 + 1, none⟩ = some (i64 y1.inn) ∧ V.cell? ⟨bb, ob + j * 3 + 2, none⟩ = some (i64 y1.out)) (by kernel_rfl) (HS.out _ (Below.refl _ _).drew) (fun hH => ?_)
   refine tkZ 0 ?_; refine tkZ 1 ?_; refine tkZ 2 ?_; refine tkZ 3 ?_; refine tkZ 4 ?_; refine tkZ 5 ?_; refine tkZ 6 ?_; refine tkZ 7 ?_; refine tkZ 8 ?_; refine tkZ 9 ?_; refine tkZ 10 ?_; refine tkZ 11 ?_; refine tkZ 12 ?_; refine tkZ 13 ?_; refine tkZ 14 ?_; refine tkZ 15 ?_; refine tkZ 16 ?_; refine tkZ 17 ?_; refine tkZ 18 ?_; refine tkZ 19 ?_; refine tkZ 20 ?_; refine tkZ 21 ?_; refine tkZ 22 ?_
   refine tkZ 23 ?_; refine tkZ 24 ?_; refine tkZ 25 ?_; refine tkZ 26 ?_; refine tkZ 27 ?_; refine tkZ 28 ?_; refine tkZ 29 ?_; refine tkZ 30 ?_; refine tkZ 31 ?_; refine tkZ 32 ?_; refine tkZ 33 ?_; refine tkZ 34 ?_; refine tkZ 35 ?_
   refine tkL (fun K hK => ?_)
   go_simp
   refine hK.out _ _ ?_
   clear hK K
   try simp only [Act.put, uA, uZ, uS, vA, vZ, vS]
   refine tkD ?_
   clear hH HS
   go_wp2
   go_roundw
   case rel => exact ⟨j + 1, by go_num, by omega, hb.drew⟩
   case measure => simp [intOf]; omega
  ·obtain rfl : j = L.length := by omega
   have g1 : decide ((L.length : Int) < (L.length : Int)) = false := decide_eq_false (by omega)
   go_wp2
   go_ret
   exact ⟨rfl, Hb6.out.trans (hb.mono hw6)⟩
end Go.Proofs.YtampniiehgimhaaGreat
