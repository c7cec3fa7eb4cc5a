/- law09.like -/
import Derived.Test.YtampniiehgimhaaGreatRows
import Derived.Test.YtampniiehgimhaaGreatBn20
import Derived.Test.YtampniiehgimhaaGreatBn15
import Derived.Test.YtampniiehgimhaaGreatBn12
import Derived.Test.YtampniiehgimhaaGreatBn9
import Derived.Test.YtampniiehgimhaaGreatBn14
import Derived.WalkKit
import Derived.WalkSpells
import Derived.WalkLawsBesides
import Derived.Deep.QuietTactic
import Derived.BigQuiet
import Derived.Laws.StructEq
import Derived.Deep.DeepFit
import Derived.StillTailTactics
namespace Go.Proofs.YtampniiehgimhaaGreat
open Go.RowKit
set_option maxRecDepth 100000 in
set_option maxHeartbeats 8000000 in
theorem like9_c (b : BA) (a : RA) (T : Nat → Prop) (B : Bk) (w : World) (hb : BkA w b B) (ha : RkIs w a T B) (hI : InvB B) :
  Calls Tryz.prog 14 #[b.ptr, a.ptr] w fun e w' => e = .returned (.bool true) ∧ Below w.heap.size w w' := by
 have HH := Lib.hid (bholds_c b B w hb hI)
 have HB := Lib.hid hb
 have HAc := Lib.hid (fun W (hW : BkA W b B) => baccts_c b B W hW hI)
 have HCl := Lib.hid (fun W (hW : BkA W b B) => bclosed_c b B W hW)
 have Hln := Lib.hid (show B.L.length ≤ 65536 from Nat.le_trans hI.len (by decide))
 have HA := Lib.hid ha
 have hl96 := hI.lenH
 clear hb hI ha
 go_enter Tryz.func14, Tryz.ntmps14
 go_wp2_with fail
 refine HH.out.mono ?_
 rintro e W2 ⟨v5, rfl, hO5, hF⟩
 have hB2 := HB.out.later hF
 have ha2 := HA.out.later hF
 obtain ⟨A5, c5, rfl, s5⟩ := hO5.sl
 have hr := ha2.cell
 obtain ⟨A1, c1, hc1, hs1, -⟩ := ha2.c
 obtain ⟨A2, c2, hc2, hs2, -⟩ := ha2.h
 have Hs1 := Lib.hid hs1
 have Hs2 := Lib.hid hs2
 have Hs5 := Lib.hid s5
 have h5c : B.H.length ≤ c5 := s5.1
 have h2c : B.H.length ≤ c2 := hs2.1
 have Hb2 := Lib.hid hF
 have HSS := Lib.hid (show ∀ V, Below W2.heap.size W2 V → (fun V : World => V.cell? ⟨a.r, 0, none⟩ = some (.pointer (some ⟨a.gc, 0, none⟩)) ∧ V.cell? ⟨a.r, 1, none⟩ = some (.pointer (some ⟨a.gh, 0, none⟩)) ∧ V.cell? ⟨a.r, 2, none⟩ = some (i64 B.cl) ∧ V.cell? ⟨a.gc, 0, none⟩ = some (.slice A1 B.L.length c1) ∧ V.cell? ⟨a.gh, 0, none⟩ = some (.slice A2 B.H.length c2)) V from fun V hV => by
  have hr := (hV.block _ (Array.getElem?_eq_some_iff.1 hr).1).trans hr
  have hc1 := (hV.block _ (Array.getElem?_eq_some_iff.1 hc1).1).trans hc1
  have hc2 := (hV.block _ (Array.getElem?_eq_some_iff.1 hc2).1).trans hc2
  exact ⟨cell_of_row _ a.r 0 _ _ (0, 0) hr, cell_of_row _ a.r 1 _ _ (0, 0) hr, cell_of_row _ a.r 2 _ _ (0, 0) hr, cell_of_row _ a.gc 0 _ _ (0, 0) hc1, cell_of_row _ a.gh 0 _ _ (0, 0) hc2⟩)
 have q1 : ((B.H.length : Int) != (B.H.length : Int)) = false := by simp
 have q2 : (B.cl != B.cl) = false := by simp
 clear HH HB HA hF ha2 hr hc1 hc2 hs1 hs2 s5 hO5
 go_wp2_with fail
 refine wp_region_noPanic ?_
 refine wp_region_l 32 (fun V : World => V.cell? ⟨a.r, 0, none⟩ = some (.pointer (some ⟨a.gc, 0, none⟩)) ∧ V.cell? ⟨a.r, 1, none⟩ = some (.pointer (some ⟨a.gh, 0, none⟩)) ∧ V.cell? ⟨a.r, 2, none⟩ = some (i64 B.cl) ∧ V.cell? ⟨a.gc, 0, none⟩ = some (.slice A1 B.L.length c1) ∧ V.cell? ⟨a.gh, 0, none⟩ = some (.slice A2 B.H.length c2)) (by kernel_rfl) (HSS.out _ (Below.refl _ _).drew) (fun hH => ?_)
 refine tkY 0 (v := ?v20001) ?y20001 ?r20001
 case y20001 => (intro W hW; go_simp; try with_reducible rfl)
 try simp only [List.set]
 refine tkY 2 (v := ?v20002) ?y20002 ?r20002
 case y20002 => (intro W hW; go_simp; try with_reducible rfl)
 try simp only [List.set]
 refine tkY 3 (v := ?v20003) ?y20003 ?r20003
 case y20003 => (intro W hW; go_simp; try with_reducible rfl)
 try simp only [List.set]
 refine tkY 4 (v := ?v20004) ?y20004 ?r20004
 case y20004 => (intro W hW; go_simp; try with_reducible rfl)
 try simp only [List.set]
 refine tkY 5 (v := ?v20005) ?y20005 ?r20005
 case y20005 => (intro W hW; go_simp; try with_reducible rfl)
 try simp only [List.set]
 refine tkY 6 (v := ?v20006) ?y20006 ?r20006
 case y20006 => (intro W hW; go_simp; try with_reducible rfl)
 try simp only [List.set]
 refine tkY 7 (v := ?v20007) ?y20007 ?r20007
 case y20007 => (intro W hW; go_simp; try with_reducible rfl)
 try simp only [List.set]
 refine tkY 8 (v := ?v20008) ?y20008 ?r20008
 case y20008 => (intro W hW; go_simp; try with_reducible rfl)
 try simp only [List.set]
 refine wpAnyL_one (i := 1) (by kernel_rfl) rfl (by decide) (fun K hK => ?_)
 refine oper_call1 54 9 _ rfl _ rfl (enters_of Tryz.func54 (by kernel_rfl) rfl) ?_
 refine (HAc.out _ (hB2.later (Below.refl _ _).drew)).mono ?_
 rintro e W3 ⟨v3, rfl, hO3, hF⟩
 obtain ⟨A3, c3, rfl, s3⟩ := hO3.sl
 refine ⟨_, rfl, ?_⟩
 have hF3 := below_on (Below.refl W2.heap.size W2).drew (Nat.le_refl _) hF
 clear hF hO3
 refine hK.out _ _ (HSS.out _ hF3) (fun hH => ?_)
 clear hK K
 try simp only [Act.put, List.getElem_toArray, List.getElem_cons_zero, List.getElem_cons_succ, List.setIfInBounds_toArray, List.set_cons_zero, List.set_cons_succ]
 refine wpAnyL_one (i := 9) (by kernel_rfl) rfl (by decide) (fun K hK => ?_)
 refine oper_call2 68 10 17 _ rfl _ _ rfl rfl (enters_of Tryz.func68 (by kernel_rfl) rfl) ?_
 refine (rsame5_c _ _ A3 A1 c3 c1 B.L B.L W3 s3 (Hs1.out.keep (fun _ hp => hF3.cell hp.1) (fun _ h => h)) Hln.out Hln.out).mono ?_
 rintro e W4 ⟨rfl, hF⟩
 rw [decide_eq_true rfl]
 refine ⟨_, rfl, ?_⟩
 have hF4 := below_on hF3 (Nat.le_refl _) hF
 clear hF
 refine hK.out _ _ (HSS.out _ hF4) (fun hH => ?_)
 clear hK K
 try simp only [Act.put, List.getElem_toArray, List.getElem_cons_zero, List.getElem_cons_succ, List.setIfInBounds_toArray, List.set_cons_zero, List.set_cons_succ]
 refine tkY 10 (v := ?v20009) ?y20009 ?r20009
 case y20009 => (intro W hW; go_simp; try with_reducible rfl)
 try simp only [List.set]
 refine tkY 11 (v := ?v20010) ?y20010 ?r20010
 case y20010 => (intro W hW; go_simp; try with_reducible rfl)
 try simp only [List.set]
 refine tkY 12 (v := ?v20011) ?y20011 ?r20011
 case y20011 => (intro W hW; go_simp; try with_reducible rfl)
 try simp only [List.set]
 refine tkY 13 (v := ?v20012) ?y20012 ?r20012
 case y20012 => (intro W hW; go_simp; try with_reducible rfl)
 try simp only [List.set]
 refine tkY 14 (v := ?v20013) ?y20013 ?r20013
 case y20013 => (intro W hW; go_simp; try with_reducible rfl)
 try simp only [List.set]
 refine tkY 15 (v := ?v20014) ?y20014 ?r20014
 case y20014 => (intro W hW; go_simp; try with_reducible rfl)
 try simp only [List.set]
 refine tkY 16 (v := ?v20015) ?y20015 ?r20015
 case y20015 => (intro W hW; go_simp; try with_reducible rfl)
 try simp only [List.set]
 refine tkY 17 (v := ?v20016) ?y20016 ?r20016
 case y20016 => (intro W hW; go_simp; try with_reducible rfl)
 try simp only [List.set]
 refine tkY 18 (v := ?v20017) ?y20017 ?r20017
 case y20017 => (intro W hW; go_simp; try with_reducible rfl)
 try simp only [List.set]
 refine tkY 19 (v := ?v20018) ?y20018 ?r20018
 case y20018 => (intro W hW; go_simp; try with_reducible rfl)
 try simp only [List.set]
 refine tkY 20 (v := ?v20019) ?y20019 ?r20019
 case y20019 => (intro W hW; go_simp; try with_reducible rfl)
 try simp only [List.set]
 refine tkY 21 (v := ?v20020) ?y20020 ?r20020
 case y20020 => (intro W hW; go_simp; try with_reducible rfl)
 try simp only [List.set]
 refine tkY 22 (v := ?v20021) ?y20021 ?r20021
 case y20021 => (intro W hW; go_simp; try with_reducible rfl)
 try simp only [List.set]
 refine tkY 23 (v := ?v20022) ?y20022 ?r20022
 case y20022 => (intro W hW; go_simp; try with_reducible rfl)
 try simp only [List.set]
 refine tkY 24 (v := ?v20023) ?y20023 ?r20023
 case y20023 => (intro W hW; go_simp; try with_reducible rfl)
 try simp only [List.set]
 refine tkY 25 (v := ?v20024) ?y20024 ?r20024
 case y20024 => (intro W hW; go_simp; try with_reducible rfl)
 try simp only [List.set]
 refine tkY 27 (v := ?v20025) ?y20025 ?r20025
 case y20025 => (intro W hW; go_simp; try with_reducible rfl)
 try simp only [List.set]
 refine tkY 28 (v := ?v20026) ?y20026 ?r20026
 case y20026 => (intro W hW; go_simp; try with_reducible rfl)
 try simp only [List.set]
 refine tkY 29 (v := ?v20027) ?y20027 ?r20027
 case y20027 => (intro W hW; go_simp; try with_reducible rfl)
 try simp only [List.set]
 refine tkY 30 (v := ?v20028) ?y20028 ?r20028
 case y20028 => (intro W hW; go_simp; try with_reducible rfl)
 try simp only [List.set]
 refine wpAnyL_one (i := 26) (by kernel_rfl) rfl (by decide) (fun K hK => ?_)
 refine oper_call1 69 34 _ rfl _ rfl (enters_of Tryz.func69 (by kernel_rfl) rfl) ?_
 refine (HCl.out _ (hB2.later hF4)).mono ?_
 rintro e W5 ⟨rfl, rfl⟩
 refine ⟨_, rfl, ?_⟩
 refine hK.out _ _ (HSS.out _ hF4) (fun hH => ?_)
 clear hK K
 try simp only [Act.put, List.getElem_toArray, List.getElem_cons_zero, List.getElem_cons_succ, List.setIfInBounds_toArray, List.set_cons_zero, List.set_cons_succ]
 refine tkY 31 (v := ?v20029) ?y20029 ?r20029
 case y20029 => (intro W hW; go_simp; try with_reducible rfl)
 try simp only [List.set]
 refine wpAnyL_last (by kernel_rfl) rfl (fun K hK => ?_)
 go_simp
 refine hK.out _ _ ?_
 clear hK K
 try simp only [Act.put, List.getElem_toArray, List.getElem_cons_zero, List.getElem_cons_succ, List.setIfInBounds_toArray, List.set_cons_zero, List.set_cons_succ]
 refine wpAnyL_done (by kernel_rfl) ?_ _
 refine NoPanic.normal ?_
 have Hb4 := Lib.hid hF4
 clear hF3 s3 hB2 hF4
 go_wp2_with fail
 go_loopw [6] (fun i wr => ∃ k : Nat, i = i64 k ∧ k ≤ B.H.length ∧ Below W2.heap.size W2 wr) (fun i _ => B.H.length - (intOf i).toNat)
 case atStart => exact ⟨0, rfl, Nat.zero_le _, Hb4.out⟩
 case round =>
  obtain ⟨k, rfl, hk, hF⟩ := hrel
  by_cases hlt : k < B.H.length
  ·have g1 : decide ((k : Int) < (B.H.length : Int)) = true := decide_eq_true (by omega)
   have g2 : decide (k < B.H.length) = true := decide_eq_true hlt
   have i0 : (0 : Int) ≤ (k : Int) := by omega
   have i1 : (k : Int) < (B.H.length : Int) := by omega
   obtain ⟨b5, o5, hA5, -, -, d0, d1, d2⟩ := (Hs5.out.later hF).held hlt
   obtain ⟨b2, o2, hA2, -, -, f0, f1, f2⟩ := (Hs2.out.below_ hF).held hlt
   subst hA5 hA2
   generalize B.H[k] = y at *
   have e1 : (y.num != y.num) = false := by simp
   have e2 := beqS_of_eq (rfl : y.acct = y.acct)
   have e3 : (y.sum != y.sum) = false := by simp
   have hS7 : (fun V : World => V.cell? ⟨a.r, 1, none⟩ = some (.pointer (some ⟨a.gh, 0, none⟩)) ∧ V.cell? ⟨a.gh, 0, none⟩ = some (.slice (some ⟨b2, o2, none⟩) B.H.length c2) ∧ V.cell? ⟨b5, o5 + k * 3, none⟩ = some (i64 y.num) ∧ V.cell? ⟨b5, o5 + k * 3 + 1, none⟩ = some (.string y.acct) ∧ V.cell? ⟨b5, o5 + k * 3 + 2, none⟩ = some (i64 y.sum) ∧ V.cell? ⟨b2, o2 + k * 3, none⟩ = some (i64 y.num) ∧ V.cell? ⟨b2, o2 + k * 3 + 1, none⟩ = some (.string y.acct) ∧ V.cell? ⟨b2, o2 + k * 3 + 2, none⟩ = some (i64 y.sum)) wr.drew := ⟨(HSS.out _ hF.drew).2.1, (HSS.out _ hF.drew).2.2.2.2, d0, d1, d2, f0, f1, f2⟩
   have HS7 := Lib.hid hS7
   clear hS7 d0 d1 d2 f0 f1 f2
   go_wp2_with fail
   refine wp_region_noPanic ?_
   refine wp_region_l 54 (fun V : World => V.cell? ⟨a.r, 1, none⟩ = some (.pointer (some ⟨a.gh, 0, none⟩)) ∧ V.cell? ⟨a.gh, 0, none⟩ = some (.slice (some ⟨b2, o2, none⟩) B.H.length c2) ∧ V.cell? ⟨b5, o5 + k * 3, none⟩ = some (i64 y.num) ∧ V.cell? ⟨b5, o5 + k * 3 + 1, none⟩ = some (.string y.acct) ∧ V.cell? ⟨b5, o5 + k * 3 + 2, none⟩ = some (i64 y.sum) ∧ V.cell? ⟨b2, o2 + k * 3, none⟩ = some (i64 y.num) ∧ V.cell? ⟨b2, o2 + k * 3 + 1, none⟩ = some (.string y.acct) ∧ V.cell? ⟨b2, o2 + k * 3 + 2, none⟩ = some (i64 y.sum)) (by kernel_rfl) (HS7.out) (fun hH => ?_)
   refine tkY 0 (v := ?v20030) ?y20030 ?r20030
   case y20030 => (intro W hW; go_simp; try with_reducible rfl)
   try simp only [List.set]
   refine tkY 1 (v := ?v20031) ?y20031 ?r20031
   case y20031 => (intro W hW; go_simp; try with_reducible rfl)
   try simp only [List.set]
   refine tkY 2 (v := ?v20032) ?y20032 ?r20032
   case y20032 => (intro W hW; go_simp; try with_reducible rfl)
   try simp only [List.set]
   refine tkY 3 (v := ?v20033) ?y20033 ?r20033
   case y20033 => (intro W hW; go_simp; try with_reducible rfl)
   try simp only [List.set]
   refine tkY 4 (v := ?v20034) ?y20034 ?r20034
   case y20034 => (intro W hW; go_simp; try with_reducible rfl)
   try simp only [List.set]
   refine tkY 5 (v := ?v20035) ?y20035 ?r20035
   case y20035 => (intro W hW; go_simp; try with_reducible rfl)
   try simp only [List.set]
   refine tkY 6 (v := ?v20036) ?y20036 ?r20036
   case y20036 => (intro W hW; go_simp; try with_reducible rfl)
   try simp only [List.set]
   refine tkY 7 (v := ?v20037) ?y20037 ?r20037
   case y20037 => (intro W hW; go_simp; try with_reducible rfl)
   try simp only [List.set]
   refine tkY 8 (v := ?v20038) ?y20038 ?r20038
   case y20038 => (intro W hW; go_simp; try with_reducible rfl)
   try simp only [List.set]
   refine tkY 9 (v := ?v20039) ?y20039 ?r20039
   case y20039 => (intro W hW; go_simp; try with_reducible rfl)
   try simp only [List.set]
   refine tkY 10 (v := ?v20040) ?y20040 ?r20040
   case y20040 => (intro W hW; go_simp; try with_reducible rfl)
   try simp only [List.set]
   refine tkY 11 (v := ?v20041) ?y20041 ?r20041
   case y20041 => (intro W hW; go_simp; try with_reducible rfl)
   try simp only [List.set]
   refine tkY 12 (v := ?v20042) ?y20042 ?r20042
   case y20042 => (intro W hW; go_simp; try with_reducible rfl)
   try simp only [List.set]
   refine tkY 13 (v := ?v20043) ?y20043 ?r20043
   case y20043 => (intro W hW; go_simp; try with_reducible rfl)
   try simp only [List.set]
   refine tkY 14 (v := ?v20044) ?y20044 ?r20044
   case y20044 => (intro W hW; go_simp; try with_reducible rfl)
   try simp only [List.set]
   refine tkY 15 (v := ?v20045) ?y20045 ?r20045
   case y20045 => (intro W hW; go_simp; try with_reducible rfl)
   try simp only [List.set]
   refine tkY 16 (v := ?v20046) ?y20046 ?r20046
   case y20046 => (intro W hW; go_simp; try with_reducible rfl)
   try simp only [List.set]
   refine tkY 17 (v := ?v20047) ?y20047 ?r20047
   case y20047 => (intro W hW; go_simp; try with_reducible rfl)
   try simp only [List.set]
   refine tkY 18 (v := ?v20048) ?y20048 ?r20048
   case y20048 => (intro W hW; go_simp; try with_reducible rfl)
   try simp only [List.set]
   refine tkY 19 (v := ?v20049) ?y20049 ?r20049
   case y20049 => (intro W hW; go_simp; try with_reducible rfl)
   try simp only [List.set]
   refine tkY 20 (v := ?v20050) ?y20050 ?r20050
   case y20050 => (intro W hW; go_simp; try with_reducible rfl)
   try simp only [List.set]
   refine tkY 21 (v := ?v20051) ?y20051 ?r20051
   case y20051 => (intro W hW; go_simp; try with_reducible rfl)
   try simp only [List.set]
   refine tkY 22 (v := ?v20052) ?y20052 ?r20052
   case y20052 => (intro W hW; go_simp; try with_reducible rfl)
   try simp only [List.set]
   refine tkY 23 (v := ?v20053) ?y20053 ?r20053
   case y20053 => (intro W hW; go_simp; try with_reducible rfl)
   try simp only [List.set]
   refine tkY 24 (v := ?v20054) ?y20054 ?r20054
   case y20054 => (intro W hW; go_simp; try with_reducible rfl)
   try simp only [List.set]
   refine tkY 25 (v := ?v20055) ?y20055 ?r20055
   case y20055 => (intro W hW; go_simp; try with_reducible rfl)
   try simp only [List.set]
   refine tkY 26 (v := ?v20056) ?y20056 ?r20056
   case y20056 => (intro W hW; go_simp; try with_reducible rfl)
   try simp only [List.set]
   refine tkY 27 (v := ?v20057) ?y20057 ?r20057
   case y20057 => (intro W hW; go_simp; try with_reducible rfl)
   try simp only [List.set]
   refine tkY 28 (v := ?v20058) ?y20058 ?r20058
   case y20058 => (intro W hW; go_simp; try with_reducible rfl)
   try simp only [List.set]
   refine tkY 29 (v := ?v20059) ?y20059 ?r20059
   case y20059 => (intro W hW; go_simp; try with_reducible rfl)
   try simp only [List.set]
   refine tkY 30 (v := ?v20060) ?y20060 ?r20060
   case y20060 => (intro W hW; go_simp; try with_reducible rfl)
   try simp only [List.set]
   refine tkY 31 (v := ?v20061) ?y20061 ?r20061
   case y20061 => (intro W hW; go_simp; try with_reducible rfl)
   try simp only [List.set]
   refine tkY 32 (v := ?v20062) ?y20062 ?r20062
   case y20062 => (intro W hW; go_simp; try with_reducible rfl)
   try simp only [List.set]
   refine tkY 33 (v := ?v20063) ?y20063 ?r20063
   case y20063 => (intro W hW; go_simp; try with_reducible rfl)
   try simp only [List.set]
   refine tkY 34 (v := ?v20064) ?y20064 ?r20064
   case y20064 => (intro W hW; go_simp; try with_reducible rfl)
   try simp only [List.set]
   refine tkY 35 (v := ?v20065) ?y20065 ?r20065
   case y20065 => (intro W hW; go_simp; try with_reducible rfl)
   try simp only [List.set]
   refine tkY 36 (v := ?v20066) ?y20066 ?r20066
   case y20066 => (intro W hW; go_simp; try with_reducible rfl)
   try simp only [List.set]
   refine tkY 37 (v := ?v20067) ?y20067 ?r20067
   case y20067 => (intro W hW; go_simp; try with_reducible rfl)
   try simp only [List.set]
   refine tkY 38 (v := ?v20068) ?y20068 ?r20068
   case y20068 => (intro W hW; go_simp; try with_reducible rfl)
   try simp only [List.set]
   refine tkY 39 (v := ?v20069) ?y20069 ?r20069
   case y20069 => (intro W hW; go_simp; try with_reducible rfl)
   try simp only [List.set]
   refine tkY 40 (v := ?v20070) ?y20070 ?r20070
   case y20070 => (intro W hW; go_simp; try with_reducible rfl)
   try simp only [List.set]
   refine tkY 41 (v := ?v20071) ?y20071 ?r20071
   case y20071 => (intro W hW; go_simp; try with_reducible rfl)
   try simp only [List.set]
   refine tkY 42 (v := ?v20072) ?y20072 ?r20072
   case y20072 => (intro W hW; go_simp; try with_reducible rfl)
   try simp only [List.set]
   refine tkY 43 (v := ?v20073) ?y20073 ?r20073
   case y20073 => (intro W hW; go_simp; try with_reducible rfl)
   try simp only [List.set]
   refine tkY 44 (v := ?v20074) ?y20074 ?r20074
   case y20074 => (intro W hW; go_simp; try with_reducible rfl)
   try simp only [List.set]
   refine tkY 45 (v := ?v20075) ?y20075 ?r20075
   case y20075 => (intro W hW; go_simp; try with_reducible rfl)
   try simp only [List.set]
   refine tkY 46 (v := ?v20076) ?y20076 ?r20076
   case y20076 => (intro W hW; go_simp; try with_reducible rfl)
   try simp only [List.set]
   refine tkY 47 (v := ?v20077) ?y20077 ?r20077
   case y20077 => (intro W hW; go_simp; try with_reducible rfl)
   try simp only [List.set]
   refine tkY 48 (v := ?v20078) ?y20078 ?r20078
   case y20078 => (intro W hW; go_simp; try with_reducible rfl)
   try simp only [List.set]
   refine tkY 49 (v := ?v20079) ?y20079 ?r20079
   case y20079 => (intro W hW; go_simp; try with_reducible rfl)
   try simp only [List.set]
   refine tkY 50 (v := ?v20080) ?y20080 ?r20080
   case y20080 => (intro W hW; go_simp; try with_reducible rfl)
   try simp only [List.set]
   refine tkY 51 (v := ?v20081) ?y20081 ?r20081
   case y20081 => (intro W hW; go_simp; try with_reducible rfl)
   try simp only [List.set]
   refine tkY 52 (v := ?v20082) ?y20082 ?r20082
   case y20082 => (intro W hW; go_simp; try with_reducible rfl)
   try simp only [List.set]
   refine tkY 53 (v := ?v20083) ?y20083 ?r20083
   case y20083 => (intro W hW; go_simp; try with_reducible rfl)
   try simp only [List.set]
   refine wpAnyL_last (by kernel_rfl) rfl (fun K hK => ?_)
   go_simp
   refine hK.out _ _ ?_
   clear hK K
   try simp only [Act.put, List.getElem_toArray, List.getElem_cons_zero, List.getElem_cons_succ, List.setIfInBounds_toArray, List.set_cons_zero, List.set_cons_succ]
   refine wpAnyL_done (by kernel_rfl) ?_ _
   refine NoPanic.normal ?_
   go_wp2
   go_roundw
   case rel => exact ⟨k + 1, by go_num, by omega, hF.drew⟩
   case measure => simp [intOf]; omega
  ·obtain rfl : k = B.H.length := by omega
   have g1 : decide ((B.H.length : Int) < (B.H.length : Int)) = false := decide_eq_false (by omega)
   go_wp2
   go_ret
   exact ⟨rfl, below_on Hb2.out (Nat.le_refl _) hF⟩
end Go.Proofs.YtampniiehgimhaaGreat
