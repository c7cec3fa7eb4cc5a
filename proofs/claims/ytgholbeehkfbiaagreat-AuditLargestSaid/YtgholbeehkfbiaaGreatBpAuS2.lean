/- audit: sorting moves: swapRange, rotate -/
import Derived.Test.YtgholbeehkfbiaaGreatRows
import Derived.Test.YtgholbeehkfbiaaGreatBpAuS1
import Derived.Deep.Cut
import Derived.WalkKit
import Derived.WalkSpells
import Derived.WalkLawsBesides
import Derived.Deep.QuietTactic
import Derived.BigQuiet
import Derived.Laws.StructEq
import Derived.Deep.DeepFit
import Derived.StillTailTactics
namespace Go.Proofs.YtgholbeehkfbiaaGreat
open Go.RowKit
theorem RowM.mid' {V : World} {B g n cap q : Nat} {l A C : List Mv} {x : Mv} (h : RowM V B g n cap l) (e : l = A ++ x :: C) (hq : q = A.length) : Mv.Ok V (Oth V (.slice (some ⟨g, 0, none⟩) n cap)) x ∧ V.cell? ⟨g, q * 4, none⟩ = some (i64 x.client) ∧ V.cell? ⟨g, q * 4 + 1, none⟩ = some (i64 x.seq) ∧ V.cell? ⟨g, q * 4 + 2, none⟩ = some (i64 x.period) ∧ V.cell? ⟨g, q * 4 + 3, none⟩ = some (.slice x.la x.legs.length x.lc) := by
 subst e hq
 exact h.mid
theorem set_mid' {l A C : List Mv} {x y : Mv} {q : Nat} (e : l = A ++ x :: C) (hq : q = A.length) : l.set q y = A ++ y :: C := by
 subst e hq
 exact set_mid A x y C
set_option maxRecDepth 100000 in
set_option maxHeartbeats 8000000 in
theorem aswap_c (B g n cap a b m : Nat) (P X M Y Q : List Mv) (f : Value) (w : World) (h : RowM w B g n cap (P ++ X ++ M ++ Y ++ Q)) (ha : P.length = a) (hx : X.length = m) (hy : Y.length = m) (hb : a + m + M.length = b) (hn : n ≤ 60000) (hB : B ≤ w.heap.size) :
  Calls Tryz.prog 237 #[.slice (some ⟨g, 0, none⟩) n cap, i64 a, i64 b, i64 m, f] w fun e w' => e = .returned (.tuple #[]) ∧ RowM w' B g n cap (P ++ Y ++ M ++ X ++ Q) ∧ Below B w w' := by
 have hlen := h.len
 simp only [List.length_append] at hlen
 have hcn := h.capn
 have H := Lib.hid h
 have HB := Lib.hid hB
 have hbn : b + m ≤ n := by omega
 have Ha := Lib.hid ha
 have Hx := Lib.hid hx
 have Hy := Lib.hid hy
 have Hb := Lib.hid hb
 have hab : a + m ≤ b := by omega
 clear h hB ha hx hy hb hlen
 go_enter Tryz.func237, Tryz.ntmps237
 go_wp2_with fail
 go_loopw [10] (fun i wr => ∃ k : Nat, i = i64 (k : Int) ∧ k ≤ m ∧ Hid (RowM wr B g n cap (P ++ Y.take k ++ X.drop k ++ M ++ X.take k ++ Y.drop k ++ Q)) ∧ Hid (Below B w wr)) (fun i _ => m - (intOf i).toNat)
 case atStart => exact ⟨0, rfl, Nat.zero_le _, Lib.hid (by have := H.out; simpa using this), Lib.hid (Below.refl _ _)⟩
 case round =>
  obtain ⟨k, rfl, hk, HR, Hbw⟩ := hrel
  obtain ⟨wi, rfl⟩ : ∃ wi, wi = wr := ⟨wr, rfl⟩
  by_cases hlt : k < m
  ·have g1 : decide ((k : Int) < (m : Int)) = true := decide_eq_true (by omega)
   have g2 : decide (k < m) = true := decide_eq_true hlt
   have hkX : k < X.length := by rw [Hx.out]; exact hlt
   have hkY : k < Y.length := by rw [Hy.out]; exact hlt
   obtain ⟨x, hxe⟩ : ∃ x, X[k] = x := ⟨_, rfl⟩
   obtain ⟨y, hye⟩ : ∃ y, Y[k] = y := ⟨_, rfl⟩
   have hXd : X.drop k = x :: X.drop (k + 1) := by rw [List.drop_eq_getElem_cons hkX, hxe]
   have hYd : Y.drop k = y :: Y.drop (k + 1) := by rw [List.drop_eq_getElem_cons hkY, hye]
   have hXt : X.take (k + 1) = X.take k ++ [x] := by rw [List.take_succ_eq_append_getElem hkX, hxe]
   have hYt : Y.take (k + 1) = Y.take k ++ [y] := by rw [List.take_succ_eq_append_getElem hkY, hye]
   obtain ⟨A, hA⟩ : ∃ A, A = P ++ Y.take k := ⟨_, rfl⟩
   obtain ⟨C, hC⟩ : ∃ C, C = X.drop (k + 1) ++ M ++ X.take k := ⟨_, rfl⟩
   obtain ⟨D, hD⟩ : ∃ D, D = Y.drop (k + 1) ++ Q := ⟨_, rfl⟩
   have HR1 := Lib.hid (show RowM wi B g n cap (A ++ x :: (C ++ y :: D)) by have h1 := HR.out; rw [hXd, hYd] at h1; rw [hA, hC, hD]; simpa using h1)
   have HR2 := Lib.hid (show A ++ y :: (C ++ x :: D) = P ++ Y.take (k + 1) ++ X.drop (k + 1) ++ M ++ X.take (k + 1) ++ Y.drop (k + 1) ++ Q by rw [hXt, hYt, hA, hC, hD]; simp)
   obtain ⟨q1, hq1⟩ : ∃ q1 : Nat, q1 = a + k := ⟨_, rfl⟩
   obtain ⟨q2, hq2⟩ : ∃ q2 : Nat, q2 = b + k := ⟨_, rfl⟩
   have hqA : q1 = A.length := by rw [hA, List.length_append, List.length_take, Ha.out]; have := Hy.out; omega
   have hqC : q2 = (A ++ x :: C).length := by rw [hA, hC]; have := Ha.out; have := Hx.out; have := Hy.out; have := Hb.out; simp; omega
   have HqA := Lib.hid hqA
   have HqC := Lib.hid hqC
   have HqC2 := Lib.hid (show q2 = (A ++ y :: C).length by rw [hqC]; simp)
   have hq1n : q1 < n := by omega
   have hq2n : q2 < n := by omega
   have e1 : (a : Int) + (k : Int) = (q1 : Int) := by omega
   have e2 : (b : Int) + (k : Int) = (q2 : Int) := by omega
   have w1 : IntKind.i64.wrap (q1 : Int) = (q1 : Int) := by rw [IntKind.wrap_i64]; omega
   have w2 : IntKind.i64.wrap (q2 : Int) = (q2 : Int) := by rw [IntKind.wrap_i64]; omega
   have i0 : (0 : Int) ≤ (q1 : Int) := by omega
   have i1 : (q1 : Int) < (n : Int) := by omega
   have i2 : (0 : Int) ≤ (q2 : Int) := by omega
   have i3 : (q2 : Int) < (n : Int) := by omega
   have W1 := Lib.hid w1
   have W2 := Lib.hid w2
   have E1 := Lib.hid e1
   have E2 := Lib.hid e2
   clear hxe hye hXd hYd hXt hYt hA hC hD hqA hqC HR hkX hkY hq1 hq2 w1 w2 e1 e2
   go_upto_region 3 with fail
   refine wp_region_noPanic ?_
   refine wp_region_l 23 (fun _ : World => True) (by kernel_rfl) (trivial) (fun hH => ?_)
   have hbd := (Below.refl wi.heap.size wi).drew
   generalize wi.drew = Wd at *
   have HRd := Lib.hid (HR1.out.later hbd)
   obtain ⟨hxo, x0, x1, x2, x3⟩ := HRd.out.mid' rfl HqA.out
   obtain ⟨hyo, y0, y1, y2, y3⟩ := HRd.out.mid' (A := A ++ x :: C) (x := y) (C := D) (by simp) HqC.out
   have hln := HRd.out.len
   have hlo := HRd.out.lo
   have w1 := W1.out
   have w2 := W2.out
   have e1 := E1.out
   have e2 := E2.out
   refine tkY 0 (v := ?v20001) ?y20001 ?r20001
   case y20001 => (intro W hW; go_simp; try with_reducible rfl)
   try simp only [List.set]
   refine tkY 1 (v := ?v20002) ?y20002 ?r20002
   case y20002 => (intro W hW; go_simp; try with_reducible rfl)
   try simp only [List.set]
   refine tkY 2 (v := ?v20003) ?y20003 ?r20003
   case y20003 => (intro W hW; go_simp; try with_reducible rfl)
   try simp only [List.set]
   refine tkY 3 (v := ?v20004) ?y20004 ?r20004
   case y20004 => (intro W hW; go_simp; try with_reducible rfl)
   try simp only [List.set]
   refine tkY 4 (v := ?v20005) ?y20005 ?r20005
   case y20005 => (intro W hW; go_simp; try with_reducible rfl)
   try simp only [List.set]
   refine tkY 5 (v := ?v20006) ?y20006 ?r20006
   case y20006 => (intro W hW; go_simp; try with_reducible rfl)
   try simp only [List.set]
   refine tkY 6 (v := ?v20007) ?y20007 ?r20007
   case y20007 => (intro W hW; go_simp; try with_reducible rfl)
   try simp only [List.set]
   refine tkY 7 (v := ?v20008) ?y20008 ?r20008
   case y20008 => (intro W hW; go_simp; try with_reducible rfl)
   try simp only [List.set]
   refine tkY 8 (v := ?v20009) ?y20009 ?r20009
   case y20009 => (intro W hW; go_simp; try with_reducible rfl)
   try simp only [List.set]
   refine tkY 9 (v := ?v20010) ?y20010 ?r20010
   case y20010 => (intro W hW; go_simp; try with_reducible rfl)
   try simp only [List.set]
   refine tkY 10 (v := ?v20011) ?y20011 ?r20011
   case y20011 => (intro W hW; go_simp; try with_reducible rfl)
   try simp only [List.set]
   refine tkY 11 (v := ?v20012) ?y20012 ?r20012
   case y20012 => (intro W hW; go_simp; try with_reducible rfl)
   try simp only [List.set]
   refine tkY 12 (v := ?v20013) ?y20013 ?r20013
   case y20013 => (intro W hW; go_simp; try with_reducible rfl)
   try simp only [List.set]
   refine tkY 14 (v := ?v20014) ?y20014 ?r20014
   case y20014 => (intro W hW; go_simp; try with_reducible rfl)
   try simp only [List.set]
   refine tkY 15 (v := ?v20015) ?y20015 ?r20015
   case y20015 => (intro W hW; go_simp; try with_reducible rfl)
   try simp only [List.set]
   refine tkY 16 (v := ?v20016) ?y20016 ?r20016
   case y20016 => (intro W hW; go_simp; try with_reducible rfl)
   try simp only [List.set]
   refine tkY 17 (v := ?v20017) ?y20017 ?r20017
   case y20017 => (intro W hW; go_simp; try with_reducible rfl)
   try simp only [List.set]
   refine tkY 18 (v := ?v20018) ?y20018 ?r20018
   case y20018 => (intro W hW; go_simp; try with_reducible rfl)
   try simp only [List.set]
   refine wpAnyL_ready (rs := [13, 19]) (by kernel_rfl) (by simp) ?_
   refine AllReadyL.cons rfl (fun K hK => ?_) ?_
   ·skip
    refine oper_load_mv 28 rfl g (q2 * 4) y rfl y0 y1 y2 y3 ?_
    refine hK.out _ _ (trivial) (fun hH => ?_)
    clear hK K
    try simp only [Act.put, List.getElem_toArray, List.getElem_cons_zero, List.getElem_cons_succ, List.setIfInBounds_toArray, List.set_cons_zero, List.set_cons_succ]
    refine wpAnyL_one (i := 19) (by kernel_rfl) rfl (by decide) (fun K hK => ?_)
    refine oper_load_mv 34 rfl g (q1 * 4) x rfl x0 x1 x2 x3 ?_
    refine hK.out _ _ (trivial) (fun hH => ?_)
    clear hK K
    try simp only [Act.put, List.getElem_toArray, List.getElem_cons_zero, List.getElem_cons_succ, List.setIfInBounds_toArray, List.set_cons_zero, List.set_cons_succ]
    refine tkY 20 (v := ?v20019) ?y20019 ?r20019
    case y20019 => (intro W hW; go_simp; try with_reducible rfl)
    try simp only [List.set]
    refine wpAnyL_one (i := 21) (by kernel_rfl) rfl (by decide) (fun K hK => ?_)
    refine oper_store_own (α := Mv) (.tmp 36) (.tmp 29) 85 rfl (by kernel_rfl) g n cap q1 (q1 * 4) y HRd.out.own (by rw [hln]; exact hq1n) rfl rfl rfl (show Mv.Ok _ _ y from hyo) ?_
    intro v1 hO1 hg1
    have hO1 := Lib.hid hO1
    have hg1 := Lib.hid hg1
    refine hK.out _ _ (trivial) (fun hH => ?_)
    clear hK K
    try simp only [Act.put, List.getElem_toArray, List.getElem_cons_zero, List.getElem_cons_succ, List.setIfInBounds_toArray, List.set_cons_zero, List.set_cons_succ]
    refine tkY 22 (v := ?v20020) ?y20020 ?r20020
    case y20020 => (intro W hW; go_simp; try with_reducible rfl)
    try simp only [List.set]
    refine wpAnyL_last (by kernel_rfl) rfl (fun K hK => ?_)
    refine oper_store_own (α := Mv) (.tmp 37) (.tmp 35) 85 rfl (by kernel_rfl) g n cap q2 (q2 * 4) x hO1.out (by rw [List.length_set, hln]; exact hq2n) rfl rfl rfl (show Mv.Ok _ _ x from Enc.keep (α := Mv) hxo (fun p hp => World.cell?_of_block (hg1.out.block _ hp.1 hp.2)) (fun b hb => ⟨Nat.lt_of_lt_of_le hb.1 hg1.out.size, hb.2⟩)) ?_
    intro v2 hO2 hg2
    have hO2 := Lib.hid hO2
    have hg2 := Lib.hid hg2
    refine hK.out _ _ ?_
    clear hK K
    try simp only [Act.put, List.getElem_toArray, List.getElem_cons_zero, List.getElem_cons_succ, List.setIfInBounds_toArray, List.set_cons_zero, List.set_cons_succ]
    refine wpAnyL_done (by kernel_rfl) ?_ _
    refine NoPanic.normal ?_
    clear hH w1 w2 e1 e2
    have hO3 := hO2.out
    rw [set_mid' rfl HqA.out, set_mid' (A := A ++ y :: C) (x := y) (C := D) (by simp) HqC2.out, List.append_assoc, List.cons_append, HR2.out] at hO3
    have HRs := Lib.hid (HRd.out.put hO3 (by rw [← HR2.out]; simp))
    have Hbs := Lib.hid ((Hbw.out.trans (hbd.mono (Nat.le_trans HB.out Hbw.out.size))).trans ((below_row hg1.out hlo.1 (by have := hlo.1; omega)).trans (below_row hg2.out hlo.1 (by have := hlo.1; have := hg1.out.size; omega))))
    clear hO3 hO2 hO1 hg1 hg2 HRd hbd x0 x1 x2 x3 y0 y1 y2 y3 hxo hyo hln hlo
    go_wp2
    go_roundw
    case rel => exact ⟨k + 1, by go_num, by omega, HRs, Hbs⟩
    case measure => simp [intOf]; omega
   refine AllReadyL.cons rfl (fun K hK => ?_) ?_
   ·skip
    refine oper_load_mv 34 rfl g (q1 * 4) x rfl x0 x1 x2 x3 ?_
    refine hK.out _ _ (trivial) (fun hH => ?_)
    clear hK K
    try simp only [Act.put, List.getElem_toArray, List.getElem_cons_zero, List.getElem_cons_succ, List.setIfInBounds_toArray, List.set_cons_zero, List.set_cons_succ]
    refine wpAnyL_one (i := 13) (by kernel_rfl) rfl (by decide) (fun K hK => ?_)
    refine oper_load_mv 28 rfl g (q2 * 4) y rfl y0 y1 y2 y3 ?_
    refine hK.out _ _ (trivial) (fun hH => ?_)
    clear hK K
    try simp only [Act.put, List.getElem_toArray, List.getElem_cons_zero, List.getElem_cons_succ, List.setIfInBounds_toArray, List.set_cons_zero, List.set_cons_succ]
    refine tkY 20 (v := ?v20021) ?y20021 ?r20021
    case y20021 => (intro W hW; go_simp; try with_reducible rfl)
    try simp only [List.set]
    refine wpAnyL_one (i := 21) (by kernel_rfl) rfl (by decide) (fun K hK => ?_)
    refine oper_store_own (α := Mv) (.tmp 36) (.tmp 29) 85 rfl (by kernel_rfl) g n cap q1 (q1 * 4) y HRd.out.own (by rw [hln]; exact hq1n) rfl rfl rfl (show Mv.Ok _ _ y from hyo) ?_
    intro v1 hO1 hg1
    have hO1 := Lib.hid hO1
    have hg1 := Lib.hid hg1
    refine hK.out _ _ (trivial) (fun hH => ?_)
    clear hK K
    try simp only [Act.put, List.getElem_toArray, List.getElem_cons_zero, List.getElem_cons_succ, List.setIfInBounds_toArray, List.set_cons_zero, List.set_cons_succ]
    refine tkY 22 (v := ?v20022) ?y20022 ?r20022
    case y20022 => (intro W hW; go_simp; try with_reducible rfl)
    try simp only [List.set]
    refine wpAnyL_last (by kernel_rfl) rfl (fun K hK => ?_)
    refine oper_store_own (α := Mv) (.tmp 37) (.tmp 35) 85 rfl (by kernel_rfl) g n cap q2 (q2 * 4) x hO1.out (by rw [List.length_set, hln]; exact hq2n) rfl rfl rfl (show Mv.Ok _ _ x from Enc.keep (α := Mv) hxo (fun p hp => World.cell?_of_block (hg1.out.block _ hp.1 hp.2)) (fun b hb => ⟨Nat.lt_of_lt_of_le hb.1 hg1.out.size, hb.2⟩)) ?_
    intro v2 hO2 hg2
    have hO2 := Lib.hid hO2
    have hg2 := Lib.hid hg2
    refine hK.out _ _ ?_
    clear hK K
    try simp only [Act.put, List.getElem_toArray, List.getElem_cons_zero, List.getElem_cons_succ, List.setIfInBounds_toArray, List.set_cons_zero, List.set_cons_succ]
    refine wpAnyL_done (by kernel_rfl) ?_ _
    refine NoPanic.normal ?_
    clear hH w1 w2 e1 e2
    have hO3 := hO2.out
    rw [set_mid' rfl HqA.out, set_mid' (A := A ++ y :: C) (x := y) (C := D) (by simp) HqC2.out, List.append_assoc, List.cons_append, HR2.out] at hO3
    have HRs := Lib.hid (HRd.out.put hO3 (by rw [← HR2.out]; simp))
    have Hbs := Lib.hid ((Hbw.out.trans (hbd.mono (Nat.le_trans HB.out Hbw.out.size))).trans ((below_row hg1.out hlo.1 (by have := hlo.1; omega)).trans (below_row hg2.out hlo.1 (by have := hlo.1; have := hg1.out.size; omega))))
    clear hO3 hO2 hO1 hg1 hg2 HRd hbd x0 x1 x2 x3 y0 y1 y2 y3 hxo hyo hln hlo
    go_wp2
    go_roundw
    case rel => exact ⟨k + 1, by go_num, by omega, HRs, Hbs⟩
    case measure => simp [intOf]; omega
   exact AllReadyL.nil
  ·obtain rfl : k = m := by omega
   have g1 : decide ((k : Int) < (k : Int)) = false := decide_eq_false (by omega)
   have HR2 := Lib.hid (show RowM wi B g n cap (P ++ Y ++ M ++ X ++ Q) by
    have h1 := HR.out
    rw [List.take_of_length_le (Nat.le_of_eq Hy.out), List.take_of_length_le (Nat.le_of_eq Hx.out), List.drop_of_length_le (Nat.le_of_eq Hy.out), List.drop_of_length_le (Nat.le_of_eq Hx.out)] at h1
    simpa using h1)
   clear HR
   go_wp2
   go_end0
   exact ⟨rfl, HR2.out, Hbw.out⟩
set_option maxRecDepth 100000 in
set_option maxHeartbeats 8000000 in
theorem arot_c (B g n cap a m b : Nat) (P L R Q : List Mv) (f : Value) (w : World) (h : RowM w B g n cap (P ++ L ++ R ++ Q)) (ha : P.length = a) (hm : a + L.length = m) (hb : m + R.length = b) (h0 : 0 < L.length) (h1 : 0 < R.length) (hn : n ≤ 60000) (hB : B ≤ w.heap.size) :
  Calls Tryz.prog 214 #[.slice (some ⟨g, 0, none⟩) n cap, i64 a, i64 m, i64 b, f] w fun e w' => e = .returned (.tuple #[]) ∧ RowM w' B g n cap (P ++ R ++ L ++ Q) ∧ Below B w w' := by
 have hlen := h.len
 simp only [List.length_append] at hlen
 have hbn : b ≤ n := by omega
 obtain ⟨li, hli⟩ : ∃ li, L.length = li := ⟨_, rfl⟩
 obtain ⟨rj, hrj⟩ : ∃ rj, R.length = rj := ⟨_, rfl⟩
 have e1 : (m : Int) - (a : Int) = (li : Int) := by omega
 have e2 : (b : Int) - (m : Int) = (rj : Int) := by omega
 have w1 : IntKind.i64.wrap (li : Int) = (li : Int) := by rw [IntKind.wrap_i64]; omega
 have w2 : IntKind.i64.wrap (rj : Int) = (rj : Int) := by rw [IntKind.wrap_i64]; omega
 have H := Lib.hid h
 have HB := Lib.hid hB
 have Hst := Lib.hid (show P.length + li = m ∧ L.length = li ∧ R.length = rj ∧ 0 < li ∧ 0 < rj ∧ li + rj ≤ 60000 by omega)
 have HSW : Hid (∀ (a b m : Nat) (P X M Y Q : List Mv) (W : World), RowM W B g n cap (P ++ X ++ M ++ Y ++ Q) → P.length = a → X.length = m → Y.length = m → a + m + M.length = b → B ≤ W.heap.size → Calls Tryz.prog 237 #[.slice (some ⟨g, 0, none⟩) n cap, i64 a, i64 b, i64 m, f] W fun e w' => e = .returned (.tuple #[]) ∧ RowM w' B g n cap (P ++ Y ++ M ++ X ++ Q) ∧ Below B W w') := Lib.hid fun a b m P X M Y Q W h1 h2 h3 h4 h5 h6 => aswap_c B g n cap a b m P X M Y Q f W h1 h2 h3 h4 h5 hn h6
 have hmn : m ≤ n := by omega
 clear h hB ha hm hb h0 h1 hlen hli hrj
 go_enter Tryz.func214, Tryz.ntmps214
 go_wp2_with fail
 clear e1 e2 w1 w2
 go_loopw [10, 11] (fun i10 i11 wr => ∃ (li rj : Nat) (P' L' R' Q' : List Mv), i10 = i64 (li : Int) ∧ i11 = i64 (rj : Int) ∧ Hid (P'.length + li = m ∧ L'.length = li ∧ R'.length = rj ∧ 0 < li ∧ 0 < rj ∧ li + rj ≤ 60000) ∧ Hid (P' ++ R' ++ L' ++ Q' = P ++ R ++ L ++ Q) ∧ Hid (RowM wr B g n cap (P' ++ L' ++ R' ++ Q')) ∧ Hid (Below B w wr)) (fun i10 i11 _ => (intOf i10).toNat + (intOf i11).toNat)
 case atStart => exact ⟨li, rj, P, L, R, Q, rfl, rfl, Hst, Lib.hid rfl, H, Lib.hid (Below.refl _ _)⟩
 case round =>
  clear Hst H
  obtain ⟨li, rj, P', L', R', Q', rfl, rfl, Hst, He, HR, Hbw⟩ := hrel
  obtain ⟨wi, rfl⟩ : ∃ wi, wi = wr := ⟨wr, rfl⟩
  obtain ⟨s1, s2, s3, s4, s5, s6⟩ := Hst.out
  obtain ⟨pl, hpl⟩ : ∃ pl, P'.length = pl := ⟨_, rfl⟩
  rw [hpl] at s1
  have Hpl := Lib.hid hpl
  have S1 := Lib.hid s1
  have S2 := Lib.hid s2
  have S3 := Lib.hid s3
  have hwB := Nat.le_trans HB.out Hbw.out.size
  have e3 : (m : Int) - (li : Int) = (pl : Int) := by omega
  have hpl6 : pl ≤ 60000 := by omega
  have w3 : IntKind.i64.wrap (pl : Int) = (pl : Int) := by rw [IntKind.wrap_i64]; omega
  have hlr : R'.length + m ≤ n := by have := HR.out.len; simp only [List.length_append] at this; omega
  rw [s3] at hlr
  clear hpl s1 s2 s3
  rcases Nat.lt_trichotomy rj li with hlt | heq | hgt
  ·have g1 : ((li : Int) != (rj : Int)) = true := by rw [bne_iff_ne]; omega
   have g2 : decide ((li : Int) > (rj : Int)) = true := decide_eq_true (by omega)
   have g3 : decide ((rj : Int) < (li : Int)) = true := decide_eq_true (by omega)
   have g4 : decide (rj < li) = true := decide_eq_true hlt
   have HS := Lib.hid (HSW.out pl m rj P' (L'.take rj) (L'.drop rj) R' Q' wi (by have := HR.out; rw [List.append_assoc P' (L'.take rj), List.take_append_drop]; exact this) Hpl.out (by rw [List.length_take, S2.out]; omega) S3.out (by rw [List.length_drop, S2.out]; have := S1.out; omega) hwB)
   have e4 : (li : Int) - (rj : Int) = ((li - rj : Nat) : Int) := by omega
   obtain ⟨nl, hnl⟩ : ∃ nl, li - rj = nl := ⟨_, rfl⟩
   rw [hnl] at e4
   have w4 : IntKind.i64.wrap (nl : Int) = (nl : Int) := by rw [IntKind.wrap_i64]; omega
   have Hn := Lib.hid hnl
   have Hlt := Lib.hid hlt
   clear hnl hlt
   go_wp2_with fail
   refine HS.out.mono ?_
   rintro e w5 ⟨rfl, hR5, hF⟩
   have HR5 := Lib.hid (show RowM w5 B g n cap ((P' ++ R') ++ L'.drop rj ++ L'.take rj ++ Q') by simpa using hR5)
   have Hb5 := Lib.hid (Hbw.out.trans hF)
   clear hR5 hF HS HR
   go_wp2
   go_roundw
   case rel => exact ⟨nl, rj, P' ++ R', L'.drop rj, L'.take rj, Q', by go_num, rfl, Lib.hid (by have h1 := Hn.out; have h2 := Hlt.out; have h3 := S1.out; have h4 := S2.out; have h5 := S3.out; have h6 := Hpl.out; simp only [List.length_append, List.length_drop, List.length_take]; omega), Lib.hid (by rw [← He.out, List.append_assoc (P' ++ R'), List.take_append_drop]), HR5, Hb5⟩
   case measure => (have h1 := Hn.out; have h2 := Hlt.out; simp [intOf]; omega)
  ·subst heq
   have g1 : ((rj : Int) != (rj : Int)) = false := by simp
   have HS := Lib.hid (HSW.out pl m rj P' L' [] R' Q' wi (by have := HR.out; simpa using this) Hpl.out S2.out S3.out (by have := S1.out; simp; omega) hwB)
   go_wp2_with fail
   refine HS.out.mono ?_
   rintro e w5 ⟨rfl, hR5, hF⟩
   have HR5 := Lib.hid (show RowM w5 B g n cap (P ++ R ++ L ++ Q) by rw [← He.out]; simpa using hR5)
   have Hb5 := Lib.hid (Hbw.out.trans hF)
   clear hR5 hF HS HR
   go_wp2
   go_end0
   exact ⟨rfl, HR5.out, Hb5.out⟩
  ·have g1 : ((li : Int) != (rj : Int)) = true := by rw [bne_iff_ne]; omega
   have g2 : decide ((li : Int) > (rj : Int)) = false := decide_eq_false (by omega)
   have g3 : decide ((rj : Int) < (li : Int)) = false := decide_eq_false (by omega)
   have g4 : decide (rj < li) = false := decide_eq_false (by omega)
   obtain ⟨nj, hnj⟩ : ∃ nj, rj - li = nj := ⟨_, rfl⟩
   have HS := Lib.hid (HSW.out pl (m + nj) li P' L' (R'.take nj) (R'.drop nj) Q' wi (by have := HR.out; rw [List.append_assoc (P' ++ L'), List.take_append_drop]; exact this) Hpl.out S2.out (by rw [List.length_drop, S3.out]; omega) (by rw [List.length_take, S3.out]; have := S1.out; omega) hwB)
   obtain ⟨mj, hmj⟩ : ∃ mj : Nat, mj = m + nj := ⟨_, rfl⟩
   rw [← hmj] at HS
   obtain ⟨mr, hmr⟩ : ∃ mr : Nat, mr = m + rj := ⟨_, rfl⟩
   have e5 : (m : Int) + (rj : Int) = (mr : Int) := by omega
   have e6 : (mr : Int) - (li : Int) = (mj : Int) := by omega
   have e4 : (rj : Int) - (li : Int) = (nj : Int) := by omega
   have w4 : IntKind.i64.wrap (nj : Int) = (nj : Int) := by rw [IntKind.wrap_i64]; omega
   have w5 : IntKind.i64.wrap (mr : Int) = (mr : Int) := by rw [IntKind.wrap_i64]; omega
   have w6 : IntKind.i64.wrap (mj : Int) = (mj : Int) := by rw [IntKind.wrap_i64]; omega
   have Hn := Lib.hid hnj
   have Hgt := Lib.hid hgt
   clear hnj hgt hmj hmr
   go_wp2_with fail
   refine HS.out.mono ?_
   rintro e w7 ⟨rfl, hR5, hF⟩
   have HR5 := Lib.hid (show RowM w7 B g n cap (P' ++ R'.drop nj ++ R'.take nj ++ (L' ++ Q')) by simpa using hR5)
   have Hb5 := Lib.hid (Hbw.out.trans hF)
   clear hR5 hF HS HR
   go_wp2
   go_roundw
   case rel => exact ⟨li, nj, P', R'.drop nj, R'.take nj, L' ++ Q', rfl, by go_num, Lib.hid (by have h1 := Hn.out; have h2 := Hgt.out; have h3 := S1.out; have h4 := S2.out; have h5 := S3.out; have h6 := Hpl.out; simp only [List.length_append, List.length_drop, List.length_take]; omega), Lib.hid (by rw [← He.out]; rw [List.append_assoc P' (R'.take nj), List.take_append_drop]; simp), HR5, Hb5⟩
   case measure => (have h1 := Hn.out; have h2 := Hgt.out; simp [intOf]; omega)
end Go.Proofs.YtgholbeehkfbiaaGreat
