/- audit: sorting moves: symMerge -/
import Derived.Test.YtgholbeehkfbiaaGreatRows
import Derived.Test.YtgholbeehkfbiaaGreatBpAuS2
import Derived.Test.YtgholbeehkfbiaaGreatBpSymP
import Derived.Deep.Cut
import Derived.WalkKit
import Derived.WalkSpells
import Derived.WalkLawsBesides
import Derived.Deep.QuietTactic
import Derived.BigQuiet
import Derived.Laws.StructEq
import Derived.Deep.DeepFit
import Derived.StillTailTactics
namespace Go.Proofs.YtgholbeehkfbiaaGreat
open Go.RowKit
set_option maxRecDepth 100000 in
set_option maxHeartbeats 16000000 in
theorem asym1_c (B g n cap a m b : Nat) (P V Q : List Mv) (y : Mv) (w : World) (h : RowM w B g n cap (P ++ y :: (V ++ Q))) (ha : P.length = a) (hm : a + 1 = m) (hb : m + V.length = b) (hn : n ≤ 60000) (hB : B ≤ w.heap.size) (hV : SortedB ltM V) (hqy : okMv y) (hq : ∀ x ∈ V, okMv x) :
  Calls Tryz.prog 190 #[.slice (some ⟨g, 0, none⟩) n cap, i64 a, i64 m, i64 b, .func (.func 89) #[] #[]] w fun e w' => e = .returned (.tuple #[]) ∧ RowM w' B g n cap (P ++ mrg ltM [y] V ++ Q) ∧ Below B w w' := by
 have hlen := h.len
 simp only [List.length_append, List.length_cons] at hlen
 have hcn := h.capn
 have hbn : b ≤ n := by omega
 have e0 : (m : Int) - (a : Int) = 1 := by omega
 have hmb : m ≤ b := by omega
 have hm6 : m ≤ 60000 := by omega
 have H := Lib.hid h
 have HB := Lib.hid hB
 have Ha := Lib.hid ha
 have Hm := Lib.hid hm
 have Hb := Lib.hid hb
 have HV := Lib.hid hV
 have Hqy := Lib.hid hqy
 have Hq := Lib.hid hq
 clear h hB ha hm hb hV hqy hq hlen
 go_enter Tryz.func190, Tryz.ntmps190
 go_wp2_with fail
 go_loopw [10, 11] (fun i10 i11 wr => ∃ (i j : Nat), i10 = i64 (i : Int) ∧ i11 = i64 (j : Int) ∧ m ≤ i ∧ i ≤ j ∧ j ≤ b ∧ Hid (i = m ∨ ∃ (k : Nat) (hk : k < V.length), m + k + 1 = i ∧ ltM V[k] y = true) ∧ Hid (j = b ∨ ∃ (k : Nat) (hk : k < V.length), m + k = j ∧ ltM V[k] y = false) ∧ Hid (RowM wr B g n cap (P ++ y :: (V ++ Q))) ∧ Hid (Below B w wr)) (fun i10 i11 _ => (intOf i11).toNat - (intOf i10).toNat)
 case atStart => exact ⟨m, b, rfl, rfl, Nat.le_refl _, hmb, Nat.le_refl _, Lib.hid (.inl rfl), Lib.hid (.inl rfl), H, Lib.hid (Below.refl _ _)⟩
 case round =>
  obtain ⟨i, j, rfl, rfl, h1, h2, h3, Hi, Hj, HR, Hbw⟩ := hrel
  obtain ⟨wi, rfl⟩ : ∃ wi, wi = wr := ⟨wr, rfl⟩
  by_cases hlt : i < j
  ·have g1 : decide ((i : Int) < (j : Int)) = true := decide_eq_true (by omega)
   have g2 : decide (i < j) = true := decide_eq_true hlt
   obtain ⟨hx, hhx⟩ : ∃ hx : Nat, hx = (i + j) / 2 := ⟨_, rfl⟩
   have eh : ((i : Int) + (j : Int)) / 2 = (hx : Int) := by omega
   have hx1 : i ≤ hx := by omega
   have hx2 : hx < j := by omega
   obtain ⟨k, hk⟩ : ∃ k, hx = m + k := ⟨hx - m, by omega⟩
   have hkV : k < V.length := by have := Hb.out; omega
   obtain ⟨x, hxe⟩ : ∃ x, V[k] = x := ⟨_, rfl⟩
   have HR1 := Lib.hid (show RowM wi B g n cap ((P ++ y :: V.take k) ++ x :: (V.drop (k + 1) ++ Q)) by
    have e : V = V.take k ++ x :: V.drop (k + 1) := by rw [← hxe, ← List.drop_eq_getElem_cons hkV, List.take_append_drop]
    have h1 := HR.out
    rw [show P ++ y :: (V ++ Q) = P ++ y :: ((V.take k ++ x :: V.drop (k + 1)) ++ Q) by rw [← e]] at h1
    simpa using h1)
   have Hk := Lib.hid hk
   have Hxl := Lib.hid (show hx = (P ++ y :: V.take k).length by have := Ha.out; have := Hm.out; simp; omega)
   have Hxo := Lib.hid (show okMv x from Hq.out x (by rw [← hxe]; exact List.getElem_mem hkV))
   have HT := Lib.hid (show ltM x y = true → ∃ (k : Nat) (hk : k < V.length), m + k + 1 = hx + 1 ∧ ltM V[k] y = true from fun hl => ⟨k, hkV, by omega, by rw [hxe]; exact hl⟩)
   have HFa := Lib.hid (show ltM x y = false → ∃ (k : Nat) (hk : k < V.length), m + k = hx ∧ ltM V[k] y = false from fun hl => ⟨k, hkV, by omega, by rw [hxe]; exact hl⟩)
   have i0 : (0 : Int) ≤ (hx : Int) := by omega
   have i1 : (hx : Int) < (n : Int) := by omega
   have i2 : (0 : Int) ≤ (a : Int) := by omega
   have i3 : (a : Int) < (n : Int) := by omega
   have hx6 : hx ≤ 60000 := by omega
   obtain ⟨cq, hcq⟩ : ∃ cq, cmpM x y = cq := ⟨_, rfl⟩
   have Hcq := Lib.hid (show decide (cq < 0) = ltM x y by rw [← hcq, cmpM_lt])
   have HC : Hid (∀ V, Below wi.heap.size wi V → Calls Tryz.prog 89 #[x.v, y.v] V fun e w' => e = .returned (i64 cq) ∧ Below V.heap.size V w') := Lib.hid fun V hV => by
    rw [← hcq]
    exact acmp_c x y V (Enc.keep (α := Mv) (HR1.out.later hV).mid.1 (fun _ _ => rfl) (fun _ hb => hb.1)) (Enc.keep (α := Mv) (HR.out.later hV).mid.1 (fun _ _ => rfl) (fun _ hb => hb.1)) Hxo.out Hqy.out
   clear hhx hcq hk hxe hkV
   cases hl : ltM x y with
   | true =>
    have q1 : decide (cq < 0) = true := by rw [Hcq.out, hl]
    have HT2 := Lib.hid (HT.out hl)
    clear hl HT HFa
    go_upto_region 5 with fail
    refine wp_region_noPanic ?_
    refine wp_region_l 10 (fun _ : World => True) (by kernel_rfl) (trivial) (fun hH => ?_)
    have hbd := (Below.refl wi.heap.size wi).drew
    generalize wi.drew = Wd at *
    obtain ⟨-, x0, x1, x2, x3⟩ := (HR1.out.later hbd).mid' rfl Hxl.out
    obtain ⟨-, y0, y1, y2, y3⟩ := (HR.out.later hbd).mid' rfl Ha.out.symm
    refine tkY 0 (v := ?v20077) ?y20077 ?r20077
    case y20077 => (intro W hW; go_simp; try with_reducible rfl)
    try simp only [List.set]
    refine tkY 1 (v := ?v20078) ?y20078 ?r20078
    case y20078 => (intro W hW; go_simp; try with_reducible rfl)
    try simp only [List.set]
    refine tkY 2 (v := ?v20079) ?y20079 ?r20079
    case y20079 => (intro W hW; go_simp; try with_reducible rfl)
    try simp only [List.set]
    refine tkY 3 (v := ?v20080) ?y20080 ?r20080
    case y20080 => (intro W hW; go_simp; try with_reducible rfl)
    try simp only [List.set]
    refine tkY 5 (v := ?v20081) ?y20081 ?r20081
    case y20081 => (intro W hW; go_simp; try with_reducible rfl)
    try simp only [List.set]
    refine tkY 6 (v := ?v20082) ?y20082 ?r20082
    case y20082 => (intro W hW; go_simp; try with_reducible rfl)
    try simp only [List.set]
    refine tkY 7 (v := ?v20083) ?y20083 ?r20083
    case y20083 => (intro W hW; go_simp; try with_reducible rfl)
    try simp only [List.set]
    refine wpAnyL_ready (rs := [4, 8]) (by kernel_rfl) (by simp) ?_
    refine AllReadyL.cons rfl (fun K hK => ?_) ?_
    ·skip
     refine oper_load_mv 43 rfl g (hx * 4) x rfl x0 x1 x2 x3 ?_
     refine hK.out _ _ (trivial) (fun hH => ?_)
     clear hK K
     try simp only [Act.put, List.getElem_toArray, List.getElem_cons_zero, List.getElem_cons_succ, List.setIfInBounds_toArray, List.set_cons_zero, List.set_cons_succ]
     refine wpAnyL_one (i := 8) (by kernel_rfl) rfl (by decide) (fun K hK => ?_)
     refine oper_load_mv 47 rfl g (a * 4) y rfl y0 y1 y2 y3 ?_
     refine hK.out _ _ (trivial) (fun hH => ?_)
     clear hK K
     try simp only [Act.put, List.getElem_toArray, List.getElem_cons_zero, List.getElem_cons_succ, List.setIfInBounds_toArray, List.set_cons_zero, List.set_cons_succ]
     refine wpAnyL_one (i := 9) (by kernel_rfl) rfl (by decide) (fun K hK => ?_)
     refine oper_callv2 89 40 44 48 _ rfl rfl _ _ rfl rfl (enters_of Tryz.func89 (by kernel_rfl) rfl) ?_
     refine (HC.out _ hbd).mono ?_
     rintro e u1 ⟨rfl, hF⟩
     refine ⟨_, rfl, ?_⟩
     have HF1 := Lib.hid hF
     clear hF
     refine hK.out _ _ (trivial) (fun hH => ?_)
     clear hK K
     try simp only [Act.put, List.getElem_toArray, List.getElem_cons_zero, List.getElem_cons_succ, List.setIfInBounds_toArray, List.set_cons_zero, List.set_cons_succ]
     refine wpAnyL_last (by kernel_rfl) rfl (fun K hK => ?_)
     go_simp
     refine hK.out _ _ ?_
     clear hK K
     try simp only [Act.put, List.getElem_toArray, List.getElem_cons_zero, List.getElem_cons_succ, List.setIfInBounds_toArray, List.set_cons_zero, List.set_cons_succ]
     refine wpAnyL_done (by kernel_rfl) ?_ _
     refine NoPanic.normal ?_
     clear hH
     have hsz := Hbw.out.size
     have hbu := hbd.trans (HF1.out.mono hbd.size)
     have Hbd := Lib.hid (Hbw.out.trans (hbu.mono (Nat.le_trans HB.out hsz)))
     have HR3 := Lib.hid (HR.out.later hbu)
     clear hbu hbd HF1 x0 x1 x2 x3 y0 y1 y2 y3 HC
     go_wp2
     go_roundw
     case rel => exact ⟨hx + 1, j, by go_num, rfl, by omega, by omega, h3, Lib.hid (.inr HT2.out), Hj, HR3, Hbd⟩
     case measure => simp [intOf]; omega
    refine AllReadyL.cons rfl (fun K hK => ?_) ?_
    ·skip
     refine oper_load_mv 47 rfl g (a * 4) y rfl y0 y1 y2 y3 ?_
     refine hK.out _ _ (trivial) (fun hH => ?_)
     clear hK K
     try simp only [Act.put, List.getElem_toArray, List.getElem_cons_zero, List.getElem_cons_succ, List.setIfInBounds_toArray, List.set_cons_zero, List.set_cons_succ]
     refine wpAnyL_one (i := 4) (by kernel_rfl) rfl (by decide) (fun K hK => ?_)
     refine oper_load_mv 43 rfl g (hx * 4) x rfl x0 x1 x2 x3 ?_
     refine hK.out _ _ (trivial) (fun hH => ?_)
     clear hK K
     try simp only [Act.put, List.getElem_toArray, List.getElem_cons_zero, List.getElem_cons_succ, List.setIfInBounds_toArray, List.set_cons_zero, List.set_cons_succ]
     refine wpAnyL_one (i := 9) (by kernel_rfl) rfl (by decide) (fun K hK => ?_)
     refine oper_callv2 89 40 44 48 _ rfl rfl _ _ rfl rfl (enters_of Tryz.func89 (by kernel_rfl) rfl) ?_
     refine (HC.out _ hbd).mono ?_
     rintro e u1 ⟨rfl, hF⟩
     refine ⟨_, rfl, ?_⟩
     have HF1 := Lib.hid hF
     clear hF
     refine hK.out _ _ (trivial) (fun hH => ?_)
     clear hK K
     try simp only [Act.put, List.getElem_toArray, List.getElem_cons_zero, List.getElem_cons_succ, List.setIfInBounds_toArray, List.set_cons_zero, List.set_cons_succ]
     refine wpAnyL_last (by kernel_rfl) rfl (fun K hK => ?_)
     go_simp
     refine hK.out _ _ ?_
     clear hK K
     try simp only [Act.put, List.getElem_toArray, List.getElem_cons_zero, List.getElem_cons_succ, List.setIfInBounds_toArray, List.set_cons_zero, List.set_cons_succ]
     refine wpAnyL_done (by kernel_rfl) ?_ _
     refine NoPanic.normal ?_
     clear hH
     have hsz := Hbw.out.size
     have hbu := hbd.trans (HF1.out.mono hbd.size)
     have Hbd := Lib.hid (Hbw.out.trans (hbu.mono (Nat.le_trans HB.out hsz)))
     have HR3 := Lib.hid (HR.out.later hbu)
     clear hbu hbd HF1 x0 x1 x2 x3 y0 y1 y2 y3 HC
     go_wp2
     go_roundw
     case rel => exact ⟨hx + 1, j, by go_num, rfl, by omega, by omega, h3, Lib.hid (.inr HT2.out), Hj, HR3, Hbd⟩
     case measure => simp [intOf]; omega
    exact AllReadyL.nil
   | false =>
    have q1 : decide (cq < 0) = false := by rw [Hcq.out, hl]
    have HT2 := Lib.hid (HFa.out hl)
    clear hl HT HFa
    go_upto_region 5 with fail
    refine wp_region_noPanic ?_
    refine wp_region_l 10 (fun _ : World => True) (by kernel_rfl) (trivial) (fun hH => ?_)
    have hbd := (Below.refl wi.heap.size wi).drew
    generalize wi.drew = Wd at *
    obtain ⟨-, x0, x1, x2, x3⟩ := (HR1.out.later hbd).mid' rfl Hxl.out
    obtain ⟨-, y0, y1, y2, y3⟩ := (HR.out.later hbd).mid' rfl Ha.out.symm
    refine tkY 0 (v := ?v20084) ?y20084 ?r20084
    case y20084 => (intro W hW; go_simp; try with_reducible rfl)
    try simp only [List.set]
    refine tkY 1 (v := ?v20085) ?y20085 ?r20085
    case y20085 => (intro W hW; go_simp; try with_reducible rfl)
    try simp only [List.set]
    refine tkY 2 (v := ?v20086) ?y20086 ?r20086
    case y20086 => (intro W hW; go_simp; try with_reducible rfl)
    try simp only [List.set]
    refine tkY 3 (v := ?v20087) ?y20087 ?r20087
    case y20087 => (intro W hW; go_simp; try with_reducible rfl)
    try simp only [List.set]
    refine tkY 5 (v := ?v20088) ?y20088 ?r20088
    case y20088 => (intro W hW; go_simp; try with_reducible rfl)
    try simp only [List.set]
    refine tkY 6 (v := ?v20089) ?y20089 ?r20089
    case y20089 => (intro W hW; go_simp; try with_reducible rfl)
    try simp only [List.set]
    refine tkY 7 (v := ?v20090) ?y20090 ?r20090
    case y20090 => (intro W hW; go_simp; try with_reducible rfl)
    try simp only [List.set]
    refine wpAnyL_ready (rs := [4, 8]) (by kernel_rfl) (by simp) ?_
    refine AllReadyL.cons rfl (fun K hK => ?_) ?_
    ·skip
     refine oper_load_mv 43 rfl g (hx * 4) x rfl x0 x1 x2 x3 ?_
     refine hK.out _ _ (trivial) (fun hH => ?_)
     clear hK K
     try simp only [Act.put, List.getElem_toArray, List.getElem_cons_zero, List.getElem_cons_succ, List.setIfInBounds_toArray, List.set_cons_zero, List.set_cons_succ]
     refine wpAnyL_one (i := 8) (by kernel_rfl) rfl (by decide) (fun K hK => ?_)
     refine oper_load_mv 47 rfl g (a * 4) y rfl y0 y1 y2 y3 ?_
     refine hK.out _ _ (trivial) (fun hH => ?_)
     clear hK K
     try simp only [Act.put, List.getElem_toArray, List.getElem_cons_zero, List.getElem_cons_succ, List.setIfInBounds_toArray, List.set_cons_zero, List.set_cons_succ]
     refine wpAnyL_one (i := 9) (by kernel_rfl) rfl (by decide) (fun K hK => ?_)
     refine oper_callv2 89 40 44 48 _ rfl rfl _ _ rfl rfl (enters_of Tryz.func89 (by kernel_rfl) rfl) ?_
     refine (HC.out _ hbd).mono ?_
     rintro e u1 ⟨rfl, hF⟩
     refine ⟨_, rfl, ?_⟩
     have HF1 := Lib.hid hF
     clear hF
     refine hK.out _ _ (trivial) (fun hH => ?_)
     clear hK K
     try simp only [Act.put, List.getElem_toArray, List.getElem_cons_zero, List.getElem_cons_succ, List.setIfInBounds_toArray, List.set_cons_zero, List.set_cons_succ]
     refine wpAnyL_last (by kernel_rfl) rfl (fun K hK => ?_)
     go_simp
     refine hK.out _ _ ?_
     clear hK K
     try simp only [Act.put, List.getElem_toArray, List.getElem_cons_zero, List.getElem_cons_succ, List.setIfInBounds_toArray, List.set_cons_zero, List.set_cons_succ]
     refine wpAnyL_done (by kernel_rfl) ?_ _
     refine NoPanic.normal ?_
     clear hH
     have hsz := Hbw.out.size
     have hbu := hbd.trans (HF1.out.mono hbd.size)
     have Hbd := Lib.hid (Hbw.out.trans (hbu.mono (Nat.le_trans HB.out hsz)))
     have HR3 := Lib.hid (HR.out.later hbu)
     clear hbu hbd HF1 x0 x1 x2 x3 y0 y1 y2 y3 HC
     go_wp2
     go_roundw
     case rel => exact ⟨i, hx, rfl, by go_num, h1, by omega, by omega, Hi, Lib.hid (.inr HT2.out), HR3, Hbd⟩
     case measure => simp [intOf]; omega
    refine AllReadyL.cons rfl (fun K hK => ?_) ?_
    ·skip
     refine oper_load_mv 47 rfl g (a * 4) y rfl y0 y1 y2 y3 ?_
     refine hK.out _ _ (trivial) (fun hH => ?_)
     clear hK K
     try simp only [Act.put, List.getElem_toArray, List.getElem_cons_zero, List.getElem_cons_succ, List.setIfInBounds_toArray, List.set_cons_zero, List.set_cons_succ]
     refine wpAnyL_one (i := 4) (by kernel_rfl) rfl (by decide) (fun K hK => ?_)
     refine oper_load_mv 43 rfl g (hx * 4) x rfl x0 x1 x2 x3 ?_
     refine hK.out _ _ (trivial) (fun hH => ?_)
     clear hK K
     try simp only [Act.put, List.getElem_toArray, List.getElem_cons_zero, List.getElem_cons_succ, List.setIfInBounds_toArray, List.set_cons_zero, List.set_cons_succ]
     refine wpAnyL_one (i := 9) (by kernel_rfl) rfl (by decide) (fun K hK => ?_)
     refine oper_callv2 89 40 44 48 _ rfl rfl _ _ rfl rfl (enters_of Tryz.func89 (by kernel_rfl) rfl) ?_
     refine (HC.out _ hbd).mono ?_
     rintro e u1 ⟨rfl, hF⟩
     refine ⟨_, rfl, ?_⟩
     have HF1 := Lib.hid hF
     clear hF
     refine hK.out _ _ (trivial) (fun hH => ?_)
     clear hK K
     try simp only [Act.put, List.getElem_toArray, List.getElem_cons_zero, List.getElem_cons_succ, List.setIfInBounds_toArray, List.set_cons_zero, List.set_cons_succ]
     refine wpAnyL_last (by kernel_rfl) rfl (fun K hK => ?_)
     go_simp
     refine hK.out _ _ ?_
     clear hK K
     try simp only [Act.put, List.getElem_toArray, List.getElem_cons_zero, List.getElem_cons_succ, List.setIfInBounds_toArray, List.set_cons_zero, List.set_cons_succ]
     refine wpAnyL_done (by kernel_rfl) ?_ _
     refine NoPanic.normal ?_
     clear hH
     have hsz := Hbw.out.size
     have hbu := hbd.trans (HF1.out.mono hbd.size)
     have Hbd := Lib.hid (Hbw.out.trans (hbu.mono (Nat.le_trans HB.out hsz)))
     have HR3 := Lib.hid (HR.out.later hbu)
     clear hbu hbd HF1 x0 x1 x2 x3 y0 y1 y2 y3 HC
     go_wp2
     go_roundw
     case rel => exact ⟨i, hx, rfl, by go_num, h1, by omega, by omega, Hi, Lib.hid (.inr HT2.out), HR3, Hbd⟩
     case measure => simp [intOf]; omega
    exact AllReadyL.nil
  ·obtain rfl : i = j := by omega
   have g1 : decide ((i : Int) < (i : Int)) = false := decide_eq_false (by omega)
   obtain ⟨i1, hi1⟩ : ∃ i1, i = i1 + 1 := ⟨i - 1, by omega⟩
   have ei : (i : Int) - 1 = (i1 : Int) := by omega
   have w2 : IntKind.i64.wrap (i1 : Int) = (i1 : Int) := by rw [IntKind.wrap_i64]; omega
   have hi1n : i1 < n := by omega
   have HM := Lib.hid (show mrg ltM [y] V = V.take (i - m) ++ y :: V.drop (i - m) from sym_one HV.out (by
    rcases Hi.out with e | ⟨k, hk, e1, e2⟩
    ·left; omega
    ·right; exact ⟨k, hk, by omega, e2⟩) (by
    rcases Hj.out with e | ⟨k, hk, e1, e2⟩
    ·left; have := Hb.out; omega
    ·right
     have e3 : i - m = k := by omega
     exact ⟨by omega, by simp only [e3]; exact e2⟩) (by have := Hb.out; omega))
   have Hi1 := Lib.hid hi1
   have hai : a ≤ i1 := by have := Hm.out; omega
   have HiV := Lib.hid (show i1 ≤ a + V.length by have := Hm.out; have := Hb.out; omega)
   clear hi1 Hi Hj
   go_wp2_with fail
   go_loopw [13] (fun i13 wr => ∃ q : Nat, i13 = i64 (q : Int) ∧ a ≤ q ∧ q ≤ i1 ∧ Hid (RowM wr B g n cap (P ++ V.take (q - a) ++ y :: (V.drop (q - a) ++ Q))) ∧ Hid (Below B w wr)) (fun i13 _ => i1 - (intOf i13).toNat)
   case atStart => exact ⟨a, rfl, Nat.le_refl _, hai, Lib.hid (by have := HR.out; simpa using this), Hbw⟩
   case round =>
    clear HR Hbw
    obtain ⟨q, rfl, hq1, hq2, HR, Hbw⟩ := hrel
    obtain ⟨wj, rfl⟩ : ∃ wj, wj = wr := ⟨wr, rfl⟩
    by_cases hlq : q < i1
    ·have g3 : decide ((q : Int) < (i1 : Int)) = true := decide_eq_true (by omega)
     have g4 : decide (q < i1) = true := decide_eq_true hlq
     have hkV : q - a < V.length := by have := HiV.out; omega
     obtain ⟨x, hxe⟩ : ∃ x, V[q - a] = x := ⟨_, rfl⟩
     have hd : V.drop (q - a) = x :: V.drop (q - a + 1) := by rw [← hxe, List.drop_eq_getElem_cons hkV]
     have ht : V.take (q - a + 1) = V.take (q - a) ++ [x] := by rw [List.take_succ_eq_append_getElem hkV, hxe]
     obtain ⟨D, hD⟩ : ∃ D, D = V.drop (q - a + 1) ++ Q := ⟨_, rfl⟩
     obtain ⟨A, hA⟩ : ∃ A, A = P ++ V.take (q - a) := ⟨_, rfl⟩
     have HR1 := Lib.hid (show RowM wj B g n cap (A ++ y :: x :: D) by have h1 := HR.out; rw [hd] at h1; rw [hD, hA]; simpa using h1)
     have Hnx := Lib.hid (show A ++ x :: y :: D = P ++ V.take (q + 1 - a) ++ y :: (V.drop (q + 1 - a) ++ Q) by rw [show q + 1 - a = q - a + 1 by omega, ht, hD, hA]; simp)
     have Hqe := Lib.hid (show q = A.length by rw [hA]; have := Ha.out; simp; omega)
     have hqn : q + 1 < n := by omega
     have i0 : (0 : Int) ≤ (q : Int) := by omega
     have i1' : (q : Int) < (n : Int) := by omega
     have i2 : (q : Int) + 1 < (n : Int) := by omega
     have i3 : (0 : Int) ≤ (q : Int) + 1 := by omega
     have hqs : q + 1 ≤ 60000 := by omega
     have W2 := Lib.hid w2
     clear hd ht hxe hD hA HR hkV w2
     go_upto_region 11 with fail
     refine wp_region_noPanic ?_
     refine wp_region_l 17 (fun _ : World => True) (by kernel_rfl) (trivial) (fun hH => ?_)
     have hbd := (Below.refl wj.heap.size wj).drew
     generalize wj.drew = Wd at *
     have HRd := Lib.hid (HR1.out.later hbd)
     obtain ⟨hxo, x0, x1, x2, x3⟩ := HRd.out.mid2
     obtain ⟨hyo, y0, y1, y2, y3⟩ := HRd.out.mid
     rw [← Hqe.out] at x0 x1 x2 x3 y0 y1 y2 y3
     have hln := HRd.out.len
     have hlo := HRd.out.lo
     have w1 : IntKind.i64.wrap (q : Int) = (q : Int) := by rw [IntKind.wrap_i64]; omega
     have w9 : IntKind.i64.wrap ((q : Int) + 1) = (q : Int) + 1 := by rw [IntKind.wrap_i64]; omega
     refine tkY 0 (v := ?v20109) ?y20109 ?r20109
     case y20109 => (intro W hW; go_simp; try with_reducible rfl)
     try simp only [List.set]
     refine tkY 1 (v := ?v20110) ?y20110 ?r20110
     case y20110 => (intro W hW; go_simp; try with_reducible rfl)
     try simp only [List.set]
     refine tkY 2 (v := ?v20111) ?y20111 ?r20111
     case y20111 => (intro W hW; go_simp; try with_reducible rfl)
     try simp only [List.set]
     refine tkY 3 (v := ?v20112) ?y20112 ?r20112
     case y20112 => (intro W hW; go_simp; try with_reducible rfl)
     try simp only [List.set]
     refine tkY 4 (v := ?v20113) ?y20113 ?r20113
     case y20113 => (intro W hW; go_simp; try with_reducible rfl)
     try simp only [List.set]
     refine tkY 5 (v := ?v20114) ?y20114 ?r20114
     case y20114 => (intro W hW; go_simp; try with_reducible rfl)
     try simp only [List.set]
     refine tkY 6 (v := ?v20115) ?y20115 ?r20115
     case y20115 => (intro W hW; go_simp; try with_reducible rfl)
     try simp only [List.set]
     refine tkY 7 (v := ?v20116) ?y20116 ?r20116
     case y20116 => (intro W hW; go_simp; try with_reducible rfl)
     try simp only [List.set]
     refine tkY 8 (v := ?v20117) ?y20117 ?r20117
     case y20117 => (intro W hW; go_simp; try with_reducible rfl)
     try simp only [List.set]
     refine tkY 10 (v := ?v20118) ?y20118 ?r20118
     case y20118 => (intro W hW; go_simp; try with_reducible rfl)
     try simp only [List.set]
     refine tkY 11 (v := ?v20119) ?y20119 ?r20119
     case y20119 => (intro W hW; go_simp; try with_reducible rfl)
     try simp only [List.set]
     refine tkY 12 (v := ?v20120) ?y20120 ?r20120
     case y20120 => (intro W hW; go_simp; try with_reducible rfl)
     try simp only [List.set]
     refine wpAnyL_ready (rs := [9, 13]) (by kernel_rfl) (by simp) ?_
     refine AllReadyL.cons rfl (fun K hK => ?_) ?_
     ·skip
      refine oper_load_mv 69 rfl g ((q + 1) * 4) x rfl x0 x1 x2 x3 ?_
      refine hK.out _ _ (trivial) (fun hH => ?_)
      clear hK K
      try simp only [Act.put, List.getElem_toArray, List.getElem_cons_zero, List.getElem_cons_succ, List.setIfInBounds_toArray, List.set_cons_zero, List.set_cons_succ]
      refine wpAnyL_one (i := 13) (by kernel_rfl) rfl (by decide) (fun K hK => ?_)
      refine oper_load_mv 73 rfl g (q * 4) y rfl y0 y1 y2 y3 ?_
      refine hK.out _ _ (trivial) (fun hH => ?_)
      clear hK K
      try simp only [Act.put, List.getElem_toArray, List.getElem_cons_zero, List.getElem_cons_succ, List.setIfInBounds_toArray, List.set_cons_zero, List.set_cons_succ]
      refine tkY 14 (v := ?v20121) ?y20121 ?r20121
      case y20121 => (intro W hW; go_simp; try with_reducible rfl)
      try simp only [List.set]
      refine wpAnyL_one (i := 15) (by kernel_rfl) rfl (by decide) (fun K hK => ?_)
      refine oper_store_own (α := Mv) (.tmp 75) (.tmp 70) 85 rfl (by kernel_rfl) g n cap q (q * 4) x HRd.out.own (by rw [hln]; omega) rfl rfl rfl (show Mv.Ok _ _ x from hxo) ?_
      intro v1 hO1 hg1
      have hO1 := Lib.hid hO1
      have hg1 := Lib.hid hg1
      refine hK.out _ _ (trivial) (fun hH => ?_)
      clear hK K
      try simp only [Act.put, List.getElem_toArray, List.getElem_cons_zero, List.getElem_cons_succ, List.setIfInBounds_toArray, List.set_cons_zero, List.set_cons_succ]
      refine tkY 16 (v := ?v20122) ?y20122 ?r20122
      case y20122 => (intro W hW; go_simp; try with_reducible rfl)
      try simp only [List.set]
      refine wpAnyL_last (by kernel_rfl) rfl (fun K hK => ?_)
      refine oper_store_own (α := Mv) (.tmp 76) (.tmp 74) 85 rfl (by kernel_rfl) g n cap (q + 1) ((q + 1) * 4) y hO1.out (by rw [List.length_set, hln]; omega) rfl rfl rfl (show Mv.Ok _ _ y from Enc.keep (α := Mv) hyo (fun p hp => World.cell?_of_block (hg1.out.block _ hp.1 hp.2)) (fun b hb => ⟨Nat.lt_of_lt_of_le hb.1 hg1.out.size, hb.2⟩)) ?_
      intro v2 hO2 hg2
      have hO2 := Lib.hid hO2
      have hg2 := Lib.hid hg2
      refine hK.out _ _ ?_
      clear hK K
      try simp only [Act.put, List.getElem_toArray, List.getElem_cons_zero, List.getElem_cons_succ, List.setIfInBounds_toArray, List.set_cons_zero, List.set_cons_succ]
      refine wpAnyL_done (by kernel_rfl) ?_ _
      refine NoPanic.normal ?_
      clear hH w1 w9
      have hO3 := hO2.out
      rw [Hqe.out, set_mid, set_mid2] at hO3
      have HRs := Lib.hid (HRd.out.put hO3 (by simp))
      have Hbs := Lib.hid ((Hbw.out.trans (hbd.mono (Nat.le_trans HB.out Hbw.out.size))).trans ((below_row hg1.out hlo.1 (by have := hlo.1; omega)).trans (below_row hg2.out hlo.1 (by have := hlo.1; have := hg1.out.size; omega))))
      clear hO3 hO2 hO1 hg1 hg2 HRd hbd x0 x1 x2 x3 y0 y1 y2 y3 hxo hyo hln hlo
      have w2 := W2.out
      go_wp2
      go_roundw
      case rel => exact ⟨q + 1, by go_num, by omega, by omega, Lib.hid (by rw [← Hnx.out]; exact HRs.out), Hbs⟩
      case measure => simp [intOf]; omega
     refine AllReadyL.cons rfl (fun K hK => ?_) ?_
     ·skip
      refine oper_load_mv 73 rfl g (q * 4) y rfl y0 y1 y2 y3 ?_
      refine hK.out _ _ (trivial) (fun hH => ?_)
      clear hK K
      try simp only [Act.put, List.getElem_toArray, List.getElem_cons_zero, List.getElem_cons_succ, List.setIfInBounds_toArray, List.set_cons_zero, List.set_cons_succ]
      refine wpAnyL_one (i := 9) (by kernel_rfl) rfl (by decide) (fun K hK => ?_)
      refine oper_load_mv 69 rfl g ((q + 1) * 4) x rfl x0 x1 x2 x3 ?_
      refine hK.out _ _ (trivial) (fun hH => ?_)
      clear hK K
      try simp only [Act.put, List.getElem_toArray, List.getElem_cons_zero, List.getElem_cons_succ, List.setIfInBounds_toArray, List.set_cons_zero, List.set_cons_succ]
      refine tkY 14 (v := ?v20123) ?y20123 ?r20123
      case y20123 => (intro W hW; go_simp; try with_reducible rfl)
      try simp only [List.set]
      refine wpAnyL_one (i := 15) (by kernel_rfl) rfl (by decide) (fun K hK => ?_)
      refine oper_store_own (α := Mv) (.tmp 75) (.tmp 70) 85 rfl (by kernel_rfl) g n cap q (q * 4) x HRd.out.own (by rw [hln]; omega) rfl rfl rfl (show Mv.Ok _ _ x from hxo) ?_
      intro v1 hO1 hg1
      have hO1 := Lib.hid hO1
      have hg1 := Lib.hid hg1
      refine hK.out _ _ (trivial) (fun hH => ?_)
      clear hK K
      try simp only [Act.put, List.getElem_toArray, List.getElem_cons_zero, List.getElem_cons_succ, List.setIfInBounds_toArray, List.set_cons_zero, List.set_cons_succ]
      refine tkY 16 (v := ?v20124) ?y20124 ?r20124
      case y20124 => (intro W hW; go_simp; try with_reducible rfl)
      try simp only [List.set]
      refine wpAnyL_last (by kernel_rfl) rfl (fun K hK => ?_)
      refine oper_store_own (α := Mv) (.tmp 76) (.tmp 74) 85 rfl (by kernel_rfl) g n cap (q + 1) ((q + 1) * 4) y hO1.out (by rw [List.length_set, hln]; omega) rfl rfl rfl (show Mv.Ok _ _ y from Enc.keep (α := Mv) hyo (fun p hp => World.cell?_of_block (hg1.out.block _ hp.1 hp.2)) (fun b hb => ⟨Nat.lt_of_lt_of_le hb.1 hg1.out.size, hb.2⟩)) ?_
      intro v2 hO2 hg2
      have hO2 := Lib.hid hO2
      have hg2 := Lib.hid hg2
      refine hK.out _ _ ?_
      clear hK K
      try simp only [Act.put, List.getElem_toArray, List.getElem_cons_zero, List.getElem_cons_succ, List.setIfInBounds_toArray, List.set_cons_zero, List.set_cons_succ]
      refine wpAnyL_done (by kernel_rfl) ?_ _
      refine NoPanic.normal ?_
      clear hH w1 w9
      have hO3 := hO2.out
      rw [Hqe.out, set_mid, set_mid2] at hO3
      have HRs := Lib.hid (HRd.out.put hO3 (by simp))
      have Hbs := Lib.hid ((Hbw.out.trans (hbd.mono (Nat.le_trans HB.out Hbw.out.size))).trans ((below_row hg1.out hlo.1 (by have := hlo.1; omega)).trans (below_row hg2.out hlo.1 (by have := hlo.1; have := hg1.out.size; omega))))
      clear hO3 hO2 hO1 hg1 hg2 HRd hbd x0 x1 x2 x3 y0 y1 y2 y3 hxo hyo hln hlo
      have w2 := W2.out
      go_wp2
      go_roundw
      case rel => exact ⟨q + 1, by go_num, by omega, by omega, Lib.hid (by rw [← Hnx.out]; exact HRs.out), Hbs⟩
      case measure => simp [intOf]; omega
     exact AllReadyL.nil
    ·obtain rfl : q = i1 := by omega
     have g3 : decide ((q : Int) < (q : Int)) = false := decide_eq_false (by omega)
     have HRf := Lib.hid (show RowM wj B g n cap (P ++ mrg ltM [y] V ++ Q) by
      have h1 := HR.out
      have e : i - m = q - a := by have := Hi1.out; have := Hm.out; omega
      rw [HM.out, e]
      simpa using h1)
     clear HR
     go_wp2
     exact bodyPost_ret (results_none rfl _ _ _) rfl ⟨rfl, HRf.out, Hbw.out⟩
set_option maxRecDepth 100000 in
set_option maxHeartbeats 16000000 in
theorem asym2_c (B g n cap a m b : Nat) (P U Q : List Mv) (x : Mv) (w : World) (h : RowM w B g n cap (P ++ (U ++ x :: Q))) (ha : P.length = a) (hm : a + U.length = m) (hb : m + 1 = b) (h2 : 2 ≤ U.length) (hn : n ≤ 60000) (hB : B ≤ w.heap.size) (hU : SortedB ltM U) (hqx : okMv x) (hq : ∀ y ∈ U, okMv y) :
  Calls Tryz.prog 190 #[.slice (some ⟨g, 0, none⟩) n cap, i64 a, i64 m, i64 b, .func (.func 89) #[] #[]] w fun e w' => e = .returned (.tuple #[]) ∧ RowM w' B g n cap (P ++ mrg ltM U [x] ++ Q) ∧ Below B w w' := by
 have hlen := h.len
 simp only [List.length_append, List.length_cons] at hlen
 have hcn := h.capn
 have hbn : b ≤ n := by omega
 obtain ⟨ul, hul⟩ : ∃ ul, U.length = ul := ⟨_, rfl⟩
 have e0 : (m : Int) - (a : Int) = (ul : Int) := by omega
 have wul : IntKind.i64.wrap (ul : Int) = (ul : Int) := by rw [IntKind.wrap_i64]; omega
 have b0 : ((ul : Int) == 1) = false := by rw [beq_eq_false_iff_ne]; omega
 have e1 : (b : Int) - (m : Int) = 1 := by omega
 have ham : a ≤ m := by omega
 have hm6 : m < n := by omega
 have H := Lib.hid h
 have HB := Lib.hid hB
 have Ha := Lib.hid ha
 have Hm := Lib.hid hm
 have HU := Lib.hid hU
 have Hqx := Lib.hid hqx
 have Hq := Lib.hid hq
 clear h hB ha hm hb hU hqx hq hlen hul
 go_enter Tryz.func190, Tryz.ntmps190
 go_wp2_with fail
 clear e0 wul b0 e1
 go_loopw [14, 15] (fun i14 i15 wr => ∃ (i j : Nat), i14 = i64 (i : Int) ∧ i15 = i64 (j : Int) ∧ a ≤ i ∧ i ≤ j ∧ j ≤ m ∧ Hid (i = a ∨ ∃ (k : Nat) (hk : k < U.length), a + k + 1 = i ∧ ltM x U[k] = false) ∧ Hid (j = m ∨ ∃ (k : Nat) (hk : k < U.length), a + k = j ∧ ltM x U[k] = true) ∧ Hid (RowM wr B g n cap (P ++ (U ++ x :: Q))) ∧ Hid (Below B w wr)) (fun i14 i15 _ => (intOf i15).toNat - (intOf i14).toNat)
 case atStart => exact ⟨a, m, rfl, rfl, Nat.le_refl _, ham, Nat.le_refl _, Lib.hid (.inl rfl), Lib.hid (.inl rfl), H, Lib.hid (Below.refl _ _)⟩
 case round =>
  obtain ⟨i, j, rfl, rfl, h1, h2, h3, Hi, Hj, HR, Hbw⟩ := hrel
  obtain ⟨wi, rfl⟩ : ∃ wi, wi = wr := ⟨wr, rfl⟩
  by_cases hlt : i < j
  ·have g1 : decide ((i : Int) < (j : Int)) = true := decide_eq_true (by omega)
   have g2 : decide (i < j) = true := decide_eq_true hlt
   obtain ⟨hx, hhx⟩ : ∃ hx : Nat, hx = (i + j) / 2 := ⟨_, rfl⟩
   have eh : ((i : Int) + (j : Int)) / 2 = (hx : Int) := by omega
   have hx1 : i ≤ hx := by omega
   have hx2 : hx < j := by omega
   obtain ⟨k, hk⟩ : ∃ k, hx = a + k := ⟨hx - a, by omega⟩
   have hkU : k < U.length := by have := Hm.out; omega
   obtain ⟨y, hye⟩ : ∃ y, U[k] = y := ⟨_, rfl⟩
   have HRy := Lib.hid (show RowM wi B g n cap ((P ++ U.take k) ++ y :: (U.drop (k + 1) ++ x :: Q)) by
    have e : U = U.take k ++ y :: U.drop (k + 1) := by rw [← hye, ← List.drop_eq_getElem_cons hkU, List.take_append_drop]
    have h1 := HR.out
    rw [show P ++ (U ++ x :: Q) = P ++ ((U.take k ++ y :: U.drop (k + 1)) ++ x :: Q) by rw [← e]] at h1
    simpa using h1)
   have HRx := Lib.hid (show RowM wi B g n cap ((P ++ U) ++ x :: Q) by have := HR.out; simpa using this)
   have Hyl := Lib.hid (show hx = (P ++ U.take k).length by have := Ha.out; simp; omega)
   have Hxl := Lib.hid (show m = (P ++ U).length by have := Ha.out; have := Hm.out; simp; omega)
   have Hyo := Lib.hid (show okMv y from Hq.out y (by rw [← hye]; exact List.getElem_mem hkU))
   have HT := Lib.hid (show ltM x y = false → ∃ (k : Nat) (hk : k < U.length), a + k + 1 = hx + 1 ∧ ltM x U[k] = false from fun hl => ⟨k, hkU, by omega, by rw [hye]; exact hl⟩)
   have HFa := Lib.hid (show ltM x y = true → ∃ (k : Nat) (hk : k < U.length), a + k = hx ∧ ltM x U[k] = true from fun hl => ⟨k, hkU, by omega, by rw [hye]; exact hl⟩)
   have i0 : (0 : Int) ≤ (hx : Int) := by omega
   have i1 : (hx : Int) < (n : Int) := by omega
   have i2 : (0 : Int) ≤ (m : Int) := by omega
   have i3 : (m : Int) < (n : Int) := by omega
   have hx6 : hx ≤ 60000 := by omega
   obtain ⟨cq, hcq⟩ : ∃ cq, cmpM x y = cq := ⟨_, rfl⟩
   have Hcq := Lib.hid (show decide (cq < 0) = ltM x y by rw [← hcq, cmpM_lt])
   have HC : Hid (∀ V, Below wi.heap.size wi V → Calls Tryz.prog 89 #[x.v, y.v] V fun e w' => e = .returned (i64 cq) ∧ Below V.heap.size V w') := Lib.hid fun V hV => by
    rw [← hcq]
    exact acmp_c x y V (Enc.keep (α := Mv) (HRx.out.later hV).mid.1 (fun _ _ => rfl) (fun _ hb => hb.1)) (Enc.keep (α := Mv) (HRy.out.later hV).mid.1 (fun _ _ => rfl) (fun _ hb => hb.1)) Hqx.out Hyo.out
   clear hhx hcq hk hye hkU
   cases hl : ltM x y with
   | false =>
    have q1 : decide (cq < 0) = false := by rw [Hcq.out, hl]
    have HT2 := Lib.hid (HT.out hl)
    clear hl HT HFa
    go_upto_region 17 with fail
    refine wp_region_noPanic ?_
    refine wp_region_l 11 (fun _ : World => True) (by kernel_rfl) (trivial) (fun hH => ?_)
    have hbd := (Below.refl wi.heap.size wi).drew
    generalize wi.drew = Wd at *
    obtain ⟨-, x0, x1, x2, x3⟩ := (HRx.out.later hbd).mid' rfl Hxl.out
    obtain ⟨-, y0, y1, y2, y3⟩ := (HRy.out.later hbd).mid' rfl Hyl.out
    refine tkY 0 (v := ?v20091) ?y20091 ?r20091
    case y20091 => (intro W hW; go_simp; try with_reducible rfl)
    try simp only [List.set]
    refine tkY 1 (v := ?v20092) ?y20092 ?r20092
    case y20092 => (intro W hW; go_simp; try with_reducible rfl)
    try simp only [List.set]
    refine tkY 2 (v := ?v20093) ?y20093 ?r20093
    case y20093 => (intro W hW; go_simp; try with_reducible rfl)
    try simp only [List.set]
    refine tkY 3 (v := ?v20094) ?y20094 ?r20094
    case y20094 => (intro W hW; go_simp; try with_reducible rfl)
    try simp only [List.set]
    refine tkY 5 (v := ?v20095) ?y20095 ?r20095
    case y20095 => (intro W hW; go_simp; try with_reducible rfl)
    try simp only [List.set]
    refine tkY 6 (v := ?v20096) ?y20096 ?r20096
    case y20096 => (intro W hW; go_simp; try with_reducible rfl)
    try simp only [List.set]
    refine tkY 7 (v := ?v20097) ?y20097 ?r20097
    case y20097 => (intro W hW; go_simp; try with_reducible rfl)
    try simp only [List.set]
    refine wpAnyL_ready (rs := [4, 8]) (by kernel_rfl) (by simp) ?_
    refine AllReadyL.cons rfl (fun K hK => ?_) ?_
    ·skip
     refine oper_load_mv 95 rfl g (m * 4) x rfl x0 x1 x2 x3 ?_
     refine hK.out _ _ (trivial) (fun hH => ?_)
     clear hK K
     try simp only [Act.put, List.getElem_toArray, List.getElem_cons_zero, List.getElem_cons_succ, List.setIfInBounds_toArray, List.set_cons_zero, List.set_cons_succ]
     refine wpAnyL_one (i := 8) (by kernel_rfl) rfl (by decide) (fun K hK => ?_)
     refine oper_load_mv 99 rfl g (hx * 4) y rfl y0 y1 y2 y3 ?_
     refine hK.out _ _ (trivial) (fun hH => ?_)
     clear hK K
     try simp only [Act.put, List.getElem_toArray, List.getElem_cons_zero, List.getElem_cons_succ, List.setIfInBounds_toArray, List.set_cons_zero, List.set_cons_succ]
     refine wpAnyL_one (i := 9) (by kernel_rfl) rfl (by decide) (fun K hK => ?_)
     refine oper_callv2 89 92 96 100 _ rfl rfl _ _ rfl rfl (enters_of Tryz.func89 (by kernel_rfl) rfl) ?_
     refine (HC.out _ hbd).mono ?_
     rintro e u1 ⟨rfl, hF⟩
     refine ⟨_, rfl, ?_⟩
     have HF1 := Lib.hid hF
     clear hF
     refine hK.out _ _ (trivial) (fun hH => ?_)
     clear hK K
     try simp only [Act.put, List.getElem_toArray, List.getElem_cons_zero, List.getElem_cons_succ, List.setIfInBounds_toArray, List.set_cons_zero, List.set_cons_succ]
     refine tkY 10 (v := ?v20098) ?y20098 ?r20098
     case y20098 => (intro W hW; go_simp; try with_reducible rfl)
     try simp only [List.set]
     refine wpAnyL_last (by kernel_rfl) rfl (fun K hK => ?_)
     go_simp
     refine hK.out _ _ ?_
     clear hK K
     try simp only [Act.put, List.getElem_toArray, List.getElem_cons_zero, List.getElem_cons_succ, List.setIfInBounds_toArray, List.set_cons_zero, List.set_cons_succ]
     refine wpAnyL_done (by kernel_rfl) ?_ _
     refine NoPanic.normal ?_
     clear hH
     have hsz := Hbw.out.size
     have hbu := hbd.trans (HF1.out.mono hbd.size)
     have Hbd := Lib.hid (Hbw.out.trans (hbu.mono (Nat.le_trans HB.out hsz)))
     have HR3 := Lib.hid (HR.out.later hbu)
     clear hbu hbd HF1 x0 x1 x2 x3 y0 y1 y2 y3 HC
     go_wp2
     go_roundw
     case rel => exact ⟨hx + 1, j, by go_num, rfl, by omega, by omega, h3, Lib.hid (.inr HT2.out), Hj, HR3, Hbd⟩
     case measure => simp [intOf]; omega
    refine AllReadyL.cons rfl (fun K hK => ?_) ?_
    ·skip
     refine oper_load_mv 99 rfl g (hx * 4) y rfl y0 y1 y2 y3 ?_
     refine hK.out _ _ (trivial) (fun hH => ?_)
     clear hK K
     try simp only [Act.put, List.getElem_toArray, List.getElem_cons_zero, List.getElem_cons_succ, List.setIfInBounds_toArray, List.set_cons_zero, List.set_cons_succ]
     refine wpAnyL_one (i := 4) (by kernel_rfl) rfl (by decide) (fun K hK => ?_)
     refine oper_load_mv 95 rfl g (m * 4) x rfl x0 x1 x2 x3 ?_
     refine hK.out _ _ (trivial) (fun hH => ?_)
     clear hK K
     try simp only [Act.put, List.getElem_toArray, List.getElem_cons_zero, List.getElem_cons_succ, List.setIfInBounds_toArray, List.set_cons_zero, List.set_cons_succ]
     refine wpAnyL_one (i := 9) (by kernel_rfl) rfl (by decide) (fun K hK => ?_)
     refine oper_callv2 89 92 96 100 _ rfl rfl _ _ rfl rfl (enters_of Tryz.func89 (by kernel_rfl) rfl) ?_
     refine (HC.out _ hbd).mono ?_
     rintro e u1 ⟨rfl, hF⟩
     refine ⟨_, rfl, ?_⟩
     have HF1 := Lib.hid hF
     clear hF
     refine hK.out _ _ (trivial) (fun hH => ?_)
     clear hK K
     try simp only [Act.put, List.getElem_toArray, List.getElem_cons_zero, List.getElem_cons_succ, List.setIfInBounds_toArray, List.set_cons_zero, List.set_cons_succ]
     refine tkY 10 (v := ?v20099) ?y20099 ?r20099
     case y20099 => (intro W hW; go_simp; try with_reducible rfl)
     try simp only [List.set]
     refine wpAnyL_last (by kernel_rfl) rfl (fun K hK => ?_)
     go_simp
     refine hK.out _ _ ?_
     clear hK K
     try simp only [Act.put, List.getElem_toArray, List.getElem_cons_zero, List.getElem_cons_succ, List.setIfInBounds_toArray, List.set_cons_zero, List.set_cons_succ]
     refine wpAnyL_done (by kernel_rfl) ?_ _
     refine NoPanic.normal ?_
     clear hH
     have hsz := Hbw.out.size
     have hbu := hbd.trans (HF1.out.mono hbd.size)
     have Hbd := Lib.hid (Hbw.out.trans (hbu.mono (Nat.le_trans HB.out hsz)))
     have HR3 := Lib.hid (HR.out.later hbu)
     clear hbu hbd HF1 x0 x1 x2 x3 y0 y1 y2 y3 HC
     go_wp2
     go_roundw
     case rel => exact ⟨hx + 1, j, by go_num, rfl, by omega, by omega, h3, Lib.hid (.inr HT2.out), Hj, HR3, Hbd⟩
     case measure => simp [intOf]; omega
    exact AllReadyL.nil
   | true =>
    have q1 : decide (cq < 0) = true := by rw [Hcq.out, hl]
    have HT2 := Lib.hid (HFa.out hl)
    clear hl HT HFa
    go_upto_region 17 with fail
    refine wp_region_noPanic ?_
    refine wp_region_l 11 (fun _ : World => True) (by kernel_rfl) (trivial) (fun hH => ?_)
    have hbd := (Below.refl wi.heap.size wi).drew
    generalize wi.drew = Wd at *
    obtain ⟨-, x0, x1, x2, x3⟩ := (HRx.out.later hbd).mid' rfl Hxl.out
    obtain ⟨-, y0, y1, y2, y3⟩ := (HRy.out.later hbd).mid' rfl Hyl.out
    refine tkY 0 (v := ?v20100) ?y20100 ?r20100
    case y20100 => (intro W hW; go_simp; try with_reducible rfl)
    try simp only [List.set]
    refine tkY 1 (v := ?v20101) ?y20101 ?r20101
    case y20101 => (intro W hW; go_simp; try with_reducible rfl)
    try simp only [List.set]
    refine tkY 2 (v := ?v20102) ?y20102 ?r20102
    case y20102 => (intro W hW; go_simp; try with_reducible rfl)
    try simp only [List.set]
    refine tkY 3 (v := ?v20103) ?y20103 ?r20103
    case y20103 => (intro W hW; go_simp; try with_reducible rfl)
    try simp only [List.set]
    refine tkY 5 (v := ?v20104) ?y20104 ?r20104
    case y20104 => (intro W hW; go_simp; try with_reducible rfl)
    try simp only [List.set]
    refine tkY 6 (v := ?v20105) ?y20105 ?r20105
    case y20105 => (intro W hW; go_simp; try with_reducible rfl)
    try simp only [List.set]
    refine tkY 7 (v := ?v20106) ?y20106 ?r20106
    case y20106 => (intro W hW; go_simp; try with_reducible rfl)
    try simp only [List.set]
    refine wpAnyL_ready (rs := [4, 8]) (by kernel_rfl) (by simp) ?_
    refine AllReadyL.cons rfl (fun K hK => ?_) ?_
    ·skip
     refine oper_load_mv 95 rfl g (m * 4) x rfl x0 x1 x2 x3 ?_
     refine hK.out _ _ (trivial) (fun hH => ?_)
     clear hK K
     try simp only [Act.put, List.getElem_toArray, List.getElem_cons_zero, List.getElem_cons_succ, List.setIfInBounds_toArray, List.set_cons_zero, List.set_cons_succ]
     refine wpAnyL_one (i := 8) (by kernel_rfl) rfl (by decide) (fun K hK => ?_)
     refine oper_load_mv 99 rfl g (hx * 4) y rfl y0 y1 y2 y3 ?_
     refine hK.out _ _ (trivial) (fun hH => ?_)
     clear hK K
     try simp only [Act.put, List.getElem_toArray, List.getElem_cons_zero, List.getElem_cons_succ, List.setIfInBounds_toArray, List.set_cons_zero, List.set_cons_succ]
     refine wpAnyL_one (i := 9) (by kernel_rfl) rfl (by decide) (fun K hK => ?_)
     refine oper_callv2 89 92 96 100 _ rfl rfl _ _ rfl rfl (enters_of Tryz.func89 (by kernel_rfl) rfl) ?_
     refine (HC.out _ hbd).mono ?_
     rintro e u1 ⟨rfl, hF⟩
     refine ⟨_, rfl, ?_⟩
     have HF1 := Lib.hid hF
     clear hF
     refine hK.out _ _ (trivial) (fun hH => ?_)
     clear hK K
     try simp only [Act.put, List.getElem_toArray, List.getElem_cons_zero, List.getElem_cons_succ, List.setIfInBounds_toArray, List.set_cons_zero, List.set_cons_succ]
     refine tkY 10 (v := ?v20107) ?y20107 ?r20107
     case y20107 => (intro W hW; go_simp; try with_reducible rfl)
     try simp only [List.set]
     refine wpAnyL_last (by kernel_rfl) rfl (fun K hK => ?_)
     go_simp
     refine hK.out _ _ ?_
     clear hK K
     try simp only [Act.put, List.getElem_toArray, List.getElem_cons_zero, List.getElem_cons_succ, List.setIfInBounds_toArray, List.set_cons_zero, List.set_cons_succ]
     refine wpAnyL_done (by kernel_rfl) ?_ _
     refine NoPanic.normal ?_
     clear hH
     have hsz := Hbw.out.size
     have hbu := hbd.trans (HF1.out.mono hbd.size)
     have Hbd := Lib.hid (Hbw.out.trans (hbu.mono (Nat.le_trans HB.out hsz)))
     have HR3 := Lib.hid (HR.out.later hbu)
     clear hbu hbd HF1 x0 x1 x2 x3 y0 y1 y2 y3 HC
     go_wp2
     go_roundw
     case rel => exact ⟨i, hx, rfl, by go_num, h1, by omega, by omega, Hi, Lib.hid (.inr HT2.out), HR3, Hbd⟩
     case measure => simp [intOf]; omega
    refine AllReadyL.cons rfl (fun K hK => ?_) ?_
    ·skip
     refine oper_load_mv 99 rfl g (hx * 4) y rfl y0 y1 y2 y3 ?_
     refine hK.out _ _ (trivial) (fun hH => ?_)
     clear hK K
     try simp only [Act.put, List.getElem_toArray, List.getElem_cons_zero, List.getElem_cons_succ, List.setIfInBounds_toArray, List.set_cons_zero, List.set_cons_succ]
     refine wpAnyL_one (i := 4) (by kernel_rfl) rfl (by decide) (fun K hK => ?_)
     refine oper_load_mv 95 rfl g (m * 4) x rfl x0 x1 x2 x3 ?_
     refine hK.out _ _ (trivial) (fun hH => ?_)
     clear hK K
     try simp only [Act.put, List.getElem_toArray, List.getElem_cons_zero, List.getElem_cons_succ, List.setIfInBounds_toArray, List.set_cons_zero, List.set_cons_succ]
     refine wpAnyL_one (i := 9) (by kernel_rfl) rfl (by decide) (fun K hK => ?_)
     refine oper_callv2 89 92 96 100 _ rfl rfl _ _ rfl rfl (enters_of Tryz.func89 (by kernel_rfl) rfl) ?_
     refine (HC.out _ hbd).mono ?_
     rintro e u1 ⟨rfl, hF⟩
     refine ⟨_, rfl, ?_⟩
     have HF1 := Lib.hid hF
     clear hF
     refine hK.out _ _ (trivial) (fun hH => ?_)
     clear hK K
     try simp only [Act.put, List.getElem_toArray, List.getElem_cons_zero, List.getElem_cons_succ, List.setIfInBounds_toArray, List.set_cons_zero, List.set_cons_succ]
     refine tkY 10 (v := ?v20108) ?y20108 ?r20108
     case y20108 => (intro W hW; go_simp; try with_reducible rfl)
     try simp only [List.set]
     refine wpAnyL_last (by kernel_rfl) rfl (fun K hK => ?_)
     go_simp
     refine hK.out _ _ ?_
     clear hK K
     try simp only [Act.put, List.getElem_toArray, List.getElem_cons_zero, List.getElem_cons_succ, List.setIfInBounds_toArray, List.set_cons_zero, List.set_cons_succ]
     refine wpAnyL_done (by kernel_rfl) ?_ _
     refine NoPanic.normal ?_
     clear hH
     have hsz := Hbw.out.size
     have hbu := hbd.trans (HF1.out.mono hbd.size)
     have Hbd := Lib.hid (Hbw.out.trans (hbu.mono (Nat.le_trans HB.out hsz)))
     have HR3 := Lib.hid (HR.out.later hbu)
     clear hbu hbd HF1 x0 x1 x2 x3 y0 y1 y2 y3 HC
     go_wp2
     go_roundw
     case rel => exact ⟨i, hx, rfl, by go_num, h1, by omega, by omega, Hi, Lib.hid (.inr HT2.out), HR3, Hbd⟩
     case measure => simp [intOf]; omega
    exact AllReadyL.nil
  ·obtain rfl : i = j := by omega
   have g1 : decide ((i : Int) < (i : Int)) = false := decide_eq_false (by omega)
   have HM := Lib.hid (show mrg ltM U [x] = U.take (i - a) ++ x :: U.drop (i - a) from sym_last HU.out (by
    rcases Hi.out with e | ⟨k, hk, e1, e2⟩
    ·left; omega
    ·right; exact ⟨k, hk, by omega, e2⟩) (by
    rcases Hj.out with e | ⟨k, hk, e1, e2⟩
    ·left; have := Hm.out; omega
    ·right
     have e3 : i - a = k := by omega
     exact ⟨by omega, by simp only [e3]; exact e2⟩) (by have := Hm.out; omega))
   clear Hi Hj
   go_wp2_with fail
   go_loopw [17] (fun i17 wr => ∃ kk : Nat, i17 = i64 (kk : Int) ∧ i ≤ kk ∧ kk ≤ m ∧ Hid (RowM wr B g n cap (P ++ U.take (kk - a) ++ x :: (U.drop (kk - a) ++ Q))) ∧ Hid (Below B w wr)) (fun i17 _ => (intOf i17).toNat - i)
   case atStart => exact ⟨m, rfl, h3, Nat.le_refl _, Lib.hid (by
    have h1 := HR.out
    rw [List.take_of_length_le (by have := Hm.out; omega), List.drop_of_length_le (by have := Hm.out; omega)]
    simpa using h1), Hbw⟩
   case round =>
    clear HR Hbw
    obtain ⟨kk, rfl, hq1, hq2, HR, Hbw⟩ := hrel
    obtain ⟨wj, rfl⟩ : ∃ wj, wj = wr := ⟨wr, rfl⟩
    by_cases hlq : i < kk
    ·obtain ⟨q, rfl⟩ : ∃ q, kk = q + 1 := ⟨kk - 1, by omega⟩
     have g3 : decide (((q + 1 : Nat) : Int) > (i : Int)) = true := decide_eq_true (by omega)
     have g4 : decide ((i : Int) < ((q + 1 : Nat) : Int)) = true := decide_eq_true (by omega)
     have g5 : decide (i < q + 1) = true := decide_eq_true hlq
     have g6 : decide ((i : Int) < (q : Int) + 1) = true := decide_eq_true (by omega)
     have g7 : decide ((q : Int) + 1 > (i : Int)) = true := decide_eq_true (by omega)
     have hkU : q - a < U.length := by have := Hm.out; omega
     obtain ⟨y, hye⟩ : ∃ y, U[q - a] = y := ⟨_, rfl⟩
     have hd : U.drop (q - a) = y :: U.drop (q + 1 - a) := by rw [← hye, List.drop_eq_getElem_cons hkU, show q + 1 - a = q - a + 1 by omega]
     have ht : U.take (q + 1 - a) = U.take (q - a) ++ [y] := by rw [show q + 1 - a = q - a + 1 by omega, List.take_succ_eq_append_getElem hkU, hye]
     obtain ⟨D, hD⟩ : ∃ D, D = U.drop (q + 1 - a) ++ Q := ⟨_, rfl⟩
     obtain ⟨A, hA⟩ : ∃ A, A = P ++ U.take (q - a) := ⟨_, rfl⟩
     have HR1 := Lib.hid (show RowM wj B g n cap (A ++ y :: x :: D) by have h1 := HR.out; rw [ht] at h1; rw [hD, hA]; simpa using h1)
     have Hnx := Lib.hid (show A ++ x :: y :: D = P ++ U.take (q - a) ++ x :: (U.drop (q - a) ++ Q) by rw [hd, hD, hA]; simp)
     have Hqe := Lib.hid (show q = A.length by rw [hA]; have := Ha.out; simp; omega)
     have hqn : q + 1 < n := by omega
     have i0 : (0 : Int) ≤ (q : Int) := by omega
     have i1' : (q : Int) < (n : Int) := by omega
     have i2 : (q : Int) + 1 < (n : Int) := by omega
     have i3 : (0 : Int) ≤ (q : Int) + 1 := by omega
     have hqs : q + 1 ≤ 60000 := by omega
     clear hd ht hye hD hA HR hkU
     go_upto_region 23 with fail
     refine wp_region_noPanic ?_
     refine wp_region_l 17 (fun _ : World => True) (by kernel_rfl) (trivial) (fun hH => ?_)
     have hbd := (Below.refl wj.heap.size wj).drew
     generalize wj.drew = Wd at *
     have HRd := Lib.hid (HR1.out.later hbd)
     obtain ⟨hxo, x0, x1, x2, x3⟩ := HRd.out.mid2
     obtain ⟨hyo, y0, y1, y2, y3⟩ := HRd.out.mid
     rw [← Hqe.out] at x0 x1 x2 x3 y0 y1 y2 y3
     have hln := HRd.out.len
     have hlo := HRd.out.lo
     have w1 : IntKind.i64.wrap (q : Int) = (q : Int) := by rw [IntKind.wrap_i64]; omega
     have w9 : IntKind.i64.wrap ((q : Int) + 1) = (q : Int) + 1 := by rw [IntKind.wrap_i64]; omega
     refine tkY 0 (v := ?v20125) ?y20125 ?r20125
     case y20125 => (intro W hW; go_simp; try with_reducible rfl)
     try simp only [List.set]
     refine tkY 1 (v := ?v20126) ?y20126 ?r20126
     case y20126 => (intro W hW; go_simp; try with_reducible rfl)
     try simp only [List.set]
     refine tkY 2 (v := ?v20127) ?y20127 ?r20127
     case y20127 => (intro W hW; go_simp; try with_reducible rfl)
     try simp only [List.set]
     refine tkY 3 (v := ?v20128) ?y20128 ?r20128
     case y20128 => (intro W hW; go_simp; try with_reducible rfl)
     try simp only [List.set]
     refine tkY 4 (v := ?v20129) ?y20129 ?r20129
     case y20129 => (intro W hW; go_simp; try with_reducible rfl)
     try simp only [List.set]
     refine tkY 5 (v := ?v20130) ?y20130 ?r20130
     case y20130 => (intro W hW; go_simp; try with_reducible rfl)
     try simp only [List.set]
     refine tkY 6 (v := ?v20131) ?y20131 ?r20131
     case y20131 => (intro W hW; go_simp; try with_reducible rfl)
     try simp only [List.set]
     refine tkY 7 (v := ?v20132) ?y20132 ?r20132
     case y20132 => (intro W hW; go_simp; try with_reducible rfl)
     try simp only [List.set]
     refine tkY 8 (v := ?v20133) ?y20133 ?r20133
     case y20133 => (intro W hW; go_simp; try with_reducible rfl)
     try simp only [List.set]
     refine tkY 10 (v := ?v20134) ?y20134 ?r20134
     case y20134 => (intro W hW; go_simp; try with_reducible rfl)
     try simp only [List.set]
     refine tkY 11 (v := ?v20135) ?y20135 ?r20135
     case y20135 => (intro W hW; go_simp; try with_reducible rfl)
     try simp only [List.set]
     refine tkY 12 (v := ?v20136) ?y20136 ?r20136
     case y20136 => (intro W hW; go_simp; try with_reducible rfl)
     try simp only [List.set]
     refine wpAnyL_ready (rs := [9, 13]) (by kernel_rfl) (by simp) ?_
     refine AllReadyL.cons rfl (fun K hK => ?_) ?_
     ·skip
      refine oper_load_mv 121 rfl g (q * 4) y rfl y0 y1 y2 y3 ?_
      refine hK.out _ _ (trivial) (fun hH => ?_)
      clear hK K
      try simp only [Act.put, List.getElem_toArray, List.getElem_cons_zero, List.getElem_cons_succ, List.setIfInBounds_toArray, List.set_cons_zero, List.set_cons_succ]
      refine wpAnyL_one (i := 13) (by kernel_rfl) rfl (by decide) (fun K hK => ?_)
      refine oper_load_mv 125 rfl g ((q + 1) * 4) x rfl x0 x1 x2 x3 ?_
      refine hK.out _ _ (trivial) (fun hH => ?_)
      clear hK K
      try simp only [Act.put, List.getElem_toArray, List.getElem_cons_zero, List.getElem_cons_succ, List.setIfInBounds_toArray, List.set_cons_zero, List.set_cons_succ]
      refine tkY 14 (v := ?v20137) ?y20137 ?r20137
      case y20137 => (intro W hW; go_simp; try with_reducible rfl)
      try simp only [List.set]
      refine wpAnyL_one (i := 15) (by kernel_rfl) rfl (by decide) (fun K hK => ?_)
      refine oper_store_own (α := Mv) (.tmp 127) (.tmp 122) 85 rfl (by kernel_rfl) g n cap (q + 1) ((q + 1) * 4) y HRd.out.own (by rw [hln]; omega) rfl rfl rfl (show Mv.Ok _ _ y from hyo) ?_
      intro v1 hO1 hg1
      have hO1 := Lib.hid hO1
      have hg1 := Lib.hid hg1
      refine hK.out _ _ (trivial) (fun hH => ?_)
      clear hK K
      try simp only [Act.put, List.getElem_toArray, List.getElem_cons_zero, List.getElem_cons_succ, List.setIfInBounds_toArray, List.set_cons_zero, List.set_cons_succ]
      refine tkY 16 (v := ?v20138) ?y20138 ?r20138
      case y20138 => (intro W hW; go_simp; try with_reducible rfl)
      try simp only [List.set]
      refine wpAnyL_last (by kernel_rfl) rfl (fun K hK => ?_)
      refine oper_store_own (α := Mv) (.tmp 128) (.tmp 126) 85 rfl (by kernel_rfl) g n cap q (q * 4) x hO1.out (by rw [List.length_set, hln]; omega) rfl rfl rfl (show Mv.Ok _ _ x from Enc.keep (α := Mv) hxo (fun p hp => World.cell?_of_block (hg1.out.block _ hp.1 hp.2)) (fun b hb => ⟨Nat.lt_of_lt_of_le hb.1 hg1.out.size, hb.2⟩)) ?_
      intro v2 hO2 hg2
      have hO2 := Lib.hid hO2
      have hg2 := Lib.hid hg2
      refine hK.out _ _ ?_
      clear hK K
      try simp only [Act.put, List.getElem_toArray, List.getElem_cons_zero, List.getElem_cons_succ, List.setIfInBounds_toArray, List.set_cons_zero, List.set_cons_succ]
      refine wpAnyL_done (by kernel_rfl) ?_ _
      refine NoPanic.normal ?_
      clear hH w1 w9
      have hO3 := hO2.out
      rw [Hqe.out, set_mid2, set_mid] at hO3
      have HRs := Lib.hid (HRd.out.put hO3 (by simp))
      have Hbs := Lib.hid ((Hbw.out.trans (hbd.mono (Nat.le_trans HB.out Hbw.out.size))).trans ((below_row hg1.out hlo.1 (by have := hlo.1; omega)).trans (below_row hg2.out hlo.1 (by have := hlo.1; have := hg1.out.size; omega))))
      clear hO3 hO2 hO1 hg1 hg2 HRd hbd x0 x1 x2 x3 y0 y1 y2 y3 hxo hyo hln hlo
      go_wp2
      go_roundw
      case rel => exact ⟨q, by go_num, by omega, by omega, Lib.hid (by rw [← Hnx.out]; exact HRs.out), Hbs⟩
      case measure => simp [intOf]; omega
     refine AllReadyL.cons rfl (fun K hK => ?_) ?_
     ·skip
      refine oper_load_mv 125 rfl g ((q + 1) * 4) x rfl x0 x1 x2 x3 ?_
      refine hK.out _ _ (trivial) (fun hH => ?_)
      clear hK K
      try simp only [Act.put, List.getElem_toArray, List.getElem_cons_zero, List.getElem_cons_succ, List.setIfInBounds_toArray, List.set_cons_zero, List.set_cons_succ]
      refine wpAnyL_one (i := 9) (by kernel_rfl) rfl (by decide) (fun K hK => ?_)
      refine oper_load_mv 121 rfl g (q * 4) y rfl y0 y1 y2 y3 ?_
      refine hK.out _ _ (trivial) (fun hH => ?_)
      clear hK K
      try simp only [Act.put, List.getElem_toArray, List.getElem_cons_zero, List.getElem_cons_succ, List.setIfInBounds_toArray, List.set_cons_zero, List.set_cons_succ]
      refine tkY 14 (v := ?v20139) ?y20139 ?r20139
      case y20139 => (intro W hW; go_simp; try with_reducible rfl)
      try simp only [List.set]
      refine wpAnyL_one (i := 15) (by kernel_rfl) rfl (by decide) (fun K hK => ?_)
      refine oper_store_own (α := Mv) (.tmp 127) (.tmp 122) 85 rfl (by kernel_rfl) g n cap (q + 1) ((q + 1) * 4) y HRd.out.own (by rw [hln]; omega) rfl rfl rfl (show Mv.Ok _ _ y from hyo) ?_
      intro v1 hO1 hg1
      have hO1 := Lib.hid hO1
      have hg1 := Lib.hid hg1
      refine hK.out _ _ (trivial) (fun hH => ?_)
      clear hK K
      try simp only [Act.put, List.getElem_toArray, List.getElem_cons_zero, List.getElem_cons_succ, List.setIfInBounds_toArray, List.set_cons_zero, List.set_cons_succ]
      refine tkY 16 (v := ?v20140) ?y20140 ?r20140
      case y20140 => (intro W hW; go_simp; try with_reducible rfl)
      try simp only [List.set]
      refine wpAnyL_last (by kernel_rfl) rfl (fun K hK => ?_)
      refine oper_store_own (α := Mv) (.tmp 128) (.tmp 126) 85 rfl (by kernel_rfl) g n cap q (q * 4) x hO1.out (by rw [List.length_set, hln]; omega) rfl rfl rfl (show Mv.Ok _ _ x from Enc.keep (α := Mv) hxo (fun p hp => World.cell?_of_block (hg1.out.block _ hp.1 hp.2)) (fun b hb => ⟨Nat.lt_of_lt_of_le hb.1 hg1.out.size, hb.2⟩)) ?_
      intro v2 hO2 hg2
      have hO2 := Lib.hid hO2
      have hg2 := Lib.hid hg2
      refine hK.out _ _ ?_
      clear hK K
      try simp only [Act.put, List.getElem_toArray, List.getElem_cons_zero, List.getElem_cons_succ, List.setIfInBounds_toArray, List.set_cons_zero, List.set_cons_succ]
      refine wpAnyL_done (by kernel_rfl) ?_ _
      refine NoPanic.normal ?_
      clear hH w1 w9
      have hO3 := hO2.out
      rw [Hqe.out, set_mid2, set_mid] at hO3
      have HRs := Lib.hid (HRd.out.put hO3 (by simp))
      have Hbs := Lib.hid ((Hbw.out.trans (hbd.mono (Nat.le_trans HB.out Hbw.out.size))).trans ((below_row hg1.out hlo.1 (by have := hlo.1; omega)).trans (below_row hg2.out hlo.1 (by have := hlo.1; have := hg1.out.size; omega))))
      clear hO3 hO2 hO1 hg1 hg2 HRd hbd x0 x1 x2 x3 y0 y1 y2 y3 hxo hyo hln hlo
      go_wp2
      go_roundw
      case rel => exact ⟨q, by go_num, by omega, by omega, Lib.hid (by rw [← Hnx.out]; exact HRs.out), Hbs⟩
      case measure => simp [intOf]; omega
     exact AllReadyL.nil
    ·obtain rfl : kk = i := by omega
     have g3 : decide ((kk : Int) > (kk : Int)) = false := decide_eq_false (by omega)
     have g4 : decide ((kk : Int) < (kk : Int)) = false := decide_eq_false (by omega)
     have HRf := Lib.hid (show RowM wj B g n cap (P ++ mrg ltM U [x] ++ Q) by
      have h1 := HR.out
      rw [HM.out]
      simpa using h1)
     clear HR
     go_wp2
     exact bodyPost_ret (results_none rfl _ _ _) rfl ⟨rfl, HRf.out, Hbw.out⟩
end Go.Proofs.YtgholbeehkfbiaaGreat
