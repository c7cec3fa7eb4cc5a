/- audit: sorting moves: insertion -/
import Derived.Test.YtgholbeehkfbiaaGreatRows
import Derived.Test.YtgholbeehkfbiaaGreatBpAuS0
import Derived.Deep.Cut
import Derived.WalkKit
import Derived.WalkSpells
import Derived.WalkLawsBesides
import Derived.Deep.QuietTactic
import Derived.BigQuiet
import Derived.Laws.StructEq
import Derived.Deep.DeepFit
import Derived.StillTailTactics
namespace Go.Proofs.YtgholbeehkfbiaaGreat
open Go.RowKit
theorem set_mid {α : Type} (A : List α) (x y : α) (C : List α) : (A ++ x :: C).set A.length y = A ++ y :: C := by
 rw [List.set_append_right _ _ (Nat.le_refl _), Nat.sub_self, List.set_cons_zero]
theorem set_mid2 {α : Type} (A : List α) (z x y : α) (C : List α) : (A ++ z :: x :: C).set (A.length + 1) y = A ++ z :: y :: C := by
 rw [List.set_append_right _ _ (by omega), show A.length + 1 - A.length = 1 by omega, List.set_cons_succ, List.set_cons_zero]
theorem RowM.mid {V : World} {B g n cap : Nat} {A : List Mv} {x : Mv} {C : List Mv} (h : RowM V B g n cap (A ++ x :: C)) : Mv.Ok V (Oth V (.slice (some ⟨g, 0, none⟩) n cap)) x ∧ V.cell? ⟨g, A.length * 4, none⟩ = some (i64 x.client) ∧ V.cell? ⟨g, A.length * 4 + 1, none⟩ = some (i64 x.seq) ∧ V.cell? ⟨g, A.length * 4 + 2, none⟩ = some (i64 x.period) ∧ V.cell? ⟨g, A.length * 4 + 3, none⟩ = some (.slice x.la x.legs.length x.lc) := by
 have hi : A.length < (A ++ x :: C).length := by simp
 have := h.at_ hi
 rw [show (A ++ x :: C)[A.length] = x by simp] at this
 exact this
theorem RowM.mid2 {V : World} {B g n cap : Nat} {A : List Mv} {y x : Mv} {C : List Mv} (h : RowM V B g n cap (A ++ y :: x :: C)) : Mv.Ok V (Oth V (.slice (some ⟨g, 0, none⟩) n cap)) x ∧ V.cell? ⟨g, (A.length + 1) * 4, none⟩ = some (i64 x.client) ∧ V.cell? ⟨g, (A.length + 1) * 4 + 1, none⟩ = some (i64 x.seq) ∧ V.cell? ⟨g, (A.length + 1) * 4 + 2, none⟩ = some (i64 x.period) ∧ V.cell? ⟨g, (A.length + 1) * 4 + 3, none⟩ = some (.slice x.la x.legs.length x.lc) := by
 have e : A ++ y :: x :: C = (A ++ [y]) ++ x :: C := by simp
 rw [e] at h
 have := h.mid
 rwa [show (A ++ [y]).length = A.length + 1 by simp] at this
theorem RowM.put {V V' : World} {B g n cap : Nat} {l l' : List Mv} (h : RowM V B g n cap l) (ho : Own V' B 85 (.slice (some ⟨g, 0, none⟩) n cap) l') (hl : l'.length = l.length) : RowM V' B g n cap l' := ⟨ho, hl.trans h.len⟩
theorem below_row {w w' : World} {B g : Nat} (hg : w.grownBy w' (some g)) (h1 : B ≤ g) (h2 : B ≤ w.heap.size) : Below B w w' := (Gr.of_grown hg).below h2 (fun j e => by injection e with e; omega)
theorem insM_step {U1 U2 : List Mv} {x : Mv} (hs : SortedB ltM (U1 ++ U2)) (h1 : U1 = [] ∨ ∃ A y, U1 = A ++ [y] ∧ ltM x y = false) (h2 : ∀ y ∈ U2, ltM x y = true) : mrg ltM (U1 ++ U2) [x] = U1 ++ x :: U2 := by
 refine mrg_right (fun z hz => ?_) h2
 rcases h1 with rfl | ⟨A, y, rfl, hy⟩
 ·cases hz
 ·rcases List.mem_append.1 hz with hz | hz
  ·have hp := (List.pairwise_append.1 (List.pairwise_append.1 hs).1).2.2 z hz y (List.mem_singleton.2 rfl)
   exact ltM_strict.co _ _ _ hy hp
  ·rw [List.mem_singleton.1 hz]; exact hy
set_option maxRecDepth 100000 in
set_option maxHeartbeats 16000000 in
theorem ains_c (B g n cap a b : Nat) (P S R : List Mv) (w : World) (h : RowM w B g n cap (P ++ S ++ R)) (ha : P.length = a) (hb : a + S.length = b) (hn : n ≤ 60000) (hq : ∀ x ∈ P ++ S ++ R, okMv x) (hB : B ≤ w.heap.size) :
  Calls Tryz.prog 189 #[.slice (some ⟨g, 0, none⟩) n cap, i64 a, i64 b, .func (.func 89) #[] #[]] w fun e w' => e = .returned (.tuple #[]) ∧ RowM w' B g n cap (P ++ sortB ltM S ++ R) ∧ Below B w w' := by
 have hlen := h.len
 rw [List.length_append, List.length_append] at hlen
 have hcn := h.capn
 have Hq := Lib.hid hq
 have H := Lib.hid h
 have HB := Lib.hid hB
 have Hlo := Lib.hid h.lo
 have hbn : b ≤ n := by omega
 have hab6 : a ≤ b := by omega
 have ha6 : a ≤ 60000 := by omega
 have hb6 : b ≤ 60000 := by omega
 have Ha := Lib.hid ha
 have Hb := Lib.hid hb
 clear h hq hB
 go_enter Tryz.func189, Tryz.ntmps189
 clear ha hb hlen
 go_wp2_with fail
 go_loopw [8] (fun i8 wr => ∃ (k ii : Nat), i8 = i64 (ii : Int) ∧ Hid (ii = a + 1 + k) ∧ (k + 1 ≤ S.length ∨ k = 0) ∧ Hid (RowM wr B g n cap (P ++ sortB ltM (S.take (k + 1)) ++ (S.drop (k + 1) ++ R))) ∧ Hid (Below B w wr)) (fun i8 _ => b + 1 - (intOf i8).toNat)
 case atStart =>
  refine ⟨0, a + 1, by go_num, Lib.hid rfl, .inr rfl, Lib.hid ?_, Lib.hid (Below.refl _ _)⟩
  have e : P ++ sortB ltM (S.take 1) ++ (S.drop 1 ++ R) = P ++ S ++ R := by
   cases S with
   | nil => simp [sortB]
   | cons x S => simp [sortB, insB]
  rw [e]; exact H.out
 case round =>
  obtain ⟨k, ii, rfl, Hii, hk, HR, Hbw⟩ := hrel
  by_cases hlt : k + 1 < S.length
  ·have hab := Hb.out
   have hib : ii < b := by have := Hii.out; omega
   have g1 : decide ((ii : Int) < (b : Int)) = true := decide_eq_true (by omega)
   have g1b : decide (ii < b) = true := decide_eq_true hib
   have hx : S.take (k + 2) = S.take (k + 1) ++ [S[k + 1]] := List.take_succ_eq_append_getElem hlt
   have hd : S.drop (k + 1) = S[k + 1] :: S.drop (k + 2) := List.drop_eq_getElem_cons hlt
   have HU := Lib.hid (show sortB ltM (S.take (k + 2)) = mrg ltM (sortB ltM (S.take (k + 1))) [S[k + 1]] by rw [hx, sortB_snoc ltM_strict])
   have HUs := Lib.hid (sortB_sorted ltM_strict (S.take (k + 1)))
   have HUl := Lib.hid (show (sortB ltM (S.take (k + 1))).length = k + 1 by rw [(sortB_perm _).length_eq, List.length_take]; omega)
   have HUm := Lib.hid (show ∀ y ∈ sortB ltM (S.take (k + 1)), okMv y from fun y hy => Hq.out y (by
    have := List.mem_of_mem_take ((sortB_perm _).mem_iff.1 hy)
    simp [this]))
   have Hxm := Lib.hid (show okMv S[k + 1] from Hq.out _ (by simp))
   rw [hd, List.cons_append] at HR
   generalize sortB ltM (S.take (k + 1)) = U at *
   generalize S[k + 1] = x at *
   generalize hRR : S.drop (k + 2) ++ R = RR at *
   have HRR := Lib.hid hRR
   clear hx hd hRR
   go_wp2_with fail
   go_loopw [9] (fun j9 wr => ∃ (jn : Nat) (U1 U2 : List Mv), j9 = i64 (jn : Int) ∧ Hid (jn = a + U1.length) ∧ Hid (U = U1 ++ U2) ∧ Hid (∀ y ∈ U2, ltM x y = true) ∧ Hid (RowM wr B g n cap ((P ++ U1) ++ x :: (U2 ++ RR))) ∧ Hid (Below B w wr)) (fun j9 _ => (intOf j9).toNat)
   case atStart => exact ⟨ii, U, [], rfl, Lib.hid (by rw [HUl.out]; have := Hii.out; omega), Lib.hid (List.append_nil _).symm, Lib.hid (fun _ h => by cases h), HR, Hbw⟩
   case round =>
    clear HR Hbw
    obtain ⟨jn, U1, U2, rfl, Hj, HUe, H2, HR, Hbw⟩ := hrel
    obtain ⟨wi, rfl⟩ : ∃ wi, wi = wr := ⟨wr, rfl⟩
    have hjl : jn ≤ ii := by
     have e1 := congrArg List.length HUe.out
     rw [List.length_append, HUl.out] at e1
     have := Hj.out
     have := Hii.out
     omega
    rcases List.eq_nil_or_concat U1 with rfl | ⟨U0, y, rfl⟩
    ·have hja : jn = a := by simpa using Hj.out
     have g3 : decide ((jn : Int) > (a : Int)) = false := decide_eq_false (by omega)
     have g4 : decide ((a : Int) < (jn : Int)) = false := decide_eq_false (by omega)
     have g5 : decide (a < jn) = false := decide_eq_false (by omega)
     have HR2 := Lib.hid (show RowM wi B g n cap (P ++ sortB ltM (S.take (k + 2)) ++ (S.drop (k + 2) ++ R)) by
      have h1 := HR.out
      have hm := insM_step (x := x) (U1 := []) (U2 := U2) (by rw [← HUe.out]; exact HUs.out) (.inl rfl) H2.out
      rw [HU.out, HUe.out, hm, HRR.out]
      simpa using h1)
     clear hja HR H2 HUe Hj
     go_upto_region 4 with fail
     refine wp_region_noPanic ?_
     refine wp_region_l 16 (fun _ : World => True) (by kernel_rfl) (trivial) (fun hH => ?_)
     refine tkY 0 (v := ?v20001) ?y20001 ?r20001
     case y20001 => (intro W hW; go_simp; try with_reducible rfl)
     try simp only [List.set]
     refine tkY 1 (v := ?v20002) ?y20002 ?r20002
     case y20002 => (intro W hW; go_simp; try with_reducible rfl)
     try simp only [List.set]
     refine tkY 2 (v := ?v20003) ?y20003 ?r20003
     case y20003 => (intro W hW; go_simp; try with_reducible rfl)
     try simp only [List.set]
     refine tkY 3 (v := ?v20004) ?y20004 ?r20004
     case y20004 => (intro W hW; go_simp; try with_reducible rfl)
     try simp only [List.set]
     refine tkN 4 ?_
     try simp only [List.set]
     refine tkN 5 ?_
     try simp only [List.set]
     refine tkN 6 ?_
     try simp only [List.set]
     refine tkN 7 ?_
     try simp only [List.set]
     refine tkN 8 ?_
     try simp only [List.set]
     refine tkN 9 ?_
     try simp only [List.set]
     refine tkN 10 ?_
     try simp only [List.set]
     refine tkN 11 ?_
     try simp only [List.set]
     refine tkN 12 ?_
     try simp only [List.set]
     refine tkN 13 ?_
     try simp only [List.set]
     refine tkN 14 ?_
     try simp only [List.set]
     refine tkN 15 ?_
     try simp only [List.set]
     refine wpAnyL_last (by kernel_rfl) rfl (fun K hK => ?_)
     go_simp
     refine hK.out _ _ ?_
     clear hK K
     try simp only [Act.put, List.getElem_toArray, List.getElem_cons_zero, List.getElem_cons_succ, List.setIfInBounds_toArray, List.set_cons_zero, List.set_cons_succ]
     refine wpAnyL_done (by kernel_rfl) ?_ _
     refine NoPanic.normal ?_
     clear hH
     have Hbd := Lib.hid ((Hbw.out.trans ((Below.refl wi.heap.size wi).drew.mono (Nat.le_trans HB.out Hbw.out.size))))
     have HR3 := Lib.hid (HR2.out.later ((Below.refl wi.heap.size wi).drew))
     go_wp2
     go_roundw
     case rel => exact ⟨k + 1, ii + 1, by go_num, Lib.hid (by have := Hii.out; omega), by omega, HR3, Hbd⟩
     case measure => simp [intOf]; omega
    ·rw [List.concat_eq_append] at *
     obtain ⟨q, hqe⟩ : ∃ q, q = (P ++ U0).length := ⟨_, rfl⟩
     have hjq : jn = q + 1 := by
      have := Hj.out
      rw [hqe]
      simp only [List.length_append, List.length_singleton] at *
      have := Ha.out
      omega
     have hqn : q + 1 < n := by
      have := HR.out.len
      rw [hqe]
      simp only [List.length_append, List.length_cons, List.length_singleton] at *
      omega
     have hqa : a ≤ q := by rw [hqe]; have := Ha.out; simp; omega
     have HR1 := Lib.hid (show RowM wi B g n cap ((P ++ U0) ++ y :: x :: (U2 ++ RR)) by have := HR.out; simpa using this)
     have Hym := Lib.hid (show okMv y from HUm.out y (by rw [HUe.out]; simp))
     have Hqe := Lib.hid hqe
     subst hjq
     have g3 : decide (((q + 1 : Nat) : Int) > (a : Int)) = true := decide_eq_true (by omega)
     have g4 : decide ((a : Int) < ((q + 1 : Nat) : Int)) = true := decide_eq_true (by omega)
     have g5 : decide (a < q + 1) = true := decide_eq_true (by omega)
     have g6 : decide ((a : Int) < (q : Int) + 1) = true := decide_eq_true (by omega)
     have g7 : decide ((q : Int) + 1 > (a : Int)) = true := decide_eq_true (by omega)
     have i0 : (0 : Int) ≤ (q : Int) := by omega
     have i1 : (q : Int) < (n : Int) := by omega
     have i2 : (q : Int) + 1 < (n : Int) := by omega
     have i3 : (0 : Int) ≤ (q : Int) + 1 := by omega
     have hqs : q + 1 ≤ 60000 := by omega
     clear hqe HR Hj hjl
     obtain ⟨cq, hcq⟩ : ∃ cq, cmpM x y = cq := ⟨_, rfl⟩
     have Hcq := Lib.hid (show decide (cq < 0) = ltM x y by rw [← hcq, cmpM_lt])
     have HC : Hid (∀ V, Below wi.heap.size wi V → Calls Tryz.prog 89 #[x.v, y.v] V fun e w' => e = .returned (i64 cq) ∧ Below V.heap.size V w') := Lib.hid fun V hV => by
      have h1 := (HR1.out.later hV)
      rw [← hcq]
      exact acmp_c x y V (Enc.keep (α := Mv) h1.mid2.1 (fun _ _ => rfl) (fun _ hb => hb.1)) (Enc.keep (α := Mv) h1.mid.1 (fun _ _ => rfl) (fun _ hb => hb.1)) Hxm.out Hym.out
     clear hcq
     cases hl : ltM x y with
     | false =>
      have q1 : decide (cq < 0) = false := by rw [Hcq.out, hl]
      have HR2 := Lib.hid (show RowM wi B g n cap (P ++ sortB ltM (S.take (k + 2)) ++ (S.drop (k + 2) ++ R)) by
       have h1 := HR1.out
       have hm := insM_step (x := x) (U1 := U0 ++ [y]) (U2 := U2) (by rw [← HUe.out]; exact HUs.out) (.inr ⟨U0, y, rfl, hl⟩) H2.out
       rw [HU.out, HUe.out, hm, HRR.out]
       simpa using h1)
      clear hl H2 HUe
      go_upto_region 4 with fail
      refine wp_region_noPanic ?_
      refine wp_region_l 16 (fun _ : World => True) (by kernel_rfl) (trivial) (fun hH => ?_)
      have hbd := (Below.refl wi.heap.size wi).drew
      generalize wi.drew = Wd at *
      have HRd := Lib.hid (HR1.out.later hbd)
      obtain ⟨-, x0, x1, x2, x3⟩ := HRd.out.mid2
      obtain ⟨-, y0, y1, y2, y3⟩ := HRd.out.mid
      rw [← Hqe.out] at x0 x1 x2 x3 y0 y1 y2 y3
      have w1 : IntKind.i64.wrap (q : Int) = (q : Int) := by rw [IntKind.wrap_i64]; omega
      refine tkY 0 (v := ?v20017) ?y20017 ?r20017
      case y20017 => (intro W hW; go_simp; try with_reducible rfl)
      try simp only [List.set]
      refine tkY 1 (v := ?v20018) ?y20018 ?r20018
      case y20018 => (intro W hW; go_simp; try with_reducible rfl)
      try simp only [List.set]
      refine tkY 2 (v := ?v20019) ?y20019 ?r20019
      case y20019 => (intro W hW; go_simp; try with_reducible rfl)
      try simp only [List.set]
      refine tkY 3 (v := ?v20020) ?y20020 ?r20020
      case y20020 => (intro W hW; go_simp; try with_reducible rfl)
      try simp only [List.set]
      refine tkY 4 (v := ?v20021) ?y20021 ?r20021
      case y20021 => (intro W hW; go_simp; try with_reducible rfl)
      try simp only [List.set]
      refine tkY 5 (v := ?v20022) ?y20022 ?r20022
      case y20022 => (intro W hW; go_simp; try with_reducible rfl)
      try simp only [List.set]
      refine tkY 6 (v := ?v20023) ?y20023 ?r20023
      case y20023 => (intro W hW; go_simp; try with_reducible rfl)
      try simp only [List.set]
      refine tkY 7 (v := ?v20024) ?y20024 ?r20024
      case y20024 => (intro W hW; go_simp; try with_reducible rfl)
      try simp only [List.set]
      refine tkY 9 (v := ?v20025) ?y20025 ?r20025
      case y20025 => (intro W hW; go_simp; try with_reducible rfl)
      try simp only [List.set]
      refine tkY 10 (v := ?v20026) ?y20026 ?r20026
      case y20026 => (intro W hW; go_simp; try with_reducible rfl)
      try simp only [List.set]
      refine tkY 11 (v := ?v20027) ?y20027 ?r20027
      case y20027 => (intro W hW; go_simp; try with_reducible rfl)
      try simp only [List.set]
      refine tkY 12 (v := ?v20028) ?y20028 ?r20028
      case y20028 => (intro W hW; go_simp; try with_reducible rfl)
      try simp only [List.set]
      refine wpAnyL_ready (rs := [8, 13]) (by kernel_rfl) (by simp) ?_
      refine AllReadyL.cons rfl (fun K hK => ?_) ?_
      ·skip
       refine oper_load_mv 25 rfl g ((q + 1) * 4) x rfl x0 x1 x2 x3 ?_
       refine hK.out _ _ (trivial) (fun hH => ?_)
       clear hK K
       try simp only [Act.put, List.getElem_toArray, List.getElem_cons_zero, List.getElem_cons_succ, List.setIfInBounds_toArray, List.set_cons_zero, List.set_cons_succ]
       refine wpAnyL_one (i := 13) (by kernel_rfl) rfl (by decide) (fun K hK => ?_)
       refine oper_load_mv 30 rfl g (q * 4) y rfl y0 y1 y2 y3 ?_
       refine hK.out _ _ (trivial) (fun hH => ?_)
       clear hK K
       try simp only [Act.put, List.getElem_toArray, List.getElem_cons_zero, List.getElem_cons_succ, List.setIfInBounds_toArray, List.set_cons_zero, List.set_cons_succ]
       refine wpAnyL_one (i := 14) (by kernel_rfl) rfl (by decide) (fun K hK => ?_)
       refine oper_callv2 89 22 26 31 _ rfl rfl _ _ rfl rfl (enters_of Tryz.func89 (by kernel_rfl) rfl) ?_
       refine (HC.out _ hbd).mono ?_
       rintro e u1 ⟨rfl, hF⟩
       refine ⟨_, rfl, ?_⟩
       have HF1 := Lib.hid hF
       clear hF
       refine hK.out _ _ (trivial) (fun hH => ?_)
       clear hK K
       try simp only [Act.put, List.getElem_toArray, List.getElem_cons_zero, List.getElem_cons_succ, List.setIfInBounds_toArray, List.set_cons_zero, List.set_cons_succ]
       refine tkY 15 (v := ?v20029) ?y20029 ?r20029
       case y20029 => (intro W hW; go_simp; try with_reducible rfl)
       try simp only [List.set]
       refine wpAnyL_last (by kernel_rfl) rfl (fun K hK => ?_)
       go_simp
       refine hK.out _ _ ?_
       clear hK K
       try simp only [Act.put, List.getElem_toArray, List.getElem_cons_zero, List.getElem_cons_succ, List.setIfInBounds_toArray, List.set_cons_zero, List.set_cons_succ]
       refine wpAnyL_done (by kernel_rfl) ?_ _
       refine NoPanic.normal ?_
       clear hH w1
       have hsz := Hbw.out.size
       have hbu := hbd.trans (HF1.out.mono hbd.size)
       have Hbd := Lib.hid (Hbw.out.trans (hbu.mono (Nat.le_trans HB.out hsz)))
       have HR3 := Lib.hid (HR2.out.later hbu)
       clear hbu hbd HF1 HRd x0 x1 x2 x3 y0 y1 y2 y3
       go_wp2
       go_roundw
       case rel => exact ⟨k + 1, ii + 1, by go_num, Lib.hid (by have := Hii.out; omega), by omega, HR3, Hbd⟩
       case measure => simp [intOf]; omega
      refine AllReadyL.cons rfl (fun K hK => ?_) ?_
      ·skip
       refine oper_load_mv 30 rfl g (q * 4) y rfl y0 y1 y2 y3 ?_
       refine hK.out _ _ (trivial) (fun hH => ?_)
       clear hK K
       try simp only [Act.put, List.getElem_toArray, List.getElem_cons_zero, List.getElem_cons_succ, List.setIfInBounds_toArray, List.set_cons_zero, List.set_cons_succ]
       refine wpAnyL_one (i := 8) (by kernel_rfl) rfl (by decide) (fun K hK => ?_)
       refine oper_load_mv 25 rfl g ((q + 1) * 4) x rfl x0 x1 x2 x3 ?_
       refine hK.out _ _ (trivial) (fun hH => ?_)
       clear hK K
       try simp only [Act.put, List.getElem_toArray, List.getElem_cons_zero, List.getElem_cons_succ, List.setIfInBounds_toArray, List.set_cons_zero, List.set_cons_succ]
       refine wpAnyL_one (i := 14) (by kernel_rfl) rfl (by decide) (fun K hK => ?_)
       refine oper_callv2 89 22 26 31 _ rfl rfl _ _ rfl rfl (enters_of Tryz.func89 (by kernel_rfl) rfl) ?_
       refine (HC.out _ hbd).mono ?_
       rintro e u1 ⟨rfl, hF⟩
       refine ⟨_, rfl, ?_⟩
       have HF1 := Lib.hid hF
       clear hF
       refine hK.out _ _ (trivial) (fun hH => ?_)
       clear hK K
       try simp only [Act.put, List.getElem_toArray, List.getElem_cons_zero, List.getElem_cons_succ, List.setIfInBounds_toArray, List.set_cons_zero, List.set_cons_succ]
       refine tkY 15 (v := ?v20030) ?y20030 ?r20030
       case y20030 => (intro W hW; go_simp; try with_reducible rfl)
       try simp only [List.set]
       refine wpAnyL_last (by kernel_rfl) rfl (fun K hK => ?_)
       go_simp
       refine hK.out _ _ ?_
       clear hK K
       try simp only [Act.put, List.getElem_toArray, List.getElem_cons_zero, List.getElem_cons_succ, List.setIfInBounds_toArray, List.set_cons_zero, List.set_cons_succ]
       refine wpAnyL_done (by kernel_rfl) ?_ _
       refine NoPanic.normal ?_
       clear hH w1
       have hsz := Hbw.out.size
       have hbu := hbd.trans (HF1.out.mono hbd.size)
       have Hbd := Lib.hid (Hbw.out.trans (hbu.mono (Nat.le_trans HB.out hsz)))
       have HR3 := Lib.hid (HR2.out.later hbu)
       clear hbu hbd HF1 HRd x0 x1 x2 x3 y0 y1 y2 y3
       go_wp2
       go_roundw
       case rel => exact ⟨k + 1, ii + 1, by go_num, Lib.hid (by have := Hii.out; omega), by omega, HR3, Hbd⟩
       case measure => simp [intOf]; omega
      exact AllReadyL.nil
     | true =>
      have q1 : decide (cq < 0) = true := by rw [Hcq.out, hl]
      have H2b := Lib.hid (show ∀ z ∈ y :: U2, ltM x z = true from fun z hz => by
       rcases List.mem_cons.1 hz with rfl | hz
       ·exact hl
       ·exact H2.out z hz)
      have HUe2 := Lib.hid (show U = U0 ++ (y :: U2) by rw [HUe.out]; simp)
      clear hl H2 HUe
      go_upto_region 4 with fail
      refine wp_region_noPanic ?_
      refine wp_region_l 16 (fun _ : World => True) (by kernel_rfl) (trivial) (fun hH => ?_)
      have hbd := (Below.refl wi.heap.size wi).drew
      generalize wi.drew = Wd at *
      have HRd := Lib.hid (HR1.out.later hbd)
      obtain ⟨-, x0, x1, x2, x3⟩ := HRd.out.mid2
      obtain ⟨-, y0, y1, y2, y3⟩ := HRd.out.mid
      rw [← Hqe.out] at x0 x1 x2 x3 y0 y1 y2 y3
      have w1 : IntKind.i64.wrap (q : Int) = (q : Int) := by rw [IntKind.wrap_i64]; omega
      refine tkY 0 (v := ?v20031) ?y20031 ?r20031
      case y20031 => (intro W hW; go_simp; try with_reducible rfl)
      try simp only [List.set]
      refine tkY 1 (v := ?v20032) ?y20032 ?r20032
      case y20032 => (intro W hW; go_simp; try with_reducible rfl)
      try simp only [List.set]
      refine tkY 2 (v := ?v20033) ?y20033 ?r20033
      case y20033 => (intro W hW; go_simp; try with_reducible rfl)
      try simp only [List.set]
      refine tkY 3 (v := ?v20034) ?y20034 ?r20034
      case y20034 => (intro W hW; go_simp; try with_reducible rfl)
      try simp only [List.set]
      refine tkY 4 (v := ?v20035) ?y20035 ?r20035
      case y20035 => (intro W hW; go_simp; try with_reducible rfl)
      try simp only [List.set]
      refine tkY 5 (v := ?v20036) ?y20036 ?r20036
      case y20036 => (intro W hW; go_simp; try with_reducible rfl)
      try simp only [List.set]
      refine tkY 6 (v := ?v20037) ?y20037 ?r20037
      case y20037 => (intro W hW; go_simp; try with_reducible rfl)
      try simp only [List.set]
      refine tkY 7 (v := ?v20038) ?y20038 ?r20038
      case y20038 => (intro W hW; go_simp; try with_reducible rfl)
      try simp only [List.set]
      refine tkY 9 (v := ?v20039) ?y20039 ?r20039
      case y20039 => (intro W hW; go_simp; try with_reducible rfl)
      try simp only [List.set]
      refine tkY 10 (v := ?v20040) ?y20040 ?r20040
      case y20040 => (intro W hW; go_simp; try with_reducible rfl)
      try simp only [List.set]
      refine tkY 11 (v := ?v20041) ?y20041 ?r20041
      case y20041 => (intro W hW; go_simp; try with_reducible rfl)
      try simp only [List.set]
      refine tkY 12 (v := ?v20042) ?y20042 ?r20042
      case y20042 => (intro W hW; go_simp; try with_reducible rfl)
      try simp only [List.set]
      refine wpAnyL_ready (rs := [8, 13]) (by kernel_rfl) (by simp) ?_
      refine AllReadyL.cons rfl (fun K hK => ?_) ?_
      ·skip
       refine oper_load_mv 25 rfl g ((q + 1) * 4) x rfl x0 x1 x2 x3 ?_
       refine hK.out _ _ (trivial) (fun hH => ?_)
       clear hK K
       try simp only [Act.put, List.getElem_toArray, List.getElem_cons_zero, List.getElem_cons_succ, List.setIfInBounds_toArray, List.set_cons_zero, List.set_cons_succ]
       refine wpAnyL_one (i := 13) (by kernel_rfl) rfl (by decide) (fun K hK => ?_)
       refine oper_load_mv 30 rfl g (q * 4) y rfl y0 y1 y2 y3 ?_
       refine hK.out _ _ (trivial) (fun hH => ?_)
       clear hK K
       try simp only [Act.put, List.getElem_toArray, List.getElem_cons_zero, List.getElem_cons_succ, List.setIfInBounds_toArray, List.set_cons_zero, List.set_cons_succ]
       refine wpAnyL_one (i := 14) (by kernel_rfl) rfl (by decide) (fun K hK => ?_)
       refine oper_callv2 89 22 26 31 _ rfl rfl _ _ rfl rfl (enters_of Tryz.func89 (by kernel_rfl) rfl) ?_
       refine (HC.out _ hbd).mono ?_
       rintro e u1 ⟨rfl, hF⟩
       refine ⟨_, rfl, ?_⟩
       have HF1 := Lib.hid hF
       clear hF
       refine hK.out _ _ (trivial) (fun hH => ?_)
       clear hK K
       try simp only [Act.put, List.getElem_toArray, List.getElem_cons_zero, List.getElem_cons_succ, List.setIfInBounds_toArray, List.set_cons_zero, List.set_cons_succ]
       refine tkY 15 (v := ?v20043) ?y20043 ?r20043
       case y20043 => (intro W hW; go_simp; try with_reducible rfl)
       try simp only [List.set]
       refine wpAnyL_last (by kernel_rfl) rfl (fun K hK => ?_)
       go_simp
       refine hK.out _ _ ?_
       clear hK K
       try simp only [Act.put, List.getElem_toArray, List.getElem_cons_zero, List.getElem_cons_succ, List.setIfInBounds_toArray, List.set_cons_zero, List.set_cons_succ]
       refine wpAnyL_done (by kernel_rfl) ?_ _
       refine NoPanic.normal ?_
       clear hH w1
       have hsz := Hbw.out.size
       have hbu := hbd.trans (HF1.out.mono hbd.size)
       have Hbu := Lib.hid (Hbw.out.trans (hbu.mono (Nat.le_trans HB.out hsz)))
       have HRu := Lib.hid (HR1.out.later hbu)
       clear hbu hbd HF1 HRd x0 x1 x2 x3 y0 y1 y2 y3 HC
       go_upto_region 6 with fail
       refine wp_region_noPanic ?_
       refine wp_region_l 17 (fun _ : World => True) (by kernel_rfl) (trivial) (fun hH => ?_)
       have hbd := (Below.refl u1.heap.size u1).drew
       generalize u1.drew = Wd at *
       have HRd := Lib.hid (HRu.out.later hbd)
       obtain ⟨hxo, x0, x1, x2, x3⟩ := HRd.out.mid2
       obtain ⟨hyo, y0, y1, y2, y3⟩ := HRd.out.mid
       rw [← Hqe.out] at x0 x1 x2 x3 y0 y1 y2 y3
       have hln := HRd.out.len
       have hlo := HRd.out.lo
       have w1 : IntKind.i64.wrap (q : Int) = (q : Int) := by rw [IntKind.wrap_i64]; omega
       have w9 : IntKind.i64.wrap ((q : Int) + 1) = (q : Int) + 1 := by rw [IntKind.wrap_i64]; omega
       refine tkY 0 (v := ?v20044) ?y20044 ?r20044
       case y20044 => (intro W hW; go_simp; try with_reducible rfl)
       try simp only [List.set]
       refine tkY 1 (v := ?v20045) ?y20045 ?r20045
       case y20045 => (intro W hW; go_simp; try with_reducible rfl)
       try simp only [List.set]
       refine tkY 2 (v := ?v20046) ?y20046 ?r20046
       case y20046 => (intro W hW; go_simp; try with_reducible rfl)
       try simp only [List.set]
       refine tkY 3 (v := ?v20047) ?y20047 ?r20047
       case y20047 => (intro W hW; go_simp; try with_reducible rfl)
       try simp only [List.set]
       refine tkY 4 (v := ?v20048) ?y20048 ?r20048
       case y20048 => (intro W hW; go_simp; try with_reducible rfl)
       try simp only [List.set]
       refine tkY 5 (v := ?v20049) ?y20049 ?r20049
       case y20049 => (intro W hW; go_simp; try with_reducible rfl)
       try simp only [List.set]
       refine tkY 6 (v := ?v20050) ?y20050 ?r20050
       case y20050 => (intro W hW; go_simp; try with_reducible rfl)
       try simp only [List.set]
       refine tkY 7 (v := ?v20051) ?y20051 ?r20051
       case y20051 => (intro W hW; go_simp; try with_reducible rfl)
       try simp only [List.set]
       refine tkY 8 (v := ?v20052) ?y20052 ?r20052
       case y20052 => (intro W hW; go_simp; try with_reducible rfl)
       try simp only [List.set]
       refine tkY 10 (v := ?v20053) ?y20053 ?r20053
       case y20053 => (intro W hW; go_simp; try with_reducible rfl)
       try simp only [List.set]
       refine tkY 11 (v := ?v20054) ?y20054 ?r20054
       case y20054 => (intro W hW; go_simp; try with_reducible rfl)
       try simp only [List.set]
       refine tkY 12 (v := ?v20055) ?y20055 ?r20055
       case y20055 => (intro W hW; go_simp; try with_reducible rfl)
       try simp only [List.set]
       refine wpAnyL_ready (rs := [9, 13]) (by kernel_rfl) (by simp) ?_
       refine AllReadyL.cons rfl (fun K hK => ?_) ?_
       ·skip
        refine oper_load_mv 45 rfl g (q * 4) y rfl y0 y1 y2 y3 ?_
        refine hK.out _ _ (trivial) (fun hH => ?_)
        clear hK K
        try simp only [Act.put, List.getElem_toArray, List.getElem_cons_zero, List.getElem_cons_succ, List.setIfInBounds_toArray, List.set_cons_zero, List.set_cons_succ]
        refine wpAnyL_one (i := 13) (by kernel_rfl) rfl (by decide) (fun K hK => ?_)
        refine oper_load_mv 49 rfl g ((q + 1) * 4) x rfl x0 x1 x2 x3 ?_
        refine hK.out _ _ (trivial) (fun hH => ?_)
        clear hK K
        try simp only [Act.put, List.getElem_toArray, List.getElem_cons_zero, List.getElem_cons_succ, List.setIfInBounds_toArray, List.set_cons_zero, List.set_cons_succ]
        refine tkY 14 (v := ?v20056) ?y20056 ?r20056
        case y20056 => (intro W hW; go_simp; try with_reducible rfl)
        try simp only [List.set]
        refine wpAnyL_one (i := 15) (by kernel_rfl) rfl (by decide) (fun K hK => ?_)
        refine oper_store_own (α := Mv) (.tmp 51) (.tmp 46) 85 rfl (by kernel_rfl) g n cap (q + 1) ((q + 1) * 4) y HRd.out.own (by rw [hln]; omega) rfl rfl rfl (show Mv.Ok _ _ y from hyo) ?_
        intro v1 hO1 hg1
        have hO1 := Lib.hid hO1
        have hg1 := Lib.hid hg1
        refine hK.out _ _ (trivial) (fun hH => ?_)
        clear hK K
        try simp only [Act.put, List.getElem_toArray, List.getElem_cons_zero, List.getElem_cons_succ, List.setIfInBounds_toArray, List.set_cons_zero, List.set_cons_succ]
        refine tkY 16 (v := ?v20057) ?y20057 ?r20057
        case y20057 => (intro W hW; go_simp; try with_reducible rfl)
        try simp only [List.set]
        refine wpAnyL_last (by kernel_rfl) rfl (fun K hK => ?_)
        refine oper_store_own (α := Mv) (.tmp 52) (.tmp 50) 85 rfl (by kernel_rfl) g n cap q (q * 4) x hO1.out (by rw [List.length_set, hln]; omega) rfl rfl rfl (show Mv.Ok _ _ x from Enc.keep (α := Mv) hxo (fun p hp => World.cell?_of_block (hg1.out.block _ hp.1 hp.2)) (fun b hb => ⟨Nat.lt_of_lt_of_le hb.1 hg1.out.size, hb.2⟩)) ?_
        intro v2 hO2 hg2
        have hO2 := Lib.hid hO2
        have hg2 := Lib.hid hg2
        refine hK.out _ _ ?_
        clear hK K
        try simp only [Act.put, List.getElem_toArray, List.getElem_cons_zero, List.getElem_cons_succ, List.setIfInBounds_toArray, List.set_cons_zero, List.set_cons_succ]
        refine wpAnyL_done (by kernel_rfl) ?_ _
        refine NoPanic.normal ?_
        clear hH w1 w9
        have hO3 := hO2.out
        rw [Hqe.out, set_mid2, set_mid] at hO3
        have HRs := Lib.hid (HRd.out.put hO3 (by simp))
        have Hbs := Lib.hid ((Hbu.out.trans (hbd.mono (Nat.le_trans HB.out Hbu.out.size))).trans ((below_row hg1.out hlo.1 (by have := hlo.1; omega)).trans (below_row hg2.out hlo.1 (by have := hlo.1; have := hg1.out.size; omega))))
        clear hO3 hO2 hO1 hg1 hg2 HRd hbd x0 x1 x2 x3 y0 y1 y2 y3 hxo hyo hln hlo
        go_wp2
        go_roundw
        case rel => exact ⟨q, U0, y :: U2, by go_num, Lib.hid (by rw [Hqe.out]; simp [Ha.out]), HUe2, H2b, by (have := HRs.out; exact Lib.hid (by simpa using this)), Hbs⟩
        case measure => first | (simp [intOf]; done) | (simp [intOf]; omega)
       refine AllReadyL.cons rfl (fun K hK => ?_) ?_
       ·skip
        refine oper_load_mv 49 rfl g ((q + 1) * 4) x rfl x0 x1 x2 x3 ?_
        refine hK.out _ _ (trivial) (fun hH => ?_)
        clear hK K
        try simp only [Act.put, List.getElem_toArray, List.getElem_cons_zero, List.getElem_cons_succ, List.setIfInBounds_toArray, List.set_cons_zero, List.set_cons_succ]
        refine wpAnyL_one (i := 9) (by kernel_rfl) rfl (by decide) (fun K hK => ?_)
        refine oper_load_mv 45 rfl g (q * 4) y rfl y0 y1 y2 y3 ?_
        refine hK.out _ _ (trivial) (fun hH => ?_)
        clear hK K
        try simp only [Act.put, List.getElem_toArray, List.getElem_cons_zero, List.getElem_cons_succ, List.setIfInBounds_toArray, List.set_cons_zero, List.set_cons_succ]
        refine tkY 14 (v := ?v20058) ?y20058 ?r20058
        case y20058 => (intro W hW; go_simp; try with_reducible rfl)
        try simp only [List.set]
        refine wpAnyL_one (i := 15) (by kernel_rfl) rfl (by decide) (fun K hK => ?_)
        refine oper_store_own (α := Mv) (.tmp 51) (.tmp 46) 85 rfl (by kernel_rfl) g n cap (q + 1) ((q + 1) * 4) y HRd.out.own (by rw [hln]; omega) rfl rfl rfl (show Mv.Ok _ _ y from hyo) ?_
        intro v1 hO1 hg1
        have hO1 := Lib.hid hO1
        have hg1 := Lib.hid hg1
        refine hK.out _ _ (trivial) (fun hH => ?_)
        clear hK K
        try simp only [Act.put, List.getElem_toArray, List.getElem_cons_zero, List.getElem_cons_succ, List.setIfInBounds_toArray, List.set_cons_zero, List.set_cons_succ]
        refine tkY 16 (v := ?v20059) ?y20059 ?r20059
        case y20059 => (intro W hW; go_simp; try with_reducible rfl)
        try simp only [List.set]
        refine wpAnyL_last (by kernel_rfl) rfl (fun K hK => ?_)
        refine oper_store_own (α := Mv) (.tmp 52) (.tmp 50) 85 rfl (by kernel_rfl) g n cap q (q * 4) x hO1.out (by rw [List.length_set, hln]; omega) rfl rfl rfl (show Mv.Ok _ _ x from Enc.keep (α := Mv) hxo (fun p hp => World.cell?_of_block (hg1.out.block _ hp.1 hp.2)) (fun b hb => ⟨Nat.lt_of_lt_of_le hb.1 hg1.out.size, hb.2⟩)) ?_
        intro v2 hO2 hg2
        have hO2 := Lib.hid hO2
        have hg2 := Lib.hid hg2
        refine hK.out _ _ ?_
        clear hK K
        try simp only [Act.put, List.getElem_toArray, List.getElem_cons_zero, List.getElem_cons_succ, List.setIfInBounds_toArray, List.set_cons_zero, List.set_cons_succ]
        refine wpAnyL_done (by kernel_rfl) ?_ _
        refine NoPanic.normal ?_
        clear hH w1 w9
        have hO3 := hO2.out
        rw [Hqe.out, set_mid2, set_mid] at hO3
        have HRs := Lib.hid (HRd.out.put hO3 (by simp))
        have Hbs := Lib.hid ((Hbu.out.trans (hbd.mono (Nat.le_trans HB.out Hbu.out.size))).trans ((below_row hg1.out hlo.1 (by have := hlo.1; omega)).trans (below_row hg2.out hlo.1 (by have := hlo.1; have := hg1.out.size; omega))))
        clear hO3 hO2 hO1 hg1 hg2 HRd hbd x0 x1 x2 x3 y0 y1 y2 y3 hxo hyo hln hlo
        go_wp2
        go_roundw
        case rel => exact ⟨q, U0, y :: U2, by go_num, Lib.hid (by rw [Hqe.out]; simp [Ha.out]), HUe2, H2b, by (have := HRs.out; exact Lib.hid (by simpa using this)), Hbs⟩
        case measure => first | (simp [intOf]; done) | (simp [intOf]; omega)
       exact AllReadyL.nil
      refine AllReadyL.cons rfl (fun K hK => ?_) ?_
      ·skip
       refine oper_load_mv 30 rfl g (q * 4) y rfl y0 y1 y2 y3 ?_
       refine hK.out _ _ (trivial) (fun hH => ?_)
       clear hK K
       try simp only [Act.put, List.getElem_toArray, List.getElem_cons_zero, List.getElem_cons_succ, List.setIfInBounds_toArray, List.set_cons_zero, List.set_cons_succ]
       refine wpAnyL_one (i := 8) (by kernel_rfl) rfl (by decide) (fun K hK => ?_)
       refine oper_load_mv 25 rfl g ((q + 1) * 4) x rfl x0 x1 x2 x3 ?_
       refine hK.out _ _ (trivial) (fun hH => ?_)
       clear hK K
       try simp only [Act.put, List.getElem_toArray, List.getElem_cons_zero, List.getElem_cons_succ, List.setIfInBounds_toArray, List.set_cons_zero, List.set_cons_succ]
       refine wpAnyL_one (i := 14) (by kernel_rfl) rfl (by decide) (fun K hK => ?_)
       refine oper_callv2 89 22 26 31 _ rfl rfl _ _ rfl rfl (enters_of Tryz.func89 (by kernel_rfl) rfl) ?_
       refine (HC.out _ hbd).mono ?_
       rintro e u1 ⟨rfl, hF⟩
       refine ⟨_, rfl, ?_⟩
       have HF1 := Lib.hid hF
       clear hF
       refine hK.out _ _ (trivial) (fun hH => ?_)
       clear hK K
       try simp only [Act.put, List.getElem_toArray, List.getElem_cons_zero, List.getElem_cons_succ, List.setIfInBounds_toArray, List.set_cons_zero, List.set_cons_succ]
       refine tkY 15 (v := ?v20060) ?y20060 ?r20060
       case y20060 => (intro W hW; go_simp; try with_reducible rfl)
       try simp only [List.set]
       refine wpAnyL_last (by kernel_rfl) rfl (fun K hK => ?_)
       go_simp
       refine hK.out _ _ ?_
       clear hK K
       try simp only [Act.put, List.getElem_toArray, List.getElem_cons_zero, List.getElem_cons_succ, List.setIfInBounds_toArray, List.set_cons_zero, List.set_cons_succ]
       refine wpAnyL_done (by kernel_rfl) ?_ _
       refine NoPanic.normal ?_
       clear hH w1
       have hsz := Hbw.out.size
       have hbu := hbd.trans (HF1.out.mono hbd.size)
       have Hbu := Lib.hid (Hbw.out.trans (hbu.mono (Nat.le_trans HB.out hsz)))
       have HRu := Lib.hid (HR1.out.later hbu)
       clear hbu hbd HF1 HRd x0 x1 x2 x3 y0 y1 y2 y3 HC
       go_upto_region 6 with fail
       refine wp_region_noPanic ?_
       refine wp_region_l 17 (fun _ : World => True) (by kernel_rfl) (trivial) (fun hH => ?_)
       have hbd := (Below.refl u1.heap.size u1).drew
       generalize u1.drew = Wd at *
       have HRd := Lib.hid (HRu.out.later hbd)
       obtain ⟨hxo, x0, x1, x2, x3⟩ := HRd.out.mid2
       obtain ⟨hyo, y0, y1, y2, y3⟩ := HRd.out.mid
       rw [← Hqe.out] at x0 x1 x2 x3 y0 y1 y2 y3
       have hln := HRd.out.len
       have hlo := HRd.out.lo
       have w1 : IntKind.i64.wrap (q : Int) = (q : Int) := by rw [IntKind.wrap_i64]; omega
       have w9 : IntKind.i64.wrap ((q : Int) + 1) = (q : Int) + 1 := by rw [IntKind.wrap_i64]; omega
       refine tkY 0 (v := ?v20061) ?y20061 ?r20061
       case y20061 => (intro W hW; go_simp; try with_reducible rfl)
       try simp only [List.set]
       refine tkY 1 (v := ?v20062) ?y20062 ?r20062
       case y20062 => (intro W hW; go_simp; try with_reducible rfl)
       try simp only [List.set]
       refine tkY 2 (v := ?v20063) ?y20063 ?r20063
       case y20063 => (intro W hW; go_simp; try with_reducible rfl)
       try simp only [List.set]
       refine tkY 3 (v := ?v20064) ?y20064 ?r20064
       case y20064 => (intro W hW; go_simp; try with_reducible rfl)
       try simp only [List.set]
       refine tkY 4 (v := ?v20065) ?y20065 ?r20065
       case y20065 => (intro W hW; go_simp; try with_reducible rfl)
       try simp only [List.set]
       refine tkY 5 (v := ?v20066) ?y20066 ?r20066
       case y20066 => (intro W hW; go_simp; try with_reducible rfl)
       try simp only [List.set]
       refine tkY 6 (v := ?v20067) ?y20067 ?r20067
       case y20067 => (intro W hW; go_simp; try with_reducible rfl)
       try simp only [List.set]
       refine tkY 7 (v := ?v20068) ?y20068 ?r20068
       case y20068 => (intro W hW; go_simp; try with_reducible rfl)
       try simp only [List.set]
       refine tkY 8 (v := ?v20069) ?y20069 ?r20069
       case y20069 => (intro W hW; go_simp; try with_reducible rfl)
       try simp only [List.set]
       refine tkY 10 (v := ?v20070) ?y20070 ?r20070
       case y20070 => (intro W hW; go_simp; try with_reducible rfl)
       try simp only [List.set]
       refine tkY 11 (v := ?v20071) ?y20071 ?r20071
       case y20071 => (intro W hW; go_simp; try with_reducible rfl)
       try simp only [List.set]
       refine tkY 12 (v := ?v20072) ?y20072 ?r20072
       case y20072 => (intro W hW; go_simp; try with_reducible rfl)
       try simp only [List.set]
       refine wpAnyL_ready (rs := [9, 13]) (by kernel_rfl) (by simp) ?_
       refine AllReadyL.cons rfl (fun K hK => ?_) ?_
       ·skip
        refine oper_load_mv 45 rfl g (q * 4) y rfl y0 y1 y2 y3 ?_
        refine hK.out _ _ (trivial) (fun hH => ?_)
        clear hK K
        try simp only [Act.put, List.getElem_toArray, List.getElem_cons_zero, List.getElem_cons_succ, List.setIfInBounds_toArray, List.set_cons_zero, List.set_cons_succ]
        refine wpAnyL_one (i := 13) (by kernel_rfl) rfl (by decide) (fun K hK => ?_)
        refine oper_load_mv 49 rfl g ((q + 1) * 4) x rfl x0 x1 x2 x3 ?_
        refine hK.out _ _ (trivial) (fun hH => ?_)
        clear hK K
        try simp only [Act.put, List.getElem_toArray, List.getElem_cons_zero, List.getElem_cons_succ, List.setIfInBounds_toArray, List.set_cons_zero, List.set_cons_succ]
        refine tkY 14 (v := ?v20073) ?y20073 ?r20073
        case y20073 => (intro W hW; go_simp; try with_reducible rfl)
        try simp only [List.set]
        refine wpAnyL_one (i := 15) (by kernel_rfl) rfl (by decide) (fun K hK => ?_)
        refine oper_store_own (α := Mv) (.tmp 51) (.tmp 46) 85 rfl (by kernel_rfl) g n cap (q + 1) ((q + 1) * 4) y HRd.out.own (by rw [hln]; omega) rfl rfl rfl (show Mv.Ok _ _ y from hyo) ?_
        intro v1 hO1 hg1
        have hO1 := Lib.hid hO1
        have hg1 := Lib.hid hg1
        refine hK.out _ _ (trivial) (fun hH => ?_)
        clear hK K
        try simp only [Act.put, List.getElem_toArray, List.getElem_cons_zero, List.getElem_cons_succ, List.setIfInBounds_toArray, List.set_cons_zero, List.set_cons_succ]
        refine tkY 16 (v := ?v20074) ?y20074 ?r20074
        case y20074 => (intro W hW; go_simp; try with_reducible rfl)
        try simp only [List.set]
        refine wpAnyL_last (by kernel_rfl) rfl (fun K hK => ?_)
        refine oper_store_own (α := Mv) (.tmp 52) (.tmp 50) 85 rfl (by kernel_rfl) g n cap q (q * 4) x hO1.out (by rw [List.length_set, hln]; omega) rfl rfl rfl (show Mv.Ok _ _ x from Enc.keep (α := Mv) hxo (fun p hp => World.cell?_of_block (hg1.out.block _ hp.1 hp.2)) (fun b hb => ⟨Nat.lt_of_lt_of_le hb.1 hg1.out.size, hb.2⟩)) ?_
        intro v2 hO2 hg2
        have hO2 := Lib.hid hO2
        have hg2 := Lib.hid hg2
        refine hK.out _ _ ?_
        clear hK K
        try simp only [Act.put, List.getElem_toArray, List.getElem_cons_zero, List.getElem_cons_succ, List.setIfInBounds_toArray, List.set_cons_zero, List.set_cons_succ]
        refine wpAnyL_done (by kernel_rfl) ?_ _
        refine NoPanic.normal ?_
        clear hH w1 w9
        have hO3 := hO2.out
        rw [Hqe.out, set_mid2, set_mid] at hO3
        have HRs := Lib.hid (HRd.out.put hO3 (by simp))
        have Hbs := Lib.hid ((Hbu.out.trans (hbd.mono (Nat.le_trans HB.out Hbu.out.size))).trans ((below_row hg1.out hlo.1 (by have := hlo.1; omega)).trans (below_row hg2.out hlo.1 (by have := hlo.1; have := hg1.out.size; omega))))
        clear hO3 hO2 hO1 hg1 hg2 HRd hbd x0 x1 x2 x3 y0 y1 y2 y3 hxo hyo hln hlo
        go_wp2
        go_roundw
        case rel => exact ⟨q, U0, y :: U2, by go_num, Lib.hid (by rw [Hqe.out]; simp [Ha.out]), HUe2, H2b, by (have := HRs.out; exact Lib.hid (by simpa using this)), Hbs⟩
        case measure => first | (simp [intOf]; done) | (simp [intOf]; omega)
       refine AllReadyL.cons rfl (fun K hK => ?_) ?_
       ·skip
        refine oper_load_mv 49 rfl g ((q + 1) * 4) x rfl x0 x1 x2 x3 ?_
        refine hK.out _ _ (trivial) (fun hH => ?_)
        clear hK K
        try simp only [Act.put, List.getElem_toArray, List.getElem_cons_zero, List.getElem_cons_succ, List.setIfInBounds_toArray, List.set_cons_zero, List.set_cons_succ]
        refine wpAnyL_one (i := 9) (by kernel_rfl) rfl (by decide) (fun K hK => ?_)
        refine oper_load_mv 45 rfl g (q * 4) y rfl y0 y1 y2 y3 ?_
        refine hK.out _ _ (trivial) (fun hH => ?_)
        clear hK K
        try simp only [Act.put, List.getElem_toArray, List.getElem_cons_zero, List.getElem_cons_succ, List.setIfInBounds_toArray, List.set_cons_zero, List.set_cons_succ]
        refine tkY 14 (v := ?v20075) ?y20075 ?r20075
        case y20075 => (intro W hW; go_simp; try with_reducible rfl)
        try simp only [List.set]
        refine wpAnyL_one (i := 15) (by kernel_rfl) rfl (by decide) (fun K hK => ?_)
        refine oper_store_own (α := Mv) (.tmp 51) (.tmp 46) 85 rfl (by kernel_rfl) g n cap (q + 1) ((q + 1) * 4) y HRd.out.own (by rw [hln]; omega) rfl rfl rfl (show Mv.Ok _ _ y from hyo) ?_
        intro v1 hO1 hg1
        have hO1 := Lib.hid hO1
        have hg1 := Lib.hid hg1
        refine hK.out _ _ (trivial) (fun hH => ?_)
        clear hK K
        try simp only [Act.put, List.getElem_toArray, List.getElem_cons_zero, List.getElem_cons_succ, List.setIfInBounds_toArray, List.set_cons_zero, List.set_cons_succ]
        refine tkY 16 (v := ?v20076) ?y20076 ?r20076
        case y20076 => (intro W hW; go_simp; try with_reducible rfl)
        try simp only [List.set]
        refine wpAnyL_last (by kernel_rfl) rfl (fun K hK => ?_)
        refine oper_store_own (α := Mv) (.tmp 52) (.tmp 50) 85 rfl (by kernel_rfl) g n cap q (q * 4) x hO1.out (by rw [List.length_set, hln]; omega) rfl rfl rfl (show Mv.Ok _ _ x from Enc.keep (α := Mv) hxo (fun p hp => World.cell?_of_block (hg1.out.block _ hp.1 hp.2)) (fun b hb => ⟨Nat.lt_of_lt_of_le hb.1 hg1.out.size, hb.2⟩)) ?_
        intro v2 hO2 hg2
        have hO2 := Lib.hid hO2
        have hg2 := Lib.hid hg2
        refine hK.out _ _ ?_
        clear hK K
        try simp only [Act.put, List.getElem_toArray, List.getElem_cons_zero, List.getElem_cons_succ, List.setIfInBounds_toArray, List.set_cons_zero, List.set_cons_succ]
        refine wpAnyL_done (by kernel_rfl) ?_ _
        refine NoPanic.normal ?_
        clear hH w1 w9
        have hO3 := hO2.out
        rw [Hqe.out, set_mid2, set_mid] at hO3
        have HRs := Lib.hid (HRd.out.put hO3 (by simp))
        have Hbs := Lib.hid ((Hbu.out.trans (hbd.mono (Nat.le_trans HB.out Hbu.out.size))).trans ((below_row hg1.out hlo.1 (by have := hlo.1; omega)).trans (below_row hg2.out hlo.1 (by have := hlo.1; have := hg1.out.size; omega))))
        clear hO3 hO2 hO1 hg1 hg2 HRd hbd x0 x1 x2 x3 y0 y1 y2 y3 hxo hyo hln hlo
        go_wp2
        go_roundw
        case rel => exact ⟨q, U0, y :: U2, by go_num, Lib.hid (by rw [Hqe.out]; simp [Ha.out]), HUe2, H2b, by (have := HRs.out; exact Lib.hid (by simpa using this)), Hbs⟩
        case measure => first | (simp [intOf]; done) | (simp [intOf]; omega)
       exact AllReadyL.nil
      exact AllReadyL.nil
  ·have hib : ¬ ii < b := by have := Hb.out; have := Hii.out; omega
   have g1 : decide ((ii : Int) < (b : Int)) = false := decide_eq_false (by omega)
   have g1b : decide (ii < b) = false := decide_eq_false hib
   have HR2 := Lib.hid (show RowM wr B g n cap (P ++ sortB ltM S ++ R) by
    have h1 := HR.out
    rw [List.take_of_length_le (by omega), List.drop_of_length_le (by omega)] at h1
    simpa using h1)
   clear HR
   go_wp2
   go_end0
   exact ⟨rfl, HR2.out, Hbw.out⟩
end Go.Proofs.YtgholbeehkfbiaaGreat
