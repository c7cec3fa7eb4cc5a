/- Texts of this claim, laid together: AuS1, AuS2, SymP. -/
import Derived.Test.YtampniiehgimhaaGreatRows
import Derived.Test.YtampniiehgimhaaGreatBq33
import Derived.Deep.Cut
import Derived.WalkKit
import Derived.WalkSpells
import Derived.WalkLawsBesides
import Derived.Deep.QuietTactic
import Derived.BigQuiet
import Derived.Laws.StructEq
import Derived.Deep.DeepFit
import Derived.StillTailTactics

/- audit: sorting moves: insertion -/
namespace Go.Proofs.YtampniiehgimhaaGreat
open Go.RowKit
theorem set_mid {α : Type} (A : List α) (x y : α) (C : List α) : (A ++ x :: C).set A.length y = A ++ y :: C := by
 rw [List.set_append_right _ _ (Nat.le_refl _), Nat.sub_self, List.set_cons_zero]
theorem set_mid2 {α : Type} (A : List α) (z x y : α) (C : List α) : (A ++ z :: x :: C).set (A.length + 1) y = A ++ z :: y :: C := by
 rw [List.set_append_right _ _ (by omega), show A.length + 1 - A.length = 1 by omega, List.set_cons_succ, List.set_cons_zero]
theorem RowM.mid {V : World} {B g n cap : Nat} {A : List Mv} {x : Mv} {C : List Mv} (h : RowM V B g n cap (A ++ x :: C)) : Mv.Ok V (Oth V (.slice (some ⟨g, 0, none⟩) n cap)) x ∧ V.cell? ⟨g, A.length * 4, none⟩ = some (i64 x.client) ∧ V.cell? ⟨g, A.length * 4 + 1, none⟩ = some (i64 x.seq) ∧ V.cell? ⟨g, A.length * 4 + 2, none⟩ = some (i64 x.period) ∧ V.cell? ⟨g, A.length * 4 + 3, none⟩ = some (.slice x.la x.legs.length x.lc) := by
 have hi : A.length < (A ++ x :: C).length := by simp
 have := h.at_ hi
 rw [show (A ++ x :: C)[A.length] = x by simp] at this
 exact this
theorem RowM.mid2 {V : World} {B g n cap : Nat} {A : List Mv} {y x : Mv} {C : List Mv} (h : RowM V B g n cap (A ++ y :: x :: C)) : Mv.Ok V (Oth V (.slice (some ⟨g, 0, none⟩) n cap)) x ∧ V.cell? ⟨g, (A.length + 1) * 4, none⟩ = some (i64 x.client) ∧ V.cell? ⟨g, (A.length + 1) * 4 + 1, none⟩ = some (i64 x.seq) ∧ V.cell? ⟨g, (A.length + 1) * 4 + 2, none⟩ = some (i64 x.period) ∧ V.cell? ⟨g, (A.length + 1) * 4 + 3, none⟩ = some (.slice x.la x.legs.length x.lc) := by
 have e : A ++ y :: x :: C = (A ++ [y]) ++ x :: C := by simp
 rw [e] at h
 have := h.mid
 rwa [show (A ++ [y]).length = A.length + 1 by simp] at this
theorem RowM.put {V V' : World} {B g n cap : Nat} {l l' : List Mv} (h : RowM V B g n cap l) (ho : Own V' B 85 (.slice (some ⟨g, 0, none⟩) n cap) l') (hl : l'.length = l.length) : RowM V' B g n cap l' := ⟨ho, hl.trans h.len⟩
theorem below_row {w w' : World} {B g : Nat} (hg : w.grownBy w' (some g)) (h1 : B ≤ g) (h2 : B ≤ w.heap.size) : Below B w w' := (Gr.of_grown hg).below h2 (fun j e => by injection e with e; omega)
theorem insM_step {U1 U2 : List Mv} {x : Mv} (hs : SortedB ltM (U1 ++ U2)) (h1 : U1 = [] ∨ ∃ A y, U1 = A ++ [y] ∧ ltM x y = false) (h2 : ∀ y ∈ U2, ltM x y = true) : mrg ltM (U1 ++ U2) [x] = U1 ++ x :: U2 := by
 refine mrg_right (fun z hz => ?_) h2
 rcases h1 with rfl | ⟨A, y, rfl, hy⟩
 ·cases hz
 ·rcases List.mem_append.1 hz with hz | hz
  ·have hp := (List.pairwise_append.1 (List.pairwise_append.1 hs).1).2.2 z hz y (List.mem_singleton.2 rfl)
   exact ltM_strict.co _ _ _ hy hp
  ·rw [List.mem_singleton.1 hz]; exact hy
set_option maxRecDepth 100000 in
set_option maxHeartbeats 16000000 in
theorem ains_c (B g n cap a b : Nat) (P S R : List Mv) (w : World) (h : RowM w B g n cap (P ++ S ++ R)) (ha : P.length = a) (hb : a + S.length = b) (hn : n ≤ 60000) (hq : ∀ x ∈ P ++ S ++ R, okMv x) (hB : B ≤ w.heap.size) :
  Calls Tryz.prog 179 #[.slice (some ⟨g, 0, none⟩) n cap, i64 a, i64 b, .func (.func 83) #[] #[]] w fun e w' => e = .returned (.tuple #[]) ∧ RowM w' B g n cap (P ++ sortB ltM S ++ R) ∧ Below B w w' := by
 have hlen := h.len
 rw [List.length_append, List.length_append] at hlen
 have hcn := h.capn
 have Hq := Lib.hid hq
 have H := Lib.hid h
 have HB := Lib.hid hB
 have Hlo := Lib.hid h.lo
 have hbn : b ≤ n := by omega
 have hab6 : a ≤ b := by omega
 have ha6 : a ≤ 60000 := by omega
 have hb6 : b ≤ 60000 := by omega
 have Ha := Lib.hid ha
 have Hb := Lib.hid hb
 clear h hq hB
 go_enter Tryz.func179, Tryz.ntmps179
 clear ha hb hlen
 go_wp2_with fail
 go_loopw [8] (fun i8 wr => ∃ (k ii : Nat), i8 = i64 (ii : Int) ∧ Hid (ii = a + 1 + k) ∧ (k + 1 ≤ S.length ∨ k = 0) ∧ Hid (RowM wr B g n cap (P ++ sortB ltM (S.take (k + 1)) ++ (S.drop (k + 1) ++ R))) ∧ Hid (Below B w wr)) (fun i8 _ => b + 1 - (intOf i8).toNat)
 case atStart =>
  refine ⟨0, a + 1, by go_num, Lib.hid rfl, .inr rfl, Lib.hid ?_, Lib.hid (Below.refl _ _)⟩
  have e : P ++ sortB ltM (S.take 1) ++ (S.drop 1 ++ R) = P ++ S ++ R := by
   cases S with
   | nil => simp [sortB]
   | cons x S => simp [sortB, insB]
  rw [e]; exact H.out
 case round =>
  obtain ⟨k, ii, rfl, Hii, hk, HR, Hbw⟩ := hrel
  by_cases hlt : k + 1 < S.length
  ·have hab := Hb.out
   have hib : ii < b := by have := Hii.out; omega
   have g1 : decide ((ii : Int) < (b : Int)) = true := decide_eq_true (by omega)
   have g1b : decide (ii < b) = true := decide_eq_true hib
   have hx : S.take (k + 2) = S.take (k + 1) ++ [S[k + 1]] := List.take_succ_eq_append_getElem hlt
   have hd : S.drop (k + 1) = S[k + 1] :: S.drop (k + 2) := List.drop_eq_getElem_cons hlt
   have HU := Lib.hid (show sortB ltM (S.take (k + 2)) = mrg ltM (sortB ltM (S.take (k + 1))) [S[k + 1]] by rw [hx, sortB_snoc ltM_strict])
   have HUs := Lib.hid (sortB_sorted ltM_strict (S.take (k + 1)))
   have HUl := Lib.hid (show (sortB ltM (S.take (k + 1))).length = k + 1 by rw [(sortB_perm _).length_eq, List.length_take]; omega)
   have HUm := Lib.hid (show ∀ y ∈ sortB ltM (S.take (k + 1)), okMv y from fun y hy => Hq.out y (by
    have := List.mem_of_mem_take ((sortB_perm _).mem_iff.1 hy)
    simp [this]))
   have Hxm := Lib.hid (show okMv S[k + 1] from Hq.out _ (by simp))
   rw [hd, List.cons_append] at HR
   generalize sortB ltM (S.take (k + 1)) = U at *
   generalize S[k + 1] = x at *
   generalize hRR : S.drop (k + 2) ++ R = RR at *
   have HRR := Lib.hid hRR
   clear hx hd hRR
   go_wp2_with fail
   go_loopw [9] (fun j9 wr => ∃ (jn : Nat) (U1 U2 : List Mv), j9 = i64 (jn : Int) ∧ Hid (jn = a + U1.length) ∧ Hid (U = U1 ++ U2) ∧ Hid (∀ y ∈ U2, ltM x y = true) ∧ Hid (RowM wr B g n cap ((P ++ U1) ++ x :: (U2 ++ RR))) ∧ Hid (Below B w wr)) (fun j9 _ => (intOf j9).toNat)
   case atStart => exact ⟨ii, U, [], rfl, Lib.hid (by rw [HUl.out]; have := Hii.out; omega), Lib.hid (List.append_nil _).symm, Lib.hid (fun _ h => by cases h), HR, Hbw⟩
   case round =>
    clear HR Hbw
    obtain ⟨jn, U1, U2, rfl, Hj, HUe, H2, HR, Hbw⟩ := hrel
    obtain ⟨wi, rfl⟩ : ∃ wi, wi = wr := ⟨wr, rfl⟩
    have hjl : jn ≤ ii := by
     have e1 := congrArg List.length HUe.out
     rw [List.length_append, HUl.out] at e1
     have := Hj.out
     have := Hii.out
     omega
    rcases List.eq_nil_or_concat U1 with rfl | ⟨U0, y, rfl⟩
    ·have hja : jn = a := by simpa using Hj.out
     have g3 : decide ((jn : Int) > (a : Int)) = false := decide_eq_false (by omega)
     have g4 : decide ((a : Int) < (jn : Int)) = false := decide_eq_false (by omega)
     have g5 : decide (a < jn) = false := decide_eq_false (by omega)
     have HR2 := Lib.hid (show RowM wi B g n cap (P ++ sortB ltM (S.take (k + 2)) ++ (S.drop (k + 2) ++ R)) by
      have h1 := HR.out
      have hm := insM_step (x := x) (U1 := []) (U2 := U2) (by rw [← HUe.out]; exact HUs.out) (.inl rfl) H2.out
      rw [HU.out, HUe.out, hm, HRR.out]
      simpa using h1)
     clear hja HR H2 HUe Hj
     go_upto_region 4 with fail
     refine wp_region_noPanic ?_
     refine wp_region_l 16 (fun _ : World => True) (by kernel_rfl) (trivial) (fun hH => ?_)
     refine tkZ 0 ?_; refine tkZ 1 ?_; refine tkZ 2 ?_; refine tkZ 3 ?_; refine tkM 4 ?_; refine tkM 5 ?_; refine tkM 6 ?_; refine tkM 7 ?_; refine tkM 8 ?_; refine tkM 9 ?_; refine tkM 10 ?_; refine tkM 11 ?_; refine tkM 12 ?_; refine tkM 13 ?_; refine tkM 14 ?_; refine tkM 15 ?_
     refine tkL (fun K hK => ?_)
     go_simp
     refine hK.out _ _ ?_
     clear hK K
     try simp only [Act.put, uA, uZ, uS, vA, vZ, vS]
     refine tkD ?_
     clear hH
     have Hbd := Lib.hid ((Hbw.out.trans ((Below.refl wi.heap.size wi).drew.mono (Nat.le_trans HB.out Hbw.out.size))))
     have HR3 := Lib.hid (HR2.out.later ((Below.refl wi.heap.size wi).drew))
     go_wp2
     go_roundw
     case rel => exact ⟨k + 1, ii + 1, by go_num, Lib.hid (by have := Hii.out; omega), by omega, HR3, Hbd⟩
     case measure => simp [intOf]; omega
    ·rw [List.concat_eq_append] at *
     obtain ⟨q, hqe⟩ : ∃ q, q = (P ++ U0).length := ⟨_, rfl⟩
     have hjq : jn = q + 1 := by
      have := Hj.out
      rw [hqe]
      simp only [List.length_append, List.length_singleton] at *
      have := Ha.out
      omega
     have hqn : q + 1 < n := by
      have := HR.out.len
      rw [hqe]
      simp only [List.length_append, List.length_cons] at *
      omega
     have hqa : a ≤ q := by rw [hqe]; have := Ha.out; simp; omega
     have HR1 := Lib.hid (show RowM wi B g n cap ((P ++ U0) ++ y :: x :: (U2 ++ RR)) by have := HR.out; simpa using this)
     have Hym := Lib.hid (show okMv y from HUm.out y (by rw [HUe.out]; simp))
     have Hqe := Lib.hid hqe
     subst hjq
     have g3 : decide (((q + 1 : Nat) : Int) > (a : Int)) = true := decide_eq_true (by omega)
     have g4 : decide ((a : Int) < ((q + 1 : Nat) : Int)) = true := decide_eq_true (by omega)
     have g5 : decide (a < q + 1) = true := decide_eq_true (by omega)
     have g6 : decide ((a : Int) < (q : Int) + 1) = true := decide_eq_true (by omega)
     have g7 : decide ((q : Int) + 1 > (a : Int)) = true := decide_eq_true (by omega)
     have i0 : (0 : Int) ≤ (q : Int) := by omega
     have i1 : (q : Int) < (n : Int) := by omega
     have i2 : (q : Int) + 1 < (n : Int) := by omega
     have i3 : (0 : Int) ≤ (q : Int) + 1 := by omega
     have hqs : q + 1 ≤ 60000 := by omega
     clear hqe HR Hj hjl
     obtain ⟨cq, hcq⟩ : ∃ cq, cmpM x y = cq := ⟨_, rfl⟩
     have Hcq := Lib.hid (show decide (cq < 0) = ltM x y by rw [← hcq, cmpM_lt])
     have HC : Hid (∀ V, Below wi.heap.size wi V → Calls Tryz.prog 83 #[x.v, y.v] V fun e w' => e = .returned (i64 cq) ∧ Below V.heap.size V w') := Lib.hid fun V hV => by
      have h1 := (HR1.out.later hV)
      rw [← hcq]
      exact acmp_c x y V (Enc.keep (α := Mv) h1.mid2.1 (fun _ _ => rfl) (fun _ hb => hb.1)) (Enc.keep (α := Mv) h1.mid.1 (fun _ _ => rfl) (fun _ hb => hb.1)) Hxm.out Hym.out
     clear hcq
     cases hl : ltM x y with
     | false =>
      have q1 : decide (cq < 0) = false := by rw [Hcq.out, hl]
      have HR2 := Lib.hid (show RowM wi B g n cap (P ++ sortB ltM (S.take (k + 2)) ++ (S.drop (k + 2) ++ R)) by
       have h1 := HR1.out
       have hm := insM_step (x := x) (U1 := U0 ++ [y]) (U2 := U2) (by rw [← HUe.out]; exact HUs.out) (.inr ⟨U0, y, rfl, hl⟩) H2.out
       rw [HU.out, HUe.out, hm, HRR.out]
       simpa using h1)
      clear hl H2 HUe
      go_upto_region 4 with fail
      refine wp_region_noPanic ?_
      refine wp_region_l 16 (fun _ : World => True) (by kernel_rfl) (trivial) (fun hH => ?_)
      have hbd := (Below.refl wi.heap.size wi).drew
      generalize wi.drew = Wd at *
      have HRd := Lib.hid (HR1.out.later hbd)
      obtain ⟨-, x0, x1, x2, x3⟩ := HRd.out.mid2
      obtain ⟨-, y0, y1, y2, y3⟩ := HRd.out.mid
      rw [← Hqe.out] at x0 x1 x2 x3 y0 y1 y2 y3
      have w1 : IntKind.i64.wrap (q : Int) = (q : Int) := by rw [IntKind.wrap_i64]; omega
      refine tkZ 0 ?_; refine tkZ 1 ?_; refine tkZ 2 ?_; refine tkZ 3 ?_; refine tkZ 4 ?_; refine tkZ 5 ?_; refine tkZ 6 ?_; refine tkZ 7 ?_; refine tkZ 9 ?_; refine tkZ 10 ?_; refine tkZ 11 ?_; refine tkZ 12 ?_
      refine wpAnyL_ready (rs := [8, 13]) (by kernel_rfl) (by simp) ?_
      refine AllReadyL.cons rfl (fun K hK => ?_) ?_
      ·skip
       refine oper_load_mv 25 rfl g ((q + 1) * 4) x rfl x0 x1 x2 x3 ?_
       refine hK.out _ _ (trivial) (fun hH => ?_)
       clear hK K
       try simp only [Act.put, uA, uZ, uS, vA, vZ, vS]
       refine tkO 13 (fun K hK => ?_)
       refine oper_load_mv 30 rfl g (q * 4) y rfl y0 y1 y2 y3 ?_
       refine hK.out _ _ (trivial) (fun hH => ?_)
       clear hK K
       try simp only [Act.put, uA, uZ, uS, vA, vZ, vS]
       refine tkO 14 (fun K hK => ?_)
       refine oper_callv2 83 22 26 31 _ rfl rfl _ _ rfl rfl (enters_of Tryz.func83 (by kernel_rfl) rfl) ?_
       refine (HC.out _ hbd).mono ?_
       rintro e u1 ⟨rfl, hF⟩
       refine ⟨_, rfl, ?_⟩
       have HF1 := Lib.hid hF
       clear hF
       refine hK.out _ _ (trivial) (fun hH => ?_)
       clear hK K
       try simp only [Act.put, uA, uZ, uS, vA, vZ, vS]
       refine tkZ 15 ?_
       refine tkL (fun K hK => ?_)
       go_simp
       refine hK.out _ _ ?_
       clear hK K
       try simp only [Act.put, uA, uZ, uS, vA, vZ, vS]
       refine tkD ?_
       clear hH w1
       have hsz := Hbw.out.size
       have hbu := hbd.trans (HF1.out.mono hbd.size)
       have Hbd := Lib.hid (Hbw.out.trans (hbu.mono (Nat.le_trans HB.out hsz)))
       have HR3 := Lib.hid (HR2.out.later hbu)
       clear hbu hbd HF1 HRd x0 x1 x2 x3 y0 y1 y2 y3
       go_wp2
       go_roundw
       case rel => exact ⟨k + 1, ii + 1, by go_num, Lib.hid (by have := Hii.out; omega), by omega, HR3, Hbd⟩
       case measure => simp [intOf]; omega
      refine AllReadyL.cons rfl (fun K hK => ?_) ?_
      ·skip
       refine oper_load_mv 30 rfl g (q * 4) y rfl y0 y1 y2 y3 ?_
       refine hK.out _ _ (trivial) (fun hH => ?_)
       clear hK K
       try simp only [Act.put, uA, uZ, uS, vA, vZ, vS]
       refine tkO 8 (fun K hK => ?_)
       refine oper_load_mv 25 rfl g ((q + 1) * 4) x rfl x0 x1 x2 x3 ?_
       refine hK.out _ _ (trivial) (fun hH => ?_)
       clear hK K
       try simp only [Act.put, uA, uZ, uS, vA, vZ, vS]
       refine tkO 14 (fun K hK => ?_)
       refine oper_callv2 83 22 26 31 _ rfl rfl _ _ rfl rfl (enters_of Tryz.func83 (by kernel_rfl) rfl) ?_
       refine (HC.out _ hbd).mono ?_
       rintro e u1 ⟨rfl, hF⟩
       refine ⟨_, rfl, ?_⟩
       have HF1 := Lib.hid hF
       clear hF
       refine hK.out _ _ (trivial) (fun hH => ?_)
       clear hK K
       try simp only [Act.put, uA, uZ, uS, vA, vZ, vS]
       refine tkZ 15 ?_
       refine tkL (fun K hK => ?_)
       go_simp
       refine hK.out _ _ ?_
       clear hK K
       try simp only [Act.put, uA, uZ, uS, vA, vZ, vS]
       refine tkD ?_
       clear hH w1
       have hsz := Hbw.out.size
       have hbu := hbd.trans (HF1.out.mono hbd.size)
       have Hbd := Lib.hid (Hbw.out.trans (hbu.mono (Nat.le_trans HB.out hsz)))
       have HR3 := Lib.hid (HR2.out.later hbu)
       clear hbu hbd HF1 HRd x0 x1 x2 x3 y0 y1 y2 y3
       go_wp2
       go_roundw
       case rel => exact ⟨k + 1, ii + 1, by go_num, Lib.hid (by have := Hii.out; omega), by omega, HR3, Hbd⟩
       case measure => simp [intOf]; omega
      exact AllReadyL.nil
     | true =>
      have q1 : decide (cq < 0) = true := by rw [Hcq.out, hl]
      have H2b := Lib.hid (show ∀ z ∈ y :: U2, ltM x z = true from fun z hz => by
       rcases List.mem_cons.1 hz with rfl | hz
       ·exact hl
       ·exact H2.out z hz)
      have HUe2 := Lib.hid (show U = U0 ++ (y :: U2) by rw [HUe.out]; simp)
      clear hl H2 HUe
      go_upto_region 4 with fail
      refine wp_region_noPanic ?_
      refine wp_region_l 16 (fun _ : World => True) (by kernel_rfl) (trivial) (fun hH => ?_)
      have hbd := (Below.refl wi.heap.size wi).drew
      generalize wi.drew = Wd at *
      have HRd := Lib.hid (HR1.out.later hbd)
      obtain ⟨-, x0, x1, x2, x3⟩ := HRd.out.mid2
      obtain ⟨-, y0, y1, y2, y3⟩ := HRd.out.mid
      rw [← Hqe.out] at x0 x1 x2 x3 y0 y1 y2 y3
      have w1 : IntKind.i64.wrap (q : Int) = (q : Int) := by rw [IntKind.wrap_i64]; omega
      refine tkZ 0 ?_; refine tkZ 1 ?_; refine tkZ 2 ?_; refine tkZ 3 ?_; refine tkZ 4 ?_; refine tkZ 5 ?_; refine tkZ 6 ?_; refine tkZ 7 ?_; refine tkZ 9 ?_; refine tkZ 10 ?_; refine tkZ 11 ?_; refine tkZ 12 ?_
      refine wpAnyL_ready (rs := [8, 13]) (by kernel_rfl) (by simp) ?_
      refine AllReadyL.cons rfl (fun K hK => ?_) ?_
      ·skip
       refine oper_load_mv 25 rfl g ((q + 1) * 4) x rfl x0 x1 x2 x3 ?_
       refine hK.out _ _ (trivial) (fun hH => ?_)
       clear hK K
       try simp only [Act.put, uA, uZ, uS, vA, vZ, vS]
       refine tkO 13 (fun K hK => ?_)
       refine oper_load_mv 30 rfl g (q * 4) y rfl y0 y1 y2 y3 ?_
       refine hK.out _ _ (trivial) (fun hH => ?_)
       clear hK K
       try simp only [Act.put, uA, uZ, uS, vA, vZ, vS]
       refine tkO 14 (fun K hK => ?_)
       refine oper_callv2 83 22 26 31 _ rfl rfl _ _ rfl rfl (enters_of Tryz.func83 (by kernel_rfl) rfl) ?_
       refine (HC.out _ hbd).mono ?_
       rintro e u1 ⟨rfl, hF⟩
       refine ⟨_, rfl, ?_⟩
       have HF1 := Lib.hid hF
       clear hF
       refine hK.out _ _ (trivial) (fun hH => ?_)
       clear hK K
       try simp only [Act.put, uA, uZ, uS, vA, vZ, vS]
       refine tkZ 15 ?_
       refine tkL (fun K hK => ?_)
       go_simp
       refine hK.out _ _ ?_
       clear hK K
       try simp only [Act.put, uA, uZ, uS, vA, vZ, vS]
       refine tkD ?_
       clear hH w1
       have hsz := Hbw.out.size
       have hbu := hbd.trans (HF1.out.mono hbd.size)
       have Hbu := Lib.hid (Hbw.out.trans (hbu.mono (Nat.le_trans HB.out hsz)))
       have HRu := Lib.hid (HR1.out.later hbu)
       clear hbu hbd HF1 HRd x0 x1 x2 x3 y0 y1 y2 y3 HC
       go_upto_region 6 with fail
       refine wp_region_noPanic ?_
       refine wp_region_l 17 (fun _ : World => True) (by kernel_rfl) (trivial) (fun hH => ?_)
       have hbd := (Below.refl u1.heap.size u1).drew
       generalize u1.drew = Wd at *
       have HRd := Lib.hid (HRu.out.later hbd)
       obtain ⟨hxo, x0, x1, x2, x3⟩ := HRd.out.mid2
       obtain ⟨hyo, y0, y1, y2, y3⟩ := HRd.out.mid
       rw [← Hqe.out] at x0 x1 x2 x3 y0 y1 y2 y3
       have hln := HRd.out.len
       have hlo := HRd.out.lo
       have w1 : IntKind.i64.wrap (q : Int) = (q : Int) := by rw [IntKind.wrap_i64]; omega
       have w9 : IntKind.i64.wrap ((q : Int) + 1) = (q : Int) + 1 := by rw [IntKind.wrap_i64]; omega
       refine tkZ 0 ?_; refine tkZ 1 ?_; refine tkZ 2 ?_; refine tkZ 3 ?_; refine tkZ 4 ?_; refine tkZ 5 ?_; refine tkZ 6 ?_; refine tkZ 7 ?_; refine tkZ 8 ?_; refine tkZ 10 ?_; refine tkZ 11 ?_; refine tkZ 12 ?_
       refine wpAnyL_ready (rs := [9, 13]) (by kernel_rfl) (by simp) ?_
       refine AllReadyL.cons rfl (fun K hK => ?_) ?_
       ·skip
        refine oper_load_mv 45 rfl g (q * 4) y rfl y0 y1 y2 y3 ?_
        refine hK.out _ _ (trivial) (fun hH => ?_)
        clear hK K
        try simp only [Act.put, uA, uZ, uS, vA, vZ, vS]
        refine tkO 13 (fun K hK => ?_)
        refine oper_load_mv 49 rfl g ((q + 1) * 4) x rfl x0 x1 x2 x3 ?_
        refine hK.out _ _ (trivial) (fun hH => ?_)
        clear hK K
        try simp only [Act.put, uA, uZ, uS, vA, vZ, vS]
        refine tkZ 14 ?_
        refine tkO 15 (fun K hK => ?_)
        refine oper_store_own (α := Mv) (.tmp 51) (.tmp 46) 85 rfl (by kernel_rfl) g n cap (q + 1) ((q + 1) * 4) y HRd.out.own (by rw [hln]; omega) rfl rfl rfl (show Mv.Ok _ _ y from hyo) ?_
        intro v1 hO1 hg1
        have hO1 := Lib.hid hO1
        have hg1 := Lib.hid hg1
        refine hK.out _ _ (trivial) (fun hH => ?_)
        clear hK K
        try simp only [Act.put, uA, uZ, uS]
        refine tkZ 16 ?_
        refine tkL (fun K hK => ?_)
        refine oper_store_own (α := Mv) (.tmp 52) (.tmp 50) 85 rfl (by kernel_rfl) g n cap q (q * 4) x hO1.out (by rw [List.length_set, hln]; omega) rfl rfl rfl (show Mv.Ok _ _ x from Enc.keep (α := Mv) hxo (fun p hp => World.cell?_of_block (hg1.out.block _ hp.1 hp.2)) (fun b hb => ⟨Nat.lt_of_lt_of_le hb.1 hg1.out.size, hb.2⟩)) ?_
        intro v2 hO2 hg2
        have hO2 := Lib.hid hO2
        have hg2 := Lib.hid hg2
        refine hK.out _ _ ?_
        clear hK K
        try simp only [Act.put, uA, uZ, uS]
        refine tkD ?_
        clear hH w1 w9
        have hO3 := hO2.out
        rw [Hqe.out, set_mid2, set_mid] at hO3
        have HRs := Lib.hid (HRd.out.put hO3 (by simp))
        have Hbs := Lib.hid ((Hbu.out.trans (hbd.mono (Nat.le_trans HB.out Hbu.out.size))).trans ((below_row hg1.out hlo.1 (by have := hlo.1; omega)).trans (below_row hg2.out hlo.1 (by have := hlo.1; have := hg1.out.size; omega))))
        clear hO3 hO2 hO1 hg1 hg2 HRd hbd x0 x1 x2 x3 y0 y1 y2 y3 hxo hyo hln hlo
        go_wp2
        go_roundw
        case rel => exact ⟨q, U0, y :: U2, by go_num, Lib.hid (by rw [Hqe.out]; simp [Ha.out]), HUe2, H2b, by (have := HRs.out; exact Lib.hid (by simpa using this)), Hbs⟩
        case measure => first | (simp [intOf]; done) | (simp [intOf]; omega)
       refine AllReadyL.cons rfl (fun K hK => ?_) ?_
       ·skip
        refine oper_load_mv 49 rfl g ((q + 1) * 4) x rfl x0 x1 x2 x3 ?_
        refine hK.out _ _ (trivial) (fun hH => ?_)
        clear hK K
        try simp only [Act.put, uA, uZ, uS, vA, vZ, vS]
        refine tkO 9 (fun K hK => ?_)
        refine oper_load_mv 45 rfl g (q * 4) y rfl y0 y1 y2 y3 ?_
        refine hK.out _ _ (trivial) (fun hH => ?_)
        clear hK K
        try simp only [Act.put, uA, uZ, uS, vA, vZ, vS]
        refine tkZ 14 ?_
        refine tkO 15 (fun K hK => ?_)
        refine oper_store_own (α := Mv) (.tmp 51) (.tmp 46) 85 rfl (by kernel_rfl) g n cap (q + 1) ((q + 1) * 4) y HRd.out.own (by rw [hln]; omega) rfl rfl rfl (show Mv.Ok _ _ y from hyo) ?_
        intro v1 hO1 hg1
        have hO1 := Lib.hid hO1
        have hg1 := Lib.hid hg1
        refine hK.out _ _ (trivial) (fun hH => ?_)
        clear hK K
        try simp only [Act.put, uA, uZ, uS]
        refine tkZ 16 ?_
        refine tkL (fun K hK => ?_)
        refine oper_store_own (α := Mv) (.tmp 52) (.tmp 50) 85 rfl (by kernel_rfl) g n cap q (q * 4) x hO1.out (by rw [List.length_set, hln]; omega) rfl rfl rfl (show Mv.Ok _ _ x from Enc.keep (α := Mv) hxo (fun p hp => World.cell?_of_block (hg1.out.block _ hp.1 hp.2)) (fun b hb => ⟨Nat.lt_of_lt_of_le hb.1 hg1.out.size, hb.2⟩)) ?_
        intro v2 hO2 hg2
        have hO2 := Lib.hid hO2
        have hg2 := Lib.hid hg2
        refine hK.out _ _ ?_
        clear hK K
        try simp only [Act.put, uA, uZ, uS]
        refine tkD ?_
        clear hH w1 w9
        have hO3 := hO2.out
        rw [Hqe.out, set_mid2, set_mid] at hO3
        have HRs := Lib.hid (HRd.out.put hO3 (by simp))
        have Hbs := Lib.hid ((Hbu.out.trans (hbd.mono (Nat.le_trans HB.out Hbu.out.size))).trans ((below_row hg1.out hlo.1 (by have := hlo.1; omega)).trans (below_row hg2.out hlo.1 (by have := hlo.1; have := hg1.out.size; omega))))
        clear hO3 hO2 hO1 hg1 hg2 HRd hbd x0 x1 x2 x3 y0 y1 y2 y3 hxo hyo hln hlo
        go_wp2
        go_roundw
        case rel => exact ⟨q, U0, y :: U2, by go_num, Lib.hid (by rw [Hqe.out]; simp [Ha.out]), HUe2, H2b, by (have := HRs.out; exact Lib.hid (by simpa using this)), Hbs⟩
        case measure => first | (simp [intOf]; done) | (simp [intOf]; omega)
       exact AllReadyL.nil
      refine AllReadyL.cons rfl (fun K hK => ?_) ?_
      ·skip
       refine oper_load_mv 30 rfl g (q * 4) y rfl y0 y1 y2 y3 ?_
       refine hK.out _ _ (trivial) (fun hH => ?_)
       clear hK K
       try simp only [Act.put, uA, uZ, uS, vA, vZ, vS]
       refine tkO 8 (fun K hK => ?_)
       refine oper_load_mv 25 rfl g ((q + 1) * 4) x rfl x0 x1 x2 x3 ?_
       refine hK.out _ _ (trivial) (fun hH => ?_)
       clear hK K
       try simp only [Act.put, uA, uZ, uS, vA, vZ, vS]
       refine tkO 14 (fun K hK => ?_)
       refine oper_callv2 83 22 26 31 _ rfl rfl _ _ rfl rfl (enters_of Tryz.func83 (by kernel_rfl) rfl) ?_
       refine (HC.out _ hbd).mono ?_
       rintro e u1 ⟨rfl, hF⟩
       refine ⟨_, rfl, ?_⟩
       have HF1 := Lib.hid hF
       clear hF
       refine hK.out _ _ (trivial) (fun hH => ?_)
       clear hK K
       try simp only [Act.put, uA, uZ, uS, vA, vZ, vS]
       refine tkZ 15 ?_
       refine tkL (fun K hK => ?_)
       go_simp
       refine hK.out _ _ ?_
       clear hK K
       try simp only [Act.put, uA, uZ, uS, vA, vZ, vS]
       refine tkD ?_
       clear hH w1
       have hsz := Hbw.out.size
       have hbu := hbd.trans (HF1.out.mono hbd.size)
       have Hbu := Lib.hid (Hbw.out.trans (hbu.mono (Nat.le_trans HB.out hsz)))
       have HRu := Lib.hid (HR1.out.later hbu)
       clear hbu hbd HF1 HRd x0 x1 x2 x3 y0 y1 y2 y3 HC
       go_upto_region 6 with fail
       refine wp_region_noPanic ?_
       refine wp_region_l 17 (fun _ : World => True) (by kernel_rfl) (trivial) (fun hH => ?_)
       have hbd := (Below.refl u1.heap.size u1).drew
       generalize u1.drew = Wd at *
       have HRd := Lib.hid (HRu.out.later hbd)
       obtain ⟨hxo, x0, x1, x2, x3⟩ := HRd.out.mid2
       obtain ⟨hyo, y0, y1, y2, y3⟩ := HRd.out.mid
       rw [← Hqe.out] at x0 x1 x2 x3 y0 y1 y2 y3
       have hln := HRd.out.len
       have hlo := HRd.out.lo
       have w1 : IntKind.i64.wrap (q : Int) = (q : Int) := by rw [IntKind.wrap_i64]; omega
       have w9 : IntKind.i64.wrap ((q : Int) + 1) = (q : Int) + 1 := by rw [IntKind.wrap_i64]; omega
       refine tkZ 0 ?_; refine tkZ 1 ?_; refine tkZ 2 ?_; refine tkZ 3 ?_; refine tkZ 4 ?_; refine tkZ 5 ?_; refine tkZ 6 ?_; refine tkZ 7 ?_; refine tkZ 8 ?_; refine tkZ 10 ?_; refine tkZ 11 ?_; refine tkZ 12 ?_
       refine wpAnyL_ready (rs := [9, 13]) (by kernel_rfl) (by simp) ?_
       refine AllReadyL.cons rfl (fun K hK => ?_) ?_
       ·skip
        refine oper_load_mv 45 rfl g (q * 4) y rfl y0 y1 y2 y3 ?_
        refine hK.out _ _ (trivial) (fun hH => ?_)
        clear hK K
        try simp only [Act.put, uA, uZ, uS, vA, vZ, vS]
        refine tkO 13 (fun K hK => ?_)
        refine oper_load_mv 49 rfl g ((q + 1) * 4) x rfl x0 x1 x2 x3 ?_
        refine hK.out _ _ (trivial) (fun hH => ?_)
        clear hK K
        try simp only [Act.put, uA, uZ, uS, vA, vZ, vS]
        refine tkZ 14 ?_
        refine tkO 15 (fun K hK => ?_)
        refine oper_store_own (α := Mv) (.tmp 51) (.tmp 46) 85 rfl (by kernel_rfl) g n cap (q + 1) ((q + 1) * 4) y HRd.out.own (by rw [hln]; omega) rfl rfl rfl (show Mv.Ok _ _ y from hyo) ?_
        intro v1 hO1 hg1
        have hO1 := Lib.hid hO1
        have hg1 := Lib.hid hg1
        refine hK.out _ _ (trivial) (fun hH => ?_)
        clear hK K
        try simp only [Act.put, uA, uZ, uS]
        refine tkZ 16 ?_
        refine tkL (fun K hK => ?_)
        refine oper_store_own (α := Mv) (.tmp 52) (.tmp 50) 85 rfl (by kernel_rfl) g n cap q (q * 4) x hO1.out (by rw [List.length_set, hln]; omega) rfl rfl rfl (show Mv.Ok _ _ x from Enc.keep (α := Mv) hxo (fun p hp => World.cell?_of_block (hg1.out.block _ hp.1 hp.2)) (fun b hb => ⟨Nat.lt_of_lt_of_le hb.1 hg1.out.size, hb.2⟩)) ?_
        intro v2 hO2 hg2
        have hO2 := Lib.hid hO2
        have hg2 := Lib.hid hg2
        refine hK.out _ _ ?_
        clear hK K
        try simp only [Act.put, uA, uZ, uS]
        refine tkD ?_
        clear hH w1 w9
        have hO3 := hO2.out
        rw [Hqe.out, set_mid2, set_mid] at hO3
        have HRs := Lib.hid (HRd.out.put hO3 (by simp))
        have Hbs := Lib.hid ((Hbu.out.trans (hbd.mono (Nat.le_trans HB.out Hbu.out.size))).trans ((below_row hg1.out hlo.1 (by have := hlo.1; omega)).trans (below_row hg2.out hlo.1 (by have := hlo.1; have := hg1.out.size; omega))))
        clear hO3 hO2 hO1 hg1 hg2 HRd hbd x0 x1 x2 x3 y0 y1 y2 y3 hxo hyo hln hlo
        go_wp2
        go_roundw
        case rel => exact ⟨q, U0, y :: U2, by go_num, Lib.hid (by rw [Hqe.out]; simp [Ha.out]), HUe2, H2b, by (have := HRs.out; exact Lib.hid (by simpa using this)), Hbs⟩
        case measure => first | (simp [intOf]; done) | (simp [intOf]; omega)
       refine AllReadyL.cons rfl (fun K hK => ?_) ?_
       ·skip
        refine oper_load_mv 49 rfl g ((q + 1) * 4) x rfl x0 x1 x2 x3 ?_
        refine hK.out _ _ (trivial) (fun hH => ?_)
        clear hK K
        try simp only [Act.put, uA, uZ, uS, vA, vZ, vS]
        refine tkO 9 (fun K hK => ?_)
        refine oper_load_mv 45 rfl g (q * 4) y rfl y0 y1 y2 y3 ?_
        refine hK.out _ _ (trivial) (fun hH => ?_)
        clear hK K
        try simp only [Act.put, uA, uZ, uS, vA, vZ, vS]
        refine tkZ 14 ?_
        refine tkO 15 (fun K hK => ?_)
        refine oper_store_own (α := Mv) (.tmp 51) (.tmp 46) 85 rfl (by kernel_rfl) g n cap (q + 1) ((q + 1) * 4) y HRd.out.own (by rw [hln]; omega) rfl rfl rfl (show Mv.Ok _ _ y from hyo) ?_
        intro v1 hO1 hg1
        have hO1 := Lib.hid hO1
        have hg1 := Lib.hid hg1
        refine hK.out _ _ (trivial) (fun hH => ?_)
        clear hK K
        try simp only [Act.put, uA, uZ, uS]
        refine tkZ 16 ?_
        refine tkL (fun K hK => ?_)
        refine oper_store_own (α := Mv) (.tmp 52) (.tmp 50) 85 rfl (by kernel_rfl) g n cap q (q * 4) x hO1.out (by rw [List.length_set, hln]; omega) rfl rfl rfl (show Mv.Ok _ _ x from Enc.keep (α := Mv) hxo (fun p hp => World.cell?_of_block (hg1.out.block _ hp.1 hp.2)) (fun b hb => ⟨Nat.lt_of_lt_of_le hb.1 hg1.out.size, hb.2⟩)) ?_
        intro v2 hO2 hg2
        have hO2 := Lib.hid hO2
        have hg2 := Lib.hid hg2
        refine hK.out _ _ ?_
        clear hK K
        try simp only [Act.put, uA, uZ, uS]
        refine tkD ?_
        clear hH w1 w9
        have hO3 := hO2.out
        rw [Hqe.out, set_mid2, set_mid] at hO3
        have HRs := Lib.hid (HRd.out.put hO3 (by simp))
        have Hbs := Lib.hid ((Hbu.out.trans (hbd.mono (Nat.le_trans HB.out Hbu.out.size))).trans ((below_row hg1.out hlo.1 (by have := hlo.1; omega)).trans (below_row hg2.out hlo.1 (by have := hlo.1; have := hg1.out.size; omega))))
        clear hO3 hO2 hO1 hg1 hg2 HRd hbd x0 x1 x2 x3 y0 y1 y2 y3 hxo hyo hln hlo
        go_wp2
        go_roundw
        case rel => exact ⟨q, U0, y :: U2, by go_num, Lib.hid (by rw [Hqe.out]; simp [Ha.out]), HUe2, H2b, by (have := HRs.out; exact Lib.hid (by simpa using this)), Hbs⟩
        case measure => first | (simp [intOf]; done) | (simp [intOf]; omega)
       exact AllReadyL.nil
      exact AllReadyL.nil
  ·have hib : ¬ ii < b := by have := Hb.out; have := Hii.out; omega
   have g1 : decide ((ii : Int) < (b : Int)) = false := decide_eq_false (by omega)
   have g1b : decide (ii < b) = false := decide_eq_false hib
   have HR2 := Lib.hid (show RowM wr B g n cap (P ++ sortB ltM S ++ R) by
    have h1 := HR.out
    rw [List.take_of_length_le (by omega), List.drop_of_length_le (by omega)] at h1
    simpa using h1)
   clear HR
   go_wp2
   go_end0
   exact ⟨rfl, HR2.out, Hbw.out⟩
end Go.Proofs.YtampniiehgimhaaGreat

/- audit: sorting moves: swapRange, rotate -/
namespace Go.Proofs.YtampniiehgimhaaGreat
open Go.RowKit
theorem RowM.mid' {V : World} {B g n cap q : Nat} {l A C : List Mv} {x : Mv} (h : RowM V B g n cap l) (e : l = A ++ x :: C) (hq : q = A.length) : Mv.Ok V (Oth V (.slice (some ⟨g, 0, none⟩) n cap)) x ∧ V.cell? ⟨g, q * 4, none⟩ = some (i64 x.client) ∧ V.cell? ⟨g, q * 4 + 1, none⟩ = some (i64 x.seq) ∧ V.cell? ⟨g, q * 4 + 2, none⟩ = some (i64 x.period) ∧ V.cell? ⟨g, q * 4 + 3, none⟩ = some (.slice x.la x.legs.length x.lc) := by
 subst e hq
 exact h.mid
theorem set_mid' {l A C : List Mv} {x y : Mv} {q : Nat} (e : l = A ++ x :: C) (hq : q = A.length) : l.set q y = A ++ y :: C := by
 subst e hq
 exact set_mid A x y C
set_option maxRecDepth 100000 in
set_option maxHeartbeats 8000000 in
theorem aswap_c (B g n cap a b m : Nat) (P X M Y Q : List Mv) (f : Value) (w : World) (h : RowM w B g n cap (P ++ X ++ M ++ Y ++ Q)) (ha : P.length = a) (hx : X.length = m) (hy : Y.length = m) (hb : a + m + M.length = b) (hn : n ≤ 60000) (hB : B ≤ w.heap.size) :
  Calls Tryz.prog 227 #[.slice (some ⟨g, 0, none⟩) n cap, i64 a, i64 b, i64 m, f] w fun e w' => e = .returned (.tuple #[]) ∧ RowM w' B g n cap (P ++ Y ++ M ++ X ++ Q) ∧ Below B w w' := by
 have hlen := h.len
 simp only [List.length_append] at hlen
 have hcn := h.capn
 have H := Lib.hid h
 have HB := Lib.hid hB
 have hbn : b + m ≤ n := by omega
 have Ha := Lib.hid ha
 have Hx := Lib.hid hx
 have Hy := Lib.hid hy
 have Hb := Lib.hid hb
 have hab : a + m ≤ b := by omega
 clear h hB ha hx hy hb hlen
 go_enter Tryz.func227, Tryz.ntmps227
 go_wp2_with fail
 go_loopw [10] (fun i wr => ∃ k : Nat, i = i64 (k : Int) ∧ k ≤ m ∧ Hid (RowM wr B g n cap (P ++ Y.take k ++ X.drop k ++ M ++ X.take k ++ Y.drop k ++ Q)) ∧ Hid (Below B w wr)) (fun i _ => m - (intOf i).toNat)
 case atStart => exact ⟨0, rfl, Nat.zero_le _, Lib.hid (by have := H.out; simpa using this), Lib.hid (Below.refl _ _)⟩
 case round =>
  obtain ⟨k, rfl, hk, HR, Hbw⟩ := hrel
  obtain ⟨wi, rfl⟩ : ∃ wi, wi = wr := ⟨wr, rfl⟩
  by_cases hlt : k < m
  ·have g1 : decide ((k : Int) < (m : Int)) = true := decide_eq_true (by omega)
   have g2 : decide (k < m) = true := decide_eq_true hlt
   have hkX : k < X.length := by rw [Hx.out]; exact hlt
   have hkY : k < Y.length := by rw [Hy.out]; exact hlt
   obtain ⟨x, hxe⟩ : ∃ x, X[k] = x := ⟨_, rfl⟩
   obtain ⟨y, hye⟩ : ∃ y, Y[k] = y := ⟨_, rfl⟩
   have hXd : X.drop k = x :: X.drop (k + 1) := by rw [List.drop_eq_getElem_cons hkX, hxe]
   have hYd : Y.drop k = y :: Y.drop (k + 1) := by rw [List.drop_eq_getElem_cons hkY, hye]
   have hXt : X.take (k + 1) = X.take k ++ [x] := by rw [List.take_succ_eq_append_getElem hkX, hxe]
   have hYt : Y.take (k + 1) = Y.take k ++ [y] := by rw [List.take_succ_eq_append_getElem hkY, hye]
   obtain ⟨A, hA⟩ : ∃ A, A = P ++ Y.take k := ⟨_, rfl⟩
   obtain ⟨C, hC⟩ : ∃ C, C = X.drop (k + 1) ++ M ++ X.take k := ⟨_, rfl⟩
   obtain ⟨D, hD⟩ : ∃ D, D = Y.drop (k + 1) ++ Q := ⟨_, rfl⟩
   have HR1 := Lib.hid (show RowM wi B g n cap (A ++ x :: (C ++ y :: D)) by have h1 := HR.out; rw [hXd, hYd] at h1; rw [hA, hC, hD]; simpa using h1)
   have HR2 := Lib.hid (show A ++ y :: (C ++ x :: D) = P ++ Y.take (k + 1) ++ X.drop (k + 1) ++ M ++ X.take (k + 1) ++ Y.drop (k + 1) ++ Q by rw [hXt, hYt, hA, hC, hD]; simp)
   obtain ⟨q1, hq1⟩ : ∃ q1 : Nat, q1 = a + k := ⟨_, rfl⟩
   obtain ⟨q2, hq2⟩ : ∃ q2 : Nat, q2 = b + k := ⟨_, rfl⟩
   have hqA : q1 = A.length := by rw [hA, List.length_append, List.length_take, Ha.out]; have := Hy.out; omega
   have hqC : q2 = (A ++ x :: C).length := by rw [hA, hC]; have := Ha.out; have := Hx.out; have := Hy.out; have := Hb.out; simp; omega
   have HqA := Lib.hid hqA
   have HqC := Lib.hid hqC
   have HqC2 := Lib.hid (show q2 = (A ++ y :: C).length by rw [hqC]; simp)
   have hq1n : q1 < n := by omega
   have hq2n : q2 < n := by omega
   have e1 : (a : Int) + (k : Int) = (q1 : Int) := by omega
   have e2 : (b : Int) + (k : Int) = (q2 : Int) := by omega
   have w1 : IntKind.i64.wrap (q1 : Int) = (q1 : Int) := by rw [IntKind.wrap_i64]; omega
   have w2 : IntKind.i64.wrap (q2 : Int) = (q2 : Int) := by rw [IntKind.wrap_i64]; omega
   have i0 : (0 : Int) ≤ (q1 : Int) := by omega
   have i1 : (q1 : Int) < (n : Int) := by omega
   have i2 : (0 : Int) ≤ (q2 : Int) := by omega
   have i3 : (q2 : Int) < (n : Int) := by omega
   have W1 := Lib.hid w1
   have W2 := Lib.hid w2
   have E1 := Lib.hid e1
   have E2 := Lib.hid e2
   clear hxe hye hXd hYd hXt hYt hA hC hD hqA hqC HR hkX hkY hq1 hq2 w1 w2 e1 e2
   go_upto_region 3 with fail
   refine wp_region_noPanic ?_
   refine wp_region_l 23 (fun _ : World => True) (by kernel_rfl) (trivial) (fun hH => ?_)
   have hbd := (Below.refl wi.heap.size wi).drew
   generalize wi.drew = Wd at *
   have HRd := Lib.hid (HR1.out.later hbd)
   obtain ⟨hxo, x0, x1, x2, x3⟩ := HRd.out.mid' rfl HqA.out
   obtain ⟨hyo, y0, y1, y2, y3⟩ := HRd.out.mid' (A := A ++ x :: C) (x := y) (C := D) (by simp) HqC.out
   have hln := HRd.out.len
   have hlo := HRd.out.lo
   have w1 := W1.out
   have w2 := W2.out
   have e1 := E1.out
   have e2 := E2.out
   refine tkZ 0 ?_; refine tkZ 1 ?_; refine tkZ 2 ?_; refine tkZ 3 ?_; refine tkZ 4 ?_; refine tkZ 5 ?_; refine tkZ 6 ?_; refine tkZ 7 ?_; refine tkZ 8 ?_; refine tkZ 9 ?_; refine tkZ 10 ?_; refine tkZ 11 ?_; refine tkZ 12 ?_; refine tkZ 14 ?_; refine tkZ 15 ?_; refine tkZ 16 ?_; refine tkZ 17 ?_; refine tkZ 18 ?_
   refine wpAnyL_ready (rs := [13, 19]) (by kernel_rfl) (by simp) ?_
   refine AllReadyL.cons rfl (fun K hK => ?_) ?_
   ·skip
    refine oper_load_mv 28 rfl g (q2 * 4) y rfl y0 y1 y2 y3 ?_
    refine hK.out _ _ (trivial) (fun hH => ?_)
    clear hK K
    try simp only [Act.put, uA, uZ, uS, vA, vZ, vS]
    refine tkO 19 (fun K hK => ?_)
    refine oper_load_mv 34 rfl g (q1 * 4) x rfl x0 x1 x2 x3 ?_
    refine hK.out _ _ (trivial) (fun hH => ?_)
    clear hK K
    try simp only [Act.put, uA, uZ, uS, vA, vZ, vS]
    refine tkZ 20 ?_
    refine tkO 21 (fun K hK => ?_)
    refine oper_store_own (α := Mv) (.tmp 36) (.tmp 29) 85 rfl (by kernel_rfl) g n cap q1 (q1 * 4) y HRd.out.own (by rw [hln]; exact hq1n) rfl rfl rfl (show Mv.Ok _ _ y from hyo) ?_
    intro v1 hO1 hg1
    have hO1 := Lib.hid hO1
    have hg1 := Lib.hid hg1
    refine hK.out _ _ (trivial) (fun hH => ?_)
    clear hK K
    try simp only [Act.put, uA, uZ, uS]
    refine tkZ 22 ?_
    refine tkL (fun K hK => ?_)
    refine oper_store_own (α := Mv) (.tmp 37) (.tmp 35) 85 rfl (by kernel_rfl) g n cap q2 (q2 * 4) x hO1.out (by rw [List.length_set, hln]; exact hq2n) rfl rfl rfl (show Mv.Ok _ _ x from Enc.keep (α := Mv) hxo (fun p hp => World.cell?_of_block (hg1.out.block _ hp.1 hp.2)) (fun b hb => ⟨Nat.lt_of_lt_of_le hb.1 hg1.out.size, hb.2⟩)) ?_
    intro v2 hO2 hg2
    have hO2 := Lib.hid hO2
    have hg2 := Lib.hid hg2
    refine hK.out _ _ ?_
    clear hK K
    try simp only [Act.put, uA, uZ, uS]
    refine tkD ?_
    clear hH w1 w2 e1 e2
    have hO3 := hO2.out
    rw [set_mid' rfl HqA.out, set_mid' (A := A ++ y :: C) (x := y) (C := D) (by simp) HqC2.out, List.append_assoc, List.cons_append, HR2.out] at hO3
    have HRs := Lib.hid (HRd.out.put hO3 (by rw [← HR2.out]; simp))
    have Hbs := Lib.hid ((Hbw.out.trans (hbd.mono (Nat.le_trans HB.out Hbw.out.size))).trans ((below_row hg1.out hlo.1 (by have := hlo.1; omega)).trans (below_row hg2.out hlo.1 (by have := hlo.1; have := hg1.out.size; omega))))
    clear hO3 hO2 hO1 hg1 hg2 HRd hbd x0 x1 x2 x3 y0 y1 y2 y3 hxo hyo hln hlo
    go_wp2
    go_roundw
    case rel => exact ⟨k + 1, by go_num, by omega, HRs, Hbs⟩
    case measure => simp [intOf]; omega
   refine AllReadyL.cons rfl (fun K hK => ?_) ?_
   ·skip
    refine oper_load_mv 34 rfl g (q1 * 4) x rfl x0 x1 x2 x3 ?_
    refine hK.out _ _ (trivial) (fun hH => ?_)
    clear hK K
    try simp only [Act.put, uA, uZ, uS, vA, vZ, vS]
    refine tkO 13 (fun K hK => ?_)
    refine oper_load_mv 28 rfl g (q2 * 4) y rfl y0 y1 y2 y3 ?_
    refine hK.out _ _ (trivial) (fun hH => ?_)
    clear hK K
    try simp only [Act.put, uA, uZ, uS, vA, vZ, vS]
    refine tkZ 20 ?_
    refine tkO 21 (fun K hK => ?_)
    refine oper_store_own (α := Mv) (.tmp 36) (.tmp 29) 85 rfl (by kernel_rfl) g n cap q1 (q1 * 4) y HRd.out.own (by rw [hln]; exact hq1n) rfl rfl rfl (show Mv.Ok _ _ y from hyo) ?_
    intro v1 hO1 hg1
    have hO1 := Lib.hid hO1
    have hg1 := Lib.hid hg1
    refine hK.out _ _ (trivial) (fun hH => ?_)
    clear hK K
    try simp only [Act.put, uA, uZ, uS]
    refine tkZ 22 ?_
    refine tkL (fun K hK => ?_)
    refine oper_store_own (α := Mv) (.tmp 37) (.tmp 35) 85 rfl (by kernel_rfl) g n cap q2 (q2 * 4) x hO1.out (by rw [List.length_set, hln]; exact hq2n) rfl rfl rfl (show Mv.Ok _ _ x from Enc.keep (α := Mv) hxo (fun p hp => World.cell?_of_block (hg1.out.block _ hp.1 hp.2)) (fun b hb => ⟨Nat.lt_of_lt_of_le hb.1 hg1.out.size, hb.2⟩)) ?_
    intro v2 hO2 hg2
    have hO2 := Lib.hid hO2
    have hg2 := Lib.hid hg2
    refine hK.out _ _ ?_
    clear hK K
    try simp only [Act.put, uA, uZ, uS]
    refine tkD ?_
    clear hH w1 w2 e1 e2
    have hO3 := hO2.out
    rw [set_mid' rfl HqA.out, set_mid' (A := A ++ y :: C) (x := y) (C := D) (by simp) HqC2.out, List.append_assoc, List.cons_append, HR2.out] at hO3
    have HRs := Lib.hid (HRd.out.put hO3 (by rw [← HR2.out]; simp))
    have Hbs := Lib.hid ((Hbw.out.trans (hbd.mono (Nat.le_trans HB.out Hbw.out.size))).trans ((below_row hg1.out hlo.1 (by have := hlo.1; omega)).trans (below_row hg2.out hlo.1 (by have := hlo.1; have := hg1.out.size; omega))))
    clear hO3 hO2 hO1 hg1 hg2 HRd hbd x0 x1 x2 x3 y0 y1 y2 y3 hxo hyo hln hlo
    go_wp2
    go_roundw
    case rel => exact ⟨k + 1, by go_num, by omega, HRs, Hbs⟩
    case measure => simp [intOf]; omega
   exact AllReadyL.nil
  ·obtain rfl : k = m := by omega
   have g1 : decide ((k : Int) < (k : Int)) = false := decide_eq_false (by omega)
   have HR2 := Lib.hid (show RowM wi B g n cap (P ++ Y ++ M ++ X ++ Q) by
    have h1 := HR.out
    rw [List.take_of_length_le (Nat.le_of_eq Hy.out), List.take_of_length_le (Nat.le_of_eq Hx.out), List.drop_of_length_le (Nat.le_of_eq Hy.out), List.drop_of_length_le (Nat.le_of_eq Hx.out)] at h1
    simpa using h1)
   clear HR
   go_wp2
   go_end0
   exact ⟨rfl, HR2.out, Hbw.out⟩
set_option maxRecDepth 100000 in
set_option maxHeartbeats 8000000 in
theorem arot_c (B g n cap a m b : Nat) (P L R Q : List Mv) (f : Value) (w : World) (h : RowM w B g n cap (P ++ L ++ R ++ Q)) (ha : P.length = a) (hm : a + L.length = m) (hb : m + R.length = b) (h0 : 0 < L.length) (h1 : 0 < R.length) (hn : n ≤ 60000) (hB : B ≤ w.heap.size) :
  Calls Tryz.prog 204 #[.slice (some ⟨g, 0, none⟩) n cap, i64 a, i64 m, i64 b, f] w fun e w' => e = .returned (.tuple #[]) ∧ RowM w' B g n cap (P ++ R ++ L ++ Q) ∧ Below B w w' := by
 have hlen := h.len
 simp only [List.length_append] at hlen
 have hbn : b ≤ n := by omega
 obtain ⟨li, hli⟩ : ∃ li, L.length = li := ⟨_, rfl⟩
 obtain ⟨rj, hrj⟩ : ∃ rj, R.length = rj := ⟨_, rfl⟩
 have e1 : (m : Int) - (a : Int) = (li : Int) := by omega
 have e2 : (b : Int) - (m : Int) = (rj : Int) := by omega
 have w1 : IntKind.i64.wrap (li : Int) = (li : Int) := by rw [IntKind.wrap_i64]; omega
 have w2 : IntKind.i64.wrap (rj : Int) = (rj : Int) := by rw [IntKind.wrap_i64]; omega
 have H := Lib.hid h
 have HB := Lib.hid hB
 have Hst := Lib.hid (show P.length + li = m ∧ L.length = li ∧ R.length = rj ∧ 0 < li ∧ 0 < rj ∧ li + rj ≤ 60000 by omega)
 have HSW : Hid (∀ (a b m : Nat) (P X M Y Q : List Mv) (W : World), RowM W B g n cap (P ++ X ++ M ++ Y ++ Q) → P.length = a → X.length = m → Y.length = m → a + m + M.length = b → B ≤ W.heap.size → Calls Tryz.prog 227 #[.slice (some ⟨g, 0, none⟩) n cap, i64 a, i64 b, i64 m, f] W fun e w' => e = .returned (.tuple #[]) ∧ RowM w' B g n cap (P ++ Y ++ M ++ X ++ Q) ∧ Below B W w') := Lib.hid fun a b m P X M Y Q W h1 h2 h3 h4 h5 h6 => aswap_c B g n cap a b m P X M Y Q f W h1 h2 h3 h4 h5 hn h6
 have hmn : m ≤ n := by omega
 clear h hB ha hm hb h0 h1 hlen hli hrj
 go_enter Tryz.func204, Tryz.ntmps204
 go_wp2_with fail
 clear e1 e2 w1 w2
 go_loopw [10, 11] (fun i10 i11 wr => ∃ (li rj : Nat) (P' L' R' Q' : List Mv), i10 = i64 (li : Int) ∧ i11 = i64 (rj : Int) ∧ Hid (P'.length + li = m ∧ L'.length = li ∧ R'.length = rj ∧ 0 < li ∧ 0 < rj ∧ li + rj ≤ 60000) ∧ Hid (P' ++ R' ++ L' ++ Q' = P ++ R ++ L ++ Q) ∧ Hid (RowM wr B g n cap (P' ++ L' ++ R' ++ Q')) ∧ Hid (Below B w wr)) (fun i10 i11 _ => (intOf i10).toNat + (intOf i11).toNat)
 case atStart => exact ⟨li, rj, P, L, R, Q, rfl, rfl, Hst, Lib.hid rfl, H, Lib.hid (Below.refl _ _)⟩
 case round =>
  clear Hst H
  obtain ⟨li, rj, P', L', R', Q', rfl, rfl, Hst, He, HR, Hbw⟩ := hrel
  obtain ⟨wi, rfl⟩ : ∃ wi, wi = wr := ⟨wr, rfl⟩
  obtain ⟨s1, s2, s3, s4, s5, s6⟩ := Hst.out
  obtain ⟨pl, hpl⟩ : ∃ pl, P'.length = pl := ⟨_, rfl⟩
  rw [hpl] at s1
  have Hpl := Lib.hid hpl
  have S1 := Lib.hid s1
  have S2 := Lib.hid s2
  have S3 := Lib.hid s3
  have hwB := Nat.le_trans HB.out Hbw.out.size
  have e3 : (m : Int) - (li : Int) = (pl : Int) := by omega
  have hpl6 : pl ≤ 60000 := by omega
  have w3 : IntKind.i64.wrap (pl : Int) = (pl : Int) := by rw [IntKind.wrap_i64]; omega
  have hlr : R'.length + m ≤ n := by have := HR.out.len; simp only [List.length_append] at this; omega
  rw [s3] at hlr
  clear hpl s1 s2 s3
  rcases Nat.lt_trichotomy rj li with hlt | heq | hgt
  ·have g1 : ((li : Int) != (rj : Int)) = true := by rw [bne_iff_ne]; omega
   have g2 : decide ((li : Int) > (rj : Int)) = true := decide_eq_true (by omega)
   have g3 : decide ((rj : Int) < (li : Int)) = true := decide_eq_true (by omega)
   have g4 : decide (rj < li) = true := decide_eq_true hlt
   have HS := Lib.hid (HSW.out pl m rj P' (L'.take rj) (L'.drop rj) R' Q' wi (by have := HR.out; rw [List.append_assoc P' (L'.take rj), List.take_append_drop]; exact this) Hpl.out (by rw [List.length_take, S2.out]; omega) S3.out (by rw [List.length_drop, S2.out]; have := S1.out; omega) hwB)
   have e4 : (li : Int) - (rj : Int) = ((li - rj : Nat) : Int) := by omega
   obtain ⟨nl, hnl⟩ : ∃ nl, li - rj = nl := ⟨_, rfl⟩
   rw [hnl] at e4
   have w4 : IntKind.i64.wrap (nl : Int) = (nl : Int) := by rw [IntKind.wrap_i64]; omega
   have Hn := Lib.hid hnl
   have Hlt := Lib.hid hlt
   clear hnl hlt
   go_wp2_with fail
   refine HS.out.mono ?_
   rintro e w5 ⟨rfl, hR5, hF⟩
   have HR5 := Lib.hid (show RowM w5 B g n cap ((P' ++ R') ++ L'.drop rj ++ L'.take rj ++ Q') by simpa using hR5)
   have Hb5 := Lib.hid (Hbw.out.trans hF)
   clear hR5 hF HS HR
   go_wp2
   go_roundw
   case rel => exact ⟨nl, rj, P' ++ R', L'.drop rj, L'.take rj, Q', by go_num, rfl, Lib.hid (by have h1 := Hn.out; have h2 := Hlt.out; have h3 := S1.out; have h4 := S2.out; have h5 := S3.out; have h6 := Hpl.out; simp only [List.length_append, List.length_drop, List.length_take]; omega), Lib.hid (by rw [← He.out, List.append_assoc (P' ++ R'), List.take_append_drop]), HR5, Hb5⟩
   case measure => (have h1 := Hn.out; have h2 := Hlt.out; simp [intOf]; omega)
  ·subst heq
   have g1 : ((rj : Int) != (rj : Int)) = false := by simp
   have HS := Lib.hid (HSW.out pl m rj P' L' [] R' Q' wi (by have := HR.out; simpa using this) Hpl.out S2.out S3.out (by have := S1.out; simp; omega) hwB)
   go_wp2_with fail
   refine HS.out.mono ?_
   rintro e w5 ⟨rfl, hR5, hF⟩
   have HR5 := Lib.hid (show RowM w5 B g n cap (P ++ R ++ L ++ Q) by rw [← He.out]; simpa using hR5)
   have Hb5 := Lib.hid (Hbw.out.trans hF)
   clear hR5 hF HS HR
   go_wp2
   go_end0
   exact ⟨rfl, HR5.out, Hb5.out⟩
  ·have g1 : ((li : Int) != (rj : Int)) = true := by rw [bne_iff_ne]; omega
   have g2 : decide ((li : Int) > (rj : Int)) = false := decide_eq_false (by omega)
   have g3 : decide ((rj : Int) < (li : Int)) = false := decide_eq_false (by omega)
   have g4 : decide (rj < li) = false := decide_eq_false (by omega)
   obtain ⟨nj, hnj⟩ : ∃ nj, rj - li = nj := ⟨_, rfl⟩
   have HS := Lib.hid (HSW.out pl (m + nj) li P' L' (R'.take nj) (R'.drop nj) Q' wi (by have := HR.out; rw [List.append_assoc (P' ++ L'), List.take_append_drop]; exact this) Hpl.out S2.out (by rw [List.length_drop, S3.out]; omega) (by rw [List.length_take, S3.out]; have := S1.out; omega) hwB)
   obtain ⟨mj, hmj⟩ : ∃ mj : Nat, mj = m + nj := ⟨_, rfl⟩
   rw [← hmj] at HS
   obtain ⟨mr, hmr⟩ : ∃ mr : Nat, mr = m + rj := ⟨_, rfl⟩
   have e5 : (m : Int) + (rj : Int) = (mr : Int) := by omega
   have e6 : (mr : Int) - (li : Int) = (mj : Int) := by omega
   have e4 : (rj : Int) - (li : Int) = (nj : Int) := by omega
   have w4 : IntKind.i64.wrap (nj : Int) = (nj : Int) := by rw [IntKind.wrap_i64]; omega
   have w5 : IntKind.i64.wrap (mr : Int) = (mr : Int) := by rw [IntKind.wrap_i64]; omega
   have w6 : IntKind.i64.wrap (mj : Int) = (mj : Int) := by rw [IntKind.wrap_i64]; omega
   have Hn := Lib.hid hnj
   have Hgt := Lib.hid hgt
   clear hnj hgt hmj hmr
   go_wp2_with fail
   refine HS.out.mono ?_
   rintro e w7 ⟨rfl, hR5, hF⟩
   have HR5 := Lib.hid (show RowM w7 B g n cap (P' ++ R'.drop nj ++ R'.take nj ++ (L' ++ Q')) by simpa using hR5)
   have Hb5 := Lib.hid (Hbw.out.trans hF)
   clear hR5 hF HS HR
   go_wp2
   go_roundw
   case rel => exact ⟨li, nj, P', R'.drop nj, R'.take nj, L' ++ Q', rfl, by go_num, Lib.hid (by have h1 := Hn.out; have h2 := Hgt.out; have h3 := S1.out; have h4 := S2.out; have h5 := S3.out; have h6 := Hpl.out; simp only [List.length_drop, List.length_take]; omega), Lib.hid (by rw [← He.out]; rw [List.append_assoc P' (R'.take nj), List.take_append_drop]; simp), HR5, Hb5⟩
   case measure => (have h1 := Hn.out; have h2 := Hgt.out; simp [intOf]; omega)
end Go.Proofs.YtampniiehgimhaaGreat

/- sorting moves: where two runs part (plain) -/
namespace Go.Proofs.YtampniiehgimhaaGreat
open Go.RowKit
theorem sb_get {U : List Mv} (h : SortedB ltM U) {i j : Nat} (hi : i < U.length) (hj : j < U.length) (hij : i ≤ j) : ltM U[j] U[i] = false := by
 rcases Nat.lt_or_eq_of_le hij with hlt | rfl
 ·exact List.pairwise_iff_getElem.1 h i j hi hj hlt
 ·exact ltM_strict.irr _
theorem take_get {U : List Mv} {s : Nat} {x : Mv} (h : x ∈ U.take s) : ∃ (i : Nat) (hi : i < U.length), i < s ∧ U[i] = x := by
 obtain ⟨i, hi, rfl⟩ := List.getElem_of_mem h
 rw [List.length_take] at hi
 exact ⟨i, by omega, by omega, by rw [List.getElem_take]⟩
theorem drop_get {U : List Mv} {s : Nat} {x : Mv} (h : x ∈ U.drop s) : ∃ (i : Nat) (hi : i < U.length), s ≤ i ∧ U[i] = x := by
 obtain ⟨i, hi, rfl⟩ := List.getElem_of_mem h
 rw [List.length_drop] at hi
 exact ⟨s + i, by omega, by omega, by rw [List.getElem_drop]⟩
theorem sym_plain {U V : List Mv} (hU : SortedB ltM U) (hV : SortedB ltM V) {s e : Nat} (_hs : s ≤ U.length) (_he : e ≤ V.length)
  (hA : s = 0 ∨ e = V.length ∨ ∃ (i : Nat) (hi : i < U.length) (hj : e < V.length), i + 1 = s ∧ ltM V[e] U[i] = false)
  (hB : s = U.length ∨ e = 0 ∨ ∃ (j : Nat) (hi : s < U.length) (hj : j < V.length), j + 1 = e ∧ ltM V[j] U[s] = true) :
  mrg ltM U V = mrg ltM (U.take s) (V.take e) ++ mrg ltM (U.drop s) (V.drop e) := by
 have h := mrg_split (lt := ltM) (U.take s) (V.take e) (U.drop s) (V.drop e) (fun x hx y hy => ?_) (fun v hv u hu => ?_)
 ·rwa [List.take_append_drop, List.take_append_drop] at h
 ·obtain ⟨i, hi, his, rfl⟩ := take_get hx
  obtain ⟨j, hj, hjs, rfl⟩ := drop_get hy
  rcases hA with h0 | h0 | ⟨i', hi', hj', h1, h2⟩
  ·omega
  ·omega
  ·exact ltM_strict.co _ _ _ (ltM_strict.co _ _ _ (sb_get hV hj' hj hjs) h2) (sb_get hU hi hi' (by omega))
 ·obtain ⟨i, hi, his, rfl⟩ := drop_get hu
  obtain ⟨j, hj, hjs, rfl⟩ := take_get hv
  rcases hB with h0 | h0 | ⟨j', hi', hj', h1, h2⟩
  ·omega
  ·omega
  ·cases hq : ltM V[j] U[i] with
   | true => rfl
   | false =>
    have := ltM_strict.co _ _ _ (ltM_strict.co _ _ _ (sb_get hV hj hj' (by omega)) hq) (sb_get hU hi' hi his)
    rw [this] at h2; cases h2
/-- the one ahead of a run: its place -/
theorem sym_one {V : List Mv} (hV : SortedB ltM V) {u : Mv} {i : Nat} (h1 : i = 0 ∨ ∃ (j : Nat) (hj : j < V.length), j + 1 = i ∧ ltM V[j] u = true) (h2 : i = V.length ∨ ∃ hi : i < V.length, ltM V[i] u = false) (_hi : i ≤ V.length) : mrg ltM [u] V = V.take i ++ u :: V.drop i := by
 have h := mrg_left (lt := ltM) (V1 := V.take i) (V2 := V.drop i) (x := u) (fun y hy => ?_) (fun y hy => ?_)
 ·rwa [List.take_append_drop] at h
 ·obtain ⟨k, hk, hki, rfl⟩ := take_get hy
  rcases h1 with h1 | ⟨j, hj, h3, h4⟩
  ·omega
  ·cases hq : ltM V[k] u with
   | true => rfl
   | false =>
    have := ltM_strict.co _ _ _ (sb_get hV hk hj (by omega)) hq
    rw [this] at h4; cases h4
 ·rcases h2 with h2 | ⟨hi2, h3⟩
  ·rw [List.drop_of_length_le (by omega)] at hy; cases hy
  ·rw [List.drop_eq_getElem_cons hi2] at hy
   injection hy with hy
   rw [← hy]; exact h3
/-- the one behind a run: its place -/
theorem sym_last {U : List Mv} (hU : SortedB ltM U) {v : Mv} {i : Nat} (h1 : i = 0 ∨ ∃ (j : Nat) (hj : j < U.length), j + 1 = i ∧ ltM v U[j] = false) (h2 : i = U.length ∨ ∃ hi : i < U.length, ltM v U[i] = true) (_hi : i ≤ U.length) : mrg ltM U [v] = U.take i ++ v :: U.drop i := by
 have h := mrg_right (lt := ltM) (U1 := U.take i) (U2 := U.drop i) (x := v) (fun y hy => ?_) (fun y hy => ?_)
 ·rwa [List.take_append_drop] at h
 ·obtain ⟨k, hk, hki, rfl⟩ := take_get hy
  rcases h1 with h1 | ⟨j, hj, h3, h4⟩
  ·omega
  ·exact ltM_strict.co _ _ _ h4 (sb_get hU hk hj (by omega))
 ·obtain ⟨k, hk, hki, rfl⟩ := drop_get hy
  rcases h2 with h2 | ⟨hi2, h3⟩
  ·omega
  ·cases hq : ltM v U[k] with
   | true => rfl
   | false =>
    have := ltM_strict.co _ _ _ hq (sb_get hU hi2 hk hki)
    rw [this] at h3; cases h3
theorem sorted_fix : ∀ {U : List Mv}, SortedB ltM U → sortB ltM U = U
 | [], _ => rfl
 | x :: U, h => by
  obtain ⟨h1, h2⟩ := List.pairwise_cons.1 h
  show insB ltM x (sortB ltM U) = _
  rw [sorted_fix h2]
  cases U with
  | nil => rfl
  | cons y U =>
   unfold insB
   rw [if_neg (by rw [h1 y (List.mem_cons_self ..)]; decide)]
theorem mrg_sorted {U V : List Mv} (hU : SortedB ltM U) (hV : SortedB ltM V) : SortedB ltM (mrg ltM U V) := by
 have eU : sortB ltM U = U := sorted_fix hU
 have eV : sortB ltM V = V := sorted_fix hV
 have := sortB_sorted ltM_strict (U ++ V)
 rwa [sortB_app ltM_strict, eU, eV] at this
end Go.Proofs.YtampniiehgimhaaGreat
