/- Texts of this claim, laid together: AuS3. -/
import Derived.Test.YtampniiehgimhaaGreatRows
import Derived.Test.YtampniiehgimhaaGreatBq34
import Derived.Deep.Cut
import Derived.WalkKit
import Derived.WalkSpells
import Derived.WalkLawsBesides
import Derived.Deep.QuietTactic
import Derived.BigQuiet
import Derived.Laws.StructEq
import Derived.Deep.DeepFit
import Derived.StillTailTactics

/- audit: sorting moves: symMerge -/
namespace Go.Proofs.YtampniiehgimhaaGreat
open Go.RowKit
set_option maxRecDepth 100000 in
set_option maxHeartbeats 16000000 in
theorem asym1_c (B g n cap a m b : Nat) (P V Q : List Mv) (y : Mv) (w : World) (h : RowM w B g n cap (P ++ y :: (V ++ Q))) (ha : P.length = a) (hm : a + 1 = m) (hb : m + V.length = b) (hn : n ≤ 60000) (hB : B ≤ w.heap.size) (hV : SortedB ltM V) (hqy : okMv y) (hq : ∀ x ∈ V, okMv x) :
  Calls Tryz.prog 180 #[.slice (some ⟨g, 0, none⟩) n cap, i64 a, i64 m, i64 b, .func (.func 83) #[] #[]] w fun e w' => e = .returned (.tuple #[]) ∧ RowM w' B g n cap (P ++ mrg ltM [y] V ++ Q) ∧ Below B w w' := by
 have hlen := h.len
 simp only [List.length_append, List.length_cons] at hlen
 have hcn := h.capn
 have hbn : b ≤ n := by omega
 have e0 : (m : Int) - (a : Int) = 1 := by omega
 have hmb : m ≤ b := by omega
 have hm6 : m ≤ 60000 := by omega
 have H := Lib.hid h
 have HB := Lib.hid hB
 have Ha := Lib.hid ha
 have Hm := Lib.hid hm
 have Hb := Lib.hid hb
 have HV := Lib.hid hV
 have Hqy := Lib.hid hqy
 have Hq := Lib.hid hq
 clear h hB ha hm hb hV hqy hq hlen
 go_enter Tryz.func180, Tryz.ntmps180
 go_wp2_with fail
 go_loopw [10, 11] (fun i10 i11 wr => ∃ (i j : Nat), i10 = i64 (i : Int) ∧ i11 = i64 (j : Int) ∧ m ≤ i ∧ i ≤ j ∧ j ≤ b ∧ Hid (i = m ∨ ∃ (k : Nat) (hk : k < V.length), m + k + 1 = i ∧ ltM V[k] y = true) ∧ Hid (j = b ∨ ∃ (k : Nat) (hk : k < V.length), m + k = j ∧ ltM V[k] y = false) ∧ Hid (RowM wr B g n cap (P ++ y :: (V ++ Q))) ∧ Hid (Below B w wr)) (fun i10 i11 _ => (intOf i11).toNat - (intOf i10).toNat)
 case atStart => exact ⟨m, b, rfl, rfl, Nat.le_refl _, hmb, Nat.le_refl _, Lib.hid (.inl rfl), Lib.hid (.inl rfl), H, Lib.hid (Below.refl _ _)⟩
 case round =>
  obtain ⟨i, j, rfl, rfl, h1, h2, h3, Hi, Hj, HR, Hbw⟩ := hrel
  obtain ⟨wi, rfl⟩ : ∃ wi, wi = wr := ⟨wr, rfl⟩
  by_cases hlt : i < j
  ·have g1 : decide ((i : Int) < (j : Int)) = true := decide_eq_true (by omega)
   have g2 : decide (i < j) = true := decide_eq_true hlt
   obtain ⟨hx, hhx⟩ : ∃ hx : Nat, hx = (i + j) / 2 := ⟨_, rfl⟩
   have eh : ((i : Int) + (j : Int)) / 2 = (hx : Int) := by omega
   have hx1 : i ≤ hx := by omega
   have hx2 : hx < j := by omega
   obtain ⟨k, hk⟩ : ∃ k, hx = m + k := ⟨hx - m, by omega⟩
   have hkV : k < V.length := by have := Hb.out; omega
   obtain ⟨x, hxe⟩ : ∃ x, V[k] = x := ⟨_, rfl⟩
   have HR1 := Lib.hid (show RowM wi B g n cap ((P ++ y :: V.take k) ++ x :: (V.drop (k + 1) ++ Q)) by
    have e : V = V.take k ++ x :: V.drop (k + 1) := by rw [← hxe, ← List.drop_eq_getElem_cons hkV, List.take_append_drop]
    have h1 := HR.out
    rw [show P ++ y :: (V ++ Q) = P ++ y :: ((V.take k ++ x :: V.drop (k + 1)) ++ Q) by rw [← e]] at h1
    simpa using h1)
   have Hk := Lib.hid hk
   have Hxl := Lib.hid (show hx = (P ++ y :: V.take k).length by have := Ha.out; have := Hm.out; simp; omega)
   have Hxo := Lib.hid (show okMv x from Hq.out x (by rw [← hxe]; exact List.getElem_mem hkV))
   have HT := Lib.hid (show ltM x y = true → ∃ (k : Nat) (hk : k < V.length), m + k + 1 = hx + 1 ∧ ltM V[k] y = true from fun hl => ⟨k, hkV, by omega, by rw [hxe]; exact hl⟩)
   have HFa := Lib.hid (show ltM x y = false → ∃ (k : Nat) (hk : k < V.length), m + k = hx ∧ ltM V[k] y = false from fun hl => ⟨k, hkV, by omega, by rw [hxe]; exact hl⟩)
   have i0 : (0 : Int) ≤ (hx : Int) := by omega
   have i1 : (hx : Int) < (n : Int) := by omega
   have i2 : (0 : Int) ≤ (a : Int) := by omega
   have i3 : (a : Int) < (n : Int) := by omega
   have hx6 : hx ≤ 60000 := by omega
   obtain ⟨cq, hcq⟩ : ∃ cq, cmpM x y = cq := ⟨_, rfl⟩
   have Hcq := Lib.hid (show decide (cq < 0) = ltM x y by rw [← hcq, cmpM_lt])
   have HC : Hid (∀ V, Below wi.heap.size wi V → Calls Tryz.prog 83 #[x.v, y.v] V fun e w' => e = .returned (i64 cq) ∧ Below V.heap.size V w') := Lib.hid fun V hV => by
    rw [← hcq]
    exact acmp_c x y V (Enc.keep (α := Mv) (HR1.out.later hV).mid.1 (fun _ _ => rfl) (fun _ hb => hb.1)) (Enc.keep (α := Mv) (HR.out.later hV).mid.1 (fun _ _ => rfl) (fun _ hb => hb.1)) Hxo.out Hqy.out
   clear hhx hcq hk hxe hkV
   cases hl : ltM x y with
   | true =>
    have q1 : decide (cq < 0) = true := by rw [Hcq.out, hl]
    have HT2 := Lib.hid (HT.out hl)
    clear hl HT HFa
    go_upto_region 5 with fail
    refine wp_region_noPanic ?_
    refine wp_region_l 10 (fun _ : World => True) (by kernel_rfl) (trivial) (fun hH => ?_)
    have hbd := (Below.refl wi.heap.size wi).drew
    generalize wi.drew = Wd at *
    obtain ⟨-, x0, x1, x2, x3⟩ := (HR1.out.later hbd).mid' rfl Hxl.out
    obtain ⟨-, y0, y1, y2, y3⟩ := (HR.out.later hbd).mid' rfl Ha.out.symm
    refine tkZ 0 ?_; refine tkZ 1 ?_; refine tkZ 2 ?_; refine tkZ 3 ?_; refine tkZ 5 ?_; refine tkZ 6 ?_; refine tkZ 7 ?_
    refine wpAnyL_ready (rs := [4, 8]) (by kernel_rfl) (by simp) ?_
    refine AllReadyL.cons rfl (fun K hK => ?_) ?_
    ·skip
     refine oper_load_mv 43 rfl g (hx * 4) x rfl x0 x1 x2 x3 ?_
     refine hK.out _ _ (trivial) (fun hH => ?_)
     clear hK K
     try simp only [Act.put, uA, uZ, uS, vA, vZ, vS]
     refine tkO 8 (fun K hK => ?_)
     refine oper_load_mv 47 rfl g (a * 4) y rfl y0 y1 y2 y3 ?_
     refine hK.out _ _ (trivial) (fun hH => ?_)
     clear hK K
     try simp only [Act.put, uA, uZ, uS, vA, vZ, vS]
     refine tkO 9 (fun K hK => ?_)
     refine oper_callv2 83 40 44 48 _ rfl rfl _ _ rfl rfl (enters_of Tryz.func83 (by kernel_rfl) rfl) ?_
     refine (HC.out _ hbd).mono ?_
     rintro e u1 ⟨rfl, hF⟩
     refine ⟨_, rfl, ?_⟩
     have HF1 := Lib.hid hF
     clear hF
     refine hK.out _ _ (trivial) (fun hH => ?_)
     clear hK K
     try simp only [Act.put, uA, uZ, uS, vA, vZ, vS]
     refine tkL (fun K hK => ?_)
     go_simp
     refine hK.out _ _ ?_
     clear hK K
     try simp only [Act.put, uA, uZ, uS, vA, vZ, vS]
     refine tkD ?_
     clear hH
     have hsz := Hbw.out.size
     have hbu := hbd.trans (HF1.out.mono hbd.size)
     have Hbd := Lib.hid (Hbw.out.trans (hbu.mono (Nat.le_trans HB.out hsz)))
     have HR3 := Lib.hid (HR.out.later hbu)
     clear hbu hbd HF1 x0 x1 x2 x3 y0 y1 y2 y3 HC
     go_wp2
     go_roundw
     case rel => exact ⟨hx + 1, j, by go_num, rfl, by omega, by omega, h3, Lib.hid (.inr HT2.out), Hj, HR3, Hbd⟩
     case measure => simp [intOf]; omega
    refine AllReadyL.cons rfl (fun K hK => ?_) ?_
    ·skip
     refine oper_load_mv 47 rfl g (a * 4) y rfl y0 y1 y2 y3 ?_
     refine hK.out _ _ (trivial) (fun hH => ?_)
     clear hK K
     try simp only [Act.put, uA, uZ, uS, vA, vZ, vS]
     refine tkO 4 (fun K hK => ?_)
     refine oper_load_mv 43 rfl g (hx * 4) x rfl x0 x1 x2 x3 ?_
     refine hK.out _ _ (trivial) (fun hH => ?_)
     clear hK K
     try simp only [Act.put, uA, uZ, uS, vA, vZ, vS]
     refine tkO 9 (fun K hK => ?_)
     refine oper_callv2 83 40 44 48 _ rfl rfl _ _ rfl rfl (enters_of Tryz.func83 (by kernel_rfl) rfl) ?_
     refine (HC.out _ hbd).mono ?_
     rintro e u1 ⟨rfl, hF⟩
     refine ⟨_, rfl, ?_⟩
     have HF1 := Lib.hid hF
     clear hF
     refine hK.out _ _ (trivial) (fun hH => ?_)
     clear hK K
     try simp only [Act.put, uA, uZ, uS, vA, vZ, vS]
     refine tkL (fun K hK => ?_)
     go_simp
     refine hK.out _ _ ?_
     clear hK K
     try simp only [Act.put, uA, uZ, uS, vA, vZ, vS]
     refine tkD ?_
     clear hH
     have hsz := Hbw.out.size
     have hbu := hbd.trans (HF1.out.mono hbd.size)
     have Hbd := Lib.hid (Hbw.out.trans (hbu.mono (Nat.le_trans HB.out hsz)))
     have HR3 := Lib.hid (HR.out.later hbu)
     clear hbu hbd HF1 x0 x1 x2 x3 y0 y1 y2 y3 HC
     go_wp2
     go_roundw
     case rel => exact ⟨hx + 1, j, by go_num, rfl, by omega, by omega, h3, Lib.hid (.inr HT2.out), Hj, HR3, Hbd⟩
     case measure => simp [intOf]; omega
    exact AllReadyL.nil
   | false =>
    have q1 : decide (cq < 0) = false := by rw [Hcq.out, hl]
    have HT2 := Lib.hid (HFa.out hl)
    clear hl HT HFa
    go_upto_region 5 with fail
    refine wp_region_noPanic ?_
    refine wp_region_l 10 (fun _ : World => True) (by kernel_rfl) (trivial) (fun hH => ?_)
    have hbd := (Below.refl wi.heap.size wi).drew
    generalize wi.drew = Wd at *
    obtain ⟨-, x0, x1, x2, x3⟩ := (HR1.out.later hbd).mid' rfl Hxl.out
    obtain ⟨-, y0, y1, y2, y3⟩ := (HR.out.later hbd).mid' rfl Ha.out.symm
    refine tkZ 0 ?_; refine tkZ 1 ?_; refine tkZ 2 ?_; refine tkZ 3 ?_; refine tkZ 5 ?_; refine tkZ 6 ?_; refine tkZ 7 ?_
    refine wpAnyL_ready (rs := [4, 8]) (by kernel_rfl) (by simp) ?_
    refine AllReadyL.cons rfl (fun K hK => ?_) ?_
    ·skip
     refine oper_load_mv 43 rfl g (hx * 4) x rfl x0 x1 x2 x3 ?_
     refine hK.out _ _ (trivial) (fun hH => ?_)
     clear hK K
     try simp only [Act.put, uA, uZ, uS, vA, vZ, vS]
     refine tkO 8 (fun K hK => ?_)
     refine oper_load_mv 47 rfl g (a * 4) y rfl y0 y1 y2 y3 ?_
     refine hK.out _ _ (trivial) (fun hH => ?_)
     clear hK K
     try simp only [Act.put, uA, uZ, uS, vA, vZ, vS]
     refine tkO 9 (fun K hK => ?_)
     refine oper_callv2 83 40 44 48 _ rfl rfl _ _ rfl rfl (enters_of Tryz.func83 (by kernel_rfl) rfl) ?_
     refine (HC.out _ hbd).mono ?_
     rintro e u1 ⟨rfl, hF⟩
     refine ⟨_, rfl, ?_⟩
     have HF1 := Lib.hid hF
     clear hF
     refine hK.out _ _ (trivial) (fun hH => ?_)
     clear hK K
     try simp only [Act.put, uA, uZ, uS, vA, vZ, vS]
     refine tkL (fun K hK => ?_)
     go_simp
     refine hK.out _ _ ?_
     clear hK K
     try simp only [Act.put, uA, uZ, uS, vA, vZ, vS]
     refine tkD ?_
     clear hH
     have hsz := Hbw.out.size
     have hbu := hbd.trans (HF1.out.mono hbd.size)
     have Hbd := Lib.hid (Hbw.out.trans (hbu.mono (Nat.le_trans HB.out hsz)))
     have HR3 := Lib.hid (HR.out.later hbu)
     clear hbu hbd HF1 x0 x1 x2 x3 y0 y1 y2 y3 HC
     go_wp2
     go_roundw
     case rel => exact ⟨i, hx, rfl, by go_num, h1, by omega, by omega, Hi, Lib.hid (.inr HT2.out), HR3, Hbd⟩
     case measure => simp [intOf]; omega
    refine AllReadyL.cons rfl (fun K hK => ?_) ?_
    ·skip
     refine oper_load_mv 47 rfl g (a * 4) y rfl y0 y1 y2 y3 ?_
     refine hK.out _ _ (trivial) (fun hH => ?_)
     clear hK K
     try simp only [Act.put, uA, uZ, uS, vA, vZ, vS]
     refine tkO 4 (fun K hK => ?_)
     refine oper_load_mv 43 rfl g (hx * 4) x rfl x0 x1 x2 x3 ?_
     refine hK.out _ _ (trivial) (fun hH => ?_)
     clear hK K
     try simp only [Act.put, uA, uZ, uS, vA, vZ, vS]
     refine tkO 9 (fun K hK => ?_)
     refine oper_callv2 83 40 44 48 _ rfl rfl _ _ rfl rfl (enters_of Tryz.func83 (by kernel_rfl) rfl) ?_
     refine (HC.out _ hbd).mono ?_
     rintro e u1 ⟨rfl, hF⟩
     refine ⟨_, rfl, ?_⟩
     have HF1 := Lib.hid hF
     clear hF
     refine hK.out _ _ (trivial) (fun hH => ?_)
     clear hK K
     try simp only [Act.put, uA, uZ, uS, vA, vZ, vS]
     refine tkL (fun K hK => ?_)
     go_simp
     refine hK.out _ _ ?_
     clear hK K
     try simp only [Act.put, uA, uZ, uS, vA, vZ, vS]
     refine tkD ?_
     clear hH
     have hsz := Hbw.out.size
     have hbu := hbd.trans (HF1.out.mono hbd.size)
     have Hbd := Lib.hid (Hbw.out.trans (hbu.mono (Nat.le_trans HB.out hsz)))
     have HR3 := Lib.hid (HR.out.later hbu)
     clear hbu hbd HF1 x0 x1 x2 x3 y0 y1 y2 y3 HC
     go_wp2
     go_roundw
     case rel => exact ⟨i, hx, rfl, by go_num, h1, by omega, by omega, Hi, Lib.hid (.inr HT2.out), HR3, Hbd⟩
     case measure => simp [intOf]; omega
    exact AllReadyL.nil
  ·obtain rfl : i = j := by omega
   have g1 : decide ((i : Int) < (i : Int)) = false := decide_eq_false (by omega)
   obtain ⟨i1, hi1⟩ : ∃ i1, i = i1 + 1 := ⟨i - 1, by omega⟩
   have ei : (i : Int) - 1 = (i1 : Int) := by omega
   have w2 : IntKind.i64.wrap (i1 : Int) = (i1 : Int) := by rw [IntKind.wrap_i64]; omega
   have hi1n : i1 < n := by omega
   have HM := Lib.hid (show mrg ltM [y] V = V.take (i - m) ++ y :: V.drop (i - m) from sym_one HV.out (by
    rcases Hi.out with e | ⟨k, hk, e1, e2⟩
    ·left; omega
    ·right; exact ⟨k, hk, by omega, e2⟩) (by
    rcases Hj.out with e | ⟨k, hk, e1, e2⟩
    ·left; have := Hb.out; omega
    ·right
     have e3 : i - m = k := by omega
     exact ⟨by omega, by simp only [e3]; exact e2⟩) (by have := Hb.out; omega))
   have Hi1 := Lib.hid hi1
   have hai : a ≤ i1 := by have := Hm.out; omega
   have HiV := Lib.hid (show i1 ≤ a + V.length by have := Hm.out; have := Hb.out; omega)
   clear hi1 Hi Hj
   go_wp2_with fail
   go_loopw [13] (fun i13 wr => ∃ q : Nat, i13 = i64 (q : Int) ∧ a ≤ q ∧ q ≤ i1 ∧ Hid (RowM wr B g n cap (P ++ V.take (q - a) ++ y :: (V.drop (q - a) ++ Q))) ∧ Hid (Below B w wr)) (fun i13 _ => i1 - (intOf i13).toNat)
   case atStart => exact ⟨a, rfl, Nat.le_refl _, hai, Lib.hid (by have := HR.out; simpa using this), Hbw⟩
   case round =>
    clear HR Hbw
    obtain ⟨q, rfl, hq1, hq2, HR, Hbw⟩ := hrel
    obtain ⟨wj, rfl⟩ : ∃ wj, wj = wr := ⟨wr, rfl⟩
    by_cases hlq : q < i1
    ·have g3 : decide ((q : Int) < (i1 : Int)) = true := decide_eq_true (by omega)
     have g4 : decide (q < i1) = true := decide_eq_true hlq
     have hkV : q - a < V.length := by have := HiV.out; omega
     obtain ⟨x, hxe⟩ : ∃ x, V[q - a] = x := ⟨_, rfl⟩
     have hd : V.drop (q - a) = x :: V.drop (q - a + 1) := by rw [← hxe, List.drop_eq_getElem_cons hkV]
     have ht : V.take (q - a + 1) = V.take (q - a) ++ [x] := by rw [List.take_succ_eq_append_getElem hkV, hxe]
     obtain ⟨D, hD⟩ : ∃ D, D = V.drop (q - a + 1) ++ Q := ⟨_, rfl⟩
     obtain ⟨A, hA⟩ : ∃ A, A = P ++ V.take (q - a) := ⟨_, rfl⟩
     have HR1 := Lib.hid (show RowM wj B g n cap (A ++ y :: x :: D) by have h1 := HR.out; rw [hd] at h1; rw [hD, hA]; simpa using h1)
     have Hnx := Lib.hid (show A ++ x :: y :: D = P ++ V.take (q + 1 - a) ++ y :: (V.drop (q + 1 - a) ++ Q) by rw [show q + 1 - a = q - a + 1 by omega, ht, hD, hA]; simp)
     have Hqe := Lib.hid (show q = A.length by rw [hA]; have := Ha.out; simp; omega)
     have hqn : q + 1 < n := by omega
     have i0 : (0 : Int) ≤ (q : Int) := by omega
     have i1' : (q : Int) < (n : Int) := by omega
     have i2 : (q : Int) + 1 < (n : Int) := by omega
     have i3 : (0 : Int) ≤ (q : Int) + 1 := by omega
     have hqs : q + 1 ≤ 60000 := by omega
     have W2 := Lib.hid w2
     clear hd ht hxe hD hA HR hkV w2
     go_upto_region 11 with fail
     refine wp_region_noPanic ?_
     refine wp_region_l 17 (fun _ : World => True) (by kernel_rfl) (trivial) (fun hH => ?_)
     have hbd := (Below.refl wj.heap.size wj).drew
     generalize wj.drew = Wd at *
     have HRd := Lib.hid (HR1.out.later hbd)
     obtain ⟨hxo, x0, x1, x2, x3⟩ := HRd.out.mid2
     obtain ⟨hyo, y0, y1, y2, y3⟩ := HRd.out.mid
     rw [← Hqe.out] at x0 x1 x2 x3 y0 y1 y2 y3
     have hln := HRd.out.len
     have hlo := HRd.out.lo
     have w1 : IntKind.i64.wrap (q : Int) = (q : Int) := by rw [IntKind.wrap_i64]; omega
     have w9 : IntKind.i64.wrap ((q : Int) + 1) = (q : Int) + 1 := by rw [IntKind.wrap_i64]; omega
     refine tkZ 0 ?_; refine tkZ 1 ?_; refine tkZ 2 ?_; refine tkZ 3 ?_; refine tkZ 4 ?_; refine tkZ 5 ?_; refine tkZ 6 ?_; refine tkZ 7 ?_; refine tkZ 8 ?_; refine tkZ 10 ?_; refine tkZ 11 ?_; refine tkZ 12 ?_
     refine wpAnyL_ready (rs := [9, 13]) (by kernel_rfl) (by simp) ?_
     refine AllReadyL.cons rfl (fun K hK => ?_) ?_
     ·skip
      refine oper_load_mv 69 rfl g ((q + 1) * 4) x rfl x0 x1 x2 x3 ?_
      refine hK.out _ _ (trivial) (fun hH => ?_)
      clear hK K
      try simp only [Act.put, uA, uZ, uS, vA, vZ, vS]
      refine tkO 13 (fun K hK => ?_)
      refine oper_load_mv 73 rfl g (q * 4) y rfl y0 y1 y2 y3 ?_
      refine hK.out _ _ (trivial) (fun hH => ?_)
      clear hK K
      try simp only [Act.put, uA, uZ, uS, vA, vZ, vS]
      refine tkZ 14 ?_
      refine tkO 15 (fun K hK => ?_)
      refine oper_store_own (α := Mv) (.tmp 75) (.tmp 70) 85 rfl (by kernel_rfl) g n cap q (q * 4) x HRd.out.own (by rw [hln]; omega) rfl rfl rfl (show Mv.Ok _ _ x from hxo) ?_
      intro v1 hO1 hg1
      have hO1 := Lib.hid hO1
      have hg1 := Lib.hid hg1
      refine hK.out _ _ (trivial) (fun hH => ?_)
      clear hK K
      try simp only [Act.put, uA, uZ, uS]
      refine tkZ 16 ?_
      refine tkL (fun K hK => ?_)
      refine oper_store_own (α := Mv) (.tmp 76) (.tmp 74) 85 rfl (by kernel_rfl) g n cap (q + 1) ((q + 1) * 4) y hO1.out (by rw [List.length_set, hln]; omega) rfl rfl rfl (show Mv.Ok _ _ y from Enc.keep (α := Mv) hyo (fun p hp => World.cell?_of_block (hg1.out.block _ hp.1 hp.2)) (fun b hb => ⟨Nat.lt_of_lt_of_le hb.1 hg1.out.size, hb.2⟩)) ?_
      intro v2 hO2 hg2
      have hO2 := Lib.hid hO2
      have hg2 := Lib.hid hg2
      refine hK.out _ _ ?_
      clear hK K
      try simp only [Act.put, uA, uZ, uS]
      refine tkD ?_
      clear hH w1 w9
      have hO3 := hO2.out
      rw [Hqe.out, set_mid, set_mid2] at hO3
      have HRs := Lib.hid (HRd.out.put hO3 (by simp))
      have Hbs := Lib.hid ((Hbw.out.trans (hbd.mono (Nat.le_trans HB.out Hbw.out.size))).trans ((below_row hg1.out hlo.1 (by have := hlo.1; omega)).trans (below_row hg2.out hlo.1 (by have := hlo.1; have := hg1.out.size; omega))))
      clear hO3 hO2 hO1 hg1 hg2 HRd hbd x0 x1 x2 x3 y0 y1 y2 y3 hxo hyo hln hlo
      have w2 := W2.out
      go_wp2
      go_roundw
      case rel => exact ⟨q + 1, by go_num, by omega, by omega, Lib.hid (by rw [← Hnx.out]; exact HRs.out), Hbs⟩
      case measure => simp [intOf]; omega
     refine AllReadyL.cons rfl (fun K hK => ?_) ?_
     ·skip
      refine oper_load_mv 73 rfl g (q * 4) y rfl y0 y1 y2 y3 ?_
      refine hK.out _ _ (trivial) (fun hH => ?_)
      clear hK K
      try simp only [Act.put, uA, uZ, uS, vA, vZ, vS]
      refine tkO 9 (fun K hK => ?_)
      refine oper_load_mv 69 rfl g ((q + 1) * 4) x rfl x0 x1 x2 x3 ?_
      refine hK.out _ _ (trivial) (fun hH => ?_)
      clear hK K
      try simp only [Act.put, uA, uZ, uS, vA, vZ, vS]
      refine tkZ 14 ?_
      refine tkO 15 (fun K hK => ?_)
      refine oper_store_own (α := Mv) (.tmp 75) (.tmp 70) 85 rfl (by kernel_rfl) g n cap q (q * 4) x HRd.out.own (by rw [hln]; omega) rfl rfl rfl (show Mv.Ok _ _ x from hxo) ?_
      intro v1 hO1 hg1
      have hO1 := Lib.hid hO1
      have hg1 := Lib.hid hg1
      refine hK.out _ _ (trivial) (fun hH => ?_)
      clear hK K
      try simp only [Act.put, uA, uZ, uS]
      refine tkZ 16 ?_
      refine tkL (fun K hK => ?_)
      refine oper_store_own (α := Mv) (.tmp 76) (.tmp 74) 85 rfl (by kernel_rfl) g n cap (q + 1) ((q + 1) * 4) y hO1.out (by rw [List.length_set, hln]; omega) rfl rfl rfl (show Mv.Ok _ _ y from Enc.keep (α := Mv) hyo (fun p hp => World.cell?_of_block (hg1.out.block _ hp.1 hp.2)) (fun b hb => ⟨Nat.lt_of_lt_of_le hb.1 hg1.out.size, hb.2⟩)) ?_
      intro v2 hO2 hg2
      have hO2 := Lib.hid hO2
      have hg2 := Lib.hid hg2
      refine hK.out _ _ ?_
      clear hK K
      try simp only [Act.put, uA, uZ, uS]
      refine tkD ?_
      clear hH w1 w9
      have hO3 := hO2.out
      rw [Hqe.out, set_mid, set_mid2] at hO3
      have HRs := Lib.hid (HRd.out.put hO3 (by simp))
      have Hbs := Lib.hid ((Hbw.out.trans (hbd.mono (Nat.le_trans HB.out Hbw.out.size))).trans ((below_row hg1.out hlo.1 (by have := hlo.1; omega)).trans (below_row hg2.out hlo.1 (by have := hlo.1; have := hg1.out.size; omega))))
      clear hO3 hO2 hO1 hg1 hg2 HRd hbd x0 x1 x2 x3 y0 y1 y2 y3 hxo hyo hln hlo
      have w2 := W2.out
      go_wp2
      go_roundw
      case rel => exact ⟨q + 1, by go_num, by omega, by omega, Lib.hid (by rw [← Hnx.out]; exact HRs.out), Hbs⟩
      case measure => simp [intOf]; omega
     exact AllReadyL.nil
    ·obtain rfl : q = i1 := by omega
     have g3 : decide ((q : Int) < (q : Int)) = false := decide_eq_false (by omega)
     have HRf := Lib.hid (show RowM wj B g n cap (P ++ mrg ltM [y] V ++ Q) by
      have h1 := HR.out
      have e : i - m = q - a := by have := Hi1.out; have := Hm.out; omega
      rw [HM.out, e]
      simpa using h1)
     clear HR
     go_wp2
     exact bodyPost_ret (results_none rfl _ _ _) rfl ⟨rfl, HRf.out, Hbw.out⟩
set_option maxRecDepth 100000 in
set_option maxHeartbeats 16000000 in
theorem asym2_c (B g n cap a m b : Nat) (P U Q : List Mv) (x : Mv) (w : World) (h : RowM w B g n cap (P ++ (U ++ x :: Q))) (ha : P.length = a) (hm : a + U.length = m) (hb : m + 1 = b) (h2 : 2 ≤ U.length) (hn : n ≤ 60000) (hB : B ≤ w.heap.size) (hU : SortedB ltM U) (hqx : okMv x) (hq : ∀ y ∈ U, okMv y) :
  Calls Tryz.prog 180 #[.slice (some ⟨g, 0, none⟩) n cap, i64 a, i64 m, i64 b, .func (.func 83) #[] #[]] w fun e w' => e = .returned (.tuple #[]) ∧ RowM w' B g n cap (P ++ mrg ltM U [x] ++ Q) ∧ Below B w w' := by
 have hlen := h.len
 simp only [List.length_append, List.length_cons] at hlen
 have hcn := h.capn
 have hbn : b ≤ n := by omega
 obtain ⟨ul, hul⟩ : ∃ ul, U.length = ul := ⟨_, rfl⟩
 have e0 : (m : Int) - (a : Int) = (ul : Int) := by omega
 have wul : IntKind.i64.wrap (ul : Int) = (ul : Int) := by rw [IntKind.wrap_i64]; omega
 have b0 : ((ul : Int) == 1) = false := by rw [beq_eq_false_iff_ne]; omega
 have e1 : (b : Int) - (m : Int) = 1 := by omega
 have ham : a ≤ m := by omega
 have hm6 : m < n := by omega
 have H := Lib.hid h
 have HB := Lib.hid hB
 have Ha := Lib.hid ha
 have Hm := Lib.hid hm
 have HU := Lib.hid hU
 have Hqx := Lib.hid hqx
 have Hq := Lib.hid hq
 clear h hB ha hm hb hU hqx hq hlen hul
 go_enter Tryz.func180, Tryz.ntmps180
 go_wp2_with fail
 clear e0 wul b0 e1
 go_loopw [14, 15] (fun i14 i15 wr => ∃ (i j : Nat), i14 = i64 (i : Int) ∧ i15 = i64 (j : Int) ∧ a ≤ i ∧ i ≤ j ∧ j ≤ m ∧ Hid (i = a ∨ ∃ (k : Nat) (hk : k < U.length), a + k + 1 = i ∧ ltM x U[k] = false) ∧ Hid (j = m ∨ ∃ (k : Nat) (hk : k < U.length), a + k = j ∧ ltM x U[k] = true) ∧ Hid (RowM wr B g n cap (P ++ (U ++ x :: Q))) ∧ Hid (Below B w wr)) (fun i14 i15 _ => (intOf i15).toNat - (intOf i14).toNat)
 case atStart => exact ⟨a, m, rfl, rfl, Nat.le_refl _, ham, Nat.le_refl _, Lib.hid (.inl rfl), Lib.hid (.inl rfl), H, Lib.hid (Below.refl _ _)⟩
 case round =>
  obtain ⟨i, j, rfl, rfl, h1, h2, h3, Hi, Hj, HR, Hbw⟩ := hrel
  obtain ⟨wi, rfl⟩ : ∃ wi, wi = wr := ⟨wr, rfl⟩
  by_cases hlt : i < j
  ·have g1 : decide ((i : Int) < (j : Int)) = true := decide_eq_true (by omega)
   have g2 : decide (i < j) = true := decide_eq_true hlt
   obtain ⟨hx, hhx⟩ : ∃ hx : Nat, hx = (i + j) / 2 := ⟨_, rfl⟩
   have eh : ((i : Int) + (j : Int)) / 2 = (hx : Int) := by omega
   have hx1 : i ≤ hx := by omega
   have hx2 : hx < j := by omega
   obtain ⟨k, hk⟩ : ∃ k, hx = a + k := ⟨hx - a, by omega⟩
   have hkU : k < U.length := by have := Hm.out; omega
   obtain ⟨y, hye⟩ : ∃ y, U[k] = y := ⟨_, rfl⟩
   have HRy := Lib.hid (show RowM wi B g n cap ((P ++ U.take k) ++ y :: (U.drop (k + 1) ++ x :: Q)) by
    have e : U = U.take k ++ y :: U.drop (k + 1) := by rw [← hye, ← List.drop_eq_getElem_cons hkU, List.take_append_drop]
    have h1 := HR.out
    rw [show P ++ (U ++ x :: Q) = P ++ ((U.take k ++ y :: U.drop (k + 1)) ++ x :: Q) by rw [← e]] at h1
    simpa using h1)
   have HRx := Lib.hid (show RowM wi B g n cap ((P ++ U) ++ x :: Q) by have := HR.out; simpa using this)
   have Hyl := Lib.hid (show hx = (P ++ U.take k).length by have := Ha.out; simp; omega)
   have Hxl := Lib.hid (show m = (P ++ U).length by have := Ha.out; have := Hm.out; simp; omega)
   have Hyo := Lib.hid (show okMv y from Hq.out y (by rw [← hye]; exact List.getElem_mem hkU))
   have HT := Lib.hid (show ltM x y = false → ∃ (k : Nat) (hk : k < U.length), a + k + 1 = hx + 1 ∧ ltM x U[k] = false from fun hl => ⟨k, hkU, by omega, by rw [hye]; exact hl⟩)
   have HFa := Lib.hid (show ltM x y = true → ∃ (k : Nat) (hk : k < U.length), a + k = hx ∧ ltM x U[k] = true from fun hl => ⟨k, hkU, by omega, by rw [hye]; exact hl⟩)
   have i0 : (0 : Int) ≤ (hx : Int) := by omega
   have i1 : (hx : Int) < (n : Int) := by omega
   have i2 : (0 : Int) ≤ (m : Int) := by omega
   have i3 : (m : Int) < (n : Int) := by omega
   have hx6 : hx ≤ 60000 := by omega
   obtain ⟨cq, hcq⟩ : ∃ cq, cmpM x y = cq := ⟨_, rfl⟩
   have Hcq := Lib.hid (show decide (cq < 0) = ltM x y by rw [← hcq, cmpM_lt])
   have HC : Hid (∀ V, Below wi.heap.size wi V → Calls Tryz.prog 83 #[x.v, y.v] V fun e w' => e = .returned (i64 cq) ∧ Below V.heap.size V w') := Lib.hid fun V hV => by
    rw [← hcq]
    exact acmp_c x y V (Enc.keep (α := Mv) (HRx.out.later hV).mid.1 (fun _ _ => rfl) (fun _ hb => hb.1)) (Enc.keep (α := Mv) (HRy.out.later hV).mid.1 (fun _ _ => rfl) (fun _ hb => hb.1)) Hqx.out Hyo.out
   clear hhx hcq hk hye hkU
   cases hl : ltM x y with
   | false =>
    have q1 : decide (cq < 0) = false := by rw [Hcq.out, hl]
    have HT2 := Lib.hid (HT.out hl)
    clear hl HT HFa
    go_upto_region 17 with fail
    refine wp_region_noPanic ?_
    refine wp_region_l 11 (fun _ : World => True) (by kernel_rfl) (trivial) (fun hH => ?_)
    have hbd := (Below.refl wi.heap.size wi).drew
    generalize wi.drew = Wd at *
    obtain ⟨-, x0, x1, x2, x3⟩ := (HRx.out.later hbd).mid' rfl Hxl.out
    obtain ⟨-, y0, y1, y2, y3⟩ := (HRy.out.later hbd).mid' rfl Hyl.out
    refine tkZ 0 ?_; refine tkZ 1 ?_; refine tkZ 2 ?_; refine tkZ 3 ?_; refine tkZ 5 ?_; refine tkZ 6 ?_; refine tkZ 7 ?_
    refine wpAnyL_ready (rs := [4, 8]) (by kernel_rfl) (by simp) ?_
    refine AllReadyL.cons rfl (fun K hK => ?_) ?_
    ·skip
     refine oper_load_mv 95 rfl g (m * 4) x rfl x0 x1 x2 x3 ?_
     refine hK.out _ _ (trivial) (fun hH => ?_)
     clear hK K
     try simp only [Act.put, uA, uZ, uS, vA, vZ, vS]
     refine tkO 8 (fun K hK => ?_)
     refine oper_load_mv 99 rfl g (hx * 4) y rfl y0 y1 y2 y3 ?_
     refine hK.out _ _ (trivial) (fun hH => ?_)
     clear hK K
     try simp only [Act.put, uA, uZ, uS, vA, vZ, vS]
     refine tkO 9 (fun K hK => ?_)
     refine oper_callv2 83 92 96 100 _ rfl rfl _ _ rfl rfl (enters_of Tryz.func83 (by kernel_rfl) rfl) ?_
     refine (HC.out _ hbd).mono ?_
     rintro e u1 ⟨rfl, hF⟩
     refine ⟨_, rfl, ?_⟩
     have HF1 := Lib.hid hF
     clear hF
     refine hK.out _ _ (trivial) (fun hH => ?_)
     clear hK K
     try simp only [Act.put, uA, uZ, uS, vA, vZ, vS]
     refine tkZ 10 ?_
     refine tkL (fun K hK => ?_)
     go_simp
     refine hK.out _ _ ?_
     clear hK K
     try simp only [Act.put, uA, uZ, uS, vA, vZ, vS]
     refine tkD ?_
     clear hH
     have hsz := Hbw.out.size
     have hbu := hbd.trans (HF1.out.mono hbd.size)
     have Hbd := Lib.hid (Hbw.out.trans (hbu.mono (Nat.le_trans HB.out hsz)))
     have HR3 := Lib.hid (HR.out.later hbu)
     clear hbu hbd HF1 x0 x1 x2 x3 y0 y1 y2 y3 HC
     go_wp2
     go_roundw
     case rel => exact ⟨hx + 1, j, by go_num, rfl, by omega, by omega, h3, Lib.hid (.inr HT2.out), Hj, HR3, Hbd⟩
     case measure => simp [intOf]; omega
    refine AllReadyL.cons rfl (fun K hK => ?_) ?_
    ·skip
     refine oper_load_mv 99 rfl g (hx * 4) y rfl y0 y1 y2 y3 ?_
     refine hK.out _ _ (trivial) (fun hH => ?_)
     clear hK K
     try simp only [Act.put, uA, uZ, uS, vA, vZ, vS]
     refine tkO 4 (fun K hK => ?_)
     refine oper_load_mv 95 rfl g (m * 4) x rfl x0 x1 x2 x3 ?_
     refine hK.out _ _ (trivial) (fun hH => ?_)
     clear hK K
     try simp only [Act.put, uA, uZ, uS, vA, vZ, vS]
     refine tkO 9 (fun K hK => ?_)
     refine oper_callv2 83 92 96 100 _ rfl rfl _ _ rfl rfl (enters_of Tryz.func83 (by kernel_rfl) rfl) ?_
     refine (HC.out _ hbd).mono ?_
     rintro e u1 ⟨rfl, hF⟩
     refine ⟨_, rfl, ?_⟩
     have HF1 := Lib.hid hF
     clear hF
     refine hK.out _ _ (trivial) (fun hH => ?_)
     clear hK K
     try simp only [Act.put, uA, uZ, uS, vA, vZ, vS]
     refine tkZ 10 ?_
     refine tkL (fun K hK => ?_)
     go_simp
     refine hK.out _ _ ?_
     clear hK K
     try simp only [Act.put, uA, uZ, uS, vA, vZ, vS]
     refine tkD ?_
     clear hH
     have hsz := Hbw.out.size
     have hbu := hbd.trans (HF1.out.mono hbd.size)
     have Hbd := Lib.hid (Hbw.out.trans (hbu.mono (Nat.le_trans HB.out hsz)))
     have HR3 := Lib.hid (HR.out.later hbu)
     clear hbu hbd HF1 x0 x1 x2 x3 y0 y1 y2 y3 HC
     go_wp2
     go_roundw
     case rel => exact ⟨hx + 1, j, by go_num, rfl, by omega, by omega, h3, Lib.hid (.inr HT2.out), Hj, HR3, Hbd⟩
     case measure => simp [intOf]; omega
    exact AllReadyL.nil
   | true =>
    have q1 : decide (cq < 0) = true := by rw [Hcq.out, hl]
    have HT2 := Lib.hid (HFa.out hl)
    clear hl HT HFa
    go_upto_region 17 with fail
    refine wp_region_noPanic ?_
    refine wp_region_l 11 (fun _ : World => True) (by kernel_rfl) (trivial) (fun hH => ?_)
    have hbd := (Below.refl wi.heap.size wi).drew
    generalize wi.drew = Wd at *
    obtain ⟨-, x0, x1, x2, x3⟩ := (HRx.out.later hbd).mid' rfl Hxl.out
    obtain ⟨-, y0, y1, y2, y3⟩ := (HRy.out.later hbd).mid' rfl Hyl.out
    refine tkZ 0 ?_; refine tkZ 1 ?_; refine tkZ 2 ?_; refine tkZ 3 ?_; refine tkZ 5 ?_; refine tkZ 6 ?_; refine tkZ 7 ?_
    refine wpAnyL_ready (rs := [4, 8]) (by kernel_rfl) (by simp) ?_
    refine AllReadyL.cons rfl (fun K hK => ?_) ?_
    ·skip
     refine oper_load_mv 95 rfl g (m * 4) x rfl x0 x1 x2 x3 ?_
     refine hK.out _ _ (trivial) (fun hH => ?_)
     clear hK K
     try simp only [Act.put, uA, uZ, uS, vA, vZ, vS]
     refine tkO 8 (fun K hK => ?_)
     refine oper_load_mv 99 rfl g (hx * 4) y rfl y0 y1 y2 y3 ?_
     refine hK.out _ _ (trivial) (fun hH => ?_)
     clear hK K
     try simp only [Act.put, uA, uZ, uS, vA, vZ, vS]
     refine tkO 9 (fun K hK => ?_)
     refine oper_callv2 83 92 96 100 _ rfl rfl _ _ rfl rfl (enters_of Tryz.func83 (by kernel_rfl) rfl) ?_
     refine (HC.out _ hbd).mono ?_
     rintro e u1 ⟨rfl, hF⟩
     refine ⟨_, rfl, ?_⟩
     have HF1 := Lib.hid hF
     clear hF
     refine hK.out _ _ (trivial) (fun hH => ?_)
     clear hK K
     try simp only [Act.put, uA, uZ, uS, vA, vZ, vS]
     refine tkZ 10 ?_
     refine tkL (fun K hK => ?_)
     go_simp
     refine hK.out _ _ ?_
     clear hK K
     try simp only [Act.put, uA, uZ, uS, vA, vZ, vS]
     refine tkD ?_
     clear hH
     have hsz := Hbw.out.size
     have hbu := hbd.trans (HF1.out.mono hbd.size)
     have Hbd := Lib.hid (Hbw.out.trans (hbu.mono (Nat.le_trans HB.out hsz)))
     have HR3 := Lib.hid (HR.out.later hbu)
     clear hbu hbd HF1 x0 x1 x2 x3 y0 y1 y2 y3 HC
     go_wp2
     go_roundw
     case rel => exact ⟨i, hx, rfl, by go_num, h1, by omega, by omega, Hi, Lib.hid (.inr HT2.out), HR3, Hbd⟩
     case measure => simp [intOf]; omega
    refine AllReadyL.cons rfl (fun K hK => ?_) ?_
    ·skip
     refine oper_load_mv 99 rfl g (hx * 4) y rfl y0 y1 y2 y3 ?_
     refine hK.out _ _ (trivial) (fun hH => ?_)
     clear hK K
     try simp only [Act.put, uA, uZ, uS, vA, vZ, vS]
     refine tkO 4 (fun K hK => ?_)
     refine oper_load_mv 95 rfl g (m * 4) x rfl x0 x1 x2 x3 ?_
     refine hK.out _ _ (trivial) (fun hH => ?_)
     clear hK K
     try simp only [Act.put, uA, uZ, uS, vA, vZ, vS]
     refine tkO 9 (fun K hK => ?_)
     refine oper_callv2 83 92 96 100 _ rfl rfl _ _ rfl rfl (enters_of Tryz.func83 (by kernel_rfl) rfl) ?_
     refine (HC.out _ hbd).mono ?_
     rintro e u1 ⟨rfl, hF⟩
     refine ⟨_, rfl, ?_⟩
     have HF1 := Lib.hid hF
     clear hF
     refine hK.out _ _ (trivial) (fun hH => ?_)
     clear hK K
     try simp only [Act.put, uA, uZ, uS, vA, vZ, vS]
     refine tkZ 10 ?_
     refine tkL (fun K hK => ?_)
     go_simp
     refine hK.out _ _ ?_
     clear hK K
     try simp only [Act.put, uA, uZ, uS, vA, vZ, vS]
     refine tkD ?_
     clear hH
     have hsz := Hbw.out.size
     have hbu := hbd.trans (HF1.out.mono hbd.size)
     have Hbd := Lib.hid (Hbw.out.trans (hbu.mono (Nat.le_trans HB.out hsz)))
     have HR3 := Lib.hid (HR.out.later hbu)
     clear hbu hbd HF1 x0 x1 x2 x3 y0 y1 y2 y3 HC
     go_wp2
     go_roundw
     case rel => exact ⟨i, hx, rfl, by go_num, h1, by omega, by omega, Hi, Lib.hid (.inr HT2.out), HR3, Hbd⟩
     case measure => simp [intOf]; omega
    exact AllReadyL.nil
  ·obtain rfl : i = j := by omega
   have g1 : decide ((i : Int) < (i : Int)) = false := decide_eq_false (by omega)
   have HM := Lib.hid (show mrg ltM U [x] = U.take (i - a) ++ x :: U.drop (i - a) from sym_last HU.out (by
    rcases Hi.out with e | ⟨k, hk, e1, e2⟩
    ·left; omega
    ·right; exact ⟨k, hk, by omega, e2⟩) (by
    rcases Hj.out with e | ⟨k, hk, e1, e2⟩
    ·left; have := Hm.out; omega
    ·right
     have e3 : i - a = k := by omega
     exact ⟨by omega, by simp only [e3]; exact e2⟩) (by have := Hm.out; omega))
   clear Hi Hj
   go_wp2_with fail
   go_loopw [17] (fun i17 wr => ∃ kk : Nat, i17 = i64 (kk : Int) ∧ i ≤ kk ∧ kk ≤ m ∧ Hid (RowM wr B g n cap (P ++ U.take (kk - a) ++ x :: (U.drop (kk - a) ++ Q))) ∧ Hid (Below B w wr)) (fun i17 _ => (intOf i17).toNat - i)
   case atStart => exact ⟨m, rfl, h3, Nat.le_refl _, Lib.hid (by
    have h1 := HR.out
    rw [List.take_of_length_le (by have := Hm.out; omega), List.drop_of_length_le (by have := Hm.out; omega)]
    simpa using h1), Hbw⟩
   case round =>
    clear HR Hbw
    obtain ⟨kk, rfl, hq1, hq2, HR, Hbw⟩ := hrel
    obtain ⟨wj, rfl⟩ : ∃ wj, wj = wr := ⟨wr, rfl⟩
    by_cases hlq : i < kk
    ·obtain ⟨q, rfl⟩ : ∃ q, kk = q + 1 := ⟨kk - 1, by omega⟩
     have g3 : decide (((q + 1 : Nat) : Int) > (i : Int)) = true := decide_eq_true (by omega)
     have g4 : decide ((i : Int) < ((q + 1 : Nat) : Int)) = true := decide_eq_true (by omega)
     have g5 : decide (i < q + 1) = true := decide_eq_true hlq
     have g6 : decide ((i : Int) < (q : Int) + 1) = true := decide_eq_true (by omega)
     have g7 : decide ((q : Int) + 1 > (i : Int)) = true := decide_eq_true (by omega)
     have hkU : q - a < U.length := by have := Hm.out; omega
     obtain ⟨y, hye⟩ : ∃ y, U[q - a] = y := ⟨_, rfl⟩
     have hd : U.drop (q - a) = y :: U.drop (q + 1 - a) := by rw [← hye, List.drop_eq_getElem_cons hkU, show q + 1 - a = q - a + 1 by omega]
     have ht : U.take (q + 1 - a) = U.take (q - a) ++ [y] := by rw [show q + 1 - a = q - a + 1 by omega, List.take_succ_eq_append_getElem hkU, hye]
     obtain ⟨D, hD⟩ : ∃ D, D = U.drop (q + 1 - a) ++ Q := ⟨_, rfl⟩
     obtain ⟨A, hA⟩ : ∃ A, A = P ++ U.take (q - a) := ⟨_, rfl⟩
     have HR1 := Lib.hid (show RowM wj B g n cap (A ++ y :: x :: D) by have h1 := HR.out; rw [ht] at h1; rw [hD, hA]; simpa using h1)
     have Hnx := Lib.hid (show A ++ x :: y :: D = P ++ U.take (q - a) ++ x :: (U.drop (q - a) ++ Q) by rw [hd, hD, hA]; simp)
     have Hqe := Lib.hid (show q = A.length by rw [hA]; have := Ha.out; simp; omega)
     have hqn : q + 1 < n := by omega
     have i0 : (0 : Int) ≤ (q : Int) := by omega
     have i1' : (q : Int) < (n : Int) := by omega
     have i2 : (q : Int) + 1 < (n : Int) := by omega
     have i3 : (0 : Int) ≤ (q : Int) + 1 := by omega
     have hqs : q + 1 ≤ 60000 := by omega
     clear hd ht hye hD hA HR hkU
     go_upto_region 23 with fail
     refine wp_region_noPanic ?_
     refine wp_region_l 17 (fun _ : World => True) (by kernel_rfl) (trivial) (fun hH => ?_)
     have hbd := (Below.refl wj.heap.size wj).drew
     generalize wj.drew = Wd at *
     have HRd := Lib.hid (HR1.out.later hbd)
     obtain ⟨hxo, x0, x1, x2, x3⟩ := HRd.out.mid2
     obtain ⟨hyo, y0, y1, y2, y3⟩ := HRd.out.mid
     rw [← Hqe.out] at x0 x1 x2 x3 y0 y1 y2 y3
     have hln := HRd.out.len
     have hlo := HRd.out.lo
     have w1 : IntKind.i64.wrap (q : Int) = (q : Int) := by rw [IntKind.wrap_i64]; omega
     have w9 : IntKind.i64.wrap ((q : Int) + 1) = (q : Int) + 1 := by rw [IntKind.wrap_i64]; omega
     refine tkZ 0 ?_; refine tkZ 1 ?_; refine tkZ 2 ?_; refine tkZ 3 ?_; refine tkZ 4 ?_; refine tkZ 5 ?_; refine tkZ 6 ?_; refine tkZ 7 ?_; refine tkZ 8 ?_; refine tkZ 10 ?_; refine tkZ 11 ?_; refine tkZ 12 ?_
     refine wpAnyL_ready (rs := [9, 13]) (by kernel_rfl) (by simp) ?_
     refine AllReadyL.cons rfl (fun K hK => ?_) ?_
     ·skip
      refine oper_load_mv 121 rfl g (q * 4) y rfl y0 y1 y2 y3 ?_
      refine hK.out _ _ (trivial) (fun hH => ?_)
      clear hK K
      try simp only [Act.put, uA, uZ, uS, vA, vZ, vS]
      refine tkO 13 (fun K hK => ?_)
      refine oper_load_mv 125 rfl g ((q + 1) * 4) x rfl x0 x1 x2 x3 ?_
      refine hK.out _ _ (trivial) (fun hH => ?_)
      clear hK K
      try simp only [Act.put, uA, uZ, uS, vA, vZ, vS]
      refine tkZ 14 ?_
      refine tkO 15 (fun K hK => ?_)
      refine oper_store_own (α := Mv) (.tmp 127) (.tmp 122) 85 rfl (by kernel_rfl) g n cap (q + 1) ((q + 1) * 4) y HRd.out.own (by rw [hln]; omega) rfl rfl rfl (show Mv.Ok _ _ y from hyo) ?_
      intro v1 hO1 hg1
      have hO1 := Lib.hid hO1
      have hg1 := Lib.hid hg1
      refine hK.out _ _ (trivial) (fun hH => ?_)
      clear hK K
      try simp only [Act.put, uA, uZ, uS]
      refine tkZ 16 ?_
      refine tkL (fun K hK => ?_)
      refine oper_store_own (α := Mv) (.tmp 128) (.tmp 126) 85 rfl (by kernel_rfl) g n cap q (q * 4) x hO1.out (by rw [List.length_set, hln]; omega) rfl rfl rfl (show Mv.Ok _ _ x from Enc.keep (α := Mv) hxo (fun p hp => World.cell?_of_block (hg1.out.block _ hp.1 hp.2)) (fun b hb => ⟨Nat.lt_of_lt_of_le hb.1 hg1.out.size, hb.2⟩)) ?_
      intro v2 hO2 hg2
      have hO2 := Lib.hid hO2
      have hg2 := Lib.hid hg2
      refine hK.out _ _ ?_
      clear hK K
      try simp only [Act.put, uA, uZ, uS]
      refine tkD ?_
      clear hH w1 w9
      have hO3 := hO2.out
      rw [Hqe.out, set_mid2, set_mid] at hO3
      have HRs := Lib.hid (HRd.out.put hO3 (by simp))
      have Hbs := Lib.hid ((Hbw.out.trans (hbd.mono (Nat.le_trans HB.out Hbw.out.size))).trans ((below_row hg1.out hlo.1 (by have := hlo.1; omega)).trans (below_row hg2.out hlo.1 (by have := hlo.1; have := hg1.out.size; omega))))
      clear hO3 hO2 hO1 hg1 hg2 HRd hbd x0 x1 x2 x3 y0 y1 y2 y3 hxo hyo hln hlo
      go_wp2
      go_roundw
      case rel => exact ⟨q, by go_num, by omega, by omega, Lib.hid (by rw [← Hnx.out]; exact HRs.out), Hbs⟩
      case measure => simp [intOf]; omega
     refine AllReadyL.cons rfl (fun K hK => ?_) ?_
     ·skip
      refine oper_load_mv 125 rfl g ((q + 1) * 4) x rfl x0 x1 x2 x3 ?_
      refine hK.out _ _ (trivial) (fun hH => ?_)
      clear hK K
      try simp only [Act.put, uA, uZ, uS, vA, vZ, vS]
      refine tkO 9 (fun K hK => ?_)
      refine oper_load_mv 121 rfl g (q * 4) y rfl y0 y1 y2 y3 ?_
      refine hK.out _ _ (trivial) (fun hH => ?_)
      clear hK K
      try simp only [Act.put, uA, uZ, uS, vA, vZ, vS]
      refine tkZ 14 ?_
      refine tkO 15 (fun K hK => ?_)
      refine oper_store_own (α := Mv) (.tmp 127) (.tmp 122) 85 rfl (by kernel_rfl) g n cap (q + 1) ((q + 1) * 4) y HRd.out.own (by rw [hln]; omega) rfl rfl rfl (show Mv.Ok _ _ y from hyo) ?_
      intro v1 hO1 hg1
      have hO1 := Lib.hid hO1
      have hg1 := Lib.hid hg1
      refine hK.out _ _ (trivial) (fun hH => ?_)
      clear hK K
      try simp only [Act.put, uA, uZ, uS]
      refine tkZ 16 ?_
      refine tkL (fun K hK => ?_)
      refine oper_store_own (α := Mv) (.tmp 128) (.tmp 126) 85 rfl (by kernel_rfl) g n cap q (q * 4) x hO1.out (by rw [List.length_set, hln]; omega) rfl rfl rfl (show Mv.Ok _ _ x from Enc.keep (α := Mv) hxo (fun p hp => World.cell?_of_block (hg1.out.block _ hp.1 hp.2)) (fun b hb => ⟨Nat.lt_of_lt_of_le hb.1 hg1.out.size, hb.2⟩)) ?_
      intro v2 hO2 hg2
      have hO2 := Lib.hid hO2
      have hg2 := Lib.hid hg2
      refine hK.out _ _ ?_
      clear hK K
      try simp only [Act.put, uA, uZ, uS]
      refine tkD ?_
      clear hH w1 w9
      have hO3 := hO2.out
      rw [Hqe.out, set_mid2, set_mid] at hO3
      have HRs := Lib.hid (HRd.out.put hO3 (by simp))
      have Hbs := Lib.hid ((Hbw.out.trans (hbd.mono (Nat.le_trans HB.out Hbw.out.size))).trans ((below_row hg1.out hlo.1 (by have := hlo.1; omega)).trans (below_row hg2.out hlo.1 (by have := hlo.1; have := hg1.out.size; omega))))
      clear hO3 hO2 hO1 hg1 hg2 HRd hbd x0 x1 x2 x3 y0 y1 y2 y3 hxo hyo hln hlo
      go_wp2
      go_roundw
      case rel => exact ⟨q, by go_num, by omega, by omega, Lib.hid (by rw [← Hnx.out]; exact HRs.out), Hbs⟩
      case measure => simp [intOf]; omega
     exact AllReadyL.nil
    ·obtain rfl : kk = i := by omega
     have g3 : decide ((kk : Int) > (kk : Int)) = false := decide_eq_false (by omega)
     have g4 : decide ((kk : Int) < (kk : Int)) = false := decide_eq_false (by omega)
     have HRf := Lib.hid (show RowM wj B g n cap (P ++ mrg ltM U [x] ++ Q) by
      have h1 := HR.out
      rw [HM.out]
      simpa using h1)
     clear HR
     go_wp2
     exact bodyPost_ret (results_none rfl _ _ _) rfl ⟨rfl, HRf.out, Hbw.out⟩
end Go.Proofs.YtampniiehgimhaaGreat
