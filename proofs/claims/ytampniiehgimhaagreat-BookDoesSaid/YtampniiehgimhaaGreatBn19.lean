/- Texts of this claim, laid together: Rf08T. -/
import Derived.Test.YtampniiehgimhaaGreatRows
import Derived.Test.YtampniiehgimhaaGreatBn17
import Derived.Test.YtampniiehgimhaaGreatBn16
import Derived.Test.YtampniiehgimhaaGreatBn6
import Derived.WalkKit
import Derived.WalkSpells
import Derived.WalkLawsBesides
import Derived.Deep.QuietTactic
import Derived.BigQuiet
import Derived.Laws.StructEq
import Derived.Deep.DeepFit
import Derived.StillTailTactics

/- ref08.Take -/
namespace Go.Proofs.YtampniiehgimhaaGreat
open Go.RowKit
theorem takeR_ok {L : List Ac} {H : List Held} {k p : ByteArray} {n s : Int} {y : Held} (hg : getK Held.key H ⟨k, n⟩ = some y) (h1 : ¬ (s < 1 ∨ y.sum < s)) (h2 : (turnL (asiD (-y.sum)) L k (-y.sum)).1 = 0) (h3 : (makeL (turnL (asiD (-y.sum)) L k (-y.sum)).2 (legs2 k p s)).1 = 0) :
  takeH L H k n p s = (0, (makeL (turnL (asiD (-y.sum)) L k (-y.sum)).2 (legs2 k p s)).2, delK Held.key H ⟨k, n⟩) := by
 unfold takeH
 rw [hg]
 dsimp only
 have hc : checkL (turnL (asiD (-y.sum)) L k (-y.sum)).2 (legs2 k p s) = 0 := by
  apply Classical.byContradiction
  intro e
  unfold makeL at h3
  rw [if_pos e] at h3
  exact e h3
 have hf : freeHL L H k n = (0, (turnL (asiD (-y.sum)) L k (-y.sum)).2, delK Held.key H ⟨k, n⟩) := freeHL_of hg (fun e => e h2)
 rw [if_neg h1, if_neg (fun e => e h2), if_neg (fun e => e hc), hf]
 show ((makeL (turnL (asiD (-y.sum)) L k (-y.sum)).2 (legs2 k p s)).1, _, _) = _
 rw [h3]
theorem takeR_no {L : List Ac} {H : List Held} {k p : ByteArray} {n s : Int} {y : Held} (hg : getK Held.key H ⟨k, n⟩ = some y) (h1 : ¬ (s < 1 ∨ y.sum < s)) (h2 : (turnL (asiD (-y.sum)) L k (-y.sum)).1 = 0) (h3 : (makeL (turnL (asiD (-y.sum)) L k (-y.sum)).2 (legs2 k p s)).1 ≠ 0) :
  takeH L H k n p s = ((makeL (turnL (asiD (-y.sum)) L k (-y.sum)).2 (legs2 k p s)).1, L, H) := by
 unfold takeH
 rw [hg]
 dsimp only
 rw [if_neg h1, if_neg (fun e => e h2)]
 by_cases hc : checkL (turnL (asiD (-y.sum)) L k (-y.sum)).2 (legs2 k p s) = 0
 ·exact absurd (by rw [(allL_of_check hc).1]; exact (allL_of_check hc).2) h3
 ·rw [if_pos hc]
  unfold makeL
  rw [if_pos hc]
/-- one chart's accounts, in another chart -/
theorem rc_give {w : World} {T : Nat → Prop} {d gc : Nat} {L : List Ac} {V0 : Value} (h : RcIs w (fun k => T k ∧ k ≠ d) d L) (hg : w.heap[gc]? = some (.cells #[V0] 121 (0, 0))) (hT : ¬ T gc) :
  ∃ A c, w.cell? ⟨d, 0, none⟩ = some (.slice A L.length c) ∧ RcIs (w.setCell ⟨gc, 0, none⟩ (.slice A L.length c)) T gc L := by
 obtain ⟨A, c, hc, hs, hf⟩ := h
 have c0 := cell_of_row _ d 0 _ _ (0, 0) hc
 simp only [List.getElem?_toArray, List.getElem?_cons_zero] at c0
 have hgr := grown_setCell (World.grownBy.refl w (some gc)) (p := ⟨gc, 0, none⟩) (.inl rfl) (.slice A L.length c)
 exact ⟨A, c, c0, A, c, heap_setCell_same w gc 0 _ _ _ hg, hs.keep (fun p hp => World.cell?_of_block (hgr.block _ hp.1 (fun e => hT (by injection e with e; rw [← e]; exact hp.2.1)))) (fun k hk => ⟨Nat.lt_of_lt_of_le hk.1 hgr.size, hk.2.1⟩), hf⟩
set_option maxRecDepth 100000 in
set_option maxHeartbeats 8000000 in
theorem rhtake_c (T : Nat → Prop) (g gc : Nat) (H : List Held) (L : List Ac) (k : ByteArray) (n : Int) (p : ByteArray) (s : Int) (w : World) (h : RhIs w T g H) (hc : RcIs w T gc L) (hL : OkA L) (hS : SrtL ltA L) (hl : L.length ≤ 65536) (hH : OkH H) (hSH : SrtL ltH H) (hn : H.length ≤ 65536) (hsr : R64 s) (hk : k.size ≤ maxLen) (hp : p.size ≤ maxLen) (hTn : ∀ k, w.heap.size ≤ k → T k) (hTg : ¬ T g) (hTc : ¬ T gc) :
  Calls Tryz.prog 65 #[.pointer (some ⟨g, 0, none⟩), .pointer (some ⟨gc, 0, none⟩), .string k, i64 n, .string p, i64 s] w fun e w' => e = .returned (i64 (takeH L H k n p s).1) ∧ RcIs w' T gc (takeH L H k n p s).2.1 ∧ RhIs w' T g (takeH L H k n p s).2.2 ∧ Gr w w' (GH g gc) := by
 have hne := h.ne hc
 have H1 := Lib.hid h
 have HC1 := Lib.hid hc
 have hA := Lib.hid (rhat_c T g H k n w h hn)
 have HTn := Lib.hid hTn
 have HTg := Lib.hid hTg
 have HTc := Lib.hid hTc
 have HH := Lib.hid hH
 have HSH := Lib.hid hSH
 have HL := Lib.hid hL
 have HS := Lib.hid hS
 have Hk := Lib.hid hk
 have Hp := Lib.hid hp
 obtain ⟨R, hR⟩ : ∃ R, takeH L H k n p s = R := ⟨_, rfl⟩
 rw [hR]
 have hlg := h.lt
 have hlc := hc.lt
 obtain ⟨A, c, hcell, hs, hf⟩ := h
 have c0 := cell_of_row _ g 0 _ _ (0, 0) hcell
 simp only [List.getElem?_toArray, List.getElem?_cons_zero] at c0
 clear hcell hf hL hS hH hSH hTn hTg hTc hk hp
 rcases idxH_get (H := H) (k := k) (n := n) with ⟨h1, h2⟩ | ⟨i, hi, h1, h2, h3⟩
 ·have HR2 := Lib.hid (show R = (6, L, H) by rw [← hR]; unfold takeH; rw [h2])
  clear h2 hR hs hc
  generalize idxH H k n = ix at *
  have g1 : decide (ix < 0) = true := decide_eq_true h1
  go_enter Tryz.func65, Tryz.ntmps65
  go_wp2_with fail
  refine hA.out.mono ?_
  rintro e w1 ⟨rfl, rfl⟩
  go_wp2
  go_ret
  exact ⟨by rw [HR2.out]; rfl, by rw [HR2.out]; exact HC1.out, by rw [HR2.out]; exact H1.out, Gr.refl _ _⟩
 ·obtain ⟨b, o, rfl, hb, _, d0, d1, d2⟩ := hs.held hi
  have hlc2 : H.length ≤ c := hs.1
  have g1 : decide ((i : Int) < 0) = false := decide_eq_false (by omega)
  have i0 : (0 : Int) ≤ (i : Int) := by omega
  have i1 : (i : Int) < (H.length : Int) := by omega
  have hx := HH.out H[i] (List.getElem_mem hi)
  have hr : R64 (-H[i].sum) := by unfold R64; omega
  have hxs := hx.2.2
  have Hok := Lib.hid (@takeR_ok L H k p n s H[i] h2)
  have Hno := Lib.hid (@takeR_no L H k p n s H[i] h2)
  have HT0 := Lib.hid (show s < 1 ∨ H[i].sum < s → takeH L H k n p s = (13, L, H) from fun e => by unfold takeH; rw [h2]; dsimp only; rw [if_pos e])
  have HT1 := Lib.hid (show ¬ (s < 1 ∨ H[i].sum < s) → (turnL (asiD (-H[i].sum)) L k (-H[i].sum)).1 ≠ 0 → takeH L H k n p s = ((turnL (asiD (-H[i].sum)) L k (-H[i].sum)).1, L, H) from fun e1 e2 => by unfold takeH; rw [h2]; dsimp only; rw [if_neg e1, if_pos e2])
  rw [hR] at Hok Hno HT0 HT1
  have HD := Lib.hid (show delK Held.key H ⟨k, n⟩ = H.take i ++ H.drop (i + 1) by rw [← h3]; exact delK_at keyH HSH.out hi)
  have HAs := Lib.hid (fun (d : Nat) (W : World) (hW : RcIs W (fun k => T k ∧ k ≠ d) d L) (hn : ∀ k, W.heap.size ≤ k → T k ∧ k ≠ d) => raside_c (fun k => T k ∧ k ≠ d) d L k (-H[i].sum) W hW hl HL.out HS.out hr hn (fun e => e.2 rfl))
  have Hok2 := Lib.hid (turnL_ok (asiD_ok (-H[i].sum)) HL.out k (-H[i].sum))
  have Hso2 := Lib.hid (turnL_srt (D := asiD (-H[i].sum)) HS.out k (-H[i].sum))
  have Hln2 := Lib.hid (turnL_len (asiD (-H[i].sum)) L k (-H[i].sum))
  rw [h1] at hA
  have hw0 : IntKind.i64.wrap (-H[i].sum) = -H[i].sum := by rw [IntKind.wrap_i64]; omega
  clear h1 h2 h3 hs hx hr hR
  generalize turnL (asiD (-H[i].sum)) L k (-H[i].sum) = tt at *
  generalize H[i].sum = su at *
  obtain ⟨er, L2⟩ := tt
  dsimp only at *
  have hw1 : wrap64 (-su) = -su := by rw [← IntWalk.i64_left]; exact hw0
  have Hxs := Lib.hid hxs
  clear hxs d0 d1
  go_enter Tryz.func65, Tryz.ntmps65
  go_wp2_with fail
  refine hA.out.mono ?_
  rintro e w1 ⟨rfl, rfl⟩
  clear hA
  by_cases hs1 : s < 1
  ·have g2 : decide (s < 1) = true := decide_eq_true hs1
   have HRR := Lib.hid (HT0.out (.inl hs1))
   clear hs1 HT0 HT1 Hok Hno
   go_wp2
   go_ret
   exact ⟨by rw [HRR.out]; rfl, by rw [HRR.out]; exact HC1.out, by rw [HRR.out]; exact H1.out, Gr.refl _ _⟩
  ·have g2 : decide (s < 1) = false := decide_eq_false hs1
   by_cases hs2 : su < s
   ·have g3 : decide (su < s) = true := decide_eq_true hs2
    have HRR := Lib.hid (HT0.out (.inr hs2))
    clear hs1 hs2 HT0 HT1 Hok Hno
    go_wp2
    go_ret
    exact ⟨by rw [HRR.out]; rfl, by rw [HRR.out]; exact HC1.out, by rw [HRR.out]; exact H1.out, Gr.refl _ _⟩
   ·have g3 : decide (su < s) = false := decide_eq_false hs2
    have hns : ¬ (s < 1 ∨ su < s) := fun e => by omega
    have Hok := Lib.hid (Hok.out hns)
    have Hno := Lib.hid (Hno.out hns)
    have HT1 := Lib.hid (HT1.out hns)
    have hw2 : IntKind.i64.wrap (-s) = -s := by rw [IntKind.wrap_i64]; have := Hxs.out; omega
    have hw3 : wrap64 (-s) = -s := by rw [← IntWalk.i64_left]; exact hw2
    have Hsr := Lib.hid (show R64 (-s) ∧ R64 s from ⟨⟨by have := Hxs.out; omega, by have := Hxs.out; omega⟩, hsr⟩)
    clear hs1 hs2 hns HT0 hsr
    obtain ⟨A2, c2, hgc, hs2, hf2⟩ := hc
    have e0 := cell_of_row _ gc 0 _ _ (0, 0) hgc
    simp only [List.getElem?_toArray, List.getElem?_cons_zero] at e0
    have hba := (Below.refl w.heap.size w).alloc (Nat.le_refl _) (.cells #[.slice A2 L.length c2] 121)
    have hdg := heap_alloc_new w (.cells #[.slice A2 L.length c2] 121)
    have hdl : w.heap.size < (w.alloc (.cells #[.slice A2 L.length c2] 121)).heap.size := by simp
    have hdi : RcIs (w.alloc (.cells #[.slice A2 L.length c2] 121)) (fun k => T k ∧ k ≠ w.heap.size) w.heap.size L :=
     ⟨A2, c2, hdg, hs2.keep (fun p hp => hba.cell hp.1) (fun k hk => ⟨Nat.lt_of_lt_of_le hk.1 hba.size, hk.2, Nat.ne_of_lt hk.1⟩), hf2⟩
    have Hdn := Lib.hid (show ∀ k, (w.alloc (.cells #[.slice A2 L.length c2] 121)).heap.size ≤ k → T k ∧ k ≠ w.heap.size from fun k hk => ⟨HTn.out k (by omega), by omega⟩)
    have hAs := Lib.hid (HAs.out w.heap.size _ hdi Hdn.out)
    have c0 := (hba.cell (p := ⟨g, 0, none⟩) hlg).trans c0
    have d2 := (hba.cell (p := ⟨b, o + i * 3 + 2, none⟩) hb.1).trans d2
    have Hgc := Lib.hid hgc
    have Hba := Lib.hid hba
    obtain ⟨d, hd⟩ : ∃ d, w.heap.size = d := ⟨_, rfl⟩
    clear hgc hs2 hf2 hdg hdi HAs hba
    go_wp2_with fail
    generalize w.alloc (.cells #[.slice A2 L.length c2] 121) = w1 at *
    rw [hd] at hAs Hdn hdl
    have Hd := Lib.hid hd
    clear hd
    refine hAs.out.mono ?_
    rintro e w2 ⟨rfl, q1, q2⟩
    have hb2 : Below w.heap.size w w2 := Hba.out.trans (below_of_grown q2 Hba.out.size (fun k e => by injection e with e; rw [← e, Hd.out]; exact Nat.le_refl _))
    have hsz := q2.size
    clear hAs q2 d2 c0 e0 Hba
    by_cases he : er = 0
    ·have g4 : (er == 0) = true := by rw [he]; rfl
     have Hok := Lib.hid (Hok.out he)
     have Hno := Lib.hid (Hno.out he)
     clear he HT1
     have hlt := hb2.size
     have hO := own_lit (w := w2) (base := w2.heap.size) 167 #[.string k, i64 (-s), .string p, i64 s] (legs2 k p s) (Nat.le_refl _) rfl (by show 2 ≤ 65536; decide) (fun x hx => by
      unfold legs2 at hx
      simp only [List.mem_cons, List.not_mem_nil, or_false] at hx
      rcases hx with rfl | rfl
      ·exact Hk.out
      ·exact Hp.out)
     have hb3 := hb2.alloc hb2.size (.cells #[.string k, i64 (-s), .string p, i64 s] 167)
     have q3 := q1.later ((Below.refl _ _).alloc (Nat.le_refl _) (.cells #[.string k, i64 (-s), .string p, i64 s] 167))
     obtain ⟨A5, c5, hv5, hs5, -⟩ := hO.slT (T := fun k => k ≠ d) (fun k hk => by have := Hd.out; omega) (fun x hx => by
      unfold legs2 at hx
      simp only [List.mem_cons, List.not_mem_nil, or_false] at hx
      rcases hx with rfl | rfl
      ·exact Hk.out
      ·exact Hp.out)
     have e5 : (legs2 k p s).length = 2 := rfl
     rw [e5] at hv5
     injection hv5 with e6 _ e7
     subst e6 e7
     have hM := rmake_c (fun k => T k ∧ k ≠ d) d L2 _ _ (legs2 k p s) _ q3 (by have := Hln2.out; omega) Hok2.out Hso2.out hs5 (by rw [e5]; decide) (fun x hx => by
      unfold legs2 at hx
      simp only [List.mem_cons, List.not_mem_nil, or_false] at hx
      rcases hx with rfl | rfl
      ·exact Hsr.out.1
      ·exact Hsr.out.2) (fun k hk => Hdn.out k (Nat.le_trans hsz (Nat.le_trans (by simp) hk))) (fun e => e.2 rfl)
     rw [e5] at hM
     have HM := Lib.hid hM
     have hsz3 : w2.heap.size ≤ (w2.alloc (.cells #[.string k, i64 (-s), .string p, i64 s] 167)).heap.size := by simp
     clear hO hs5 hM q1 q3 e5
     generalize makeL L2 (legs2 k p s) = mm at *
     obtain ⟨em, L4⟩ := mm
     dsimp only at *
     go_wp2_with fail
     generalize w2.alloc (.cells #[.string k, i64 (-s), .string p, i64 s] 167) = w3 at *
     refine HM.out.mono ?_
     rintro e w4 ⟨rfl, q4, q5⟩
     have hb4 : Below w.heap.size w w4 := hb3.trans (below_of_grown q5 hb3.size (fun k e => by injection e with e; rw [← e, Hd.out]; exact Nat.le_refl _))
     clear HM q5 hb3 hb2
     by_cases hm : em = 0
     ·have g5 : (em != 0) = false := by rw [hm]; rfl
      have HRR := Lib.hid (Hok.out hm)
      rw [HD.out] at HRR
      clear hm Hok Hno
      have hgc4 := (hb4.block _ hlc).trans Hgc.out
      obtain ⟨A4, c4, f0, q6⟩ := rc_give q4 hgc4 HTc.out
      have hfz := frozen_of_row _ gc 0 _ _ hgc4
      have k0 := cell_of_row _ gc 0 _ _ (0, 0) hgc4
      simp only [List.getElem?_toArray, List.getElem?_cons_zero] at k0
      have hgr5 := grown_setCell (World.grownBy.refl w4 (some gc)) (p := ⟨gc, 0, none⟩) (.inl rfl) (.slice A4 L4.length c4)
      have hh5 := (H1.out.later hb4).kept (Gr.of_grown hgr5) (fun e => hne (by injection e with e; exact e.symm)) (fun k hk e => HTc.out (by injection e with e; rw [e]; exact hk))
      have hC := Lib.hid (rhcut_c T g H i _ hh5 hn hi (fun k hk => HTn.out k (Nat.le_trans (Nat.le_trans hb4.size hgr5.size) hk)))
      have HG5 := Lib.hid hgr5
      have HQ6 := Lib.hid q6
      clear q4 hgc4 hh5 hgr5 q6
      go_wp2_with fail
      refine hC.out.mono ?_
      rintro e w6 ⟨rfl, q7, q8⟩
      have hG : Gr w w6 (GH g gc) := ((Gr.of_below hb4 (GH g gc)).trans ((Gr.of_grown HG5.out).mono (fun k _ e => (show GH g gc k from .inr (by injection e with e; exact e.symm)))) (fun _ e => .inl e)).trans ((Gr.of_grown q8).mono (fun k _ e => (show GH g gc k from .inl (by injection e with e; exact e.symm)))) (fun _ e => .inl e)
      have hc6 := HQ6.out.kept (Gr.of_grown q8) (fun e => hne (by injection e)) (fun k hk e => HTg.out (by injection e with e; rw [e]; exact hk))
      clear hC HG5 HQ6 q8
      go_wp2
      go_ret
      exact ⟨by rw [HRR.out]; rfl, by rw [HRR.out]; exact hc6, by rw [HRR.out]; exact q7, hG⟩
     ·have g5 : (em != 0) = true := by simpa using hm
      have HRR := Lib.hid (Hno.out hm)
      clear hm Hok Hno q4
      go_wp2
      go_ret
      exact ⟨by rw [HRR.out]; rfl, by rw [HRR.out]; exact HC1.out.later hb4, by rw [HRR.out]; exact H1.out.later hb4, Gr.of_below hb4 _⟩
    ·have g4 : (er == 0) = false := beq_eq_false_iff_ne.2 he
     have g5 : (er != 0) = true := by simpa using he
     have HRR := Lib.hid (HT1.out he)
     clear he HT1 Hok Hno q1
     go_wp2
     go_ret
     exact ⟨by rw [HRR.out]; rfl, by rw [HRR.out]; exact HC1.out.later hb2, by rw [HRR.out]; exact H1.out.later hb2, Gr.of_below hb2 _⟩
end Go.Proofs.YtampniiehgimhaaGreat
