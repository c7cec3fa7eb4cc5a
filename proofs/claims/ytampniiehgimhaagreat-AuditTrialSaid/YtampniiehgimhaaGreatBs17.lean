/- Texts of this claim, laid together. -/
import Derived.Test.YtampniiehgimhaaGreatRows
import Derived.Test.YtampniiehgimhaaGreatBs16
import Derived.Test.YtampniiehgimhaaGreatBs15
import Derived.Test.YtampniiehgimhaaGreatBs6
import Derived.WalkKit
import Derived.WalkSpells
import Derived.WalkLawsBesides
import Derived.Deep.QuietTactic
import Derived.BigQuiet
import Derived.Laws.StructEq
import Derived.Deep.DeepFit
import Derived.StillTailTactics
import Derived.Test.YtampniiehgimhaaGreatBs14
import Derived.Test.YtampniiehgimhaaGreatBs13
import Derived.Test.YtampniiehgimhaaGreatBs4
import Derived.Test.YtampniiehgimhaaGreatBs5

/- ref08.Take -/
namespace Go.Proofs.YtampniiehgimhaaGreat
open Go.RowKit
theorem takeR_ok {L : List Ac} {H : List Held} {k p : ByteArray} {n s : Int} {y : Held} (hg : getK Held.key H ⟨k, n⟩ = some y) (h1 : ¬ (s < 1 ∨ y.sum < s)) (h2 : (turnL (asiD (-y.sum)) L k (-y.sum)).1 = 0) (h3 : (makeL (turnL (asiD (-y.sum)) L k (-y.sum)).2 (legs2 k p s)).1 = 0) :
  takeH L H k n p s = (0, (makeL (turnL (asiD (-y.sum)) L k (-y.sum)).2 (legs2 k p s)).2, delK Held.key H ⟨k, n⟩) := by
 unfold takeH
 rw [hg]
 dsimp only
 have hc : checkL (turnL (asiD (-y.sum)) L k (-y.sum)).2 (legs2 k p s) = 0 := by
  apply Classical.byContradiction
  intro e
  unfold makeL at h3
  rw [if_pos e] at h3
  exact e h3
 have hf : freeHL L H k n = (0, (turnL (asiD (-y.sum)) L k (-y.sum)).2, delK Held.key H ⟨k, n⟩) := freeHL_of hg (fun e => e h2)
 rw [if_neg h1, if_neg (fun e => e h2), if_neg (fun e => e hc), hf]
 show ((makeL (turnL (asiD (-y.sum)) L k (-y.sum)).2 (legs2 k p s)).1, _, _) = _
 rw [h3]
theorem takeR_no {L : List Ac} {H : List Held} {k p : ByteArray} {n s : Int} {y : Held} (hg : getK Held.key H ⟨k, n⟩ = some y) (h1 : ¬ (s < 1 ∨ y.sum < s)) (h2 : (turnL (asiD (-y.sum)) L k (-y.sum)).1 = 0) (h3 : (makeL (turnL (asiD (-y.sum)) L k (-y.sum)).2 (legs2 k p s)).1 ≠ 0) :
  takeH L H k n p s = ((makeL (turnL (asiD (-y.sum)) L k (-y.sum)).2 (legs2 k p s)).1, L, H) := by
 unfold takeH
 rw [hg]
 dsimp only
 rw [if_neg h1, if_neg (fun e => e h2)]
 by_cases hc : checkL (turnL (asiD (-y.sum)) L k (-y.sum)).2 (legs2 k p s) = 0
 ·exact absurd (by rw [(allL_of_check hc).1]; exact (allL_of_check hc).2) h3
 ·rw [if_pos hc]
  unfold makeL
  rw [if_pos hc]
/-- one chart's accounts, in another chart -/
theorem rc_give {w : World} {T : Nat → Prop} {d gc : Nat} {L : List Ac} {V0 : Value} (h : RcIs w (fun k => T k ∧ k ≠ d) d L) (hg : w.heap[gc]? = some (.cells #[V0] 121 (0, 0))) (hT : ¬ T gc) :
  ∃ A c, w.cell? ⟨d, 0, none⟩ = some (.slice A L.length c) ∧ RcIs (w.setCell ⟨gc, 0, none⟩ (.slice A L.length c)) T gc L := by
 obtain ⟨A, c, hc, hs, hf⟩ := h
 have c0 := cell_of_row _ d 0 _ _ (0, 0) hc
 simp only [List.getElem?_toArray, List.getElem?_cons_zero] at c0
 have hgr := grown_setCell (World.grownBy.refl w (some gc)) (p := ⟨gc, 0, none⟩) (.inl rfl) (.slice A L.length c)
 exact ⟨A, c, c0, A, c, heap_setCell_same w gc 0 _ _ _ hg, hs.keep (fun p hp => World.cell?_of_block (hgr.block _ hp.1 (fun e => hT (by injection e with e; rw [← e]; exact hp.2.1)))) (fun k hk => ⟨Nat.lt_of_lt_of_le hk.1 hgr.size, hk.2.1⟩), hf⟩
set_option maxRecDepth 100000 in
set_option maxHeartbeats 8000000 in
theorem rhtake_c (T : Nat → Prop) (g gc : Nat) (H : List Held) (L : List Ac) (k : ByteArray) (n : Int) (p : ByteArray) (s : Int) (w : World) (h : RhIs w T g H) (hc : RcIs w T gc L) (hL : OkA L) (hS : SrtL ltA L) (hl : L.length ≤ 65536) (hH : OkH H) (hSH : SrtL ltH H) (hn : H.length ≤ 65536) (hsr : R64 s) (hk : k.size ≤ maxLen) (hp : p.size ≤ maxLen) (hTn : ∀ k, w.heap.size ≤ k → T k) (hTg : ¬ T g) (hTc : ¬ T gc) :
  Calls Tryz.prog 65 #[.pointer (some ⟨g, 0, none⟩), .pointer (some ⟨gc, 0, none⟩), .string k, i64 n, .string p, i64 s] w fun e w' => e = .returned (i64 (takeH L H k n p s).1) ∧ RcIs w' T gc (takeH L H k n p s).2.1 ∧ RhIs w' T g (takeH L H k n p s).2.2 ∧ Gr w w' (GH g gc) := by
 have hne := h.ne hc
 have H1 := Lib.hid h
 have HC1 := Lib.hid hc
 have hA := Lib.hid (rhat_c T g H k n w h hn)
 have HTn := Lib.hid hTn
 have HTg := Lib.hid hTg
 have HTc := Lib.hid hTc
 have HH := Lib.hid hH
 have HSH := Lib.hid hSH
 have HL := Lib.hid hL
 have HS := Lib.hid hS
 have Hk := Lib.hid hk
 have Hp := Lib.hid hp
 obtain ⟨R, hR⟩ : ∃ R, takeH L H k n p s = R := ⟨_, rfl⟩
 rw [hR]
 have hlg := h.lt
 have hlc := hc.lt
 obtain ⟨A, c, hcell, hs, hf⟩ := h
 have c0 := cell_of_row _ g 0 _ _ (0, 0) hcell
 simp only [List.getElem?_toArray, List.getElem?_cons_zero] at c0
 clear hcell hf hL hS hH hSH hTn hTg hTc hk hp
 rcases idxH_get (H := H) (k := k) (n := n) with ⟨h1, h2⟩ | ⟨i, hi, h1, h2, h3⟩
 ·have HR2 := Lib.hid (show R = (6, L, H) by rw [← hR]; unfold takeH; rw [h2])
  clear h2 hR hs hc
  generalize idxH H k n = ix at *
  have g1 : decide (ix < 0) = true := decide_eq_true h1
  go_enter Tryz.func65, Tryz.ntmps65
  go_wp2_with fail
  refine hA.out.mono ?_
  rintro e w1 ⟨rfl, rfl⟩
  go_wp2
  go_ret
  exact ⟨by rw [HR2.out]; rfl, by rw [HR2.out]; exact HC1.out, by rw [HR2.out]; exact H1.out, Gr.refl _ _⟩
 ·obtain ⟨b, o, rfl, hb, _, d0, d1, d2⟩ := hs.held hi
  have hlc2 : H.length ≤ c := hs.1
  have g1 : decide ((i : Int) < 0) = false := decide_eq_false (by omega)
  have i0 : (0 : Int) ≤ (i : Int) := by omega
  have i1 : (i : Int) < (H.length : Int) := by omega
  have hx := HH.out H[i] (List.getElem_mem hi)
  have hr : R64 (-H[i].sum) := by unfold R64; omega
  have hxs := hx.2.2
  have Hok := Lib.hid (@takeR_ok L H k p n s H[i] h2)
  have Hno := Lib.hid (@takeR_no L H k p n s H[i] h2)
  have HT0 := Lib.hid (show s < 1 ∨ H[i].sum < s → takeH L H k n p s = (13, L, H) from fun e => by unfold takeH; rw [h2]; dsimp only; rw [if_pos e])
  have HT1 := Lib.hid (show ¬ (s < 1 ∨ H[i].sum < s) → (turnL (asiD (-H[i].sum)) L k (-H[i].sum)).1 ≠ 0 → takeH L H k n p s = ((turnL (asiD (-H[i].sum)) L k (-H[i].sum)).1, L, H) from fun e1 e2 => by unfold takeH; rw [h2]; dsimp only; rw [if_neg e1, if_pos e2])
  rw [hR] at Hok Hno HT0 HT1
  have HD := Lib.hid (show delK Held.key H ⟨k, n⟩ = H.take i ++ H.drop (i + 1) by rw [← h3]; exact delK_at keyH HSH.out hi)
  have HAs := Lib.hid (fun (d : Nat) (W : World) (hW : RcIs W (fun k => T k ∧ k ≠ d) d L) (hn : ∀ k, W.heap.size ≤ k → T k ∧ k ≠ d) => raside_c (fun k => T k ∧ k ≠ d) d L k (-H[i].sum) W hW hl HL.out HS.out hr hn (fun e => e.2 rfl))
  have Hok2 := Lib.hid (turnL_ok (asiD_ok (-H[i].sum)) HL.out k (-H[i].sum))
  have Hso2 := Lib.hid (turnL_srt (D := asiD (-H[i].sum)) HS.out k (-H[i].sum))
  have Hln2 := Lib.hid (turnL_len (asiD (-H[i].sum)) L k (-H[i].sum))
  rw [h1] at hA
  have hw0 : IntKind.i64.wrap (-H[i].sum) = -H[i].sum := by rw [IntKind.wrap_i64]; omega
  clear h1 h2 h3 hs hx hr hR
  generalize turnL (asiD (-H[i].sum)) L k (-H[i].sum) = tt at *
  generalize H[i].sum = su at *
  obtain ⟨er, L2⟩ := tt
  dsimp only at *
  have hw1 : wrap64 (-su) = -su := by rw [← IntWalk.i64_left]; exact hw0
  have Hxs := Lib.hid hxs
  clear hxs d0 d1
  go_enter Tryz.func65, Tryz.ntmps65
  go_wp2_with fail
  refine hA.out.mono ?_
  rintro e w1 ⟨rfl, rfl⟩
  clear hA
  by_cases hs1 : s < 1
  ·have g2 : decide (s < 1) = true := decide_eq_true hs1
   have HRR := Lib.hid (HT0.out (.inl hs1))
   clear hs1 HT0 HT1 Hok Hno
   go_wp2
   go_ret
   exact ⟨by rw [HRR.out]; rfl, by rw [HRR.out]; exact HC1.out, by rw [HRR.out]; exact H1.out, Gr.refl _ _⟩
  ·have g2 : decide (s < 1) = false := decide_eq_false hs1
   by_cases hs2 : su < s
   ·have g3 : decide (su < s) = true := decide_eq_true hs2
    have HRR := Lib.hid (HT0.out (.inr hs2))
    clear hs1 hs2 HT0 HT1 Hok Hno
    go_wp2
    go_ret
    exact ⟨by rw [HRR.out]; rfl, by rw [HRR.out]; exact HC1.out, by rw [HRR.out]; exact H1.out, Gr.refl _ _⟩
   ·have g3 : decide (su < s) = false := decide_eq_false hs2
    have hns : ¬ (s < 1 ∨ su < s) := fun e => by omega
    have Hok := Lib.hid (Hok.out hns)
    have Hno := Lib.hid (Hno.out hns)
    have HT1 := Lib.hid (HT1.out hns)
    have hw2 : IntKind.i64.wrap (-s) = -s := by rw [IntKind.wrap_i64]; have := Hxs.out; omega
    have hw3 : wrap64 (-s) = -s := by rw [← IntWalk.i64_left]; exact hw2
    have Hsr := Lib.hid (show R64 (-s) ∧ R64 s from ⟨⟨by have := Hxs.out; omega, by have := Hxs.out; omega⟩, hsr⟩)
    clear hs1 hs2 hns HT0 hsr
    obtain ⟨A2, c2, hgc, hs2, hf2⟩ := hc
    have e0 := cell_of_row _ gc 0 _ _ (0, 0) hgc
    simp only [List.getElem?_toArray, List.getElem?_cons_zero] at e0
    have hba := (Below.refl w.heap.size w).alloc (Nat.le_refl _) (.cells #[.slice A2 L.length c2] 121)
    have hdg := heap_alloc_new w (.cells #[.slice A2 L.length c2] 121)
    have hdl : w.heap.size < (w.alloc (.cells #[.slice A2 L.length c2] 121)).heap.size := by simp
    have hdi : RcIs (w.alloc (.cells #[.slice A2 L.length c2] 121)) (fun k => T k ∧ k ≠ w.heap.size) w.heap.size L :=
     ⟨A2, c2, hdg, hs2.keep (fun p hp => hba.cell hp.1) (fun k hk => ⟨Nat.lt_of_lt_of_le hk.1 hba.size, hk.2, Nat.ne_of_lt hk.1⟩), hf2⟩
    have Hdn := Lib.hid (show ∀ k, (w.alloc (.cells #[.slice A2 L.length c2] 121)).heap.size ≤ k → T k ∧ k ≠ w.heap.size from fun k hk => ⟨HTn.out k (by omega), by omega⟩)
    have hAs := Lib.hid (HAs.out w.heap.size _ hdi Hdn.out)
    have c0 := (hba.cell (p := ⟨g, 0, none⟩) hlg).trans c0
    have d2 := (hba.cell (p := ⟨b, o + i * 3 + 2, none⟩) hb.1).trans d2
    have Hgc := Lib.hid hgc
    have Hba := Lib.hid hba
    obtain ⟨d, hd⟩ : ∃ d, w.heap.size = d := ⟨_, rfl⟩
    clear hgc hs2 hf2 hdg hdi HAs hba
    go_wp2_with fail
    generalize w.alloc (.cells #[.slice A2 L.length c2] 121) = w1 at *
    rw [hd] at hAs Hdn hdl
    have Hd := Lib.hid hd
    clear hd
    refine hAs.out.mono ?_
    rintro e w2 ⟨rfl, q1, q2⟩
    have hb2 : Below w.heap.size w w2 := Hba.out.trans (below_of_grown q2 Hba.out.size (fun k e => by injection e with e; rw [← e, Hd.out]; exact Nat.le_refl _))
    have hsz := q2.size
    clear hAs q2 d2 c0 e0 Hba
    by_cases he : er = 0
    ·have g4 : (er == 0) = true := by rw [he]; rfl
     have Hok := Lib.hid (Hok.out he)
     have Hno := Lib.hid (Hno.out he)
     clear he HT1
     have hlt := hb2.size
     have hO := own_lit (w := w2) (base := w2.heap.size) 167 #[.string k, i64 (-s), .string p, i64 s] (legs2 k p s) (Nat.le_refl _) rfl (by show 2 ≤ 65536; decide) (fun x hx => by
      unfold legs2 at hx
      simp only [List.mem_cons, List.not_mem_nil, or_false] at hx
      rcases hx with rfl | rfl
      ·exact Hk.out
      ·exact Hp.out)
     have hb3 := hb2.alloc hb2.size (.cells #[.string k, i64 (-s), .string p, i64 s] 167)
     have q3 := q1.later ((Below.refl _ _).alloc (Nat.le_refl _) (.cells #[.string k, i64 (-s), .string p, i64 s] 167))
     obtain ⟨A5, c5, hv5, hs5, -⟩ := hO.slT (T := fun k => k ≠ d) (fun k hk => by have := Hd.out; omega) (fun x hx => by
      unfold legs2 at hx
      simp only [List.mem_cons, List.not_mem_nil, or_false] at hx
      rcases hx with rfl | rfl
      ·exact Hk.out
      ·exact Hp.out)
     have e5 : (legs2 k p s).length = 2 := rfl
     rw [e5] at hv5
     injection hv5 with e6 _ e7
     subst e6 e7
     have hM := rmake_c (fun k => T k ∧ k ≠ d) d L2 _ _ (legs2 k p s) _ q3 (by have := Hln2.out; omega) Hok2.out Hso2.out hs5 (by rw [e5]; decide) (fun x hx => by
      unfold legs2 at hx
      simp only [List.mem_cons, List.not_mem_nil, or_false] at hx
      rcases hx with rfl | rfl
      ·exact Hsr.out.1
      ·exact Hsr.out.2) (fun k hk => Hdn.out k (Nat.le_trans hsz (Nat.le_trans (by simp) hk))) (fun e => e.2 rfl)
     rw [e5] at hM
     have HM := Lib.hid hM
     have hsz3 : w2.heap.size ≤ (w2.alloc (.cells #[.string k, i64 (-s), .string p, i64 s] 167)).heap.size := by simp
     clear hO hs5 hM q1 q3 e5
     generalize makeL L2 (legs2 k p s) = mm at *
     obtain ⟨em, L4⟩ := mm
     dsimp only at *
     go_wp2_with fail
     generalize w2.alloc (.cells #[.string k, i64 (-s), .string p, i64 s] 167) = w3 at *
     refine HM.out.mono ?_
     rintro e w4 ⟨rfl, q4, q5⟩
     have hb4 : Below w.heap.size w w4 := hb3.trans (below_of_grown q5 hb3.size (fun k e => by injection e with e; rw [← e, Hd.out]; exact Nat.le_refl _))
     clear HM q5 hb3 hb2
     by_cases hm : em = 0
     ·have g5 : (em != 0) = false := by rw [hm]; rfl
      have HRR := Lib.hid (Hok.out hm)
      rw [HD.out] at HRR
      clear hm Hok Hno
      have hgc4 := (hb4.block _ hlc).trans Hgc.out
      obtain ⟨A4, c4, f0, q6⟩ := rc_give q4 hgc4 HTc.out
      have hfz := frozen_of_row _ gc 0 _ _ hgc4
      have k0 := cell_of_row _ gc 0 _ _ (0, 0) hgc4
      simp only [List.getElem?_toArray, List.getElem?_cons_zero] at k0
      have hgr5 := grown_setCell (World.grownBy.refl w4 (some gc)) (p := ⟨gc, 0, none⟩) (.inl rfl) (.slice A4 L4.length c4)
      have hh5 := (H1.out.later hb4).kept (Gr.of_grown hgr5) (fun e => hne (by injection e with e; exact e.symm)) (fun k hk e => HTc.out (by injection e with e; rw [e]; exact hk))
      have hC := Lib.hid (rhcut_c T g H i _ hh5 hn hi (fun k hk => HTn.out k (Nat.le_trans (Nat.le_trans hb4.size hgr5.size) hk)))
      have HG5 := Lib.hid hgr5
      have HQ6 := Lib.hid q6
      clear q4 hgc4 hh5 hgr5 q6
      go_wp2_with fail
      refine hC.out.mono ?_
      rintro e w6 ⟨rfl, q7, q8⟩
      have hG : Gr w w6 (GH g gc) := ((Gr.of_below hb4 (GH g gc)).trans ((Gr.of_grown HG5.out).mono (fun k _ e => (show GH g gc k from .inr (by injection e with e; exact e.symm)))) (fun _ e => .inl e)).trans ((Gr.of_grown q8).mono (fun k _ e => (show GH g gc k from .inl (by injection e with e; exact e.symm)))) (fun _ e => .inl e)
      have hc6 := HQ6.out.kept (Gr.of_grown q8) (fun e => hne (by injection e)) (fun k hk e => HTg.out (by injection e with e; rw [e]; exact hk))
      clear hC HG5 HQ6 q8
      go_wp2
      go_ret
      exact ⟨by rw [HRR.out]; rfl, by rw [HRR.out]; exact hc6, by rw [HRR.out]; exact q7, hG⟩
     ·have g5 : (em != 0) = true := by simpa using hm
      have HRR := Lib.hid (Hno.out hm)
      clear hm Hok Hno q4
      go_wp2
      go_ret
      exact ⟨by rw [HRR.out]; rfl, by rw [HRR.out]; exact HC1.out.later hb4, by rw [HRR.out]; exact H1.out.later hb4, Gr.of_below hb4 _⟩
    ·have g4 : (er == 0) = false := beq_eq_false_iff_ne.2 he
     have g5 : (er != 0) = true := by simpa using he
     have HRR := Lib.hid (HT1.out he)
     clear he HT1 Hok Hno q1
     go_wp2
     go_ret
     exact ⟨by rw [HRR.out]; rfl, by rw [HRR.out]; exact HC1.out.later hb2, by rw [HRR.out]; exact H1.out.later hb2, Gr.of_below hb2 _⟩
end Go.Proofs.YtampniiehgimhaaGreat
/- ref05: Open -/
namespace Go.Proofs.YtampniiehgimhaaGreat
open Go.RowKit
theorem add_none_ (b o n : Nat) : (⟨b, o, none⟩ : Addr).add n = ⟨b, o + n, none⟩ := by
 unfold Addr.add
 split
 ·rename_i h
  subst h
  rfl
 ·rfl
theorem ins_lo {L : List Ac} (hS : SrtL ltA L) {k : ByteArray} {lim : Int} {q : Nat} (hq : q - 1 < L.length) (hnl : bless k L[q - 1].name = false) (hno : ∀ a ∈ L, a.name ≠ k) : ∀ j (h : j < L.length), j < q → ltA L[j] ⟨k, 0, 0, lim⟩ = true := by
 have h1 : ltA L[q - 1] ⟨k, 0, 0, lim⟩ = true := by
  rcases keyA.co L[q - 1] ⟨k, 0, 0, lim⟩ (hno _ (List.getElem_mem hq)) with h | h
  ·exact h
  ·exact absurd h (by show ¬ bless k L[q - 1].name = true; rw [hnl]; decide)
 intro j hj hjq
 rcases Nat.lt_or_ge j (q - 1) with h | h
 ·exact keyA.strict.trans _ _ _ (List.pairwise_iff_getElem.1 hS j (q - 1) hj hq h) h1
 ·obtain rfl : j = q - 1 := by omega
  exact h1
/-- a list of the call's own, put into the chart of block g -/
theorem rc_put {w u : World} {T : Nat → Prop} {g base : Nat} {L' : List Ac} {v V0 : Value} (hb0 : w.heap.size ≤ base) (HB : Below w.heap.size w u) (hlg : g < w.heap.size) (hT : ∀ k, w.heap.size ≤ k → T k)
  (hg : u.heap[g]? = some (.cells #[V0] 121 (0, 0))) (hO : Own u base 140 v L') (hok : ∀ x ∈ L', x.name.size ≤ maxLen) : RcIs (u.setCell ⟨g, 0, none⟩ v) T g L' ∧ w.grownBy (u.setCell ⟨g, 0, none⟩ v) (some g) := by
 have hg3 := heap_setCell_same u g 0 _ _ v hg
 have hgr := grown_setCell (World.grownBy.refl u (some g)) (p := ⟨g, 0, none⟩) (.inl rfl) v
 have hO3 := hO.grown hgr (by
  cases hv : v.ownBlock with
  | none => exact .inl rfl
  | some b =>
   right
   intro e
   injection e with e
   have := (hO.1.lt b hv).1
   omega) (fun x hx => hok x hx)
 obtain ⟨A, c, hv, hs, hf⟩ := hO3.slT (T := T) (fun k hk => hT k (Nat.le_trans hb0 hk)) hok
 refine ⟨⟨A, c, ?_, hs, hf⟩, grown_setCell (grown_of_below HB (some g)) (p := ⟨g, 0, none⟩) (.inl rfl) v⟩
 have e5 : (#[V0] : Array Value).setIfInBounds 0 v = #[.slice A L'.length c] := by rw [← hv]; rfl
 rw [e5] at hg3
 exact hg3
theorem ins_names {w : World} {S : Nat → Prop} {A : Option Addr} {c : Nat} {L : List Ac} (h : SlS w S A c L) {k : ByteArray} (hk : k.size ≤ maxLen) {lim : Int} {q : Nat} : ∀ x ∈ L.take q ++ [⟨k, 0, 0, lim⟩] ++ L.drop q, x.name.size ≤ maxLen := by
 intro x hx
 rcases List.mem_append.1 hx with hx | hx
 ·rcases List.mem_append.1 hx with hx | hx
  ·exact h.2.2.2 x (List.mem_of_mem_take hx)
  ·simp only [List.mem_singleton] at hx; subst hx; exact hk
 ·exact h.2.2.2 x (List.mem_of_mem_drop hx)
set_option maxRecDepth 100000 in
set_option maxHeartbeats 8000000 in
theorem ropen_c (T : Nat → Prop) (g : Nat) (L : List Ac) (k : ByteArray) (lim : Int) (w : World) (h : RcIs w T g L) (hL : L.length ≤ 65536) (hkl : k.size ≤ maxLen) (hS : SrtL ltA L) (hTn : ∀ k, w.heap.size ≤ k → T k) (hTg : ¬ T g) (h12 : L.length ≤ 12) :
  Calls Tryz.prog 62 #[.pointer (some ⟨g, 0, none⟩), .string k, i64 lim] w fun e w' => e = .returned (i64 (openL L k lim).1) ∧ RcIs w' T g (openL L k lim).2 ∧ w.grownBy w' (some g) := by
 have hlg := h.lt
 have hNm := Lib.hid fun W => rname_c k hkl W
 have HTn := Lib.hid hTn
 have HTg := Lib.hid hTg
 have HS := Lib.hid hS
 have Hkl := Lib.hid hkl
 obtain ⟨R, hR⟩ : ∃ R, openL L k lim = R := ⟨_, rfl⟩
 rw [hR]
 unfold openL at hR
 have HR := Lib.hid hR.symm
 clear hR hTn hTg hS hkl
 go_enter Tryz.func62, Tryz.ntmps62
 go_wp2_with fail
 refine (hNm.out _).mono ?_
 rintro e w1 ⟨rfl, hF⟩
 have h1 := h.later hF
 have HB1 := Lib.hid hF
 have hlg1 := Nat.lt_of_lt_of_le hlg hF.size
 have hs1 := hF.size
 clear hF hNm h
 by_cases hn : nameB k = false ∨ lim < 0
 ·have HR1 := Lib.hid (show R = (1, L) by rw [HR.out, if_pos hn])
  have H1 := Lib.hid h1
  clear HR
  cases hnb : nameB k with
  | false =>
   clear hn hnb
   go_wp2
   go_ret
   exact ⟨by rw [HR1.out]; rfl, by rw [HR1.out]; exact H1.out, grown_of_below HB1.out _⟩
  | true =>
   have g1 : decide (lim < 0) = true := decide_eq_true (hn.resolve_left (by rw [hnb]; decide))
   clear hn hnb
   go_wp2
   go_ret
   exact ⟨by rw [HR1.out]; rfl, by rw [HR1.out]; exact H1.out, grown_of_below HB1.out _⟩
 ·have HR1 := Lib.hid (show R = (if (getK Ac.name L k).isSome = true then (7, L) else if L.length = 12 then (5, L) else (0, insB ltA ⟨k, 0, 0, lim⟩ L)) by rw [HR.out, if_neg hn])
  have hnb : nameB k = true := by
   cases hb : nameB k with
   | true => rfl
   | false => exact absurd (.inl hb) hn
  have g1 : decide (lim < 0) = false := decide_eq_false (fun e => hn (.inr e))
  rw [hnb]
  have hA := Lib.hid (rat_c T g L k w1 h1 hL)
  have H1 := Lib.hid h1
  clear HR hn hnb
  rcases idxA_get (L := L) (k := k) with ⟨i1, i2⟩ | ⟨n, hn, i1, i2, i3⟩
  ·have HR2 := Lib.hid (show R = (if L.length = 12 then (5, L) else (0, insB ltA ⟨k, 0, 0, lim⟩ L)) by rw [HR1.out, i2, if_neg (by decide)])
   have g2 : decide ((0 : Int) ≤ idxA L k) = false := decide_eq_false (by omega)
   have Hno := Lib.hid (getK_none.1 i2)
   generalize idxA L k = ix at *
   clear HR1 i1 i2
   obtain ⟨A, c, hc, hs, hf⟩ := h1
   have c0 := cell_of_row _ g 0 _ _ (0, 0) hc
   simp only [List.getElem?_toArray, List.getElem?_cons_zero] at c0
   have Hc := Lib.hid hc
   have Hs := Lib.hid hs
   have hlc := hs.1
   clear hc hs
   go_wp2_with fail
   refine hA.out.mono ?_
   rintro e w2 ⟨rfl, rfl⟩
   clear hA
   by_cases h13 : L.length = 12
   ·have g3 : decide ((12 : Int) ≤ (L.length : Int)) = true := decide_eq_true (by omega)
    have HR3 := Lib.hid (show R = (5, L) by rw [HR2.out, if_pos h13])
    clear HR2
    go_wp2
    go_ret
    exact ⟨by rw [HR3.out]; rfl, by rw [HR3.out]; exact H1.out, grown_of_below HB1.out _⟩
   ·have g3 : decide ((12 : Int) ≤ (L.length : Int)) = false := decide_eq_false (by omega)
    have HR3 := Lib.hid (show R = (0, insB ltA ⟨k, 0, 0, lim⟩ L) by rw [HR2.out, if_neg h13])
    clear HR2 h13
    go_wp2_with fail
    go_loopw [7] (fun i wr => ∃ q : Nat, i = i64 q ∧ q ≤ L.length ∧ (∀ j (h : j < L.length), q ≤ j → bless k L[j].name = true) ∧ Below w1.heap.size w1 wr) (fun i _ => (intOf i).toNat)
    case atStart => exact ⟨L.length, rfl, Nat.le_refl _, fun j h1 h2 => by omega, Below.refl _ _⟩
    case round =>
     obtain ⟨q, rfl, hq, hup, hB⟩ := hrel
     have Hup := Lib.hid hup
     clear hup
     have c0r := (hB.cell (p := ⟨g, 0, none⟩) hlg1).trans c0
     rcases Nat.eq_zero_or_pos q with hq0 | hq0
     ·have g4 : decide ((0 : Int) < (q : Int)) = false := decide_eq_false (by omega)
      have g5 : decide (0 < q) = false := decide_eq_false (by omega)
      obtain ⟨wq, rfl⟩ : ∃ wq, wq = wr := ⟨_, rfl⟩
      rcases hf with ⟨rfl, rfl⟩ | ⟨b, o, rfl⟩
      ·have hL0 : L = [] := by
        rcases L with _ | ⟨a, r⟩
        ·rfl
        ·simp at hlc
       subst hL0
       subst hq0
       go_wp2_with fail
       have HI := Lib.hid (insB_at keyA.strict ⟨k, 0, 0, lim⟩ ([] : List Ac) 0 HS.out (by omega) (fun j h _ => absurd h (by simp)) (fun j h _ => absurd h (by simp)))
       have HBq := Lib.hid (below_on HB1.out (Nat.le_refl _) hB)
       have hcq := Lib.hid ((hB.block _ hlg1).trans Hc.out)
       have hlgq := Nat.lt_of_lt_of_le hlg1 hB.size
       have c0q := (hB.cell (p := ⟨g, 0, none⟩) hlg1).trans c0
       have hsq := Lib.hid (Hs.out.below_ hB)
       have hTk := Lib.hid (fun (V : World) (h : Below wq.heap.size wq V) => (show SlS V (Oth V (.slice none 0 0)) none 0 (([] : List Ac).take 0) from ((hsq.out.below_ h).take 0).keep (fun _ _ => rfl) (fun b hb => ⟨hb.1, by simp [Value.ownBlock]⟩)))
       have hDr := Lib.hid (fun (V : World) (h : Below wq.heap.size wq V) => (show Sl V wq.heap.size none (0 - 0) (([] : List Ac).drop 0) from ((hsq.out.mono (fun b hb => hb.1)).drop (by omega)).below h))
       have Hql := Lib.hid (show 0 = (([] : List Ac).take 0).length by rw [List.length_take]; omega)
       have q1 : ((0 : Nat) : Int) ≤ (0 : Int) := by omega
       have q2 : ((0 : Nat) : Int) ≤ (([] : List Ac).length : Int) := by omega
       have q3 : (([] : List Ac).length : Int) ≤ (0 : Int) := by omega
       have q0 : (0 : Int) ≤ ((0 : Nat) : Int) := by omega
       clear hB c0
       have hb : Below wq.heap.size wq wq.drew := (Below.refl _ _).drew
       refine wp_region_noPanic ?_
       refine wp_region_l 22 (fun V => V.cell? ⟨g, 0, none⟩ = some (.slice none 0 0)) (by kernel_rfl) ((hb.cell (p := ⟨g, 0, none⟩) hlgq).trans c0q) (fun hH => ?_)
       refine tkZ 0 ?_; refine tkZ 1 ?_; refine tkZ 2 ?_; refine tkZ 3 ?_; refine tkZ 4 ?_; refine tkZ 5 ?_; refine tkZ 6 ?_; refine tkZ 8 ?_; refine tkZ 9 ?_; refine tkZ 10 ?_; refine tkZ 13 ?_; refine tkZ 14 ?_; refine tkZ 15 ?_; refine tkZ 16 ?_; refine tkZ 17 ?_; refine tkZ 18 ?_
       refine wpAnyL_ready (rs := [7, 11]) (by kernel_rfl) (by simp) ?_
       refine AllReadyL.cons rfl (fun K hK => ?_) ?_
       ·skip
        rw [if_pos (by rfl)]
        refine oper_append (.const (.slice none 0 0)) (.tmp 53) 109 rfl (.agg #[.string ByteArray.empty, i64 0, i64 0, i64 0]) 40 Tryz.underlying109 acInfo rfl (by decide) (by decide) rfl (Own.nil_ _ wq.heap.size 140) none 0 0 (([] : List Ac).take 0) rfl Hql.out (hTk.out _ hb) (by simp <;> omega) hb.size ?_
        intro v1 u1 hO1 hg1 hat1
        rw [List.nil_append] at hO1
        have hF := (Own.nil_ (α := Ac) _ _ 140).below hg1 (Nat.le_refl _) (Nat.le_refl _)
        have hb := below_on hb (Nat.le_refl _) hF
        have HO1 := Lib.hid hO1
        clear hF hg1 hat1 hO1
        refine hK.out _ _ ((hb.cell (p := ⟨g, 0, none⟩) hlgq).trans c0q) (fun hH => ?_)
        clear hK K
        try simp only [Act.put, uA, uZ, uS, vA, vZ, vS]
        refine tkO 11 (fun K hK => ?_)
        go_simp
        have hgl : (u1.alloc (.cells #[.string k, i64 0, i64 0, i64 lim] 140)).heap[u1.heap.size]? = some (.cells #[.string k, i64 0, i64 0, i64 lim] 140 (0, 0)) := heap_alloc_new u1 _
        have hne1 := HO1.out.new_ne (Nat.le_refl u1.heap.size)
        have HO1 := Lib.hid (HO1.out.later ((Below.refl _ _).alloc (Nat.le_refl _) (.cells #[.string k, i64 0, i64 0, i64 lim] 140)))
        have hb := hb.alloc hb.size (.cells #[.string k, i64 0, i64 0, i64 lim] 140)
        refine hK.out _ _ ((hb.cell (p := ⟨g, 0, none⟩) hlgq).trans c0q) (fun hH => ?_)
        clear hK K
        try simp only [Act.put, uA, uZ, uS, vA, vZ, vS]
        refine tkO 12 (fun K hK => ?_)
        rw [if_pos (by rfl)]
        refine oper_append_one (.tmp 54) (.tmp 58) 109 rfl (.agg #[.string ByteArray.empty, i64 0, i64 0, i64 0]) 40 Tryz.underlying109 acInfo rfl (by decide) (by decide) rfl HO1.out u1.heap.size (⟨k, 0, 0, lim⟩ : Ac) (by rfl) _ 140 hgl rfl hne1 Hkl.out (by rw [← Hql.out]; omega) hb.size ?_
        intro v2 u2 hO2 hg2 hat2
        have hb := hb.trans (HO1.out.below hg2 (Nat.le_refl _) hb.size)
        have HO2 := Lib.hid hO2
        clear hg2 hat2 hO2 HO1 hgl hne1
        refine hK.out _ _ ((hb.cell (p := ⟨g, 0, none⟩) hlgq).trans c0q) (fun hH => ?_)
        clear hK K
        try simp only [Act.put, uA, uZ, uS, vA, vZ, vS]
        refine tkO 19 (fun K hK => ?_)
        rw [if_pos (by rfl)]
        refine oper_append (.tmp 59) (.tmp 65) 109 rfl (.agg #[.string ByteArray.empty, i64 0, i64 0, i64 0]) 40 Tryz.underlying109 acInfo rfl (by decide) (by decide) rfl HO2.out _ _ _ (([] : List Ac).drop 0) rfl (by simp) ((hDr.out _ hb).mono (HO2.out.oth (Nat.le_refl _) hb.size)) (by simp <;> omega) hb.size ?_
        intro v3 u3 hO3 hg3 hat3
        obtain ⟨A3, cap3, hv3, -⟩ := hO3.sl
        generalize List.length _ = n3 at hv3
        subst hv3
        have hb := hb.trans (HO2.out.below hg3 (Nat.le_refl _) hb.size)
        have HO3 := Lib.hid hO3
        clear hg3 hat3 hO3 HO2
        refine hK.out _ _ ((hb.cell (p := ⟨g, 0, none⟩) hlgq).trans c0q) (fun hH => ?_)
        clear hK K
        try simp only [Act.put, uA, uZ, uS, vA, vZ, vS]
        refine tkZ 20 ?_; refine tkZ 21 ?_
        refine tkL (fun K hK => ?_)
        have c3 := (hb.cell (p := ⟨g, 0, none⟩) hlgq).trans c0q
        have hg3 := Lib.hid ((hb.block _ hlgq).trans hcq.out)
        have f3 := frozen_of_row _ g 0 _ _ hg3.out
        go_simp
        refine hK.out _ _ ?_
        clear hK K
        try simp only [Act.put, uA, uZ, uS, vA, vZ, vS]
        refine tkD ?_
        have hD := rc_put HBq.out.size (HBq.out.trans (hb.mono HBq.out.size)) hlg HTn.out hg3.out HO3.out (ins_names Hs.out Hkl.out)
        have HD := Lib.hid hD
        clear hD
        go_wp2
        all_goals (go_ret; exact ⟨by rw [HR3.out]; rfl, by rw [HR3.out, HI.out, List.append_cons]; exact HD.out.1, HD.out.2⟩)
       refine AllReadyL.cons rfl (fun K hK => ?_) ?_
       ·skip
        go_simp
        obtain ⟨gl, hgl, hgl2⟩ : ∃ gl, gl = wq.heap.size ∧ (wq.drew.alloc (.cells #[.string k, i64 0, i64 0, i64 lim] 140)).heap[gl]? = some (.cells #[.string k, i64 0, i64 0, i64 lim] 140 (0, 0)) := ⟨_, rfl, heap_alloc_new wq.drew _⟩
        have Hgl := Lib.hid hgl
        clear hgl
        have hgl := hgl2
        clear hgl2
        have hb := hb.alloc hb.size (.cells #[.string k, i64 0, i64 0, i64 lim] 140)
        refine hK.out _ _ ((hb.cell (p := ⟨g, 0, none⟩) hlgq).trans c0q) (fun hH => ?_)
        clear hK K
        try simp only [Act.put, uA, uZ, uS, vA, vZ, vS]
        refine tkO 7 (fun K hK => ?_)
        rw [if_pos (by rfl)]
        refine oper_append (.const (.slice none 0 0)) (.tmp 53) 109 rfl (.agg #[.string ByteArray.empty, i64 0, i64 0, i64 0]) 40 Tryz.underlying109 acInfo rfl (by decide) (by decide) rfl (Own.nil_ _ wq.heap.size 140) none 0 0 (([] : List Ac).take 0) rfl Hql.out (hTk.out _ hb) (by simp <;> omega) hb.size ?_
        intro v1 u1 hO1 hg1 hat1
        rw [List.nil_append] at hO1
        have hF := (Own.nil_ (α := Ac) _ _ 140).below hg1 (Nat.le_refl _) (Nat.le_refl _)
        have hne1 : some gl ≠ v1.ownBlock := by
         rcases hat1 with h | h
         ·have h2 : v1.ownBlock = none := h
          rw [h2]; simp
         ·have h2 : v1.ownBlock = some (wq.heap.size + 1) := by rw [h]; simp
          rw [h2, Hgl.out]; intro e; injection e with e; omega
        have hgl := (hF.block _ (Array.getElem?_eq_some_iff.1 hgl).1).trans hgl
        have hb := below_on hb (Nat.le_refl _) hF
        have HO1 := Lib.hid hO1
        clear hF hg1 hat1 hO1
        refine hK.out _ _ ((hb.cell (p := ⟨g, 0, none⟩) hlgq).trans c0q) (fun hH => ?_)
        clear hK K
        try simp only [Act.put, uA, uZ, uS, vA, vZ, vS]
        refine tkO 12 (fun K hK => ?_)
        rw [if_pos (by rfl)]
        refine oper_append_one (.tmp 54) (.tmp 58) 109 rfl (.agg #[.string ByteArray.empty, i64 0, i64 0, i64 0]) 40 Tryz.underlying109 acInfo rfl (by decide) (by decide) rfl HO1.out gl (⟨k, 0, 0, lim⟩ : Ac) (by rw [Hgl.out]; rfl) _ 140 hgl rfl hne1 Hkl.out (by rw [← Hql.out]; omega) hb.size ?_
        intro v2 u2 hO2 hg2 hat2
        have hb := hb.trans (HO1.out.below hg2 (Nat.le_refl _) hb.size)
        have HO2 := Lib.hid hO2
        clear hg2 hat2 hO2 HO1 hgl hne1
        refine hK.out _ _ ((hb.cell (p := ⟨g, 0, none⟩) hlgq).trans c0q) (fun hH => ?_)
        clear hK K
        try simp only [Act.put, uA, uZ, uS, vA, vZ, vS]
        refine tkO 19 (fun K hK => ?_)
        rw [if_pos (by rfl)]
        refine oper_append (.tmp 59) (.tmp 65) 109 rfl (.agg #[.string ByteArray.empty, i64 0, i64 0, i64 0]) 40 Tryz.underlying109 acInfo rfl (by decide) (by decide) rfl HO2.out _ _ _ (([] : List Ac).drop 0) rfl (by simp) ((hDr.out _ hb).mono (HO2.out.oth (Nat.le_refl _) hb.size)) (by simp <;> omega) hb.size ?_
        intro v3 u3 hO3 hg3 hat3
        obtain ⟨A3, cap3, hv3, -⟩ := hO3.sl
        generalize List.length _ = n3 at hv3
        subst hv3
        have hb := hb.trans (HO2.out.below hg3 (Nat.le_refl _) hb.size)
        have HO3 := Lib.hid hO3
        clear hg3 hat3 hO3 HO2
        refine hK.out _ _ ((hb.cell (p := ⟨g, 0, none⟩) hlgq).trans c0q) (fun hH => ?_)
        clear hK K
        try simp only [Act.put, uA, uZ, uS, vA, vZ, vS]
        refine tkZ 20 ?_; refine tkZ 21 ?_
        refine tkL (fun K hK => ?_)
        have c3 := (hb.cell (p := ⟨g, 0, none⟩) hlgq).trans c0q
        have hg3 := Lib.hid ((hb.block _ hlgq).trans hcq.out)
        have f3 := frozen_of_row _ g 0 _ _ hg3.out
        go_simp
        refine hK.out _ _ ?_
        clear hK K
        try simp only [Act.put, uA, uZ, uS, vA, vZ, vS]
        refine tkD ?_
        have hD := rc_put HBq.out.size (HBq.out.trans (hb.mono HBq.out.size)) hlg HTn.out hg3.out HO3.out (ins_names Hs.out Hkl.out)
        have HD := Lib.hid hD
        clear hD
        go_wp2
        all_goals (go_ret; exact ⟨by rw [HR3.out]; rfl, by rw [HR3.out, HI.out, List.append_cons]; exact HD.out.1, HD.out.2⟩)
       exact AllReadyL.nil
      ·have Hq0 := Lib.hid hq0
       clear hq0
       go_wp2_with fail
       have HI := Lib.hid (insB_at keyA.strict ⟨k, 0, 0, lim⟩ L q HS.out (by omega) (fun j h hj => absurd hj (by have := Hq0.out; omega)) (fun j h hj => keyA.strict.asymm (show ltA ⟨k, 0, 0, lim⟩ L[j] = true from Hup.out j h hj)))
       have HBq := Lib.hid (below_on HB1.out (Nat.le_refl _) hB)
       have hcq := Lib.hid ((hB.block _ hlg1).trans Hc.out)
       have hlgq := Nat.lt_of_lt_of_le hlg1 hB.size
       have c0q := (hB.cell (p := ⟨g, 0, none⟩) hlg1).trans c0
       have hsq := Lib.hid (Hs.out.below_ hB)
       have hTk := Lib.hid (fun (V : World) (h : Below wq.heap.size wq V) => (show SlS V (Oth V (.slice none 0 0)) (some ⟨b, o, none⟩) c (L.take q) from ((hsq.out.below_ h).take q).keep (fun _ _ => rfl) (fun b hb => ⟨hb.1, by simp [Value.ownBlock]⟩)))
       have hDr := Lib.hid (fun (V : World) (h : Below wq.heap.size wq V) => (show Sl V wq.heap.size (if c = q then some ⟨b, o, none⟩ else some ⟨b, o + q * 4, none⟩) (c - q) (L.drop q) from by
          have := ((hsq.out.mono (fun b hb => hb.1)).drop (k := q) (by omega)).below h
          rwa [Option.map_some, show (⟨b, o, none⟩ : Addr).add (q * Enc.size Ac) = ⟨b, o + q * 4, none⟩ from add_none_ ..] at this))
       have Hql := Lib.hid (show q = (L.take q).length by rw [List.length_take]; omega)
       have q1 : ((q : Nat) : Int) ≤ (c : Int) := by omega
       have q2 : ((q : Nat) : Int) ≤ (@L.length : Int) := by omega
       have q3 : (@L.length : Int) ≤ (c : Int) := by omega
       have q0 : (0 : Int) ≤ ((q : Nat) : Int) := by omega
       clear hB c0
       have hb : Below wq.heap.size wq wq.drew := (Below.refl _ _).drew
       refine wp_region_noPanic ?_
       refine wp_region_l 22 (fun V => V.cell? ⟨g, 0, none⟩ = some (.slice (some ⟨b, o, none⟩) L.length c)) (by kernel_rfl) ((hb.cell (p := ⟨g, 0, none⟩) hlgq).trans c0q) (fun hH => ?_)
       refine tkZ 0 ?_; refine tkZ 1 ?_; refine tkZ 2 ?_; refine tkZ 3 ?_; refine tkZ 4 ?_; refine tkZ 5 ?_; refine tkZ 6 ?_; refine tkZ 8 ?_; refine tkZ 9 ?_; refine tkZ 10 ?_; refine tkZ 13 ?_; refine tkZ 14 ?_; refine tkZ 15 ?_; refine tkZ 16 ?_; refine tkZ 17 ?_; refine tkZ 18 ?_
       refine wpAnyL_ready (rs := [7, 11]) (by kernel_rfl) (by simp) ?_
       refine AllReadyL.cons rfl (fun K hK => ?_) ?_
       ·skip
        rw [if_pos (by rfl)]
        refine oper_append (.const (.slice none 0 0)) (.tmp 53) 109 rfl (.agg #[.string ByteArray.empty, i64 0, i64 0, i64 0]) 40 Tryz.underlying109 acInfo rfl (by decide) (by decide) rfl (Own.nil_ _ wq.heap.size 140) (some ⟨b, o, none⟩) q c (L.take q) rfl Hql.out (hTk.out _ hb) (by simp <;> omega) hb.size ?_
        intro v1 u1 hO1 hg1 hat1
        rw [List.nil_append] at hO1
        have hF := (Own.nil_ (α := Ac) _ _ 140).below hg1 (Nat.le_refl _) (Nat.le_refl _)
        have hb := below_on hb (Nat.le_refl _) hF
        have HO1 := Lib.hid hO1
        clear hF hg1 hat1 hO1
        refine hK.out _ _ ((hb.cell (p := ⟨g, 0, none⟩) hlgq).trans c0q) (fun hH => ?_)
        clear hK K
        try simp only [Act.put, uA, uZ, uS, vA, vZ, vS]
        refine tkO 11 (fun K hK => ?_)
        go_simp
        have hgl : (u1.alloc (.cells #[.string k, i64 0, i64 0, i64 lim] 140)).heap[u1.heap.size]? = some (.cells #[.string k, i64 0, i64 0, i64 lim] 140 (0, 0)) := heap_alloc_new u1 _
        have hne1 := HO1.out.new_ne (Nat.le_refl u1.heap.size)
        have HO1 := Lib.hid (HO1.out.later ((Below.refl _ _).alloc (Nat.le_refl _) (.cells #[.string k, i64 0, i64 0, i64 lim] 140)))
        have hb := hb.alloc hb.size (.cells #[.string k, i64 0, i64 0, i64 lim] 140)
        refine hK.out _ _ ((hb.cell (p := ⟨g, 0, none⟩) hlgq).trans c0q) (fun hH => ?_)
        clear hK K
        try simp only [Act.put, uA, uZ, uS, vA, vZ, vS]
        refine tkO 12 (fun K hK => ?_)
        rw [if_pos (by rfl)]
        refine oper_append_one (.tmp 54) (.tmp 58) 109 rfl (.agg #[.string ByteArray.empty, i64 0, i64 0, i64 0]) 40 Tryz.underlying109 acInfo rfl (by decide) (by decide) rfl HO1.out u1.heap.size (⟨k, 0, 0, lim⟩ : Ac) (by rfl) _ 140 hgl rfl hne1 Hkl.out (by rw [← Hql.out]; omega) hb.size ?_
        intro v2 u2 hO2 hg2 hat2
        have hb := hb.trans (HO1.out.below hg2 (Nat.le_refl _) hb.size)
        have HO2 := Lib.hid hO2
        clear hg2 hat2 hO2 HO1 hgl hne1
        refine hK.out _ _ ((hb.cell (p := ⟨g, 0, none⟩) hlgq).trans c0q) (fun hH => ?_)
        clear hK K
        try simp only [Act.put, uA, uZ, uS, vA, vZ, vS]
        refine tkO 19 (fun K hK => ?_)
        rw [if_pos (by rfl)]
        refine oper_append (.tmp 59) (.tmp 65) 109 rfl (.agg #[.string ByteArray.empty, i64 0, i64 0, i64 0]) 40 Tryz.underlying109 acInfo rfl (by decide) (by decide) rfl HO2.out _ _ _ (L.drop q) rfl (by simp) ((hDr.out _ hb).mono (HO2.out.oth (Nat.le_refl _) hb.size)) (by simp <;> omega) hb.size ?_
        intro v3 u3 hO3 hg3 hat3
        obtain ⟨A3, cap3, hv3, -⟩ := hO3.sl
        generalize List.length _ = n3 at hv3
        subst hv3
        have hb := hb.trans (HO2.out.below hg3 (Nat.le_refl _) hb.size)
        have HO3 := Lib.hid hO3
        clear hg3 hat3 hO3 HO2
        refine hK.out _ _ ((hb.cell (p := ⟨g, 0, none⟩) hlgq).trans c0q) (fun hH => ?_)
        clear hK K
        try simp only [Act.put, uA, uZ, uS, vA, vZ, vS]
        refine tkZ 20 ?_; refine tkZ 21 ?_
        refine tkL (fun K hK => ?_)
        have c3 := (hb.cell (p := ⟨g, 0, none⟩) hlgq).trans c0q
        have hg3 := Lib.hid ((hb.block _ hlgq).trans hcq.out)
        have f3 := frozen_of_row _ g 0 _ _ hg3.out
        go_simp
        refine hK.out _ _ ?_
        clear hK K
        try simp only [Act.put, uA, uZ, uS, vA, vZ, vS]
        refine tkD ?_
        have hD := rc_put HBq.out.size (HBq.out.trans (hb.mono HBq.out.size)) hlg HTn.out hg3.out HO3.out (ins_names Hs.out Hkl.out)
        have HD := Lib.hid hD
        clear hD
        go_wp2
        all_goals (go_ret; exact ⟨by rw [HR3.out]; rfl, by rw [HR3.out, HI.out, List.append_cons]; exact HD.out.1, HD.out.2⟩)
       refine AllReadyL.cons rfl (fun K hK => ?_) ?_
       ·skip
        go_simp
        obtain ⟨gl, hgl, hgl2⟩ : ∃ gl, gl = wq.heap.size ∧ (wq.drew.alloc (.cells #[.string k, i64 0, i64 0, i64 lim] 140)).heap[gl]? = some (.cells #[.string k, i64 0, i64 0, i64 lim] 140 (0, 0)) := ⟨_, rfl, heap_alloc_new wq.drew _⟩
        have Hgl := Lib.hid hgl
        clear hgl
        have hgl := hgl2
        clear hgl2
        have hb := hb.alloc hb.size (.cells #[.string k, i64 0, i64 0, i64 lim] 140)
        refine hK.out _ _ ((hb.cell (p := ⟨g, 0, none⟩) hlgq).trans c0q) (fun hH => ?_)
        clear hK K
        try simp only [Act.put, uA, uZ, uS, vA, vZ, vS]
        refine tkO 7 (fun K hK => ?_)
        rw [if_pos (by rfl)]
        refine oper_append (.const (.slice none 0 0)) (.tmp 53) 109 rfl (.agg #[.string ByteArray.empty, i64 0, i64 0, i64 0]) 40 Tryz.underlying109 acInfo rfl (by decide) (by decide) rfl (Own.nil_ _ wq.heap.size 140) (some ⟨b, o, none⟩) q c (L.take q) rfl Hql.out (hTk.out _ hb) (by simp <;> omega) hb.size ?_
        intro v1 u1 hO1 hg1 hat1
        rw [List.nil_append] at hO1
        have hF := (Own.nil_ (α := Ac) _ _ 140).below hg1 (Nat.le_refl _) (Nat.le_refl _)
        have hne1 : some gl ≠ v1.ownBlock := by
         rcases hat1 with h | h
         ·have h2 : v1.ownBlock = none := h
          rw [h2]; simp
         ·have h2 : v1.ownBlock = some (wq.heap.size + 1) := by rw [h]; simp
          rw [h2, Hgl.out]; intro e; injection e with e; omega
        have hgl := (hF.block _ (Array.getElem?_eq_some_iff.1 hgl).1).trans hgl
        have hb := below_on hb (Nat.le_refl _) hF
        have HO1 := Lib.hid hO1
        clear hF hg1 hat1 hO1
        refine hK.out _ _ ((hb.cell (p := ⟨g, 0, none⟩) hlgq).trans c0q) (fun hH => ?_)
        clear hK K
        try simp only [Act.put, uA, uZ, uS, vA, vZ, vS]
        refine tkO 12 (fun K hK => ?_)
        rw [if_pos (by rfl)]
        refine oper_append_one (.tmp 54) (.tmp 58) 109 rfl (.agg #[.string ByteArray.empty, i64 0, i64 0, i64 0]) 40 Tryz.underlying109 acInfo rfl (by decide) (by decide) rfl HO1.out gl (⟨k, 0, 0, lim⟩ : Ac) (by rw [Hgl.out]; rfl) _ 140 hgl rfl hne1 Hkl.out (by rw [← Hql.out]; omega) hb.size ?_
        intro v2 u2 hO2 hg2 hat2
        have hb := hb.trans (HO1.out.below hg2 (Nat.le_refl _) hb.size)
        have HO2 := Lib.hid hO2
        clear hg2 hat2 hO2 HO1 hgl hne1
        refine hK.out _ _ ((hb.cell (p := ⟨g, 0, none⟩) hlgq).trans c0q) (fun hH => ?_)
        clear hK K
        try simp only [Act.put, uA, uZ, uS, vA, vZ, vS]
        refine tkO 19 (fun K hK => ?_)
        rw [if_pos (by rfl)]
        refine oper_append (.tmp 59) (.tmp 65) 109 rfl (.agg #[.string ByteArray.empty, i64 0, i64 0, i64 0]) 40 Tryz.underlying109 acInfo rfl (by decide) (by decide) rfl HO2.out _ _ _ (L.drop q) rfl (by simp) ((hDr.out _ hb).mono (HO2.out.oth (Nat.le_refl _) hb.size)) (by simp <;> omega) hb.size ?_
        intro v3 u3 hO3 hg3 hat3
        obtain ⟨A3, cap3, hv3, -⟩ := hO3.sl
        generalize List.length _ = n3 at hv3
        subst hv3
        have hb := hb.trans (HO2.out.below hg3 (Nat.le_refl _) hb.size)
        have HO3 := Lib.hid hO3
        clear hg3 hat3 hO3 HO2
        refine hK.out _ _ ((hb.cell (p := ⟨g, 0, none⟩) hlgq).trans c0q) (fun hH => ?_)
        clear hK K
        try simp only [Act.put, uA, uZ, uS, vA, vZ, vS]
        refine tkZ 20 ?_; refine tkZ 21 ?_
        refine tkL (fun K hK => ?_)
        have c3 := (hb.cell (p := ⟨g, 0, none⟩) hlgq).trans c0q
        have hg3 := Lib.hid ((hb.block _ hlgq).trans hcq.out)
        have f3 := frozen_of_row _ g 0 _ _ hg3.out
        go_simp
        refine hK.out _ _ ?_
        clear hK K
        try simp only [Act.put, uA, uZ, uS, vA, vZ, vS]
        refine tkD ?_
        have hD := rc_put HBq.out.size (HBq.out.trans (hb.mono HBq.out.size)) hlg HTn.out hg3.out HO3.out (ins_names Hs.out Hkl.out)
        have HD := Lib.hid hD
        clear hD
        go_wp2
        all_goals (go_ret; exact ⟨by rw [HR3.out]; rfl, by rw [HR3.out, HI.out, List.append_cons]; exact HD.out.1, HD.out.2⟩)
       exact AllReadyL.nil
     ·have g4 : decide ((0 : Int) < (q : Int)) = true := decide_eq_true (by omega)
      have hq1 : q - 1 < L.length := by omega
      obtain ⟨b, o, rfl, hb, hsz, d0, _⟩ := (Hs.out.below_ hB).ac hq1
      have hRa := Lib.hid fun W => rahead_c k L[q - 1].name Hkl.out hsz W
      have e1 : IntKind.i64.wrap ((q : Int) - 1) = ((q - 1 : Nat) : Int) := by rw [IntKind.wrap_i64]; omega
      have i0 : (0 : Int) ≤ ((q - 1 : Nat) : Int) := by omega
      have i1 : ((q - 1 : Nat) : Int) < (L.length : Int) := by omega
      clear hsz hf
      go_wp2_with fail
      refine (hRa.out _).mono ?_
      rintro e wq ⟨rfl, hF⟩
      have hB := below_on hB (Nat.le_refl _) hF
      clear hF hRa d0 hb c0r
      cases hbl : bless k L[q - 1].name with
      | true =>
       have Hbl := Lib.hid hbl
       clear hbl
       go_wp2
       go_roundw
       case rel => exact ⟨q - 1, by go_num, by omega, fun j h1 h2 => by
         rcases Nat.eq_or_lt_of_le h2 with rfl | h2
         ·exact Hbl.out
         ·exact Hup.out j h1 (by omega), hB⟩
       case measure => simp [intOf]; omega
      | false =>
       have Hbl := Lib.hid hbl
       clear hbl e1 i0 i1
       go_wp2_with fail
       have HI := Lib.hid (insB_at keyA.strict ⟨k, 0, 0, lim⟩ L q HS.out (by omega) (ins_lo HS.out hq1 Hbl.out Hno.out) (fun j h hj => keyA.strict.asymm (show ltA ⟨k, 0, 0, lim⟩ L[j] = true from Hup.out j h hj)))
       have HBq := Lib.hid (below_on HB1.out (Nat.le_refl _) hB)
       have hcq := Lib.hid ((hB.block _ hlg1).trans Hc.out)
       have hlgq := Nat.lt_of_lt_of_le hlg1 hB.size
       have c0q := (hB.cell (p := ⟨g, 0, none⟩) hlg1).trans c0
       have hsq := Lib.hid (Hs.out.below_ hB)
       have hTk := Lib.hid (fun (V : World) (h : Below wq.heap.size wq V) => (show SlS V (Oth V (.slice none 0 0)) (some ⟨b, o, none⟩) c (L.take q) from ((hsq.out.below_ h).take q).keep (fun _ _ => rfl) (fun b hb => ⟨hb.1, by simp [Value.ownBlock]⟩)))
       have hDr := Lib.hid (fun (V : World) (h : Below wq.heap.size wq V) => (show Sl V wq.heap.size (if c = q then some ⟨b, o, none⟩ else some ⟨b, o + q * 4, none⟩) (c - q) (L.drop q) from by
          have := ((hsq.out.mono (fun b hb => hb.1)).drop (k := q) (by omega)).below h
          rwa [Option.map_some, show (⟨b, o, none⟩ : Addr).add (q * Enc.size Ac) = ⟨b, o + q * 4, none⟩ from add_none_ ..] at this))
       have Hql := Lib.hid (show q = (L.take q).length by rw [List.length_take]; omega)
       have q1 : ((q : Nat) : Int) ≤ (c : Int) := by omega
       have q2 : ((q : Nat) : Int) ≤ (@L.length : Int) := by omega
       have q3 : (@L.length : Int) ≤ (c : Int) := by omega
       have q0 : (0 : Int) ≤ ((q : Nat) : Int) := by omega
       clear hB c0
       have hb : Below wq.heap.size wq wq.drew := (Below.refl _ _).drew
       refine wp_region_noPanic ?_
       refine wp_region_l 22 (fun V => V.cell? ⟨g, 0, none⟩ = some (.slice (some ⟨b, o, none⟩) L.length c)) (by kernel_rfl) ((hb.cell (p := ⟨g, 0, none⟩) hlgq).trans c0q) (fun hH => ?_)
       refine tkZ 0 ?_; refine tkZ 1 ?_; refine tkZ 2 ?_; refine tkZ 3 ?_; refine tkZ 4 ?_; refine tkZ 5 ?_; refine tkZ 6 ?_; refine tkZ 8 ?_; refine tkZ 9 ?_; refine tkZ 10 ?_; refine tkZ 13 ?_; refine tkZ 14 ?_; refine tkZ 15 ?_; refine tkZ 16 ?_; refine tkZ 17 ?_; refine tkZ 18 ?_
       refine wpAnyL_ready (rs := [7, 11]) (by kernel_rfl) (by simp) ?_
       refine AllReadyL.cons rfl (fun K hK => ?_) ?_
       ·skip
        rw [if_pos (by rfl)]
        refine oper_append (.const (.slice none 0 0)) (.tmp 53) 109 rfl (.agg #[.string ByteArray.empty, i64 0, i64 0, i64 0]) 40 Tryz.underlying109 acInfo rfl (by decide) (by decide) rfl (Own.nil_ _ wq.heap.size 140) (some ⟨b, o, none⟩) q c (L.take q) rfl Hql.out (hTk.out _ hb) (by simp <;> omega) hb.size ?_
        intro v1 u1 hO1 hg1 hat1
        rw [List.nil_append] at hO1
        have hF := (Own.nil_ (α := Ac) _ _ 140).below hg1 (Nat.le_refl _) (Nat.le_refl _)
        have hb := below_on hb (Nat.le_refl _) hF
        have HO1 := Lib.hid hO1
        clear hF hg1 hat1 hO1
        refine hK.out _ _ ((hb.cell (p := ⟨g, 0, none⟩) hlgq).trans c0q) (fun hH => ?_)
        clear hK K
        try simp only [Act.put, uA, uZ, uS, vA, vZ, vS]
        refine tkO 11 (fun K hK => ?_)
        go_simp
        have hgl : (u1.alloc (.cells #[.string k, i64 0, i64 0, i64 lim] 140)).heap[u1.heap.size]? = some (.cells #[.string k, i64 0, i64 0, i64 lim] 140 (0, 0)) := heap_alloc_new u1 _
        have hne1 := HO1.out.new_ne (Nat.le_refl u1.heap.size)
        have HO1 := Lib.hid (HO1.out.later ((Below.refl _ _).alloc (Nat.le_refl _) (.cells #[.string k, i64 0, i64 0, i64 lim] 140)))
        have hb := hb.alloc hb.size (.cells #[.string k, i64 0, i64 0, i64 lim] 140)
        refine hK.out _ _ ((hb.cell (p := ⟨g, 0, none⟩) hlgq).trans c0q) (fun hH => ?_)
        clear hK K
        try simp only [Act.put, uA, uZ, uS, vA, vZ, vS]
        refine tkO 12 (fun K hK => ?_)
        rw [if_pos (by rfl)]
        refine oper_append_one (.tmp 54) (.tmp 58) 109 rfl (.agg #[.string ByteArray.empty, i64 0, i64 0, i64 0]) 40 Tryz.underlying109 acInfo rfl (by decide) (by decide) rfl HO1.out u1.heap.size (⟨k, 0, 0, lim⟩ : Ac) (by rfl) _ 140 hgl rfl hne1 Hkl.out (by rw [← Hql.out]; omega) hb.size ?_
        intro v2 u2 hO2 hg2 hat2
        have hb := hb.trans (HO1.out.below hg2 (Nat.le_refl _) hb.size)
        have HO2 := Lib.hid hO2
        clear hg2 hat2 hO2 HO1 hgl hne1
        refine hK.out _ _ ((hb.cell (p := ⟨g, 0, none⟩) hlgq).trans c0q) (fun hH => ?_)
        clear hK K
        try simp only [Act.put, uA, uZ, uS, vA, vZ, vS]
        refine tkO 19 (fun K hK => ?_)
        rw [if_pos (by rfl)]
        refine oper_append (.tmp 59) (.tmp 65) 109 rfl (.agg #[.string ByteArray.empty, i64 0, i64 0, i64 0]) 40 Tryz.underlying109 acInfo rfl (by decide) (by decide) rfl HO2.out _ _ _ (L.drop q) rfl (by simp) ((hDr.out _ hb).mono (HO2.out.oth (Nat.le_refl _) hb.size)) (by simp <;> omega) hb.size ?_
        intro v3 u3 hO3 hg3 hat3
        obtain ⟨A3, cap3, hv3, -⟩ := hO3.sl
        generalize List.length _ = n3 at hv3
        subst hv3
        have hb := hb.trans (HO2.out.below hg3 (Nat.le_refl _) hb.size)
        have HO3 := Lib.hid hO3
        clear hg3 hat3 hO3 HO2
        refine hK.out _ _ ((hb.cell (p := ⟨g, 0, none⟩) hlgq).trans c0q) (fun hH => ?_)
        clear hK K
        try simp only [Act.put, uA, uZ, uS, vA, vZ, vS]
        refine tkZ 20 ?_; refine tkZ 21 ?_
        refine tkL (fun K hK => ?_)
        have c3 := (hb.cell (p := ⟨g, 0, none⟩) hlgq).trans c0q
        have hg3 := Lib.hid ((hb.block _ hlgq).trans hcq.out)
        have f3 := frozen_of_row _ g 0 _ _ hg3.out
        go_simp
        refine hK.out _ _ ?_
        clear hK K
        try simp only [Act.put, uA, uZ, uS, vA, vZ, vS]
        refine tkD ?_
        have hD := rc_put HBq.out.size (HBq.out.trans (hb.mono HBq.out.size)) hlg HTn.out hg3.out HO3.out (ins_names Hs.out Hkl.out)
        have HD := Lib.hid hD
        clear hD
        go_wp2
        all_goals (go_ret; exact ⟨by rw [HR3.out]; rfl, by rw [HR3.out, HI.out, List.append_cons]; exact HD.out.1, HD.out.2⟩)
       refine AllReadyL.cons rfl (fun K hK => ?_) ?_
       ·skip
        go_simp
        obtain ⟨gl, hgl, hgl2⟩ : ∃ gl, gl = wq.heap.size ∧ (wq.drew.alloc (.cells #[.string k, i64 0, i64 0, i64 lim] 140)).heap[gl]? = some (.cells #[.string k, i64 0, i64 0, i64 lim] 140 (0, 0)) := ⟨_, rfl, heap_alloc_new wq.drew _⟩
        have Hgl := Lib.hid hgl
        clear hgl
        have hgl := hgl2
        clear hgl2
        have hb := hb.alloc hb.size (.cells #[.string k, i64 0, i64 0, i64 lim] 140)
        refine hK.out _ _ ((hb.cell (p := ⟨g, 0, none⟩) hlgq).trans c0q) (fun hH => ?_)
        clear hK K
        try simp only [Act.put, uA, uZ, uS, vA, vZ, vS]
        refine tkO 7 (fun K hK => ?_)
        rw [if_pos (by rfl)]
        refine oper_append (.const (.slice none 0 0)) (.tmp 53) 109 rfl (.agg #[.string ByteArray.empty, i64 0, i64 0, i64 0]) 40 Tryz.underlying109 acInfo rfl (by decide) (by decide) rfl (Own.nil_ _ wq.heap.size 140) (some ⟨b, o, none⟩) q c (L.take q) rfl Hql.out (hTk.out _ hb) (by simp <;> omega) hb.size ?_
        intro v1 u1 hO1 hg1 hat1
        rw [List.nil_append] at hO1
        have hF := (Own.nil_ (α := Ac) _ _ 140).below hg1 (Nat.le_refl _) (Nat.le_refl _)
        have hne1 : some gl ≠ v1.ownBlock := by
         rcases hat1 with h | h
         ·have h2 : v1.ownBlock = none := h
          rw [h2]; simp
         ·have h2 : v1.ownBlock = some (wq.heap.size + 1) := by rw [h]; simp
          rw [h2, Hgl.out]; intro e; injection e with e; omega
        have hgl := (hF.block _ (Array.getElem?_eq_some_iff.1 hgl).1).trans hgl
        have hb := below_on hb (Nat.le_refl _) hF
        have HO1 := Lib.hid hO1
        clear hF hg1 hat1 hO1
        refine hK.out _ _ ((hb.cell (p := ⟨g, 0, none⟩) hlgq).trans c0q) (fun hH => ?_)
        clear hK K
        try simp only [Act.put, uA, uZ, uS, vA, vZ, vS]
        refine tkO 12 (fun K hK => ?_)
        rw [if_pos (by rfl)]
        refine oper_append_one (.tmp 54) (.tmp 58) 109 rfl (.agg #[.string ByteArray.empty, i64 0, i64 0, i64 0]) 40 Tryz.underlying109 acInfo rfl (by decide) (by decide) rfl HO1.out gl (⟨k, 0, 0, lim⟩ : Ac) (by rw [Hgl.out]; rfl) _ 140 hgl rfl hne1 Hkl.out (by rw [← Hql.out]; omega) hb.size ?_
        intro v2 u2 hO2 hg2 hat2
        have hb := hb.trans (HO1.out.below hg2 (Nat.le_refl _) hb.size)
        have HO2 := Lib.hid hO2
        clear hg2 hat2 hO2 HO1 hgl hne1
        refine hK.out _ _ ((hb.cell (p := ⟨g, 0, none⟩) hlgq).trans c0q) (fun hH => ?_)
        clear hK K
        try simp only [Act.put, uA, uZ, uS, vA, vZ, vS]
        refine tkO 19 (fun K hK => ?_)
        rw [if_pos (by rfl)]
        refine oper_append (.tmp 59) (.tmp 65) 109 rfl (.agg #[.string ByteArray.empty, i64 0, i64 0, i64 0]) 40 Tryz.underlying109 acInfo rfl (by decide) (by decide) rfl HO2.out _ _ _ (L.drop q) rfl (by simp) ((hDr.out _ hb).mono (HO2.out.oth (Nat.le_refl _) hb.size)) (by simp <;> omega) hb.size ?_
        intro v3 u3 hO3 hg3 hat3
        obtain ⟨A3, cap3, hv3, -⟩ := hO3.sl
        generalize List.length _ = n3 at hv3
        subst hv3
        have hb := hb.trans (HO2.out.below hg3 (Nat.le_refl _) hb.size)
        have HO3 := Lib.hid hO3
        clear hg3 hat3 hO3 HO2
        refine hK.out _ _ ((hb.cell (p := ⟨g, 0, none⟩) hlgq).trans c0q) (fun hH => ?_)
        clear hK K
        try simp only [Act.put, uA, uZ, uS, vA, vZ, vS]
        refine tkZ 20 ?_; refine tkZ 21 ?_
        refine tkL (fun K hK => ?_)
        have c3 := (hb.cell (p := ⟨g, 0, none⟩) hlgq).trans c0q
        have hg3 := Lib.hid ((hb.block _ hlgq).trans hcq.out)
        have f3 := frozen_of_row _ g 0 _ _ hg3.out
        go_simp
        refine hK.out _ _ ?_
        clear hK K
        try simp only [Act.put, uA, uZ, uS, vA, vZ, vS]
        refine tkD ?_
        have hD := rc_put HBq.out.size (HBq.out.trans (hb.mono HBq.out.size)) hlg HTn.out hg3.out HO3.out (ins_names Hs.out Hkl.out)
        have HD := Lib.hid hD
        clear hD
        go_wp2
        all_goals (go_ret; exact ⟨by rw [HR3.out]; rfl, by rw [HR3.out, HI.out, List.append_cons]; exact HD.out.1, HD.out.2⟩)
       exact AllReadyL.nil
  ·have HR2 := Lib.hid (show R = (7, L) by rw [HR1.out, i2]; rfl)
   have g2 : decide ((0 : Int) ≤ idxA L k) = true := decide_eq_true (by omega)
   generalize idxA L k = ix at *
   clear HR1 i2 i3
   go_wp2_with fail
   refine hA.out.mono ?_
   rintro e w2 ⟨rfl, rfl⟩
   go_wp2
   go_ret
   exact ⟨by rw [HR2.out]; rfl, by rw [HR2.out]; exact H1.out, grown_of_below HB1.out _⟩
end Go.Proofs.YtampniiehgimhaaGreat
