/- Texts of this claim, laid together: Rf08T, HdoesR, RegM. -/
import Derived.Test.YtmljlkjomjflpaaGreatRows
import Derived.Test.YtmljlkjomjflpaaGreatHp17
import Derived.Test.YtmljlkjomjflpaaGreatHp20
import Derived.Test.YtmljlkjomjflpaaGreatHp15
import Derived.WalkKit
import Derived.WalkSpells
import Derived.WalkLawsBesides
import Derived.Deep.QuietTactic
import Derived.BigQuiet
import Derived.Laws.StructEq
import Derived.Deep.DeepFit
import Derived.StillTailTactics
import Derived.Test.YtmljlkjomjflpaaGreatHp18
import Derived.Test.YtmljlkjomjflpaaGreatHp16
import Derived.Test.YtmljlkjomjflpaaGreatHp7

/- ref08.Take -/
namespace Go.Proofs.YtmljlkjomjflpaaGreat
open Go.RowKit
theorem takeR_ok {L : List Ac} {H : List Held} {k p : ByteArray} {n s : Int} {y : Held} (hg : getK Held.key H ⟨k, n⟩ = some y) (h1 : ¬ (s < 1 ∨ y.sum < s)) (h2 : (turnL (asiD (-y.sum)) L k (-y.sum)).1 = 0) (h3 : (makeL (turnL (asiD (-y.sum)) L k (-y.sum)).2 (legs2 k p s)).1 = 0) :
    takeH L H k n p s = (0, (makeL (turnL (asiD (-y.sum)) L k (-y.sum)).2 (legs2 k p s)).2, delK Held.key H ⟨k, n⟩) := by
  unfold takeH
  rw [hg]
  dsimp only
  have hc : checkL (turnL (asiD (-y.sum)) L k (-y.sum)).2 (legs2 k p s) = 0 := by
    apply Classical.byContradiction
    intro e
    unfold makeL at h3
    rw [if_pos e] at h3
    exact e h3
  have hf : freeHL L H k n = (0, (turnL (asiD (-y.sum)) L k (-y.sum)).2, delK Held.key H ⟨k, n⟩) := freeHL_of hg (fun e => e h2)
  rw [if_neg h1, if_neg (fun e => e h2), if_neg (fun e => e hc), hf]
  show ((makeL (turnL (asiD (-y.sum)) L k (-y.sum)).2 (legs2 k p s)).1, _, _) = _
  rw [h3]
theorem takeR_no {L : List Ac} {H : List Held} {k p : ByteArray} {n s : Int} {y : Held} (hg : getK Held.key H ⟨k, n⟩ = some y) (h1 : ¬ (s < 1 ∨ y.sum < s)) (h2 : (turnL (asiD (-y.sum)) L k (-y.sum)).1 = 0) (h3 : (makeL (turnL (asiD (-y.sum)) L k (-y.sum)).2 (legs2 k p s)).1 ≠ 0) :
    takeH L H k n p s = ((makeL (turnL (asiD (-y.sum)) L k (-y.sum)).2 (legs2 k p s)).1, L, H) := by
  unfold takeH
  rw [hg]
  dsimp only
  rw [if_neg h1, if_neg (fun e => e h2)]
  by_cases hc : checkL (turnL (asiD (-y.sum)) L k (-y.sum)).2 (legs2 k p s) = 0
  · exact absurd (by rw [(allL_of_check hc).1]; exact (allL_of_check hc).2) h3
  · rw [if_pos hc]
    unfold makeL
    rw [if_pos hc]
/-- one chart's accounts, in another chart -/
theorem rc_give {w : World} {T : Nat → Prop} {d gc : Nat} {L : List Ac} {V0 : Value} (h : RcIs w (fun k => T k ∧ k ≠ d) d L) (hg : w.heap[gc]? = some (.cells #[V0] 49 (0, 0))) (hT : ¬ T gc) :
    ∃ A c, w.cell? ⟨d, 0, none⟩ = some (.slice A L.length c) ∧ RcIs (w.setCell ⟨gc, 0, none⟩ (.slice A L.length c)) T gc L := by
  obtain ⟨A, c, hc, hs, hf⟩ := h
  have c0 := cell_of_row _ d 0 _ _ (0, 0) hc
  simp only [List.getElem?_toArray, List.getElem?_cons_zero] at c0
  have hgr := grown_setCell (World.grownBy.refl w (some gc)) (p := ⟨gc, 0, none⟩) (.inl rfl) (.slice A L.length c)
  exact ⟨A, c, c0, A, c, heap_setCell_same w gc 0 _ _ _ hg, hs.keep (fun p hp => World.cell?_of_block (hgr.block _ hp.1 (fun e => hT (by injection e with e; rw [← e]; exact hp.2.1)))) (fun k hk => ⟨Nat.lt_of_lt_of_le hk.1 hgr.size, hk.2.1⟩), hf⟩
set_option maxRecDepth 100000 in
set_option maxHeartbeats 8000000 in
theorem rhtake_c (T : Nat → Prop) (g gc : Nat) (H : List Held) (L : List Ac) (k : ByteArray) (n : Int) (p : ByteArray) (s : Int) (w : World) (h : RhIs w T g H) (hc : RcIs w T gc L) (hL : OkA L) (hS : SrtL ltA L) (hl : L.length ≤ 65536) (hH : OkH H) (hSH : SrtL ltH H) (hn : H.length ≤ 65536) (hsr : R64 s) (hk : k.size ≤ maxLen) (hp : p.size ≤ maxLen) (hTn : ∀ k, w.heap.size ≤ k → T k) (hTg : ¬ T g) (hTc : ¬ T gc) :
    Calls Tryz.prog 59 #[.pointer (some ⟨g, 0, none⟩), .pointer (some ⟨gc, 0, none⟩), .string k, i64 n, .string p, i64 s] w fun e w' => e = .returned (i64 (takeH L H k n p s).1) ∧ RcIs w' T gc (takeH L H k n p s).2.1 ∧ RhIs w' T g (takeH L H k n p s).2.2 ∧ Gr w w' (GH g gc) := by
  have hne := h.ne hc
  have H1 := Lib.hid h
  have HC1 := Lib.hid hc
  have hA := Lib.hid (rhat_c T g H k n w h hn)
  have HTn := Lib.hid hTn
  have HTg := Lib.hid hTg
  have HTc := Lib.hid hTc
  have HH := Lib.hid hH
  have HSH := Lib.hid hSH
  have HL := Lib.hid hL
  have HS := Lib.hid hS
  have Hk := Lib.hid hk
  have Hp := Lib.hid hp
  obtain ⟨R, hR⟩ : ∃ R, takeH L H k n p s = R := ⟨_, rfl⟩
  rw [hR]
  have hlg := h.lt
  have hlc := hc.lt
  obtain ⟨A, c, hcell, hs, hf⟩ := h
  have c0 := cell_of_row _ g 0 _ _ (0, 0) hcell
  simp only [List.getElem?_toArray, List.getElem?_cons_zero] at c0
  clear hcell hf hL hS hH hSH hTn hTg hTc hk hp
  rcases idxH_get (H := H) (k := k) (n := n) with ⟨h1, h2⟩ | ⟨i, hi, h1, h2, h3⟩
  · have HR2 := Lib.hid (show R = (6, L, H) by rw [← hR]; unfold takeH; rw [h2])
    clear h2 hR hs hc
    generalize idxH H k n = ix at *
    have g1 : decide (ix < 0) = true := decide_eq_true h1
    go_enter Tryz.func59, Tryz.ntmps59
    go_wp2_with fail
    refine hA.out.mono ?_
    rintro e w1 ⟨rfl, rfl⟩
    go_wp2
    go_ret
    exact ⟨by rw [HR2.out]; rfl, by rw [HR2.out]; exact HC1.out, by rw [HR2.out]; exact H1.out, Gr.refl _ _⟩
  · obtain ⟨b, o, rfl, hb, _, d0, d1, d2⟩ := hs.held hi
    have hlc2 : H.length ≤ c := hs.1
    have g1 : decide ((i : Int) < 0) = false := decide_eq_false (by omega)
    have i0 : (0 : Int) ≤ (i : Int) := by omega
    have i1 : (i : Int) < (H.length : Int) := by omega
    have hx := HH.out H[i] (List.getElem_mem hi)
    have hr : R64 (-H[i].sum) := by unfold R64; omega
    have hxs := hx.2.2
    have Hok := Lib.hid (@takeR_ok L H k p n s H[i] h2)
    have Hno := Lib.hid (@takeR_no L H k p n s H[i] h2)
    have HT0 := Lib.hid (show s < 1 ∨ H[i].sum < s → takeH L H k n p s = (13, L, H) from fun e => by unfold takeH; rw [h2]; dsimp only; rw [if_pos e])
    have HT1 := Lib.hid (show ¬ (s < 1 ∨ H[i].sum < s) → (turnL (asiD (-H[i].sum)) L k (-H[i].sum)).1 ≠ 0 → takeH L H k n p s = ((turnL (asiD (-H[i].sum)) L k (-H[i].sum)).1, L, H) from fun e1 e2 => by unfold takeH; rw [h2]; dsimp only; rw [if_neg e1, if_pos e2])
    rw [hR] at Hok Hno HT0 HT1
    have HD := Lib.hid (show delK Held.key H ⟨k, n⟩ = H.take i ++ H.drop (i + 1) by rw [← h3]; exact delK_at keyH HSH.out hi)
    have HAs := Lib.hid (fun (d : Nat) (W : World) (hW : RcIs W (fun k => T k ∧ k ≠ d) d L) (hn : ∀ k, W.heap.size ≤ k → T k ∧ k ≠ d) => raside_c (fun k => T k ∧ k ≠ d) d L k (-H[i].sum) W hW hl HL.out HS.out hr hn (fun e => e.2 rfl))
    have Hok2 := Lib.hid (turnL_ok (asiD_ok (-H[i].sum)) HL.out k (-H[i].sum))
    have Hso2 := Lib.hid (turnL_srt (D := asiD (-H[i].sum)) HS.out k (-H[i].sum))
    have Hln2 := Lib.hid (turnL_len (asiD (-H[i].sum)) L k (-H[i].sum))
    rw [h1] at hA
    have hw0 : IntKind.i64.wrap (-H[i].sum) = -H[i].sum := by rw [IntKind.wrap_i64]; omega
    clear h1 h2 h3 hs hx hr hR
    generalize turnL (asiD (-H[i].sum)) L k (-H[i].sum) = tt at *
    generalize H[i].sum = su at *
    obtain ⟨er, L2⟩ := tt
    dsimp only at *
    have hw1 : wrap64 (-su) = -su := by rw [← IntWalk.i64_left]; exact hw0
    have Hxs := Lib.hid hxs
    clear hxs d0 d1
    go_enter Tryz.func59, Tryz.ntmps59
    go_wp2_with fail
    refine hA.out.mono ?_
    rintro e w1 ⟨rfl, rfl⟩
    clear hA
    by_cases hs1 : s < 1
    · have g2 : decide (s < 1) = true := decide_eq_true hs1
      have HRR := Lib.hid (HT0.out (.inl hs1))
      clear hs1 HT0 HT1 Hok Hno
      go_wp2
      go_ret
      exact ⟨by rw [HRR.out]; rfl, by rw [HRR.out]; exact HC1.out, by rw [HRR.out]; exact H1.out, Gr.refl _ _⟩
    · have g2 : decide (s < 1) = false := decide_eq_false hs1
      by_cases hs2 : su < s
      · have g3 : decide (su < s) = true := decide_eq_true hs2
        have HRR := Lib.hid (HT0.out (.inr hs2))
        clear hs1 hs2 HT0 HT1 Hok Hno
        go_wp2
        go_ret
        exact ⟨by rw [HRR.out]; rfl, by rw [HRR.out]; exact HC1.out, by rw [HRR.out]; exact H1.out, Gr.refl _ _⟩
      · have g3 : decide (su < s) = false := decide_eq_false hs2
        have hns : ¬ (s < 1 ∨ su < s) := fun e => by omega
        have Hok := Lib.hid (Hok.out hns)
        have Hno := Lib.hid (Hno.out hns)
        have HT1 := Lib.hid (HT1.out hns)
        have hw2 : IntKind.i64.wrap (-s) = -s := by rw [IntKind.wrap_i64]; have := Hxs.out; omega
        have hw3 : wrap64 (-s) = -s := by rw [← IntWalk.i64_left]; exact hw2
        have Hsr := Lib.hid (show R64 (-s) ∧ R64 s from ⟨⟨by have := Hxs.out; omega, by have := Hxs.out; omega⟩, hsr⟩)
        clear hs1 hs2 hns HT0 hsr
        obtain ⟨A2, c2, hgc, hs2, hf2⟩ := hc
        have e0 := cell_of_row _ gc 0 _ _ (0, 0) hgc
        simp only [List.getElem?_toArray, List.getElem?_cons_zero] at e0
        have hba := (Below.refl w.heap.size w).alloc (Nat.le_refl _) (.cells #[.slice A2 L.length c2] 49)
        have hdg := heap_alloc_new w (.cells #[.slice A2 L.length c2] 49)
        have hdl : w.heap.size < (w.alloc (.cells #[.slice A2 L.length c2] 49)).heap.size := by simp
        have hdi : RcIs (w.alloc (.cells #[.slice A2 L.length c2] 49)) (fun k => T k ∧ k ≠ w.heap.size) w.heap.size L :=
          ⟨A2, c2, hdg, hs2.keep (fun p hp => hba.cell hp.1) (fun k hk => ⟨Nat.lt_of_lt_of_le hk.1 hba.size, hk.2, Nat.ne_of_lt hk.1⟩), hf2⟩
        have Hdn := Lib.hid (show ∀ k, (w.alloc (.cells #[.slice A2 L.length c2] 49)).heap.size ≤ k → T k ∧ k ≠ w.heap.size from fun k hk => ⟨HTn.out k (by omega), by omega⟩)
        have hAs := Lib.hid (HAs.out w.heap.size _ hdi Hdn.out)
        have c0 := (hba.cell (p := ⟨g, 0, none⟩) hlg).trans c0
        have d2 := (hba.cell (p := ⟨b, o + i * 3 + 2, none⟩) hb.1).trans d2
        have Hgc := Lib.hid hgc
        have Hba := Lib.hid hba
        obtain ⟨d, hd⟩ : ∃ d, w.heap.size = d := ⟨_, rfl⟩
        clear hgc hs2 hf2 hdg hdi HAs hba
        go_wp2_with fail
        generalize w.alloc (.cells #[.slice A2 L.length c2] 49) = w1 at *
        rw [hd] at hAs Hdn hdl
        have Hd := Lib.hid hd
        clear hd
        refine hAs.out.mono ?_
        rintro e w2 ⟨rfl, q1, q2⟩
        have hb2 : Below w.heap.size w w2 := Hba.out.trans (below_of_grown q2 Hba.out.size (fun k e => by injection e with e; rw [← e, Hd.out]; exact Nat.le_refl _))
        have hsz := q2.size
        clear hAs q2 d2 c0 e0 Hba
        by_cases he : er = 0
        · have g4 : (er == 0) = true := by rw [he]; rfl
          have Hok := Lib.hid (Hok.out he)
          have Hno := Lib.hid (Hno.out he)
          clear he HT1
          have hlt := hb2.size
          have hO := own_lit (w := w2) (base := w2.heap.size) 137 #[.string k, i64 (-s), .string p, i64 s] (legs2 k p s) (Nat.le_refl _) rfl (by show 2 ≤ 65536; decide) (fun x hx => by
            unfold legs2 at hx
            simp only [List.mem_cons, List.not_mem_nil, or_false] at hx
            rcases hx with rfl | rfl
            · exact Hk.out
            · exact Hp.out)
          have hb3 := hb2.alloc hb2.size (.cells #[.string k, i64 (-s), .string p, i64 s] 137)
          have q3 := q1.later ((Below.refl _ _).alloc (Nat.le_refl _) (.cells #[.string k, i64 (-s), .string p, i64 s] 137))
          obtain ⟨A5, c5, hv5, hs5, -⟩ := hO.slT (T := fun k => k ≠ d) (fun k hk => by have := Hd.out; omega) (fun x hx => by
            unfold legs2 at hx
            simp only [List.mem_cons, List.not_mem_nil, or_false] at hx
            rcases hx with rfl | rfl
            · exact Hk.out
            · exact Hp.out)
          have e5 : (legs2 k p s).length = 2 := rfl
          rw [e5] at hv5
          injection hv5 with e6 _ e7
          subst e6 e7
          have hM := rmake_c (fun k => T k ∧ k ≠ d) d L2 _ _ (legs2 k p s) _ q3 (by have := Hln2.out; omega) Hok2.out Hso2.out hs5 (by rw [e5]; decide) (fun x hx => by
            unfold legs2 at hx
            simp only [List.mem_cons, List.not_mem_nil, or_false] at hx
            rcases hx with rfl | rfl
            · exact Hsr.out.1
            · exact Hsr.out.2) (fun k hk => Hdn.out k (Nat.le_trans hsz (Nat.le_trans (by simp) hk))) (fun e => e.2 rfl)
          rw [e5] at hM
          have HM := Lib.hid hM
          have hsz3 : w2.heap.size ≤ (w2.alloc (.cells #[.string k, i64 (-s), .string p, i64 s] 137)).heap.size := by simp
          clear hO hs5 hM q1 q3 e5
          generalize makeL L2 (legs2 k p s) = mm at *
          obtain ⟨em, L4⟩ := mm
          dsimp only at *
          go_wp2_with fail
          generalize w2.alloc (.cells #[.string k, i64 (-s), .string p, i64 s] 137) = w3 at *
          refine HM.out.mono ?_
          rintro e w4 ⟨rfl, q4, q5⟩
          have hb4 : Below w.heap.size w w4 := hb3.trans (below_of_grown q5 hb3.size (fun k e => by injection e with e; rw [← e, Hd.out]; exact Nat.le_refl _))
          clear HM q5 hb3 hb2
          by_cases hm : em = 0
          · have g5 : (em != 0) = false := by rw [hm]; rfl
            have HRR := Lib.hid (Hok.out hm)
            rw [HD.out] at HRR
            clear hm Hok Hno
            have hgc4 := (hb4.block _ hlc).trans Hgc.out
            obtain ⟨A4, c4, f0, q6⟩ := rc_give q4 hgc4 HTc.out
            have hfz := frozen_of_row _ gc 0 _ _ hgc4
            have k0 := cell_of_row _ gc 0 _ _ (0, 0) hgc4
            simp only [List.getElem?_toArray, List.getElem?_cons_zero] at k0
            have hgr5 := grown_setCell (World.grownBy.refl w4 (some gc)) (p := ⟨gc, 0, none⟩) (.inl rfl) (.slice A4 L4.length c4)
            have hh5 := (H1.out.later hb4).kept (Gr.of_grown hgr5) (fun e => hne (by injection e with e; exact e.symm)) (fun k hk e => HTc.out (by injection e with e; rw [e]; exact hk))
            have hC := Lib.hid (rhcut_c T g H i _ hh5 hn hi (fun k hk => HTn.out k (Nat.le_trans (Nat.le_trans hb4.size hgr5.size) hk)))
            have HG5 := Lib.hid hgr5
            have HQ6 := Lib.hid q6
            clear q4 hgc4 hh5 hgr5 q6
            go_wp2_with fail
            refine hC.out.mono ?_
            rintro e w6 ⟨rfl, q7, q8⟩
            have hG : Gr w w6 (GH g gc) := ((Gr.of_below hb4 (GH g gc)).trans ((Gr.of_grown HG5.out).mono (fun k _ e => (show GH g gc k from .inr (by injection e with e; exact e.symm)))) (fun _ e => .inl e)).trans ((Gr.of_grown q8).mono (fun k _ e => (show GH g gc k from .inl (by injection e with e; exact e.symm)))) (fun _ e => .inl e)
            have hc6 := HQ6.out.kept (Gr.of_grown q8) (fun e => hne (by injection e)) (fun k hk e => HTg.out (by injection e with e; rw [e]; exact hk))
            clear hC HG5 HQ6 q8
            go_wp2
            go_ret
            exact ⟨by rw [HRR.out]; rfl, by rw [HRR.out]; exact hc6, by rw [HRR.out]; exact q7, hG⟩
          · have g5 : (em != 0) = true := by simpa using hm
            have HRR := Lib.hid (Hno.out hm)
            clear hm Hok Hno q4
            go_wp2
            go_ret
            exact ⟨by rw [HRR.out]; rfl, by rw [HRR.out]; exact HC1.out.later hb4, by rw [HRR.out]; exact H1.out.later hb4, Gr.of_below hb4 _⟩
        · have g4 : (er == 0) = false := beq_eq_false_iff_ne.2 he
          have g5 : (er != 0) = true := by simpa using he
          have HRR := Lib.hid (HT1.out he)
          clear he HT1 Hok Hno q1
          go_wp2
          go_ret
          exact ⟨by rw [HRR.out]; rfl, by rw [HRR.out]; exact HC1.out.later hb2, by rw [HRR.out]; exact H1.out.later hb2, Gr.of_below hb2 _⟩
end Go.Proofs.YtmljlkjomjflpaaGreat

/- law08.doesRef, same -/
namespace Go.Proofs.YtmljlkjomjflpaaGreat
open Go.RowKit
theorem RcIs.mono {w : World} {T T' : Nat → Prop} {g : Nat} {L : List Ac} (h : RcIs w T g L) (ht : ∀ k, k < w.heap.size → T k → T' k) : RcIs w T' g L := by
  obtain ⟨A, c, hc, hs, hf⟩ := h
  exact ⟨A, c, hc, hs.mono fun k hk => ⟨hk.1, ht k hk.1 hk.2⟩, hf⟩
set_option maxRecDepth 100000 in
set_option maxHeartbeats 8000000 in
theorem doesRef_c (T : Nat → Prop) (g gc : Nat) (H : List Held) (L : List Ac) (x : Op8) (w : World) (h : RhIs w T g H) (hc : RcIs w T gc L) (hI : InvH L H) (hl : L.length ≤ 65536) (hn : H.length ≤ 60000) (hok : x.acct.size ≤ maxLen ∧ x.peer.size ≤ maxLen ∧ R64 x.sum) (hTn : ∀ k, w.heap.size ≤ k → T k) (hTg : ¬ T g) (hTc : ¬ T gc) :
    Calls Tryz.prog 17 #[.pointer (some ⟨g, 0, none⟩), .pointer (some ⟨gc, 0, none⟩), x.v] w fun e w' => e = .returned (i64 (stepH L H x).1) ∧ RcIs w' T gc (stepH L H x).2.1 ∧ RhIs w' T g (stepH L H x).2.2 ∧ Gr w w' (GH g gc) := by
  have hne := h.ne hc
  have hb0 := (Below.refl w.heap.size w).alloc (Nat.le_refl _) (.cells #[i64 x.kind, i64 x.num, .string x.acct, .string x.peer, i64 x.sum] 38)
  have hg := heap_alloc_new w (.cells #[i64 x.kind, i64 x.num, .string x.acct, .string x.peer, i64 x.sum] 38)
  have hK := Lib.hid fun W => kind_c x W
  have hu : 0 ≤ umod x.kind 4 ∧ umod x.kind 4 < 4 := by unfold umod; omega
  have hc0 := hc.later hb0
  have hh0 := h.later hb0
  have HI := Lib.hid hI
  have Hok := Lib.hid hok
  have HTn := Lib.hid hTn
  have HTg := Lib.hid hTg
  have HTc := Lib.hid hTc
  obtain ⟨R, hR⟩ : ∃ R, stepH L H x = R := ⟨_, rfl⟩
  rw [hR]
  unfold stepH at hR
  generalize umod x.kind 4 = u at *
  have HR := Lib.hid hR.symm
  clear hc h hI hok hR hTn hTg hTc
  go_enter Tryz.func17, Tryz.ntmps17
  go_wp2_with fail
  generalize w.alloc (.cells #[i64 x.kind, i64 x.num, .string x.acct, .string x.peer, i64 x.sum] 38) = w0 at *
  refine (hK.out _).mono ?_
  rintro e w1 ⟨rfl, hF⟩
  have hg1 := (hF.block _ (Array.getElem?_eq_some_iff.1 hg).1).trans hg
  have hb1 := below_on hb0 (Nat.le_refl _) hF
  have hc1 := hc0.later hF
  have hh1 := hh0.later hF
  have HTn1 := Lib.hid (show ∀ k, w1.heap.size ≤ k → T k from fun k hk => HTn.out k (Nat.le_trans hb1.size hk))
  have m1 := cell_of_row _ w.heap.size 1 _ _ (0, 0) hg1
  have m2 := cell_of_row _ w.heap.size 2 _ _ (0, 0) hg1
  have m3 := cell_of_row _ w.heap.size 3 _ _ (0, 0) hg1
  have m4 := cell_of_row _ w.heap.size 4 _ _ (0, 0) hg1
  simp only [List.getElem?_toArray, List.getElem?_cons_zero, List.getElem?_cons_succ] at m1 m2 m3 m4
  clear hK hF hg hb0 hg1 hc0 hh0
  by_cases h0 : u = 0
  · have g0 : (u == 0) = true := by rw [h0]; rfl
    have hP := Lib.hid (rhput_c T g gc H L ⟨x.num, x.acct, x.sum⟩ w1 hh1 hc1 HI.out.okA HI.out.srtA hl HI.out.okH HI.out.srtH hn (HI.out.few _) Hok.out.2.2 Hok.out.1 HTn1.out HTg.out HTc.out)
    have HR2 := Lib.hid (show R = putH L H ⟨x.num, x.acct, x.sum⟩ by rw [HR.out, if_pos h0])
    clear h0 hu HR hc1 hh1
    go_wp2_with fail
    refine hP.out.mono ?_
    rintro e w2 ⟨rfl, q1, q2, q3⟩
    clear hP
    go_wp2
    go_ret
    exact ⟨by rw [HR2.out]; rfl, by rw [HR2.out]; exact q1, by rw [HR2.out]; exact q2, (Gr.of_below hb1 _).trans q3 (fun _ e => .inl e)⟩
  · have g0 : (u == 0) = false := beq_eq_false_iff_ne.2 h0
    by_cases h1 : u = 1
    · have g1 : (u == 1) = true := by rw [h1]; rfl
      have hP := Lib.hid (rhtake_c T g gc H L x.acct x.num x.peer x.sum w1 hh1 hc1 HI.out.okA HI.out.srtA hl HI.out.okH HI.out.srtH (by omega) Hok.out.2.2 Hok.out.1 Hok.out.2.1 HTn1.out HTg.out HTc.out)
      have HR2 := Lib.hid (show R = takeH L H x.acct x.num x.peer x.sum by rw [HR.out, if_neg h0, if_pos h1])
      clear h0 h1 hu HR hc1 hh1
      go_wp2_with fail
      refine hP.out.mono ?_
      rintro e w2 ⟨rfl, q1, q2, q3⟩
      clear hP
      go_wp2
      go_ret
      exact ⟨by rw [HR2.out]; rfl, by rw [HR2.out]; exact q1, by rw [HR2.out]; exact q2, (Gr.of_below hb1 _).trans q3 (fun _ e => .inl e)⟩
    · have g1 : (u == 1) = false := beq_eq_false_iff_ne.2 h1
      by_cases h2 : u = 2
      · have g2 : (u == 2) = true := by rw [h2]; rfl
        have hP := Lib.hid (rhfree_c T g gc H L x.acct x.num w1 hh1 hc1 HI.out.okA HI.out.srtA hl HI.out.okH HI.out.srtH (by omega) HTn1.out HTg.out HTc.out)
        have HR2 := Lib.hid (show R = freeHL L H x.acct x.num by rw [HR.out, if_neg h0, if_neg h1, if_pos h2])
        clear h0 h1 h2 hu HR hc1 hh1
        go_wp2_with fail
        refine hP.out.mono ?_
        rintro e w2 ⟨rfl, q1, q2, q3⟩
        clear hP
        go_wp2
        go_ret
        exact ⟨by rw [HR2.out]; rfl, by rw [HR2.out]; exact q1, by rw [HR2.out]; exact q2, (Gr.of_below hb1 _).trans q3 (fun _ e => .inl e)⟩
      · have g2 : (u == 2) = false := beq_eq_false_iff_ne.2 h2
        have hP := Lib.hid (rgive_c T gc L x.acct x.sum w1 hc1 hl HI.out.okA HI.out.srtA Hok.out.2.2 HTn1.out HTc.out)
        have HR2 := Lib.hid (show R = ((turnL (givD x.sum) L x.acct x.sum).1, (turnL (givD x.sum) L x.acct x.sum).2, H) by rw [HR.out, if_neg h0, if_neg h1, if_neg h2])
        clear h0 h1 h2 hu HR hc1
        go_wp2_with fail
        refine hP.out.mono ?_
        rintro e w2 ⟨rfl, q1, q3⟩
        have q2 := hh1.kept (Gr.of_grown q3) (fun e => hne (by injection e with e; exact e.symm)) (fun k hk e => HTc.out (by injection e with e; rw [e]; exact hk))
        clear hP hh1
        go_wp2
        go_ret
        exact ⟨by rw [HR2.out]; rfl, by rw [HR2.out]; exact q1, by rw [HR2.out]; exact q2, (Gr.of_below hb1 _).trans ((Gr.of_grown q3).mono (fun k _ e => (show GH g gc k from .inr (by injection e with e; exact e.symm)))) (fun _ e => .inl e)⟩
set_option maxRecDepth 100000 in
set_option maxHeartbeats 4000000 in
theorem same8_c (S T : Nat → Prop) (A B : Option Addr) (c d : Nat) (l : List Held) (w : World) (hx : SlS w S A c l) (hy : SlS w T B d l) (hl : l.length ≤ 65536) :
    Calls Tryz.prog 18 #[.slice A l.length c, .slice B l.length d] w fun e w' => e = .returned (.bool true) ∧ Below w.heap.size w w' := by
  have Hx := Lib.hid hx
  have Hy := Lib.hid hy
  have hxc : l.length ≤ c := hx.1
  have hyd : l.length ≤ d := hy.1
  have q0 : ((l.length : Int) != (l.length : Int)) = false := by simp
  clear hx hy
  go_enter Tryz.func18, Tryz.ntmps18
  go_wp2
  go_loopw [5] (fun i wr => ∃ (j m : Nat), i = i64 j ∧ j ≤ l.length ∧ wr = w.drewN m) (fun i _ => l.length - (intOf i).toNat)
  case atStart => exact ⟨0, 0, rfl, by omega, rfl⟩
  case round =>
    obtain ⟨j, m, rfl, hj, rfl⟩ := hrel
    by_cases hlt : j < l.length
    · have g1 : decide ((j : Int) < (l.length : Int)) = true := decide_eq_true (by omega)
      have i0 : (0 : Int) ≤ (j : Int) := by omega
      have i1 : (j : Int) < (l.length : Int) := by omega
      obtain ⟨b, o, hA, hb, -, c0, c1, c2⟩ := Hx.out.held hlt
      obtain ⟨b', o', hA', hb', -, c0', c1', c2'⟩ := Hy.out.held hlt
      subst hA hA'
      have e1 : (l[j].num != l[j].num) = false := by simp
      have e2 := beqS_of_eq (rfl : l[j].acct = l[j].acct)
      have e3 : (l[j].sum != l[j].sum) = false := by simp
      go_wp2
      go_quiet (fail)
      go_wp2
      go_roundw
      case rel => exact ⟨j + 1, m + _, by go_num, by omega, rfl⟩
      case measure => simp [intOf]; omega
    · have g1 : decide ((j : Int) < (l.length : Int)) = false := decide_eq_false (by omega)
      go_wp2
      go_ret
      exact ⟨rfl, below_quiet w _⟩
end Go.Proofs.YtmljlkjomjflpaaGreat

/- A region that draws its order: what it keeps may grow on the way. No program. -/
namespace Go.Proofs.YtmljlkjomjflpaaGreat
open Go.RowKit

section
variable {P : Program} {ops : Array Oper} {Q : Exit → Act → World → Prop} {md : Region.Mode} {S S' : World → Prop} {d : Nat}
theorem wpAnyL_mono (h : ∀ w, S' w → S w) : ∀ (fuel : Nat) (listed : Array Bool) (a : Act) (w : World), wpAnyL P md ops Q S' d fuel listed a w → wpAnyL P md ops Q S d fuel listed a w
  | 0, _, _, _, k => k
  | fuel + 1, _, _, _, k => ⟨k.1, fun i hi => wpOp_mono (fun a' w' k' => ⟨fun e => h _ (k'.1 e), wpAnyL_mono h fuel _ a' w' k'.2⟩) (k.2 i hi)⟩
theorem wpAnyC_mono (S' : World → Prop) {fuel : Nat} {listed : Array Bool} {a : Act} {w : World} (h : ∀ w, S' w → S w) (hS : S' w) (k : S' w → wpAnyC P md ops Q S' d fuel listed a w) : wpAnyC P md ops Q S d fuel listed a w :=
  fun hcl => wpAnyL_mono h _ _ _ _ (k hS hcl)
end
end Go.Proofs.YtmljlkjomjflpaaGreat
