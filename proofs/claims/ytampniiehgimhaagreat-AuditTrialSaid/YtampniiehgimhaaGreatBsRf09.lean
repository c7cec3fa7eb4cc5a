/- ref09: New, Do -/
import Derived.Test.YtampniiehgimhaaGreatRows
import Derived.Test.YtampniiehgimhaaGreatBs18
import Derived.Test.YtampniiehgimhaaGreatBs19
import Derived.Test.YtampniiehgimhaaGreatBs4
import Derived.Test.YtampniiehgimhaaGreatBs5
import Derived.Test.YtampniiehgimhaaGreatBs13
import Derived.Test.YtampniiehgimhaaGreatBs10
import Derived.Deep.Cut
import Derived.Deep.CutBlock
import Derived.WalkKit
import Derived.WalkSpells
import Derived.WalkLawsBesides
import Derived.Deep.QuietTactic
import Derived.BigQuiet
import Derived.Laws.StructEq
import Derived.Deep.DeepFit
import Derived.StillTailTactics

namespace Go.Proofs.YtampniiehgimhaaGreat
open Go.RowKit
theorem rnew9_c (w : World) : Calls Tryz.prog 10 #[] w fun e w' => ∃ a : RA, e = .returned a.ptr ∧ RkIs w' a a.T bk0 ∧ a.base = w.heap.size ∧ Below w.heap.size w w' := by
 have hb1 := (Below.refl w.heap.size w).alloc (Nat.le_refl _) (.cells #[.slice none 0 0] 121)
 have g1 := heap_alloc_new w (.cells #[.slice none 0 0] 121)
 have z1 : (w.alloc (.cells #[.slice none 0 0] 121)).heap.size = w.heap.size + 1 := by simp
 generalize hw1 : w.alloc (.cells #[.slice none 0 0] 121) = w1 at *
 have hB2 := (Below.refl w1.heap.size w1).alloc (Nat.le_refl _) (.cells #[.slice none 0 0] 125)
 have g2 := heap_alloc_new w1 (.cells #[.slice none 0 0] 125)
 have z2 : (w1.alloc (.cells #[.slice none 0 0] 125)).heap.size = w1.heap.size + 1 := by simp
 generalize hw2 : w1.alloc (.cells #[.slice none 0 0] 125) = w2 at *
 have hB3 := (Below.refl w2.heap.size w2).alloc (Nat.le_refl _) (.cells #[.pointer (some ⟨w.heap.size, 0, none⟩), .pointer (some ⟨w1.heap.size, 0, none⟩), i64 0] 127)
 have g3 := heap_alloc_new w2 (.cells #[.pointer (some ⟨w.heap.size, 0, none⟩), .pointer (some ⟨w1.heap.size, 0, none⟩), i64 0] 127)
 have z3 : (w2.alloc (.cells #[.pointer (some ⟨w.heap.size, 0, none⟩), .pointer (some ⟨w1.heap.size, 0, none⟩), i64 0] 127)).heap.size = w2.heap.size + 1 := by simp
 have HA := Lib.hid (show RkIs (w2.alloc (.cells #[.pointer (some ⟨w.heap.size, 0, none⟩), .pointer (some ⟨w1.heap.size, 0, none⟩), i64 0] 127)) ⟨w.heap.size, w2.heap.size, w.heap.size, w1.heap.size⟩ (RA.T ⟨w.heap.size, w2.heap.size, w.heap.size, w1.heap.size⟩) bk0 from
  ⟨g3, ⟨none, 0, (hB3.block w.heap.size (show w.heap.size < w2.heap.size by omega)).trans ((hB2.block w.heap.size (show w.heap.size < w1.heap.size by omega)).trans g1), SlS.nil_ _ _, .inl ⟨rfl, rfl⟩⟩, ⟨none, 0, (hB3.block w1.heap.size (show w1.heap.size < w2.heap.size by omega)).trans g2, SlS.nil_ _ _, .inl ⟨rfl, rfl⟩⟩, ⟨by show w2.heap.size ≠ w.heap.size; omega, by show w2.heap.size ≠ w1.heap.size; omega, by show w.heap.size ≠ w1.heap.size; omega⟩, fun k hk => (by have hk : k = w2.heap.size ∨ k = w.heap.size ∨ k = w1.heap.size := hk; show w.heap.size ≤ k; omega), fun k hk => RA.T_own hk⟩)
 have Hb := Lib.hid ((hb1.trans (hB2.mono (by omega))).trans (hB3.mono (by omega)))
 have Hz := Lib.hid z1
 have Hz2 := Lib.hid z2
 subst hw1 hw2
 clear hb1 g1 z1 hB2 g2 z2 hB3 g3 z3
 go_enter Tryz.func10, Tryz.ntmps10
 go_wp2
 go_ret
 exact ⟨⟨_, _, _, _⟩, by simp [RA.ptr]; rfl, by first | exact HA.out | simpa using HA.out, rfl, by first | exact Hb.out | simpa using Hb.out⟩
/-- an order of a closed period -/
def old9 (B : Bk) (x : Od) : Bool := (decide (x.kind = 2) || decide (x.kind = 4) || decide (x.kind = 6)) && decide (x.period ≤ B.cl)
theorem doL_old {B : Bk} {x : Od} (hr : rightB x = true) (h : old9 B x = true) : doL B x = (rpE 10, B) := by
 unfold old9 at h
 simp only [Bool.and_eq_true, Bool.or_eq_true, decide_eq_true_eq] at h
 unfold doL kindD
 rw [if_neg (by rw [hr]; decide)]
 rcases h.1 with (k2 | k4) | k6
 ·rw [if_neg (by omega), if_pos k2]; unfold postD; rw [if_pos h.2]
 ·rw [if_neg (by omega), if_neg (by omega), if_neg (by omega), if_pos k4]; unfold capD; rw [if_pos h.2]
 ·rw [if_neg (by omega), if_neg (by omega), if_neg (by omega), if_neg (by omega), if_neg (by omega), if_pos k6]; unfold shutD; rw [if_pos h.2]
theorem old9_no {B : Bk} {x : Od} (h : old9 B x = false) (hk : x.kind = 2 ∨ x.kind = 4 ∨ x.kind = 6) : ¬ x.period ≤ B.cl := fun hle => by
 unfold old9 at h
 rw [decide_eq_true hle, Bool.and_true] at h
 simp only [Bool.or_eq_false_iff, decide_eq_false_iff_not] at h
 rcases hk with e | e | e
 ·exact h.1.1 e
 ·exact h.1.2 e
 ·exact h.2 e
theorem tells_num (L : List Ac) (k : ByteArray) (er : Int) : (tellsL L k er).num = 0 := by
 unfold tellsL
 by_cases h : er ≠ 0
 ·rw [if_pos h]; rfl
 ·rw [if_neg h]
  by_cases h2 : (getLR L k).2 ≠ 0
  ·rw [if_pos h2]; rfl
  ·rw [if_neg h2]
theorem withN_0 (L : List Ac) (k : ByteArray) (er : Int) : withN (tellsL L k er) 0 = tellsL L k er := by
 have h := tells_num L k er
 generalize tellsL L k er = r at *
 obtain ⟨e, a, b, c⟩ := r
 dsimp only at h
 subst h
 unfold withN
 split <;> rfl
/-- what is told in the end: an error, or what the account has -/
theorem withN_err {L : List Ac} {k : ByteArray} {er n : Int} (h : er ≠ 0) : withN (tellsL L k er) n = rpE er := by
 rw [show tellsL L k er = rpE er from if_pos h]
 exact if_neg h
theorem withN_none {L : List Ac} {k : ByteArray} {n : Int} {g : Ac × Int} (hg : getLR L k = g) (h : g.2 ≠ 0) : withN (tellsL L k 0) n = rpE g.2 := by
 have e : tellsL L k 0 = rpE g.2 := by
  unfold tellsL
  rw [if_neg (fun e => e rfl), hg, if_pos h]
 rw [e]
 exact if_neg h
theorem withN_ok {L : List Ac} {k : ByteArray} {n : Int} {g : Ac × Int} (hg : getLR L k = g) (h : g.2 = 0) : withN (tellsL L k 0) n = ⟨0, g.1.hav, g.1.set_, n⟩ := by
 have e : tellsL L k 0 = ⟨0, g.1.hav, g.1.set_, 0⟩ := by
  unfold tellsL
  rw [if_neg (fun e => e rfl), hg, if_neg (fun e => e h)]
 rw [e]
 rfl
set_option maxRecDepth 100000 in
set_option maxHeartbeats 16000000 in
theorem rdo9_c (a : RA) (T0 : Nat → Prop) (B : Bk) (x : Od) (w : World) (h : RkIs w a T0 B) (hTn0 : ∀ k, w.heap.size ≤ k → T0 k) (hI : InvB B) (hx : OdB x) (hl : RdIn w a x) :
  Calls Tryz.prog 13 #[a.ptr, x.v] w fun e w' => e = .returned (doL B x).1.v ∧ RkIs w' a T0 (doL B x).2 ∧ Gr w w' a.own := by
 have hb0 : Below w.heap.size w ((w.alloc (.cells #[i64 x.client, i64 x.seq, i64 x.kind, .string x.acct, .string x.peer, i64 x.sum, .slice x.la x.legs.length x.lc, i64 x.period, i64 x.hold, .string x.note] 37)).alloc (.cells #[i64 0, i64 0, i64 0, i64 0] 31)) := ((Below.refl w.heap.size w).alloc (Nat.le_refl _) (.cells #[i64 x.client, i64 x.seq, i64 x.kind, .string x.acct, .string x.peer, i64 x.sum, .slice x.la x.legs.length x.lc, i64 x.period, i64 x.hold, .string x.note] 37)).alloc (by simp) (.cells #[i64 0, i64 0, i64 0, i64 0] 31)
 have ho0 := heap_alloc2_old w (.cells #[i64 x.client, i64 x.seq, i64 x.kind, .string x.acct, .string x.peer, i64 x.sum, .slice x.la x.legs.length x.lc, i64 x.period, i64 x.hold, .string x.note] 37) (.cells #[i64 0, i64 0, i64 0, i64 0] 31)
 have hr0 := heap_alloc2_new w (.cells #[i64 x.client, i64 x.seq, i64 x.kind, .string x.acct, .string x.peer, i64 x.sum, .slice x.la x.legs.length x.lc, i64 x.period, i64 x.hold, .string x.note] 37) (.cells #[i64 0, i64 0, i64 0, i64 0] 31)
 have hlt0 : w.heap.size < ((w.alloc (.cells #[i64 x.client, i64 x.seq, i64 x.kind, .string x.acct, .string x.peer, i64 x.sum, .slice x.la x.legs.length x.lc, i64 x.period, i64 x.hold, .string x.note] 37)).alloc (.cells #[i64 0, i64 0, i64 0, i64 0] 31)).heap.size ∧ w.heap.size + 1 < ((w.alloc (.cells #[i64 x.client, i64 x.seq, i64 x.kind, .string x.acct, .string x.peer, i64 x.sum, .slice x.la x.legs.length x.lc, i64 x.period, i64 x.hold, .string x.note] 37)).alloc (.cells #[i64 0, i64 0, i64 0, i64 0] 31)).heap.size := ⟨by simp; omega, by simp⟩
 have Hlt := Lib.hid h.lt
 obtain ⟨T, hT⟩ : ∃ T : Nat → Prop, T = fun k => T0 k ∧ k ≠ w.heap.size + 1 := ⟨_, rfl⟩
 have H0 := Lib.hid ((h.room (T' := T) (fun k hk ht => (by rw [hT]; exact ⟨ht, by omega⟩)) (fun k hk ht => (by rw [hT] at ht; exact h.tn k hk ht.1))).later hb0)
 have Htn := Lib.hid h.tn
 have Hin := Lib.hid (hl.later hb0)
 obtain ⟨R, hR⟩ : ∃ R, doL B x = R := ⟨_, rfl⟩
 rw [hR]
 have HR := Lib.hid hR
 obtain ⟨q, hq⟩ : ∃ q, rightB x = q := ⟨_, rfl⟩
 have HRt := Lib.hid (fun W (hW : RdIn W a x) => rright_c x W hW.okb hW.2)
 rw [hq] at HRt
 have Hq := Lib.hid hq
 have HTn := Lib.hid (show ∀ W : World, Below w.heap.size w W → ∀ k, W.heap.size ≤ k → w.heap.size + 1 < W.heap.size → T k from fun W hW k hk hz => (by rw [hT]; exact ⟨hTn0 k (Nat.le_trans hW.size hk), by omega⟩))
 have HTa := Lib.hid (show ∀ k, T k → T0 k ∧ k ≠ w.heap.size + 1 from fun k hk => by rw [hT] at hk; exact hk)
 have HI := Lib.hid hI
 have Hx := Lib.hid hx
 clear hT hR hq hI hx hl h hTn0
 unfold Od.v
 go_enter Tryz.func13, Tryz.ntmps13
 go_wp2_with fail
 generalize ((w.alloc (.cells #[i64 x.client, i64 x.seq, i64 x.kind, .string x.acct, .string x.peer, i64 x.sum, .slice x.la x.legs.length x.lc, i64 x.period, i64 x.hold, .string x.note] 37)).alloc (.cells #[i64 0, i64 0, i64 0, i64 0] 31)) = W0 at *
 generalize hrb : w.heap.size + 1 = rb at *
 have Hrb := Lib.hid (show w.heap.size ≤ rb by omega)
 have Hrbo := Lib.hid (show rb ≠ w.heap.size by omega)
 clear hrb
 refine (HRt.out _ Hin.out).mono ?_
 rintro e W1 ⟨rfl, hF⟩
 have Hb1 := Lib.hid (hb0.trans (hF.mono hb0.size))
 have hr1 := (hF.block rb hlt0.2).trans hr0
 have ho1 := (hF.block w.heap.size hlt0.1).trans ho0
 have H1 := Lib.hid (H0.out.later hF)
 have Hin1 := Lib.hid (Hin.out.later hF)
 have hlt1 : w.heap.size < W1.heap.size ∧ rb < W1.heap.size := ⟨Nat.lt_of_lt_of_le hlt0.1 hF.size, Nat.lt_of_lt_of_le hlt0.2 hF.size⟩
 have Hna := Lib.hid (show ∀ k, a.own k → k ≠ rb from fun k hk e => by have := Hlt.out k hk; have := Hrb.out; omega)
 have HTr := Lib.hid (show ¬ T rb from fun e => (HTa.out rb e).2 rfl)
 have Hrow := Lib.hid (show ∀ (W : World) (B' : Bk) (cs : Array Value), RkIs W a T B' → Gr w W a.own → RkIs (W.setRow rb cs) a T0 B' ∧ Gr w (W.setRow rb cs) a.own from fun W B' cs hW hG =>
  ⟨(hW.kept (gr_setRow W rb cs) (fun k hk e => Hna.out k hk e) (fun k hk e => HTr.out (by rw [← e]; exact hk))).room (fun k _ ht => (HTa.out k ht).1) Htn.out, hG.own_row Hrb.out cs⟩)
 clear hF hb0 ho0 hr0 hlt0 H0 Hin HRt
 cases q with
 | false =>
  have HR0 := Lib.hid (show R = (rpE 1, B) by rw [← HR.out]; unfold doL; rw [if_pos Hq.out])
  have hrow := setRow_heap W1 rb _ #[i64 1, i64 0, i64 0, i64 0] _ _ hr1
  have H9 := Lib.hid (Hrow.out W1 B #[i64 1, i64 0, i64 0, i64 0] H1.out (Gr.of_below Hb1.out _))
  go_wp2_with (refine wpList_store_row rfl 31 (.tmp 4) (.tmp 12) rfl rb #[i64 1, i64 0, i64 0, i64 0] rfl rfl 31 #[i64 0, i64 0, i64 0, i64 0] hr1 (by kernel_rfl) rfl (by simp [Value.oneCell']) ?_)
  rw [HR0.out]
  exact bodyPost_ret (results_cell_row rfl _ _ rb 31 _ (0, 0) _ rfl hrow Tryz.underlying31 rfl (by kernel_rfl)) rfl ⟨rfl, H9.out⟩
 | true =>
  have Hr1 := Lib.hid hr1
  have hp0 := H1.out.cell
  have HSS := Lib.hid (show ∀ V, Gr W1 V (GH a.gh a.gc) → (fun V : World => V.cell? ⟨a.r, 0, none⟩ = some (.pointer (some ⟨a.gc, 0, none⟩)) ∧ V.cell? ⟨a.r, 1, none⟩ = some (.pointer (some ⟨a.gh, 0, none⟩)) ∧ V.cell? ⟨a.r, 2, none⟩ = some (i64 B.cl) ∧ V.cell? ⟨w.heap.size, 0, none⟩ = some (i64 x.client) ∧ V.cell? ⟨w.heap.size, 1, none⟩ = some (i64 x.seq) ∧ V.cell? ⟨w.heap.size, 2, none⟩ = some (i64 x.kind) ∧ V.cell? ⟨w.heap.size, 3, none⟩ = some (.string x.acct) ∧ V.cell? ⟨w.heap.size, 4, none⟩ = some (.string x.peer) ∧ V.cell? ⟨w.heap.size, 5, none⟩ = some (i64 x.sum) ∧ V.cell? ⟨w.heap.size, 6, none⟩ = some (.slice x.la x.legs.length x.lc) ∧ V.cell? ⟨w.heap.size, 7, none⟩ = some (i64 x.period) ∧ V.cell? ⟨w.heap.size, 8, none⟩ = some (i64 x.hold) ∧ V.cell? ⟨w.heap.size, 9, none⟩ = some (.string x.note)) V from fun V hG => by
   have hp1 := (hG.block a.r (Array.getElem?_eq_some_iff.1 hp0).1 (fun e => e.elim H1.out.ne.2.1 H1.out.ne.1)).trans hp0
   have ho1 := (hG.block w.heap.size hlt1.1 (fun e => by have := Hlt.out _ (.inr (.inl rfl)); have := Hlt.out _ (.inr (.inr rfl)); rcases e with e | e <;> omega)).trans ho1
   exact ⟨cell_of_row _ a.r 0 _ _ (0, 0) hp1, cell_of_row _ a.r 1 _ _ (0, 0) hp1, cell_of_row _ a.r 2 _ _ (0, 0) hp1, cell_of_row _ w.heap.size 0 _ _ (0, 0) ho1, cell_of_row _ w.heap.size 1 _ _ (0, 0) ho1, cell_of_row _ w.heap.size 2 _ _ (0, 0) ho1, cell_of_row _ w.heap.size 3 _ _ (0, 0) ho1, cell_of_row _ w.heap.size 4 _ _ (0, 0) ho1, cell_of_row _ w.heap.size 5 _ _ (0, 0) ho1, cell_of_row _ w.heap.size 6 _ _ (0, 0) ho1, cell_of_row _ w.heap.size 7 _ _ (0, 0) ho1, cell_of_row _ w.heap.size 8 _ _ (0, 0) ho1, cell_of_row _ w.heap.size 9 _ _ (0, 0) ho1⟩)
  clear hp0 ho1 hr1
  go_wp2_with fail
  go_upto_region 3 with fail
  go_cut [34] from 13 to 35 (fun s34 wx => s34 = .bool (old9 B x) ∧ wx = W1.drew)
  case first =>
   by_cases k2 : x.kind = 2
   ·have hk : old9 B x = decide (x.period ≤ B.cl) := by unfold old9; rw [decide_eq_true k2]; rfl
    have e2 : (x.kind == 2) = true := beq_iff_eq.2 k2
    have Hk := Lib.hid hk
    clear k2 hk
    refine wp_region_noPanic ?_
    refine wp_region_l 21 (fun V : World => V.cell? ⟨a.r, 0, none⟩ = some (.pointer (some ⟨a.gc, 0, none⟩)) ∧ V.cell? ⟨a.r, 1, none⟩ = some (.pointer (some ⟨a.gh, 0, none⟩)) ∧ V.cell? ⟨a.r, 2, none⟩ = some (i64 B.cl) ∧ V.cell? ⟨w.heap.size, 0, none⟩ = some (i64 x.client) ∧ V.cell? ⟨w.heap.size, 1, none⟩ = some (i64 x.seq) ∧ V.cell? ⟨w.heap.size, 2, none⟩ = some (i64 x.kind) ∧ V.cell? ⟨w.heap.size, 3, none⟩ = some (.string x.acct) ∧ V.cell? ⟨w.heap.size, 4, none⟩ = some (.string x.peer) ∧ V.cell? ⟨w.heap.size, 5, none⟩ = some (i64 x.sum) ∧ V.cell? ⟨w.heap.size, 6, none⟩ = some (.slice x.la x.legs.length x.lc) ∧ V.cell? ⟨w.heap.size, 7, none⟩ = some (i64 x.period) ∧ V.cell? ⟨w.heap.size, 8, none⟩ = some (i64 x.hold) ∧ V.cell? ⟨w.heap.size, 9, none⟩ = some (.string x.note)) (by kernel_rfl) (HSS.out _ (Gr.of_below (Below.refl _ _).drew _)) (fun hH => ?_)
    refine tkZ 0 ?_; refine tkZ 1 ?_; refine tkZ 2 ?_; refine tkZ 3 ?_; refine tkM 4 ?_; refine tkM 5 ?_; refine tkM 6 ?_; refine tkZ 7 ?_; refine tkZ 8 ?_; refine tkM 9 ?_; refine tkM 10 ?_; refine tkM 11 ?_; refine tkZ 12 ?_; refine tkZ 13 ?_; refine tkZ 14 ?_; refine tkZ 15 ?_; refine tkZ 16 ?_; refine tkZ 17 ?_; refine tkZ 18 ?_; refine tkZ 19 ?_; refine tkZ 20 ?_
    refine tkL (fun K hK => ?_)
    go_simp
    refine hK.out _ _ ?_
    clear hK K
    try simp only [Act.put, uA, uZ, uS, vA, vZ, vS]
    refine tkD ?_
    repeat go_step
    go_meet
    exact ⟨by rw [Hk.out], rfl⟩
   ·have e2 : (x.kind == 2) = false := beq_eq_false_iff_ne.2 k2
    by_cases k4 : x.kind = 4
    ·have hk : old9 B x = decide (x.period ≤ B.cl) := by unfold old9; rw [decide_eq_true k4, Bool.or_true]; rfl
     have e4 : (x.kind == 4) = true := beq_iff_eq.2 k4
     have Hk := Lib.hid hk
     clear k2 k4 hk
     refine wp_region_noPanic ?_
     refine wp_region_l 21 (fun V : World => V.cell? ⟨a.r, 0, none⟩ = some (.pointer (some ⟨a.gc, 0, none⟩)) ∧ V.cell? ⟨a.r, 1, none⟩ = some (.pointer (some ⟨a.gh, 0, none⟩)) ∧ V.cell? ⟨a.r, 2, none⟩ = some (i64 B.cl) ∧ V.cell? ⟨w.heap.size, 0, none⟩ = some (i64 x.client) ∧ V.cell? ⟨w.heap.size, 1, none⟩ = some (i64 x.seq) ∧ V.cell? ⟨w.heap.size, 2, none⟩ = some (i64 x.kind) ∧ V.cell? ⟨w.heap.size, 3, none⟩ = some (.string x.acct) ∧ V.cell? ⟨w.heap.size, 4, none⟩ = some (.string x.peer) ∧ V.cell? ⟨w.heap.size, 5, none⟩ = some (i64 x.sum) ∧ V.cell? ⟨w.heap.size, 6, none⟩ = some (.slice x.la x.legs.length x.lc) ∧ V.cell? ⟨w.heap.size, 7, none⟩ = some (i64 x.period) ∧ V.cell? ⟨w.heap.size, 8, none⟩ = some (i64 x.hold) ∧ V.cell? ⟨w.heap.size, 9, none⟩ = some (.string x.note)) (by kernel_rfl) (HSS.out _ (Gr.of_below (Below.refl _ _).drew _)) (fun hH => ?_)
     refine tkZ 0 ?_; refine tkZ 1 ?_; refine tkZ 2 ?_; refine tkZ 3 ?_; refine tkZ 4 ?_; refine tkZ 5 ?_; refine tkZ 6 ?_; refine tkZ 7 ?_; refine tkZ 8 ?_; refine tkM 9 ?_; refine tkM 10 ?_; refine tkM 11 ?_; refine tkZ 12 ?_; refine tkZ 13 ?_; refine tkZ 14 ?_; refine tkZ 15 ?_; refine tkZ 16 ?_; refine tkZ 17 ?_; refine tkZ 18 ?_; refine tkZ 19 ?_; refine tkZ 20 ?_
     refine tkL (fun K hK => ?_)
     go_simp
     refine hK.out _ _ ?_
     clear hK K
     try simp only [Act.put, uA, uZ, uS, vA, vZ, vS]
     refine tkD ?_
     repeat go_step
     go_meet
     exact ⟨by rw [Hk.out], rfl⟩
    ·have e4 : (x.kind == 4) = false := beq_eq_false_iff_ne.2 k4
     by_cases k6 : x.kind = 6
     ·have hk : old9 B x = decide (x.period ≤ B.cl) := by unfold old9; rw [decide_eq_true k6, Bool.or_true]; rfl
      have e6 : (x.kind == 6) = true := beq_iff_eq.2 k6
      have Hk := Lib.hid hk
      clear k2 k4 k6 hk
      refine wp_region_noPanic ?_
      refine wp_region_l 21 (fun V : World => V.cell? ⟨a.r, 0, none⟩ = some (.pointer (some ⟨a.gc, 0, none⟩)) ∧ V.cell? ⟨a.r, 1, none⟩ = some (.pointer (some ⟨a.gh, 0, none⟩)) ∧ V.cell? ⟨a.r, 2, none⟩ = some (i64 B.cl) ∧ V.cell? ⟨w.heap.size, 0, none⟩ = some (i64 x.client) ∧ V.cell? ⟨w.heap.size, 1, none⟩ = some (i64 x.seq) ∧ V.cell? ⟨w.heap.size, 2, none⟩ = some (i64 x.kind) ∧ V.cell? ⟨w.heap.size, 3, none⟩ = some (.string x.acct) ∧ V.cell? ⟨w.heap.size, 4, none⟩ = some (.string x.peer) ∧ V.cell? ⟨w.heap.size, 5, none⟩ = some (i64 x.sum) ∧ V.cell? ⟨w.heap.size, 6, none⟩ = some (.slice x.la x.legs.length x.lc) ∧ V.cell? ⟨w.heap.size, 7, none⟩ = some (i64 x.period) ∧ V.cell? ⟨w.heap.size, 8, none⟩ = some (i64 x.hold) ∧ V.cell? ⟨w.heap.size, 9, none⟩ = some (.string x.note)) (by kernel_rfl) (HSS.out _ (Gr.of_below (Below.refl _ _).drew _)) (fun hH => ?_)
      refine tkZ 0 ?_; refine tkZ 1 ?_; refine tkZ 2 ?_; refine tkZ 3 ?_; refine tkZ 4 ?_; refine tkZ 5 ?_; refine tkZ 6 ?_; refine tkZ 7 ?_; refine tkZ 8 ?_; refine tkZ 9 ?_; refine tkZ 10 ?_; refine tkZ 11 ?_; refine tkZ 12 ?_; refine tkZ 13 ?_; refine tkZ 14 ?_; refine tkZ 15 ?_; refine tkZ 16 ?_; refine tkZ 17 ?_; refine tkZ 18 ?_; refine tkZ 19 ?_; refine tkZ 20 ?_
      refine tkL (fun K hK => ?_)
      go_simp
      refine hK.out _ _ ?_
      clear hK K
      try simp only [Act.put, uA, uZ, uS, vA, vZ, vS]
      refine tkD ?_
      repeat go_step
      go_meet
      exact ⟨by rw [Hk.out], rfl⟩
     ·have e6 : (x.kind == 6) = false := beq_eq_false_iff_ne.2 k6
      have Hk := Lib.hid (show old9 B x = false by unfold old9; rw [decide_eq_false k2, decide_eq_false k4, decide_eq_false k6]; rfl)
      clear k2 k4 k6
      refine wp_region_noPanic ?_
      refine wp_region_l 21 (fun V : World => V.cell? ⟨a.r, 0, none⟩ = some (.pointer (some ⟨a.gc, 0, none⟩)) ∧ V.cell? ⟨a.r, 1, none⟩ = some (.pointer (some ⟨a.gh, 0, none⟩)) ∧ V.cell? ⟨a.r, 2, none⟩ = some (i64 B.cl) ∧ V.cell? ⟨w.heap.size, 0, none⟩ = some (i64 x.client) ∧ V.cell? ⟨w.heap.size, 1, none⟩ = some (i64 x.seq) ∧ V.cell? ⟨w.heap.size, 2, none⟩ = some (i64 x.kind) ∧ V.cell? ⟨w.heap.size, 3, none⟩ = some (.string x.acct) ∧ V.cell? ⟨w.heap.size, 4, none⟩ = some (.string x.peer) ∧ V.cell? ⟨w.heap.size, 5, none⟩ = some (i64 x.sum) ∧ V.cell? ⟨w.heap.size, 6, none⟩ = some (.slice x.la x.legs.length x.lc) ∧ V.cell? ⟨w.heap.size, 7, none⟩ = some (i64 x.period) ∧ V.cell? ⟨w.heap.size, 8, none⟩ = some (i64 x.hold) ∧ V.cell? ⟨w.heap.size, 9, none⟩ = some (.string x.note)) (by kernel_rfl) (HSS.out _ (Gr.of_below (Below.refl _ _).drew _)) (fun hH => ?_)
      refine tkZ 0 ?_; refine tkZ 1 ?_; refine tkZ 2 ?_; refine tkZ 3 ?_; refine tkZ 4 ?_; refine tkZ 5 ?_; refine tkZ 6 ?_; refine tkZ 7 ?_; refine tkZ 8 ?_; refine tkZ 9 ?_; refine tkZ 10 ?_; refine tkZ 11 ?_; refine tkZ 12 ?_; refine tkZ 13 ?_; refine tkM 14 ?_; refine tkM 15 ?_; refine tkM 16 ?_; refine tkM 17 ?_; refine tkM 18 ?_; refine tkM 19 ?_; refine tkM 20 ?_
      refine tkL (fun K hK => ?_)
      go_simp
      refine hK.out _ _ ?_
      clear hK K
      try simp only [Act.put, uA, uZ, uS, vA, vZ, vS]
      refine tkD ?_
      repeat go_step
      go_meet
      exact ⟨by rw [Hk.out], rfl⟩
  case rest =>
   obtain ⟨h34, hwc⟩ := hcut
   obtain ⟨W2, hW2⟩ : ∃ W2, W2 = wc := ⟨wc, rfl⟩
   rw [← hW2] at hwc ⊢
   subst h34
   have hb2 : Below W1.heap.size W1 W2 := by rw [hwc]; exact (Below.refl _ _).drew
   clear hW2 hwc
   have hr2 := (hb2.block rb hlt1.2).trans Hr1.out
   have Hr2 := Lib.hid hr2
   have H2 := Lib.hid (H1.out.later hb2)
   have Hin2 := Lib.hid (Hin1.out.later hb2)
   have Hb2 := Lib.hid (Hb1.out.trans (hb2.mono Hb1.out.size))
   have HSS := Lib.hid (fun V (hG : Gr W2 V (GH a.gh a.gc)) => HSS.out V ((Gr.of_below hb2 _).after hG))
   have hlt2 : w.heap.size < W2.heap.size ∧ rb < W2.heap.size := ⟨Nat.lt_of_lt_of_le hlt1.1 hb2.size, Nat.lt_of_lt_of_le hlt1.2 hb2.size⟩
   have HTn2 := Lib.hid (fun (V : World) (hG : Gr W2 V (GH a.gh a.gc)) (k : Nat) (hk : V.heap.size ≤ k) => HTn.out W2 Hb2.out k (Nat.le_trans hG.size hk) hlt2.2)
   clear hb2 hlt1 H1 Hin1 Hb1 Hr1
   cases hold : old9 B x with
   | true =>
    have HR0 := Lib.hid (show R = (rpE 10, B) by rw [← HR.out]; exact doL_old Hq.out hold)
    clear hold
    have hrow := setRow_heap W2 rb _ #[i64 10, i64 0, i64 0, i64 0] _ _ hr2
    have H9 := Lib.hid (Hrow.out W2 B #[i64 10, i64 0, i64 0, i64 0] H2.out (Gr.of_below Hb2.out _))
    go_wp2_with (refine wpList_store_row rfl 31 (.tmp 4) (.tmp 35) rfl rb #[i64 10, i64 0, i64 0, i64 0] rfl rfl 31 #[i64 0, i64 0, i64 0, i64 0] hr2 (by kernel_rfl) rfl (by simp [Value.oneCell']) ?_)
    rw [HR0.out]
    exact bodyPost_ret (results_cell_row rfl _ _ rb 31 _ (0, 0) _ rfl hrow Tryz.underlying31 rfl (by kernel_rfl)) rfl ⟨rfl, H9.out⟩
   | false =>
    have Hno := Lib.hid (old9_no hold)
    clear hold hr2
    have o2 := (HSS.out W2 (Gr.of_below (Below.refl _ _) _)).2.2.2.2.2.1
    go_upto_block 0 with fail
    go_cut [5, 6] from 38 to 128 (fun s5 s6 wx => ∃ (er nn : Int) (L2 : List Ac) (H3 : List Held), s5 = i64 er ∧ s6 = i64 nn ∧ RkIs wx a T ⟨L2, H3, B.cl⟩ ∧ L2.length ≤ 65536 ∧ Gr W2 wx (GH a.gh a.gc) ∧ R = (withN (tellsL L2 x.acct er) nn, ⟨L2, H3, B.cl⟩))
    case first =>
     by_cases k1 : x.kind = 1
     ·have e1 : (x.kind == 1) = true := beq_iff_eq.2 k1
      have HR1 := Lib.hid (show R = openD B x by rw [← HR.out]; unfold doL kindD; rw [if_neg (by rw [Hq.out]; decide), if_pos k1])
      clear k1
      have h2 := H2.out.later (Below.refl _ _).drew
      go_wp2_with fail
      refine wp_region_noPanic ?_
      refine wp_region_l 9 (fun V : World => V.cell? ⟨a.r, 0, none⟩ = some (.pointer (some ⟨a.gc, 0, none⟩)) ∧ V.cell? ⟨a.r, 1, none⟩ = some (.pointer (some ⟨a.gh, 0, none⟩)) ∧ V.cell? ⟨a.r, 2, none⟩ = some (i64 B.cl) ∧ V.cell? ⟨w.heap.size, 0, none⟩ = some (i64 x.client) ∧ V.cell? ⟨w.heap.size, 1, none⟩ = some (i64 x.seq) ∧ V.cell? ⟨w.heap.size, 2, none⟩ = some (i64 x.kind) ∧ V.cell? ⟨w.heap.size, 3, none⟩ = some (.string x.acct) ∧ V.cell? ⟨w.heap.size, 4, none⟩ = some (.string x.peer) ∧ V.cell? ⟨w.heap.size, 5, none⟩ = some (i64 x.sum) ∧ V.cell? ⟨w.heap.size, 6, none⟩ = some (.slice x.la x.legs.length x.lc) ∧ V.cell? ⟨w.heap.size, 7, none⟩ = some (i64 x.period) ∧ V.cell? ⟨w.heap.size, 8, none⟩ = some (i64 x.hold) ∧ V.cell? ⟨w.heap.size, 9, none⟩ = some (.string x.note)) (by kernel_rfl) (HSS.out _ (Gr.of_below (Below.refl _ _).drew _)) (fun hH => ?_)
      refine tkZ 0 ?_; refine tkZ 1 ?_; refine tkZ 2 ?_; refine tkZ 3 ?_; refine tkZ 4 ?_; refine tkZ 5 ?_; refine tkZ 6 ?_; refine tkZ 7 ?_
      refine tkO 8 (fun K hK => ?_)
      refine oper_call3 62 43 45 47 _ rfl _ _ _ rfl rfl rfl (enters_of Tryz.func62 (by kernel_rfl) rfl) ?_
      refine (ropen_c T a.gc B.L x.acct x.sum _ h2.c (Nat.le_trans HI.out.len (by decide)) Hx.out.acct HI.out.inv.srtA (HTn2.out _ (Gr.of_below (Below.refl _ _).drew _)) (h2.tn _ (.inr (.inl rfl))) HI.out.len).mono ?_
      rintro e W3 ⟨rfl, q1, q3⟩
      refine ⟨_, rfl, ?_⟩
      obtain ⟨hB, hG⟩ := h2.chart q1 q3
      have hG := (Gr.of_below (Below.refl _ W2).drew (GH a.gh a.gc)).after hG
      clear q1 q3
      refine hK.out _ _ (HSS.out _ hG) (fun hH => ?_)
      clear hK K
      try simp only [Act.put, uA, uZ, uS, vA, vZ, vS]
      refine tkL (fun K hK => ?_)
      go_simp
      refine hK.out _ _ ?_
      clear hK K
      try simp only [Act.put, uA, uZ, uS, vA, vZ, vS]
      refine tkD ?_
      have hlen : (openL B.L x.acct x.sum).2.length ≤ 65536 := Nat.le_trans (openL_len _ _ HI.out.len) (by decide)
      repeat go_step
      go_meet
      exact ⟨_, 0, _, _, rfl, rfl, hB, hlen, hG, by rw [HR1.out]; exact congrArg (·, _) (withN_0 _ _ _).symm⟩
     ·by_cases k2 : x.kind = 2
      ·have e1 : (x.kind == 1) = false := beq_eq_false_iff_ne.2 k1
       have e2 : (x.kind == 2) = true := beq_iff_eq.2 k2
       have HR1 := Lib.hid (show R = ((rpE (makeL B.L x.legs).1, ⟨(makeL B.L x.legs).2, B.H, B.cl⟩) : Rp × Bk) by rw [← HR.out]; unfold doL kindD; rw [if_neg (by rw [Hq.out]; decide), if_neg k1, if_pos k2]; unfold postD; rw [if_neg (Hno.out (.inl k2))])
       clear k1 k2
       generalize hmk : makeL B.L x.legs = mk at *
       obtain ⟨er, L2⟩ := mk
       have hmc := fun W (h2 : RkIs W a T B) (hin2 : RdIn W a x) (hG : Gr W2 W (GH a.gh a.gc)) => rmake_c T a.gc B.L x.la x.lc x.legs _ h2.c (Nat.le_trans HI.out.len (by decide)) HI.out.inv.okA HI.out.inv.srtA (hin2.1.legs.mono fun k hk => ⟨hk.1, fun e => hk.2 (.inr (.inl e))⟩) hin2.2 Hx.out.rng.2.2.2.2.2.2 (HTn2.out _ hG) (h2.tn _ (.inr (.inl rfl)))
       rw [hmk] at hmc
       have Hmc := Lib.hid hmc
       clear hmc hmk
       have h2 := H2.out.later (Below.refl _ _).drew
       have hin2 := Hin2.out.later (Below.refl _ _).drew
       go_wp2_with fail
       refine wp_region_noPanic ?_
       refine wp_region_l 8 (fun V : World => V.cell? ⟨a.r, 0, none⟩ = some (.pointer (some ⟨a.gc, 0, none⟩)) ∧ V.cell? ⟨a.r, 1, none⟩ = some (.pointer (some ⟨a.gh, 0, none⟩)) ∧ V.cell? ⟨a.r, 2, none⟩ = some (i64 B.cl) ∧ V.cell? ⟨w.heap.size, 0, none⟩ = some (i64 x.client) ∧ V.cell? ⟨w.heap.size, 1, none⟩ = some (i64 x.seq) ∧ V.cell? ⟨w.heap.size, 2, none⟩ = some (i64 x.kind) ∧ V.cell? ⟨w.heap.size, 3, none⟩ = some (.string x.acct) ∧ V.cell? ⟨w.heap.size, 4, none⟩ = some (.string x.peer) ∧ V.cell? ⟨w.heap.size, 5, none⟩ = some (i64 x.sum) ∧ V.cell? ⟨w.heap.size, 6, none⟩ = some (.slice x.la x.legs.length x.lc) ∧ V.cell? ⟨w.heap.size, 7, none⟩ = some (i64 x.period) ∧ V.cell? ⟨w.heap.size, 8, none⟩ = some (i64 x.hold) ∧ V.cell? ⟨w.heap.size, 9, none⟩ = some (.string x.note)) (by kernel_rfl) (HSS.out _ (Gr.of_below (Below.refl _ _).drew _)) (fun hH => ?_)
       refine tkZ 0 ?_; refine tkZ 1 ?_; refine tkZ 2 ?_; refine tkZ 3 ?_; refine tkZ 4 ?_; refine tkZ 5 ?_
       refine tkO 6 (fun K hK => ?_)
       refine oper_call2 63 54 56 _ rfl _ _ rfl rfl (enters_of Tryz.func63 (by kernel_rfl) rfl) ?_
       refine (Hmc.out _ h2 hin2 (Gr.of_below (Below.refl _ _).drew _)).mono ?_
       rintro e W3 ⟨rfl, q1, q3⟩
       refine ⟨_, rfl, ?_⟩
       obtain ⟨hB, hG⟩ := h2.chart q1 q3
       have hG := (Gr.of_below (Below.refl W2.heap.size W2).drew (GH a.gh a.gc)).after hG
       clear q1 q3
       refine hK.out _ _ (HSS.out _ hG) (fun hH => ?_)
       clear hK K
       try simp only [Act.put, uA, uZ, uS, vA, vZ, vS]
       refine tkZ 7 ?_
       refine tkL (fun K hK => ?_)
       have hr3 := (hG.block rb hlt2.2 (fun e => by have := Hna.out _ (RA.gh_own e); omega)).trans Hr2.out
       have Hr3 := Lib.hid hr3
       have H9 := Lib.hid (Hrow.out W3 _ #[i64 er, i64 0, i64 0, i64 0] hB ((Gr.of_below Hb2.out a.own).after (hG.mono fun k _ e => RA.gh_own e)))
       clear hB hG
       refine wp_store_row 31 (.tmp 4) (.tmp 58) rfl rb #[i64 er, i64 0, i64 0, i64 0] rfl rfl 31 #[i64 0, i64 0, i64 0, i64 0] hr3 (by kernel_rfl) rfl (by simp [Value.oneCell']) ?_
       refine hK.out _ _ ?_
       clear hK K
       try simp only [Act.put, uA, uZ, uS]
       refine tkD ?_
       have hrow := setRow_heap W3 rb _ #[i64 er, i64 0, i64 0, i64 0] _ _ Hr3.out
       go_wp2
       rw [HR1.out]
       exact bodyPost_ret (results_cell_row rfl _ _ rb 31 _ (0, 0) _ rfl hrow Tryz.underlying31 rfl (by kernel_rfl)) rfl ⟨rfl, H9.out⟩
      ·by_cases k3 : x.kind = 3
       ·have e1 : (x.kind == 1) = false := beq_eq_false_iff_ne.2 k1
        have e2 : (x.kind == 2) = false := beq_eq_false_iff_ne.2 k2
        have e3 : (x.kind == 3) = true := beq_iff_eq.2 k3
        have HR1 := Lib.hid (show R = holdD B x by rw [← HR.out]; unfold doL kindD; rw [if_neg (by rw [Hq.out]; decide), if_neg k1, if_neg k2, if_pos k3])
        clear k1 k2 k3
        have ids := rightB_ids Hq.out
        have w3 : IntKind.i64.wrap (1000 * x.client) = 1000 * x.client := by rw [IntKind.wrap_i64]; omega
        have w4 : IntKind.i64.wrap (1000 * x.client + x.seq) = 1000 * x.client + x.seq := by rw [IntKind.wrap_i64]; omega
        have w1 : wrap64 (1000 * x.client) = 1000 * x.client := by rw [← IntWalk.i64_left]; exact w3
        have w2 : wrap64 (1000 * x.client + x.seq) = 1000 * x.client + x.seq := by rw [← IntWalk.i64_left]; exact w4
        have o0 := (HSS.out W2 (Gr.of_below (Below.refl _ _) _)).2.2.2.1
        have o1 := (HSS.out W2 (Gr.of_below (Below.refl _ _) _)).2.2.2.2.1
        clear ids
        have h2 := H2.out.later (Below.refl _ _).drew
        go_wp2_with fail
        try simp only [w1, w2, w3, w4]
        clear w1 w2 w3 w4
        have HN := Lib.hid (show 1000 * x.client + x.seq = numO x from rfl)
        rw [HN.out]
        refine wp_region_noPanic ?_
        refine wp_region_l 15 (fun V : World => V.cell? ⟨a.r, 0, none⟩ = some (.pointer (some ⟨a.gc, 0, none⟩)) ∧ V.cell? ⟨a.r, 1, none⟩ = some (.pointer (some ⟨a.gh, 0, none⟩)) ∧ V.cell? ⟨a.r, 2, none⟩ = some (i64 B.cl) ∧ V.cell? ⟨w.heap.size, 0, none⟩ = some (i64 x.client) ∧ V.cell? ⟨w.heap.size, 1, none⟩ = some (i64 x.seq) ∧ V.cell? ⟨w.heap.size, 2, none⟩ = some (i64 x.kind) ∧ V.cell? ⟨w.heap.size, 3, none⟩ = some (.string x.acct) ∧ V.cell? ⟨w.heap.size, 4, none⟩ = some (.string x.peer) ∧ V.cell? ⟨w.heap.size, 5, none⟩ = some (i64 x.sum) ∧ V.cell? ⟨w.heap.size, 6, none⟩ = some (.slice x.la x.legs.length x.lc) ∧ V.cell? ⟨w.heap.size, 7, none⟩ = some (i64 x.period) ∧ V.cell? ⟨w.heap.size, 8, none⟩ = some (i64 x.hold) ∧ V.cell? ⟨w.heap.size, 9, none⟩ = some (.string x.note)) (by kernel_rfl) (HSS.out _ (Gr.of_below (Below.refl _ _).drew _)) (fun hH => ?_)
        refine tkZ 0 ?_; refine tkZ 1 ?_; refine tkZ 2 ?_; refine tkZ 3 ?_; refine tkZ 4 ?_; refine tkZ 5 ?_; refine tkZ 6 ?_; refine tkZ 7 ?_; refine tkZ 8 ?_; refine tkZ 9 ?_; refine tkZ 10 ?_; refine tkZ 11 ?_; refine tkZ 12 ?_; refine tkZ 13 ?_
        refine tkO 14 (fun K hK => ?_)
        refine oper_call3 64 72 76 82 _ rfl _ _ _ rfl rfl rfl (enters_of Tryz.func64 (by kernel_rfl) rfl) ?_
        refine (rhput_c T a.gh a.gc B.H B.L ⟨numO x, x.acct, x.sum⟩ _ h2.h h2.c HI.out.inv.okA HI.out.inv.srtA (Nat.le_trans HI.out.len (by decide)) HI.out.inv.okH HI.out.inv.srtH (Nat.le_trans HI.out.lenH (by decide)) (HI.out.inv.few _) Hx.out.rng.2.2.2.1 Hx.out.acct (HTn2.out _ (Gr.of_below (Below.refl _ _).drew _)) (h2.tn _ (.inr (.inr rfl))) (h2.tn _ (.inr (.inl rfl)))).mono ?_
        rintro e W3 ⟨rfl, q2, q3, q4⟩
        refine ⟨_, rfl, ?_⟩
        have hB := h2.both q2 q3 q4
        have hG := (Gr.of_below (Below.refl W2.heap.size W2).drew (GH a.gh a.gc)).after q4
        clear q2 q3 q4
        refine hK.out _ _ (HSS.out _ hG) (fun hH => ?_)
        clear hK K
        try simp only [Act.put, uA, uZ, uS, vA, vZ, vS]
        refine tkL (fun K hK => ?_)
        go_simp
        refine hK.out _ _ ?_
        clear hK K
        try simp only [Act.put, uA, uZ, uS, vA, vZ, vS]
        refine tkD ?_
        have hlen : (putH B.L B.H ⟨numO x, x.acct, x.sum⟩).2.1.length ≤ 65536 := by rw [putH_lenA]; exact Nat.le_trans HI.out.len (by decide)
        repeat go_step
        go_meet
        exact ⟨_, _, _, _, rfl, rfl, hB, hlen, hG, by rw [HR1.out]; rfl⟩
       ·by_cases k4 : x.kind = 4
        ·have e1 : (x.kind == 1) = false := beq_eq_false_iff_ne.2 k1
         have e2 : (x.kind == 2) = false := beq_eq_false_iff_ne.2 k2
         have e3 : (x.kind == 3) = false := beq_eq_false_iff_ne.2 k3
         have e4 : (x.kind == 4) = true := beq_iff_eq.2 k4
         have HR1 := Lib.hid (show R = ((tellsL (takeH B.L B.H x.acct x.hold x.peer x.sum).2.1 x.acct (takeH B.L B.H x.acct x.hold x.peer x.sum).1, ⟨(takeH B.L B.H x.acct x.hold x.peer x.sum).2.1, (takeH B.L B.H x.acct x.hold x.peer x.sum).2.2, B.cl⟩) : Rp × Bk) by rw [← HR.out]; unfold doL kindD; rw [if_neg (by rw [Hq.out]; decide), if_neg k1, if_neg k2, if_neg k3, if_pos k4]; unfold capD; rw [if_neg (Hno.out (.inr (.inl k4)))])
         clear k1 k2 k3 k4
         have h2 := H2.out.later (Below.refl _ _).drew
         go_wp2_with fail
         refine wp_region_noPanic ?_
         refine wp_region_l 17 (fun V : World => V.cell? ⟨a.r, 0, none⟩ = some (.pointer (some ⟨a.gc, 0, none⟩)) ∧ V.cell? ⟨a.r, 1, none⟩ = some (.pointer (some ⟨a.gh, 0, none⟩)) ∧ V.cell? ⟨a.r, 2, none⟩ = some (i64 B.cl) ∧ V.cell? ⟨w.heap.size, 0, none⟩ = some (i64 x.client) ∧ V.cell? ⟨w.heap.size, 1, none⟩ = some (i64 x.seq) ∧ V.cell? ⟨w.heap.size, 2, none⟩ = some (i64 x.kind) ∧ V.cell? ⟨w.heap.size, 3, none⟩ = some (.string x.acct) ∧ V.cell? ⟨w.heap.size, 4, none⟩ = some (.string x.peer) ∧ V.cell? ⟨w.heap.size, 5, none⟩ = some (i64 x.sum) ∧ V.cell? ⟨w.heap.size, 6, none⟩ = some (.slice x.la x.legs.length x.lc) ∧ V.cell? ⟨w.heap.size, 7, none⟩ = some (i64 x.period) ∧ V.cell? ⟨w.heap.size, 8, none⟩ = some (i64 x.hold) ∧ V.cell? ⟨w.heap.size, 9, none⟩ = some (.string x.note)) (by kernel_rfl) (HSS.out _ (Gr.of_below (Below.refl _ _).drew _)) (fun hH => ?_)
         refine tkZ 0 ?_; refine tkZ 1 ?_; refine tkZ 2 ?_; refine tkZ 3 ?_; refine tkZ 4 ?_; refine tkZ 5 ?_; refine tkZ 6 ?_; refine tkZ 7 ?_; refine tkZ 8 ?_; refine tkZ 9 ?_; refine tkZ 10 ?_; refine tkZ 11 ?_; refine tkZ 12 ?_; refine tkZ 13 ?_; refine tkZ 14 ?_; refine tkZ 15 ?_
         refine tkO 16 (fun K hK => ?_)
         refine oper_call6 65 89 93 95 97 99 101 _ rfl _ _ _ _ _ _ rfl rfl rfl rfl rfl rfl (enters_of Tryz.func65 (by kernel_rfl) rfl) ?_
         refine (rhtake_c T a.gh a.gc B.H B.L x.acct x.hold x.peer x.sum _ h2.h h2.c HI.out.inv.okA HI.out.inv.srtA (Nat.le_trans HI.out.len (by decide)) HI.out.inv.okH HI.out.inv.srtH (Nat.le_trans HI.out.lenH (by decide)) Hx.out.rng.2.2.2.1 Hx.out.acct Hx.out.peer (HTn2.out _ (Gr.of_below (Below.refl _ _).drew _)) (h2.tn _ (.inr (.inr rfl))) (h2.tn _ (.inr (.inl rfl)))).mono ?_
         rintro e W3 ⟨rfl, q2, q3, q4⟩
         refine ⟨_, rfl, ?_⟩
         have hB := h2.both q2 q3 q4
         have hG := (Gr.of_below (Below.refl W2.heap.size W2).drew (GH a.gh a.gc)).after q4
         clear q2 q3 q4
         refine hK.out _ _ (HSS.out _ hG) (fun hH => ?_)
         clear hK K
         try simp only [Act.put, uA, uZ, uS, vA, vZ, vS]
         refine tkL (fun K hK => ?_)
         go_simp
         refine hK.out _ _ ?_
         clear hK K
         try simp only [Act.put, uA, uZ, uS, vA, vZ, vS]
         refine tkD ?_
         have hlen : (takeH B.L B.H x.acct x.hold x.peer x.sum).2.1.length ≤ 65536 := by rw [takeH_lenA _ _ HI.out.inv.srtA]; exact Nat.le_trans HI.out.len (by decide)
         repeat go_step
         go_meet
         exact ⟨_, 0, _, _, rfl, rfl, hB, hlen, hG, by rw [HR1.out]; exact congrArg (·, _) (withN_0 _ _ _).symm⟩
        ·by_cases k5 : x.kind = 5
         ·have e1 : (x.kind == 1) = false := beq_eq_false_iff_ne.2 k1
          have e2 : (x.kind == 2) = false := beq_eq_false_iff_ne.2 k2
          have e3 : (x.kind == 3) = false := beq_eq_false_iff_ne.2 k3
          have e4 : (x.kind == 4) = false := beq_eq_false_iff_ne.2 k4
          have e5 : (x.kind == 5) = true := beq_iff_eq.2 k5
          have HR1 := Lib.hid (show R = relD B x by rw [← HR.out]; unfold doL kindD; rw [if_neg (by rw [Hq.out]; decide), if_neg k1, if_neg k2, if_neg k3, if_neg k4, if_pos k5])
          clear k1 k2 k3 k4 k5
          have h2 := H2.out.later (Below.refl _ _).drew
          go_wp2_with fail
          refine wp_region_noPanic ?_
          refine wp_region_l 13 (fun V : World => V.cell? ⟨a.r, 0, none⟩ = some (.pointer (some ⟨a.gc, 0, none⟩)) ∧ V.cell? ⟨a.r, 1, none⟩ = some (.pointer (some ⟨a.gh, 0, none⟩)) ∧ V.cell? ⟨a.r, 2, none⟩ = some (i64 B.cl) ∧ V.cell? ⟨w.heap.size, 0, none⟩ = some (i64 x.client) ∧ V.cell? ⟨w.heap.size, 1, none⟩ = some (i64 x.seq) ∧ V.cell? ⟨w.heap.size, 2, none⟩ = some (i64 x.kind) ∧ V.cell? ⟨w.heap.size, 3, none⟩ = some (.string x.acct) ∧ V.cell? ⟨w.heap.size, 4, none⟩ = some (.string x.peer) ∧ V.cell? ⟨w.heap.size, 5, none⟩ = some (i64 x.sum) ∧ V.cell? ⟨w.heap.size, 6, none⟩ = some (.slice x.la x.legs.length x.lc) ∧ V.cell? ⟨w.heap.size, 7, none⟩ = some (i64 x.period) ∧ V.cell? ⟨w.heap.size, 8, none⟩ = some (i64 x.hold) ∧ V.cell? ⟨w.heap.size, 9, none⟩ = some (.string x.note)) (by kernel_rfl) (HSS.out _ (Gr.of_below (Below.refl _ _).drew _)) (fun hH => ?_)
          refine tkZ 0 ?_; refine tkZ 1 ?_; refine tkZ 2 ?_; refine tkZ 3 ?_; refine tkZ 4 ?_; refine tkZ 5 ?_; refine tkZ 6 ?_; refine tkZ 7 ?_; refine tkZ 8 ?_; refine tkZ 9 ?_; refine tkZ 10 ?_; refine tkZ 11 ?_
          refine tkO 12 (fun K hK => ?_)
          refine oper_call4 66 108 112 114 116 _ rfl _ _ _ _ rfl rfl rfl rfl (enters_of Tryz.func66 (by kernel_rfl) rfl) ?_
          refine (rhfree_c T a.gh a.gc B.H B.L x.acct x.hold _ h2.h h2.c HI.out.inv.okA HI.out.inv.srtA (Nat.le_trans HI.out.len (by decide)) HI.out.inv.okH HI.out.inv.srtH (Nat.le_trans HI.out.lenH (by decide)) (HTn2.out _ (Gr.of_below (Below.refl _ _).drew _)) (h2.tn _ (.inr (.inr rfl))) (h2.tn _ (.inr (.inl rfl)))).mono ?_
          rintro e W3 ⟨rfl, q2, q3, q4⟩
          refine ⟨_, rfl, ?_⟩
          have hB := h2.both q2 q3 q4
          have hG := (Gr.of_below (Below.refl W2.heap.size W2).drew (GH a.gh a.gc)).after q4
          clear q2 q3 q4
          refine hK.out _ _ (HSS.out _ hG) (fun hH => ?_)
          clear hK K
          try simp only [Act.put, uA, uZ, uS, vA, vZ, vS]
          refine tkL (fun K hK => ?_)
          go_simp
          refine hK.out _ _ ?_
          clear hK K
          try simp only [Act.put, uA, uZ, uS, vA, vZ, vS]
          refine tkD ?_
          have hlen : (freeHL B.L B.H x.acct x.hold).2.1.length ≤ 65536 := by rw [freeHL_lenA]; exact Nat.le_trans HI.out.len (by decide)
          repeat go_step
          go_meet
          exact ⟨_, 0, _, _, rfl, rfl, hB, hlen, hG, by rw [HR1.out]; exact congrArg (·, _) (withN_0 _ _ _).symm⟩
         ·by_cases k6 : x.kind = 6
          ·have e1 : (x.kind == 1) = false := beq_eq_false_iff_ne.2 k1
           have e2 : (x.kind == 2) = false := beq_eq_false_iff_ne.2 k2
           have e3 : (x.kind == 3) = false := beq_eq_false_iff_ne.2 k3
           have e4 : (x.kind == 4) = false := beq_eq_false_iff_ne.2 k4
           have e5 : (x.kind == 5) = false := beq_eq_false_iff_ne.2 k5
           have e6 : (x.kind == 6) = true := beq_iff_eq.2 k6
           have HR1 := Lib.hid (show R = ((⟨0, 0, 0, x.period⟩, ⟨B.L, B.H, x.period⟩) : Rp × Bk) by rw [← HR.out]; unfold doL kindD; rw [if_neg (by rw [Hq.out]; decide), if_neg k1, if_neg k2, if_neg k3, if_neg k4, if_neg k5, if_pos k6]; unfold shutD; rw [if_neg (Hno.out (.inr (.inr k6)))])
           clear k1 k2 k3 k4 k5 k6
           have o7 := (HSS.out W2 (Gr.of_below (Below.refl _ _) _)).2.2.2.2.2.2.2.2.2.2.1
           have hpc := H2.out.cell
           have p2 := cell_of_row _ a.r 2 _ _ (0, 0) hpc
           simp only [List.getElem?_toArray, List.getElem?_cons_zero, List.getElem?_cons_succ] at p2
           have pf := frozen_of_row _ a.r 2 _ _ hpc
           obtain ⟨hB2, hG2⟩ := H2.out.shut x.period
           have hr3 := (hG2.block rb hlt2.2 (fun e => Hna.out _ (.inl rfl) e.symm)).trans Hr2.out
           have hor : w.heap.size ≠ a.r := fun e => by have := Hlt.out _ (.inl rfl); omega
           have o7b : (W2.setCell ⟨a.r, 2, none⟩ (i64 x.period)).cell? ⟨w.heap.size, 7, none⟩ = some (i64 x.period) := (World.cell?_of_block (a := ⟨w.heap.size, 7, none⟩) (hG2.block w.heap.size hlt2.1 hor)).trans o7
           have HRow := Lib.hid (setRow_heap _ rb _ #[i64 0, i64 0, i64 0, i64 x.period] _ _ hr3)
           have H9 := Lib.hid (Hrow.out _ _ #[i64 0, i64 0, i64 0, i64 x.period] hB2 ((Gr.of_below Hb2.out a.own).after (hG2.mono fun k _ e => .inl e)))
           clear hB2 hG2 hpc
           go_wp2_with (refine wpList_store_row rfl 31 (.tmp 4) (.tmp 127) rfl rb #[i64 0, i64 0, i64 0, i64 x.period] rfl rfl 31 #[i64 0, i64 0, i64 0, i64 0] hr3 (by kernel_rfl) rfl (by simp [Value.oneCell']) ?_)
           have hrow := HRow.out
           rw [HR1.out]
           exact bodyPost_ret (results_cell_row rfl _ _ rb 31 _ (0, 0) _ rfl hrow Tryz.underlying31 rfl (by kernel_rfl)) rfl ⟨rfl, H9.out⟩
          ·have e1 : (x.kind == 1) = false := beq_eq_false_iff_ne.2 k1
           have e2 : (x.kind == 2) = false := beq_eq_false_iff_ne.2 k2
           have e3 : (x.kind == 3) = false := beq_eq_false_iff_ne.2 k3
           have e4 : (x.kind == 4) = false := beq_eq_false_iff_ne.2 k4
           have e5 : (x.kind == 5) = false := beq_eq_false_iff_ne.2 k5
           have e6 : (x.kind == 6) = false := beq_eq_false_iff_ne.2 k6
           have HR1 := Lib.hid (show R = askD B x by rw [← HR.out]; unfold doL kindD; rw [if_neg (by rw [Hq.out]; decide), if_neg k1, if_neg k2, if_neg k3, if_neg k4, if_neg k5, if_neg k6])
           clear k1 k2 k3 k4 k5 k6
           have hB := H2.out
           have hG := Gr.of_below (Below.refl W2.heap.size W2) (GH a.gh a.gc)
           have hlen : B.L.length ≤ 65536 := Nat.le_trans HI.out.len (by decide)
           go_wp2_with fail
           go_meet
           exact ⟨0, 0, B.L, B.H, rfl, rfl, hB, hlen, hG, by rw [HR1.out]; exact congrArg (·, _) (withN_0 _ _ _).symm⟩
    case rest =>
     obtain ⟨er, nn, L2, H3, h5, h6, hB, hlen, hG, hRR⟩ := hcut
     obtain ⟨W5, hW5⟩ : ∃ W5, W5 = wc := ⟨wc, rfl⟩
     rw [← hW5] at hB hG ⊢
     subst h5 h6
     clear hW5
     have HRR := Lib.hid hRR
     have Hge := Lib.hid (show w.heap.size ≤ W5.heap.size from Nat.le_trans Hb2.out.size hG.size)
     have HG5 := Lib.hid ((Gr.of_below Hb2.out a.own).after (hG.mono fun k _ e => RA.gh_own e))
     have HG2 := Lib.hid hG
     have Hr5 := Lib.hid ((hG.block rb hlt2.2 (fun e => Hna.out _ (RA.gh_own e) rfl)).trans Hr2.out)
     have hlt5 : rb < W5.heap.size := Nat.lt_of_lt_of_le hlt2.2 hG.size
     obtain ⟨g, hg⟩ : ∃ g, getLR L2 x.acct = g := ⟨_, rfl⟩
     have Hg := Lib.hid hg
     have HGt := Lib.hid (fun W (hW : RkIs W a T ⟨L2, H3, B.cl⟩) => rget_c T a.gc L2 x.acct W hW.c hlen)
     rw [hg] at HGt
     have HB5 := Lib.hid hB
     clear hRR hG hg hlen hB
     obtain ⟨ga, gf⟩ := g
     have hF5 := Gr.of_below ((Below.refl W5.heap.size W5).drew) (fun _ => False)
     dsimp only at HGt
     go_upto_region 22 with fail
     go_cut [7, 8] from 128 to 138 (fun s7 s8 wx => ∃ ab, s7 = .pointer (some ⟨ab, 0, none⟩) ∧ s8 = i64 gf ∧ wx.heap[ab]? = some (.cells #[.string ga.name, i64 ga.hav, i64 ga.set_, i64 ga.lim] 140 (0, 0)) ∧ Gr W5 wx (fun _ => False))
     case first =>
      refine wp_region_noPanic ?_
      refine wp_region_l 12 (fun V : World => V.cell? ⟨a.r, 0, none⟩ = some (.pointer (some ⟨a.gc, 0, none⟩)) ∧ V.cell? ⟨a.r, 1, none⟩ = some (.pointer (some ⟨a.gh, 0, none⟩)) ∧ V.cell? ⟨a.r, 2, none⟩ = some (i64 B.cl) ∧ V.cell? ⟨w.heap.size, 0, none⟩ = some (i64 x.client) ∧ V.cell? ⟨w.heap.size, 1, none⟩ = some (i64 x.seq) ∧ V.cell? ⟨w.heap.size, 2, none⟩ = some (i64 x.kind) ∧ V.cell? ⟨w.heap.size, 3, none⟩ = some (.string x.acct) ∧ V.cell? ⟨w.heap.size, 4, none⟩ = some (.string x.peer) ∧ V.cell? ⟨w.heap.size, 5, none⟩ = some (i64 x.sum) ∧ V.cell? ⟨w.heap.size, 6, none⟩ = some (.slice x.la x.legs.length x.lc) ∧ V.cell? ⟨w.heap.size, 7, none⟩ = some (i64 x.period) ∧ V.cell? ⟨w.heap.size, 8, none⟩ = some (i64 x.hold) ∧ V.cell? ⟨w.heap.size, 9, none⟩ = some (.string x.note)) (by kernel_rfl) (HSS.out _ (HG2.out.after (hF5.mono (fun _ _ e => e.elim)))) (fun hH => ?_)
      refine tkZ 0 ?_; refine tkZ 1 ?_; refine tkZ 2 ?_; refine tkZ 3 ?_; refine tkZ 4 ?_; refine tkZ 5 ?_
      refine wpAnyL_ready (rs := [6, 10]) (by kernel_rfl) (by simp) ?_
      refine AllReadyL.cons rfl (fun K hK => ?_) ?_
      ·skip
       refine oper_call2 67 132 134 _ rfl _ _ rfl rfl (enters_of Tryz.func67 (by kernel_rfl) rfl) ?_
       refine (HGt.out _ (HB5.out.kept hF5 (fun _ _ => id) (fun _ _ => id))).mono ?_
       rintro e W6 ⟨rfl, hF⟩
       refine ⟨_, rfl, ?_⟩
       have hF5 := hF5.more hF
       clear hF
       refine hK.out _ _ (HSS.out _ (HG2.out.after (hF5.mono (fun _ _ e => e.elim)))) (fun hH => ?_)
       clear hK K
       try simp only [Act.put, uA, uZ, uS, vA, vZ, vS]
       refine tkZ 7 ?_; refine tkZ 8 ?_; refine tkZ 9 ?_
       refine tkO 10 (fun K hK => ?_)
       go_simp
       obtain ⟨ab, hab, hal⟩ : ∃ ab, ab = W6.heap.size ∧ (W6.alloc (.cells #[.string ByteArray.empty, i64 0, i64 0, i64 0] 140)).heap[ab]? = some (.cells #[.string ByteArray.empty, i64 0, i64 0, i64 0] 140 (0, 0)) := ⟨_, rfl, heap_alloc_new W6 _⟩
       have Hab := Lib.hid hab
       have hz5 := hF5.size
       have Hge5 := Lib.hid (show W5.heap.size ≤ ab by rw [hab]; exact hz5)
       clear hab hz5
       have hF5 := hF5.more ((Below.refl _ _).alloc (Nat.le_refl _) (.cells #[.string ByteArray.empty, i64 0, i64 0, i64 0] 140))
       refine hK.out _ _ (HSS.out _ (HG2.out.after (hF5.mono (fun _ _ e => e.elim)))) (fun hH => ?_)
       clear hK K
       try simp only [Act.put, uA, uZ, uS, vA, vZ, vS]
       refine tkO 11 (fun K hK => ?_)
       refine wp_store_row 140 (.tmp 7) (.tmp 136) rfl ab #[.string ga.name, i64 ga.hav, i64 ga.set_, i64 ga.lim] (by rw [Hab.out] <;> rfl) rfl 140 #[.string ByteArray.empty, i64 0, i64 0, i64 0] hal (by kernel_rfl) rfl (by simp [Value.oneCell']) ?_
       have hF5 := hF5.own_row Hge5.out #[.string ga.name, i64 ga.hav, i64 ga.set_, i64 ga.lim]
       have hal := setRow_heap _ ab _ #[.string ga.name, i64 ga.hav, i64 ga.set_, i64 ga.lim] _ _ hal
       refine hK.out _ _ (HSS.out _ (HG2.out.after (hF5.mono (fun _ _ e => e.elim)))) (fun hH => ?_)
       clear hK K
       try simp only [Act.put, uA, uZ, uS]
       refine tkL (fun K hK => ?_)
       go_simp
       refine hK.out _ _ ?_
       clear hK K
       try simp only [Act.put, uA, uZ, uS, vA, vZ, vS]
       refine tkD ?_
       repeat go_step
       go_meet
       exact ⟨ab, by rw [Hab.out] <;> rfl, rfl, hal, hF5⟩
      refine AllReadyL.cons rfl (fun K hK => ?_) ?_
      ·skip
       go_simp
       obtain ⟨ab, hab, hal⟩ : ∃ ab, ab = W5.heap.size ∧ (W5.drew.alloc (.cells #[.string ByteArray.empty, i64 0, i64 0, i64 0] 140)).heap[ab]? = some (.cells #[.string ByteArray.empty, i64 0, i64 0, i64 0] 140 (0, 0)) := ⟨_, rfl, heap_alloc_new W5.drew _⟩
       have Hab := Lib.hid hab
       have hz5 := hF5.size
       have Hge5 := Lib.hid (show W5.heap.size ≤ ab by rw [hab]; exact hz5)
       clear hab hz5
       have hF5 := hF5.more ((Below.refl _ _).alloc (Nat.le_refl _) (.cells #[.string ByteArray.empty, i64 0, i64 0, i64 0] 140))
       refine hK.out _ _ (HSS.out _ (HG2.out.after (hF5.mono (fun _ _ e => e.elim)))) (fun hH => ?_)
       clear hK K
       try simp only [Act.put, uA, uZ, uS, vA, vZ, vS]
       refine tkO 6 (fun K hK => ?_)
       refine oper_call2 67 132 134 _ rfl _ _ rfl rfl (enters_of Tryz.func67 (by kernel_rfl) rfl) ?_
       refine (HGt.out _ (HB5.out.kept hF5 (fun _ _ => id) (fun _ _ => id))).mono ?_
       rintro e W6 ⟨rfl, hF⟩
       refine ⟨_, rfl, ?_⟩
       have hal := (hF.block ab (Array.getElem?_eq_some_iff.1 hal).1).trans hal
       have hF5 := hF5.more hF
       clear hF
       refine hK.out _ _ (HSS.out _ (HG2.out.after (hF5.mono (fun _ _ e => e.elim)))) (fun hH => ?_)
       clear hK K
       try simp only [Act.put, uA, uZ, uS, vA, vZ, vS]
       refine tkZ 7 ?_; refine tkZ 8 ?_; refine tkZ 9 ?_
       refine tkO 11 (fun K hK => ?_)
       refine wp_store_row 140 (.tmp 7) (.tmp 136) rfl ab #[.string ga.name, i64 ga.hav, i64 ga.set_, i64 ga.lim] (by rw [Hab.out] <;> rfl) rfl 140 #[.string ByteArray.empty, i64 0, i64 0, i64 0] hal (by kernel_rfl) rfl (by simp [Value.oneCell']) ?_
       have hF5 := hF5.own_row Hge5.out #[.string ga.name, i64 ga.hav, i64 ga.set_, i64 ga.lim]
       have hal := setRow_heap _ ab _ #[.string ga.name, i64 ga.hav, i64 ga.set_, i64 ga.lim] _ _ hal
       refine hK.out _ _ (HSS.out _ (HG2.out.after (hF5.mono (fun _ _ e => e.elim)))) (fun hH => ?_)
       clear hK K
       try simp only [Act.put, uA, uZ, uS]
       refine tkL (fun K hK => ?_)
       go_simp
       refine hK.out _ _ ?_
       clear hK K
       try simp only [Act.put, uA, uZ, uS, vA, vZ, vS]
       refine tkD ?_
       repeat go_step
       go_meet
       exact ⟨ab, by rw [Hab.out] <;> rfl, rfl, hal, hF5⟩
      exact AllReadyL.nil
     case rest =>
      obtain ⟨ab, h7, h8, hal, hF5⟩ := hcut
      obtain ⟨W7, hW7⟩ : ∃ W7, W7 = wc := ⟨wc, rfl⟩
      rw [← hW7] at hal hF5 ⊢
      subst h7 h8
      have Hfin := Lib.hid (fun (cs : Array Value) => Hrow.out W7 _ cs (HB5.out.kept hF5 (fun _ _ => id) (fun _ _ => id)) (HG5.out.after (hF5.mono (fun _ _ e => e.elim))))
      have hr7 := (hF5.block rb hlt5 (fun e => e)).trans Hr5.out
      have k1 := cell_of_row _ ab 1 _ _ (0, 0) hal
      have k2 := cell_of_row _ ab 2 _ _ (0, 0) hal
      simp only [List.getElem?_toArray, List.getElem?_cons_zero, List.getElem?_cons_succ] at k1 k2
      clear hF5 hal hW7 HGt
      by_cases he : er = 0
      ·subst he
       by_cases hf : gf = 0
       ·have HR1 := Lib.hid (show R = _ by rw [HRR.out, withN_ok Hg.out hf])
        subst hf
        have hrow := setRow_heap W7 rb _ #[i64 0, i64 ga.hav, i64 ga.set_, i64 nn] _ _ hr7
        go_wp2_with (refine wpList_store_row rfl 31 (.tmp 4) (.tmp 150) rfl rb #[i64 0, i64 ga.hav, i64 ga.set_, i64 nn] rfl rfl 31 #[i64 0, i64 0, i64 0, i64 0] hr7 (by kernel_rfl) rfl (by simp [Value.oneCell']) ?_)
        rw [HR1.out]
        exact bodyPost_ret (results_cell_row rfl _ _ rb 31 _ (0, 0) _ rfl hrow Tryz.underlying31 rfl (by kernel_rfl)) rfl ⟨rfl, Hfin.out _⟩
       ·have q1 : (gf != 0) = true := by simpa using hf
        have HR1 := Lib.hid (show R = _ by rw [HRR.out, withN_none Hg.out hf])
        clear hf
        have hrow := setRow_heap W7 rb _ #[i64 gf, i64 0, i64 0, i64 0] _ _ hr7
        go_wp2_with (refine wpList_store_row rfl 31 (.tmp 4) (.tmp 144) rfl rb #[i64 gf, i64 0, i64 0, i64 0] rfl rfl 31 #[i64 0, i64 0, i64 0, i64 0] hr7 (by kernel_rfl) rfl (by simp [Value.oneCell']) ?_)
        rw [HR1.out]
        exact bodyPost_ret (results_cell_row rfl _ _ rb 31 _ (0, 0) _ rfl hrow Tryz.underlying31 rfl (by kernel_rfl)) rfl ⟨rfl, Hfin.out _⟩
      ·have q0 : (er == 0) = false := beq_eq_false_iff_ne.2 he
       have q1 : (er != 0) = true := by simpa using he
       have HR1 := Lib.hid (show R = _ by rw [HRR.out, withN_err he])
       clear he
       have hrow := setRow_heap W7 rb _ #[i64 er, i64 0, i64 0, i64 0] _ _ hr7
       go_wp2_with (refine wpList_store_row rfl 31 (.tmp 4) (.tmp 144) rfl rb #[i64 er, i64 0, i64 0, i64 0] rfl rfl 31 #[i64 0, i64 0, i64 0, i64 0] hr7 (by kernel_rfl) rfl (by simp [Value.oneCell']) ?_)
       rw [HR1.out]
       exact bodyPost_ret (results_cell_row rfl _ _ rb 31 _ (0, 0) _ rfl hrow Tryz.underlying31 rfl (by kernel_rfl)) rfl ⟨rfl, Hfin.out _⟩
end Go.Proofs.YtampniiehgimhaaGreat
