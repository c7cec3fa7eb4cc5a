/- the reference's ReadTold -/
import Derived.Test.YtogecfddkohigaaRows
import Derived.Test.YtogecfddkohigaaRfRead
import Derived.Test.YtogecfddkohigaaTRead
import Derived.WalkKit
import Derived.WalkSpells
import Derived.WalkLawsBesides
import Derived.Deep.QuietTactic
import Derived.BigQuiet
import Derived.Laws.StructEq
import Derived.Deep.DeepFit
import Derived.StillTailTactics
namespace Go.Proofs.Ytogecfddkohigaa
open Go.RowKit
theorem doneRd_of {err : Int} {l : List UInt8} (h1 : err = 0) (h2 : l = []) : (doneRd err l).1 = 0 := by subst h1 h2; rfl
set_option maxRecDepth 100000 in
set_option maxHeartbeats 8000000 in
theorem rtread_c (A : Option Addr) (c : Nat) (l : List UInt8) (w : World) (h : Sl w w.heap.size A c l) (hn : l.length ≤ 60000) :
    Calls Try.prog 37 #[.slice A l.length c] w fun e w' => e = .returned (.tuple #[(readT l).v, i64 (toldE l)]) ∧ Below w.heap.size w w' := by
  obtain ⟨r, hr, hone⟩ := h.one (Nat.le_refl _)
  have hbw := ((Below.refl w.heap.size w).alloc (Nat.le_refl _) (.cells #[i64 0, i64 0, i64 0, i64 0] 49)).alloc (by simp) (.cells #[.slice A l.length c, i64 0] 93)
  have hR : RQ ((w.alloc (.cells #[i64 0, i64 0, i64 0, i64 0] 49)).alloc (.cells #[.slice A l.length c, i64 0] 93)) (w.heap.size + 1) r 0 l := ⟨by omega, A, c, heap_alloc2_new w _ _, hone _ hbw⟩
  have hr1 := heap_alloc2_old w (.cells #[i64 0, i64 0, i64 0, i64 0] 49) (.cells #[.slice A l.length c, i64 0] 93)
  have hlt : r < ((w.alloc (.cells #[i64 0, i64 0, i64 0, i64 0] 49)).alloc (.cells #[.slice A l.length c, i64 0] 93)).heap.size := by simp; omega
  clear hone h
  go_enter Try.func37, Try.ntmps37
  go_wp2_with fail
  generalize (w.alloc (.cells #[i64 0, i64 0, i64 0, i64 0] 49)).alloc (.cells #[.slice A l.length c, i64 0] 93) = W1 at *
  generalize hg : w.heap.size + 1 = g at *
  have l0 : ((0, l) : St).2.length ≤ 60000 := hn
  have hC := qrange_c g r 0 14 (((0, l) : St)).1 (((0, l) : St)).2 _ hR hlt (by omega)
  have l1 : (rangeRd 0 14 (((0, l) : St)).1 (((0, l) : St)).2).2.2.length ≤ 60000 := Nat.le_trans (rangeRd_left 0 14 (((0, l) : St)).1 (((0, l) : St)).2).1 l0
  obtain ⟨q1, hq⟩ : ∃ q, rangeRd 0 14 (((0, l) : St)).1 (((0, l) : St)).2 = q := ⟨_, rfl⟩
  rw [hq] at hC l1
  have Hq1 := Lib.hid hq
  clear hq
  skip
  refine hC.mono ?_
  rintro e Wq1 ⟨rfl, hR, hG⟩
  clear hC
  have hbw := hbw.trans (below_of_grown hG (B := w.heap.size) hbw.size (fun k e => by injection e; omega))
  have hlt := Nat.lt_of_lt_of_le hlt hG.size
  have hr1 := (hG.block _ (Array.getElem?_eq_some_iff.1 hr1).1 (fun e => by injection e; omega)).trans hr1
  have hR : RQ Wq1 g r q1.2.1 q1.2.2 := hR
  clear hG
  have hC := qnum_c g r (q1.2).1 (q1.2).2 _ hR hlt (by omega)
  have l2 : (numRd (q1.2).1 (q1.2).2).2.2.length ≤ 60000 := Nat.le_trans (numRd_left (q1.2).1 (q1.2).2).1 l1
  obtain ⟨q2, hq⟩ : ∃ q, numRd (q1.2).1 (q1.2).2 = q := ⟨_, rfl⟩
  rw [hq] at hC l2
  have Hq2 := Lib.hid hq
  clear hq
  go_wp2_with fail
  refine hC.mono ?_
  rintro e Wq2 ⟨rfl, hR, hG⟩
  clear hC
  have hbw := hbw.trans (below_of_grown hG (B := w.heap.size) hbw.size (fun k e => by injection e; omega))
  have hlt := Nat.lt_of_lt_of_le hlt hG.size
  have hr1 := (hG.block _ (Array.getElem?_eq_some_iff.1 hr1).1 (fun e => by injection e; omega)).trans hr1
  have hR : RQ Wq2 g r q2.2.1 q2.2.2 := hR
  clear hG
  have hC := qnum_c g r (q2.2).1 (q2.2).2 _ hR hlt (by omega)
  have l3 : (numRd (q2.2).1 (q2.2).2).2.2.length ≤ 60000 := Nat.le_trans (numRd_left (q2.2).1 (q2.2).2).1 l2
  obtain ⟨q3, hq⟩ : ∃ q, numRd (q2.2).1 (q2.2).2 = q := ⟨_, rfl⟩
  rw [hq] at hC l3
  have Hq3 := Lib.hid hq
  clear hq
  go_wp2_with fail
  refine hC.mono ?_
  rintro e Wq3 ⟨rfl, hR, hG⟩
  clear hC
  have hbw := hbw.trans (below_of_grown hG (B := w.heap.size) hbw.size (fun k e => by injection e; omega))
  have hlt := Nat.lt_of_lt_of_le hlt hG.size
  have hr1 := (hG.block _ (Array.getElem?_eq_some_iff.1 hr1).1 (fun e => by injection e; omega)).trans hr1
  have hR : RQ Wq3 g r q3.2.1 q3.2.2 := hR
  clear hG
  have hC := qnum_c g r (q3.2).1 (q3.2).2 _ hR hlt (by omega)
  have l4 : (numRd (q3.2).1 (q3.2).2).2.2.length ≤ 60000 := Nat.le_trans (numRd_left (q3.2).1 (q3.2).2).1 l3
  obtain ⟨q4, hq⟩ : ∃ q, numRd (q3.2).1 (q3.2).2 = q := ⟨_, rfl⟩
  rw [hq] at hC l4
  have Hq4 := Lib.hid hq
  clear hq
  go_wp2_with fail
  refine hC.mono ?_
  rintro e Wq4 ⟨rfl, hR, hG⟩
  clear hC
  have hbw := hbw.trans (below_of_grown hG (B := w.heap.size) hbw.size (fun k e => by injection e; omega))
  have hlt := Nat.lt_of_lt_of_le hlt hG.size
  have hr1 := (hG.block _ (Array.getElem?_eq_some_iff.1 hr1).1 (fun e => by injection e; omega)).trans hr1
  have hR : RQ Wq4 g r q4.2.1 q4.2.2 := hR
  clear hG
  have hraw : rawT l = ⟨q1.1.1, q2.1.1, q3.1.1, q4.1.1⟩ ∧ (tq4 l).2 = q4.2 := by
    have e1 : tq1 l = q1 := Hq1.out
    have e2 : tq2 l = q2 := by unfold tq2; rw [e1]; exact Hq2.out
    have e3 : tq3 l = q3 := by unfold tq3; rw [e2]; exact Hq3.out
    have e4 : tq4 l = q4 := by unfold tq4; rw [e3]; exact Hq4.out
    refine ⟨?_, by rw [e4]⟩
    unfold rawT
    rw [e1, e2, e3, e4]
  have Hraw := Lib.hid hraw
  clear hraw Hq1 Hq2 Hq3 Hq4
  obtain ⟨AR, cR, gR, hsR⟩ := hR.2
  have j0 := cell_of_row _ g 0 _ _ (0, 0) gR
  have j1 := cell_of_row _ g 1 _ _ (0, 0) gR
  simp only [List.getElem?_toArray, List.getElem?_cons_zero, List.getElem?_cons_succ] at j0 j1
  clear gR hsR
  by_cases he : q4.2.1 = 0
  · have g1 : (q4.2.1 != 0) = false := by rw [he]; rfl
    have He := Lib.hid he
    by_cases ht : q4.2.2 = []
    · have Ht := Lib.hid ht
      have g2 : decide ((0 : Int) < (q4.2.2.length : Int)) = false := by rw [ht]; rfl
      have g3 : ¬ 0 < q4.2.2.length := by rw [ht]; simp
      clear he
      have HrO := Lib.hid (show toldOk l = true by unfold toldOk; rw [Hraw.out.2]; exact decide_eq_true (doneRd_of He.out Ht.out))
      have hRow := setRow_heap Wq4 w.heap.size _ #[i64 q1.1.1, i64 q2.1.1, i64 q3.1.1, i64 q4.1.1] _ _ hr1
      have HRow := Lib.hid hRow
      have HRes := Lib.hid hr1
      have HBw := Lib.hid (hbw.trans (⟨rfl, rfl, rfl, by simp, fun k hk => setRow_other _ _ _ _ (by omega)⟩ : Below w.heap.size Wq4 (Wq4.setRow w.heap.size #[i64 q1.1.1, i64 q2.1.1, i64 q3.1.1, i64 q4.1.1])))
      clear hRow hr1
      go_wp2_with (refine wpList_store_row rfl 49 (.tmp 2) (.tmp 54) rfl w.heap.size #[i64 q1.1.1, i64 q2.1.1, i64 q3.1.1, i64 q4.1.1] rfl rfl 49 #[i64 0, i64 0, i64 0, i64 0] HRes.out (by kernel_rfl) rfl (by simp [Value.oneCell']) ?_)
      (try simp only [Exit.inBlock, Exit.then]); refine bodyPost_ret (results_cell_row_tmp rfl _ _ w.heap.size 49 _ (0, 0) _ rfl HRow.out Try.underlying49 rfl (by kernel_rfl)) rfl ?_
      exact ⟨by unfold readT toldE; rw [HrO.out]; simp only [Hraw.out.1, if_true]; rfl, HBw.out⟩
    · have Ht := Lib.hid ht
      have g2 : decide ((0 : Int) < (q4.2.2.length : Int)) = true := by rw [decide_eq_true_eq]; have := List.length_pos_iff.2 ht; omega
      have g3 : 0 < q4.2.2.length := List.length_pos_iff.2 ht
      clear he
      have HrO := Lib.hid (show toldOk l = false by unfold toldOk; rw [Hraw.out.2]; exact decide_eq_false (fun h => Ht.out (doneRd_nil h).2))
      have hRow := setRow_heap Wq4 w.heap.size _ #[i64 0, i64 0, i64 0, i64 0] _ _ hr1
      have HRow := Lib.hid hRow
      have HRes := Lib.hid hr1
      have HBw := Lib.hid (hbw.trans (⟨rfl, rfl, rfl, by simp, fun k hk => setRow_other _ _ _ _ (by omega)⟩ : Below w.heap.size Wq4 (Wq4.setRow w.heap.size #[i64 0, i64 0, i64 0, i64 0])))
      clear hRow hr1
      go_wp2_with (refine wpList_store_row rfl 49 (.tmp 2) (.tmp 49) rfl w.heap.size #[i64 0, i64 0, i64 0, i64 0] rfl rfl 49 #[i64 0, i64 0, i64 0, i64 0] HRes.out (by kernel_rfl) rfl (by simp [Value.oneCell']) ?_)
      (try simp only [Exit.inBlock, Exit.then]); refine bodyPost_ret (results_cell_row_tmp rfl _ _ w.heap.size 49 _ (0, 0) _ rfl HRow.out Try.underlying49 rfl (by kernel_rfl)) rfl ?_
      exact ⟨by unfold readT toldE; rw [HrO.out]; rfl, HBw.out⟩
  · have g1 : (q4.2.1 != 0) = true := by simpa using he
    have He := Lib.hid he
    clear he
    have HrO := Lib.hid (show toldOk l = false by unfold toldOk; rw [Hraw.out.2]; exact decide_eq_false (fun h => He.out (doneRd_nil h).1))
    have hRow := setRow_heap Wq4 w.heap.size _ #[i64 0, i64 0, i64 0, i64 0] _ _ hr1
    have HRow := Lib.hid hRow
    have HRes := Lib.hid hr1
    have HBw := Lib.hid (hbw.trans (⟨rfl, rfl, rfl, by simp, fun k hk => setRow_other _ _ _ _ (by omega)⟩ : Below w.heap.size Wq4 (Wq4.setRow w.heap.size #[i64 0, i64 0, i64 0, i64 0])))
    clear hRow hr1
    go_wp2_with (refine wpList_store_row rfl 49 (.tmp 2) (.tmp 49) rfl w.heap.size #[i64 0, i64 0, i64 0, i64 0] rfl rfl 49 #[i64 0, i64 0, i64 0, i64 0] HRes.out (by kernel_rfl) rfl (by simp [Value.oneCell']) ?_)
    (try simp only [Exit.inBlock, Exit.then]); refine bodyPost_ret (results_cell_row_tmp rfl _ _ w.heap.size 49 _ (0, 0) _ rfl HRow.out Try.underlying49 rfl (by kernel_rfl)) rfl ?_
    exact ⟨by unfold readT toldE; rw [HrO.out]; rfl, HBw.out⟩
end Go.Proofs.Ytogecfddkohigaa
