/- OrderReplies -/
import Derived.Test.YtogecfddkohigaaRows
import Derived.Test.YtogecfddkohigaaCodec
import Derived.Test.YtogecfddkohigaaLives6
import Derived.Test.YtogecfddkohigaaFewBase
import Derived.Deep.RegionHeld3
import Derived.WalkKit
import Derived.WalkSpells
import Derived.WalkLawsBesides
import Derived.Deep.QuietTactic
import Derived.BigQuiet
import Derived.Laws.StructEq
import Derived.Deep.DeepFit
import Derived.StillTailTactics
namespace Go.Proofs.Ytogecfddkohigaa
open Go.RowKit
theorem neq_rp (a b c d : Int) (w : World) : (binOp .neq 49 (.agg #[i64 a, i64 b, i64 c, i64 d]) (.agg #[i64 a, i64 b, i64 c, i64 d])).run Try.prog w = .ok (.bool false) w := by
  have u3 := Try.underlying3
  have a3 := Try.isAgg3
  have z3 := Try.sizeOf3
  have u4 := Try.underlying2
  have a4 := Try.isAgg2
  have z4 := Try.sizeOf2
  have u5 := Try.underlying38
  have a5 := Try.isAgg38
  have z5 := Try.sizeOf38
  have hS : Try.prog.underlying 49 = some (.struct (Try.prog.fieldsOf 49)) := by kernel_rfl
  have hp : Try.prog.stoodInHeld 49 = false := by kernel_rfl
  rw [run_neq_struct, show (10000 : Nat) = 9999 + 1 from rfl, run_equalIn_agg w 9999 49 _ _ hS hp]
  simp only [Program.fieldsOf, Try.underlying49]
  go_simp
theorem eql_rp (a b c d : Int) (w : World) : (binOp .eql 49 (.agg #[i64 a, i64 b, i64 c, i64 d]) (.agg #[i64 a, i64 b, i64 c, i64 d])).run Try.prog w = .ok (.bool true) w := by
  have u3 := Try.underlying3
  have a3 := Try.isAgg3
  have z3 := Try.sizeOf3
  have u4 := Try.underlying2
  have a4 := Try.isAgg2
  have z4 := Try.sizeOf2
  have u5 := Try.underlying38
  have a5 := Try.isAgg38
  have z5 := Try.sizeOf38
  have hS : Try.prog.underlying 49 = some (.struct (Try.prog.fieldsOf 49)) := by kernel_rfl
  have hp : Try.prog.stoodInHeld 49 = false := by kernel_rfl
  rw [run_eql_struct, show (10000 : Nat) = 9999 + 1 from rfl, run_equalIn_agg w 9999 49 _ _ hS hp]
  simp only [Program.fieldsOf, Try.underlying49]
  go_simp
set_option maxRecDepth 100000 in
set_option maxHeartbeats 8000000 in
theorem orReplies_c (A : Option Addr) (c : Nat) (x : Rp) (l : List UInt8) (w : World) (hx : InP x) (h : Sl w w.heap.size A c l) :
    Calls Try.prog 7 #[x.v, .slice A l.length c] w fun e w' => e = .returned (.bool true) ∧ Below w.heap.size w w' := by
  have hlc : l.length ≤ c := h.1
  have hlm : l.length ≤ 9223372036854775807 := h.len_le
  have hn : (min (l.length : Int) 100).toNat = (l.take 100).length := by simp only [List.length_take]; omega
  have hL : (l.take 100).length ≤ 100 := by simp only [List.length_take]; omega
  have hT := h.take 100
  generalize l.take 100 = L at *
  have HT := Lib.hid fun W (hb : Below w.heap.size w W) => (show Calls Try.prog 36 #[.slice A (min (l.length : Int) 100).toNat c] W fun e w' => e = .returned (.tuple #[(readT L).v, i64 (toldE L)]) ∧ Below W.heap.size W w' by rw [hn]; exact tread_c A c L W (hT.later hb) (by omega))
  have HS := Lib.hid fun W (hb : Below w.heap.size w W) B d M (hM : Sl W W.heap.size B d M) => (show Calls Try.prog 30 #[.slice B M.length d, .slice A (min (l.length : Int) 100).toNat c] W fun e w' => e = .returned (.bool (M == L)) ∧ Below W.heap.size W w' by rw [hn]; exact same2_c B A d c M L W hM (hT.later hb))
  clear hn hT h
  have hbw := (Below.refl w.heap.size w).alloc (Nat.le_refl _) (.cells #[i64 x.err, i64 x.hav, i64 x.set_, i64 x.num] 49)
  have hz := (show w.heap.size < (w.alloc (.cells #[i64 x.err, i64 x.hav, i64 x.set_, i64 x.num] 49)).heap.size by simp)
  have hg := heap_alloc_new w (.cells #[i64 x.err, i64 x.hav, i64 x.set_, i64 x.num] 49)
  have k0 := cell_of_row _ w.heap.size 0 _ _ (0, 0) hg
  have k1 := cell_of_row _ w.heap.size 1 _ _ (0, 0) hg
  have k2 := cell_of_row _ w.heap.size 2 _ _ (0, 0) hg
  have k3 := cell_of_row _ w.heap.size 3 _ _ (0, 0) hg
  simp only [List.getElem?_toArray, List.getElem?_cons_zero, List.getElem?_cons_succ] at k0 k1 k2 k3
  clear hg
  have hTold := Lib.hid fun W => told_c x W hx
  unfold Rp.v at hTold ⊢
  go_enter Try.func7, Try.ntmps7
  go_wp2_with fail
  generalize w.alloc (.cells #[i64 x.err, i64 x.hav, i64 x.set_, i64 x.num] 49) = w0 at *
  refine (lives_06 _).mono ?_
  rintro e w1 ⟨rfl, hF⟩
  have k0 := (hF.cell (p := ⟨w.heap.size, 0, none⟩) hz).trans k0
  have k1 := (hF.cell (p := ⟨w.heap.size, 1, none⟩) hz).trans k1
  have k2 := (hF.cell (p := ⟨w.heap.size, 2, none⟩) hz).trans k2
  have k3 := (hF.cell (p := ⟨w.heap.size, 3, none⟩) hz).trans k3
  have hbw := below_on hbw (Nat.le_refl _) hF
  have hz := Nat.lt_of_lt_of_le hz hF.size
  clear hF
  go_wp2_with fail
  refine (hTold.out _).mono ?_
  rintro e w2 ⟨v, rfl, hO, hF⟩
  obtain ⟨A2, c2, rfl, hs⟩ := hO.sl
  have k0 := (hF.cell (p := ⟨w.heap.size, 0, none⟩) hz).trans k0
  have k1 := (hF.cell (p := ⟨w.heap.size, 1, none⟩) hz).trans k1
  have k2 := (hF.cell (p := ⟨w.heap.size, 2, none⟩) hz).trans k2
  have k3 := (hF.cell (p := ⟨w.heap.size, 3, none⟩) hz).trans k3
  have hbw := below_on hbw (Nat.le_refl _) hF
  have hz := Nat.lt_of_lt_of_le hz hF.size
  have hR := tread_c A2 c2 (toldB x) w2 hs (Nat.le_trans (toldB_le hx) (by decide))
  clear hF hO hs hTold
  go_wp2_with fail
  refine hR.mono ?_
  rintro e w3 ⟨rfl, hF⟩
  have k0 := (hF.cell (p := ⟨w.heap.size, 0, none⟩) hz).trans k0
  have k1 := (hF.cell (p := ⟨w.heap.size, 1, none⟩) hz).trans k1
  have k2 := (hF.cell (p := ⟨w.heap.size, 2, none⟩) hz).trans k2
  have k3 := (hF.cell (p := ⟨w.heap.size, 3, none⟩) hz).trans k3
  have hbw := below_on hbw (Nat.le_refl _) hF
  have hz := Nat.lt_of_lt_of_le hz hF.size
  clear hF hR
  have hB := (Below.refl w3.heap.size w3).alloc (Nat.le_refl _) (.cells #[i64 (readT (toldB x)).err, i64 (readT (toldB x)).hav, i64 (readT (toldB x)).set_, i64 (readT (toldB x)).num] 49)
  have HB := Lib.hid (below_on hbw (Nat.le_refl _) hB)
  have HC := Lib.hid (HT.out _ HB.out)
  clear hB hbw
  have hcase : (0 ≤ x.err ∧ x.err ≤ 14) ∨ x.err < 0 ∨ 14 < x.err := by omega
  rcases hcase with hin | hin | hin
  · obtain ⟨r1, r2⟩ := told_law1 hx hin
    have hE : toldE (toldB x) = 0 := by unfold toldE; rw [if_pos r1]
    rw [r2] at HB HC
    rw [hE, r2]
    have g1 : decide ((0 : Int) ≤ x.err) = true := decide_eq_true hin.1
    have g2 : decide (x.err ≤ (14 : Int)) = true := decide_eq_true hin.2
    have q1 := neq_rp x.err x.hav x.set_ x.num
    unfold Rp.v
    clear hin r1 r2 hE hx
    go_wp2_with fail
    refine HC.out.mono ?_
    rintro e w4 ⟨rfl, hF⟩
    have hbw := below_on HB.out (Nat.le_refl _) hF
    clear HC hF HB HT q1 g1 g2
    clear k0 k1 k2 k3 hz
    by_cases hok : toldOk L = true
    · obtain ⟨t1, t2⟩ := told_law2 hok
      have hE : toldE L = 0 := by unfold toldE; rw [if_pos hok]
      rw [hE]
      clear hE hok
      generalize readT L = y at *
      have T1 := Lib.hid t1
      clear t1
      have j0 : (0 : Int) ≤ min (l.length : Int) 100 := by omega
      have j1 : min (l.length : Int) 100 ≤ (c : Int) := by omega
      have hb4 := (Below.refl w4.heap.size w4).alloc (Nat.le_refl _) (.cells #[i64 y.err, i64 y.hav, i64 y.set_, i64 y.num] 49)
      have hz := (show w4.heap.size < (w4.alloc (.cells #[i64 y.err, i64 y.hav, i64 y.set_, i64 y.num] 49)).heap.size by simp)
      have hg := heap_alloc_new w4 (.cells #[i64 y.err, i64 y.hav, i64 y.set_, i64 y.num] 49)
      have k0 := cell_of_row _ w4.heap.size 0 _ _ (0, 0) hg
      have k1 := cell_of_row _ w4.heap.size 1 _ _ (0, 0) hg
      have k2 := cell_of_row _ w4.heap.size 2 _ _ (0, 0) hg
      have k3 := cell_of_row _ w4.heap.size 3 _ _ (0, 0) hg
      simp only [List.getElem?_toArray, List.getElem?_cons_zero, List.getElem?_cons_succ] at k0 k1 k2 k3
      have hbw := below_on hbw (Nat.le_refl _) hb4
      clear hg hb4
      unfold Rp.v
      go_wp2_with fail
      generalize w4.heap.size = q at *
      generalize w4.alloc (.cells #[i64 y.err, i64 y.hav, i64 y.set_, i64 y.num] 49) = W5 at *
      have h0 := (Below.refl W5.heap.size W5).drew
      have x1 : ∀ W, Calls Try.prog 39 #[.agg #[i64 y.err, i64 y.hav, i64 y.set_, i64 y.num]] W fun e w' => ∃ v, e = .returned v ∧ Own w' W.heap.size 5 v (toldB y) ∧ Below W.heap.size W w' := fun W => told_c y W t2
      have hSS : ∀ V, Below W5.heap.size W5 V → (fun V : World => Below W5.heap.size W5 V ∧ V.cell? ⟨q, 0, none⟩ = some (i64 y.err) ∧ V.cell? ⟨q, 1, none⟩ = some (i64 y.hav) ∧ V.cell? ⟨q, 2, none⟩ = some (i64 y.set_) ∧ V.cell? ⟨q, 3, none⟩ = some (i64 y.num)) V := fun V h => ⟨h, (h.cell (p := ⟨q, 0, none⟩) hz).trans k0, (h.cell (p := ⟨q, 1, none⟩) hz).trans k1, (h.cell (p := ⟨q, 2, none⟩) hz).trans k2, (h.cell (p := ⟨q, 3, none⟩) hz).trans k3⟩
      refine wp_region_noPanic ?_
      refine wp_region_held_drew (S := fun V => Below W5.heap.size W5 V ∧ V.cell? ⟨q, 0, none⟩ = some (i64 y.err) ∧ V.cell? ⟨q, 1, none⟩ = some (i64 y.hav) ∧ V.cell? ⟨q, 2, none⟩ = some (i64 y.set_) ∧ V.cell? ⟨q, 3, none⟩ = some (i64 y.num)) (by kernel_rfl) (hSS _ h0) (fun hH => ?_)
      refine wpAnyH_take (i := 0) (v := ?v1) rfl (by kernel_rfl) (by kernel_rfl) (by kernel_rfl) (fun _ _ _ h => h) (Or.inl ⟨by kernel_rfl, ?hy1⟩) (by assumption) ?r1
      case hy1 => (intro W hSW; obtain ⟨_, f0, f1, f2, f3⟩ := hSW; go_simp; try with_reducible rfl)
      simp only [Act.put, List.getElem_toArray, List.getElem_cons_zero, List.setIfInBounds_toArray, List.set_cons_zero, List.set_cons_succ]
      refine wpAnyH_take (i := 1) (v := ?v2) rfl (by kernel_rfl) (by kernel_rfl) (by kernel_rfl) (fun _ _ _ h => h) (Or.inl ⟨by kernel_rfl, ?hy2⟩) (by assumption) ?r2
      case hy2 => (intro W hSW; obtain ⟨_, f0, f1, f2, f3⟩ := hSW; go_simp; try with_reducible rfl)
      simp only [Act.put, List.getElem_toArray, List.getElem_cons_zero, List.getElem_cons_succ, List.setIfInBounds_toArray, List.set_cons_zero, List.set_cons_succ]
      refine wpAnyH_take (i := 2) (v := ?v3) rfl (by kernel_rfl) (by kernel_rfl) (by kernel_rfl) (fun _ _ _ h => h) (Or.inl ⟨by kernel_rfl, ?hy3⟩) (by assumption) ?r3
      case hy3 => (intro W hSW; obtain ⟨_, f0, f1, f2, f3⟩ := hSW; go_simp; try with_reducible rfl)
      simp only [Act.put, List.getElem_toArray, List.getElem_cons_zero, List.getElem_cons_succ, List.setIfInBounds_toArray, List.set_cons_zero, List.set_cons_succ]
      refine wpAnyH_take (i := 3) (v := undef) rfl (by kernel_rfl) (by kernel_rfl) (by kernel_rfl) (fun _ _ _ h => h) (Or.inr ⟨by kernel_rfl, rfl⟩) (by assumption) ?r4
      simp only [Act.put, List.getElem_toArray, List.getElem_cons_zero, List.getElem_cons_succ, List.setIfInBounds_toArray, List.set_cons_zero, List.set_cons_succ]
      refine wpAnyH_take (i := 4) (v := undef) rfl (by kernel_rfl) (by kernel_rfl) (by kernel_rfl) (fun _ _ _ h => h) (Or.inr ⟨by kernel_rfl, rfl⟩) (by assumption) ?r5
      simp only [Act.put, List.getElem_toArray, List.getElem_cons_zero, List.getElem_cons_succ, List.setIfInBounds_toArray, List.set_cons_zero, List.set_cons_succ]
      refine wpAnyH_take (i := 5) (v := undef) rfl (by kernel_rfl) (by kernel_rfl) (by kernel_rfl) (fun _ _ _ h => h) (Or.inr ⟨by kernel_rfl, rfl⟩) (by assumption) ?r6
      simp only [Act.put, List.getElem_toArray, List.getElem_cons_zero, List.getElem_cons_succ, List.setIfInBounds_toArray, List.set_cons_zero, List.set_cons_succ]
      refine wpAnyH_take (i := 6) (v := ?v7) rfl (by kernel_rfl) (by kernel_rfl) (by kernel_rfl) (fun _ _ _ h => h) (Or.inl ⟨by kernel_rfl, ?hy7⟩) (by assumption) ?r7
      case hy7 => (intro W hSW; obtain ⟨_, f0, f1, f2, f3⟩ := hSW; go_simp; try with_reducible rfl)
      simp only [Act.put, List.getElem_toArray, List.getElem_cons_zero, List.getElem_cons_succ, List.setIfInBounds_toArray, List.set_cons_zero, List.set_cons_succ]
      refine wpAnyH_take (i := 7) (v := ?v8) rfl (by kernel_rfl) (by kernel_rfl) (by kernel_rfl) (fun _ _ _ h => h) (Or.inl ⟨by kernel_rfl, ?hy8⟩) (by assumption) ?r8
      case hy8 => (intro W hSW; obtain ⟨_, f0, f1, f2, f3⟩ := hSW; go_simp; try with_reducible rfl)
      simp only [Act.put, List.getElem_toArray, List.getElem_cons_zero, List.getElem_cons_succ, List.setIfInBounds_toArray, List.set_cons_zero, List.set_cons_succ]
      refine wpAnyH_take (i := 8) (v := ?v9) rfl (by kernel_rfl) (by kernel_rfl) (by kernel_rfl) (fun _ _ _ h => h) (Or.inl ⟨by kernel_rfl, ?hy9⟩) (by assumption) ?r9
      case hy9 => (intro W hSW; obtain ⟨_, f0, f1, f2, f3⟩ := hSW; go_simp; try with_reducible rfl)
      simp only [Act.put, List.getElem_toArray, List.getElem_cons_zero, List.getElem_cons_succ, List.setIfInBounds_toArray, List.set_cons_zero, List.set_cons_succ]
      refine wpAnyH_take (i := 9) (v := ?v10) rfl (by kernel_rfl) (by kernel_rfl) (by kernel_rfl) (fun _ _ _ h => h) (Or.inl ⟨by kernel_rfl, ?hy10⟩) (by assumption) ?r10
      case hy10 => (intro W hSW; obtain ⟨_, f0, f1, f2, f3⟩ := hSW; go_simp; try with_reducible rfl)
      simp only [Act.put, List.getElem_toArray, List.getElem_cons_zero, List.getElem_cons_succ, List.setIfInBounds_toArray, List.set_cons_zero, List.set_cons_succ]
      refine wpAnyH_take (i := 10) (v := ?v11) rfl (by kernel_rfl) (by kernel_rfl) (by kernel_rfl) (fun _ _ _ h => h) (Or.inl ⟨by kernel_rfl, ?hy11⟩) (by assumption) ?r11
      case hy11 => (intro W hSW; obtain ⟨_, f0, f1, f2, f3⟩ := hSW; go_simp; try with_reducible rfl)
      simp only [Act.put, List.getElem_toArray, List.getElem_cons_zero, List.getElem_cons_succ, List.setIfInBounds_toArray, List.set_cons_zero, List.set_cons_succ]
      refine wpAnyH_take (i := 11) (v := ?v12) rfl (by kernel_rfl) (by kernel_rfl) (by kernel_rfl) (fun _ _ _ h => h) (Or.inl ⟨by kernel_rfl, ?hy12⟩) (by assumption) ?r12
      case hy12 => (intro W hSW; obtain ⟨_, f0, f1, f2, f3⟩ := hSW; go_simp; try with_reducible rfl)
      simp only [Act.put, List.getElem_toArray, List.getElem_cons_zero, List.getElem_cons_succ, List.setIfInBounds_toArray, List.set_cons_zero, List.set_cons_succ]
      refine wpAnyH_take (i := 13) (v := ?v13) rfl (by kernel_rfl) (by kernel_rfl) (by kernel_rfl) (fun _ _ _ h => h) (Or.inl ⟨by kernel_rfl, ?hy13⟩) (by assumption) ?r13
      case hy13 => (intro W hSW; obtain ⟨_, f0, f1, f2, f3⟩ := hSW; go_simp; try with_reducible rfl)
      simp only [Act.put, List.getElem_toArray, List.getElem_cons_zero, List.getElem_cons_succ, List.setIfInBounds_toArray, List.set_cons_zero, List.set_cons_succ]
      refine wpAnyH_take (i := 14) (v := ?v14) rfl (by kernel_rfl) (by kernel_rfl) (by kernel_rfl) (fun _ _ _ h => h) (Or.inl ⟨by kernel_rfl, ?hy14⟩) (by assumption) ?r14
      case hy14 => (intro W hSW; obtain ⟨_, f0, f1, f2, f3⟩ := hSW; go_simp; try with_reducible rfl)
      simp only [Act.put, List.getElem_toArray, List.getElem_cons_zero, List.getElem_cons_succ, List.setIfInBounds_toArray, List.set_cons_zero, List.set_cons_succ]
      refine wpAnyH_take (i := 15) (v := ?v15) rfl (by kernel_rfl) (by kernel_rfl) (by kernel_rfl) (fun _ _ _ h => h) (Or.inl ⟨by kernel_rfl, ?hy15⟩) (by assumption) ?r15
      case hy15 => (intro W hSW; obtain ⟨_, f0, f1, f2, f3⟩ := hSW; go_simp; try with_reducible rfl)
      simp only [Act.put, List.getElem_toArray, List.getElem_cons_zero, List.getElem_cons_succ, List.setIfInBounds_toArray, List.set_cons_zero, List.set_cons_succ]
      refine wpAnyH_take (i := 16) (v := ?v16) rfl (by kernel_rfl) (by kernel_rfl) (by kernel_rfl) (fun _ _ _ h => h) (Or.inl ⟨by kernel_rfl, ?hy16⟩) (by assumption) ?r16
      case hy16 => (intro W hSW; obtain ⟨_, f0, f1, f2, f3⟩ := hSW; go_simp; try with_reducible rfl)
      simp only [Act.put, List.getElem_toArray, List.getElem_cons_zero, List.getElem_cons_succ, List.setIfInBounds_toArray, List.set_cons_zero, List.set_cons_succ]
      refine wpAnyH_take (i := 17) (v := ?v17) rfl (by kernel_rfl) (by kernel_rfl) (by kernel_rfl) (fun _ _ _ h => h) (Or.inl ⟨by kernel_rfl, ?hy17⟩) (by assumption) ?r17
      case hy17 => (intro W hSW; obtain ⟨_, f0, f1, f2, f3⟩ := hSW; go_simp; try with_reducible rfl)
      simp only [Act.put, List.getElem_toArray, List.getElem_cons_zero, List.getElem_cons_succ, List.setIfInBounds_toArray, List.set_cons_zero, List.set_cons_succ]
      refine wpAnyH_ready (rs := [12]) (by kernel_rfl) (by simp) ?_
      refine AllReadyH.cons rfl (fun K hK => ?_) AllReadyH.nil
      go_simp
      go_at_call 39
      with_reducible refine (x1 _).mono ?_
      rintro e u1 ⟨v, rfl, hO, hF⟩
      obtain ⟨A1, c1, rfl, hs1⟩ := hO.sl
      have hb1 := below_on h0 (Nat.le_refl _) hF
      clear hO hF
      refine hK.out _ _ (hSS _ hb1) (fun hH2 => ?_)
      clear hK K
      try simp only [Act.put, List.getElem_toArray, List.getElem_cons_zero, List.getElem_cons_succ, List.setIfInBounds_toArray, List.set_cons_zero, List.set_cons_succ]
      refine wpAnyH_ready (rs := [18]) (by kernel_rfl) (by simp) ?_
      refine AllReadyH.cons rfl (fun K hK => ?_) AllReadyH.nil
      go_simp
      go_at_call 30
      refine (HS.out _ (below_on hbw (Nat.le_refl _) hb1) _ _ _ hs1).mono ?_
      rintro e u2 ⟨rfl, hF⟩
      have hb2 := below_on hb1 (Nat.le_refl _) hF
      clear hF
      refine hK.out _ _ (hSS _ hb2) (fun hH3 => ?_)
      clear hH2
      clear hK K
      try simp only [Act.put, List.getElem_toArray, List.getElem_cons_zero, List.getElem_cons_succ, List.setIfInBounds_toArray, List.set_cons_zero, List.set_cons_succ]
      refine wpAnyH_take (i := 19) (v := ?v20) rfl (by kernel_rfl) (by kernel_rfl) (by kernel_rfl) (fun _ _ _ h => h) (Or.inl ⟨by kernel_rfl, ?hy20⟩) (by assumption) ?r20
      case hy20 => (intro W hSW; obtain ⟨_, f0, f1, f2, f3⟩ := hSW; go_simp; try with_reducible rfl)
      simp only [Act.put, List.getElem_toArray, List.getElem_cons_zero, List.getElem_cons_succ, List.setIfInBounds_toArray, List.set_cons_zero, List.set_cons_succ]
      refine wpAnyH_take (i := 20) (v := ?v21) rfl (by kernel_rfl) (by kernel_rfl) (by kernel_rfl) (fun _ _ _ h => h) (Or.inl ⟨by kernel_rfl, ?hy21⟩) (by assumption) ?r21
      case hy21 => (intro W hSW; obtain ⟨_, f0, f1, f2, f3⟩ := hSW; go_simp; try with_reducible rfl)
      simp only [Act.put, List.getElem_toArray, List.getElem_cons_zero, List.getElem_cons_succ, List.setIfInBounds_toArray, List.set_cons_zero, List.set_cons_succ]
      refine wpAnyH_take (i := 21) (v := ?v22) rfl (by kernel_rfl) (by kernel_rfl) (by kernel_rfl) (fun _ _ _ h => h) (Or.inl ⟨by kernel_rfl, ?hy22⟩) (by assumption) ?r22
      case hy22 => (intro W hSW; obtain ⟨_, f0, f1, f2, f3⟩ := hSW; go_simp; try with_reducible rfl)
      simp only [Act.put, List.getElem_toArray, List.getElem_cons_zero, List.getElem_cons_succ, List.setIfInBounds_toArray, List.set_cons_zero, List.set_cons_succ]
      refine wpAnyH_done (by kernel_rfl) ?_ _
      refine NoPanic.normal ?_
      go_wp2
      go_ret
      exact ⟨by rw [T1.out]; simp, below_on hbw (Nat.le_refl _) hb2⟩
    · have hok : toldOk L = false := by simpa using hok
      have hE : toldE L = 3 := by unfold toldE; rw [hok]; rfl
      have hy : readT L = ⟨0, 0, 0, 0⟩ := by unfold readT; rw [hok]; rfl
      rw [hE, hy]
      clear hE hy hok
      have q2 := eql_rp 0 0 0 0
      have hb4 := (Below.refl w4.heap.size w4).alloc (Nat.le_refl _) (.cells #[i64 0, i64 0, i64 0, i64 0] 49)
      have hg := heap_alloc_new w4 (.cells #[i64 0, i64 0, i64 0, i64 0] 49)
      have k0 := cell_of_row _ w4.heap.size 0 _ _ (0, 0) hg
      have k1 := cell_of_row _ w4.heap.size 1 _ _ (0, 0) hg
      have k2 := cell_of_row _ w4.heap.size 2 _ _ (0, 0) hg
      have k3 := cell_of_row _ w4.heap.size 3 _ _ (0, 0) hg
      simp only [List.getElem?_toArray, List.getElem?_cons_zero, List.getElem?_cons_succ] at k0 k1 k2 k3
      have hbw := below_on hbw (Nat.le_refl _) hb4
      clear hg hb4
      unfold Rp.v
      go_wp2_with fail
      go_quiet (fail)
      go_wp2
      go_ret
      exact ⟨rfl, below_drewN hbw _⟩
  · have r1 := told_law0 hx (.inl hin)
    have hE : toldE (toldB x) = 3 := by unfold toldE; rw [r1]; rfl
    rw [hE]
    have g1 : decide ((0 : Int) ≤ x.err) = false := decide_eq_false (by omega)
    unfold Rp.v
    clear hin r1 hE hx
    go_wp2_with fail
    refine HC.out.mono ?_
    rintro e w4 ⟨rfl, hF⟩
    have hbw := below_on HB.out (Nat.le_refl _) hF
    clear HC hF HB HT g1
    clear k0 k1 k2 k3 hz
    by_cases hok : toldOk L = true
    · obtain ⟨t1, t2⟩ := told_law2 hok
      have hE : toldE L = 0 := by unfold toldE; rw [if_pos hok]
      rw [hE]
      clear hE hok
      generalize readT L = y at *
      have T1 := Lib.hid t1
      clear t1
      have j0 : (0 : Int) ≤ min (l.length : Int) 100 := by omega
      have j1 : min (l.length : Int) 100 ≤ (c : Int) := by omega
      have hb4 := (Below.refl w4.heap.size w4).alloc (Nat.le_refl _) (.cells #[i64 y.err, i64 y.hav, i64 y.set_, i64 y.num] 49)
      have hz := (show w4.heap.size < (w4.alloc (.cells #[i64 y.err, i64 y.hav, i64 y.set_, i64 y.num] 49)).heap.size by simp)
      have hg := heap_alloc_new w4 (.cells #[i64 y.err, i64 y.hav, i64 y.set_, i64 y.num] 49)
      have k0 := cell_of_row _ w4.heap.size 0 _ _ (0, 0) hg
      have k1 := cell_of_row _ w4.heap.size 1 _ _ (0, 0) hg
      have k2 := cell_of_row _ w4.heap.size 2 _ _ (0, 0) hg
      have k3 := cell_of_row _ w4.heap.size 3 _ _ (0, 0) hg
      simp only [List.getElem?_toArray, List.getElem?_cons_zero, List.getElem?_cons_succ] at k0 k1 k2 k3
      have hbw := below_on hbw (Nat.le_refl _) hb4
      clear hg hb4
      unfold Rp.v
      go_wp2_with fail
      generalize w4.heap.size = q at *
      generalize w4.alloc (.cells #[i64 y.err, i64 y.hav, i64 y.set_, i64 y.num] 49) = W5 at *
      have h0 := (Below.refl W5.heap.size W5).drew
      have x1 : ∀ W, Calls Try.prog 39 #[.agg #[i64 y.err, i64 y.hav, i64 y.set_, i64 y.num]] W fun e w' => ∃ v, e = .returned v ∧ Own w' W.heap.size 5 v (toldB y) ∧ Below W.heap.size W w' := fun W => told_c y W t2
      have hSS : ∀ V, Below W5.heap.size W5 V → (fun V : World => Below W5.heap.size W5 V ∧ V.cell? ⟨q, 0, none⟩ = some (i64 y.err) ∧ V.cell? ⟨q, 1, none⟩ = some (i64 y.hav) ∧ V.cell? ⟨q, 2, none⟩ = some (i64 y.set_) ∧ V.cell? ⟨q, 3, none⟩ = some (i64 y.num)) V := fun V h => ⟨h, (h.cell (p := ⟨q, 0, none⟩) hz).trans k0, (h.cell (p := ⟨q, 1, none⟩) hz).trans k1, (h.cell (p := ⟨q, 2, none⟩) hz).trans k2, (h.cell (p := ⟨q, 3, none⟩) hz).trans k3⟩
      refine wp_region_noPanic ?_
      refine wp_region_held_drew (S := fun V => Below W5.heap.size W5 V ∧ V.cell? ⟨q, 0, none⟩ = some (i64 y.err) ∧ V.cell? ⟨q, 1, none⟩ = some (i64 y.hav) ∧ V.cell? ⟨q, 2, none⟩ = some (i64 y.set_) ∧ V.cell? ⟨q, 3, none⟩ = some (i64 y.num)) (by kernel_rfl) (hSS _ h0) (fun hH => ?_)
      refine wpAnyH_take (i := 0) (v := ?v23) rfl (by kernel_rfl) (by kernel_rfl) (by kernel_rfl) (fun _ _ _ h => h) (Or.inl ⟨by kernel_rfl, ?hy23⟩) (by assumption) ?r23
      case hy23 => (intro W hSW; obtain ⟨_, f0, f1, f2, f3⟩ := hSW; go_simp; try with_reducible rfl)
      simp only [Act.put, List.getElem_toArray, List.getElem_cons_zero, List.setIfInBounds_toArray, List.set_cons_zero, List.set_cons_succ]
      refine wpAnyH_take (i := 1) (v := ?v24) rfl (by kernel_rfl) (by kernel_rfl) (by kernel_rfl) (fun _ _ _ h => h) (Or.inl ⟨by kernel_rfl, ?hy24⟩) (by assumption) ?r24
      case hy24 => (intro W hSW; obtain ⟨_, f0, f1, f2, f3⟩ := hSW; go_simp; try with_reducible rfl)
      simp only [Act.put, List.getElem_toArray, List.getElem_cons_zero, List.getElem_cons_succ, List.setIfInBounds_toArray, List.set_cons_zero, List.set_cons_succ]
      refine wpAnyH_take (i := 2) (v := ?v25) rfl (by kernel_rfl) (by kernel_rfl) (by kernel_rfl) (fun _ _ _ h => h) (Or.inl ⟨by kernel_rfl, ?hy25⟩) (by assumption) ?r25
      case hy25 => (intro W hSW; obtain ⟨_, f0, f1, f2, f3⟩ := hSW; go_simp; try with_reducible rfl)
      simp only [Act.put, List.getElem_toArray, List.getElem_cons_zero, List.getElem_cons_succ, List.setIfInBounds_toArray, List.set_cons_zero, List.set_cons_succ]
      refine wpAnyH_take (i := 3) (v := undef) rfl (by kernel_rfl) (by kernel_rfl) (by kernel_rfl) (fun _ _ _ h => h) (Or.inr ⟨by kernel_rfl, rfl⟩) (by assumption) ?r26
      simp only [Act.put, List.getElem_toArray, List.getElem_cons_zero, List.getElem_cons_succ, List.setIfInBounds_toArray, List.set_cons_zero, List.set_cons_succ]
      refine wpAnyH_take (i := 4) (v := undef) rfl (by kernel_rfl) (by kernel_rfl) (by kernel_rfl) (fun _ _ _ h => h) (Or.inr ⟨by kernel_rfl, rfl⟩) (by assumption) ?r27
      simp only [Act.put, List.getElem_toArray, List.getElem_cons_zero, List.getElem_cons_succ, List.setIfInBounds_toArray, List.set_cons_zero, List.set_cons_succ]
      refine wpAnyH_take (i := 5) (v := undef) rfl (by kernel_rfl) (by kernel_rfl) (by kernel_rfl) (fun _ _ _ h => h) (Or.inr ⟨by kernel_rfl, rfl⟩) (by assumption) ?r28
      simp only [Act.put, List.getElem_toArray, List.getElem_cons_zero, List.getElem_cons_succ, List.setIfInBounds_toArray, List.set_cons_zero, List.set_cons_succ]
      refine wpAnyH_take (i := 6) (v := ?v29) rfl (by kernel_rfl) (by kernel_rfl) (by kernel_rfl) (fun _ _ _ h => h) (Or.inl ⟨by kernel_rfl, ?hy29⟩) (by assumption) ?r29
      case hy29 => (intro W hSW; obtain ⟨_, f0, f1, f2, f3⟩ := hSW; go_simp; try with_reducible rfl)
      simp only [Act.put, List.getElem_toArray, List.getElem_cons_zero, List.getElem_cons_succ, List.setIfInBounds_toArray, List.set_cons_zero, List.set_cons_succ]
      refine wpAnyH_take (i := 7) (v := ?v30) rfl (by kernel_rfl) (by kernel_rfl) (by kernel_rfl) (fun _ _ _ h => h) (Or.inl ⟨by kernel_rfl, ?hy30⟩) (by assumption) ?r30
      case hy30 => (intro W hSW; obtain ⟨_, f0, f1, f2, f3⟩ := hSW; go_simp; try with_reducible rfl)
      simp only [Act.put, List.getElem_toArray, List.getElem_cons_zero, List.getElem_cons_succ, List.setIfInBounds_toArray, List.set_cons_zero, List.set_cons_succ]
      refine wpAnyH_take (i := 8) (v := ?v31) rfl (by kernel_rfl) (by kernel_rfl) (by kernel_rfl) (fun _ _ _ h => h) (Or.inl ⟨by kernel_rfl, ?hy31⟩) (by assumption) ?r31
      case hy31 => (intro W hSW; obtain ⟨_, f0, f1, f2, f3⟩ := hSW; go_simp; try with_reducible rfl)
      simp only [Act.put, List.getElem_toArray, List.getElem_cons_zero, List.getElem_cons_succ, List.setIfInBounds_toArray, List.set_cons_zero, List.set_cons_succ]
      refine wpAnyH_take (i := 9) (v := ?v32) rfl (by kernel_rfl) (by kernel_rfl) (by kernel_rfl) (fun _ _ _ h => h) (Or.inl ⟨by kernel_rfl, ?hy32⟩) (by assumption) ?r32
      case hy32 => (intro W hSW; obtain ⟨_, f0, f1, f2, f3⟩ := hSW; go_simp; try with_reducible rfl)
      simp only [Act.put, List.getElem_toArray, List.getElem_cons_zero, List.getElem_cons_succ, List.setIfInBounds_toArray, List.set_cons_zero, List.set_cons_succ]
      refine wpAnyH_take (i := 10) (v := ?v33) rfl (by kernel_rfl) (by kernel_rfl) (by kernel_rfl) (fun _ _ _ h => h) (Or.inl ⟨by kernel_rfl, ?hy33⟩) (by assumption) ?r33
      case hy33 => (intro W hSW; obtain ⟨_, f0, f1, f2, f3⟩ := hSW; go_simp; try with_reducible rfl)
      simp only [Act.put, List.getElem_toArray, List.getElem_cons_zero, List.getElem_cons_succ, List.setIfInBounds_toArray, List.set_cons_zero, List.set_cons_succ]
      refine wpAnyH_take (i := 11) (v := ?v34) rfl (by kernel_rfl) (by kernel_rfl) (by kernel_rfl) (fun _ _ _ h => h) (Or.inl ⟨by kernel_rfl, ?hy34⟩) (by assumption) ?r34
      case hy34 => (intro W hSW; obtain ⟨_, f0, f1, f2, f3⟩ := hSW; go_simp; try with_reducible rfl)
      simp only [Act.put, List.getElem_toArray, List.getElem_cons_zero, List.getElem_cons_succ, List.setIfInBounds_toArray, List.set_cons_zero, List.set_cons_succ]
      refine wpAnyH_take (i := 13) (v := ?v35) rfl (by kernel_rfl) (by kernel_rfl) (by kernel_rfl) (fun _ _ _ h => h) (Or.inl ⟨by kernel_rfl, ?hy35⟩) (by assumption) ?r35
      case hy35 => (intro W hSW; obtain ⟨_, f0, f1, f2, f3⟩ := hSW; go_simp; try with_reducible rfl)
      simp only [Act.put, List.getElem_toArray, List.getElem_cons_zero, List.getElem_cons_succ, List.setIfInBounds_toArray, List.set_cons_zero, List.set_cons_succ]
      refine wpAnyH_take (i := 14) (v := ?v36) rfl (by kernel_rfl) (by kernel_rfl) (by kernel_rfl) (fun _ _ _ h => h) (Or.inl ⟨by kernel_rfl, ?hy36⟩) (by assumption) ?r36
      case hy36 => (intro W hSW; obtain ⟨_, f0, f1, f2, f3⟩ := hSW; go_simp; try with_reducible rfl)
      simp only [Act.put, List.getElem_toArray, List.getElem_cons_zero, List.getElem_cons_succ, List.setIfInBounds_toArray, List.set_cons_zero, List.set_cons_succ]
      refine wpAnyH_take (i := 15) (v := ?v37) rfl (by kernel_rfl) (by kernel_rfl) (by kernel_rfl) (fun _ _ _ h => h) (Or.inl ⟨by kernel_rfl, ?hy37⟩) (by assumption) ?r37
      case hy37 => (intro W hSW; obtain ⟨_, f0, f1, f2, f3⟩ := hSW; go_simp; try with_reducible rfl)
      simp only [Act.put, List.getElem_toArray, List.getElem_cons_zero, List.getElem_cons_succ, List.setIfInBounds_toArray, List.set_cons_zero, List.set_cons_succ]
      refine wpAnyH_take (i := 16) (v := ?v38) rfl (by kernel_rfl) (by kernel_rfl) (by kernel_rfl) (fun _ _ _ h => h) (Or.inl ⟨by kernel_rfl, ?hy38⟩) (by assumption) ?r38
      case hy38 => (intro W hSW; obtain ⟨_, f0, f1, f2, f3⟩ := hSW; go_simp; try with_reducible rfl)
      simp only [Act.put, List.getElem_toArray, List.getElem_cons_zero, List.getElem_cons_succ, List.setIfInBounds_toArray, List.set_cons_zero, List.set_cons_succ]
      refine wpAnyH_take (i := 17) (v := ?v39) rfl (by kernel_rfl) (by kernel_rfl) (by kernel_rfl) (fun _ _ _ h => h) (Or.inl ⟨by kernel_rfl, ?hy39⟩) (by assumption) ?r39
      case hy39 => (intro W hSW; obtain ⟨_, f0, f1, f2, f3⟩ := hSW; go_simp; try with_reducible rfl)
      simp only [Act.put, List.getElem_toArray, List.getElem_cons_zero, List.getElem_cons_succ, List.setIfInBounds_toArray, List.set_cons_zero, List.set_cons_succ]
      refine wpAnyH_ready (rs := [12]) (by kernel_rfl) (by simp) ?_
      refine AllReadyH.cons rfl (fun K hK => ?_) AllReadyH.nil
      go_simp
      go_at_call 39
      with_reducible refine (x1 _).mono ?_
      rintro e u1 ⟨v, rfl, hO, hF⟩
      obtain ⟨A1, c1, rfl, hs1⟩ := hO.sl
      have hb1 := below_on h0 (Nat.le_refl _) hF
      clear hO hF
      refine hK.out _ _ (hSS _ hb1) (fun hH2 => ?_)
      clear hK K
      try simp only [Act.put, List.getElem_toArray, List.getElem_cons_zero, List.getElem_cons_succ, List.setIfInBounds_toArray, List.set_cons_zero, List.set_cons_succ]
      refine wpAnyH_ready (rs := [18]) (by kernel_rfl) (by simp) ?_
      refine AllReadyH.cons rfl (fun K hK => ?_) AllReadyH.nil
      go_simp
      go_at_call 30
      refine (HS.out _ (below_on hbw (Nat.le_refl _) hb1) _ _ _ hs1).mono ?_
      rintro e u2 ⟨rfl, hF⟩
      have hb2 := below_on hb1 (Nat.le_refl _) hF
      clear hF
      refine hK.out _ _ (hSS _ hb2) (fun hH3 => ?_)
      clear hH2
      clear hK K
      try simp only [Act.put, List.getElem_toArray, List.getElem_cons_zero, List.getElem_cons_succ, List.setIfInBounds_toArray, List.set_cons_zero, List.set_cons_succ]
      refine wpAnyH_take (i := 19) (v := ?v42) rfl (by kernel_rfl) (by kernel_rfl) (by kernel_rfl) (fun _ _ _ h => h) (Or.inl ⟨by kernel_rfl, ?hy42⟩) (by assumption) ?r42
      case hy42 => (intro W hSW; obtain ⟨_, f0, f1, f2, f3⟩ := hSW; go_simp; try with_reducible rfl)
      simp only [Act.put, List.getElem_toArray, List.getElem_cons_zero, List.getElem_cons_succ, List.setIfInBounds_toArray, List.set_cons_zero, List.set_cons_succ]
      refine wpAnyH_take (i := 20) (v := ?v43) rfl (by kernel_rfl) (by kernel_rfl) (by kernel_rfl) (fun _ _ _ h => h) (Or.inl ⟨by kernel_rfl, ?hy43⟩) (by assumption) ?r43
      case hy43 => (intro W hSW; obtain ⟨_, f0, f1, f2, f3⟩ := hSW; go_simp; try with_reducible rfl)
      simp only [Act.put, List.getElem_toArray, List.getElem_cons_zero, List.getElem_cons_succ, List.setIfInBounds_toArray, List.set_cons_zero, List.set_cons_succ]
      refine wpAnyH_take (i := 21) (v := ?v44) rfl (by kernel_rfl) (by kernel_rfl) (by kernel_rfl) (fun _ _ _ h => h) (Or.inl ⟨by kernel_rfl, ?hy44⟩) (by assumption) ?r44
      case hy44 => (intro W hSW; obtain ⟨_, f0, f1, f2, f3⟩ := hSW; go_simp; try with_reducible rfl)
      simp only [Act.put, List.getElem_toArray, List.getElem_cons_zero, List.getElem_cons_succ, List.setIfInBounds_toArray, List.set_cons_zero, List.set_cons_succ]
      refine wpAnyH_done (by kernel_rfl) ?_ _
      refine NoPanic.normal ?_
      go_wp2
      go_ret
      exact ⟨by rw [T1.out]; simp, below_on hbw (Nat.le_refl _) hb2⟩
    · have hok : toldOk L = false := by simpa using hok
      have hE : toldE L = 3 := by unfold toldE; rw [hok]; rfl
      have hy : readT L = ⟨0, 0, 0, 0⟩ := by unfold readT; rw [hok]; rfl
      rw [hE, hy]
      clear hE hy hok
      have q2 := eql_rp 0 0 0 0
      have hb4 := (Below.refl w4.heap.size w4).alloc (Nat.le_refl _) (.cells #[i64 0, i64 0, i64 0, i64 0] 49)
      have hg := heap_alloc_new w4 (.cells #[i64 0, i64 0, i64 0, i64 0] 49)
      have k0 := cell_of_row _ w4.heap.size 0 _ _ (0, 0) hg
      have k1 := cell_of_row _ w4.heap.size 1 _ _ (0, 0) hg
      have k2 := cell_of_row _ w4.heap.size 2 _ _ (0, 0) hg
      have k3 := cell_of_row _ w4.heap.size 3 _ _ (0, 0) hg
      simp only [List.getElem?_toArray, List.getElem?_cons_zero, List.getElem?_cons_succ] at k0 k1 k2 k3
      have hbw := below_on hbw (Nat.le_refl _) hb4
      clear hg hb4
      unfold Rp.v
      go_wp2_with fail
      go_quiet (fail)
      go_wp2
      go_ret
      exact ⟨rfl, below_drewN hbw _⟩
  · have r1 := told_law0 hx (.inr hin)
    have hE : toldE (toldB x) = 3 := by unfold toldE; rw [r1]; rfl
    rw [hE]
    have g1 : decide ((0 : Int) ≤ x.err) = true := decide_eq_true (by omega)
    have g2 : decide (x.err ≤ (14 : Int)) = false := decide_eq_false (by omega)
    unfold Rp.v
    clear hin r1 hE hx
    go_wp2_with fail
    refine HC.out.mono ?_
    rintro e w4 ⟨rfl, hF⟩
    have hbw := below_on HB.out (Nat.le_refl _) hF
    clear HC hF HB HT g1 g2
    clear k0 k1 k2 k3 hz
    by_cases hok : toldOk L = true
    · obtain ⟨t1, t2⟩ := told_law2 hok
      have hE : toldE L = 0 := by unfold toldE; rw [if_pos hok]
      rw [hE]
      clear hE hok
      generalize readT L = y at *
      have T1 := Lib.hid t1
      clear t1
      have j0 : (0 : Int) ≤ min (l.length : Int) 100 := by omega
      have j1 : min (l.length : Int) 100 ≤ (c : Int) := by omega
      have hb4 := (Below.refl w4.heap.size w4).alloc (Nat.le_refl _) (.cells #[i64 y.err, i64 y.hav, i64 y.set_, i64 y.num] 49)
      have hz := (show w4.heap.size < (w4.alloc (.cells #[i64 y.err, i64 y.hav, i64 y.set_, i64 y.num] 49)).heap.size by simp)
      have hg := heap_alloc_new w4 (.cells #[i64 y.err, i64 y.hav, i64 y.set_, i64 y.num] 49)
      have k0 := cell_of_row _ w4.heap.size 0 _ _ (0, 0) hg
      have k1 := cell_of_row _ w4.heap.size 1 _ _ (0, 0) hg
      have k2 := cell_of_row _ w4.heap.size 2 _ _ (0, 0) hg
      have k3 := cell_of_row _ w4.heap.size 3 _ _ (0, 0) hg
      simp only [List.getElem?_toArray, List.getElem?_cons_zero, List.getElem?_cons_succ] at k0 k1 k2 k3
      have hbw := below_on hbw (Nat.le_refl _) hb4
      clear hg hb4
      unfold Rp.v
      go_wp2_with fail
      generalize w4.heap.size = q at *
      generalize w4.alloc (.cells #[i64 y.err, i64 y.hav, i64 y.set_, i64 y.num] 49) = W5 at *
      have h0 := (Below.refl W5.heap.size W5).drew
      have x1 : ∀ W, Calls Try.prog 39 #[.agg #[i64 y.err, i64 y.hav, i64 y.set_, i64 y.num]] W fun e w' => ∃ v, e = .returned v ∧ Own w' W.heap.size 5 v (toldB y) ∧ Below W.heap.size W w' := fun W => told_c y W t2
      have hSS : ∀ V, Below W5.heap.size W5 V → (fun V : World => Below W5.heap.size W5 V ∧ V.cell? ⟨q, 0, none⟩ = some (i64 y.err) ∧ V.cell? ⟨q, 1, none⟩ = some (i64 y.hav) ∧ V.cell? ⟨q, 2, none⟩ = some (i64 y.set_) ∧ V.cell? ⟨q, 3, none⟩ = some (i64 y.num)) V := fun V h => ⟨h, (h.cell (p := ⟨q, 0, none⟩) hz).trans k0, (h.cell (p := ⟨q, 1, none⟩) hz).trans k1, (h.cell (p := ⟨q, 2, none⟩) hz).trans k2, (h.cell (p := ⟨q, 3, none⟩) hz).trans k3⟩
      refine wp_region_noPanic ?_
      refine wp_region_held_drew (S := fun V => Below W5.heap.size W5 V ∧ V.cell? ⟨q, 0, none⟩ = some (i64 y.err) ∧ V.cell? ⟨q, 1, none⟩ = some (i64 y.hav) ∧ V.cell? ⟨q, 2, none⟩ = some (i64 y.set_) ∧ V.cell? ⟨q, 3, none⟩ = some (i64 y.num)) (by kernel_rfl) (hSS _ h0) (fun hH => ?_)
      refine wpAnyH_take (i := 0) (v := ?v45) rfl (by kernel_rfl) (by kernel_rfl) (by kernel_rfl) (fun _ _ _ h => h) (Or.inl ⟨by kernel_rfl, ?hy45⟩) (by assumption) ?r45
      case hy45 => (intro W hSW; obtain ⟨_, f0, f1, f2, f3⟩ := hSW; go_simp; try with_reducible rfl)
      simp only [Act.put, List.getElem_toArray, List.getElem_cons_zero, List.setIfInBounds_toArray, List.set_cons_zero, List.set_cons_succ]
      refine wpAnyH_take (i := 1) (v := ?v46) rfl (by kernel_rfl) (by kernel_rfl) (by kernel_rfl) (fun _ _ _ h => h) (Or.inl ⟨by kernel_rfl, ?hy46⟩) (by assumption) ?r46
      case hy46 => (intro W hSW; obtain ⟨_, f0, f1, f2, f3⟩ := hSW; go_simp; try with_reducible rfl)
      simp only [Act.put, List.getElem_toArray, List.getElem_cons_zero, List.getElem_cons_succ, List.setIfInBounds_toArray, List.set_cons_zero, List.set_cons_succ]
      refine wpAnyH_take (i := 2) (v := ?v47) rfl (by kernel_rfl) (by kernel_rfl) (by kernel_rfl) (fun _ _ _ h => h) (Or.inl ⟨by kernel_rfl, ?hy47⟩) (by assumption) ?r47
      case hy47 => (intro W hSW; obtain ⟨_, f0, f1, f2, f3⟩ := hSW; go_simp; try with_reducible rfl)
      simp only [Act.put, List.getElem_toArray, List.getElem_cons_zero, List.getElem_cons_succ, List.setIfInBounds_toArray, List.set_cons_zero, List.set_cons_succ]
      refine wpAnyH_take (i := 3) (v := undef) rfl (by kernel_rfl) (by kernel_rfl) (by kernel_rfl) (fun _ _ _ h => h) (Or.inr ⟨by kernel_rfl, rfl⟩) (by assumption) ?r48
      simp only [Act.put, List.getElem_toArray, List.getElem_cons_zero, List.getElem_cons_succ, List.setIfInBounds_toArray, List.set_cons_zero, List.set_cons_succ]
      refine wpAnyH_take (i := 4) (v := undef) rfl (by kernel_rfl) (by kernel_rfl) (by kernel_rfl) (fun _ _ _ h => h) (Or.inr ⟨by kernel_rfl, rfl⟩) (by assumption) ?r49
      simp only [Act.put, List.getElem_toArray, List.getElem_cons_zero, List.getElem_cons_succ, List.setIfInBounds_toArray, List.set_cons_zero, List.set_cons_succ]
      refine wpAnyH_take (i := 5) (v := undef) rfl (by kernel_rfl) (by kernel_rfl) (by kernel_rfl) (fun _ _ _ h => h) (Or.inr ⟨by kernel_rfl, rfl⟩) (by assumption) ?r50
      simp only [Act.put, List.getElem_toArray, List.getElem_cons_zero, List.getElem_cons_succ, List.setIfInBounds_toArray, List.set_cons_zero, List.set_cons_succ]
      refine wpAnyH_take (i := 6) (v := ?v51) rfl (by kernel_rfl) (by kernel_rfl) (by kernel_rfl) (fun _ _ _ h => h) (Or.inl ⟨by kernel_rfl, ?hy51⟩) (by assumption) ?r51
      case hy51 => (intro W hSW; obtain ⟨_, f0, f1, f2, f3⟩ := hSW; go_simp; try with_reducible rfl)
      simp only [Act.put, List.getElem_toArray, List.getElem_cons_zero, List.getElem_cons_succ, List.setIfInBounds_toArray, List.set_cons_zero, List.set_cons_succ]
      refine wpAnyH_take (i := 7) (v := ?v52) rfl (by kernel_rfl) (by kernel_rfl) (by kernel_rfl) (fun _ _ _ h => h) (Or.inl ⟨by kernel_rfl, ?hy52⟩) (by assumption) ?r52
      case hy52 => (intro W hSW; obtain ⟨_, f0, f1, f2, f3⟩ := hSW; go_simp; try with_reducible rfl)
      simp only [Act.put, List.getElem_toArray, List.getElem_cons_zero, List.getElem_cons_succ, List.setIfInBounds_toArray, List.set_cons_zero, List.set_cons_succ]
      refine wpAnyH_take (i := 8) (v := ?v53) rfl (by kernel_rfl) (by kernel_rfl) (by kernel_rfl) (fun _ _ _ h => h) (Or.inl ⟨by kernel_rfl, ?hy53⟩) (by assumption) ?r53
      case hy53 => (intro W hSW; obtain ⟨_, f0, f1, f2, f3⟩ := hSW; go_simp; try with_reducible rfl)
      simp only [Act.put, List.getElem_toArray, List.getElem_cons_zero, List.getElem_cons_succ, List.setIfInBounds_toArray, List.set_cons_zero, List.set_cons_succ]
      refine wpAnyH_take (i := 9) (v := ?v54) rfl (by kernel_rfl) (by kernel_rfl) (by kernel_rfl) (fun _ _ _ h => h) (Or.inl ⟨by kernel_rfl, ?hy54⟩) (by assumption) ?r54
      case hy54 => (intro W hSW; obtain ⟨_, f0, f1, f2, f3⟩ := hSW; go_simp; try with_reducible rfl)
      simp only [Act.put, List.getElem_toArray, List.getElem_cons_zero, List.getElem_cons_succ, List.setIfInBounds_toArray, List.set_cons_zero, List.set_cons_succ]
      refine wpAnyH_take (i := 10) (v := ?v55) rfl (by kernel_rfl) (by kernel_rfl) (by kernel_rfl) (fun _ _ _ h => h) (Or.inl ⟨by kernel_rfl, ?hy55⟩) (by assumption) ?r55
      case hy55 => (intro W hSW; obtain ⟨_, f0, f1, f2, f3⟩ := hSW; go_simp; try with_reducible rfl)
      simp only [Act.put, List.getElem_toArray, List.getElem_cons_zero, List.getElem_cons_succ, List.setIfInBounds_toArray, List.set_cons_zero, List.set_cons_succ]
      refine wpAnyH_take (i := 11) (v := ?v56) rfl (by kernel_rfl) (by kernel_rfl) (by kernel_rfl) (fun _ _ _ h => h) (Or.inl ⟨by kernel_rfl, ?hy56⟩) (by assumption) ?r56
      case hy56 => (intro W hSW; obtain ⟨_, f0, f1, f2, f3⟩ := hSW; go_simp; try with_reducible rfl)
      simp only [Act.put, List.getElem_toArray, List.getElem_cons_zero, List.getElem_cons_succ, List.setIfInBounds_toArray, List.set_cons_zero, List.set_cons_succ]
      refine wpAnyH_take (i := 13) (v := ?v57) rfl (by kernel_rfl) (by kernel_rfl) (by kernel_rfl) (fun _ _ _ h => h) (Or.inl ⟨by kernel_rfl, ?hy57⟩) (by assumption) ?r57
      case hy57 => (intro W hSW; obtain ⟨_, f0, f1, f2, f3⟩ := hSW; go_simp; try with_reducible rfl)
      simp only [Act.put, List.getElem_toArray, List.getElem_cons_zero, List.getElem_cons_succ, List.setIfInBounds_toArray, List.set_cons_zero, List.set_cons_succ]
      refine wpAnyH_take (i := 14) (v := ?v58) rfl (by kernel_rfl) (by kernel_rfl) (by kernel_rfl) (fun _ _ _ h => h) (Or.inl ⟨by kernel_rfl, ?hy58⟩) (by assumption) ?r58
      case hy58 => (intro W hSW; obtain ⟨_, f0, f1, f2, f3⟩ := hSW; go_simp; try with_reducible rfl)
      simp only [Act.put, List.getElem_toArray, List.getElem_cons_zero, List.getElem_cons_succ, List.setIfInBounds_toArray, List.set_cons_zero, List.set_cons_succ]
      refine wpAnyH_take (i := 15) (v := ?v59) rfl (by kernel_rfl) (by kernel_rfl) (by kernel_rfl) (fun _ _ _ h => h) (Or.inl ⟨by kernel_rfl, ?hy59⟩) (by assumption) ?r59
      case hy59 => (intro W hSW; obtain ⟨_, f0, f1, f2, f3⟩ := hSW; go_simp; try with_reducible rfl)
      simp only [Act.put, List.getElem_toArray, List.getElem_cons_zero, List.getElem_cons_succ, List.setIfInBounds_toArray, List.set_cons_zero, List.set_cons_succ]
      refine wpAnyH_take (i := 16) (v := ?v60) rfl (by kernel_rfl) (by kernel_rfl) (by kernel_rfl) (fun _ _ _ h => h) (Or.inl ⟨by kernel_rfl, ?hy60⟩) (by assumption) ?r60
      case hy60 => (intro W hSW; obtain ⟨_, f0, f1, f2, f3⟩ := hSW; go_simp; try with_reducible rfl)
      simp only [Act.put, List.getElem_toArray, List.getElem_cons_zero, List.getElem_cons_succ, List.setIfInBounds_toArray, List.set_cons_zero, List.set_cons_succ]
      refine wpAnyH_take (i := 17) (v := ?v61) rfl (by kernel_rfl) (by kernel_rfl) (by kernel_rfl) (fun _ _ _ h => h) (Or.inl ⟨by kernel_rfl, ?hy61⟩) (by assumption) ?r61
      case hy61 => (intro W hSW; obtain ⟨_, f0, f1, f2, f3⟩ := hSW; go_simp; try with_reducible rfl)
      simp only [Act.put, List.getElem_toArray, List.getElem_cons_zero, List.getElem_cons_succ, List.setIfInBounds_toArray, List.set_cons_zero, List.set_cons_succ]
      refine wpAnyH_ready (rs := [12]) (by kernel_rfl) (by simp) ?_
      refine AllReadyH.cons rfl (fun K hK => ?_) AllReadyH.nil
      go_simp
      go_at_call 39
      with_reducible refine (x1 _).mono ?_
      rintro e u1 ⟨v, rfl, hO, hF⟩
      obtain ⟨A1, c1, rfl, hs1⟩ := hO.sl
      have hb1 := below_on h0 (Nat.le_refl _) hF
      clear hO hF
      refine hK.out _ _ (hSS _ hb1) (fun hH2 => ?_)
      clear hK K
      try simp only [Act.put, List.getElem_toArray, List.getElem_cons_zero, List.getElem_cons_succ, List.setIfInBounds_toArray, List.set_cons_zero, List.set_cons_succ]
      refine wpAnyH_ready (rs := [18]) (by kernel_rfl) (by simp) ?_
      refine AllReadyH.cons rfl (fun K hK => ?_) AllReadyH.nil
      go_simp
      go_at_call 30
      refine (HS.out _ (below_on hbw (Nat.le_refl _) hb1) _ _ _ hs1).mono ?_
      rintro e u2 ⟨rfl, hF⟩
      have hb2 := below_on hb1 (Nat.le_refl _) hF
      clear hF
      refine hK.out _ _ (hSS _ hb2) (fun hH3 => ?_)
      clear hH2
      clear hK K
      try simp only [Act.put, List.getElem_toArray, List.getElem_cons_zero, List.getElem_cons_succ, List.setIfInBounds_toArray, List.set_cons_zero, List.set_cons_succ]
      refine wpAnyH_take (i := 19) (v := ?v64) rfl (by kernel_rfl) (by kernel_rfl) (by kernel_rfl) (fun _ _ _ h => h) (Or.inl ⟨by kernel_rfl, ?hy64⟩) (by assumption) ?r64
      case hy64 => (intro W hSW; obtain ⟨_, f0, f1, f2, f3⟩ := hSW; go_simp; try with_reducible rfl)
      simp only [Act.put, List.getElem_toArray, List.getElem_cons_zero, List.getElem_cons_succ, List.setIfInBounds_toArray, List.set_cons_zero, List.set_cons_succ]
      refine wpAnyH_take (i := 20) (v := ?v65) rfl (by kernel_rfl) (by kernel_rfl) (by kernel_rfl) (fun _ _ _ h => h) (Or.inl ⟨by kernel_rfl, ?hy65⟩) (by assumption) ?r65
      case hy65 => (intro W hSW; obtain ⟨_, f0, f1, f2, f3⟩ := hSW; go_simp; try with_reducible rfl)
      simp only [Act.put, List.getElem_toArray, List.getElem_cons_zero, List.getElem_cons_succ, List.setIfInBounds_toArray, List.set_cons_zero, List.set_cons_succ]
      refine wpAnyH_take (i := 21) (v := ?v66) rfl (by kernel_rfl) (by kernel_rfl) (by kernel_rfl) (fun _ _ _ h => h) (Or.inl ⟨by kernel_rfl, ?hy66⟩) (by assumption) ?r66
      case hy66 => (intro W hSW; obtain ⟨_, f0, f1, f2, f3⟩ := hSW; go_simp; try with_reducible rfl)
      simp only [Act.put, List.getElem_toArray, List.getElem_cons_zero, List.getElem_cons_succ, List.setIfInBounds_toArray, List.set_cons_zero, List.set_cons_succ]
      refine wpAnyH_done (by kernel_rfl) ?_ _
      refine NoPanic.normal ?_
      go_wp2
      go_ret
      exact ⟨by rw [T1.out]; simp, below_on hbw (Nat.le_refl _) hb2⟩
    · have hok : toldOk L = false := by simpa using hok
      have hE : toldE L = 3 := by unfold toldE; rw [hok]; rfl
      have hy : readT L = ⟨0, 0, 0, 0⟩ := by unfold readT; rw [hok]; rfl
      rw [hE, hy]
      clear hE hy hok
      have q2 := eql_rp 0 0 0 0
      have hb4 := (Below.refl w4.heap.size w4).alloc (Nat.le_refl _) (.cells #[i64 0, i64 0, i64 0, i64 0] 49)
      have hg := heap_alloc_new w4 (.cells #[i64 0, i64 0, i64 0, i64 0] 49)
      have k0 := cell_of_row _ w4.heap.size 0 _ _ (0, 0) hg
      have k1 := cell_of_row _ w4.heap.size 1 _ _ (0, 0) hg
      have k2 := cell_of_row _ w4.heap.size 2 _ _ (0, 0) hg
      have k3 := cell_of_row _ w4.heap.size 3 _ _ (0, 0) hg
      simp only [List.getElem?_toArray, List.getElem?_cons_zero, List.getElem?_cons_succ] at k0 k1 k2 k3
      have hbw := below_on hbw (Nat.le_refl _) hb4
      clear hg hb4
      unfold Rp.v
      go_wp2_with fail
      go_quiet (fail)
      go_wp2
      go_ret
      exact ⟨rfl, below_drewN hbw _⟩
end Go.Proofs.Ytogecfddkohigaa
