/- HoldNumbers: the walk -/
import Derived.Test.YthmgchohbdlonaaRows
import Derived.Test.YthmgchohbdlonaaHnums
import Derived.Test.YthmgchohbdlonaaRegL
import Derived.WalkKit
import Derived.WalkSpells
import Derived.WalkLawsBesides
import Derived.Deep.QuietTactic
import Derived.BigQuiet
import Derived.Laws.StructEq
import Derived.Deep.DeepFit
import Derived.StillTailTactics
namespace Go.Proofs.Ythmgchohbdlonaa
open Go.RowKit
theorem eq_held (x y : Held) (w : World) : (binOp .eql 34 (.agg #[i64 x.num, .string x.acct, i64 x.sum]) (.agg #[i64 y.num, .string y.acct, i64 y.sum])).run Try.prog w = .ok (.bool (decide (x = y))) w := by
  have u2 := Try.underlying3
  have a2 := Try.isAgg3
  have z2 := Try.sizeOf3
  have u3 := Try.underlying2
  have a3 := Try.isAgg2
  have z3 := Try.sizeOf2
  have u9 := Try.underlying9
  have a9 := Try.isAgg9
  have z9 := Try.sizeOf9
  have hS : Try.prog.underlying 34 = some (.struct (Try.prog.fieldsOf 34)) := by kernel_rfl
  have hp : Try.prog.stoodInHeld 34 = false := by kernel_rfl
  rw [run_eql_struct, show (10000 : Nat) = 9999 + 1 from rfl, run_equalIn_agg w 9999 34 _ _ hS hp]
  simp only [Program.fieldsOf, Try.underlying34]
  go_simp
  by_cases h1 : x.num = y.num
  · by_cases h2 : x.acct = y.acct
    · have t2 := beqS_of_eq h2
      by_cases h3 : x.sum = y.sum
      · rw [decide_eq_true (Held.ext_ h1 h2 h3)]; simp [h1, h2, h3]
      · rw [decide_eq_false (fun e => h3 (by rw [e]))]; simp [h1, h2, h3]
    · have t2 := beqS_of_ne h2
      have t3 : ¬ x.acct.toList = y.acct.toList := by simpa using t2
      rw [decide_eq_false (fun e => h2 (by rw [e]))]; simp [h1, t3]
  · rw [decide_eq_false (fun e => h1 (by rw [e]))]; simp [h1]
theorem modR {x : Int} (k : Int) (hk : 0 < k) : ∃ u m : Int, IntKind.u64.wrap x = u ∧ u % k = m ∧ 0 ≤ u ∧ u < 18446744073709551616 ∧ 0 ≤ m ∧ m < k :=
  ⟨_, _, rfl, rfl, by rw [IntKind.wrap_u64]; omega, by rw [IntKind.wrap_u64]; omega, Int.emod_nonneg _ (by omega), Int.emod_lt_of_pos _ hk⟩
set_option maxRecDepth 100000 in
set_option maxHeartbeats 8000000 in
theorem holdNums_c (x y z : Int) (w : World) (hx : R64 x) (hy : R64 y) (hz : R64 z) : Calls Try.prog 3 #[i64 x, i64 y, i64 z] w fun e w' => e = .returned (.bool true) ∧ Below w.heap.size w w' := by
  have hL := Lib.hid fun W => lives8_c W
  have hBg := Lib.hid fun W => begin_c W
  have hH := Lib.hid fun W => honewA_c W
  obtain ⟨u1, m1, e1, e2, p1, p2, p3, p4⟩ := modR (x := x) 9999 (by decide)
  obtain ⟨u2, m2, f1, f2, q1, q2, q3, q4⟩ := modR (x := y) 30 (by decide)
  obtain ⟨u3, m3, g1, g2, r1, r2, r3, r4⟩ := modR (x := z) 10 (by decide)
  obtain ⟨n, en⟩ : ∃ n, 1 + m1 = n := ⟨_, rfl⟩
  obtain ⟨a, ea⟩ : ∃ n, 1 + m2 = n := ⟨_, rfl⟩
  obtain ⟨b, eb⟩ : ∃ n, 1 + m3 = n := ⟨_, rfl⟩
  have hn := Lib.hid (show 1 ≤ n ∧ n ≤ 9999 by omega)
  have ha := Lib.hid (show 1 ≤ a ∧ a ≤ 30 by omega)
  have hb := Lib.hid (show 1 ≤ b ∧ b ≤ 10 by omega)
  clear hx hy hz
  go_enter Try.func3, Try.ntmps3
  go_wp2_with fail
  refine (hL.out _).mono ?_
  rintro e w1 ⟨rfl, hF⟩
  have hb1 := hF
  clear hL hF
  go_wp2_with fail
  refine (hBg.out _).mono ?_
  rintro e w2 ⟨g, bb, r, rfl, hB⟩
  have hb2 := below_on hb1 (Nat.le_refl _) hB.be
  have HC := Lib.hid hB.ch
  have hge := hB.ge
  have hlt := hB.ch.lt
  have hsz := hb1.size
  clear hBg hB hb1 e1 e2 p1 p2 p3 p4 f1 f2 q1 q2 q3 q4 g1 g2 r1 r2 r3 r4 en ea eb
  go_wp2_with fail
  refine (hH.out _).mono ?_
  rintro e w3 ⟨rfl, hh, hF⟩
  have hb3 := below_on hb2 (Nat.le_refl _) hF
  have hd : (w2.heap.size + 1 ≠ bb ∧ w2.heap.size ≠ bb ∧ g ≠ w2.heap.size) := by omega
  have Hd := Lib.hid hd
  have hwb : w.heap.size ≤ bb ∧ w.heap.size ≤ w2.heap.size := by have := hb2.size; omega
  have hP := Lib.hid (hoput_c g bb (w2.heap.size + 1) w2.heap.size L0 [] ⟨n, sA, a⟩ w3 (HC.out.later hF) hh hd ok_L0 okH_nil (by have := ha.out; show -9223372036854775808 ≤ a ∧ a ≤ 9223372036854775807; omega) (by simp))
  rw [pn1 hn.out ha.out hb.out] at hP
  clear hH HC hh hF hd hb2 hge hlt hsz
  go_wp2_with fail
  refine hP.out.mono ?_
  rintro e w4 ⟨rfl, hc4, hh4, hg4⟩
  have hb4 := hb3.trans ((Gr.of_g2 hg4).below hb3.size (fun k hk => by rcases hk with rfl | rfl <;> omega))
  have hP := Lib.hid (hoput_c g bb (w2.heap.size + 1) w2.heap.size (LX a 0) [⟨n, sA, a⟩] ⟨n, sB, b⟩ w4 hc4 hh4 Hd.out (ok_LX0 hn.out ha.out hb.out) (okH_a hn.out ha.out hb.out) (by have := hb.out; show -9223372036854775808 ≤ b ∧ b ≤ 9223372036854775807; omega) (by simp))
  rw [pn2 hn.out ha.out hb.out] at hP
  clear hc4 hh4 hg4 hb3
  go_wp2_with fail
  refine hP.out.mono ?_
  rintro e w5 ⟨rfl, hc5, hh5, hg5⟩
  have hb5 := hb4.trans ((Gr.of_g2 hg5).below hb4.size (fun k hk => by rcases hk with rfl | rfl <;> omega))
  have hP := Lib.hid (hoput_c g bb (w2.heap.size + 1) w2.heap.size (LX a b) [⟨n, sA, a⟩, ⟨n, sB, b⟩] ⟨n, sA, 1⟩ w5 hc5 hh5 Hd.out (ok_LX hn.out ha.out hb.out) (okH_ab hn.out ha.out hb.out) (r64_small (by show -1000 ≤ (1 : Int) ∧ (1 : Int) ≤ 1000; decide)) (by simp))
  rw [pn3 hn.out ha.out hb.out] at hP
  clear hc5 hh5 hg5 hb4
  go_wp2_with fail
  refine hP.out.mono ?_
  rintro e w6 ⟨rfl, hc6, hh6, hg6⟩
  have hb6 := hb5.trans ((Gr.of_g2 hg6).below hb5.size (fun k hk => by rcases hk with rfl | rfl <;> omega))
  have hO := Lib.hid (hoof_c (w2.heap.size + 1) w2.heap.size [⟨n, sA, a⟩, ⟨n, sB, b⟩] sB w6 hh6 (okH_ab hn.out ha.out hb.out) (by simp))
  rw [show ofL [⟨n, sA, a⟩, ⟨n, sB, b⟩] sB = [⟨n, sB, b⟩] by simp [ofL, neAB]] at hO
  have HC := Lib.hid hc6
  have HH := Lib.hid hh6
  clear hP hc6 hh6 hg6 hb5
  go_wp2_with fail
  refine hO.out.mono ?_
  rintro e w7 ⟨v, rfl, hOv, hF⟩
  obtain ⟨gl, cl, curl, rfl, hgl, hrl, -⟩ := hOv.form (by simp)
  have hb7 := below_on hb6 (Nat.le_refl _) hF
  have l0 : w7.cell? ⟨gl, 0, none⟩ = some (i64 n) := hOv.at_ (k := 0) (by simp) 0 _ rfl
  have l1 : w7.cell? ⟨gl, 1, none⟩ = some (.string sB) := hOv.at_ (k := 0) (by simp) 1 _ rfl
  have l2 : w7.cell? ⟨gl, 2, none⟩ = some (i64 b) := hOv.at_ (k := 0) (by simp) 2 _ rfl
  have hbl := (Array.getElem?_eq_some_iff.1 hrl).1
  have hcl : (1 : Nat) ≤ cl := by
    obtain ⟨-, -, -, -, h, -⟩ := hOv.cells
    exact h
  have HT := Lib.hid (hotake_c g bb (w2.heap.size + 1) w2.heap.size (LX a b) [⟨n, sA, a⟩, ⟨n, sB, b⟩] sA n sC a w7 (HC.out.later hF) (HH.out.later hF) Hd.out (ok_LX hn.out ha.out hb.out) (okH_ab hn.out ha.out hb.out) (by have := ha.out; show -9223372036854775808 ≤ a ∧ a ≤ 9223372036854775807; omega) (sz_s _) (sz_s _))
  rw [tk1 hn.out ha.out hb.out] at HT
  have hlh7 := Lib.hid (show bb < w6.heap.size ∧ w2.heap.size < w6.heap.size from ⟨HC.out.lt.2.1, HH.out.lt.2.1⟩)
  have hgl' : w6.heap.size ≤ gl := hgl
  clear hO hOv hF HC HH hb6 hrl hgl
  go_wp2_with fail
  refine HT.out.mono ?_
  rintro e w8 ⟨rfl, hc8, hh8, hg8⟩
  have hb8 := hb7.trans ((Gr.of_g2 hg8).below hb7.size (fun k hk => by rcases hk with rfl | rfl <;> omega))
  have hne : gl ≠ bb ∧ gl ≠ w2.heap.size := by have := hlh7.out; omega
  have kl : w8.heap[gl]? = w7.heap[gl]? := hg8.block gl hbl hne.1 hne.2
  have l0 : w8.cell? ⟨gl, 0, none⟩ = some (i64 n) := (World.cell?_of_block (a := ⟨gl, 0, none⟩) kl).trans l0
  have l1 : w8.cell? ⟨gl, 1, none⟩ = some (.string sB) := (World.cell?_of_block (a := ⟨gl, 1, none⟩) kl).trans l1
  have l2 : w8.cell? ⟨gl, 2, none⟩ = some (i64 b) := (World.cell?_of_block (a := ⟨gl, 2, none⟩) kl).trans l2
  have hbl := Nat.lt_of_lt_of_le hbl hg8.size
  have hO := Lib.hid (hoof_c (w2.heap.size + 1) w2.heap.size [⟨n, sB, b⟩] sB w8 hh8 (okH_b hn.out ha.out hb.out) (by simp))
  rw [show ofL [⟨n, sB, b⟩] sB = [⟨n, sB, b⟩] by simp [ofL]] at hO
  have HC := Lib.hid hc8
  have HH := Lib.hid hh8
  clear HT kl hc8 hh8 hg8 hb7 hne
  go_wp2_with fail
  refine hO.out.mono ?_
  rintro e w9 ⟨v, rfl, hOv, hF⟩
  obtain ⟨gm, cm, curm, rfl, hgm, hrm, -⟩ := hOv.form (by simp)
  have hb9 := below_on hb8 (Nat.le_refl _) hF
  have m0 : w9.cell? ⟨gm, 0, none⟩ = some (i64 n) := hOv.at_ (k := 0) (by simp) 0 _ rfl
  have m1 : w9.cell? ⟨gm, 1, none⟩ = some (.string sB) := hOv.at_ (k := 0) (by simp) 1 _ rfl
  have m2 : w9.cell? ⟨gm, 2, none⟩ = some (i64 b) := hOv.at_ (k := 0) (by simp) 2 _ rfl
  have hbm := (Array.getElem?_eq_some_iff.1 hrm).1
  have hcm : (1 : Nat) ≤ cm := by
    obtain ⟨-, -, -, -, h, -⟩ := hOv.cells
    exact h
  have l0 := (hF.cell (p := ⟨gl, 0, none⟩) hbl).trans l0
  have l1 := (hF.cell (p := ⟨gl, 1, none⟩) hbl).trans l1
  have l2 := (hF.cell (p := ⟨gl, 2, none⟩) hbl).trans l2
  have hbl := Nat.lt_of_lt_of_le hbl hF.size
  have HC9 := Lib.hid (HC.out.later hF)
  have HH9 := Lib.hid (HH.out.later hF)
  have hG := Lib.hid (getA_c g bb (LY a b) sB w9 HC9.out)
  rw [show getLR (LY a b) sB = (⟨sB, 10, b, 5⟩, 0) by unfold getLR; rw [(get3 _ _ _ rfl rfl rfl).2.1]] at hG
  have hgmx : gm ≠ bb ∧ gm ≠ w2.heap.size := by have h1 := HC.out.lt.2.1; have h2 := HH.out.lt.2.1; have h3 : w8.heap.size ≤ gm := hgm; omega
  clear hO hOv hF HC HH hb8 hrm hgm
  go_wp2_with fail
  refine hG.out.mono ?_
  rintro e wa ⟨rfl, hF⟩
  have hba := below_on hb9 (Nat.le_refl _) hF
  have hwax : wa.heap.size ≠ bb ∧ wa.heap.size ≠ w2.heap.size := by have h1 := HC9.out.lt.2.1; have h2 := HH9.out.lt.2.1; have h3 := hF.size; omega
  have hbb := hba.alloc hba.size (.cells #[.string sB, i64 10, i64 b, i64 5] 39)
  have hFa : Below w9.heap.size w9 (wa.alloc (.cells #[.string sB, i64 10, i64 b, i64 5] 39)) := hF.alloc hF.size _
  have a2 := cell_of_row _ wa.heap.size 2 _ _ (0, 0) (heap_alloc_new wa (.cells #[.string sB, i64 10, i64 b, i64 5] 39))
  simp only [List.getElem?_toArray, List.getElem?_cons_zero, List.getElem?_cons_succ] at a2
  have hba2 : wa.heap.size < (wa.alloc (.cells #[.string sB, i64 10, i64 b, i64 5] 39)).heap.size := by simp
  have l0 := (hFa.cell (p := ⟨gl, 0, none⟩) hbl).trans l0
  have l1 := (hFa.cell (p := ⟨gl, 1, none⟩) hbl).trans l1
  have l2 := (hFa.cell (p := ⟨gl, 2, none⟩) hbl).trans l2
  have m0 := (hFa.cell (p := ⟨gm, 0, none⟩) hbm).trans m0
  have m1 := (hFa.cell (p := ⟨gm, 1, none⟩) hbm).trans m1
  have m2 := (hFa.cell (p := ⟨gm, 2, none⟩) hbm).trans m2
  have HCb := Lib.hid (HC9.out.later hFa)
  have HHb := Lib.hid (HH9.out.later hFa)
  clear hG hF hFa HC9 HH9 hb9 hba
  go_wp2_with fail
  generalize wa.alloc (.cells #[.string sB, i64 10, i64 b, i64 5] 39) = wb at *
  have heq : ∀ W : World, (binOp .eql 34 (.agg #[i64 n, .string sB, i64 b]) (.agg #[i64 n, .string sB, i64 b])).run Try.prog W = .ok (.bool true) W := fun W => by
    have := eq_held ⟨n, sB, b⟩ ⟨n, sB, b⟩ W
    rwa [decide_eq_true rfl] at this
  have HBb := Lib.hid hbb
  have hwd := Lib.hid hwb
  have i1 : ((1 : Nat) : Int) = 1 := rfl
  have Hd0 : Below wb.heap.size wb wb.drew := (Below.refl _ _).drew
  have hcd := Lib.hid (HCb.out.later Hd0)
  have hhd := Lib.hid (HHb.out.later Hd0)
  have hbd := Lib.hid (HBb.out.drew)
  have hx1 : gl ≠ bb ∧ gl ≠ w2.heap.size := by have := hlh7.out; omega
  have hx2 : gm ≠ bb ∧ gm ≠ w2.heap.size := hgmx
  have hx3 : wa.heap.size ≠ bb ∧ wa.heap.size ≠ w2.heap.size := hwax
  have hnz := hlh7.out
  have hS8 : ∀ V V' : World, G2 V V' bb w2.heap.size → (fun V => V.cell? ⟨gl, 0, none⟩ = some (i64 n) ∧ V.cell? ⟨gl, 1, none⟩ = some (.string sB) ∧ V.cell? ⟨gl, 2, none⟩ = some (i64 b) ∧ V.cell? ⟨gm, 0, none⟩ = some (i64 n) ∧ V.cell? ⟨gm, 1, none⟩ = some (.string sB) ∧ V.cell? ⟨gm, 2, none⟩ = some (i64 b) ∧ V.cell? ⟨wa.heap.size, 2, none⟩ = some (i64 b)) V → (fun V => V.cell? ⟨gl, 0, none⟩ = some (i64 n) ∧ V.cell? ⟨gl, 1, none⟩ = some (.string sB) ∧ V.cell? ⟨gl, 2, none⟩ = some (i64 b) ∧ V.cell? ⟨gm, 0, none⟩ = some (i64 n) ∧ V.cell? ⟨gm, 1, none⟩ = some (.string sB) ∧ V.cell? ⟨gm, 2, none⟩ = some (i64 b) ∧ V.cell? ⟨wa.heap.size, 2, none⟩ = some (i64 b)) V' := fun V V' hG ⟨t1, t2, t3, t4, t5, t6, t7⟩ => by
    have kp : ∀ (p : Addr) (u : Value), V.cell? p = some u → p.block ≠ bb → p.block ≠ w2.heap.size → V'.cell? p = some u := fun p u h h1 h2 => (World.cell?_of_block (hG.block _ (World.block_lt_of_cell? _ _ h) h1 h2)).trans h
    exact ⟨kp _ _ t1 hx1.1 hx1.2, kp _ _ t2 hx1.1 hx1.2, kp _ _ t3 hx1.1 hx1.2, kp _ _ t4 hx2.1 hx2.2, kp _ _ t5 hx2.1 hx2.2, kp _ _ t6 hx2.1 hx2.2, kp _ _ t7 hx3.1 hx3.2⟩
  have HS8 := Lib.hid hS8
  clear hS8 hx1 hx2 hx3 hgmx hwax hnz hwb hbb i1
  refine wp_region_noPanic ?_
  refine wp_region_l 47 (fun V => V.cell? ⟨gl, 0, none⟩ = some (i64 n) ∧ V.cell? ⟨gl, 1, none⟩ = some (.string sB) ∧ V.cell? ⟨gl, 2, none⟩ = some (i64 b) ∧ V.cell? ⟨gm, 0, none⟩ = some (i64 n) ∧ V.cell? ⟨gm, 1, none⟩ = some (.string sB) ∧ V.cell? ⟨gm, 2, none⟩ = some (i64 b) ∧ V.cell? ⟨wa.heap.size, 2, none⟩ = some (i64 b)) (by kernel_rfl) (⟨l0, l1, l2, m0, m1, m2, a2⟩) (fun hH => ?_)
  refine wpAnyL_take (i := 0) (v := ?v1) rfl (by kernel_rfl) (by kernel_rfl) (by kernel_rfl) (by kernel_rfl) (fun _ _ _ h => h) (Or.inl ⟨by kernel_rfl, ?hy1⟩) (by assumption) ?r1
  case hy1 => (intro W hSW; obtain ⟨s1, s2, s3, s4, s5, s6, s7⟩ := hSW; go_simp; try with_reducible rfl)
  try simp only [Act.put, List.getElem_toArray, List.getElem_cons_zero, List.setIfInBounds_toArray, List.set_cons_zero, List.set_cons_succ]
  refine wpAnyL_take (i := 1) (v := ?v2) rfl (by kernel_rfl) (by kernel_rfl) (by kernel_rfl) (by kernel_rfl) (fun _ _ _ h => h) (Or.inl ⟨by kernel_rfl, ?hy2⟩) (by assumption) ?r2
  case hy2 => (intro W hSW; obtain ⟨s1, s2, s3, s4, s5, s6, s7⟩ := hSW; go_simp; try with_reducible rfl)
  try simp only [Act.put, List.getElem_toArray, List.getElem_cons_zero, List.getElem_cons_succ, List.setIfInBounds_toArray, List.set_cons_zero, List.set_cons_succ]
  refine wpAnyL_take (i := 2) (v := ?v3) rfl (by kernel_rfl) (by kernel_rfl) (by kernel_rfl) (by kernel_rfl) (fun _ _ _ h => h) (Or.inl ⟨by kernel_rfl, ?hy3⟩) (by assumption) ?r3
  case hy3 => (intro W hSW; obtain ⟨s1, s2, s3, s4, s5, s6, s7⟩ := hSW; go_simp; try with_reducible rfl)
  try simp only [Act.put, List.getElem_toArray, List.getElem_cons_zero, List.getElem_cons_succ, List.setIfInBounds_toArray, List.set_cons_zero, List.set_cons_succ]
  refine wpAnyL_take (i := 3) (v := ?v4) rfl (by kernel_rfl) (by kernel_rfl) (by kernel_rfl) (by kernel_rfl) (fun _ _ _ h => h) (Or.inl ⟨by kernel_rfl, ?hy4⟩) (by assumption) ?r4
  case hy4 => (intro W hSW; obtain ⟨s1, s2, s3, s4, s5, s6, s7⟩ := hSW; go_simp; try with_reducible rfl)
  try simp only [Act.put, List.getElem_toArray, List.getElem_cons_zero, List.getElem_cons_succ, List.setIfInBounds_toArray, List.set_cons_zero, List.set_cons_succ]
  refine wpAnyL_take (i := 4) (v := ?v5) rfl (by kernel_rfl) (by kernel_rfl) (by kernel_rfl) (by kernel_rfl) (fun _ _ _ h => h) (Or.inl ⟨by kernel_rfl, ?hy5⟩) (by assumption) ?r5
  case hy5 => (intro W hSW; obtain ⟨s1, s2, s3, s4, s5, s6, s7⟩ := hSW; go_simp; try with_reducible rfl)
  try simp only [Act.put, List.getElem_toArray, List.getElem_cons_zero, List.getElem_cons_succ, List.setIfInBounds_toArray, List.set_cons_zero, List.set_cons_succ]
  refine wpAnyL_take (i := 5) (v := ?v6) rfl (by kernel_rfl) (by kernel_rfl) (by kernel_rfl) (by kernel_rfl) (fun _ _ _ h => h) (Or.inl ⟨by kernel_rfl, ?hy6⟩) (by assumption) ?r6
  case hy6 => (intro W hSW; obtain ⟨s1, s2, s3, s4, s5, s6, s7⟩ := hSW; go_simp; try with_reducible rfl)
  try simp only [Act.put, List.getElem_toArray, List.getElem_cons_zero, List.getElem_cons_succ, List.setIfInBounds_toArray, List.set_cons_zero, List.set_cons_succ]
  refine wpAnyL_take (i := 6) (v := ?v7) rfl (by kernel_rfl) (by kernel_rfl) (by kernel_rfl) (by kernel_rfl) (fun _ _ _ h => h) (Or.inl ⟨by kernel_rfl, ?hy7⟩) (by assumption) ?r7
  case hy7 => (intro W hSW; obtain ⟨s1, s2, s3, s4, s5, s6, s7⟩ := hSW; go_simp; try with_reducible rfl)
  try simp only [Act.put, List.getElem_toArray, List.getElem_cons_zero, List.getElem_cons_succ, List.setIfInBounds_toArray, List.set_cons_zero, List.set_cons_succ]
  refine wpAnyL_take (i := 7) (v := ?v8) rfl (by kernel_rfl) (by kernel_rfl) (by kernel_rfl) (by kernel_rfl) (fun _ _ _ h => h) (Or.inl ⟨by kernel_rfl, ?hy8⟩) (by assumption) ?r8
  case hy8 => (intro W hSW; obtain ⟨s1, s2, s3, s4, s5, s6, s7⟩ := hSW; go_simp; try with_reducible rfl)
  try simp only [Act.put, List.getElem_toArray, List.getElem_cons_zero, List.getElem_cons_succ, List.setIfInBounds_toArray, List.set_cons_zero, List.set_cons_succ]
  refine wpAnyL_take (i := 8) (v := ?v9) rfl (by kernel_rfl) (by kernel_rfl) (by kernel_rfl) (by kernel_rfl) (fun _ _ _ h => h) (Or.inl ⟨by kernel_rfl, ?hy9⟩) (by assumption) ?r9
  case hy9 => (intro W hSW; obtain ⟨s1, s2, s3, s4, s5, s6, s7⟩ := hSW; go_simp; try with_reducible rfl)
  try simp only [Act.put, List.getElem_toArray, List.getElem_cons_zero, List.getElem_cons_succ, List.setIfInBounds_toArray, List.set_cons_zero, List.set_cons_succ]
  refine wpAnyL_take (i := 9) (v := ?v10) rfl (by kernel_rfl) (by kernel_rfl) (by kernel_rfl) (by kernel_rfl) (fun _ _ _ h => h) (Or.inl ⟨by kernel_rfl, ?hy10⟩) (by assumption) ?r10
  case hy10 => (intro W hSW; obtain ⟨s1, s2, s3, s4, s5, s6, s7⟩ := hSW; go_simp; try with_reducible rfl)
  try simp only [Act.put, List.getElem_toArray, List.getElem_cons_zero, List.getElem_cons_succ, List.setIfInBounds_toArray, List.set_cons_zero, List.set_cons_succ]
  refine wpAnyL_take (i := 10) (v := ?v11) rfl (by kernel_rfl) (by kernel_rfl) (by kernel_rfl) (by kernel_rfl) (fun _ _ _ h => h) (Or.inl ⟨by kernel_rfl, ?hy11⟩) (by assumption) ?r11
  case hy11 => (intro W hSW; obtain ⟨s1, s2, s3, s4, s5, s6, s7⟩ := hSW; go_simp; try with_reducible rfl)
  try simp only [Act.put, List.getElem_toArray, List.getElem_cons_zero, List.getElem_cons_succ, List.setIfInBounds_toArray, List.set_cons_zero, List.set_cons_succ]
  refine wpAnyL_take (i := 11) (v := ?v12) rfl (by kernel_rfl) (by kernel_rfl) (by kernel_rfl) (by kernel_rfl) (fun _ _ _ h => h) (Or.inl ⟨by kernel_rfl, ?hy12⟩) (by assumption) ?r12
  case hy12 => (intro W hSW; obtain ⟨s1, s2, s3, s4, s5, s6, s7⟩ := hSW; go_simp; try with_reducible rfl)
  try simp only [Act.put, List.getElem_toArray, List.getElem_cons_zero, List.getElem_cons_succ, List.setIfInBounds_toArray, List.set_cons_zero, List.set_cons_succ]
  refine wpAnyL_take (i := 12) (v := ?v13) rfl (by kernel_rfl) (by kernel_rfl) (by kernel_rfl) (by kernel_rfl) (fun _ _ _ h => h) (Or.inl ⟨by kernel_rfl, ?hy13⟩) (by assumption) ?r13
  case hy13 => (intro W hSW; obtain ⟨s1, s2, s3, s4, s5, s6, s7⟩ := hSW; go_simp; try with_reducible rfl)
  try simp only [Act.put, List.getElem_toArray, List.getElem_cons_zero, List.getElem_cons_succ, List.setIfInBounds_toArray, List.set_cons_zero, List.set_cons_succ]
  refine wpAnyL_take (i := 13) (v := ?v14) rfl (by kernel_rfl) (by kernel_rfl) (by kernel_rfl) (by kernel_rfl) (fun _ _ _ h => h) (Or.inl ⟨by kernel_rfl, ?hy14⟩) (by assumption) ?r14
  case hy14 => (intro W hSW; obtain ⟨s1, s2, s3, s4, s5, s6, s7⟩ := hSW; go_simp; try with_reducible rfl)
  try simp only [Act.put, List.getElem_toArray, List.getElem_cons_zero, List.getElem_cons_succ, List.setIfInBounds_toArray, List.set_cons_zero, List.set_cons_succ]
  refine wpAnyL_take (i := 14) (v := ?v15) rfl (by kernel_rfl) (by kernel_rfl) (by kernel_rfl) (by kernel_rfl) (fun _ _ _ h => h) (Or.inl ⟨by kernel_rfl, ?hy15⟩) (by assumption) ?r15
  case hy15 => (intro W hSW; obtain ⟨s1, s2, s3, s4, s5, s6, s7⟩ := hSW; go_simp; try with_reducible rfl)
  try simp only [Act.put, List.getElem_toArray, List.getElem_cons_zero, List.getElem_cons_succ, List.setIfInBounds_toArray, List.set_cons_zero, List.set_cons_succ]
  refine wpAnyL_take (i := 15) (v := ?v16) rfl (by kernel_rfl) (by kernel_rfl) (by kernel_rfl) (by kernel_rfl) (fun _ _ _ h => h) (Or.inl ⟨by kernel_rfl, ?hy16⟩) (by assumption) ?r16
  case hy16 => (intro W hSW; obtain ⟨s1, s2, s3, s4, s5, s6, s7⟩ := hSW; go_simp; try with_reducible rfl)
  try simp only [Act.put, List.getElem_toArray, List.getElem_cons_zero, List.getElem_cons_succ, List.setIfInBounds_toArray, List.set_cons_zero, List.set_cons_succ]
  refine wpAnyL_take (i := 16) (v := ?v17) rfl (by kernel_rfl) (by kernel_rfl) (by kernel_rfl) (by kernel_rfl) (fun _ _ _ h => h) (Or.inl ⟨by kernel_rfl, ?hy17⟩) (by assumption) ?r17
  case hy17 => (intro W hSW; obtain ⟨s1, s2, s3, s4, s5, s6, s7⟩ := hSW; go_simp; try with_reducible rfl)
  try simp only [Act.put, List.getElem_toArray, List.getElem_cons_zero, List.getElem_cons_succ, List.setIfInBounds_toArray, List.set_cons_zero, List.set_cons_succ]
  refine wpAnyL_take (i := 17) (v := ?v18) rfl (by kernel_rfl) (by kernel_rfl) (by kernel_rfl) (by kernel_rfl) (fun _ _ _ h => h) (Or.inl ⟨by kernel_rfl, ?hy18⟩) (by assumption) ?r18
  case hy18 => (intro W hSW; obtain ⟨s1, s2, s3, s4, s5, s6, s7⟩ := hSW; go_simp; try with_reducible rfl)
  try simp only [Act.put, List.getElem_toArray, List.getElem_cons_zero, List.getElem_cons_succ, List.setIfInBounds_toArray, List.set_cons_zero, List.set_cons_succ]
  refine wpAnyL_take (i := 18) (v := ?v19) rfl (by kernel_rfl) (by kernel_rfl) (by kernel_rfl) (by kernel_rfl) (fun _ _ _ h => h) (Or.inl ⟨by kernel_rfl, ?hy19⟩) (by assumption) ?r19
  case hy19 => (intro W hSW; obtain ⟨s1, s2, s3, s4, s5, s6, s7⟩ := hSW; go_simp; try with_reducible rfl)
  try simp only [Act.put, List.getElem_toArray, List.getElem_cons_zero, List.getElem_cons_succ, List.setIfInBounds_toArray, List.set_cons_zero, List.set_cons_succ]
  refine wpAnyL_take (i := 19) (v := ?v20) rfl (by kernel_rfl) (by kernel_rfl) (by kernel_rfl) (by kernel_rfl) (fun _ _ _ h => h) (Or.inl ⟨by kernel_rfl, ?hy20⟩) (by assumption) ?r20
  case hy20 => (intro W hSW; obtain ⟨s1, s2, s3, s4, s5, s6, s7⟩ := hSW; go_simp; try with_reducible rfl)
  try simp only [Act.put, List.getElem_toArray, List.getElem_cons_zero, List.getElem_cons_succ, List.setIfInBounds_toArray, List.set_cons_zero, List.set_cons_succ]
  refine wpAnyL_take (i := 20) (v := ?v21) rfl (by kernel_rfl) (by kernel_rfl) (by kernel_rfl) (by kernel_rfl) (fun _ _ _ h => h) (Or.inl ⟨by kernel_rfl, ?hy21⟩) (by assumption) ?r21
  case hy21 => (intro W hSW; obtain ⟨s1, s2, s3, s4, s5, s6, s7⟩ := hSW; go_simp; try with_reducible rfl)
  try simp only [Act.put, List.getElem_toArray, List.getElem_cons_zero, List.getElem_cons_succ, List.setIfInBounds_toArray, List.set_cons_zero, List.set_cons_succ]
  refine wpAnyL_take (i := 21) (v := ?v22) rfl (by kernel_rfl) (by kernel_rfl) (by kernel_rfl) (by kernel_rfl) (fun _ _ _ h => h) (Or.inl ⟨by kernel_rfl, ?hy22⟩) (by assumption) ?r22
  case hy22 => (intro W hSW; obtain ⟨s1, s2, s3, s4, s5, s6, s7⟩ := hSW; go_simp; try with_reducible rfl)
  try simp only [Act.put, List.getElem_toArray, List.getElem_cons_zero, List.getElem_cons_succ, List.setIfInBounds_toArray, List.set_cons_zero, List.set_cons_succ]
  refine wpAnyL_take (i := 22) (v := ?v23) rfl (by kernel_rfl) (by kernel_rfl) (by kernel_rfl) (by kernel_rfl) (fun _ _ _ h => h) (Or.inl ⟨by kernel_rfl, ?hy23⟩) (by assumption) ?r23
  case hy23 => (intro W hSW; obtain ⟨s1, s2, s3, s4, s5, s6, s7⟩ := hSW; go_simp; try with_reducible rfl)
  try simp only [Act.put, List.getElem_toArray, List.getElem_cons_zero, List.getElem_cons_succ, List.setIfInBounds_toArray, List.set_cons_zero, List.set_cons_succ]
  refine wpAnyL_take (i := 23) (v := ?v24) rfl (by kernel_rfl) (by kernel_rfl) (by kernel_rfl) (by kernel_rfl) (fun _ _ _ h => h) (Or.inl ⟨by kernel_rfl, ?hy24⟩) (by assumption) ?r24
  case hy24 => (intro W hSW; obtain ⟨s1, s2, s3, s4, s5, s6, s7⟩ := hSW; go_simp; try with_reducible rfl)
  try simp only [Act.put, List.getElem_toArray, List.getElem_cons_zero, List.getElem_cons_succ, List.setIfInBounds_toArray, List.set_cons_zero, List.set_cons_succ]
  refine wpAnyL_take (i := 24) (v := ?v25) rfl (by kernel_rfl) (by kernel_rfl) (by kernel_rfl) (by kernel_rfl) (fun _ _ _ h => h) (Or.inl ⟨by kernel_rfl, ?hy25⟩) (by assumption) ?r25
  case hy25 => (intro W hSW; obtain ⟨s1, s2, s3, s4, s5, s6, s7⟩ := hSW; go_simp; try with_reducible rfl)
  try simp only [Act.put, List.getElem_toArray, List.getElem_cons_zero, List.getElem_cons_succ, List.setIfInBounds_toArray, List.set_cons_zero, List.set_cons_succ]
  refine wpAnyL_take (i := 25) (v := ?v26) rfl (by kernel_rfl) (by kernel_rfl) (by kernel_rfl) (by kernel_rfl) (fun _ _ _ h => h) (Or.inl ⟨by kernel_rfl, ?hy26⟩) (by assumption) ?r26
  case hy26 => (intro W hSW; obtain ⟨s1, s2, s3, s4, s5, s6, s7⟩ := hSW; go_simp; try with_reducible rfl)
  try simp only [Act.put, List.getElem_toArray, List.getElem_cons_zero, List.getElem_cons_succ, List.setIfInBounds_toArray, List.set_cons_zero, List.set_cons_succ]
  refine wpAnyL_take (i := 26) (v := ?v27) rfl (by kernel_rfl) (by kernel_rfl) (by kernel_rfl) (by kernel_rfl) (fun _ _ _ h => h) (Or.inl ⟨by kernel_rfl, ?hy27⟩) (by assumption) ?r27
  case hy27 => (intro W hSW; obtain ⟨s1, s2, s3, s4, s5, s6, s7⟩ := hSW; go_simp; try with_reducible rfl)
  try simp only [Act.put, List.getElem_toArray, List.getElem_cons_zero, List.getElem_cons_succ, List.setIfInBounds_toArray, List.set_cons_zero, List.set_cons_succ]
  refine wpAnyL_take (i := 27) (v := ?v28) rfl (by kernel_rfl) (by kernel_rfl) (by kernel_rfl) (by kernel_rfl) (fun _ _ _ h => h) (Or.inl ⟨by kernel_rfl, ?hy28⟩) (by assumption) ?r28
  case hy28 => (intro W hSW; obtain ⟨s1, s2, s3, s4, s5, s6, s7⟩ := hSW; go_simp; try with_reducible rfl)
  try simp only [Act.put, List.getElem_toArray, List.getElem_cons_zero, List.getElem_cons_succ, List.setIfInBounds_toArray, List.set_cons_zero, List.set_cons_succ]
  refine wpAnyL_take (i := 28) (v := ?v29) rfl (by kernel_rfl) (by kernel_rfl) (by kernel_rfl) (by kernel_rfl) (fun _ _ _ h => h) (Or.inl ⟨by kernel_rfl, ?hy29⟩) (by assumption) ?r29
  case hy29 => (intro W hSW; obtain ⟨s1, s2, s3, s4, s5, s6, s7⟩ := hSW; go_simp; try with_reducible rfl)
  try simp only [Act.put, List.getElem_toArray, List.getElem_cons_zero, List.getElem_cons_succ, List.setIfInBounds_toArray, List.set_cons_zero, List.set_cons_succ]
  refine wpAnyL_one (i := 29) (by kernel_rfl) rfl (by decide) (fun K hK => ?_)
  go_simp
  refine (hoof_c (w2.heap.size + 1) w2.heap.size [⟨n, sB, b⟩] sA _ hhd.out (okH_b hn.out ha.out hb.out) (by simp)).mono ?_
  rintro e wc ⟨v, rfl, hOv, hFc⟩
  rw [show ofL [⟨n, sB, b⟩] sA = [] by simp [ofL, neBA]] at hOv
  obtain ⟨Av, cv, rfl, -⟩ := hOv.sl
  have hcc := Lib.hid (hcd.out.later hFc)
  have hhc := Lib.hid (hhd.out.later hFc)
  have hbc := below_on hbd.out (Nat.le_refl _) hFc
  clear hOv
  refine hK.out _ _ (let ⟨t1, t2, t3, t4, t5, t6, t7⟩ := hH; ⟨(hFc.cell (World.block_lt_of_cell? _ _ t1)).trans t1, (hFc.cell (World.block_lt_of_cell? _ _ t2)).trans t2, (hFc.cell (World.block_lt_of_cell? _ _ t3)).trans t3, (hFc.cell (World.block_lt_of_cell? _ _ t4)).trans t4, (hFc.cell (World.block_lt_of_cell? _ _ t5)).trans t5, (hFc.cell (World.block_lt_of_cell? _ _ t6)).trans t6, (hFc.cell (World.block_lt_of_cell? _ _ t7)).trans t7⟩) (fun hH => ?_)
  clear hK K
  try simp only [Act.put, List.getElem_toArray, List.getElem_cons_zero, List.getElem_cons_succ, List.setIfInBounds_toArray, List.set_cons_zero, List.set_cons_succ]
  refine wpAnyL_take (i := 30) (v := ?v30) rfl (by kernel_rfl) (by kernel_rfl) (by kernel_rfl) (by kernel_rfl) (fun _ _ _ h => h) (Or.inl ⟨by kernel_rfl, ?hy30⟩) (by assumption) ?r30
  case hy30 => (intro W hSW; obtain ⟨s1, s2, s3, s4, s5, s6, s7⟩ := hSW; go_simp; try with_reducible rfl)
  try simp only [Act.put, List.getElem_toArray, List.getElem_cons_zero, List.getElem_cons_succ, List.setIfInBounds_toArray, List.set_cons_zero, List.set_cons_succ]
  refine wpAnyL_take (i := 31) (v := ?v31) rfl (by kernel_rfl) (by kernel_rfl) (by kernel_rfl) (by kernel_rfl) (fun _ _ _ h => h) (Or.inl ⟨by kernel_rfl, ?hy31⟩) (by assumption) ?r31
  case hy31 => (intro W hSW; obtain ⟨s1, s2, s3, s4, s5, s6, s7⟩ := hSW; go_simp; try with_reducible rfl)
  try simp only [Act.put, List.getElem_toArray, List.getElem_cons_zero, List.getElem_cons_succ, List.setIfInBounds_toArray, List.set_cons_zero, List.set_cons_succ]
  refine wpAnyL_take (i := 32) (v := ?v32) rfl (by kernel_rfl) (by kernel_rfl) (by kernel_rfl) (by kernel_rfl) (fun _ _ _ h => h) (Or.inl ⟨by kernel_rfl, ?hy32⟩) (by assumption) ?r32
  case hy32 => (intro W hSW; obtain ⟨s1, s2, s3, s4, s5, s6, s7⟩ := hSW; go_simp; try with_reducible rfl)
  try simp only [Act.put, List.getElem_toArray, List.getElem_cons_zero, List.getElem_cons_succ, List.setIfInBounds_toArray, List.set_cons_zero, List.set_cons_succ]
  refine wpAnyL_take (i := 33) (v := ?v33) rfl (by kernel_rfl) (by kernel_rfl) (by kernel_rfl) (by kernel_rfl) (fun _ _ _ h => h) (Or.inl ⟨by kernel_rfl, ?hy33⟩) (by assumption) ?r33
  case hy33 => (intro W hSW; obtain ⟨s1, s2, s3, s4, s5, s6, s7⟩ := hSW; go_simp; try with_reducible rfl)
  try simp only [Act.put, List.getElem_toArray, List.getElem_cons_zero, List.getElem_cons_succ, List.setIfInBounds_toArray, List.set_cons_zero, List.set_cons_succ]
  refine wpAnyL_take (i := 34) (v := ?v34) rfl (by kernel_rfl) (by kernel_rfl) (by kernel_rfl) (by kernel_rfl) (fun _ _ _ h => h) (Or.inl ⟨by kernel_rfl, ?hy34⟩) (by assumption) ?r34
  case hy34 => (intro W hSW; obtain ⟨s1, s2, s3, s4, s5, s6, s7⟩ := hSW; go_simp; try with_reducible rfl)
  try simp only [Act.put, List.getElem_toArray, List.getElem_cons_zero, List.getElem_cons_succ, List.setIfInBounds_toArray, List.set_cons_zero, List.set_cons_succ]
  refine wpAnyL_take (i := 35) (v := ?v35) rfl (by kernel_rfl) (by kernel_rfl) (by kernel_rfl) (by kernel_rfl) (fun _ _ _ h => h) (Or.inl ⟨by kernel_rfl, ?hy35⟩) (by assumption) ?r35
  case hy35 => (intro W hSW; obtain ⟨s1, s2, s3, s4, s5, s6, s7⟩ := hSW; go_simp; try with_reducible rfl)
  try simp only [Act.put, List.getElem_toArray, List.getElem_cons_zero, List.getElem_cons_succ, List.setIfInBounds_toArray, List.set_cons_zero, List.set_cons_succ]
  refine wpAnyL_take (i := 36) (v := ?v36) rfl (by kernel_rfl) (by kernel_rfl) (by kernel_rfl) (by kernel_rfl) (fun _ _ _ h => h) (Or.inl ⟨by kernel_rfl, ?hy36⟩) (by assumption) ?r36
  case hy36 => (intro W hSW; obtain ⟨s1, s2, s3, s4, s5, s6, s7⟩ := hSW; go_simp; try with_reducible rfl)
  try simp only [Act.put, List.getElem_toArray, List.getElem_cons_zero, List.getElem_cons_succ, List.setIfInBounds_toArray, List.set_cons_zero, List.set_cons_succ]
  refine wpAnyL_one (i := 37) (by kernel_rfl) rfl (by decide) (fun K hK => ?_)
  go_simp
  have hFr := hofreeA_c g bb (w2.heap.size + 1) w2.heap.size (LY a b) [⟨n, sB, b⟩] sA n _ hcc.out hhc.out Hd.out (ok_LY hn.out ha.out hb.out) (okH_b hn.out ha.out hb.out)
  rw [fr2 hn.out ha.out hb.out] at hFr
  refine hFr.mono ?_
  rintro e we ⟨rfl, hce, hhe, hge⟩
  have hbe := hbc.trans ((Gr.of_g2 hge).below hbc.size (fun k hk => by rcases hk with rfl | rfl <;> (have := hwd.out; omega)))
  refine hK.out _ _ (HS8.out _ _ hge hH) (fun hH => ?_)
  clear hK K
  try simp only [Act.put, List.getElem_toArray, List.getElem_cons_zero, List.getElem_cons_succ, List.setIfInBounds_toArray, List.set_cons_zero, List.set_cons_succ]
  refine wpAnyL_take (i := 38) (v := ?v37) rfl (by kernel_rfl) (by kernel_rfl) (by kernel_rfl) (by kernel_rfl) (fun _ _ _ h => h) (Or.inl ⟨by kernel_rfl, ?hy37⟩) (by assumption) ?r37
  case hy37 => (intro W hSW; obtain ⟨s1, s2, s3, s4, s5, s6, s7⟩ := hSW; go_simp; try with_reducible rfl)
  try simp only [Act.put, List.getElem_toArray, List.getElem_cons_zero, List.getElem_cons_succ, List.setIfInBounds_toArray, List.set_cons_zero, List.set_cons_succ]
  refine wpAnyL_take (i := 39) (v := ?v38) rfl (by kernel_rfl) (by kernel_rfl) (by kernel_rfl) (by kernel_rfl) (fun _ _ _ h => h) (Or.inl ⟨by kernel_rfl, ?hy38⟩) (by assumption) ?r38
  case hy38 => (intro W hSW; obtain ⟨s1, s2, s3, s4, s5, s6, s7⟩ := hSW; go_simp; try with_reducible rfl)
  try simp only [Act.put, List.getElem_toArray, List.getElem_cons_zero, List.getElem_cons_succ, List.setIfInBounds_toArray, List.set_cons_zero, List.set_cons_succ]
  refine wpAnyL_take (i := 40) (v := ?v39) rfl (by kernel_rfl) (by kernel_rfl) (by kernel_rfl) (by kernel_rfl) (fun _ _ _ h => h) (Or.inl ⟨by kernel_rfl, ?hy39⟩) (by assumption) ?r39
  case hy39 => (intro W hSW; obtain ⟨s1, s2, s3, s4, s5, s6, s7⟩ := hSW; go_simp; try with_reducible rfl)
  try simp only [Act.put, List.getElem_toArray, List.getElem_cons_zero, List.getElem_cons_succ, List.setIfInBounds_toArray, List.set_cons_zero, List.set_cons_succ]
  refine wpAnyL_take (i := 41) (v := ?v40) rfl (by kernel_rfl) (by kernel_rfl) (by kernel_rfl) (by kernel_rfl) (fun _ _ _ h => h) (Or.inl ⟨by kernel_rfl, ?hy40⟩) (by assumption) ?r40
  case hy40 => (intro W hSW; obtain ⟨s1, s2, s3, s4, s5, s6, s7⟩ := hSW; go_simp; try with_reducible rfl)
  try simp only [Act.put, List.getElem_toArray, List.getElem_cons_zero, List.getElem_cons_succ, List.setIfInBounds_toArray, List.set_cons_zero, List.set_cons_succ]
  refine wpAnyL_take (i := 42) (v := ?v41) rfl (by kernel_rfl) (by kernel_rfl) (by kernel_rfl) (by kernel_rfl) (fun _ _ _ h => h) (Or.inl ⟨by kernel_rfl, ?hy41⟩) (by assumption) ?r41
  case hy41 => (intro W hSW; obtain ⟨s1, s2, s3, s4, s5, s6, s7⟩ := hSW; go_simp; try with_reducible rfl)
  try simp only [Act.put, List.getElem_toArray, List.getElem_cons_zero, List.getElem_cons_succ, List.setIfInBounds_toArray, List.set_cons_zero, List.set_cons_succ]
  refine wpAnyL_take (i := 43) (v := ?v42) rfl (by kernel_rfl) (by kernel_rfl) (by kernel_rfl) (by kernel_rfl) (fun _ _ _ h => h) (Or.inl ⟨by kernel_rfl, ?hy42⟩) (by assumption) ?r42
  case hy42 => (intro W hSW; obtain ⟨s1, s2, s3, s4, s5, s6, s7⟩ := hSW; go_simp; try with_reducible rfl)
  try simp only [Act.put, List.getElem_toArray, List.getElem_cons_zero, List.getElem_cons_succ, List.setIfInBounds_toArray, List.set_cons_zero, List.set_cons_succ]
  refine wpAnyL_one (i := 44) (by kernel_rfl) rfl (by decide) (fun K hK => ?_)
  go_simp
  have hFr := hofreeA_c g bb (w2.heap.size + 1) w2.heap.size (LY a b) [⟨n, sB, b⟩] sB n _ hce hhe Hd.out (ok_LY hn.out ha.out hb.out) (okH_b hn.out ha.out hb.out)
  rw [fr3 hn.out ha.out hb.out] at hFr
  refine hFr.mono ?_
  rintro e wf ⟨rfl, hcf, hhf, hgf⟩
  have hbz := hbe.trans ((Gr.of_g2 hgf).below hbe.size (fun k hk => by rcases hk with rfl | rfl <;> (have := hwd.out; omega)))
  refine hK.out _ _ (HS8.out _ _ hgf hH) (fun hH => ?_)
  clear hK K
  try simp only [Act.put, List.getElem_toArray, List.getElem_cons_zero, List.getElem_cons_succ, List.setIfInBounds_toArray, List.set_cons_zero, List.set_cons_succ]
  refine wpAnyL_take (i := 45) (v := ?v43) rfl (by kernel_rfl) (by kernel_rfl) (by kernel_rfl) (by kernel_rfl) (fun _ _ _ h => h) (Or.inl ⟨by kernel_rfl, ?hy43⟩) (by assumption) ?r43
  case hy43 => (intro W hSW; obtain ⟨s1, s2, s3, s4, s5, s6, s7⟩ := hSW; go_simp; try with_reducible rfl)
  try simp only [Act.put, List.getElem_toArray, List.getElem_cons_zero, List.getElem_cons_succ, List.setIfInBounds_toArray, List.set_cons_zero, List.set_cons_succ]
  refine wpAnyL_take (i := 46) (v := ?v44) rfl (by kernel_rfl) (by kernel_rfl) (by kernel_rfl) (by kernel_rfl) (fun _ _ _ h => h) (Or.inl ⟨by kernel_rfl, ?hy44⟩) (by assumption) ?r44
  case hy44 => (intro W hSW; obtain ⟨s1, s2, s3, s4, s5, s6, s7⟩ := hSW; go_simp; try with_reducible rfl)
  try simp only [Act.put, List.getElem_toArray, List.getElem_cons_zero, List.getElem_cons_succ, List.setIfInBounds_toArray, List.set_cons_zero, List.set_cons_succ]
  refine wpAnyL_last (by kernel_rfl) rfl (fun K hK => ?_)
  go_simp
  refine hK.out _ _ ?_
  clear hK K
  try simp only [Act.put, List.getElem_toArray, List.getElem_cons_zero, List.getElem_cons_succ, List.setIfInBounds_toArray, List.set_cons_zero, List.set_cons_succ]
  refine wpAnyL_done (by kernel_rfl) ?_ _
  refine NoPanic.normal ?_
  go_wp2
  go_ret
  exact ⟨rfl, hbz⟩
end Go.Proofs.Ythmgchohbdlonaa
