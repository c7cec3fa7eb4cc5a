/- hold.All: the order of the sort -/
import Derived.Test.YthmgchohbdlonaaGreatRows
import Derived.Test.YthmgchohbdlonaaGreatHeld
import Derived.WalkKit
import Derived.WalkSpells
import Derived.WalkLawsBesides
import Derived.Deep.QuietTactic
import Derived.BigQuiet
import Derived.Laws.StructEq
import Derived.Deep.DeepFit
import Derived.StillTailTactics
namespace Go.Proofs.YthmgchohbdlonaaGreat
open Go.RowKit
open Go.Sort in
set_option maxRecDepth 100000 in
set_option maxHeartbeats 800000 in
theorem hcmp_c (x y : Held) (w : World) :
    Calls Tryz.prog 34 #[x.v, y.v] w fun e w' => e = .returned (i64 (orN (cmpS x.acct y.acct) (cmpN x.num y.num))) ∧ ∃ q os, w' = grow (w.drewN q) os := by
  have k1 := fun W => cmpS_c x.acct y.acct W
  have k2 := fun W => cmpN_c x.num y.num W
  have k3 := fun g W h0 h1 => or2_c (cmpS x.acct y.acct) (cmpN x.num y.num) g W h0 h1
  have hg1 := heap_alloc2_old w (.cells #[i64 x.num, .string x.acct, i64 x.sum] 54) (.cells #[i64 y.num, .string y.acct, i64 y.sum] 54)
  have hg2 := heap_alloc2_new w (.cells #[i64 x.num, .string x.acct, i64 x.sum] 54) (.cells #[i64 y.num, .string y.acct, i64 y.sum] 54)
  have hend : ∀ o1 o2 o3 : Obj, ∃ q os, (((w.alloc o1).alloc o2).drew.alloc o3) = grow (w.drewN q) os := fun o1 o2 o3 => ⟨1, #[o1, o2, o3], by
    simp only [alloc_eq_grow, drew_grow, grow_grow]; rfl⟩
  have Hend := Lib.hid hend
  generalize cmpS x.acct y.acct = p at *
  generalize cmpN x.num y.num = q at *
  have K1 := Lib.hid k1
  have K2 := Lib.hid k2
  have K3 := Lib.hid k3
  have n1 := cell_of_row _ w.heap.size 0 _ _ (0, 0) hg1
  have n2 := cell_of_row _ w.heap.size 1 _ _ (0, 0) hg1
  have m1 := cell_of_row _ (w.heap.size + 1) 0 _ _ (0, 0) hg2
  have m2 := cell_of_row _ (w.heap.size + 1) 1 _ _ (0, 0) hg2
  simp only [List.getElem?_toArray, List.getElem?_cons_zero, List.getElem?_cons_succ] at n1 n2 m1 m2
  clear hg1 hg2 k1 k2 k3 hend
  go_enter Tryz.func34, Tryz.ntmps34
  go_wp2_with fail
  have hS : ∀ o, (fun V => V.cell? ⟨w.heap.size, 0, none⟩ = some (i64 x.num) ∧ V.cell? ⟨w.heap.size, 1, none⟩ = some (.string x.acct) ∧ V.cell? ⟨w.heap.size + 1, 0, none⟩ = some (i64 y.num) ∧ V.cell? ⟨w.heap.size + 1, 1, none⟩ = some (.string y.acct)) ((((w.alloc (.cells #[i64 x.num, .string x.acct, i64 x.sum] 54)).alloc (.cells #[i64 y.num, .string y.acct, i64 y.sum] 54)).drew).alloc o) := fun o => ⟨(World.cell?_alloc_lt _ _ _ (by simp; omega)).trans n1, (World.cell?_alloc_lt _ _ _ (by simp; omega)).trans n2, (World.cell?_alloc_lt _ _ _ (by simp)).trans m1, (World.cell?_alloc_lt _ _ _ (by simp)).trans m2⟩
  have HS := Lib.hid hS
  clear hS
  refine wp_region_noPanic ?_
  refine wp_region_l 12 (fun V => V.cell? ⟨w.heap.size, 0, none⟩ = some (i64 x.num) ∧ V.cell? ⟨w.heap.size, 1, none⟩ = some (.string x.acct) ∧ V.cell? ⟨w.heap.size + 1, 0, none⟩ = some (i64 y.num) ∧ V.cell? ⟨w.heap.size + 1, 1, none⟩ = some (.string y.acct)) (by kernel_rfl) (⟨n1, n2, m1, m2⟩) (fun hH => ?_)
  refine wpAnyL_take (i := 0) (v := ?v1) rfl (by kernel_rfl) (by kernel_rfl) (by kernel_rfl) (by kernel_rfl) (fun _ _ _ h => h) (Or.inl ⟨by kernel_rfl, ?hy1⟩) (by assumption) ?r1
  case hy1 => (intro W hSW; obtain ⟨s1, s2, s3, s4⟩ := hSW; go_simp; try with_reducible rfl)
  try simp only [Act.put, List.getElem_toArray, List.getElem_cons_zero, List.setIfInBounds_toArray, List.set_cons_zero, List.set_cons_succ]
  refine wpAnyL_take (i := 1) (v := ?v2) rfl (by kernel_rfl) (by kernel_rfl) (by kernel_rfl) (by kernel_rfl) (fun _ _ _ h => h) (Or.inl ⟨by kernel_rfl, ?hy2⟩) (by assumption) ?r2
  case hy2 => (intro W hSW; obtain ⟨s1, s2, s3, s4⟩ := hSW; go_simp; try with_reducible rfl)
  try simp only [Act.put, List.getElem_toArray, List.getElem_cons_zero, List.getElem_cons_succ, List.setIfInBounds_toArray, List.set_cons_zero, List.set_cons_succ]
  refine wpAnyL_take (i := 2) (v := ?v3) rfl (by kernel_rfl) (by kernel_rfl) (by kernel_rfl) (by kernel_rfl) (fun _ _ _ h => h) (Or.inl ⟨by kernel_rfl, ?hy3⟩) (by assumption) ?r3
  case hy3 => (intro W hSW; obtain ⟨s1, s2, s3, s4⟩ := hSW; go_simp; try with_reducible rfl)
  try simp only [Act.put, List.getElem_toArray, List.getElem_cons_zero, List.getElem_cons_succ, List.setIfInBounds_toArray, List.set_cons_zero, List.set_cons_succ]
  refine wpAnyL_take (i := 3) (v := ?v4) rfl (by kernel_rfl) (by kernel_rfl) (by kernel_rfl) (by kernel_rfl) (fun _ _ _ h => h) (Or.inl ⟨by kernel_rfl, ?hy4⟩) (by assumption) ?r4
  case hy4 => (intro W hSW; obtain ⟨s1, s2, s3, s4⟩ := hSW; go_simp; try with_reducible rfl)
  try simp only [Act.put, List.getElem_toArray, List.getElem_cons_zero, List.getElem_cons_succ, List.setIfInBounds_toArray, List.set_cons_zero, List.set_cons_succ]
  refine wpAnyL_take (i := 5) (v := ?v5) rfl (by kernel_rfl) (by kernel_rfl) (by kernel_rfl) (by kernel_rfl) (fun _ _ _ h => h) (Or.inl ⟨by kernel_rfl, ?hy5⟩) (by assumption) ?r5
  case hy5 => (intro W hSW; obtain ⟨s1, s2, s3, s4⟩ := hSW; go_simp; try with_reducible rfl)
  try simp only [Act.put, List.getElem_toArray, List.getElem_cons_zero, List.getElem_cons_succ, List.setIfInBounds_toArray, List.set_cons_zero, List.set_cons_succ]
  refine wpAnyL_take (i := 6) (v := ?v6) rfl (by kernel_rfl) (by kernel_rfl) (by kernel_rfl) (by kernel_rfl) (fun _ _ _ h => h) (Or.inl ⟨by kernel_rfl, ?hy6⟩) (by assumption) ?r6
  case hy6 => (intro W hSW; obtain ⟨s1, s2, s3, s4⟩ := hSW; go_simp; try with_reducible rfl)
  try simp only [Act.put, List.getElem_toArray, List.getElem_cons_zero, List.getElem_cons_succ, List.setIfInBounds_toArray, List.set_cons_zero, List.set_cons_succ]
  refine wpAnyL_take (i := 7) (v := ?v7) rfl (by kernel_rfl) (by kernel_rfl) (by kernel_rfl) (by kernel_rfl) (fun _ _ _ h => h) (Or.inl ⟨by kernel_rfl, ?hy7⟩) (by assumption) ?r7
  case hy7 => (intro W hSW; obtain ⟨s1, s2, s3, s4⟩ := hSW; go_simp; try with_reducible rfl)
  try simp only [Act.put, List.getElem_toArray, List.getElem_cons_zero, List.getElem_cons_succ, List.setIfInBounds_toArray, List.set_cons_zero, List.set_cons_succ]
  refine wpAnyL_take (i := 8) (v := ?v8) rfl (by kernel_rfl) (by kernel_rfl) (by kernel_rfl) (by kernel_rfl) (fun _ _ _ h => h) (Or.inl ⟨by kernel_rfl, ?hy8⟩) (by assumption) ?r8
  case hy8 => (intro W hSW; obtain ⟨s1, s2, s3, s4⟩ := hSW; go_simp; try with_reducible rfl)
  try simp only [Act.put, List.getElem_toArray, List.getElem_cons_zero, List.getElem_cons_succ, List.setIfInBounds_toArray, List.set_cons_zero, List.set_cons_succ]
  refine wpAnyL_one (i := 4) (by kernel_rfl) rfl (by decide) (fun K hK => ?_)
  go_simp
  with_reducible refine (K1.out _).mono ?_
  rintro e u1 ⟨rfl, rfl⟩
  refine hK.out _ _ (hH) (fun hH => ?_)
  clear hK K
  try simp only [Act.put, List.getElem_toArray, List.getElem_cons_zero, List.getElem_cons_succ, List.setIfInBounds_toArray, List.set_cons_zero, List.set_cons_succ]
  refine wpAnyL_one (i := 9) (by kernel_rfl) rfl (by decide) (fun K hK => ?_)
  go_simp
  with_reducible refine (K2.out _).mono ?_
  rintro e u1 ⟨rfl, rfl⟩
  refine hK.out _ _ (hH) (fun hH => ?_)
  clear hK K
  try simp only [Act.put, List.getElem_toArray, List.getElem_cons_zero, List.getElem_cons_succ, List.setIfInBounds_toArray, List.set_cons_zero, List.set_cons_succ]
  refine wpAnyL_one (i := 10) (by kernel_rfl) rfl (by decide) (fun K hK => ?_)
  go_simp
  refine hK.out _ _ (HS.out _) (fun hH => ?_)
  clear hK K
  try simp only [Act.put, List.getElem_toArray, List.getElem_cons_zero, List.getElem_cons_succ, List.setIfInBounds_toArray, List.set_cons_zero, List.set_cons_succ]
  refine wpAnyL_one (i := 11) (by kernel_rfl) rfl (by decide) (fun K hK => ?_)
  go_simp
  with_reducible refine (K3.out _ _ ?c0 ?c1).mono ?_
  case c0 => go_simp
  case c1 => go_simp
  rintro e u1 ⟨rfl, rfl⟩
  refine hK.out _ _ (hH) (fun hH => ?_)
  clear hK K
  try simp only [Act.put, List.getElem_toArray, List.getElem_cons_zero, List.getElem_cons_succ, List.setIfInBounds_toArray, List.set_cons_zero, List.set_cons_succ]
  refine wpAnyL_last (by kernel_rfl) rfl (fun K hK => ?_)
  go_simp
  refine hK.out _ _ ?_
  clear hK K
  try simp only [Act.put, List.getElem_toArray, List.getElem_cons_zero, List.getElem_cons_succ, List.setIfInBounds_toArray, List.set_cons_zero, List.set_cons_succ]
  refine wpAnyL_done (by kernel_rfl) ?_ _
  refine NoPanic.normal ?_
  go_wp2
  go_ret
  exact ⟨rfl, Hend.out _ _ _⟩
end Go.Proofs.YthmgchohbdlonaaGreat
