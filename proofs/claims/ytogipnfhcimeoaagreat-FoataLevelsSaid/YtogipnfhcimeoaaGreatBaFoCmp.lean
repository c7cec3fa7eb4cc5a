/- foata.Steps: the order of the sort -/
import Derived.Test.YtogipnfhcimeoaaGreatRows
import Derived.Test.YtogipnfhcimeoaaGreatBaCmpI
import Derived.Test.YtogipnfhcimeoaaGreatBc19
import Derived.Test.YtogipnfhcimeoaaGreatBaFoaP
import Derived.WalkKit
import Derived.WalkSpells
import Derived.WalkLawsBesides
import Derived.Deep.QuietTactic
import Derived.BigQuiet
import Derived.Laws.StructEq
import Derived.Deep.DeepFit
import Derived.StillTailTactics
namespace Go.Proofs.YtogipnfhcimeoaaGreat
open Go.RowKit
open Go.Sort in
set_option maxRecDepth 100000 in
set_option maxHeartbeats 1600000 in
theorem focmp_c (x y : Od) (w : World) :
    Calls Tryz.prog 63 #[x.v, y.v] w fun e w' => e = .returned (i64 (orI (cmpI x.client y.client) (cmpI x.seq y.seq))) ∧ ∃ q os, w' = grow (w.drewN q) os := by
  have k1 := fun W => cmpI_c x.client y.client W
  have k2 := fun W => cmpI_c x.seq y.seq W
  have k3 := fun g W h0 h1 => orI_c (cmpI x.client y.client) (cmpI x.seq y.seq) g W h0 h1
  have hg1 := heap_alloc2_old w (.cells #[i64 x.client, i64 x.seq, i64 x.kind, .string x.acct, .string x.peer, i64 x.sum, .slice x.la x.legs.length x.lc, i64 x.period, i64 x.hold, .string x.note] 45) (.cells #[i64 y.client, i64 y.seq, i64 y.kind, .string y.acct, .string y.peer, i64 y.sum, .slice y.la y.legs.length y.lc, i64 y.period, i64 y.hold, .string y.note] 45)
  have hg2 := heap_alloc2_new w (.cells #[i64 x.client, i64 x.seq, i64 x.kind, .string x.acct, .string x.peer, i64 x.sum, .slice x.la x.legs.length x.lc, i64 x.period, i64 x.hold, .string x.note] 45) (.cells #[i64 y.client, i64 y.seq, i64 y.kind, .string y.acct, .string y.peer, i64 y.sum, .slice y.la y.legs.length y.lc, i64 y.period, i64 y.hold, .string y.note] 45)
  have hend : ∀ o1 o2 o3 : Obj, ∃ q os, (((w.alloc o1).alloc o2).drew.alloc o3) = grow (w.drewN q) os := fun o1 o2 o3 => ⟨1, #[o1, o2, o3], by
    simp only [alloc_eq_grow, drew_grow, grow_grow]; rfl⟩
  have Hend := Lib.hid hend
  generalize cmpI x.client y.client = p at *
  generalize cmpI x.seq y.seq = q at *
  have K1 := Lib.hid k1
  have K2 := Lib.hid k2
  have K3 := Lib.hid k3
  have n1 := cell_of_row _ w.heap.size 0 _ _ (0, 0) hg1
  have n2 := cell_of_row _ w.heap.size 1 _ _ (0, 0) hg1
  have m1 := cell_of_row _ (w.heap.size + 1) 0 _ _ (0, 0) hg2
  have m2 := cell_of_row _ (w.heap.size + 1) 1 _ _ (0, 0) hg2
  simp only [List.getElem?_toArray, List.getElem?_cons_zero, List.getElem?_cons_succ] at n1 n2 m1 m2
  clear hg1 hg2 k1 k2 k3 hend
  have hS : ∀ o, (fun V => V.cell? ⟨w.heap.size, 0, none⟩ = some (i64 x.client) ∧ V.cell? ⟨w.heap.size, 1, none⟩ = some (i64 x.seq) ∧ V.cell? ⟨w.heap.size + 1, 0, none⟩ = some (i64 y.client) ∧ V.cell? ⟨w.heap.size + 1, 1, none⟩ = some (i64 y.seq)) ((((w.alloc (.cells #[i64 x.client, i64 x.seq, i64 x.kind, .string x.acct, .string x.peer, i64 x.sum, .slice x.la x.legs.length x.lc, i64 x.period, i64 x.hold, .string x.note] 45)).alloc (.cells #[i64 y.client, i64 y.seq, i64 y.kind, .string y.acct, .string y.peer, i64 y.sum, .slice y.la y.legs.length y.lc, i64 y.period, i64 y.hold, .string y.note] 45)).drew).alloc o) := fun o => ⟨(World.cell?_alloc_lt _ _ _ (by simp; omega)).trans n1, (World.cell?_alloc_lt _ _ _ (by simp; omega)).trans n2, (World.cell?_alloc_lt _ _ _ (by simp)).trans m1, (World.cell?_alloc_lt _ _ _ (by simp)).trans m2⟩
  have HS := Lib.hid hS
  clear hS
  unfold Od.v
  go_enter Tryz.func63, Tryz.ntmps63
  go_wp2_with fail
  refine wp_region_noPanic ?_
  refine wp_region_l 16 (fun V => V.cell? ⟨w.heap.size, 0, none⟩ = some (i64 x.client) ∧ V.cell? ⟨w.heap.size, 1, none⟩ = some (i64 x.seq) ∧ V.cell? ⟨w.heap.size + 1, 0, none⟩ = some (i64 y.client) ∧ V.cell? ⟨w.heap.size + 1, 1, none⟩ = some (i64 y.seq)) (by kernel_rfl) (⟨n1, n2, m1, m2⟩) (fun hH => ?_)
  refine wpAnyL_take (i := 0) (v := ?v20001) rfl (by kernel_rfl) (by kernel_rfl) (by kernel_rfl) (by kernel_rfl) (fun _ _ _ h => h) (Or.inl ⟨by kernel_rfl, ?hy20001⟩) (by assumption) ?r20001
  case hy20001 => (intro W hSW; obtain ⟨s1, s2, s3, s4⟩ := hSW; go_simp; try with_reducible rfl)
  try simp only [Act.put, List.getElem_toArray, List.getElem_cons_zero, List.setIfInBounds_toArray, List.set_cons_zero, List.set_cons_succ]
  refine wpAnyL_take (i := 1) (v := ?v20002) rfl (by kernel_rfl) (by kernel_rfl) (by kernel_rfl) (by kernel_rfl) (fun _ _ _ h => h) (Or.inl ⟨by kernel_rfl, ?hy20002⟩) (by assumption) ?r20002
  case hy20002 => (intro W hSW; obtain ⟨s1, s2, s3, s4⟩ := hSW; go_simp; try with_reducible rfl)
  try simp only [Act.put, List.getElem_toArray, List.getElem_cons_zero, List.getElem_cons_succ, List.setIfInBounds_toArray, List.set_cons_zero, List.set_cons_succ]
  refine wpAnyL_take (i := 2) (v := ?v20003) rfl (by kernel_rfl) (by kernel_rfl) (by kernel_rfl) (by kernel_rfl) (fun _ _ _ h => h) (Or.inl ⟨by kernel_rfl, ?hy20003⟩) (by assumption) ?r20003
  case hy20003 => (intro W hSW; obtain ⟨s1, s2, s3, s4⟩ := hSW; go_simp; try with_reducible rfl)
  try simp only [Act.put, List.getElem_toArray, List.getElem_cons_zero, List.getElem_cons_succ, List.setIfInBounds_toArray, List.set_cons_zero, List.set_cons_succ]
  refine wpAnyL_take (i := 3) (v := ?v20004) rfl (by kernel_rfl) (by kernel_rfl) (by kernel_rfl) (by kernel_rfl) (fun _ _ _ h => h) (Or.inl ⟨by kernel_rfl, ?hy20004⟩) (by assumption) ?r20004
  case hy20004 => (intro W hSW; obtain ⟨s1, s2, s3, s4⟩ := hSW; go_simp; try with_reducible rfl)
  try simp only [Act.put, List.getElem_toArray, List.getElem_cons_zero, List.getElem_cons_succ, List.setIfInBounds_toArray, List.set_cons_zero, List.set_cons_succ]
  refine wpAnyL_take (i := 4) (v := ?v20005) rfl (by kernel_rfl) (by kernel_rfl) (by kernel_rfl) (by kernel_rfl) (fun _ _ _ h => h) (Or.inl ⟨by kernel_rfl, ?hy20005⟩) (by assumption) ?r20005
  case hy20005 => (intro W hSW; obtain ⟨s1, s2, s3, s4⟩ := hSW; go_simp; try with_reducible rfl)
  try simp only [Act.put, List.getElem_toArray, List.getElem_cons_zero, List.getElem_cons_succ, List.setIfInBounds_toArray, List.set_cons_zero, List.set_cons_succ]
  refine wpAnyL_take (i := 5) (v := ?v20006) rfl (by kernel_rfl) (by kernel_rfl) (by kernel_rfl) (by kernel_rfl) (fun _ _ _ h => h) (Or.inl ⟨by kernel_rfl, ?hy20006⟩) (by assumption) ?r20006
  case hy20006 => (intro W hSW; obtain ⟨s1, s2, s3, s4⟩ := hSW; go_simp; try with_reducible rfl)
  try simp only [Act.put, List.getElem_toArray, List.getElem_cons_zero, List.getElem_cons_succ, List.setIfInBounds_toArray, List.set_cons_zero, List.set_cons_succ]
  refine wpAnyL_take (i := 7) (v := ?v20007) rfl (by kernel_rfl) (by kernel_rfl) (by kernel_rfl) (by kernel_rfl) (fun _ _ _ h => h) (Or.inl ⟨by kernel_rfl, ?hy20007⟩) (by assumption) ?r20007
  case hy20007 => (intro W hSW; obtain ⟨s1, s2, s3, s4⟩ := hSW; go_simp; try with_reducible rfl)
  try simp only [Act.put, List.getElem_toArray, List.getElem_cons_zero, List.getElem_cons_succ, List.setIfInBounds_toArray, List.set_cons_zero, List.set_cons_succ]
  refine wpAnyL_take (i := 8) (v := ?v20008) rfl (by kernel_rfl) (by kernel_rfl) (by kernel_rfl) (by kernel_rfl) (fun _ _ _ h => h) (Or.inl ⟨by kernel_rfl, ?hy20008⟩) (by assumption) ?r20008
  case hy20008 => (intro W hSW; obtain ⟨s1, s2, s3, s4⟩ := hSW; go_simp; try with_reducible rfl)
  try simp only [Act.put, List.getElem_toArray, List.getElem_cons_zero, List.getElem_cons_succ, List.setIfInBounds_toArray, List.set_cons_zero, List.set_cons_succ]
  refine wpAnyL_take (i := 9) (v := ?v20009) rfl (by kernel_rfl) (by kernel_rfl) (by kernel_rfl) (by kernel_rfl) (fun _ _ _ h => h) (Or.inl ⟨by kernel_rfl, ?hy20009⟩) (by assumption) ?r20009
  case hy20009 => (intro W hSW; obtain ⟨s1, s2, s3, s4⟩ := hSW; go_simp; try with_reducible rfl)
  try simp only [Act.put, List.getElem_toArray, List.getElem_cons_zero, List.getElem_cons_succ, List.setIfInBounds_toArray, List.set_cons_zero, List.set_cons_succ]
  refine wpAnyL_take (i := 10) (v := ?v20010) rfl (by kernel_rfl) (by kernel_rfl) (by kernel_rfl) (by kernel_rfl) (fun _ _ _ h => h) (Or.inl ⟨by kernel_rfl, ?hy20010⟩) (by assumption) ?r20010
  case hy20010 => (intro W hSW; obtain ⟨s1, s2, s3, s4⟩ := hSW; go_simp; try with_reducible rfl)
  try simp only [Act.put, List.getElem_toArray, List.getElem_cons_zero, List.getElem_cons_succ, List.setIfInBounds_toArray, List.set_cons_zero, List.set_cons_succ]
  refine wpAnyL_take (i := 11) (v := ?v20011) rfl (by kernel_rfl) (by kernel_rfl) (by kernel_rfl) (by kernel_rfl) (fun _ _ _ h => h) (Or.inl ⟨by kernel_rfl, ?hy20011⟩) (by assumption) ?r20011
  case hy20011 => (intro W hSW; obtain ⟨s1, s2, s3, s4⟩ := hSW; go_simp; try with_reducible rfl)
  try simp only [Act.put, List.getElem_toArray, List.getElem_cons_zero, List.getElem_cons_succ, List.setIfInBounds_toArray, List.set_cons_zero, List.set_cons_succ]
  refine wpAnyL_take (i := 12) (v := ?v20012) rfl (by kernel_rfl) (by kernel_rfl) (by kernel_rfl) (by kernel_rfl) (fun _ _ _ h => h) (Or.inl ⟨by kernel_rfl, ?hy20012⟩) (by assumption) ?r20012
  case hy20012 => (intro W hSW; obtain ⟨s1, s2, s3, s4⟩ := hSW; go_simp; try with_reducible rfl)
  try simp only [Act.put, List.getElem_toArray, List.getElem_cons_zero, List.getElem_cons_succ, List.setIfInBounds_toArray, List.set_cons_zero, List.set_cons_succ]
  refine wpAnyL_one (i := 6) (by kernel_rfl) rfl (by decide) (fun K hK => ?_)
  go_simp
  with_reducible refine (K1.out _).mono ?_
  rintro e u1 ⟨rfl, rfl⟩
  refine hK.out _ _ (hH) (fun hH => ?_)
  clear hK K
  try simp only [Act.put, List.getElem_toArray, List.getElem_cons_zero, List.getElem_cons_succ, List.setIfInBounds_toArray, List.set_cons_zero, List.set_cons_succ]
  refine wpAnyL_one (i := 13) (by kernel_rfl) rfl (by decide) (fun K hK => ?_)
  go_simp
  with_reducible refine (K2.out _).mono ?_
  rintro e u1 ⟨rfl, rfl⟩
  refine hK.out _ _ (hH) (fun hH => ?_)
  clear hK K
  try simp only [Act.put, List.getElem_toArray, List.getElem_cons_zero, List.getElem_cons_succ, List.setIfInBounds_toArray, List.set_cons_zero, List.set_cons_succ]
  refine wpAnyL_one (i := 14) (by kernel_rfl) rfl (by decide) (fun K hK => ?_)
  go_simp
  refine hK.out _ _ (HS.out _) (fun hH => ?_)
  clear hK K
  try simp only [Act.put, List.getElem_toArray, List.getElem_cons_zero, List.getElem_cons_succ, List.setIfInBounds_toArray, List.set_cons_zero, List.set_cons_succ]
  refine wpAnyL_one (i := 15) (by kernel_rfl) rfl (by decide) (fun K hK => ?_)
  go_simp
  with_reducible refine (K3.out _ _ ?c0 ?c1).mono ?_
  case c0 => go_simp
  case c1 => go_simp
  rintro e u1 ⟨rfl, rfl⟩
  refine hK.out _ _ (hH) (fun hH => ?_)
  clear hK K
  try simp only [Act.put, List.getElem_toArray, List.getElem_cons_zero, List.getElem_cons_succ, List.setIfInBounds_toArray, List.set_cons_zero, List.set_cons_succ]
  refine wpAnyL_last (by kernel_rfl) rfl (fun K hK => ?_)
  go_simp
  refine hK.out _ _ ?_
  clear hK K
  try simp only [Act.put, List.getElem_toArray, List.getElem_cons_zero, List.getElem_cons_succ, List.setIfInBounds_toArray, List.set_cons_zero, List.set_cons_succ]
  refine wpAnyL_done (by kernel_rfl) ?_ _
  refine NoPanic.normal ?_
  go_wp2
  go_ret
  exact ⟨rfl, Hend.out _ _ _⟩
theorem focmp_lt (x y : Od) : ltO x y = decide (orI (cmpI x.client y.client) (cmpI x.seq y.seq) < 0) := by
  unfold ltO orI cmpI
  by_cases h1 : x.client < y.client
  · simp [h1]
  · by_cases h2 : y.client < x.client
    · have hne : x.client ≠ y.client := by omega
      simp [h1, h2, hne]
    · have he : x.client = y.client := by omega
      by_cases h3 : x.seq < y.seq
      · simp [he, h3]
      · by_cases h4 : y.seq < x.seq
        · simp [he, h3, h4]
        · simp [he, h3, h4]
end Go.Proofs.YtogipnfhcimeoaaGreat
