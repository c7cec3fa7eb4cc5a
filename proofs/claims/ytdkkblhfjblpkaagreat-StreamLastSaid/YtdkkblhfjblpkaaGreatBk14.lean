/- Texts of this claim, laid together: StC, StE, Few12. -/
import Derived.Test.YtdkkblhfjblpkaaGreatRows
import Derived.Test.YtdkkblhfjblpkaaGreatBk13
import Derived.Test.YtdkkblhfjblpkaaGreatBi2
import Derived.Test.YtdkkblhfjblpkaaGreatBk8
import Derived.Test.YtdkkblhfjblpkaaGreatBi8
import Derived.OwnWalk
import Derived.Deep.Cut
import Derived.WalkKit
import Derived.WalkSpells
import Derived.WalkLawsBesides
import Derived.Deep.QuietTactic
import Derived.BigQuiet
import Derived.Laws.StructEq
import Derived.Deep.DeepFit
import Derived.StillTailTactics
import Derived.Test.YtdkkblhfjblpkaaGreatBi5
import Derived.Test.YtdkkblhfjblpkaaGreatBi3
import Derived.Test.YtdkkblhfjblpkaaGreatBi1

/- stream: what a desk does -/
namespace Go.Proofs.YtdkkblhfjblpkaaGreat
open Go.RowKit
theorem evInfo : (Tryz.prog.info? 88).map (fun i => (i.zero, i.size, i.bytes)) = some (some (.agg #[i64 0, i64 0, i64 0, i64 0, i64 0]), Enc.size Ev, 40) := by kernel_rfl
set_option maxRecDepth 100000 in
set_option maxHeartbeats 2000000 in
theorem snew_c (w : World) : Calls Tryz.prog 41 #[] w fun e w' => ∃ d : DA, e = .returned d.ptr ∧ DkA w' w.heap.size d bk0 [] [] ∧ Below w.heap.size w w' := by
  have hmm := @run_makeMap Tryz.prog
  have h1 := Lib.hid (bnew_c w)
  go_enter Tryz.func41, Tryz.ntmps41
  go_wp2_with fail
  refine h1.out.mono ?_
  rintro e w1 ⟨a, rfl, hB, ha, hF⟩
  have HB := Lib.hid hB
  have Ha := Lib.hid ha
  have hb := hF
  clear hB ha hF h1
  go_wp2
  go_ret
  have hz := hb.size
  have b1 := (Below.refl w1.heap.size w1).alloc (Nat.le_refl _) (.map #[] 0)
  have z1 : (w1.alloc (.map #[] 0)).heap.size = w1.heap.size + 1 := by simp
  have b2 := (Below.refl (w1.alloc (.map #[] 0)).heap.size (w1.alloc (.map #[] 0))).alloc (Nat.le_refl _) (.map #[] 0)
  have z2 : ((w1.alloc (.map #[] 0)).alloc (.map #[] 0)).heap.size = w1.heap.size + 2 := by simp
  have b3 := (Below.refl ((w1.alloc (.map #[] 0)).alloc (.map #[] 0)).heap.size ((w1.alloc (.map #[] 0)).alloc (.map #[] 0))).alloc (Nat.le_refl _) (.cells #[a.ptr, .map (some w1.heap.size), .map (some (w1.heap.size + 1))] 176)
  have hlt := HB.out.lt
  refine ⟨⟨a, w1.heap.size + 2, w1.heap.size, w1.heap.size + 1⟩, rfl, ⟨((HB.out.later b1).later b2).later b3, ?_, ⟨?_, fun _ h => (by cases h), fun _ h => (by cases h)⟩, ⟨?_, fun _ h => (by cases h)⟩, ⟨fun e => ?_, fun e => ?_, fun e => ?_, ?_, ?_, ?_, (fun _ h => by cases h), List.Pairwise.nil⟩, (fun g hg => by obtain ⟨p, hp, _⟩ := hg; cases hp), fun k hk => ?_⟩, ?_⟩
  · have := heap_alloc_new ((w1.alloc (.map #[] 0)).alloc (.map #[] 0)) (.cells #[a.ptr, .map (some w1.heap.size), .map (some (w1.heap.size + 1))] 176)
    rwa [z2] at this
  · exact ((MapIs.made (enc := Value.string) w1).later b2).later b3
  · have := (MapIs.made (enc := Value.string) (w1.alloc (.map #[] 0))).later b3
    rwa [z1] at this
  · have h0 := hlt _ e
    dsimp only at h0
    omega
  · have h0 := hlt _ e
    dsimp only at h0
    omega
  · have h0 := hlt _ e
    dsimp only at h0
    omega
  · show w1.heap.size + 2 ≠ w1.heap.size; omega
  · show w1.heap.size + 2 ≠ w1.heap.size + 1; omega
  · show w1.heap.size ≠ w1.heap.size + 1; omega
  · rcases hk with hk | rfl | rfl | rfl | ⟨r, hr, _⟩
    · exact Ha.out k hk
    · show w.heap.size ≤ w1.heap.size + 2; omega
    · exact hz
    · show w.heap.size ≤ w1.heap.size + 1; omega
    · cases hr
  · exact ((hb.alloc hz _).alloc (by rw [z1]; omega) _).alloc (by rw [z2]; omega) _
section
variable {base : Nat} {d : DA} {B : Bk} {T : EvT} {R : List Rx}
theorem DkA.c0 {w : World} (h : DkA w base d B T R) : w.cell? ⟨d.p, 0, none⟩ = some d.a.ptr := cell_of_row _ d.p 0 _ _ (0, 0) h.cell
theorem DkA.c1 {w : World} (h : DkA w base d B T R) : w.cell? ⟨d.p, 1, none⟩ = some (.map (some d.be)) := cell_of_row _ d.p 1 _ _ (0, 0) h.cell
theorem DkA.c2 {w : World} (h : DkA w base d B T R) : w.cell? ⟨d.p, 2, none⟩ = some (.map (some d.br)) := cell_of_row _ d.p 2 _ _ (0, 0) h.cell
theorem DkA.look {w : World} (h : DkA w base d B T R) (k : ByteArray) : (Instr.lookup 173 (.map (some d.be)) (.string k) false).run Tryz.prog w = .ok (T.val k) w := by
  have hlk := run_lookup (P := Tryz.prog) strKey Tryz.underlying173 h.ev.map k (.slice none 0 0) (by kernel_rfl) false
  rw [EvT.ents_get] at hlk
  exact hlk
theorem DkA.find {w : World} (h : DkA w base d B T R) (k : ByteArray) : (Instr.lookup 174 (.map (some d.br)) (.string k) false).run Tryz.prog w = .ok (((getRd R k).map Rx.ptr).getD (.pointer none)) w := by
  have hlk := run_lookup (P := Tryz.prog) strKey Tryz.underlying174 h.rd.map k (.pointer none) (by kernel_rfl) false
  rw [rdEnts_get] at hlk
  exact hlk
set_option maxRecDepth 100000 in
set_option maxHeartbeats 4000000 in
/-- Of -/
theorem sof_c (k : ByteArray) (w : World) (h : DkA w base d B T R) (hn : (T.get k).length ≤ 65536) : Calls Tryz.prog 46 #[d.ptr, .string k] w fun e w' => ∃ v, e = .returned v ∧ Own w' w.heap.size 88 v (T.get k) ∧ Below w.heap.size w w' := by
  have c1 := h.c1
  have hlk := h.look k
  obtain ⟨A, c, hv, hs⟩ := (h.ev.val_own k).sl
  rw [hv] at hlk
  have HC := Lib.hid (clone_ev A c _ w hs hn)
  clear hs hv
  generalize T.get k = l at *
  go_enter Tryz.func46, Tryz.ntmps46
  go_wp2_with fail
  refine HC.out.mono ?_
  rintro e w1 ⟨v, rfl, hO, hF⟩
  have HO := Lib.hid hO
  clear hO HC
  go_wp2
  go_ret
  exact ⟨v, rfl, HO.out, hF⟩
set_option maxRecDepth 100000 in
set_option maxHeartbeats 4000000 in
/-- get -/
theorem sget_no (k : ByteArray) (w : World) (h : DkA w base d B T R) (hr : getRd R k = none) : Calls Tryz.prog 103 #[d.ptr, .string k] w fun e w' => e = .returned (.tuple #[.pointer none, .slice none 0 0, i64 6]) ∧ w = w' := by
  have c2 := h.c2
  have hlk := h.find k
  rw [hr] at hlk
  change (Instr.lookup 174 (.map (some d.br)) (.string k) false).run Tryz.prog w = .ok (.pointer none) w at hlk
  go_enter Tryz.func103, Tryz.ntmps103
  go_wp2
  go_ret3
  exact ⟨rfl, rfl⟩
set_option maxRecDepth 100000 in
set_option maxHeartbeats 4000000 in
theorem sget_c (k : ByteArray) (r : Rx) (w : World) (h : DkA w base d B T R) (hr : getRd R k = some r) (ha : r.at_ ≤ (T.get r.acct).length) : Calls Tryz.prog 103 #[d.ptr, .string k] w fun e w' => ∃ A c, e = .returned (.tuple #[r.ptr, .slice A ((T.get r.acct).length - r.at_) c, i64 0]) ∧ Sl w' w'.heap.size A c ((T.get r.acct).drop r.at_) ∧ Below w.heap.size w w' := by
  have c1 := h.c1
  have c2 := h.c2
  have hlk := h.find k
  rw [hr] at hlk
  change (Instr.lookup 174 (.map (some d.br)) (.string k) false).run Tryz.prog w = .ok r.ptr w at hlk
  have hcell := h.rd.cell r (getRd_mem hr).1
  have r0 := cell_of_row _ r.blk 0 _ _ (0, 0) hcell
  have r1 := cell_of_row _ r.blk 1 _ _ (0, 0) hcell
  simp only [List.getElem?_toArray, List.getElem?_cons_zero, List.getElem?_cons_succ] at r0 r1
  have hlk2 := fun W (hW : Below w.heap.size w W) => (h.later hW).look r.acct
  obtain ⟨A, c, hv, hs⟩ := (h.ev.val_own r.acct).sl
  rw [hv] at hlk2
  have hc : (T.get r.acct).length ≤ c := hs.1
  have HD := Lib.hid (hs.drop ha)
  have HS : Hid (∀ V, Below w.heap.size w V → (fun V : World => Below w.heap.size w V ∧ V.cell? ⟨d.p, 1, none⟩ = some (.map (some d.be)) ∧ V.cell? ⟨r.blk, 0, none⟩ = some (.string r.acct) ∧ V.cell? ⟨r.blk, 1, none⟩ = some (i64 (r.at_ : Int)) ∧ (Instr.lookup 173 (.map (some d.be)) (.string r.acct) false).run Tryz.prog V = .ok (.slice A (T.get r.acct).length c) V) V) := Lib.hid fun V hV => by
    have hc1 := (hV.block _ (Array.getElem?_eq_some_iff.1 hcell).1).trans hcell
    exact ⟨hV, (h.later hV).c1, cell_of_row _ r.blk 0 _ _ (0, 0) hc1, cell_of_row _ r.blk 1 _ _ (0, 0) hc1, hlk2 V hV⟩
  clear hs hv hcell h hlk2
  generalize T.get r.acct = l at *
  have i0 : (0 : Int) ≤ (r.at_ : Int) := by omega
  have i1 : (r.at_ : Int) ≤ (l.length : Int) := by omega
  have i2 : (r.at_ : Int) ≤ (c : Int) := by omega
  go_enter Tryz.func103, Tryz.ntmps103
  go_upto_region 6 with fail
  refine wp_region_noPanic ?_
  refine wp_region_l 17 (fun V : World => Below w.heap.size w V ∧ V.cell? ⟨d.p, 1, none⟩ = some (.map (some d.be)) ∧ V.cell? ⟨r.blk, 0, none⟩ = some (.string r.acct) ∧ V.cell? ⟨r.blk, 1, none⟩ = some (i64 (r.at_ : Int)) ∧ (Instr.lookup 173 (.map (some d.be)) (.string r.acct) false).run Tryz.prog V = .ok (.slice A (l).length c) V) (by kernel_rfl) (HS.out _ (Below.refl _ _).drew) (fun hH => ?_)
  refine wpAnyL_take (i := 0) (v := ?v20001) rfl (by kernel_rfl) (by kernel_rfl) (by kernel_rfl) (by kernel_rfl) (fun _ _ _ h => h) (Or.inl ⟨by kernel_rfl, ?hy20001⟩) (by assumption) ?r20001
  case hy20001 => (intro W hSW; obtain ⟨hV0, pd, r0, r1, hlk2⟩ := hSW; go_simp; try with_reducible rfl)
  try simp only [Act.put, List.getElem_toArray, List.getElem_cons_zero, List.setIfInBounds_toArray, List.set_cons_zero, List.set_cons_succ]
  refine wpAnyL_take (i := 1) (v := ?v20002) rfl (by kernel_rfl) (by kernel_rfl) (by kernel_rfl) (by kernel_rfl) (fun _ _ _ h => h) (Or.inl ⟨by kernel_rfl, ?hy20002⟩) (by assumption) ?r20002
  case hy20002 => (intro W hSW; obtain ⟨hV0, pd, r0, r1, hlk2⟩ := hSW; go_simp; try with_reducible rfl)
  try simp only [Act.put, List.getElem_toArray, List.getElem_cons_zero, List.getElem_cons_succ, List.setIfInBounds_toArray, List.set_cons_zero, List.set_cons_succ]
  refine wpAnyL_take (i := 2) (v := ?v20003) rfl (by kernel_rfl) (by kernel_rfl) (by kernel_rfl) (by kernel_rfl) (fun _ _ _ h => h) (Or.inl ⟨by kernel_rfl, ?hy20003⟩) (by assumption) ?r20003
  case hy20003 => (intro W hSW; obtain ⟨hV0, pd, r0, r1, hlk2⟩ := hSW; go_simp; try with_reducible rfl)
  try simp only [Act.put, List.getElem_toArray, List.getElem_cons_zero, List.getElem_cons_succ, List.setIfInBounds_toArray, List.set_cons_zero, List.set_cons_succ]
  refine wpAnyL_take (i := 3) (v := ?v20004) rfl (by kernel_rfl) (by kernel_rfl) (by kernel_rfl) (by kernel_rfl) (fun _ _ _ h => h) (Or.inl ⟨by kernel_rfl, ?hy20004⟩) (by assumption) ?r20004
  case hy20004 => (intro W hSW; obtain ⟨hV0, pd, r0, r1, hlk2⟩ := hSW; go_simp; try with_reducible rfl)
  try simp only [Act.put, List.getElem_toArray, List.getElem_cons_zero, List.getElem_cons_succ, List.setIfInBounds_toArray, List.set_cons_zero, List.set_cons_succ]
  refine wpAnyL_take (i := 4) (v := ?v20005) rfl (by kernel_rfl) (by kernel_rfl) (by kernel_rfl) (by kernel_rfl) (fun _ _ _ h => h) (Or.inl ⟨by kernel_rfl, ?hy20005⟩) (by assumption) ?r20005
  case hy20005 => (intro W hSW; obtain ⟨hV0, pd, r0, r1, hlk2⟩ := hSW; go_simp; try with_reducible rfl)
  try simp only [Act.put, List.getElem_toArray, List.getElem_cons_zero, List.getElem_cons_succ, List.setIfInBounds_toArray, List.set_cons_zero, List.set_cons_succ]
  refine wpAnyL_take (i := 5) (v := ?v20006) rfl (by kernel_rfl) (by kernel_rfl) (by kernel_rfl) (by kernel_rfl) (fun _ _ _ h => h) (Or.inl ⟨by kernel_rfl, ?hy20006⟩) (by assumption) ?r20006
  case hy20006 => (intro W hSW; obtain ⟨hV0, pd, r0, r1, hlk2⟩ := hSW; go_simp; try with_reducible rfl)
  try simp only [Act.put, List.getElem_toArray, List.getElem_cons_zero, List.getElem_cons_succ, List.setIfInBounds_toArray, List.set_cons_zero, List.set_cons_succ]
  refine wpAnyL_take (i := 6) (v := ?v20007) rfl (by kernel_rfl) (by kernel_rfl) (by kernel_rfl) (by kernel_rfl) (fun _ _ _ h => h) (Or.inl ⟨by kernel_rfl, ?hy20007⟩) (by assumption) ?r20007
  case hy20007 => (intro W hSW; obtain ⟨hV0, pd, r0, r1, hlk2⟩ := hSW; go_simp; try with_reducible rfl)
  try simp only [Act.put, List.getElem_toArray, List.getElem_cons_zero, List.getElem_cons_succ, List.setIfInBounds_toArray, List.set_cons_zero, List.set_cons_succ]
  refine wpAnyL_take (i := 7) (v := ?v20008) rfl (by kernel_rfl) (by kernel_rfl) (by kernel_rfl) (by kernel_rfl) (fun _ _ _ h => h) (Or.inl ⟨by kernel_rfl, ?hy20008⟩) (by assumption) ?r20008
  case hy20008 => (intro W hSW; obtain ⟨hV0, pd, r0, r1, hlk2⟩ := hSW; go_simp; try with_reducible rfl)
  try simp only [Act.put, List.getElem_toArray, List.getElem_cons_zero, List.getElem_cons_succ, List.setIfInBounds_toArray, List.set_cons_zero, List.set_cons_succ]
  refine wpAnyL_take (i := 8) (v := ?v20009) rfl (by kernel_rfl) (by kernel_rfl) (by kernel_rfl) (by kernel_rfl) (fun _ _ _ h => h) (Or.inl ⟨by kernel_rfl, ?hy20009⟩) (by assumption) ?r20009
  case hy20009 => (intro W hSW; obtain ⟨hV0, pd, r0, r1, hlk2⟩ := hSW; go_simp; try with_reducible rfl)
  try simp only [Act.put, List.getElem_toArray, List.getElem_cons_zero, List.getElem_cons_succ, List.setIfInBounds_toArray, List.set_cons_zero, List.set_cons_succ]
  refine wpAnyL_take (i := 9) (v := ?v20010) rfl (by kernel_rfl) (by kernel_rfl) (by kernel_rfl) (by kernel_rfl) (fun _ _ _ h => h) (Or.inl ⟨by kernel_rfl, ?hy20010⟩) (by assumption) ?r20010
  case hy20010 => (intro W hSW; obtain ⟨hV0, pd, r0, r1, hlk2⟩ := hSW; go_simp; try with_reducible rfl)
  try simp only [Act.put, List.getElem_toArray, List.getElem_cons_zero, List.getElem_cons_succ, List.setIfInBounds_toArray, List.set_cons_zero, List.set_cons_succ]
  refine wpAnyL_take (i := 10) (v := ?v20011) rfl (by kernel_rfl) (by kernel_rfl) (by kernel_rfl) (by kernel_rfl) (fun _ _ _ h => h) (Or.inl ⟨by kernel_rfl, ?hy20011⟩) (by assumption) ?r20011
  case hy20011 => (intro W hSW; obtain ⟨hV0, pd, r0, r1, hlk2⟩ := hSW; go_simp; try with_reducible rfl)
  try simp only [Act.put, List.getElem_toArray, List.getElem_cons_zero, List.getElem_cons_succ, List.setIfInBounds_toArray, List.set_cons_zero, List.set_cons_succ]
  refine wpAnyL_take (i := 11) (v := ?v20012) rfl (by kernel_rfl) (by kernel_rfl) (by kernel_rfl) (by kernel_rfl) (fun _ _ _ h => h) (Or.inl ⟨by kernel_rfl, ?hy20012⟩) (by assumption) ?r20012
  case hy20012 => (intro W hSW; obtain ⟨hV0, pd, r0, r1, hlk2⟩ := hSW; go_simp; try with_reducible rfl)
  try simp only [Act.put, List.getElem_toArray, List.getElem_cons_zero, List.getElem_cons_succ, List.setIfInBounds_toArray, List.set_cons_zero, List.set_cons_succ]
  refine wpAnyL_take (i := 12) (v := ?v20013) rfl (by kernel_rfl) (by kernel_rfl) (by kernel_rfl) (by kernel_rfl) (fun _ _ _ h => h) (Or.inl ⟨by kernel_rfl, ?hy20013⟩) (by assumption) ?r20013
  case hy20013 => (intro W hSW; obtain ⟨hV0, pd, r0, r1, hlk2⟩ := hSW; go_simp; try with_reducible rfl)
  try simp only [Act.put, List.getElem_toArray, List.getElem_cons_zero, List.getElem_cons_succ, List.setIfInBounds_toArray, List.set_cons_zero, List.set_cons_succ]
  refine wpAnyL_take (i := 13) (v := ?v20014) rfl (by kernel_rfl) (by kernel_rfl) (by kernel_rfl) (by kernel_rfl) (fun _ _ _ h => h) (Or.inl ⟨by kernel_rfl, ?hy20014⟩) (by assumption) ?r20014
  case hy20014 => (intro W hSW; obtain ⟨hV0, pd, r0, r1, hlk2⟩ := hSW; go_simp; try with_reducible rfl)
  try simp only [Act.put, List.getElem_toArray, List.getElem_cons_zero, List.getElem_cons_succ, List.setIfInBounds_toArray, List.set_cons_zero, List.set_cons_succ]
  refine wpAnyL_take (i := 14) (v := ?v20015) rfl (by kernel_rfl) (by kernel_rfl) (by kernel_rfl) (by kernel_rfl) (fun _ _ _ h => h) (Or.inl ⟨by kernel_rfl, ?hy20015⟩) (by assumption) ?r20015
  case hy20015 => (intro W hSW; obtain ⟨hV0, pd, r0, r1, hlk2⟩ := hSW; go_simp; try with_reducible rfl)
  try simp only [Act.put, List.getElem_toArray, List.getElem_cons_zero, List.getElem_cons_succ, List.setIfInBounds_toArray, List.set_cons_zero, List.set_cons_succ]
  refine wpAnyL_take (i := 15) (v := ?v20016) rfl (by kernel_rfl) (by kernel_rfl) (by kernel_rfl) (by kernel_rfl) (fun _ _ _ h => h) (Or.inl ⟨by kernel_rfl, ?hy20016⟩) (by assumption) ?r20016
  case hy20016 => (intro W hSW; obtain ⟨hV0, pd, r0, r1, hlk2⟩ := hSW; go_simp; try with_reducible rfl)
  try simp only [Act.put, List.getElem_toArray, List.getElem_cons_zero, List.getElem_cons_succ, List.setIfInBounds_toArray, List.set_cons_zero, List.set_cons_succ]
  refine wpAnyL_take (i := 16) (v := ?v20017) rfl (by kernel_rfl) (by kernel_rfl) (by kernel_rfl) (by kernel_rfl) (fun _ _ _ h => h) (Or.inl ⟨by kernel_rfl, ?hy20017⟩) (by assumption) ?r20017
  case hy20017 => (intro W hSW; obtain ⟨hV0, pd, r0, r1, hlk2⟩ := hSW; go_simp; try with_reducible rfl)
  try simp only [Act.put, List.getElem_toArray, List.getElem_cons_zero, List.getElem_cons_succ, List.setIfInBounds_toArray, List.set_cons_zero, List.set_cons_succ]
  refine wpAnyL_last (by kernel_rfl) rfl (fun K hK => ?_)
  go_simp
  refine hK.out _ _ ?_
  clear hK K
  try simp only [Act.put, List.getElem_toArray, List.getElem_cons_zero, List.getElem_cons_succ, List.setIfInBounds_toArray, List.set_cons_zero, List.set_cons_succ]
  refine wpAnyL_done (by kernel_rfl) ?_ _
  refine NoPanic.normal ?_
  have hF := hH.1
  clear hH HS
  go_wp2
  · go_ret3
    have h2 := HD.out.later hF
    have hc0 : c = r.at_ := by assumption
    rw [if_pos hc0, hc0, Nat.sub_self] at h2
    exact ⟨_, _, rfl, h2, hF⟩
  · go_ret3
    have h2 := HD.out.later hF
    have hc0 : ¬ c = r.at_ := by assumption
    rw [if_neg hc0] at h2
    exact ⟨_, _, rfl, h2, hF⟩
set_option maxRecDepth 100000 in
set_option maxHeartbeats 4000000 in
/-- Poll -/
theorem spoll_no (k : ByteArray) (n : Int) (w : World) (h : DkA w base d B T R) (hr : getRd R k = none) : Calls Tryz.prog 44 #[d.ptr, .string k, i64 n] w fun e w' => ∃ v, e = .returned (.tuple #[v, i64 6]) ∧ Own w' w.heap.size 88 v ([] : List Ev) ∧ Below w.heap.size w w' := by
  have HG := Lib.hid (sget_no k w h hr)
  have HC := Lib.hid (fun W => clone_ev none 0 [] W (SlS.nil_ _ _) (by decide))
  have m0 : (0 : Int) ≤ min (max n 0) 0 := by omega
  have m1 : min (max n 0) 0 ≤ (0 : Int) := by omega
  have m2 : min (max n 0) 0 = (0 : Int) := by omega
  go_enter Tryz.func44, Tryz.ntmps44
  go_wp2_with fail
  refine HG.out.mono ?_
  rintro e w1 ⟨rfl, rfl⟩
  go_wp2_with fail
  refine (HC.out _).mono ?_
  rintro e w1 ⟨v, rfl, hO, hF⟩
  have HO := Lib.hid hO
  clear hO HC HG
  go_wp2
  go_ret2
  exact ⟨v, rfl, HO.out, hF⟩
set_option maxRecDepth 100000 in
set_option maxHeartbeats 4000000 in
/-- At -/
theorem sat_no (k : ByteArray) (w : World) (h : DkA w base d B T R) (hr : getRd R k = none) : Calls Tryz.prog 47 #[d.ptr, .string k] w fun e w' => e = .returned (.tuple #[i64 0, i64 6]) ∧ w = w' := by
  have HG := Lib.hid (sget_no k w h hr)
  go_enter Tryz.func47, Tryz.ntmps47
  go_wp2_with fail
  refine HG.out.mono ?_
  rintro e w1 ⟨rfl, rfl⟩
  go_wp2
  go_ret2
  exact ⟨rfl, rfl⟩
set_option maxRecDepth 100000 in
set_option maxHeartbeats 4000000 in
theorem sat_c (k : ByteArray) (r : Rx) (w : World) (h : DkA w base d B T R) (hr : getRd R k = some r) (ha : r.at_ ≤ (T.get r.acct).length) : Calls Tryz.prog 47 #[d.ptr, .string k] w fun e w' => e = .returned (.tuple #[i64 r.at_, i64 0]) ∧ Below w.heap.size w w' := by
  have HG := Lib.hid (sget_c k r w h hr ha)
  have hcell := h.rd.cell r (getRd_mem hr).1
  go_enter Tryz.func47, Tryz.ntmps47
  go_wp2_with fail
  refine HG.out.mono ?_
  rintro e w1 ⟨A, c, rfl, -, hF⟩
  have hcell1 := (hF.block _ (Array.getElem?_eq_some_iff.1 hcell).1).trans hcell
  have r1 := cell_of_row _ r.blk 1 _ _ (0, 0) hcell1
  simp only [List.getElem?_toArray, List.getElem?_cons_zero, List.getElem?_cons_succ] at r1
  clear hcell hcell1 HG
  go_wp2
  go_ret2
  exact ⟨rfl, hF⟩
set_option maxRecDepth 100000 in
set_option maxHeartbeats 4000000 in
/-- Book -/
theorem sbook_c (w : World) (h : DkA w base d B T R) : Calls Tryz.prog 52 #[d.ptr] w fun e w' => ∃ c : BA, e = .returned c.ptr ∧ BkA w' c B ∧ (∀ k, c.all k → w.heap.size ≤ k) ∧ Below w.heap.size w w' := by
  have HG := Lib.hid (bcopy_c d.a B w h.bk)
  have c0 := h.c0
  go_enter Tryz.func52, Tryz.ntmps52
  go_wp2_with fail
  refine HG.out.mono ?_
  rintro e w1 ⟨a, rfl, hB, ha, hF⟩
  have HB := Lib.hid hB
  have HA := Lib.hid ha
  clear hB ha HG
  go_wp2
  go_ret
  exact ⟨a, rfl, HB.out, HA.out, hF⟩
end
end Go.Proofs.YtdkkblhfjblpkaaGreat

/- stream: readers -/
namespace Go.Proofs.YtdkkblhfjblpkaaGreat
open Go.RowKit
/-- stream.Read -/
def sreadE (R : List Rx) (k a : ByteArray) : Int := if nameB k = false ∨ nameB a = false then 1 else if (getRd R k).isSome then 7 else if R.length = 10 then 5 else 0
section
variable {base : Nat} {d : DA} {B : Bk} {T : EvT} {R : List Rx}
set_option maxRecDepth 100000 in
set_option maxHeartbeats 8000000 in
theorem sread_c (k a : ByteArray) (w : World) (h : DkA w base d B T R) (hB : base ≤ w.heap.size) : Calls Tryz.prog 42 #[d.ptr, .string k, .string a] w fun e w' => ∃ R2, e = .returned (i64 (sreadE R k a)) ∧ DkA w' base d B T R2 ∧ Gr w w' (d.all T R) ∧ (sreadE R k a ≠ 0 → R2 = R) ∧ (sreadE R k a = 0 → ∃ g, R2 = R ++ [⟨k, g, a, 0⟩] ∧ w.heap.size ≤ g) := by
  have H := Lib.hid h
  have HN := Lib.hid (name_b k w)
  cases hk : nameB k
  · have HE := Lib.hid (show sreadE R k a = 1 by unfold sreadE; rw [if_pos (.inl hk)])
    rw [hk] at HN
    clear hk h
    go_enter Tryz.func42, Tryz.ntmps42
    go_wp2_with fail
    refine HN.out.mono ?_
    rintro e w1 ⟨rfl, hF⟩
    clear HN
    go_wp2
    go_ret
    exact ⟨R, by rw [HE.out]; rfl, H.out.later hF, Gr.of_below hF _, fun _ => rfl, fun e => by rw [HE.out] at e; cases e⟩
  rw [hk] at HN
  have HN2 := Lib.hid (fun W => name_b a W)
  cases ha : nameB a
  · have HE := Lib.hid (show sreadE R k a = 1 by unfold sreadE; rw [if_pos (.inr ha)])
    rw [ha] at HN2
    clear hk h ha
    go_enter Tryz.func42, Tryz.ntmps42
    go_wp2_with fail
    refine HN.out.mono ?_
    rintro e w1 ⟨rfl, hF⟩
    clear HN
    go_wp2_with fail
    refine (HN2.out _).mono ?_
    rintro e w2 ⟨rfl, hF2⟩
    have hb := below_on hF (Nat.le_refl _) hF2
    clear HN2 hF hF2
    go_wp2
    go_ret
    exact ⟨R, by rw [HE.out]; rfl, H.out.later hb, Gr.of_below hb _, fun _ => rfl, fun e => by rw [HE.out] at e; cases e⟩
  rw [ha] at HN2
  have HE := Lib.hid (show sreadE R k a = if (getRd R k).isSome then 7 else if R.length = 10 then 5 else 0 by unfold sreadE; rw [if_neg (by rw [hk, ha]; simp)])
  clear hk h ha
  go_enter Tryz.func42, Tryz.ntmps42
  go_wp2_with fail
  refine HN.out.mono ?_
  rintro e w1 ⟨rfl, hF⟩
  clear HN
  go_wp2_with fail
  refine (HN2.out _).mono ?_
  rintro e w2 ⟨rfl, hF2⟩
  have hb := below_on hF (Nat.le_refl _) hF2
  clear HN2 hF hF2
  have hK := H.out.later hb
  have hsz := hb.size
  have c2 := hK.c2
  have hlk := hK.find k
  cases hg : getRd R k with
  | some r =>
    rw [hg] at hlk
    change (Instr.lookup 174 (.map (some d.br)) (.string k) false).run Tryz.prog w2 = .ok r.ptr w2 at hlk
    have HE2 := Lib.hid (show sreadE R k a = 7 by rw [HE.out, hg]; rfl)
    have HK := Lib.hid hK
    clear HE hg hK
    go_wp2
    go_ret
    exact ⟨R, by rw [HE2.out]; rfl, HK.out, Gr.of_below hb _, fun _ => rfl, fun e => by rw [HE2.out] at e; cases e⟩
  | none =>
    rw [hg] at hlk
    change (Instr.lookup 174 (.map (some d.br)) (.string k) false).run Tryz.prog w2 = .ok (.pointer none) w2 at hlk
    have hlen := fun ty => run_lenM (P := Tryz.prog) Tryz.underlying174 hK.rd.map ty
    rw [show (rdEnts R).length = R.length from List.length_map ..] at hlen
    have HE1 := Lib.hid (show sreadE R k a = if R.length = 10 then 5 else 0 by rw [HE.out, hg]; rfl)
    have Hg := Lib.hid hg
    clear HE hg
    by_cases h10 : R.length = 10
    · have g2 : ((R.length : Int) == 10) = true := by rw [beq_iff_eq]; omega
      have HE2 := Lib.hid (show sreadE R k a = 5 by rw [HE1.out, if_pos h10])
      have HK := Lib.hid hK
      clear HE1 h10 hK
      go_wp2
      go_ret
      exact ⟨R, by rw [HE2.out]; rfl, HK.out, Gr.of_below hb _, fun _ => rfl, fun e => by rw [HE2.out] at e; cases e⟩
    · have g2 : ((R.length : Int) == 10) = false := by rw [beq_eq_false_iff_ne]; omega
      have HE2 := Lib.hid (show sreadE R k a = 0 by rw [HE1.out, if_neg h10])
      have hK2 := hK.later ((Below.refl w2.heap.size w2).alloc (Nat.le_refl _) (.cells #[.string a, i64 0] 179))
      obtain ⟨w5, hrun, hm5, hg5⟩ := run_put (P := Tryz.prog) strKey Tryz.underlying174 hK2.rd.map k (.pointer (some ⟨w2.heap.size, 0, none⟩))
      have HF := Lib.hid (hK.reader k a (Nat.le_trans hB hsz) Hg.out hm5 hg5)
      have hlk2 := hK2.c2
      clear HE1 h10 hK hK2 hm5 hg5
      go_wp2
      go_ret
      obtain ⟨hK5, hG5⟩ := HF.out
      exact ⟨_, by rw [HE2.out]; rfl, hK5, (Gr.of_below hb _).after hG5, fun e => absurd HE2.out e, fun _ => ⟨_, rfl, hsz⟩⟩
theorem drop_len (l : List Ev) (n : Nat) : l.length - n = (l.drop n).length := (List.length_drop ..).symm
set_option maxRecDepth 100000 in
set_option maxHeartbeats 8000000 in
theorem spoll_c (k : ByteArray) (n : Int) (r : Rx) (w : World) (h : DkA w base d B T R) (hr : getRd R k = some r) (ha : r.at_ ≤ (T.get r.acct).length) (hn : (T.get r.acct).length ≤ 65536) :
    Calls Tryz.prog 44 #[d.ptr, .string k, i64 n] w fun e w' => ∃ v, e = .returned (.tuple #[v, i64 0]) ∧ Own w' w.heap.size 88 v (((T.get r.acct).drop r.at_).take (min (max n 0) (((T.get r.acct).drop r.at_).length : Int)).toNat) ∧ Below w.heap.size w w' := by
  have HG := Lib.hid (sget_c k r w h hr ha)
  rw [drop_len] at HG
  have hL : ((T.get r.acct).drop r.at_).length ≤ 65536 := by rw [List.length_drop]; omega
  clear h hr ha hn
  generalize (T.get r.acct).drop r.at_ = L at *
  go_enter Tryz.func44, Tryz.ntmps44
  go_wp2_with fail
  refine HG.out.mono ?_
  rintro e w1 ⟨A, c, rfl, hs, hF⟩
  have hc : L.length ≤ c := hs.1
  have m0 : (0 : Int) ≤ min (max n 0) (L.length : Int) := by omega
  have m1 : min (max n 0) (L.length : Int) ≤ (c : Int) := by omega
  have HC := Lib.hid (clone_ev A c (L.take (min (max n 0) (L.length : Int)).toNat) w1 (hs.take _) (by rw [List.length_take]; omega))
  rw [show (L.take (min (max n 0) (L.length : Int)).toNat).length = (min (max n 0) (L.length : Int)).toNat by rw [List.length_take]; omega] at HC
  clear hs HG
  go_wp2_with fail
  refine HC.out.mono ?_
  rintro e w2 ⟨v, rfl, hO, hF2⟩
  have hb := below_on hF (Nat.le_refl _) hF2
  have HO := Lib.hid (hO.mono hF.size)
  clear hO HC hF hF2
  go_wp2
  go_ret2
  exact ⟨v, rfl, HO.out, hb⟩
set_option maxRecDepth 100000 in
set_option maxHeartbeats 4000000 in
theorem stake_no (k : ByteArray) (n : Int) (w : World) (h : DkA w base d B T R) (hr : getRd R k = none) : Calls Tryz.prog 45 #[d.ptr, .string k, i64 n] w fun e w' => e = .returned (i64 6) ∧ w = w' := by
  have HG := Lib.hid (sget_no k w h hr)
  go_enter Tryz.func45, Tryz.ntmps45
  go_wp2_with fail
  refine HG.out.mono ?_
  rintro e w1 ⟨rfl, rfl⟩
  go_wp2
  go_ret
  exact ⟨rfl, rfl⟩
set_option maxRecDepth 100000 in
set_option maxHeartbeats 4000000 in
theorem sback_no (k : ByteArray) (n : Int) (w : World) (h : DkA w base d B T R) (hr : getRd R k = none) : Calls Tryz.prog 48 #[d.ptr, .string k, i64 n] w fun e w' => e = .returned (i64 6) ∧ w = w' := by
  have HG := Lib.hid (sget_no k w h hr)
  go_enter Tryz.func48, Tryz.ntmps48
  go_wp2_with fail
  refine HG.out.mono ?_
  rintro e w1 ⟨rfl, rfl⟩
  go_wp2
  go_ret
  exact ⟨rfl, rfl⟩
set_option maxRecDepth 100000 in
set_option maxHeartbeats 4000000 in
theorem stake_bad (k : ByteArray) (n : Int) (r : Rx) (w : World) (h : DkA w base d B T R) (hr : getRd R k = some r) (ha : r.at_ ≤ (T.get r.acct).length) (hb : n < 0 ∨ (((T.get r.acct).drop r.at_).length : Int) < n) :
    Calls Tryz.prog 45 #[d.ptr, .string k, i64 n] w fun e w' => e = .returned (i64 13) ∧ Below w.heap.size w w' := by
  have HG := Lib.hid (sget_c k r w h hr ha)
  rw [drop_len] at HG
  clear h hr ha
  generalize (T.get r.acct).drop r.at_ = L at *
  by_cases h0 : n < 0
  · have g0 : decide (n < 0) = true := decide_eq_true h0
    go_enter Tryz.func45, Tryz.ntmps45
    go_wp2_with fail
    refine HG.out.mono ?_
    rintro e w1 ⟨A, c, rfl, -, hF⟩
    clear HG
    go_wp2
    go_ret
    exact ⟨rfl, hF⟩
  · have g0 : decide (n < 0) = false := decide_eq_false h0
    have h1 : (L.length : Int) < n := by omega
    have g1 : decide (n > (L.length : Int)) = true := decide_eq_true h1
    have g2 : decide ((L.length : Int) < n) = true := decide_eq_true h1
    go_enter Tryz.func45, Tryz.ntmps45
    go_wp2_with fail
    refine HG.out.mono ?_
    rintro e w1 ⟨A, c, rfl, -, hF⟩
    clear HG
    go_wp2
    go_ret
    exact ⟨rfl, hF⟩
set_option maxRecDepth 100000 in
set_option maxHeartbeats 4000000 in
theorem sback_bad (k : ByteArray) (n : Int) (r : Rx) (w : World) (h : DkA w base d B T R) (hr : getRd R k = some r) (ha : r.at_ ≤ (T.get r.acct).length) (hb : n < 0 ∨ (r.at_ : Int) < n) :
    Calls Tryz.prog 48 #[d.ptr, .string k, i64 n] w fun e w' => e = .returned (i64 13) ∧ Below w.heap.size w w' := by
  have HG := Lib.hid (sget_c k r w h hr ha)
  have hcell := h.rd.cell r (getRd_mem hr).1
  clear h hr ha
  by_cases h0 : n < 0
  · have g0 : decide (n < 0) = true := decide_eq_true h0
    go_enter Tryz.func48, Tryz.ntmps48
    go_wp2_with fail
    refine HG.out.mono ?_
    rintro e w1 ⟨A, c, rfl, -, hF⟩
    clear HG
    go_wp2
    go_ret
    exact ⟨rfl, hF⟩
  · have g0 : decide (n < 0) = false := decide_eq_false h0
    have h1 : (r.at_ : Int) < n := by omega
    have g1 : decide (n > (r.at_ : Int)) = true := decide_eq_true h1
    have g2 : decide ((r.at_ : Int) < n) = true := decide_eq_true h1
    go_enter Tryz.func48, Tryz.ntmps48
    go_wp2_with fail
    refine HG.out.mono ?_
    rintro e w1 ⟨A, c, rfl, -, hF⟩
    have hcell1 := (hF.block _ (Array.getElem?_eq_some_iff.1 hcell).1).trans hcell
    have r1 := cell_of_row _ r.blk 1 _ _ (0, 0) hcell1
    simp only [List.getElem?_toArray, List.getElem?_cons_zero, List.getElem?_cons_succ] at r1
    clear HG hcell hcell1
    go_wp2
    go_ret
    exact ⟨rfl, hF⟩
set_option maxRecDepth 100000 in
set_option maxHeartbeats 4000000 in
theorem stake_c (k : ByteArray) (n : Nat) (r : Rx) (w : World) (h : DkA w base d B T R) (hr : getRd R k = some r) (ha : r.at_ ≤ (T.get r.acct).length) (hl : (T.get r.acct).length ≤ 65536) (hn : n ≤ ((T.get r.acct).drop r.at_).length) :
    Calls Tryz.prog 45 #[d.ptr, .string k, i64 n] w fun e w' => e = .returned (i64 0) ∧ DkA w' base d B T (setRd R k (r.at_ + n)) ∧ Gr w w' (d.all T R) := by
  have HG := Lib.hid (sget_c k r w h hr ha)
  rw [drop_len] at HG
  have H := Lib.hid h
  have Hr := Lib.hid hr
  have hs : r.at_ + n ≤ 65536 := by rw [List.length_drop] at hn; omega
  clear h hr ha hl
  generalize hLL : (T.get r.acct).drop r.at_ = L at *
  clear hLL
  have g0 : decide ((n : Int) < 0) = false := decide_eq_false (by omega)
  have g1 : decide ((n : Int) > (L.length : Int)) = false := decide_eq_false (by omega)
  have g2 : decide ((L.length : Int) < (n : Int)) = false := decide_eq_false (by omega)
  have g3 : decide (L.length < n) = false := decide_eq_false (by omega)
  go_enter Tryz.func45, Tryz.ntmps45
  go_wp2_with fail
  refine HG.out.mono ?_
  rintro e w1 ⟨A, c, rfl, -, hF⟩
  have hK := H.out.later hF
  have hcell := hK.rd.cell r (getRd_mem Hr.out).1
  have r1 := cell_of_row _ r.blk 1 _ _ (0, 0) hcell
  have hfr : w1.frozen? ⟨r.blk, 1, none⟩ = false := frozen_of_row _ r.blk 1 _ _ hcell
  simp only [List.getElem?_toArray, List.getElem?_cons_zero, List.getElem?_cons_succ] at r1
  have HT := Lib.hid (hK.take Hr.out (r.at_ + n))
  have hG0 := Gr.of_below hF (d.all T R)
  clear HG hcell hK hF
  go_wp2
  go_ret
  obtain ⟨t1, t2⟩ := HT.out
  rw [show ((r.at_ + n : Nat) : Int) = (r.at_ : Int) + (n : Int) by omega] at t1 t2
  exact ⟨rfl, t1, hG0.after t2⟩
set_option maxRecDepth 100000 in
set_option maxHeartbeats 4000000 in
theorem sback_c (k : ByteArray) (n : Nat) (r : Rx) (w : World) (h : DkA w base d B T R) (hr : getRd R k = some r) (ha : r.at_ ≤ (T.get r.acct).length) (hl : (T.get r.acct).length ≤ 65536) (hn : n ≤ r.at_) :
    Calls Tryz.prog 48 #[d.ptr, .string k, i64 n] w fun e w' => e = .returned (i64 0) ∧ DkA w' base d B T (setRd R k (r.at_ - n)) ∧ Gr w w' (d.all T R) := by
  have HG := Lib.hid (sget_c k r w h hr ha)
  have H := Lib.hid h
  have Hr := Lib.hid hr
  have hs : r.at_ ≤ 65536 := by omega
  clear h hr ha hl
  have g0 : decide ((n : Int) < 0) = false := decide_eq_false (by omega)
  have g1 : decide ((n : Int) > (r.at_ : Int)) = false := decide_eq_false (by omega)
  have g2 : decide ((r.at_ : Int) < (n : Int)) = false := decide_eq_false (by omega)
  have g3 : decide (r.at_ < n) = false := decide_eq_false (by omega)
  go_enter Tryz.func48, Tryz.ntmps48
  go_wp2_with fail
  refine HG.out.mono ?_
  rintro e w1 ⟨A, c, rfl, -, hF⟩
  have hK := H.out.later hF
  have hcell := hK.rd.cell r (getRd_mem Hr.out).1
  have r1 := cell_of_row _ r.blk 1 _ _ (0, 0) hcell
  have hfr : w1.frozen? ⟨r.blk, 1, none⟩ = false := frozen_of_row _ r.blk 1 _ _ hcell
  simp only [List.getElem?_toArray, List.getElem?_cons_zero, List.getElem?_cons_succ] at r1
  have HT := Lib.hid (hK.take Hr.out (r.at_ - n))
  have hG0 := Gr.of_below hF (d.all T R)
  clear HG hcell hK hF
  go_wp2
  go_ret
  obtain ⟨t1, t2⟩ := HT.out
  rw [show ((r.at_ - n : Nat) : Int) = (r.at_ : Int) - (n : Int) by omega] at t1 t2
  exact ⟨rfl, t1, hG0.after t2⟩
end
end Go.Proofs.YtdkkblhfjblpkaaGreat

/- few, own of countinghouselaw12 -/
namespace Go.Proofs.YtdkkblhfjblpkaaGreat
open Go.RowKit
set_option maxRecDepth 100000 in
set_option maxHeartbeats 1000000 in
theorem few_12 (A : Option Addr) (c n : Nat) (l : List Od) (w : World) (h : Sl w w.heap.size A c l) (hn : n ≤ 65536) :
    Calls Tryz.prog 36 #[.slice A l.length c, i64 n] w fun e w' => ∃ v, e = .returned v ∧ Own w' w.heap.size 50 v (fewL n l) ∧ Below w.heap.size w w' := by
  have hlm : l.length ≤ 9223372036854775807 := h.len_le
  go_enter Tryz.func36, Tryz.ntmps36
  go_wp2
  go_loopw [5, 6] (fun v i wr => ∃ k : Nat, i = i64 k ∧ k ≤ l.length ∧ k ≤ n ∧ Own wr w.heap.size 50 v (fewL k l) ∧ Below w.heap.size w wr) (fun _ i _ => l.length - (intOf i).toNat)
  case atStart => exact ⟨0, rfl, by omega, by omega, Own.nil_ _ _ _, Below.refl _ _⟩
  case round =>
    obtain ⟨k, rfl, hk, hkn, hO, hb⟩ := hrel
    by_cases hlt : k < l.length ∧ k < n
    · obtain ⟨h1, h2⟩ := hlt
      obtain ⟨b, o, rfl, hbb, hok, c0, c1, c2, c3, c4, c5, c6, c7, c8, c9⟩ := (h.below hb).od h1
      have hlc : l[k].legs.length ≤ l[k].lc := hok.legs.1
      have Hok := Lib.hid hok
      clear hok
      have HO := Lib.hid hO
      have hne := hO.new_ne (Nat.le_succ wr.heap.size)
      have Hne := Lib.hid hne
      clear hO hne
      have hlen : (fewL k l).length = k := fewL_len h1
      have HL := Lib.hid hlen
      clear hlen
      by_cases h8 : l[k].legs.length ≤ 8
      all_goals
        have hB2 := ((Below.refl wr.heap.size wr).alloc (Nat.le_refl _) (.cells (cut8 l[k]).cells.toArray 50)).alloc (by simp) (.cells (cut8 l[k]).cells.toArray 50)
        have hb2 := hb.trans (hB2.mono hb.size)
        have hHeap := heap_alloc2_new wr (.cells (cut8 l[k]).cells.toArray 50) (.cells (cut8 l[k]).cells.toArray 50)
        have hO2 := HO.out.later hB2
        have hok2 : Enc.ok ((wr.alloc (.cells (cut8 l[k]).cells.toArray 50)).alloc (.cells (cut8 l[k]).cells.toArray 50)) (Oth ((wr.alloc (.cells (cut8 l[k]).cells.toArray 50)).alloc (.cells (cut8 l[k]).cells.toArray 50)) _) (cut8 l[k]) := Enc.keep (cut8_ok Hok.out) (fun _ hp => hB2.cell (Nat.lt_of_lt_of_le hp hb.size)) (hO2.oth (Nat.le_refl _) hb2.size)
        have HO2 := Lib.hid hO2
        have Hok2 := Lib.hid hok2
        have HH := Lib.hid hHeap
        have Hb2 := Lib.hid hb2
        clear hO2 hok2 hHeap hb2 hB2
        have hcs : (cut8 l[k]).cells = [i64 l[k].client, i64 l[k].seq, i64 l[k].kind, .string l[k].acct, .string l[k].peer, i64 l[k].sum, .slice l[k].la (cut8 l[k]).legs.length l[k].lc, i64 l[k].period, i64 l[k].hold, .string l[k].note] := rfl
        first
          | (first
               | (have h88 : (cut8 l[k]).legs.length = l[k].legs.length := by rw [cut8_small h8]
                  rw [h88] at hcs
                  clear h88)
               | (have h88 : (cut8 l[k]).legs.length = 8 := by show (l[k].legs.take 8).length = 8; rw [List.length_take]; omega
                  rw [h88] at hcs
                  clear h88)
             have Hcs := Lib.hid hcs
             rw [hcs] at HO2 Hok2 HH Hb2
             clear hcs
             go_wp2_with (at_builtin; refine wpList_append_one rfl (some 34) (.tmp 31) (.tmp 33) 22 rfl rfl _ 120 Tryz.underlying22 inf_od rfl (by decide) (by decide) rfl HO2.out (wr.heap.size + 1) (cut8 l[k]) rfl _ 50 HH.out Hcs.out.symm Hne.out Hok2.out (by rw [HL.out]; omega) Hb2.out.size ?_; intro v3 w3 hO3 hg3 hat3)
             go_roundw
             case rel => exact ⟨k + 1, by go_num, by omega, by omega, by rw [fewL_succ h1]; exact hO3, Hb2.out.trans (HO2.out.below hg3 (Nat.le_refl _) Hb2.out.size)⟩
             case measure => simp [intOf]; omega)
          | (have h88 : (cut8 l[k]).legs.length = (min (l[k].legs.length : Int) 8).toNat := by show (l[k].legs.take 8).length = _; rw [List.length_take]; omega
             rw [h88] at hcs
             clear h88
             have Hcs := Lib.hid hcs
             rw [hcs] at HO2 Hok2 HH Hb2
             clear hcs
             go_wp2_with (at_builtin; refine wpList_append_one rfl (some 34) (.tmp 31) (.tmp 33) 22 rfl rfl _ 120 Tryz.underlying22 inf_od rfl (by decide) (by decide) rfl HO2.out (wr.heap.size + 1) (cut8 l[k]) rfl _ 50 HH.out Hcs.out.symm Hne.out Hok2.out (by rw [HL.out]; omega) Hb2.out.size ?_; intro v3 w3 hO3 hg3 hat3)
             go_roundw
             case rel => exact ⟨k + 1, by go_num, by omega, by omega, by rw [fewL_succ h1]; exact hO3, Hb2.out.trans (HO2.out.below hg3 (Nat.le_refl _) Hb2.out.size)⟩
             case measure => simp [intOf]; omega)
    · have hf : fewL n l = fewL k l := by
        unfold fewL
        rcases Nat.lt_or_ge k l.length with h1 | h1
        · rw [show n = k by omega]
        · rw [List.take_of_length_le (by omega), List.take_of_length_le h1]
      have Hf := Lib.hid hf
      clear hf
      by_cases hkl : k < l.length
      · have hkn2 : ¬ k < n := fun h => hlt ⟨hkl, h⟩
        clear hlt
        go_wp2
        go_ret
        exact ⟨_, rfl, by rw [Hf.out]; exact hO, hb⟩
      · clear hlt
        go_wp2
        go_ret
        exact ⟨_, rfl, by rw [Hf.out]; exact hO, hb⟩
end Go.Proofs.YtdkkblhfjblpkaaGreat
