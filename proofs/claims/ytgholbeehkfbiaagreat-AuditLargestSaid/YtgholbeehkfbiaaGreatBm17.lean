/- Texts of this claim, laid together: BookD, BookF. -/
import Derived.Test.YtgholbeehkfbiaaGreatRows
import Derived.Test.YtgholbeehkfbiaaGreatBm16
import Derived.Test.YtgholbeehkfbiaaGreatBm6
import Derived.WalkKit
import Derived.WalkSpells
import Derived.WalkLawsBesides
import Derived.Deep.QuietTactic
import Derived.BigQuiet
import Derived.Laws.StructEq
import Derived.Deep.DeepFit
import Derived.StillTailTactics
import Derived.Test.YtgholbeehkfbiaaGreatBm1

/- book: New, doers, Do -/
namespace Go.Proofs.YtgholbeehkfbiaaGreat
open Go.RowKit
theorem bnew_c (w : World) : Calls Tryz.prog 13 #[] w fun e w' => ∃ a : BA, e = .returned a.ptr ∧ BkA w' a bk0 ∧ (∀ k, a.all k → w.heap.size ≤ k) ∧ Below w.heap.size w w' := by
  have h1 := Lib.hid (chnewA_c w)
  have h2 := Lib.hid (fun W => honewA_c W)
  go_enter Tryz.func13, Tryz.ntmps13
  go_wp2_with fail
  refine h1.out.mono ?_
  rintro e w1 ⟨rfl, hc, hF⟩
  have hb1 := hF
  have hlt := hc.lt
  clear hF h1
  go_wp2_with fail
  refine (h2.out _).mono ?_
  rintro e w2 ⟨rfl, hh, hF⟩
  have hb2 := below_on hb1 (Nat.le_refl _) hF
  have hc2 := hc.later hF
  have hz := hF.size
  have hlh := hh.lt
  have hb3 := hb2.alloc hb2.size (.cells #[.pointer (some ⟨w.heap.size + 1, 0, none⟩), .pointer (some ⟨w1.heap.size + 1, 0, none⟩), i64 0] 126)
  have hA : BkA (w2.alloc (.cells #[.pointer (some ⟨w.heap.size + 1, 0, none⟩), .pointer (some ⟨w1.heap.size + 1, 0, none⟩), i64 0] 126)) ⟨w2.heap.size, w.heap.size + 1, w.heap.size, w1.heap.size + 1, w1.heap.size⟩ bk0 :=
    ⟨heap_alloc_new w2 _, hc2.later ((Below.refl _ _).alloc (Nat.le_refl _) _), hh.later ((Below.refl _ _).alloc (Nat.le_refl _) _), ⟨by show w2.heap.size ≠ w.heap.size + 1; omega, by show w2.heap.size ≠ w.heap.size; omega, by show w2.heap.size ≠ w1.heap.size + 1; omega, by show w2.heap.size ≠ w1.heap.size; omega, by show w1.heap.size + 1 ≠ w.heap.size; omega, by show w1.heap.size ≠ w.heap.size; omega, by show w.heap.size + 1 ≠ w1.heap.size; omega⟩⟩
  have hall : ∀ k, (⟨w2.heap.size, w.heap.size + 1, w.heap.size, w1.heap.size + 1, w1.heap.size⟩ : BA).all k → w.heap.size ≤ k := fun k hk => by
    have h1 : k = w2.heap.size ∨ k = w.heap.size + 1 ∨ k = w.heap.size ∨ k = w1.heap.size + 1 ∨ k = w1.heap.size := hk
    omega
  have HA := Lib.hid hA
  have Hall := Lib.hid hall
  clear hA hall hc hc2 hh hF h2
  go_wp2
  go_ret
  exact ⟨_, rfl, HA.out, Hall.out, hb3⟩
/-- what orders do, by their kinds -/
def doersM : List (Int × Value) := [(1, .func (.func 112) #[] #[]), (2, .func (.func 113) #[] #[]), (3, .func (.func 114) #[] #[]), (4, .func (.func 115) #[] #[]), (5, .func (.func 116) #[] #[]), (6, .func (.func 117) #[] #[]), (7, .func (.func 118) #[] #[])]
set_option maxRecDepth 100000 in
set_option maxHeartbeats 4000000 in
theorem doers_c (w : World) : Calls Tryz.prog 66 #[] w fun e w' => e = .returned (.map (some w.heap.size)) ∧ MapIs i64 w' w.heap.size doersM ∧ Below w.heap.size w w' := by
  have hmm := @run_makeMap Tryz.prog
  have m0 := MapIs.made (enc := i64) w
  have k0 := (Below.refl w.heap.size w).alloc (Nat.le_refl _) (.map #[] 0)
  obtain ⟨v1, r1, m1, g1⟩ := run_put (P := Tryz.prog) intKey Tryz.underlying138 m0 1 (.func (.func 112) #[] #[])
  have k1 := k0.trans (below_of_grown g1 (B := w.heap.size) k0.size (fun g e => by injection e; omega))
  obtain ⟨v2, r2, m2, g2⟩ := run_put (P := Tryz.prog) intKey Tryz.underlying138 m1 2 (.func (.func 113) #[] #[])
  have k2 := k1.trans (below_of_grown g2 (B := w.heap.size) k1.size (fun g e => by injection e; omega))
  obtain ⟨v3, r3, m3, g3⟩ := run_put (P := Tryz.prog) intKey Tryz.underlying138 m2 3 (.func (.func 114) #[] #[])
  have k3 := k2.trans (below_of_grown g3 (B := w.heap.size) k2.size (fun g e => by injection e; omega))
  obtain ⟨v4, r4, m4, g4⟩ := run_put (P := Tryz.prog) intKey Tryz.underlying138 m3 4 (.func (.func 115) #[] #[])
  have k4 := k3.trans (below_of_grown g4 (B := w.heap.size) k3.size (fun g e => by injection e; omega))
  obtain ⟨v5, r5, m5, g5⟩ := run_put (P := Tryz.prog) intKey Tryz.underlying138 m4 5 (.func (.func 116) #[] #[])
  have k5 := k4.trans (below_of_grown g5 (B := w.heap.size) k4.size (fun g e => by injection e; omega))
  obtain ⟨v6, r6, m6, g6⟩ := run_put (P := Tryz.prog) intKey Tryz.underlying138 m5 6 (.func (.func 117) #[] #[])
  have k6 := k5.trans (below_of_grown g6 (B := w.heap.size) k5.size (fun g e => by injection e; omega))
  obtain ⟨v7, r7, m7, g7⟩ := run_put (P := Tryz.prog) intKey Tryz.underlying138 m6 7 (.func (.func 118) #[] #[])
  have k7 := k6.trans (below_of_grown g7 (B := w.heap.size) k6.size (fun g e => by injection e; omega))
  go_enter Tryz.func66, Tryz.ntmps66
  go_wp2
  go_ret
  exact ⟨rfl, by have := m7; simpa [putM, doersM] using this, k7⟩
set_option maxRecDepth 100000 in
set_option maxHeartbeats 8000000 in
theorem bdo_gen (a : BA) (B B2 : Bk) (R : Rp) (x : Od) (w : World) (h : BkA w a B) (hl : OdIn w a x) (hr : rightB x = true) (fk : FuncId) (ek : ∀ args w, (callFunc fk args).run Tryz.prog w = .ok (.enter fk args) w)
    (hget : getM doersM x.kind = some (.func (.func fk) #[] #[])) (hK : ∀ W, BkA W a B → OdIn W a x → Calls Tryz.prog fk #[a.ptr, x.v] W fun e w' => e = .returned R.v ∧ BkA w' a B2 ∧ Gr W w' a.own) :
    Calls Tryz.prog 16 #[a.ptr, x.v] w fun e w' => e = .returned R.v ∧ BkA w' a B2 ∧ Gr w w' a.own := by
  have HRt := Lib.hid (fun (W : World) (hW : OdIn W a x) => right_c0 x W hW.okb hW.2)
  have HK := Lib.hid hK
  have Hget := Lib.hid hget
  have HD := Lib.hid (fun W => doers_c W)
  rw [hr] at HRt
  clear hr hK hget
  have hb0 : Below w.heap.size w ((w.alloc (.cells #[i64 x.client, i64 x.seq, i64 x.kind, .string x.acct, .string x.peer, i64 x.sum, .slice x.la x.legs.length x.lc, i64 x.period, i64 x.hold, .string x.note] 37)).alloc (.cells #[i64 0, i64 0, i64 0, i64 0] 31)) := ((Below.refl w.heap.size w).alloc (Nat.le_refl _) (.cells #[i64 x.client, i64 x.seq, i64 x.kind, .string x.acct, .string x.peer, i64 x.sum, .slice x.la x.legs.length x.lc, i64 x.period, i64 x.hold, .string x.note] 37)).alloc (by simp) (.cells #[i64 0, i64 0, i64 0, i64 0] 31)
  have ho0 := heap_alloc2_old w (.cells #[i64 x.client, i64 x.seq, i64 x.kind, .string x.acct, .string x.peer, i64 x.sum, .slice x.la x.legs.length x.lc, i64 x.period, i64 x.hold, .string x.note] 37) (.cells #[i64 0, i64 0, i64 0, i64 0] 31)
  have hr0 := heap_alloc2_new w (.cells #[i64 x.client, i64 x.seq, i64 x.kind, .string x.acct, .string x.peer, i64 x.sum, .slice x.la x.legs.length x.lc, i64 x.period, i64 x.hold, .string x.note] 37) (.cells #[i64 0, i64 0, i64 0, i64 0] 31)
  have hlt0 : w.heap.size < ((w.alloc (.cells #[i64 x.client, i64 x.seq, i64 x.kind, .string x.acct, .string x.peer, i64 x.sum, .slice x.la x.legs.length x.lc, i64 x.period, i64 x.hold, .string x.note] 37)).alloc (.cells #[i64 0, i64 0, i64 0, i64 0] 31)).heap.size ∧ w.heap.size + 1 < ((w.alloc (.cells #[i64 x.client, i64 x.seq, i64 x.kind, .string x.acct, .string x.peer, i64 x.sum, .slice x.la x.legs.length x.lc, i64 x.period, i64 x.hold, .string x.note] 37)).alloc (.cells #[i64 0, i64 0, i64 0, i64 0] 31)).heap.size := ⟨by simp; omega, by simp⟩
  have Hlt := Lib.hid h.lt
  have Hap := Lib.hid h.ap
  have H0 := h.later hb0
  unfold Od.v
  go_enter Tryz.func16, Tryz.ntmps16
  go_wp2_with fail
  generalize ((w.alloc (.cells #[i64 x.client, i64 x.seq, i64 x.kind, .string x.acct, .string x.peer, i64 x.sum, .slice x.la x.legs.length x.lc, i64 x.period, i64 x.hold, .string x.note] 37)).alloc (.cells #[i64 0, i64 0, i64 0, i64 0] 31)) = W0 at *
  generalize hrb : w.heap.size + 1 = rb at *
  have Hrb := Lib.hid (show w.heap.size ≤ rb by omega)
  clear hrb
  have Hna := Lib.hid (not_all Hlt.out Hrb.out)
  have Hnm := Lib.hid (not_maps Hlt.out Hrb.out)
  have hp0 := H0.cell
  have HSS := Lib.hid (show ∀ V, Gr W0 V a.maps → (fun V : World => V.cell? ⟨a.p, 0, none⟩ = some (.pointer (some ⟨a.g, 0, none⟩)) ∧ V.cell? ⟨a.p, 1, none⟩ = some (.pointer (some ⟨a.gh, 0, none⟩)) ∧ V.cell? ⟨a.p, 2, none⟩ = some (i64 B.cl) ∧ V.cell? ⟨w.heap.size, 0, none⟩ = some (i64 x.client) ∧ V.cell? ⟨w.heap.size, 1, none⟩ = some (i64 x.seq) ∧ V.cell? ⟨w.heap.size, 2, none⟩ = some (i64 x.kind) ∧ V.cell? ⟨w.heap.size, 3, none⟩ = some (.string x.acct) ∧ V.cell? ⟨w.heap.size, 4, none⟩ = some (.string x.peer) ∧ V.cell? ⟨w.heap.size, 5, none⟩ = some (i64 x.sum) ∧ V.cell? ⟨w.heap.size, 6, none⟩ = some (.slice x.la x.legs.length x.lc) ∧ V.cell? ⟨w.heap.size, 7, none⟩ = some (i64 x.period) ∧ V.cell? ⟨w.heap.size, 8, none⟩ = some (i64 x.hold) ∧ V.cell? ⟨w.heap.size, 9, none⟩ = some (.string x.note)) V from fun V hG => by
    have hp1 := (hG.block a.p (Array.getElem?_eq_some_iff.1 hp0).1 Hap.out.p_maps).trans hp0
    have ho1 := (hG.block w.heap.size hlt0.1 (not_maps Hlt.out (Nat.le_refl _))).trans ho0
    exact ⟨cell_of_row _ a.p 0 _ _ (0, 0) hp1, cell_of_row _ a.p 1 _ _ (0, 0) hp1, cell_of_row _ a.p 2 _ _ (0, 0) hp1, cell_of_row _ w.heap.size 0 _ _ (0, 0) ho1, cell_of_row _ w.heap.size 1 _ _ (0, 0) ho1, cell_of_row _ w.heap.size 2 _ _ (0, 0) ho1, cell_of_row _ w.heap.size 3 _ _ (0, 0) ho1, cell_of_row _ w.heap.size 4 _ _ (0, 0) ho1, cell_of_row _ w.heap.size 5 _ _ (0, 0) ho1, cell_of_row _ w.heap.size 6 _ _ (0, 0) ho1, cell_of_row _ w.heap.size 7 _ _ (0, 0) ho1, cell_of_row _ w.heap.size 8 _ _ (0, 0) ho1, cell_of_row _ w.heap.size 9 _ _ (0, 0) ho1⟩)
  have HR0 := Lib.hid hr0
  have HO0 := Lib.hid ho0
  have HB0 := Lib.hid H0
  have Hb0 := Lib.hid hb0
  have hG0 := Gr.of_below ((Below.refl W0.heap.size W0).drew) a.maps
  clear hp0 ho0 hr0 H0 hb0 h
  refine (HRt.out _ (hl.later Hb0.out)).mono ?_
  rintro e W1 ⟨rfl, hF⟩
  have hG := (Gr.of_below hF a.maps).more (Below.refl _ _).drew
  have hB := (HB0.out.later hF).later (Below.refl _ _).drew
  have hl := ((hl.later Hb0.out).later hF).later (Below.refl _ _).drew
  clear hF hG0 HRt
  go_wp2_with fail
  refine wp_region_noPanic ?_
  refine wp_region_l 7 (fun V : World => V.cell? ⟨w.heap.size, 0, none⟩ = some (i64 x.client) ∧ V.cell? ⟨w.heap.size, 1, none⟩ = some (i64 x.seq) ∧ V.cell? ⟨w.heap.size, 2, none⟩ = some (i64 x.kind) ∧ V.cell? ⟨w.heap.size, 3, none⟩ = some (.string x.acct) ∧ V.cell? ⟨w.heap.size, 4, none⟩ = some (.string x.peer) ∧ V.cell? ⟨w.heap.size, 5, none⟩ = some (i64 x.sum) ∧ V.cell? ⟨w.heap.size, 6, none⟩ = some (.slice x.la x.legs.length x.lc) ∧ V.cell? ⟨w.heap.size, 7, none⟩ = some (i64 x.period) ∧ V.cell? ⟨w.heap.size, 8, none⟩ = some (i64 x.hold) ∧ V.cell? ⟨w.heap.size, 9, none⟩ = some (.string x.note)) (by kernel_rfl) ((HSS.out _ hG).2.2.2) (fun hH => ?_)
  refine wpAnyL_take (i := 1) (v := ?v20013) rfl (by kernel_rfl) (by kernel_rfl) (by kernel_rfl) (by kernel_rfl) (fun _ _ _ h => h) (Or.inl ⟨by kernel_rfl, ?hy20013⟩) (by assumption) ?r20013
  case hy20013 => (intro W hSW; obtain ⟨s0, s1, s2, s3, s4, s5, s6, s7, s8, s9⟩ := hSW; go_simp; try with_reducible rfl)
  try simp only [Act.put, List.getElem_toArray, List.setIfInBounds_toArray]
  refine wpAnyL_take (i := 2) (v := ?v20014) rfl (by kernel_rfl) (by kernel_rfl) (by kernel_rfl) (by kernel_rfl) (fun _ _ _ h => h) (Or.inl ⟨by kernel_rfl, ?hy20014⟩) (by assumption) ?r20014
  case hy20014 => (intro W hSW; obtain ⟨s0, s1, s2, s3, s4, s5, s6, s7, s8, s9⟩ := hSW; go_simp; try with_reducible rfl)
  try simp only [Act.put, List.getElem_toArray, List.getElem_cons_zero, List.getElem_cons_succ, List.setIfInBounds_toArray, List.set_cons_zero, List.set_cons_succ]
  refine wpAnyL_take (i := 4) (v := ?v20015) rfl (by kernel_rfl) (by kernel_rfl) (by kernel_rfl) (by kernel_rfl) (fun _ _ _ h => h) (Or.inl ⟨by kernel_rfl, ?hy20015⟩) (by assumption) ?r20015
  case hy20015 => (intro W hSW; obtain ⟨s0, s1, s2, s3, s4, s5, s6, s7, s8, s9⟩ := hSW; go_simp; try with_reducible rfl)
  try simp only [Act.put, List.getElem_toArray, List.getElem_cons_zero, List.getElem_cons_succ, List.setIfInBounds_toArray, List.set_cons_zero, List.set_cons_succ]
  refine wpAnyL_take (i := 5) (v := ?v20016) rfl (by kernel_rfl) (by kernel_rfl) (by kernel_rfl) (by kernel_rfl) (fun _ _ _ h => h) (Or.inl ⟨by kernel_rfl, ?hy20016⟩) (by assumption) ?r20016
  case hy20016 => (intro W hSW; obtain ⟨s0, s1, s2, s3, s4, s5, s6, s7, s8, s9⟩ := hSW; go_simp; try with_reducible rfl)
  try simp only [Act.put, List.getElem_toArray, List.getElem_cons_zero, List.getElem_cons_succ, List.setIfInBounds_toArray, List.set_cons_zero, List.set_cons_succ]
  refine wpAnyL_one (i := 0) (by kernel_rfl) rfl (by decide) (fun K hK => ?_)
  go_simp
  refine (HD.out _).mono ?_
  rintro e W2 ⟨rfl, hm, hF⟩
  have hB := hB.later hF
  have hl := hl.later hF
  have hG := hG.more hF
  have hlk := run_lookup (P := Tryz.prog) intKey Tryz.underlying138 (show MapIs i64 W2 W1.heap.size doersM from hm) x.kind .nilFunc (by kernel_rfl) false
  rw [Hget.out] at hlk
  simp only [Option.getD_some] at hlk
  clear hF hm HD
  refine hK.out _ _ ((HSS.out _ hG).2.2.2) (fun hH => ?_)
  clear hK K
  try simp only [Act.put, List.getElem_toArray, List.getElem_cons_zero, List.getElem_cons_succ, List.setIfInBounds_toArray, List.set_cons_zero, List.set_cons_succ]
  refine wpAnyL_one (i := 3) (by kernel_rfl) rfl (by decide) (fun K hK => ?_)
  go_simp
  refine hK.out _ _ ((HSS.out _ hG).2.2.2) (fun hH => ?_)
  clear hK K
  try simp only [Act.put, List.getElem_toArray, List.getElem_cons_zero, List.getElem_cons_succ, List.setIfInBounds_toArray, List.set_cons_zero, List.set_cons_succ]
  refine wpAnyL_one (i := 6) (by kernel_rfl) rfl (by decide) (fun K hK => ?_)
  go_simp
  refine (HK.out _ hB hl).mono ?_
  rintro e W3 ⟨rfl, hB2, hg⟩
  have hr := (hG.block rb hlt0.2 Hnm.out).trans HR0.out
  have hr := (hg.block rb (Nat.lt_of_lt_of_le hlt0.2 hG.size) (fun e => by rcases e with e | e; exact Hna.out _ (.inl rfl) e.symm; exact Hnm.out e)).trans hr
  have hG2 := (hG.mono (fun _ _ e => BA.maps_own e)).after hg
  clear hg hG hB hl hlk
  have ho2 := (hG2.block w.heap.size hlt0.1 (fun e => by rcases e with e | e; exact (not_all Hlt.out (Nat.le_refl _)) _ (.inl rfl) e.symm; exact not_maps Hlt.out (Nat.le_refl _) e)).trans HO0.out
  refine hK.out _ _ (⟨cell_of_row _ w.heap.size 0 _ _ (0, 0) ho2, cell_of_row _ w.heap.size 1 _ _ (0, 0) ho2, cell_of_row _ w.heap.size 2 _ _ (0, 0) ho2, cell_of_row _ w.heap.size 3 _ _ (0, 0) ho2, cell_of_row _ w.heap.size 4 _ _ (0, 0) ho2, cell_of_row _ w.heap.size 5 _ _ (0, 0) ho2, cell_of_row _ w.heap.size 6 _ _ (0, 0) ho2, cell_of_row _ w.heap.size 7 _ _ (0, 0) ho2, cell_of_row _ w.heap.size 8 _ _ (0, 0) ho2, cell_of_row _ w.heap.size 9 _ _ (0, 0) ho2⟩) (fun hH => ?_)
  clear hK K
  try simp only [Act.put, List.getElem_toArray, List.getElem_cons_zero, List.getElem_cons_succ, List.setIfInBounds_toArray, List.set_cons_zero, List.set_cons_succ]
  refine wpAnyL_last (by kernel_rfl) rfl (fun K hK => ?_)
  refine wp_store_row 31 (.tmp 4) (.tmp 19) rfl rb #[i64 R.err, i64 R.hav, i64 R.set_, i64 R.num] rfl rfl 31 #[i64 0, i64 0, i64 0, i64 0] hr (by kernel_rfl) rfl (by simp [Value.oneCell']) ?_
  refine hK.out _ _ ?_
  clear hK K
  try simp only [Act.put, List.getElem_toArray, List.getElem_cons_zero, List.getElem_cons_succ]
  refine wpAnyL_done (by kernel_rfl) ?_ _
  refine NoPanic.normal ?_
  have hrow := setRow_heap W3 rb _ #[i64 R.err, i64 R.hav, i64 R.set_, i64 R.num] _ _ hr
  have hB9 := hB2.row Hna.out #[i64 R.err, i64 R.hav, i64 R.set_, i64 R.num]
  have hG9 := ((Gr.of_below Hb0.out a.own).after hG2).own_row Hrb.out #[i64 R.err, i64 R.hav, i64 R.set_, i64 R.num]
  have HB9 := Lib.hid hB9
  have HG9 := Lib.hid hG9
  clear hB9 hG9 hB2 hG2
  go_wp2
  exact bodyPost_ret (results_cell_row rfl _ _ rb 31 _ (0, 0) _ rfl hrow Tryz.underlying31 rfl (by kernel_rfl)) rfl ⟨rfl, HB9.out, HG9.out⟩
set_option maxRecDepth 100000 in
set_option maxHeartbeats 8000000 in
theorem bdo_no (a : BA) (B : Bk) (x : Od) (w : World) (h : BkA w a B) (hl : OdIn w a x) (hr : rightB x = false) :
    Calls Tryz.prog 16 #[a.ptr, x.v] w fun e w' => e = .returned (rpE 1).v ∧ BkA w' a B ∧ Gr w w' a.own := by
  have HRt := Lib.hid (fun (W : World) (hW : OdIn W a x) => right_c0 x W hW.okb hW.2)
  rw [hr] at HRt
  clear hr
  have hb0 : Below w.heap.size w ((w.alloc (.cells #[i64 x.client, i64 x.seq, i64 x.kind, .string x.acct, .string x.peer, i64 x.sum, .slice x.la x.legs.length x.lc, i64 x.period, i64 x.hold, .string x.note] 37)).alloc (.cells #[i64 0, i64 0, i64 0, i64 0] 31)) := ((Below.refl w.heap.size w).alloc (Nat.le_refl _) (.cells #[i64 x.client, i64 x.seq, i64 x.kind, .string x.acct, .string x.peer, i64 x.sum, .slice x.la x.legs.length x.lc, i64 x.period, i64 x.hold, .string x.note] 37)).alloc (by simp) (.cells #[i64 0, i64 0, i64 0, i64 0] 31)
  have ho0 := heap_alloc2_old w (.cells #[i64 x.client, i64 x.seq, i64 x.kind, .string x.acct, .string x.peer, i64 x.sum, .slice x.la x.legs.length x.lc, i64 x.period, i64 x.hold, .string x.note] 37) (.cells #[i64 0, i64 0, i64 0, i64 0] 31)
  have hr0 := heap_alloc2_new w (.cells #[i64 x.client, i64 x.seq, i64 x.kind, .string x.acct, .string x.peer, i64 x.sum, .slice x.la x.legs.length x.lc, i64 x.period, i64 x.hold, .string x.note] 37) (.cells #[i64 0, i64 0, i64 0, i64 0] 31)
  have hlt0 : w.heap.size < ((w.alloc (.cells #[i64 x.client, i64 x.seq, i64 x.kind, .string x.acct, .string x.peer, i64 x.sum, .slice x.la x.legs.length x.lc, i64 x.period, i64 x.hold, .string x.note] 37)).alloc (.cells #[i64 0, i64 0, i64 0, i64 0] 31)).heap.size ∧ w.heap.size + 1 < ((w.alloc (.cells #[i64 x.client, i64 x.seq, i64 x.kind, .string x.acct, .string x.peer, i64 x.sum, .slice x.la x.legs.length x.lc, i64 x.period, i64 x.hold, .string x.note] 37)).alloc (.cells #[i64 0, i64 0, i64 0, i64 0] 31)).heap.size := ⟨by simp; omega, by simp⟩
  have Hlt := Lib.hid h.lt
  have Hap := Lib.hid h.ap
  have H0 := h.later hb0
  unfold Od.v
  go_enter Tryz.func16, Tryz.ntmps16
  go_wp2_with fail
  generalize ((w.alloc (.cells #[i64 x.client, i64 x.seq, i64 x.kind, .string x.acct, .string x.peer, i64 x.sum, .slice x.la x.legs.length x.lc, i64 x.period, i64 x.hold, .string x.note] 37)).alloc (.cells #[i64 0, i64 0, i64 0, i64 0] 31)) = W0 at *
  generalize hrb : w.heap.size + 1 = rb at *
  have Hrb := Lib.hid (show w.heap.size ≤ rb by omega)
  clear hrb
  have Hna := Lib.hid (not_all Hlt.out Hrb.out)
  have Hnm := Lib.hid (not_maps Hlt.out Hrb.out)
  have hp0 := H0.cell
  have HSS := Lib.hid (show ∀ V, Gr W0 V a.maps → (fun V : World => V.cell? ⟨a.p, 0, none⟩ = some (.pointer (some ⟨a.g, 0, none⟩)) ∧ V.cell? ⟨a.p, 1, none⟩ = some (.pointer (some ⟨a.gh, 0, none⟩)) ∧ V.cell? ⟨a.p, 2, none⟩ = some (i64 B.cl) ∧ V.cell? ⟨w.heap.size, 0, none⟩ = some (i64 x.client) ∧ V.cell? ⟨w.heap.size, 1, none⟩ = some (i64 x.seq) ∧ V.cell? ⟨w.heap.size, 2, none⟩ = some (i64 x.kind) ∧ V.cell? ⟨w.heap.size, 3, none⟩ = some (.string x.acct) ∧ V.cell? ⟨w.heap.size, 4, none⟩ = some (.string x.peer) ∧ V.cell? ⟨w.heap.size, 5, none⟩ = some (i64 x.sum) ∧ V.cell? ⟨w.heap.size, 6, none⟩ = some (.slice x.la x.legs.length x.lc) ∧ V.cell? ⟨w.heap.size, 7, none⟩ = some (i64 x.period) ∧ V.cell? ⟨w.heap.size, 8, none⟩ = some (i64 x.hold) ∧ V.cell? ⟨w.heap.size, 9, none⟩ = some (.string x.note)) V from fun V hG => by
    have hp1 := (hG.block a.p (Array.getElem?_eq_some_iff.1 hp0).1 Hap.out.p_maps).trans hp0
    have ho1 := (hG.block w.heap.size hlt0.1 (not_maps Hlt.out (Nat.le_refl _))).trans ho0
    exact ⟨cell_of_row _ a.p 0 _ _ (0, 0) hp1, cell_of_row _ a.p 1 _ _ (0, 0) hp1, cell_of_row _ a.p 2 _ _ (0, 0) hp1, cell_of_row _ w.heap.size 0 _ _ (0, 0) ho1, cell_of_row _ w.heap.size 1 _ _ (0, 0) ho1, cell_of_row _ w.heap.size 2 _ _ (0, 0) ho1, cell_of_row _ w.heap.size 3 _ _ (0, 0) ho1, cell_of_row _ w.heap.size 4 _ _ (0, 0) ho1, cell_of_row _ w.heap.size 5 _ _ (0, 0) ho1, cell_of_row _ w.heap.size 6 _ _ (0, 0) ho1, cell_of_row _ w.heap.size 7 _ _ (0, 0) ho1, cell_of_row _ w.heap.size 8 _ _ (0, 0) ho1, cell_of_row _ w.heap.size 9 _ _ (0, 0) ho1⟩)
  have HR0 := Lib.hid hr0
  have HO0 := Lib.hid ho0
  have HB0 := Lib.hid H0
  have Hb0 := Lib.hid hb0
  have hG0 := Gr.of_below ((Below.refl W0.heap.size W0).drew) a.maps
  clear hp0 ho0 hr0 H0 hb0 h
  refine (HRt.out _ (hl.later Hb0.out)).mono ?_
  rintro e W1 ⟨rfl, hF⟩
  have hr := (hF.block rb hlt0.2).trans HR0.out
  have hrow := setRow_heap W1 rb _ #[i64 1, i64 0, i64 0, i64 0] _ _ hr
  have HB9 := Lib.hid ((HB0.out.later hF).row Hna.out #[i64 1, i64 0, i64 0, i64 0])
  have HG9 := Lib.hid ((((Gr.of_below Hb0.out a.own).more hF)).own_row Hrb.out #[i64 1, i64 0, i64 0, i64 0])
  clear hF hG0 HRt
  go_wp2_with (refine wpList_store_row rfl 31 (.tmp 4) (.tmp 12) rfl rb #[i64 1, i64 0, i64 0, i64 0] rfl rfl 31 #[i64 0, i64 0, i64 0, i64 0] hr (by kernel_rfl) rfl (by simp [Value.oneCell']) ?_)
  exact bodyPost_ret (results_cell_row rfl _ _ rb 31 _ (0, 0) _ rfl hrow Tryz.underlying31 rfl (by kernel_rfl)) rfl ⟨rfl, HB9.out, HG9.out⟩
theorem bdo_c (a : BA) (B : Bk) (x : Od) (w : World) (h : BkA w a B) (hI : InvB B) (hx : OdB x) (hl : OdIn w a x) :
    Calls Tryz.prog 16 #[a.ptr, x.v] w fun e w' => e = .returned (doL B x).1.v ∧ BkA w' a (doL B x).2 ∧ Gr w w' a.own := by
  unfold doL
  by_cases hr : rightB x = false
  · rw [if_pos hr]
    exact bdo_no a B x w h hl hr
  rw [if_neg hr]
  have hr : rightB x = true := by simpa using hr
  have hk := (rightB_ids hr).1
  unfold kindD
  by_cases k1 : x.kind = 1
  · rw [if_pos k1]
    exact bdo_gen a B _ _ x w h hl hr 112 (enters_of Tryz.func112 (by kernel_rfl) rfl) (by rw [k1]; rfl) (fun W hW hl => bopen_c a B x W hW hI hx)
  rw [if_neg k1]
  by_cases k2 : x.kind = 2
  · rw [if_pos k2]
    exact bdo_gen a B _ _ x w h hl hr 113 (enters_of Tryz.func113 (by kernel_rfl) rfl) (by rw [k2]; rfl) (fun W hW hl => bpost_c a B x W hW hI hx hl)
  rw [if_neg k2]
  by_cases k3 : x.kind = 3
  · rw [if_pos k3]
    exact bdo_gen a B _ _ x w h hl hr 114 (enters_of Tryz.func114 (by kernel_rfl) rfl) (by rw [k3]; rfl) (fun W hW hl => bhold_c a B x W hW hI hx hr)
  rw [if_neg k3]
  by_cases k4 : x.kind = 4
  · rw [if_pos k4]
    exact bdo_gen a B _ _ x w h hl hr 115 (enters_of Tryz.func115 (by kernel_rfl) rfl) (by rw [k4]; rfl) (fun W hW hl => bcap_c a B x W hW hI hx)
  rw [if_neg k4]
  by_cases k5 : x.kind = 5
  · rw [if_pos k5]
    exact bdo_gen a B _ _ x w h hl hr 116 (enters_of Tryz.func116 (by kernel_rfl) rfl) (by rw [k5]; rfl) (fun W hW hl => brel_c a B x W hW hI hx)
  rw [if_neg k5]
  by_cases k6 : x.kind = 6
  · rw [if_pos k6]
    exact bdo_gen a B _ _ x w h hl hr 117 (enters_of Tryz.func117 (by kernel_rfl) rfl) (by rw [k6]; rfl) (fun W hW hl => bshut_c a B x W hW hI hx)
  rw [if_neg k6]
  have k7 : x.kind = 7 := by omega
  exact bdo_gen a B _ _ x w h hl hr 118 (enters_of Tryz.func118 (by kernel_rfl) rfl) (by rw [k7]; rfl) (fun W hW hl => bask_c a B x W hW hI hx)
end Go.Proofs.YtgholbeehkfbiaaGreat

/- book: Fold -/
namespace Go.Proofs.YtgholbeehkfbiaaGreat
open Go.RowKit
section
variable {α : Type} [Enc α] {w w' : World} {base : Nat} {e : TypeId} {v : Value} {l : List α}
theorem Own.gr {S : Nat → Prop} (h : Own w base e v l) (hg : Gr w w' S) (hS : ∀ b, v.ownBlock = some b → ¬ S b) (hx : ∀ x ∈ l, Enc.ok w' (Oth w' v) x) : Own w' base e v l := by
  obtain ⟨⟨h1, h2⟩, _⟩ := h
  refine ⟨⟨h1, ?_⟩, hx⟩
  rcases h2 with h2 | ⟨g, cap, cur, hv, hb, hh, r⟩
  · exact .inl h2
  · exact .inr ⟨g, cap, cur, hv, hb, (hg.block g (Array.getElem?_eq_some_iff.1 hh).1 (hS g (by rw [hv]; rfl))).trans hh, r⟩
end
theorem rpInfo : (Tryz.prog.info? 31).map (fun i => (i.zero, i.size, i.bytes)) = some (some (.agg #[i64 0, i64 0, i64 0, i64 0]), Enc.size Rp, 32) := by kernel_rfl
theorem BkA.own_below {w w' : World} {a : BA} {B : Nat} (h : Gr w w' a.own) (hB : B ≤ w.heap.size) (ha : ∀ k, a.all k → B ≤ k) : Below B w w' := h.below hB fun k hk => by
  rcases hk with e | e | e
  · exact ha k (.inl e)
  · exact ha k (.inr (.inr (.inl e)))
  · exact ha k (.inr (.inr (.inr (.inr e))))
theorem BA.own_all {a : BA} {k : Nat} (h : a.own k) : a.all k := by
  rcases h with e | e | e
  · exact .inl e
  · exact .inr (.inr (.inl e))
  · exact .inr (.inr (.inr (.inr e)))
/-- what lies below a book is an order's as a book takes it -/
theorem OdIn.of_sl {w : World} {B : Nat} {A : Option Addr} {c : Nat} {l : List Od} (h : Sl w B A c l) {a : BA} (ha : ∀ k, a.all k → B ≤ k) (hB : B ≤ w.heap.size) (hl : ∀ x ∈ l, x.legs.length ≤ 65536) : ∀ x ∈ l, OdIn w a x := fun x hx =>
  ⟨Enc.keep (α := Od) (h.2.2.2 x hx) (fun _ _ => rfl) (fun k hk => ⟨Nat.lt_of_lt_of_le hk hB, fun e => by have := ha k e; omega⟩), hl x hx⟩
set_option maxRecDepth 100000 in
set_option maxHeartbeats 8000000 in
theorem bfold_c (A : Option Addr) (c : Nat) (l : List Od) (w : World) (h : Sl w w.heap.size A c l) (hx : ∀ x ∈ l, OdB x) (hl : ∀ x ∈ l, x.legs.length ≤ 65536) (hn : l.length ≤ 60000) :
    Calls Tryz.prog 19 #[.slice A l.length c] w fun e w' => ∃ (a : BA) (v : Value) (B0 : Nat), e = .returned (.tuple #[v, a.ptr]) ∧ BkA w' a (foldL bk0 l) ∧ InvB (foldL bk0 l) ∧ Own w' B0 31 v (toldL bk0 l) ∧ w.heap.size ≤ B0 ∧ (∀ k, a.all k → w.heap.size ≤ k ∧ k < B0) ∧ Below w.heap.size w w' := by
  have hN := Lib.hid (bnew_c w)
  have H := Lib.hid h
  have Hx := Lib.hid hx
  have Hl := Lib.hid hl
  have hlc : l.length ≤ c := h.1
  clear h hx hl
  go_enter Tryz.func19, Tryz.ntmps19
  go_wp2_with fail
  refine hN.out.mono ?_
  rintro e w1 ⟨a, rfl, hb0, ha, hF⟩
  have Hlt := Lib.hid hb0.lt
  have Ha := Lib.hid ha
  have hsz := hF.size
  clear hN ha
  go_wp2_with fail
  go_loopw [5, 11] (fun v i wr => ∃ k : Nat, i = i64 k ∧ k ≤ l.length ∧ BkA wr a (foldL bk0 (l.take k)) ∧ InvB (foldL bk0 (l.take k)) ∧ Own wr w1.heap.size 31 v (toldL bk0 (l.take k)) ∧ Below w.heap.size w wr ∧ w1.heap.size ≤ wr.heap.size) (fun _ i _ => l.length - (intOf i).toNat)
  case atStart => exact ⟨0, rfl, Nat.zero_le _, hb0, inv_bk0, Own.nil_ _ _ _, hF, Nat.le_refl _⟩
  case round =>
    obtain ⟨k, rfl, hk, hB, hI, hO, hb, hz⟩ := hrel
    clear hb0 hF
    by_cases hlt : k < l.length
    · have g1 : decide ((k : Int) < (l.length : Int)) = true := decide_eq_true (by omega)
      have g2 : decide (k < l.length) = true := decide_eq_true hlt
      have i0 : (0 : Int) ≤ (k : Int) := by omega
      have i1 : (k : Int) < (l.length : Int) := by omega
      have hlw := H.out.below hb
      obtain ⟨b, o, rfl, hbb, _, c0, c1, c2, c3, c4, c5, c6, c7, c8, c9⟩ := hlw.od hlt
      have hin := OdIn.of_sl (hlw.mono fun _ h => h) (fun k hk => Ha.out k hk) hb.size Hl.out l[k] (List.getElem_mem hlt)
      have hxo := Hx.out l[k] (List.getElem_mem hlt)
      have HF := Lib.hid (show foldL bk0 (l.take (k + 1)) = (doL (foldL bk0 (l.take k)) l[k]).2 by rw [List.take_succ_eq_append_getElem hlt, foldL_snoc])
      have HTl := Lib.hid (show toldL bk0 (l.take (k + 1)) = toldL bk0 (l.take k) ++ [(doL (foldL bk0 (l.take k)) l[k]).1] by rw [List.take_succ_eq_append_getElem hlt, toldL_snoc])
      have HLn := Lib.hid (show (toldL bk0 (l.take k)).length = k by rw [toldL_len, List.length_take]; omega)
      have hI2 := hI.do_ hxo
      generalize foldL bk0 (l.take k) = B at *
      generalize toldL bk0 (l.take k) = ts at *
      obtain ⟨x, hxk⟩ : ∃ x, l[k] = x := ⟨_, rfl⟩
      rw [hxk] at c0 c1 c2 c3 c4 c5 c6 c7 c8 c9 hin hxo HF HTl hI2
      have hba := (Below.refl wr.heap.size wr).alloc (Nat.le_refl _) (.cells #[i64 x.client, i64 x.seq, i64 x.kind, .string x.acct, .string x.peer, i64 x.sum, .slice x.la x.legs.length x.lc, i64 x.period, i64 x.hold, .string x.note] 37)
      have hob := heap_alloc_new wr (.cells #[i64 x.client, i64 x.seq, i64 x.kind, .string x.acct, .string x.peer, i64 x.sum, .slice x.la x.legs.length x.lc, i64 x.period, i64 x.hold, .string x.note] 37)
      have hB1 := hB.later hba
      have hin1 := hin.later hba
      have HO1 := Lib.hid (hO.later hba)
      have hb1 := hb.alloc hb.size (.cells #[i64 x.client, i64 x.seq, i64 x.kind, .string x.acct, .string x.peer, i64 x.sum, .slice x.la x.legs.length x.lc, i64 x.period, i64 x.hold, .string x.note] 37)
      have hz1 : wr.heap.size < (wr.alloc (.cells #[i64 x.client, i64 x.seq, i64 x.kind, .string x.acct, .string x.peer, i64 x.sum, .slice x.la x.legs.length x.lc, i64 x.period, i64 x.hold, .string x.note] 37)).heap.size := by simp
      have HD := Lib.hid (bdo_c a B x _ hB1 hI hxo hin1)
      have k0 := cell_of_row _ wr.heap.size 0 _ _ (0, 0) hob
      have k1 := cell_of_row _ wr.heap.size 1 _ _ (0, 0) hob
      have k2 := cell_of_row _ wr.heap.size 2 _ _ (0, 0) hob
      have k3 := cell_of_row _ wr.heap.size 3 _ _ (0, 0) hob
      have k4 := cell_of_row _ wr.heap.size 4 _ _ (0, 0) hob
      have k5 := cell_of_row _ wr.heap.size 5 _ _ (0, 0) hob
      have k6 := cell_of_row _ wr.heap.size 6 _ _ (0, 0) hob
      have k7 := cell_of_row _ wr.heap.size 7 _ _ (0, 0) hob
      have k8 := cell_of_row _ wr.heap.size 8 _ _ (0, 0) hob
      have k9 := cell_of_row _ wr.heap.size 9 _ _ (0, 0) hob
      simp only [List.getElem?_toArray, List.getElem?_cons_zero, List.getElem?_cons_succ] at k0 k1 k2 k3 k4 k5 k6 k7 k8 k9
      generalize doL B x = d at *
      obtain ⟨R, B2⟩ := d
      dsimp only at *
      have HI2 := Lib.hid hI2
      clear hxk hin hxo hI hI2 hB hO hin1 hB1 hba hob hlw hbb
      go_wp2_with fail
      refine HD.out.mono ?_
      rintro e w2 ⟨rfl, hB2, hG⟩
      have hb2 := hb1.trans (BkA.own_below hG hb1.size (fun k hk => (Ha.out k hk)))
      have HO2 := HO1.out.gr hG (fun b hv e => by have h1 := (HO1.out.1.lt b hv).1; have h2 := Hlt.out b (BA.own_all e); omega) (fun _ _ => trivial)
      have hz2 : w1.heap.size ≤ w2.heap.size := by have := hG.size; omega
      have HO3 := Lib.hid (HO2.later ((Below.refl _ _).alloc (Nat.le_refl _) (.cells #[i64 R.err, i64 R.hav, i64 R.set_, i64 R.num] 31)))
      have Hne := Lib.hid (HO2.new_ne (Nat.le_refl w2.heap.size))
      have HH := Lib.hid (heap_alloc_new w2 (.cells #[i64 R.err, i64 R.hav, i64 R.set_, i64 R.num] 31))
      have hb3 := hb2.alloc hb2.size (.cells #[i64 R.err, i64 R.hav, i64 R.set_, i64 R.num] 31)
      have hB3 := hB2.later ((Below.refl _ _).alloc (Nat.le_refl _) (.cells #[i64 R.err, i64 R.hav, i64 R.set_, i64 R.num] 31))
      have Hz3 := Lib.hid (show w1.heap.size ≤ (w2.alloc (.cells #[i64 R.err, i64 R.hav, i64 R.set_, i64 R.num] 31)).heap.size by simp; omega)
      clear HO1 HO2 hG hb1 hb2 HD hB2 k0 k1 k2 k3 k4 k5 k6 k7 k8 k9 c0 c1 c2 c3 c4 c5 c6 c7 c8 c9
      go_wp2_with (at_builtin; refine wpList_append_one rfl (some 20) (.tmp 15) (.tmp 19) 39 rfl rfl (.agg #[i64 0, i64 0, i64 0, i64 0]) 32 Tryz.underlying39 rpInfo rfl (by decide) (by decide) rfl HO3.out w2.heap.size R rfl _ 31 HH.out rfl Hne.out trivial (by rw [HLn.out]; omega) Hz3.out ?_; intro v3 w3 hO3 hg3 hat3)
      rw [← HTl.out] at hO3
      have hB4 := hB3.kept (Gr.of_grown hg3) (fun j hj e => by have h1 := (HO3.out.1.lt j e).1; have h2 := Hlt.out j hj; omega)
      rw [← HF.out] at hB4 HI2
      have hb4 := hb3.trans (HO3.out.below hg3 hsz hb3.size)
      have hz4 := hg3.size
      clear hg3 hat3 HO3 HH Hne hB3 hb3
      go_roundw
      case rel => exact ⟨k + 1, by go_num, by omega, hB4, HI2.out, hO3, hb4, Nat.le_trans Hz3.out hz4⟩
      case measure => simp [intOf]; omega
    · obtain rfl : k = l.length := by omega
      have g1 : decide ((l.length : Int) < (l.length : Int)) = false := decide_eq_false (by omega)
      rw [List.take_length] at hB hI hO
      have HB := Lib.hid hB
      have HI := Lib.hid hI
      have HO := Lib.hid hO
      clear hB hI hO
      go_wp2
      go_ret2
      exact ⟨a, _, w1.heap.size, rfl, HB.out, HI.out, HO.out, hsz, fun k hk => ⟨Ha.out k hk, Hlt.out k hk⟩, hb⟩
end Go.Proofs.YtgholbeehkfbiaaGreat
