/- Texts of this claim, laid together: BookM. -/
import Derived.Test.YtdkkblhfjblpkaaGreatRows
import Derived.Test.YtdkkblhfjblpkaaGreatBk6
import Derived.WalkKit
import Derived.WalkSpells
import Derived.WalkLawsBesides
import Derived.Deep.QuietTactic
import Derived.BigQuiet
import Derived.Laws.StructEq
import Derived.Deep.DeepFit
import Derived.StillTailTactics

/- book: open, post, hold, capture, release, shut, ask -/
namespace Go.Proofs.YtdkkblhfjblpkaaGreat
open Go.RowKit
set_option maxRecDepth 100000 in
set_option maxHeartbeats 1000000 in
theorem number9_c (c s : Int) (w : World) (h : (0 ≤ c ∧ c ≤ 9) ∧ 1 ≤ s ∧ s ≤ 999) : Calls Tryz.prog 200 #[.agg #[i64 c, i64 s]] w fun e w' => e = .returned (i64 (1000 * c + s)) ∧ Below w.heap.size w w' := by
  have e1 : IntKind.i64.wrap (1000 * c) = 1000 * c := by rw [IntKind.wrap_i64]; omega
  have e2 : IntKind.i64.wrap (1000 * c + s) = 1000 * c + s := by rw [IntKind.wrap_i64]; omega
  have e3 : wrap64 (1000 * c) = 1000 * c := by rw [← IntWalk.i64_left]; exact e1
  have e4 : wrap64 (1000 * c + s) = 1000 * c + s := by rw [← IntWalk.i64_left]; exact e2
  have hb := (Below.refl w.heap.size w).alloc (Nat.le_refl _) (.cells #[i64 c, i64 s] 47)
  clear h
  go_enter Tryz.func200, Tryz.ntmps200
  go_wp2
  go_ret
  exact ⟨by first | rfl | simp only [e3, e4], hb⟩
theorem OdIn.later {w w' : World} {a : BA} {x : Od} (h : OdIn w a x) (hb : Below w.heap.size w w') : OdIn w' a x :=
  ⟨Enc.keep (α := Od) h.1 (fun _ hp => hb.cell hp.1) (fun _ hk => ⟨Nat.lt_of_lt_of_le hk.1 hb.size, hk.2⟩), h.2⟩
theorem OdIn.okb {w : World} {a : BA} {x : Od} (h : OdIn w a x) : Okb w w.heap.size x := Enc.keep (α := Od) h.1 (fun _ _ => rfl) (fun _ h => h.1)
theorem BkA.shut {w : World} {a : BA} {B : Bk} (h : BkA w a B) (n : Int) : BkA (w.setCell ⟨a.p, 2, none⟩ (i64 n)) a ⟨B.L, B.H, n⟩ ∧ Gr w (w.setCell ⟨a.p, 2, none⟩ (i64 n)) (fun k => k = a.p) := by
  have hg := grown_setCell (World.grownBy.refl w (some a.p)) (p := ⟨a.p, 2, none⟩) (.inl rfl) (i64 n)
  have hk := Gr.of_grown hg
  exact ⟨⟨heap_setCell_same w a.p 2 _ _ (i64 n) h.cell, h.ch.kept hk (fun e => h.ap.pg (by injection e)) (fun e => h.ap.pb (by injection e)), h.ho.kept hk (fun e => h.ap.pgh (by injection e)) (fun e => h.ap.pbh (by injection e)), h.ap⟩, hk.mono fun k _ e => by injection e with e; exact e.symm⟩
set_option maxRecDepth 100000 in
set_option maxHeartbeats 8000000 in
theorem bopen_c (a : BA) (B : Bk) (x : Od) (w : World) (h : BkA w a B) (_hI : InvB B) (_hx : OdB x) :
    Calls Tryz.prog 134 #[a.ptr, x.v] w fun e w' => e = .returned (openD B x).1.v ∧ BkA w' a (openD B x).2 ∧ Gr w w' a.own := by
  unfold openD
  have HC := Lib.hid (fun (W : World) (hW : BkA W a B) => openA_c a.g a.b B.L x.acct x.sum W hW.ch)
  have HT := Lib.hid (fun (W : World) (hW : BkA W a ⟨(openL B.L x.acct x.sum).2, B.H, B.cl⟩) => btells_c a _ x (openL B.L x.acct x.sum).1 W hW)
  clear _hI _hx
  dsimp only at *
  generalize openL B.L x.acct x.sum = R at *
  obtain ⟨er, L2⟩ := R
  dsimp only at *
  generalize tellsL L2 x.acct er = t at *
  have hb0 : Below w.heap.size w ((w.alloc (.cells #[i64 x.client, i64 x.seq, i64 x.kind, .string x.acct, .string x.peer, i64 x.sum, .slice x.la x.legs.length x.lc, i64 x.period, i64 x.hold, .string x.note] 50)).alloc (.cells #[i64 0, i64 0, i64 0, i64 0] 44)) := ((Below.refl w.heap.size w).alloc (Nat.le_refl _) (.cells #[i64 x.client, i64 x.seq, i64 x.kind, .string x.acct, .string x.peer, i64 x.sum, .slice x.la x.legs.length x.lc, i64 x.period, i64 x.hold, .string x.note] 50)).alloc (by simp) (.cells #[i64 0, i64 0, i64 0, i64 0] 44)
  have ho0 := heap_alloc2_old w (.cells #[i64 x.client, i64 x.seq, i64 x.kind, .string x.acct, .string x.peer, i64 x.sum, .slice x.la x.legs.length x.lc, i64 x.period, i64 x.hold, .string x.note] 50) (.cells #[i64 0, i64 0, i64 0, i64 0] 44)
  have hr0 := heap_alloc2_new w (.cells #[i64 x.client, i64 x.seq, i64 x.kind, .string x.acct, .string x.peer, i64 x.sum, .slice x.la x.legs.length x.lc, i64 x.period, i64 x.hold, .string x.note] 50) (.cells #[i64 0, i64 0, i64 0, i64 0] 44)
  have hlt0 : w.heap.size < ((w.alloc (.cells #[i64 x.client, i64 x.seq, i64 x.kind, .string x.acct, .string x.peer, i64 x.sum, .slice x.la x.legs.length x.lc, i64 x.period, i64 x.hold, .string x.note] 50)).alloc (.cells #[i64 0, i64 0, i64 0, i64 0] 44)).heap.size ∧ w.heap.size + 1 < ((w.alloc (.cells #[i64 x.client, i64 x.seq, i64 x.kind, .string x.acct, .string x.peer, i64 x.sum, .slice x.la x.legs.length x.lc, i64 x.period, i64 x.hold, .string x.note] 50)).alloc (.cells #[i64 0, i64 0, i64 0, i64 0] 44)).heap.size := ⟨by simp; omega, by simp⟩
  have Hlt := Lib.hid h.lt
  have Hap := Lib.hid h.ap
  have H0 := h.later hb0
  unfold Od.v
  go_enter Tryz.func134, Tryz.ntmps134
  go_wp2_with fail
  generalize ((w.alloc (.cells #[i64 x.client, i64 x.seq, i64 x.kind, .string x.acct, .string x.peer, i64 x.sum, .slice x.la x.legs.length x.lc, i64 x.period, i64 x.hold, .string x.note] 50)).alloc (.cells #[i64 0, i64 0, i64 0, i64 0] 44)) = W0 at *
  generalize hrb : w.heap.size + 1 = rb at *
  have Hrb := Lib.hid (show w.heap.size ≤ rb by omega)
  clear hrb
  have Hna := Lib.hid (not_all Hlt.out Hrb.out)
  have Hnm := Lib.hid (not_maps Hlt.out Hrb.out)
  have hp0 := H0.cell
  have HSS := Lib.hid (show ∀ V, Gr W0 V a.maps → (fun V : World => V.cell? ⟨a.p, 0, none⟩ = some (.pointer (some ⟨a.g, 0, none⟩)) ∧ V.cell? ⟨a.p, 1, none⟩ = some (.pointer (some ⟨a.gh, 0, none⟩)) ∧ V.cell? ⟨a.p, 2, none⟩ = some (i64 B.cl) ∧ V.cell? ⟨w.heap.size, 0, none⟩ = some (i64 x.client) ∧ V.cell? ⟨w.heap.size, 1, none⟩ = some (i64 x.seq) ∧ V.cell? ⟨w.heap.size, 2, none⟩ = some (i64 x.kind) ∧ V.cell? ⟨w.heap.size, 3, none⟩ = some (.string x.acct) ∧ V.cell? ⟨w.heap.size, 4, none⟩ = some (.string x.peer) ∧ V.cell? ⟨w.heap.size, 5, none⟩ = some (i64 x.sum) ∧ V.cell? ⟨w.heap.size, 6, none⟩ = some (.slice x.la x.legs.length x.lc) ∧ V.cell? ⟨w.heap.size, 7, none⟩ = some (i64 x.period) ∧ V.cell? ⟨w.heap.size, 8, none⟩ = some (i64 x.hold) ∧ V.cell? ⟨w.heap.size, 9, none⟩ = some (.string x.note)) V from fun V hG => by
    have hp1 := (hG.block a.p (Array.getElem?_eq_some_iff.1 hp0).1 Hap.out.p_maps).trans hp0
    have ho1 := (hG.block w.heap.size hlt0.1 (not_maps Hlt.out (Nat.le_refl _))).trans ho0
    exact ⟨cell_of_row _ a.p 0 _ _ (0, 0) hp1, cell_of_row _ a.p 1 _ _ (0, 0) hp1, cell_of_row _ a.p 2 _ _ (0, 0) hp1, cell_of_row _ w.heap.size 0 _ _ (0, 0) ho1, cell_of_row _ w.heap.size 1 _ _ (0, 0) ho1, cell_of_row _ w.heap.size 2 _ _ (0, 0) ho1, cell_of_row _ w.heap.size 3 _ _ (0, 0) ho1, cell_of_row _ w.heap.size 4 _ _ (0, 0) ho1, cell_of_row _ w.heap.size 5 _ _ (0, 0) ho1, cell_of_row _ w.heap.size 6 _ _ (0, 0) ho1, cell_of_row _ w.heap.size 7 _ _ (0, 0) ho1, cell_of_row _ w.heap.size 8 _ _ (0, 0) ho1, cell_of_row _ w.heap.size 9 _ _ (0, 0) ho1⟩)
  have HR0 := Lib.hid hr0
  have HO0 := Lib.hid ho0
  have HB0 := Lib.hid H0
  have Hb0 := Lib.hid hb0
  have hG0 := Gr.of_below ((Below.refl W0.heap.size W0).drew) a.maps
  clear hp0 ho0 hr0 H0 hb0 h
  have hG := hG0
  have hB := HB0.out.later (Below.refl _ _).drew
  clear hG0
  refine wp_region_noPanic ?_
  refine wp_region_l 12 (fun V : World => V.cell? ⟨a.p, 0, none⟩ = some (.pointer (some ⟨a.g, 0, none⟩)) ∧ V.cell? ⟨a.p, 1, none⟩ = some (.pointer (some ⟨a.gh, 0, none⟩)) ∧ V.cell? ⟨a.p, 2, none⟩ = some (i64 B.cl) ∧ V.cell? ⟨w.heap.size, 0, none⟩ = some (i64 x.client) ∧ V.cell? ⟨w.heap.size, 1, none⟩ = some (i64 x.seq) ∧ V.cell? ⟨w.heap.size, 2, none⟩ = some (i64 x.kind) ∧ V.cell? ⟨w.heap.size, 3, none⟩ = some (.string x.acct) ∧ V.cell? ⟨w.heap.size, 4, none⟩ = some (.string x.peer) ∧ V.cell? ⟨w.heap.size, 5, none⟩ = some (i64 x.sum) ∧ V.cell? ⟨w.heap.size, 6, none⟩ = some (.slice x.la x.legs.length x.lc) ∧ V.cell? ⟨w.heap.size, 7, none⟩ = some (i64 x.period) ∧ V.cell? ⟨w.heap.size, 8, none⟩ = some (i64 x.hold) ∧ V.cell? ⟨w.heap.size, 9, none⟩ = some (.string x.note)) (by kernel_rfl) (HSS.out _ hG) (fun hH => ?_)
  refine wpAnyL_take (i := 0) (v := ?v20013) rfl (by kernel_rfl) (by kernel_rfl) (by kernel_rfl) (by kernel_rfl) (fun _ _ _ h => h) (Or.inl ⟨by kernel_rfl, ?hy20013⟩) (by assumption) ?r20013
  case hy20013 => (intro W hSW; obtain ⟨s0, s1, s2, s3, s4, s5, s6, s7, s8, s9, s10, s11, s12⟩ := hSW; go_simp; try with_reducible rfl)
  try simp only [Act.put, List.getElem_toArray, List.getElem_cons_zero, List.setIfInBounds_toArray, List.set_cons_zero, List.set_cons_succ]
  refine wpAnyL_take (i := 1) (v := ?v20014) rfl (by kernel_rfl) (by kernel_rfl) (by kernel_rfl) (by kernel_rfl) (fun _ _ _ h => h) (Or.inl ⟨by kernel_rfl, ?hy20014⟩) (by assumption) ?r20014
  case hy20014 => (intro W hSW; obtain ⟨s0, s1, s2, s3, s4, s5, s6, s7, s8, s9, s10, s11, s12⟩ := hSW; go_simp; try with_reducible rfl)
  try simp only [Act.put, List.getElem_toArray, List.getElem_cons_zero, List.getElem_cons_succ, List.setIfInBounds_toArray, List.set_cons_zero, List.set_cons_succ]
  refine wpAnyL_take (i := 2) (v := ?v20015) rfl (by kernel_rfl) (by kernel_rfl) (by kernel_rfl) (by kernel_rfl) (fun _ _ _ h => h) (Or.inl ⟨by kernel_rfl, ?hy20015⟩) (by assumption) ?r20015
  case hy20015 => (intro W hSW; obtain ⟨s0, s1, s2, s3, s4, s5, s6, s7, s8, s9, s10, s11, s12⟩ := hSW; go_simp; try with_reducible rfl)
  try simp only [Act.put, List.getElem_toArray, List.getElem_cons_zero, List.getElem_cons_succ, List.setIfInBounds_toArray, List.set_cons_zero, List.set_cons_succ]
  refine wpAnyL_take (i := 3) (v := ?v20016) rfl (by kernel_rfl) (by kernel_rfl) (by kernel_rfl) (by kernel_rfl) (fun _ _ _ h => h) (Or.inl ⟨by kernel_rfl, ?hy20016⟩) (by assumption) ?r20016
  case hy20016 => (intro W hSW; obtain ⟨s0, s1, s2, s3, s4, s5, s6, s7, s8, s9, s10, s11, s12⟩ := hSW; go_simp; try with_reducible rfl)
  try simp only [Act.put, List.getElem_toArray, List.getElem_cons_zero, List.getElem_cons_succ, List.setIfInBounds_toArray, List.set_cons_zero, List.set_cons_succ]
  refine wpAnyL_take (i := 4) (v := ?v20017) rfl (by kernel_rfl) (by kernel_rfl) (by kernel_rfl) (by kernel_rfl) (fun _ _ _ h => h) (Or.inl ⟨by kernel_rfl, ?hy20017⟩) (by assumption) ?r20017
  case hy20017 => (intro W hSW; obtain ⟨s0, s1, s2, s3, s4, s5, s6, s7, s8, s9, s10, s11, s12⟩ := hSW; go_simp; try with_reducible rfl)
  try simp only [Act.put, List.getElem_toArray, List.getElem_cons_zero, List.getElem_cons_succ, List.setIfInBounds_toArray, List.set_cons_zero, List.set_cons_succ]
  refine wpAnyL_take (i := 5) (v := ?v20018) rfl (by kernel_rfl) (by kernel_rfl) (by kernel_rfl) (by kernel_rfl) (fun _ _ _ h => h) (Or.inl ⟨by kernel_rfl, ?hy20018⟩) (by assumption) ?r20018
  case hy20018 => (intro W hSW; obtain ⟨s0, s1, s2, s3, s4, s5, s6, s7, s8, s9, s10, s11, s12⟩ := hSW; go_simp; try with_reducible rfl)
  try simp only [Act.put, List.getElem_toArray, List.getElem_cons_zero, List.getElem_cons_succ, List.setIfInBounds_toArray, List.set_cons_zero, List.set_cons_succ]
  refine wpAnyL_take (i := 6) (v := ?v20019) rfl (by kernel_rfl) (by kernel_rfl) (by kernel_rfl) (by kernel_rfl) (fun _ _ _ h => h) (Or.inl ⟨by kernel_rfl, ?hy20019⟩) (by assumption) ?r20019
  case hy20019 => (intro W hSW; obtain ⟨s0, s1, s2, s3, s4, s5, s6, s7, s8, s9, s10, s11, s12⟩ := hSW; go_simp; try with_reducible rfl)
  try simp only [Act.put, List.getElem_toArray, List.getElem_cons_zero, List.getElem_cons_succ, List.setIfInBounds_toArray, List.set_cons_zero, List.set_cons_succ]
  refine wpAnyL_take (i := 7) (v := ?v20020) rfl (by kernel_rfl) (by kernel_rfl) (by kernel_rfl) (by kernel_rfl) (fun _ _ _ h => h) (Or.inl ⟨by kernel_rfl, ?hy20020⟩) (by assumption) ?r20020
  case hy20020 => (intro W hSW; obtain ⟨s0, s1, s2, s3, s4, s5, s6, s7, s8, s9, s10, s11, s12⟩ := hSW; go_simp; try with_reducible rfl)
  try simp only [Act.put, List.getElem_toArray, List.getElem_cons_zero, List.getElem_cons_succ, List.setIfInBounds_toArray, List.set_cons_zero, List.set_cons_succ]
  refine wpAnyL_take (i := 8) (v := ?v20021) rfl (by kernel_rfl) (by kernel_rfl) (by kernel_rfl) (by kernel_rfl) (fun _ _ _ h => h) (Or.inl ⟨by kernel_rfl, ?hy20021⟩) (by assumption) ?r20021
  case hy20021 => (intro W hSW; obtain ⟨s0, s1, s2, s3, s4, s5, s6, s7, s8, s9, s10, s11, s12⟩ := hSW; go_simp; try with_reducible rfl)
  try simp only [Act.put, List.getElem_toArray, List.getElem_cons_zero, List.getElem_cons_succ, List.setIfInBounds_toArray, List.set_cons_zero, List.set_cons_succ]
  refine wpAnyL_take (i := 9) (v := ?v20022) rfl (by kernel_rfl) (by kernel_rfl) (by kernel_rfl) (by kernel_rfl) (fun _ _ _ h => h) (Or.inl ⟨by kernel_rfl, ?hy20022⟩) (by assumption) ?r20022
  case hy20022 => (intro W hSW; obtain ⟨s0, s1, s2, s3, s4, s5, s6, s7, s8, s9, s10, s11, s12⟩ := hSW; go_simp; try with_reducible rfl)
  try simp only [Act.put, List.getElem_toArray, List.getElem_cons_zero, List.getElem_cons_succ, List.setIfInBounds_toArray, List.set_cons_zero, List.set_cons_succ]
  refine wpAnyL_one (i := 10) (by kernel_rfl) rfl (by decide) (fun K hK => ?_)
  go_simp
  refine (HC.out _ hB).mono ?_
  rintro e W2 ⟨rfl, hc1, hg1⟩
  obtain ⟨hB, hg1⟩ := hB.chart hc1 hg1
  clear hc1
  have hG := hG.after hg1
  clear hg1
  refine hK.out _ _ (HSS.out _ hG) (fun hH => ?_)
  clear hK K
  try simp only [Act.put, List.getElem_toArray, List.getElem_cons_zero, List.getElem_cons_succ, List.setIfInBounds_toArray, List.set_cons_zero, List.set_cons_succ]
  refine wpAnyL_one (i := 11) (by kernel_rfl) rfl (by decide) (fun K hK => ?_)
  go_simp
  refine (HT.out _ hB).mono ?_
  rintro e W3 ⟨rfl, hF⟩
  have hB := hB.later hF
  have hG := hG.more hF
  clear hF
  refine hK.out _ _ (HSS.out _ hG) (fun hH => ?_)
  clear hK K
  try simp only [Act.put, List.getElem_toArray, List.getElem_cons_zero, List.getElem_cons_succ]
  refine wpAnyL_last (by kernel_rfl) rfl (fun K hK => ?_)
  have hr := (hG.block rb hlt0.2 Hnm.out).trans HR0.out
  refine wp_store_row 44 (.tmp 4) (.tmp 16) rfl rb #[i64 t.err, i64 t.hav, i64 t.set_, i64 t.num] rfl rfl 44 #[i64 0, i64 0, i64 0, i64 0] hr (by kernel_rfl) rfl (by simp [Value.oneCell']) ?_
  refine hK.out _ _ ?_
  clear hK K
  try simp only [Act.put, List.getElem_toArray, List.getElem_cons_zero, List.getElem_cons_succ]
  refine wpAnyL_done (by kernel_rfl) ?_ _
  refine NoPanic.normal ?_
  have hrow := setRow_heap W3 rb _ #[i64 t.err, i64 t.hav, i64 t.set_, i64 t.num] _ _ hr
  have hB9 := hB.row Hna.out #[i64 t.err, i64 t.hav, i64 t.set_, i64 t.num]
  have hG9 := ((Gr.of_below Hb0.out a.maps).after hG).own_row Hrb.out #[i64 t.err, i64 t.hav, i64 t.set_, i64 t.num]
  have HB9 := Lib.hid hB9
  have HG9 := Lib.hid hG9
  clear hB9 hG9 hB hG
  go_wp2
  exact bodyPost_ret (results_cell_row rfl _ _ rb 44 _ (0, 0) _ rfl hrow Tryz.underlying44 rfl (by kernel_rfl)) rfl ⟨rfl, HB9.out, HG9.out.mono (fun _ _ e => BA.maps_own e)⟩
set_option maxRecDepth 100000 in
set_option maxHeartbeats 8000000 in
theorem bask_c (a : BA) (B : Bk) (x : Od) (w : World) (h : BkA w a B) (_hI : InvB B) (_hx : OdB x) :
    Calls Tryz.prog 140 #[a.ptr, x.v] w fun e w' => e = .returned (askD B x).1.v ∧ BkA w' a (askD B x).2 ∧ Gr w w' a.own := by
  unfold askD
  have HT := Lib.hid (fun (W : World) (hW : BkA W a B) => btells_c a B x 0 W hW)
  clear _hI _hx
  dsimp only at *
  generalize tellsL B.L x.acct 0 = t at *
  have hb0 : Below w.heap.size w ((w.alloc (.cells #[i64 x.client, i64 x.seq, i64 x.kind, .string x.acct, .string x.peer, i64 x.sum, .slice x.la x.legs.length x.lc, i64 x.period, i64 x.hold, .string x.note] 50)).alloc (.cells #[i64 0, i64 0, i64 0, i64 0] 44)) := ((Below.refl w.heap.size w).alloc (Nat.le_refl _) (.cells #[i64 x.client, i64 x.seq, i64 x.kind, .string x.acct, .string x.peer, i64 x.sum, .slice x.la x.legs.length x.lc, i64 x.period, i64 x.hold, .string x.note] 50)).alloc (by simp) (.cells #[i64 0, i64 0, i64 0, i64 0] 44)
  have ho0 := heap_alloc2_old w (.cells #[i64 x.client, i64 x.seq, i64 x.kind, .string x.acct, .string x.peer, i64 x.sum, .slice x.la x.legs.length x.lc, i64 x.period, i64 x.hold, .string x.note] 50) (.cells #[i64 0, i64 0, i64 0, i64 0] 44)
  have hr0 := heap_alloc2_new w (.cells #[i64 x.client, i64 x.seq, i64 x.kind, .string x.acct, .string x.peer, i64 x.sum, .slice x.la x.legs.length x.lc, i64 x.period, i64 x.hold, .string x.note] 50) (.cells #[i64 0, i64 0, i64 0, i64 0] 44)
  have hlt0 : w.heap.size < ((w.alloc (.cells #[i64 x.client, i64 x.seq, i64 x.kind, .string x.acct, .string x.peer, i64 x.sum, .slice x.la x.legs.length x.lc, i64 x.period, i64 x.hold, .string x.note] 50)).alloc (.cells #[i64 0, i64 0, i64 0, i64 0] 44)).heap.size ∧ w.heap.size + 1 < ((w.alloc (.cells #[i64 x.client, i64 x.seq, i64 x.kind, .string x.acct, .string x.peer, i64 x.sum, .slice x.la x.legs.length x.lc, i64 x.period, i64 x.hold, .string x.note] 50)).alloc (.cells #[i64 0, i64 0, i64 0, i64 0] 44)).heap.size := ⟨by simp; omega, by simp⟩
  have Hlt := Lib.hid h.lt
  have Hap := Lib.hid h.ap
  have H0 := h.later hb0
  unfold Od.v
  go_enter Tryz.func140, Tryz.ntmps140
  go_wp2_with fail
  generalize ((w.alloc (.cells #[i64 x.client, i64 x.seq, i64 x.kind, .string x.acct, .string x.peer, i64 x.sum, .slice x.la x.legs.length x.lc, i64 x.period, i64 x.hold, .string x.note] 50)).alloc (.cells #[i64 0, i64 0, i64 0, i64 0] 44)) = W0 at *
  generalize hrb : w.heap.size + 1 = rb at *
  have Hrb := Lib.hid (show w.heap.size ≤ rb by omega)
  clear hrb
  have Hna := Lib.hid (not_all Hlt.out Hrb.out)
  have Hnm := Lib.hid (not_maps Hlt.out Hrb.out)
  have hp0 := H0.cell
  have HSS := Lib.hid (show ∀ V, Gr W0 V a.maps → (fun V : World => V.cell? ⟨a.p, 0, none⟩ = some (.pointer (some ⟨a.g, 0, none⟩)) ∧ V.cell? ⟨a.p, 1, none⟩ = some (.pointer (some ⟨a.gh, 0, none⟩)) ∧ V.cell? ⟨a.p, 2, none⟩ = some (i64 B.cl) ∧ V.cell? ⟨w.heap.size, 0, none⟩ = some (i64 x.client) ∧ V.cell? ⟨w.heap.size, 1, none⟩ = some (i64 x.seq) ∧ V.cell? ⟨w.heap.size, 2, none⟩ = some (i64 x.kind) ∧ V.cell? ⟨w.heap.size, 3, none⟩ = some (.string x.acct) ∧ V.cell? ⟨w.heap.size, 4, none⟩ = some (.string x.peer) ∧ V.cell? ⟨w.heap.size, 5, none⟩ = some (i64 x.sum) ∧ V.cell? ⟨w.heap.size, 6, none⟩ = some (.slice x.la x.legs.length x.lc) ∧ V.cell? ⟨w.heap.size, 7, none⟩ = some (i64 x.period) ∧ V.cell? ⟨w.heap.size, 8, none⟩ = some (i64 x.hold) ∧ V.cell? ⟨w.heap.size, 9, none⟩ = some (.string x.note)) V from fun V hG => by
    have hp1 := (hG.block a.p (Array.getElem?_eq_some_iff.1 hp0).1 Hap.out.p_maps).trans hp0
    have ho1 := (hG.block w.heap.size hlt0.1 (not_maps Hlt.out (Nat.le_refl _))).trans ho0
    exact ⟨cell_of_row _ a.p 0 _ _ (0, 0) hp1, cell_of_row _ a.p 1 _ _ (0, 0) hp1, cell_of_row _ a.p 2 _ _ (0, 0) hp1, cell_of_row _ w.heap.size 0 _ _ (0, 0) ho1, cell_of_row _ w.heap.size 1 _ _ (0, 0) ho1, cell_of_row _ w.heap.size 2 _ _ (0, 0) ho1, cell_of_row _ w.heap.size 3 _ _ (0, 0) ho1, cell_of_row _ w.heap.size 4 _ _ (0, 0) ho1, cell_of_row _ w.heap.size 5 _ _ (0, 0) ho1, cell_of_row _ w.heap.size 6 _ _ (0, 0) ho1, cell_of_row _ w.heap.size 7 _ _ (0, 0) ho1, cell_of_row _ w.heap.size 8 _ _ (0, 0) ho1, cell_of_row _ w.heap.size 9 _ _ (0, 0) ho1⟩)
  have HR0 := Lib.hid hr0
  have HO0 := Lib.hid ho0
  have HB0 := Lib.hid H0
  have Hb0 := Lib.hid hb0
  have hG0 := Gr.of_below ((Below.refl W0.heap.size W0).drew) a.maps
  clear hp0 ho0 hr0 H0 hb0 h
  refine (HT.out _ HB0.out).mono ?_
  rintro e W3 ⟨rfl, hF⟩
  have hG := Gr.of_below hF a.maps
  have hB := HB0.out.later hF
  have hr := (hG.block rb hlt0.2 Hnm.out).trans HR0.out
  have hrow := setRow_heap W3 rb _ #[i64 t.err, i64 t.hav, i64 t.set_, i64 t.num] _ _ hr
  have HB9 := Lib.hid (hB.row Hna.out #[i64 t.err, i64 t.hav, i64 t.set_, i64 t.num])
  have HG9 := Lib.hid (((Gr.of_below Hb0.out a.maps).after hG).own_row Hrb.out #[i64 t.err, i64 t.hav, i64 t.set_, i64 t.num])
  clear hF hG hB hG0
  go_wp2_with (refine wpList_store_row rfl 44 (.tmp 4) (.tmp 7) rfl rb #[i64 t.err, i64 t.hav, i64 t.set_, i64 t.num] rfl rfl 44 #[i64 0, i64 0, i64 0, i64 0] hr (by kernel_rfl) rfl (by simp [Value.oneCell']) ?_)
  exact bodyPost_ret (results_cell_row rfl _ _ rb 44 _ (0, 0) _ rfl hrow Tryz.underlying44 rfl (by kernel_rfl)) rfl ⟨rfl, HB9.out, HG9.out.mono (fun _ _ e => BA.maps_own e)⟩
set_option maxRecDepth 100000 in
set_option maxHeartbeats 8000000 in
theorem brel_c (a : BA) (B : Bk) (x : Od) (w : World) (h : BkA w a B) (hI : InvB B) (_hx : OdB x) :
    Calls Tryz.prog 138 #[a.ptr, x.v] w fun e w' => e = .returned (relD B x).1.v ∧ BkA w' a (relD B x).2 ∧ Gr w w' a.own := by
  unfold relD
  have HC := Lib.hid (fun (W : World) (hW : BkA W a B) => hofreeA_c a.g a.b a.gh a.bh B.L B.H x.acct x.hold W hW.ch hW.ho ⟨hW.ap.ghb, hW.ap.bhb, hW.ap.gbh⟩ hI.inv.okA hI.inv.okH)
  have HT := Lib.hid (fun (W : World) (hW : BkA W a ⟨(freeHL B.L B.H x.acct x.hold).2.1, (freeHL B.L B.H x.acct x.hold).2.2, B.cl⟩) => btells_c a _ x (freeHL B.L B.H x.acct x.hold).1 W hW)
  clear hI _hx
  dsimp only at *
  generalize freeHL B.L B.H x.acct x.hold = R at *
  obtain ⟨er, L2, H2⟩ := R
  dsimp only at *
  generalize tellsL L2 x.acct er = t at *
  have hb0 : Below w.heap.size w ((w.alloc (.cells #[i64 x.client, i64 x.seq, i64 x.kind, .string x.acct, .string x.peer, i64 x.sum, .slice x.la x.legs.length x.lc, i64 x.period, i64 x.hold, .string x.note] 50)).alloc (.cells #[i64 0, i64 0, i64 0, i64 0] 44)) := ((Below.refl w.heap.size w).alloc (Nat.le_refl _) (.cells #[i64 x.client, i64 x.seq, i64 x.kind, .string x.acct, .string x.peer, i64 x.sum, .slice x.la x.legs.length x.lc, i64 x.period, i64 x.hold, .string x.note] 50)).alloc (by simp) (.cells #[i64 0, i64 0, i64 0, i64 0] 44)
  have ho0 := heap_alloc2_old w (.cells #[i64 x.client, i64 x.seq, i64 x.kind, .string x.acct, .string x.peer, i64 x.sum, .slice x.la x.legs.length x.lc, i64 x.period, i64 x.hold, .string x.note] 50) (.cells #[i64 0, i64 0, i64 0, i64 0] 44)
  have hr0 := heap_alloc2_new w (.cells #[i64 x.client, i64 x.seq, i64 x.kind, .string x.acct, .string x.peer, i64 x.sum, .slice x.la x.legs.length x.lc, i64 x.period, i64 x.hold, .string x.note] 50) (.cells #[i64 0, i64 0, i64 0, i64 0] 44)
  have hlt0 : w.heap.size < ((w.alloc (.cells #[i64 x.client, i64 x.seq, i64 x.kind, .string x.acct, .string x.peer, i64 x.sum, .slice x.la x.legs.length x.lc, i64 x.period, i64 x.hold, .string x.note] 50)).alloc (.cells #[i64 0, i64 0, i64 0, i64 0] 44)).heap.size ∧ w.heap.size + 1 < ((w.alloc (.cells #[i64 x.client, i64 x.seq, i64 x.kind, .string x.acct, .string x.peer, i64 x.sum, .slice x.la x.legs.length x.lc, i64 x.period, i64 x.hold, .string x.note] 50)).alloc (.cells #[i64 0, i64 0, i64 0, i64 0] 44)).heap.size := ⟨by simp; omega, by simp⟩
  have Hlt := Lib.hid h.lt
  have Hap := Lib.hid h.ap
  have H0 := h.later hb0
  unfold Od.v
  go_enter Tryz.func138, Tryz.ntmps138
  go_wp2_with fail
  generalize ((w.alloc (.cells #[i64 x.client, i64 x.seq, i64 x.kind, .string x.acct, .string x.peer, i64 x.sum, .slice x.la x.legs.length x.lc, i64 x.period, i64 x.hold, .string x.note] 50)).alloc (.cells #[i64 0, i64 0, i64 0, i64 0] 44)) = W0 at *
  generalize hrb : w.heap.size + 1 = rb at *
  have Hrb := Lib.hid (show w.heap.size ≤ rb by omega)
  clear hrb
  have Hna := Lib.hid (not_all Hlt.out Hrb.out)
  have Hnm := Lib.hid (not_maps Hlt.out Hrb.out)
  have hp0 := H0.cell
  have HSS := Lib.hid (show ∀ V, Gr W0 V a.maps → (fun V : World => V.cell? ⟨a.p, 0, none⟩ = some (.pointer (some ⟨a.g, 0, none⟩)) ∧ V.cell? ⟨a.p, 1, none⟩ = some (.pointer (some ⟨a.gh, 0, none⟩)) ∧ V.cell? ⟨a.p, 2, none⟩ = some (i64 B.cl) ∧ V.cell? ⟨w.heap.size, 0, none⟩ = some (i64 x.client) ∧ V.cell? ⟨w.heap.size, 1, none⟩ = some (i64 x.seq) ∧ V.cell? ⟨w.heap.size, 2, none⟩ = some (i64 x.kind) ∧ V.cell? ⟨w.heap.size, 3, none⟩ = some (.string x.acct) ∧ V.cell? ⟨w.heap.size, 4, none⟩ = some (.string x.peer) ∧ V.cell? ⟨w.heap.size, 5, none⟩ = some (i64 x.sum) ∧ V.cell? ⟨w.heap.size, 6, none⟩ = some (.slice x.la x.legs.length x.lc) ∧ V.cell? ⟨w.heap.size, 7, none⟩ = some (i64 x.period) ∧ V.cell? ⟨w.heap.size, 8, none⟩ = some (i64 x.hold) ∧ V.cell? ⟨w.heap.size, 9, none⟩ = some (.string x.note)) V from fun V hG => by
    have hp1 := (hG.block a.p (Array.getElem?_eq_some_iff.1 hp0).1 Hap.out.p_maps).trans hp0
    have ho1 := (hG.block w.heap.size hlt0.1 (not_maps Hlt.out (Nat.le_refl _))).trans ho0
    exact ⟨cell_of_row _ a.p 0 _ _ (0, 0) hp1, cell_of_row _ a.p 1 _ _ (0, 0) hp1, cell_of_row _ a.p 2 _ _ (0, 0) hp1, cell_of_row _ w.heap.size 0 _ _ (0, 0) ho1, cell_of_row _ w.heap.size 1 _ _ (0, 0) ho1, cell_of_row _ w.heap.size 2 _ _ (0, 0) ho1, cell_of_row _ w.heap.size 3 _ _ (0, 0) ho1, cell_of_row _ w.heap.size 4 _ _ (0, 0) ho1, cell_of_row _ w.heap.size 5 _ _ (0, 0) ho1, cell_of_row _ w.heap.size 6 _ _ (0, 0) ho1, cell_of_row _ w.heap.size 7 _ _ (0, 0) ho1, cell_of_row _ w.heap.size 8 _ _ (0, 0) ho1, cell_of_row _ w.heap.size 9 _ _ (0, 0) ho1⟩)
  have HR0 := Lib.hid hr0
  have HO0 := Lib.hid ho0
  have HB0 := Lib.hid H0
  have Hb0 := Lib.hid hb0
  have hG0 := Gr.of_below ((Below.refl W0.heap.size W0).drew) a.maps
  clear hp0 ho0 hr0 H0 hb0 h
  have hG := hG0
  have hB := HB0.out.later (Below.refl _ _).drew
  clear hG0
  refine wp_region_noPanic ?_
  refine wp_region_l 16 (fun V : World => V.cell? ⟨a.p, 0, none⟩ = some (.pointer (some ⟨a.g, 0, none⟩)) ∧ V.cell? ⟨a.p, 1, none⟩ = some (.pointer (some ⟨a.gh, 0, none⟩)) ∧ V.cell? ⟨a.p, 2, none⟩ = some (i64 B.cl) ∧ V.cell? ⟨w.heap.size, 0, none⟩ = some (i64 x.client) ∧ V.cell? ⟨w.heap.size, 1, none⟩ = some (i64 x.seq) ∧ V.cell? ⟨w.heap.size, 2, none⟩ = some (i64 x.kind) ∧ V.cell? ⟨w.heap.size, 3, none⟩ = some (.string x.acct) ∧ V.cell? ⟨w.heap.size, 4, none⟩ = some (.string x.peer) ∧ V.cell? ⟨w.heap.size, 5, none⟩ = some (i64 x.sum) ∧ V.cell? ⟨w.heap.size, 6, none⟩ = some (.slice x.la x.legs.length x.lc) ∧ V.cell? ⟨w.heap.size, 7, none⟩ = some (i64 x.period) ∧ V.cell? ⟨w.heap.size, 8, none⟩ = some (i64 x.hold) ∧ V.cell? ⟨w.heap.size, 9, none⟩ = some (.string x.note)) (by kernel_rfl) (HSS.out _ hG) (fun hH => ?_)
  refine wpAnyL_take (i := 0) (v := ?v20023) rfl (by kernel_rfl) (by kernel_rfl) (by kernel_rfl) (by kernel_rfl) (fun _ _ _ h => h) (Or.inl ⟨by kernel_rfl, ?hy20023⟩) (by assumption) ?r20023
  case hy20023 => (intro W hSW; obtain ⟨s0, s1, s2, s3, s4, s5, s6, s7, s8, s9, s10, s11, s12⟩ := hSW; go_simp; try with_reducible rfl)
  try simp only [Act.put, List.getElem_toArray, List.getElem_cons_zero, List.setIfInBounds_toArray, List.set_cons_zero, List.set_cons_succ]
  refine wpAnyL_take (i := 1) (v := ?v20024) rfl (by kernel_rfl) (by kernel_rfl) (by kernel_rfl) (by kernel_rfl) (fun _ _ _ h => h) (Or.inl ⟨by kernel_rfl, ?hy20024⟩) (by assumption) ?r20024
  case hy20024 => (intro W hSW; obtain ⟨s0, s1, s2, s3, s4, s5, s6, s7, s8, s9, s10, s11, s12⟩ := hSW; go_simp; try with_reducible rfl)
  try simp only [Act.put, List.getElem_toArray, List.getElem_cons_zero, List.getElem_cons_succ, List.setIfInBounds_toArray, List.set_cons_zero, List.set_cons_succ]
  refine wpAnyL_take (i := 2) (v := ?v20025) rfl (by kernel_rfl) (by kernel_rfl) (by kernel_rfl) (by kernel_rfl) (fun _ _ _ h => h) (Or.inl ⟨by kernel_rfl, ?hy20025⟩) (by assumption) ?r20025
  case hy20025 => (intro W hSW; obtain ⟨s0, s1, s2, s3, s4, s5, s6, s7, s8, s9, s10, s11, s12⟩ := hSW; go_simp; try with_reducible rfl)
  try simp only [Act.put, List.getElem_toArray, List.getElem_cons_zero, List.getElem_cons_succ, List.setIfInBounds_toArray, List.set_cons_zero, List.set_cons_succ]
  refine wpAnyL_take (i := 3) (v := ?v20026) rfl (by kernel_rfl) (by kernel_rfl) (by kernel_rfl) (by kernel_rfl) (fun _ _ _ h => h) (Or.inl ⟨by kernel_rfl, ?hy20026⟩) (by assumption) ?r20026
  case hy20026 => (intro W hSW; obtain ⟨s0, s1, s2, s3, s4, s5, s6, s7, s8, s9, s10, s11, s12⟩ := hSW; go_simp; try with_reducible rfl)
  try simp only [Act.put, List.getElem_toArray, List.getElem_cons_zero, List.getElem_cons_succ, List.setIfInBounds_toArray, List.set_cons_zero, List.set_cons_succ]
  refine wpAnyL_take (i := 4) (v := ?v20027) rfl (by kernel_rfl) (by kernel_rfl) (by kernel_rfl) (by kernel_rfl) (fun _ _ _ h => h) (Or.inl ⟨by kernel_rfl, ?hy20027⟩) (by assumption) ?r20027
  case hy20027 => (intro W hSW; obtain ⟨s0, s1, s2, s3, s4, s5, s6, s7, s8, s9, s10, s11, s12⟩ := hSW; go_simp; try with_reducible rfl)
  try simp only [Act.put, List.getElem_toArray, List.getElem_cons_zero, List.getElem_cons_succ, List.setIfInBounds_toArray, List.set_cons_zero, List.set_cons_succ]
  refine wpAnyL_take (i := 5) (v := ?v20028) rfl (by kernel_rfl) (by kernel_rfl) (by kernel_rfl) (by kernel_rfl) (fun _ _ _ h => h) (Or.inl ⟨by kernel_rfl, ?hy20028⟩) (by assumption) ?r20028
  case hy20028 => (intro W hSW; obtain ⟨s0, s1, s2, s3, s4, s5, s6, s7, s8, s9, s10, s11, s12⟩ := hSW; go_simp; try with_reducible rfl)
  try simp only [Act.put, List.getElem_toArray, List.getElem_cons_zero, List.getElem_cons_succ, List.setIfInBounds_toArray, List.set_cons_zero, List.set_cons_succ]
  refine wpAnyL_take (i := 6) (v := ?v20029) rfl (by kernel_rfl) (by kernel_rfl) (by kernel_rfl) (by kernel_rfl) (fun _ _ _ h => h) (Or.inl ⟨by kernel_rfl, ?hy20029⟩) (by assumption) ?r20029
  case hy20029 => (intro W hSW; obtain ⟨s0, s1, s2, s3, s4, s5, s6, s7, s8, s9, s10, s11, s12⟩ := hSW; go_simp; try with_reducible rfl)
  try simp only [Act.put, List.getElem_toArray, List.getElem_cons_zero, List.getElem_cons_succ, List.setIfInBounds_toArray, List.set_cons_zero, List.set_cons_succ]
  refine wpAnyL_take (i := 7) (v := ?v20030) rfl (by kernel_rfl) (by kernel_rfl) (by kernel_rfl) (by kernel_rfl) (fun _ _ _ h => h) (Or.inl ⟨by kernel_rfl, ?hy20030⟩) (by assumption) ?r20030
  case hy20030 => (intro W hSW; obtain ⟨s0, s1, s2, s3, s4, s5, s6, s7, s8, s9, s10, s11, s12⟩ := hSW; go_simp; try with_reducible rfl)
  try simp only [Act.put, List.getElem_toArray, List.getElem_cons_zero, List.getElem_cons_succ, List.setIfInBounds_toArray, List.set_cons_zero, List.set_cons_succ]
  refine wpAnyL_take (i := 8) (v := ?v20031) rfl (by kernel_rfl) (by kernel_rfl) (by kernel_rfl) (by kernel_rfl) (fun _ _ _ h => h) (Or.inl ⟨by kernel_rfl, ?hy20031⟩) (by assumption) ?r20031
  case hy20031 => (intro W hSW; obtain ⟨s0, s1, s2, s3, s4, s5, s6, s7, s8, s9, s10, s11, s12⟩ := hSW; go_simp; try with_reducible rfl)
  try simp only [Act.put, List.getElem_toArray, List.getElem_cons_zero, List.getElem_cons_succ, List.setIfInBounds_toArray, List.set_cons_zero, List.set_cons_succ]
  refine wpAnyL_take (i := 9) (v := ?v20032) rfl (by kernel_rfl) (by kernel_rfl) (by kernel_rfl) (by kernel_rfl) (fun _ _ _ h => h) (Or.inl ⟨by kernel_rfl, ?hy20032⟩) (by assumption) ?r20032
  case hy20032 => (intro W hSW; obtain ⟨s0, s1, s2, s3, s4, s5, s6, s7, s8, s9, s10, s11, s12⟩ := hSW; go_simp; try with_reducible rfl)
  try simp only [Act.put, List.getElem_toArray, List.getElem_cons_zero, List.getElem_cons_succ, List.setIfInBounds_toArray, List.set_cons_zero, List.set_cons_succ]
  refine wpAnyL_take (i := 10) (v := ?v20033) rfl (by kernel_rfl) (by kernel_rfl) (by kernel_rfl) (by kernel_rfl) (fun _ _ _ h => h) (Or.inl ⟨by kernel_rfl, ?hy20033⟩) (by assumption) ?r20033
  case hy20033 => (intro W hSW; obtain ⟨s0, s1, s2, s3, s4, s5, s6, s7, s8, s9, s10, s11, s12⟩ := hSW; go_simp; try with_reducible rfl)
  try simp only [Act.put, List.getElem_toArray, List.getElem_cons_zero, List.getElem_cons_succ, List.setIfInBounds_toArray, List.set_cons_zero, List.set_cons_succ]
  refine wpAnyL_take (i := 11) (v := ?v20034) rfl (by kernel_rfl) (by kernel_rfl) (by kernel_rfl) (by kernel_rfl) (fun _ _ _ h => h) (Or.inl ⟨by kernel_rfl, ?hy20034⟩) (by assumption) ?r20034
  case hy20034 => (intro W hSW; obtain ⟨s0, s1, s2, s3, s4, s5, s6, s7, s8, s9, s10, s11, s12⟩ := hSW; go_simp; try with_reducible rfl)
  try simp only [Act.put, List.getElem_toArray, List.getElem_cons_zero, List.getElem_cons_succ, List.setIfInBounds_toArray, List.set_cons_zero, List.set_cons_succ]
  refine wpAnyL_take (i := 12) (v := ?v20035) rfl (by kernel_rfl) (by kernel_rfl) (by kernel_rfl) (by kernel_rfl) (fun _ _ _ h => h) (Or.inl ⟨by kernel_rfl, ?hy20035⟩) (by assumption) ?r20035
  case hy20035 => (intro W hSW; obtain ⟨s0, s1, s2, s3, s4, s5, s6, s7, s8, s9, s10, s11, s12⟩ := hSW; go_simp; try with_reducible rfl)
  try simp only [Act.put, List.getElem_toArray, List.getElem_cons_zero, List.getElem_cons_succ, List.setIfInBounds_toArray, List.set_cons_zero, List.set_cons_succ]
  refine wpAnyL_take (i := 13) (v := ?v20036) rfl (by kernel_rfl) (by kernel_rfl) (by kernel_rfl) (by kernel_rfl) (fun _ _ _ h => h) (Or.inl ⟨by kernel_rfl, ?hy20036⟩) (by assumption) ?r20036
  case hy20036 => (intro W hSW; obtain ⟨s0, s1, s2, s3, s4, s5, s6, s7, s8, s9, s10, s11, s12⟩ := hSW; go_simp; try with_reducible rfl)
  try simp only [Act.put, List.getElem_toArray, List.getElem_cons_zero, List.getElem_cons_succ, List.setIfInBounds_toArray, List.set_cons_zero, List.set_cons_succ]
  refine wpAnyL_one (i := 14) (by kernel_rfl) rfl (by decide) (fun K hK => ?_)
  go_simp
  refine (HC.out _ hB).mono ?_
  rintro e W2 ⟨rfl, hc1, hh1, hg1⟩
  obtain ⟨hB, hg1⟩ := hB.both hc1 hh1 hg1
  clear hc1 hh1
  have hG := hG.after hg1
  clear hg1
  refine hK.out _ _ (HSS.out _ hG) (fun hH => ?_)
  clear hK K
  try simp only [Act.put, List.getElem_toArray, List.getElem_cons_zero, List.getElem_cons_succ, List.setIfInBounds_toArray, List.set_cons_zero, List.set_cons_succ]
  refine wpAnyL_one (i := 15) (by kernel_rfl) rfl (by decide) (fun K hK => ?_)
  go_simp
  refine (HT.out _ hB).mono ?_
  rintro e W3 ⟨rfl, hF⟩
  have hB := hB.later hF
  have hG := hG.more hF
  clear hF
  refine hK.out _ _ (HSS.out _ hG) (fun hH => ?_)
  clear hK K
  try simp only [Act.put, List.getElem_toArray, List.getElem_cons_zero, List.getElem_cons_succ]
  refine wpAnyL_last (by kernel_rfl) rfl (fun K hK => ?_)
  have hr := (hG.block rb hlt0.2 Hnm.out).trans HR0.out
  refine wp_store_row 44 (.tmp 4) (.tmp 20) rfl rb #[i64 t.err, i64 t.hav, i64 t.set_, i64 t.num] rfl rfl 44 #[i64 0, i64 0, i64 0, i64 0] hr (by kernel_rfl) rfl (by simp [Value.oneCell']) ?_
  refine hK.out _ _ ?_
  clear hK K
  try simp only [Act.put, List.getElem_toArray, List.getElem_cons_zero, List.getElem_cons_succ]
  refine wpAnyL_done (by kernel_rfl) ?_ _
  refine NoPanic.normal ?_
  have hrow := setRow_heap W3 rb _ #[i64 t.err, i64 t.hav, i64 t.set_, i64 t.num] _ _ hr
  have hB9 := hB.row Hna.out #[i64 t.err, i64 t.hav, i64 t.set_, i64 t.num]
  have hG9 := ((Gr.of_below Hb0.out a.maps).after hG).own_row Hrb.out #[i64 t.err, i64 t.hav, i64 t.set_, i64 t.num]
  have HB9 := Lib.hid hB9
  have HG9 := Lib.hid hG9
  clear hB9 hG9 hB hG
  go_wp2
  exact bodyPost_ret (results_cell_row rfl _ _ rb 44 _ (0, 0) _ rfl hrow Tryz.underlying44 rfl (by kernel_rfl)) rfl ⟨rfl, HB9.out, HG9.out.mono (fun _ _ e => BA.maps_own e)⟩
set_option maxRecDepth 100000 in
set_option maxHeartbeats 8000000 in
theorem bshut_c (a : BA) (B : Bk) (x : Od) (w : World) (h : BkA w a B) (_hI : InvB B) (_hx : OdB x) :
    Calls Tryz.prog 139 #[a.ptr, x.v] w fun e w' => e = .returned (shutD B x).1.v ∧ BkA w' a (shutD B x).2 ∧ Gr w w' a.own := by
  unfold shutD
  clear _hI _hx
  by_cases hp : x.period ≤ B.cl
  · have g1 : decide (x.period ≤ B.cl) = true := decide_eq_true hp
    rw [if_pos hp]
    clear hp
    have hb0 : Below w.heap.size w ((w.alloc (.cells #[i64 x.client, i64 x.seq, i64 x.kind, .string x.acct, .string x.peer, i64 x.sum, .slice x.la x.legs.length x.lc, i64 x.period, i64 x.hold, .string x.note] 50)).alloc (.cells #[i64 0, i64 0, i64 0, i64 0] 44)) := ((Below.refl w.heap.size w).alloc (Nat.le_refl _) (.cells #[i64 x.client, i64 x.seq, i64 x.kind, .string x.acct, .string x.peer, i64 x.sum, .slice x.la x.legs.length x.lc, i64 x.period, i64 x.hold, .string x.note] 50)).alloc (by simp) (.cells #[i64 0, i64 0, i64 0, i64 0] 44)
    have ho0 := heap_alloc2_old w (.cells #[i64 x.client, i64 x.seq, i64 x.kind, .string x.acct, .string x.peer, i64 x.sum, .slice x.la x.legs.length x.lc, i64 x.period, i64 x.hold, .string x.note] 50) (.cells #[i64 0, i64 0, i64 0, i64 0] 44)
    have hr0 := heap_alloc2_new w (.cells #[i64 x.client, i64 x.seq, i64 x.kind, .string x.acct, .string x.peer, i64 x.sum, .slice x.la x.legs.length x.lc, i64 x.period, i64 x.hold, .string x.note] 50) (.cells #[i64 0, i64 0, i64 0, i64 0] 44)
    have hlt0 : w.heap.size < ((w.alloc (.cells #[i64 x.client, i64 x.seq, i64 x.kind, .string x.acct, .string x.peer, i64 x.sum, .slice x.la x.legs.length x.lc, i64 x.period, i64 x.hold, .string x.note] 50)).alloc (.cells #[i64 0, i64 0, i64 0, i64 0] 44)).heap.size ∧ w.heap.size + 1 < ((w.alloc (.cells #[i64 x.client, i64 x.seq, i64 x.kind, .string x.acct, .string x.peer, i64 x.sum, .slice x.la x.legs.length x.lc, i64 x.period, i64 x.hold, .string x.note] 50)).alloc (.cells #[i64 0, i64 0, i64 0, i64 0] 44)).heap.size := ⟨by simp; omega, by simp⟩
    have Hlt := Lib.hid h.lt
    have Hap := Lib.hid h.ap
    have H0 := h.later hb0
    unfold Od.v
    go_enter Tryz.func139, Tryz.ntmps139
    go_wp2_with fail
    generalize ((w.alloc (.cells #[i64 x.client, i64 x.seq, i64 x.kind, .string x.acct, .string x.peer, i64 x.sum, .slice x.la x.legs.length x.lc, i64 x.period, i64 x.hold, .string x.note] 50)).alloc (.cells #[i64 0, i64 0, i64 0, i64 0] 44)) = W0 at *
    generalize hrb : w.heap.size + 1 = rb at *
    have Hrb := Lib.hid (show w.heap.size ≤ rb by omega)
    clear hrb
    have Hna := Lib.hid (not_all Hlt.out Hrb.out)
    have Hnm := Lib.hid (not_maps Hlt.out Hrb.out)
    have hp0 := H0.cell
    have HSS := Lib.hid (show ∀ V, Gr W0 V a.maps → (fun V : World => V.cell? ⟨a.p, 0, none⟩ = some (.pointer (some ⟨a.g, 0, none⟩)) ∧ V.cell? ⟨a.p, 1, none⟩ = some (.pointer (some ⟨a.gh, 0, none⟩)) ∧ V.cell? ⟨a.p, 2, none⟩ = some (i64 B.cl) ∧ V.cell? ⟨w.heap.size, 0, none⟩ = some (i64 x.client) ∧ V.cell? ⟨w.heap.size, 1, none⟩ = some (i64 x.seq) ∧ V.cell? ⟨w.heap.size, 2, none⟩ = some (i64 x.kind) ∧ V.cell? ⟨w.heap.size, 3, none⟩ = some (.string x.acct) ∧ V.cell? ⟨w.heap.size, 4, none⟩ = some (.string x.peer) ∧ V.cell? ⟨w.heap.size, 5, none⟩ = some (i64 x.sum) ∧ V.cell? ⟨w.heap.size, 6, none⟩ = some (.slice x.la x.legs.length x.lc) ∧ V.cell? ⟨w.heap.size, 7, none⟩ = some (i64 x.period) ∧ V.cell? ⟨w.heap.size, 8, none⟩ = some (i64 x.hold) ∧ V.cell? ⟨w.heap.size, 9, none⟩ = some (.string x.note)) V from fun V hG => by
      have hp1 := (hG.block a.p (Array.getElem?_eq_some_iff.1 hp0).1 Hap.out.p_maps).trans hp0
      have ho1 := (hG.block w.heap.size hlt0.1 (not_maps Hlt.out (Nat.le_refl _))).trans ho0
      exact ⟨cell_of_row _ a.p 0 _ _ (0, 0) hp1, cell_of_row _ a.p 1 _ _ (0, 0) hp1, cell_of_row _ a.p 2 _ _ (0, 0) hp1, cell_of_row _ w.heap.size 0 _ _ (0, 0) ho1, cell_of_row _ w.heap.size 1 _ _ (0, 0) ho1, cell_of_row _ w.heap.size 2 _ _ (0, 0) ho1, cell_of_row _ w.heap.size 3 _ _ (0, 0) ho1, cell_of_row _ w.heap.size 4 _ _ (0, 0) ho1, cell_of_row _ w.heap.size 5 _ _ (0, 0) ho1, cell_of_row _ w.heap.size 6 _ _ (0, 0) ho1, cell_of_row _ w.heap.size 7 _ _ (0, 0) ho1, cell_of_row _ w.heap.size 8 _ _ (0, 0) ho1, cell_of_row _ w.heap.size 9 _ _ (0, 0) ho1⟩)
    have HR0 := Lib.hid hr0
    have HO0 := Lib.hid ho0
    have HB0 := Lib.hid H0
    have Hb0 := Lib.hid hb0
    have hG0 := Gr.of_below ((Below.refl W0.heap.size W0).drew) a.maps
    clear hp0 ho0 hr0 H0 hb0 h
    refine wp_region_noPanic ?_
    refine wp_region_l 6 (fun V : World => V.cell? ⟨a.p, 0, none⟩ = some (.pointer (some ⟨a.g, 0, none⟩)) ∧ V.cell? ⟨a.p, 1, none⟩ = some (.pointer (some ⟨a.gh, 0, none⟩)) ∧ V.cell? ⟨a.p, 2, none⟩ = some (i64 B.cl) ∧ V.cell? ⟨w.heap.size, 0, none⟩ = some (i64 x.client) ∧ V.cell? ⟨w.heap.size, 1, none⟩ = some (i64 x.seq) ∧ V.cell? ⟨w.heap.size, 2, none⟩ = some (i64 x.kind) ∧ V.cell? ⟨w.heap.size, 3, none⟩ = some (.string x.acct) ∧ V.cell? ⟨w.heap.size, 4, none⟩ = some (.string x.peer) ∧ V.cell? ⟨w.heap.size, 5, none⟩ = some (i64 x.sum) ∧ V.cell? ⟨w.heap.size, 6, none⟩ = some (.slice x.la x.legs.length x.lc) ∧ V.cell? ⟨w.heap.size, 7, none⟩ = some (i64 x.period) ∧ V.cell? ⟨w.heap.size, 8, none⟩ = some (i64 x.hold) ∧ V.cell? ⟨w.heap.size, 9, none⟩ = some (.string x.note)) (by kernel_rfl) (HSS.out _ hG0) (fun hH => ?_)
    refine wpAnyL_take (i := 0) (v := ?v20037) rfl (by kernel_rfl) (by kernel_rfl) (by kernel_rfl) (by kernel_rfl) (fun _ _ _ h => h) (Or.inl ⟨by kernel_rfl, ?hy20037⟩) (by assumption) ?r20037
    case hy20037 => (intro W hSW; obtain ⟨s0, s1, s2, s3, s4, s5, s6, s7, s8, s9, s10, s11, s12⟩ := hSW; go_simp; try with_reducible rfl)
    try simp only [Act.put, List.getElem_toArray, List.getElem_cons_zero, List.setIfInBounds_toArray, List.set_cons_zero, List.set_cons_succ]
    refine wpAnyL_take (i := 1) (v := ?v20038) rfl (by kernel_rfl) (by kernel_rfl) (by kernel_rfl) (by kernel_rfl) (fun _ _ _ h => h) (Or.inl ⟨by kernel_rfl, ?hy20038⟩) (by assumption) ?r20038
    case hy20038 => (intro W hSW; obtain ⟨s0, s1, s2, s3, s4, s5, s6, s7, s8, s9, s10, s11, s12⟩ := hSW; go_simp; try with_reducible rfl)
    try simp only [Act.put, List.getElem_toArray, List.getElem_cons_zero, List.getElem_cons_succ, List.setIfInBounds_toArray, List.set_cons_zero, List.set_cons_succ]
    refine wpAnyL_take (i := 2) (v := ?v20039) rfl (by kernel_rfl) (by kernel_rfl) (by kernel_rfl) (by kernel_rfl) (fun _ _ _ h => h) (Or.inl ⟨by kernel_rfl, ?hy20039⟩) (by assumption) ?r20039
    case hy20039 => (intro W hSW; obtain ⟨s0, s1, s2, s3, s4, s5, s6, s7, s8, s9, s10, s11, s12⟩ := hSW; go_simp; try with_reducible rfl)
    try simp only [Act.put, List.getElem_toArray, List.getElem_cons_zero, List.getElem_cons_succ, List.setIfInBounds_toArray, List.set_cons_zero, List.set_cons_succ]
    refine wpAnyL_take (i := 3) (v := ?v20040) rfl (by kernel_rfl) (by kernel_rfl) (by kernel_rfl) (by kernel_rfl) (fun _ _ _ h => h) (Or.inl ⟨by kernel_rfl, ?hy20040⟩) (by assumption) ?r20040
    case hy20040 => (intro W hSW; obtain ⟨s0, s1, s2, s3, s4, s5, s6, s7, s8, s9, s10, s11, s12⟩ := hSW; go_simp; try with_reducible rfl)
    try simp only [Act.put, List.getElem_toArray, List.getElem_cons_zero, List.getElem_cons_succ, List.setIfInBounds_toArray, List.set_cons_zero, List.set_cons_succ]
    refine wpAnyL_take (i := 4) (v := ?v20041) rfl (by kernel_rfl) (by kernel_rfl) (by kernel_rfl) (by kernel_rfl) (fun _ _ _ h => h) (Or.inl ⟨by kernel_rfl, ?hy20041⟩) (by assumption) ?r20041
    case hy20041 => (intro W hSW; obtain ⟨s0, s1, s2, s3, s4, s5, s6, s7, s8, s9, s10, s11, s12⟩ := hSW; go_simp; try with_reducible rfl)
    try simp only [Act.put, List.getElem_toArray, List.getElem_cons_zero, List.getElem_cons_succ, List.setIfInBounds_toArray, List.set_cons_zero, List.set_cons_succ]
    refine wpAnyL_take (i := 5) (v := ?v20042) rfl (by kernel_rfl) (by kernel_rfl) (by kernel_rfl) (by kernel_rfl) (fun _ _ _ h => h) (Or.inl ⟨by kernel_rfl, ?hy20042⟩) (by assumption) ?r20042
    case hy20042 => (intro W hSW; obtain ⟨s0, s1, s2, s3, s4, s5, s6, s7, s8, s9, s10, s11, s12⟩ := hSW; go_simp; try with_reducible rfl)
    try simp only [Act.put, List.getElem_toArray, List.getElem_cons_zero, List.getElem_cons_succ, List.setIfInBounds_toArray, List.set_cons_zero, List.set_cons_succ]
    refine wpAnyL_last (by kernel_rfl) rfl (fun K hK => ?_)
    go_simp
    refine hK.out _ _ ?_
    clear hK K
    try simp only [Act.put, List.getElem_toArray, List.getElem_cons_zero, List.getElem_cons_succ, List.setIfInBounds_toArray, List.set_cons_zero, List.set_cons_succ]
    refine wpAnyL_done (by kernel_rfl) ?_ _
    refine NoPanic.normal ?_
    have HRow := Lib.hid (setRow_heap W0.drew rb _ #[i64 10, i64 0, i64 0, i64 0] _ _ HR0.out)
    have HB9 := Lib.hid ((HB0.out.later (Below.refl _ _).drew).row Hna.out #[i64 10, i64 0, i64 0, i64 0])
    have HG9 := Lib.hid (((Gr.of_below Hb0.out a.maps).after hG0).own_row Hrb.out #[i64 10, i64 0, i64 0, i64 0])
    have hr := (show W0.drew.heap[rb]? = some (.cells #[i64 0, i64 0, i64 0, i64 0] 44) from HR0.out)
    clear hG0
    go_wp2_with (refine wpList_store_row rfl 44 (.tmp 4) (.tmp 12) rfl rb #[i64 10, i64 0, i64 0, i64 0] rfl rfl 44 #[i64 0, i64 0, i64 0, i64 0] hr (by kernel_rfl) rfl (by simp [Value.oneCell']) ?_)
    have hrow := HRow.out
    exact bodyPost_ret (results_cell_row rfl _ _ rb 44 _ (0, 0) _ rfl hrow Tryz.underlying44 rfl (by kernel_rfl)) rfl ⟨rfl, HB9.out, HG9.out.mono (fun _ _ e => BA.maps_own e)⟩
  · have g1 : decide (x.period ≤ B.cl) = false := decide_eq_false hp
    rw [if_neg hp]
    clear hp
    have hb0 : Below w.heap.size w ((w.alloc (.cells #[i64 x.client, i64 x.seq, i64 x.kind, .string x.acct, .string x.peer, i64 x.sum, .slice x.la x.legs.length x.lc, i64 x.period, i64 x.hold, .string x.note] 50)).alloc (.cells #[i64 0, i64 0, i64 0, i64 0] 44)) := ((Below.refl w.heap.size w).alloc (Nat.le_refl _) (.cells #[i64 x.client, i64 x.seq, i64 x.kind, .string x.acct, .string x.peer, i64 x.sum, .slice x.la x.legs.length x.lc, i64 x.period, i64 x.hold, .string x.note] 50)).alloc (by simp) (.cells #[i64 0, i64 0, i64 0, i64 0] 44)
    have ho0 := heap_alloc2_old w (.cells #[i64 x.client, i64 x.seq, i64 x.kind, .string x.acct, .string x.peer, i64 x.sum, .slice x.la x.legs.length x.lc, i64 x.period, i64 x.hold, .string x.note] 50) (.cells #[i64 0, i64 0, i64 0, i64 0] 44)
    have hr0 := heap_alloc2_new w (.cells #[i64 x.client, i64 x.seq, i64 x.kind, .string x.acct, .string x.peer, i64 x.sum, .slice x.la x.legs.length x.lc, i64 x.period, i64 x.hold, .string x.note] 50) (.cells #[i64 0, i64 0, i64 0, i64 0] 44)
    have hlt0 : w.heap.size < ((w.alloc (.cells #[i64 x.client, i64 x.seq, i64 x.kind, .string x.acct, .string x.peer, i64 x.sum, .slice x.la x.legs.length x.lc, i64 x.period, i64 x.hold, .string x.note] 50)).alloc (.cells #[i64 0, i64 0, i64 0, i64 0] 44)).heap.size ∧ w.heap.size + 1 < ((w.alloc (.cells #[i64 x.client, i64 x.seq, i64 x.kind, .string x.acct, .string x.peer, i64 x.sum, .slice x.la x.legs.length x.lc, i64 x.period, i64 x.hold, .string x.note] 50)).alloc (.cells #[i64 0, i64 0, i64 0, i64 0] 44)).heap.size := ⟨by simp; omega, by simp⟩
    have Hlt := Lib.hid h.lt
    have Hap := Lib.hid h.ap
    have H0 := h.later hb0
    unfold Od.v
    go_enter Tryz.func139, Tryz.ntmps139
    go_wp2_with fail
    generalize ((w.alloc (.cells #[i64 x.client, i64 x.seq, i64 x.kind, .string x.acct, .string x.peer, i64 x.sum, .slice x.la x.legs.length x.lc, i64 x.period, i64 x.hold, .string x.note] 50)).alloc (.cells #[i64 0, i64 0, i64 0, i64 0] 44)) = W0 at *
    generalize hrb : w.heap.size + 1 = rb at *
    have Hrb := Lib.hid (show w.heap.size ≤ rb by omega)
    clear hrb
    have Hna := Lib.hid (not_all Hlt.out Hrb.out)
    have Hnm := Lib.hid (not_maps Hlt.out Hrb.out)
    have hp0 := H0.cell
    have HSS := Lib.hid (show ∀ V, Gr W0 V a.maps → (fun V : World => V.cell? ⟨a.p, 0, none⟩ = some (.pointer (some ⟨a.g, 0, none⟩)) ∧ V.cell? ⟨a.p, 1, none⟩ = some (.pointer (some ⟨a.gh, 0, none⟩)) ∧ V.cell? ⟨a.p, 2, none⟩ = some (i64 B.cl) ∧ V.cell? ⟨w.heap.size, 0, none⟩ = some (i64 x.client) ∧ V.cell? ⟨w.heap.size, 1, none⟩ = some (i64 x.seq) ∧ V.cell? ⟨w.heap.size, 2, none⟩ = some (i64 x.kind) ∧ V.cell? ⟨w.heap.size, 3, none⟩ = some (.string x.acct) ∧ V.cell? ⟨w.heap.size, 4, none⟩ = some (.string x.peer) ∧ V.cell? ⟨w.heap.size, 5, none⟩ = some (i64 x.sum) ∧ V.cell? ⟨w.heap.size, 6, none⟩ = some (.slice x.la x.legs.length x.lc) ∧ V.cell? ⟨w.heap.size, 7, none⟩ = some (i64 x.period) ∧ V.cell? ⟨w.heap.size, 8, none⟩ = some (i64 x.hold) ∧ V.cell? ⟨w.heap.size, 9, none⟩ = some (.string x.note)) V from fun V hG => by
      have hp1 := (hG.block a.p (Array.getElem?_eq_some_iff.1 hp0).1 Hap.out.p_maps).trans hp0
      have ho1 := (hG.block w.heap.size hlt0.1 (not_maps Hlt.out (Nat.le_refl _))).trans ho0
      exact ⟨cell_of_row _ a.p 0 _ _ (0, 0) hp1, cell_of_row _ a.p 1 _ _ (0, 0) hp1, cell_of_row _ a.p 2 _ _ (0, 0) hp1, cell_of_row _ w.heap.size 0 _ _ (0, 0) ho1, cell_of_row _ w.heap.size 1 _ _ (0, 0) ho1, cell_of_row _ w.heap.size 2 _ _ (0, 0) ho1, cell_of_row _ w.heap.size 3 _ _ (0, 0) ho1, cell_of_row _ w.heap.size 4 _ _ (0, 0) ho1, cell_of_row _ w.heap.size 5 _ _ (0, 0) ho1, cell_of_row _ w.heap.size 6 _ _ (0, 0) ho1, cell_of_row _ w.heap.size 7 _ _ (0, 0) ho1, cell_of_row _ w.heap.size 8 _ _ (0, 0) ho1, cell_of_row _ w.heap.size 9 _ _ (0, 0) ho1⟩)
    have HR0 := Lib.hid hr0
    have HO0 := Lib.hid ho0
    have HB0 := Lib.hid H0
    have Hb0 := Lib.hid hb0
    have hG0 := Gr.of_below ((Below.refl W0.heap.size W0).drew) a.maps
    clear hp0 ho0 hr0 H0 hb0 h
    refine wp_region_noPanic ?_
    refine wp_region_l 6 (fun V : World => V.cell? ⟨a.p, 0, none⟩ = some (.pointer (some ⟨a.g, 0, none⟩)) ∧ V.cell? ⟨a.p, 1, none⟩ = some (.pointer (some ⟨a.gh, 0, none⟩)) ∧ V.cell? ⟨a.p, 2, none⟩ = some (i64 B.cl) ∧ V.cell? ⟨w.heap.size, 0, none⟩ = some (i64 x.client) ∧ V.cell? ⟨w.heap.size, 1, none⟩ = some (i64 x.seq) ∧ V.cell? ⟨w.heap.size, 2, none⟩ = some (i64 x.kind) ∧ V.cell? ⟨w.heap.size, 3, none⟩ = some (.string x.acct) ∧ V.cell? ⟨w.heap.size, 4, none⟩ = some (.string x.peer) ∧ V.cell? ⟨w.heap.size, 5, none⟩ = some (i64 x.sum) ∧ V.cell? ⟨w.heap.size, 6, none⟩ = some (.slice x.la x.legs.length x.lc) ∧ V.cell? ⟨w.heap.size, 7, none⟩ = some (i64 x.period) ∧ V.cell? ⟨w.heap.size, 8, none⟩ = some (i64 x.hold) ∧ V.cell? ⟨w.heap.size, 9, none⟩ = some (.string x.note)) (by kernel_rfl) (HSS.out _ hG0) (fun hH => ?_)
    refine wpAnyL_take (i := 0) (v := ?v20043) rfl (by kernel_rfl) (by kernel_rfl) (by kernel_rfl) (by kernel_rfl) (fun _ _ _ h => h) (Or.inl ⟨by kernel_rfl, ?hy20043⟩) (by assumption) ?r20043
    case hy20043 => (intro W hSW; obtain ⟨s0, s1, s2, s3, s4, s5, s6, s7, s8, s9, s10, s11, s12⟩ := hSW; go_simp; try with_reducible rfl)
    try simp only [Act.put, List.getElem_toArray, List.getElem_cons_zero, List.setIfInBounds_toArray, List.set_cons_zero, List.set_cons_succ]
    refine wpAnyL_take (i := 1) (v := ?v20044) rfl (by kernel_rfl) (by kernel_rfl) (by kernel_rfl) (by kernel_rfl) (fun _ _ _ h => h) (Or.inl ⟨by kernel_rfl, ?hy20044⟩) (by assumption) ?r20044
    case hy20044 => (intro W hSW; obtain ⟨s0, s1, s2, s3, s4, s5, s6, s7, s8, s9, s10, s11, s12⟩ := hSW; go_simp; try with_reducible rfl)
    try simp only [Act.put, List.getElem_toArray, List.getElem_cons_zero, List.getElem_cons_succ, List.setIfInBounds_toArray, List.set_cons_zero, List.set_cons_succ]
    refine wpAnyL_take (i := 2) (v := ?v20045) rfl (by kernel_rfl) (by kernel_rfl) (by kernel_rfl) (by kernel_rfl) (fun _ _ _ h => h) (Or.inl ⟨by kernel_rfl, ?hy20045⟩) (by assumption) ?r20045
    case hy20045 => (intro W hSW; obtain ⟨s0, s1, s2, s3, s4, s5, s6, s7, s8, s9, s10, s11, s12⟩ := hSW; go_simp; try with_reducible rfl)
    try simp only [Act.put, List.getElem_toArray, List.getElem_cons_zero, List.getElem_cons_succ, List.setIfInBounds_toArray, List.set_cons_zero, List.set_cons_succ]
    refine wpAnyL_take (i := 3) (v := ?v20046) rfl (by kernel_rfl) (by kernel_rfl) (by kernel_rfl) (by kernel_rfl) (fun _ _ _ h => h) (Or.inl ⟨by kernel_rfl, ?hy20046⟩) (by assumption) ?r20046
    case hy20046 => (intro W hSW; obtain ⟨s0, s1, s2, s3, s4, s5, s6, s7, s8, s9, s10, s11, s12⟩ := hSW; go_simp; try with_reducible rfl)
    try simp only [Act.put, List.getElem_toArray, List.getElem_cons_zero, List.getElem_cons_succ, List.setIfInBounds_toArray, List.set_cons_zero, List.set_cons_succ]
    refine wpAnyL_take (i := 4) (v := ?v20047) rfl (by kernel_rfl) (by kernel_rfl) (by kernel_rfl) (by kernel_rfl) (fun _ _ _ h => h) (Or.inl ⟨by kernel_rfl, ?hy20047⟩) (by assumption) ?r20047
    case hy20047 => (intro W hSW; obtain ⟨s0, s1, s2, s3, s4, s5, s6, s7, s8, s9, s10, s11, s12⟩ := hSW; go_simp; try with_reducible rfl)
    try simp only [Act.put, List.getElem_toArray, List.getElem_cons_zero, List.getElem_cons_succ, List.setIfInBounds_toArray, List.set_cons_zero, List.set_cons_succ]
    refine wpAnyL_take (i := 5) (v := ?v20048) rfl (by kernel_rfl) (by kernel_rfl) (by kernel_rfl) (by kernel_rfl) (fun _ _ _ h => h) (Or.inl ⟨by kernel_rfl, ?hy20048⟩) (by assumption) ?r20048
    case hy20048 => (intro W hSW; obtain ⟨s0, s1, s2, s3, s4, s5, s6, s7, s8, s9, s10, s11, s12⟩ := hSW; go_simp; try with_reducible rfl)
    try simp only [Act.put, List.getElem_toArray, List.getElem_cons_zero, List.getElem_cons_succ, List.setIfInBounds_toArray, List.set_cons_zero, List.set_cons_succ]
    refine wpAnyL_last (by kernel_rfl) rfl (fun K hK => ?_)
    go_simp
    refine hK.out _ _ ?_
    clear hK K
    try simp only [Act.put, List.getElem_toArray, List.getElem_cons_zero, List.getElem_cons_succ, List.setIfInBounds_toArray, List.set_cons_zero, List.set_cons_succ]
    refine wpAnyL_done (by kernel_rfl) ?_ _
    refine NoPanic.normal ?_
    have hB := HB0.out.later (Below.refl _ _).drew
    have hr := (show W0.drew.heap[rb]? = some (.cells #[i64 0, i64 0, i64 0, i64 0] 44) from HR0.out)
    have ho := (show W0.drew.heap[w.heap.size]? = some (.cells #[i64 x.client, i64 x.seq, i64 x.kind, .string x.acct, .string x.peer, i64 x.sum, .slice x.la x.legs.length x.lc, i64 x.period, i64 x.hold, .string x.note] 50) from HO0.out)
    have hGd := ((Gr.of_below Hb0.out a.own).after ((hG0.mono (fun _ _ e => BA.maps_own e))))
    have hlt1 : w.heap.size < W0.drew.heap.size ∧ rb < W0.drew.heap.size := hlt0
    clear hG0 hH
    generalize W0.drew = W1 at *
    have hpc := hB.cell
    have p2 := cell_of_row _ a.p 2 _ _ (0, 0) hpc
    simp only [List.getElem?_toArray, List.getElem?_cons_zero, List.getElem?_cons_succ] at p2
    have pf := frozen_of_row _ a.p 2 _ _ hpc
    obtain ⟨hB2, hG2⟩ := hB.shut x.period
    have hr2 := (hG2.block rb hlt1.2 (Hna.out _ (.inl rfl)).symm).trans hr
    have o7 := cell_of_row W1 w.heap.size 7 _ _ (0, 0) ho
    simp only [List.getElem?_toArray, List.getElem?_cons_zero, List.getElem?_cons_succ] at o7
    have hpo : a.p ≠ w.heap.size := not_all Hlt.out (Nat.le_refl _) _ (.inl rfl)
    have o7b : (W1.setCell ⟨a.p, 2, none⟩ (i64 x.period)).cell? ⟨w.heap.size, 7, none⟩ = some (i64 x.period) := (World.cell?_of_block (a := ⟨w.heap.size, 7, none⟩) (hG2.block w.heap.size hlt1.1 hpo.symm)).trans o7
    have HRow := Lib.hid (setRow_heap _ rb _ #[i64 0, i64 0, i64 0, i64 x.period] _ _ hr2)
    have HB9 := Lib.hid (hB2.row Hna.out #[i64 0, i64 0, i64 0, i64 x.period])
    have HG9 := Lib.hid ((hGd.after (hG2.mono (fun k _ e => (show a.own k from .inl e)))).own_row Hrb.out #[i64 0, i64 0, i64 0, i64 x.period])
    clear hB2 hG2 hpc hGd hB hr ho
    go_wp2_with (refine wpList_store_row rfl 44 (.tmp 4) (.tmp 20) rfl rb #[i64 0, i64 0, i64 0, i64 x.period] rfl rfl 44 #[i64 0, i64 0, i64 0, i64 0] hr2 (by kernel_rfl) rfl (by simp [Value.oneCell']) ?_)
    have hrow := HRow.out
    exact bodyPost_ret (results_cell_row rfl _ _ rb 44 _ (0, 0) _ rfl hrow Tryz.underlying44 rfl (by kernel_rfl)) rfl ⟨rfl, HB9.out, HG9.out⟩
set_option maxRecDepth 100000 in
set_option maxHeartbeats 8000000 in
theorem bcap_c (a : BA) (B : Bk) (x : Od) (w : World) (h : BkA w a B) (hI : InvB B) (hx : OdB x) :
    Calls Tryz.prog 137 #[a.ptr, x.v] w fun e w' => e = .returned (capD B x).1.v ∧ BkA w' a (capD B x).2 ∧ Gr w w' a.own := by
  unfold capD
  have HC := Lib.hid (fun (W : World) (hW : BkA W a B) => hotake_c a.g a.b a.gh a.bh B.L B.H x.acct x.hold x.peer x.sum W hW.ch hW.ho ⟨hW.ap.ghb, hW.ap.bhb, hW.ap.gbh⟩ hI.inv.okA hI.inv.okH hx.rng.2.2.2.1 hx.acct hx.peer)
  have HT := Lib.hid (fun (W : World) (hW : BkA W a ⟨(takeH B.L B.H x.acct x.hold x.peer x.sum).2.1, (takeH B.L B.H x.acct x.hold x.peer x.sum).2.2, B.cl⟩) => btells_c a _ x (takeH B.L B.H x.acct x.hold x.peer x.sum).1 W hW)
  clear hI hx
  dsimp only at *
  generalize takeH B.L B.H x.acct x.hold x.peer x.sum = R at *
  obtain ⟨er, L2, H2⟩ := R
  dsimp only at *
  generalize tellsL L2 x.acct er = t at *
  by_cases hp : x.period ≤ B.cl
  · have g1 : decide (x.period ≤ B.cl) = true := decide_eq_true hp
    rw [if_pos hp]
    clear hp
    have hb0 : Below w.heap.size w ((w.alloc (.cells #[i64 x.client, i64 x.seq, i64 x.kind, .string x.acct, .string x.peer, i64 x.sum, .slice x.la x.legs.length x.lc, i64 x.period, i64 x.hold, .string x.note] 50)).alloc (.cells #[i64 0, i64 0, i64 0, i64 0] 44)) := ((Below.refl w.heap.size w).alloc (Nat.le_refl _) (.cells #[i64 x.client, i64 x.seq, i64 x.kind, .string x.acct, .string x.peer, i64 x.sum, .slice x.la x.legs.length x.lc, i64 x.period, i64 x.hold, .string x.note] 50)).alloc (by simp) (.cells #[i64 0, i64 0, i64 0, i64 0] 44)
    have ho0 := heap_alloc2_old w (.cells #[i64 x.client, i64 x.seq, i64 x.kind, .string x.acct, .string x.peer, i64 x.sum, .slice x.la x.legs.length x.lc, i64 x.period, i64 x.hold, .string x.note] 50) (.cells #[i64 0, i64 0, i64 0, i64 0] 44)
    have hr0 := heap_alloc2_new w (.cells #[i64 x.client, i64 x.seq, i64 x.kind, .string x.acct, .string x.peer, i64 x.sum, .slice x.la x.legs.length x.lc, i64 x.period, i64 x.hold, .string x.note] 50) (.cells #[i64 0, i64 0, i64 0, i64 0] 44)
    have hlt0 : w.heap.size < ((w.alloc (.cells #[i64 x.client, i64 x.seq, i64 x.kind, .string x.acct, .string x.peer, i64 x.sum, .slice x.la x.legs.length x.lc, i64 x.period, i64 x.hold, .string x.note] 50)).alloc (.cells #[i64 0, i64 0, i64 0, i64 0] 44)).heap.size ∧ w.heap.size + 1 < ((w.alloc (.cells #[i64 x.client, i64 x.seq, i64 x.kind, .string x.acct, .string x.peer, i64 x.sum, .slice x.la x.legs.length x.lc, i64 x.period, i64 x.hold, .string x.note] 50)).alloc (.cells #[i64 0, i64 0, i64 0, i64 0] 44)).heap.size := ⟨by simp; omega, by simp⟩
    have Hlt := Lib.hid h.lt
    have Hap := Lib.hid h.ap
    have H0 := h.later hb0
    unfold Od.v
    go_enter Tryz.func137, Tryz.ntmps137
    go_wp2_with fail
    generalize ((w.alloc (.cells #[i64 x.client, i64 x.seq, i64 x.kind, .string x.acct, .string x.peer, i64 x.sum, .slice x.la x.legs.length x.lc, i64 x.period, i64 x.hold, .string x.note] 50)).alloc (.cells #[i64 0, i64 0, i64 0, i64 0] 44)) = W0 at *
    generalize hrb : w.heap.size + 1 = rb at *
    have Hrb := Lib.hid (show w.heap.size ≤ rb by omega)
    clear hrb
    have Hna := Lib.hid (not_all Hlt.out Hrb.out)
    have Hnm := Lib.hid (not_maps Hlt.out Hrb.out)
    have hp0 := H0.cell
    have HSS := Lib.hid (show ∀ V, Gr W0 V a.maps → (fun V : World => V.cell? ⟨a.p, 0, none⟩ = some (.pointer (some ⟨a.g, 0, none⟩)) ∧ V.cell? ⟨a.p, 1, none⟩ = some (.pointer (some ⟨a.gh, 0, none⟩)) ∧ V.cell? ⟨a.p, 2, none⟩ = some (i64 B.cl) ∧ V.cell? ⟨w.heap.size, 0, none⟩ = some (i64 x.client) ∧ V.cell? ⟨w.heap.size, 1, none⟩ = some (i64 x.seq) ∧ V.cell? ⟨w.heap.size, 2, none⟩ = some (i64 x.kind) ∧ V.cell? ⟨w.heap.size, 3, none⟩ = some (.string x.acct) ∧ V.cell? ⟨w.heap.size, 4, none⟩ = some (.string x.peer) ∧ V.cell? ⟨w.heap.size, 5, none⟩ = some (i64 x.sum) ∧ V.cell? ⟨w.heap.size, 6, none⟩ = some (.slice x.la x.legs.length x.lc) ∧ V.cell? ⟨w.heap.size, 7, none⟩ = some (i64 x.period) ∧ V.cell? ⟨w.heap.size, 8, none⟩ = some (i64 x.hold) ∧ V.cell? ⟨w.heap.size, 9, none⟩ = some (.string x.note)) V from fun V hG => by
      have hp1 := (hG.block a.p (Array.getElem?_eq_some_iff.1 hp0).1 Hap.out.p_maps).trans hp0
      have ho1 := (hG.block w.heap.size hlt0.1 (not_maps Hlt.out (Nat.le_refl _))).trans ho0
      exact ⟨cell_of_row _ a.p 0 _ _ (0, 0) hp1, cell_of_row _ a.p 1 _ _ (0, 0) hp1, cell_of_row _ a.p 2 _ _ (0, 0) hp1, cell_of_row _ w.heap.size 0 _ _ (0, 0) ho1, cell_of_row _ w.heap.size 1 _ _ (0, 0) ho1, cell_of_row _ w.heap.size 2 _ _ (0, 0) ho1, cell_of_row _ w.heap.size 3 _ _ (0, 0) ho1, cell_of_row _ w.heap.size 4 _ _ (0, 0) ho1, cell_of_row _ w.heap.size 5 _ _ (0, 0) ho1, cell_of_row _ w.heap.size 6 _ _ (0, 0) ho1, cell_of_row _ w.heap.size 7 _ _ (0, 0) ho1, cell_of_row _ w.heap.size 8 _ _ (0, 0) ho1, cell_of_row _ w.heap.size 9 _ _ (0, 0) ho1⟩)
    have HR0 := Lib.hid hr0
    have HO0 := Lib.hid ho0
    have HB0 := Lib.hid H0
    have Hb0 := Lib.hid hb0
    have hG0 := Gr.of_below ((Below.refl W0.heap.size W0).drew) a.maps
    clear hp0 ho0 hr0 H0 hb0 h
    refine wp_region_noPanic ?_
    refine wp_region_l 6 (fun V : World => V.cell? ⟨a.p, 0, none⟩ = some (.pointer (some ⟨a.g, 0, none⟩)) ∧ V.cell? ⟨a.p, 1, none⟩ = some (.pointer (some ⟨a.gh, 0, none⟩)) ∧ V.cell? ⟨a.p, 2, none⟩ = some (i64 B.cl) ∧ V.cell? ⟨w.heap.size, 0, none⟩ = some (i64 x.client) ∧ V.cell? ⟨w.heap.size, 1, none⟩ = some (i64 x.seq) ∧ V.cell? ⟨w.heap.size, 2, none⟩ = some (i64 x.kind) ∧ V.cell? ⟨w.heap.size, 3, none⟩ = some (.string x.acct) ∧ V.cell? ⟨w.heap.size, 4, none⟩ = some (.string x.peer) ∧ V.cell? ⟨w.heap.size, 5, none⟩ = some (i64 x.sum) ∧ V.cell? ⟨w.heap.size, 6, none⟩ = some (.slice x.la x.legs.length x.lc) ∧ V.cell? ⟨w.heap.size, 7, none⟩ = some (i64 x.period) ∧ V.cell? ⟨w.heap.size, 8, none⟩ = some (i64 x.hold) ∧ V.cell? ⟨w.heap.size, 9, none⟩ = some (.string x.note)) (by kernel_rfl) (HSS.out _ hG0) (fun hH => ?_)
    refine wpAnyL_take (i := 0) (v := ?v20049) rfl (by kernel_rfl) (by kernel_rfl) (by kernel_rfl) (by kernel_rfl) (fun _ _ _ h => h) (Or.inl ⟨by kernel_rfl, ?hy20049⟩) (by assumption) ?r20049
    case hy20049 => (intro W hSW; obtain ⟨s0, s1, s2, s3, s4, s5, s6, s7, s8, s9, s10, s11, s12⟩ := hSW; go_simp; try with_reducible rfl)
    try simp only [Act.put, List.getElem_toArray, List.getElem_cons_zero, List.setIfInBounds_toArray, List.set_cons_zero, List.set_cons_succ]
    refine wpAnyL_take (i := 1) (v := ?v20050) rfl (by kernel_rfl) (by kernel_rfl) (by kernel_rfl) (by kernel_rfl) (fun _ _ _ h => h) (Or.inl ⟨by kernel_rfl, ?hy20050⟩) (by assumption) ?r20050
    case hy20050 => (intro W hSW; obtain ⟨s0, s1, s2, s3, s4, s5, s6, s7, s8, s9, s10, s11, s12⟩ := hSW; go_simp; try with_reducible rfl)
    try simp only [Act.put, List.getElem_toArray, List.getElem_cons_zero, List.getElem_cons_succ, List.setIfInBounds_toArray, List.set_cons_zero, List.set_cons_succ]
    refine wpAnyL_take (i := 2) (v := ?v20051) rfl (by kernel_rfl) (by kernel_rfl) (by kernel_rfl) (by kernel_rfl) (fun _ _ _ h => h) (Or.inl ⟨by kernel_rfl, ?hy20051⟩) (by assumption) ?r20051
    case hy20051 => (intro W hSW; obtain ⟨s0, s1, s2, s3, s4, s5, s6, s7, s8, s9, s10, s11, s12⟩ := hSW; go_simp; try with_reducible rfl)
    try simp only [Act.put, List.getElem_toArray, List.getElem_cons_zero, List.getElem_cons_succ, List.setIfInBounds_toArray, List.set_cons_zero, List.set_cons_succ]
    refine wpAnyL_take (i := 3) (v := ?v20052) rfl (by kernel_rfl) (by kernel_rfl) (by kernel_rfl) (by kernel_rfl) (fun _ _ _ h => h) (Or.inl ⟨by kernel_rfl, ?hy20052⟩) (by assumption) ?r20052
    case hy20052 => (intro W hSW; obtain ⟨s0, s1, s2, s3, s4, s5, s6, s7, s8, s9, s10, s11, s12⟩ := hSW; go_simp; try with_reducible rfl)
    try simp only [Act.put, List.getElem_toArray, List.getElem_cons_zero, List.getElem_cons_succ, List.setIfInBounds_toArray, List.set_cons_zero, List.set_cons_succ]
    refine wpAnyL_take (i := 4) (v := ?v20053) rfl (by kernel_rfl) (by kernel_rfl) (by kernel_rfl) (by kernel_rfl) (fun _ _ _ h => h) (Or.inl ⟨by kernel_rfl, ?hy20053⟩) (by assumption) ?r20053
    case hy20053 => (intro W hSW; obtain ⟨s0, s1, s2, s3, s4, s5, s6, s7, s8, s9, s10, s11, s12⟩ := hSW; go_simp; try with_reducible rfl)
    try simp only [Act.put, List.getElem_toArray, List.getElem_cons_zero, List.getElem_cons_succ, List.setIfInBounds_toArray, List.set_cons_zero, List.set_cons_succ]
    refine wpAnyL_take (i := 5) (v := ?v20054) rfl (by kernel_rfl) (by kernel_rfl) (by kernel_rfl) (by kernel_rfl) (fun _ _ _ h => h) (Or.inl ⟨by kernel_rfl, ?hy20054⟩) (by assumption) ?r20054
    case hy20054 => (intro W hSW; obtain ⟨s0, s1, s2, s3, s4, s5, s6, s7, s8, s9, s10, s11, s12⟩ := hSW; go_simp; try with_reducible rfl)
    try simp only [Act.put, List.getElem_toArray, List.getElem_cons_zero, List.getElem_cons_succ, List.setIfInBounds_toArray, List.set_cons_zero, List.set_cons_succ]
    refine wpAnyL_last (by kernel_rfl) rfl (fun K hK => ?_)
    go_simp
    refine hK.out _ _ ?_
    clear hK K
    try simp only [Act.put, List.getElem_toArray, List.getElem_cons_zero, List.getElem_cons_succ, List.setIfInBounds_toArray, List.set_cons_zero, List.set_cons_succ]
    refine wpAnyL_done (by kernel_rfl) ?_ _
    refine NoPanic.normal ?_
    have HRow := Lib.hid (setRow_heap W0.drew rb _ #[i64 10, i64 0, i64 0, i64 0] _ _ HR0.out)
    have HB9 := Lib.hid ((HB0.out.later (Below.refl _ _).drew).row Hna.out #[i64 10, i64 0, i64 0, i64 0])
    have HG9 := Lib.hid (((Gr.of_below Hb0.out a.maps).after hG0).own_row Hrb.out #[i64 10, i64 0, i64 0, i64 0])
    have hr := (show W0.drew.heap[rb]? = some (.cells #[i64 0, i64 0, i64 0, i64 0] 44) from HR0.out)
    clear hG0
    go_wp2_with (refine wpList_store_row rfl 44 (.tmp 4) (.tmp 12) rfl rb #[i64 10, i64 0, i64 0, i64 0] rfl rfl 44 #[i64 0, i64 0, i64 0, i64 0] hr (by kernel_rfl) rfl (by simp [Value.oneCell']) ?_)
    have hrow := HRow.out
    exact bodyPost_ret (results_cell_row rfl _ _ rb 44 _ (0, 0) _ rfl hrow Tryz.underlying44 rfl (by kernel_rfl)) rfl ⟨rfl, HB9.out, HG9.out.mono (fun _ _ e => BA.maps_own e)⟩
  · have g1 : decide (x.period ≤ B.cl) = false := decide_eq_false hp
    rw [if_neg hp]
    clear hp
    have hb0 : Below w.heap.size w ((w.alloc (.cells #[i64 x.client, i64 x.seq, i64 x.kind, .string x.acct, .string x.peer, i64 x.sum, .slice x.la x.legs.length x.lc, i64 x.period, i64 x.hold, .string x.note] 50)).alloc (.cells #[i64 0, i64 0, i64 0, i64 0] 44)) := ((Below.refl w.heap.size w).alloc (Nat.le_refl _) (.cells #[i64 x.client, i64 x.seq, i64 x.kind, .string x.acct, .string x.peer, i64 x.sum, .slice x.la x.legs.length x.lc, i64 x.period, i64 x.hold, .string x.note] 50)).alloc (by simp) (.cells #[i64 0, i64 0, i64 0, i64 0] 44)
    have ho0 := heap_alloc2_old w (.cells #[i64 x.client, i64 x.seq, i64 x.kind, .string x.acct, .string x.peer, i64 x.sum, .slice x.la x.legs.length x.lc, i64 x.period, i64 x.hold, .string x.note] 50) (.cells #[i64 0, i64 0, i64 0, i64 0] 44)
    have hr0 := heap_alloc2_new w (.cells #[i64 x.client, i64 x.seq, i64 x.kind, .string x.acct, .string x.peer, i64 x.sum, .slice x.la x.legs.length x.lc, i64 x.period, i64 x.hold, .string x.note] 50) (.cells #[i64 0, i64 0, i64 0, i64 0] 44)
    have hlt0 : w.heap.size < ((w.alloc (.cells #[i64 x.client, i64 x.seq, i64 x.kind, .string x.acct, .string x.peer, i64 x.sum, .slice x.la x.legs.length x.lc, i64 x.period, i64 x.hold, .string x.note] 50)).alloc (.cells #[i64 0, i64 0, i64 0, i64 0] 44)).heap.size ∧ w.heap.size + 1 < ((w.alloc (.cells #[i64 x.client, i64 x.seq, i64 x.kind, .string x.acct, .string x.peer, i64 x.sum, .slice x.la x.legs.length x.lc, i64 x.period, i64 x.hold, .string x.note] 50)).alloc (.cells #[i64 0, i64 0, i64 0, i64 0] 44)).heap.size := ⟨by simp; omega, by simp⟩
    have Hlt := Lib.hid h.lt
    have Hap := Lib.hid h.ap
    have H0 := h.later hb0
    unfold Od.v
    go_enter Tryz.func137, Tryz.ntmps137
    go_wp2_with fail
    generalize ((w.alloc (.cells #[i64 x.client, i64 x.seq, i64 x.kind, .string x.acct, .string x.peer, i64 x.sum, .slice x.la x.legs.length x.lc, i64 x.period, i64 x.hold, .string x.note] 50)).alloc (.cells #[i64 0, i64 0, i64 0, i64 0] 44)) = W0 at *
    generalize hrb : w.heap.size + 1 = rb at *
    have Hrb := Lib.hid (show w.heap.size ≤ rb by omega)
    clear hrb
    have Hna := Lib.hid (not_all Hlt.out Hrb.out)
    have Hnm := Lib.hid (not_maps Hlt.out Hrb.out)
    have hp0 := H0.cell
    have HSS := Lib.hid (show ∀ V, Gr W0 V a.maps → (fun V : World => V.cell? ⟨a.p, 0, none⟩ = some (.pointer (some ⟨a.g, 0, none⟩)) ∧ V.cell? ⟨a.p, 1, none⟩ = some (.pointer (some ⟨a.gh, 0, none⟩)) ∧ V.cell? ⟨a.p, 2, none⟩ = some (i64 B.cl) ∧ V.cell? ⟨w.heap.size, 0, none⟩ = some (i64 x.client) ∧ V.cell? ⟨w.heap.size, 1, none⟩ = some (i64 x.seq) ∧ V.cell? ⟨w.heap.size, 2, none⟩ = some (i64 x.kind) ∧ V.cell? ⟨w.heap.size, 3, none⟩ = some (.string x.acct) ∧ V.cell? ⟨w.heap.size, 4, none⟩ = some (.string x.peer) ∧ V.cell? ⟨w.heap.size, 5, none⟩ = some (i64 x.sum) ∧ V.cell? ⟨w.heap.size, 6, none⟩ = some (.slice x.la x.legs.length x.lc) ∧ V.cell? ⟨w.heap.size, 7, none⟩ = some (i64 x.period) ∧ V.cell? ⟨w.heap.size, 8, none⟩ = some (i64 x.hold) ∧ V.cell? ⟨w.heap.size, 9, none⟩ = some (.string x.note)) V from fun V hG => by
      have hp1 := (hG.block a.p (Array.getElem?_eq_some_iff.1 hp0).1 Hap.out.p_maps).trans hp0
      have ho1 := (hG.block w.heap.size hlt0.1 (not_maps Hlt.out (Nat.le_refl _))).trans ho0
      exact ⟨cell_of_row _ a.p 0 _ _ (0, 0) hp1, cell_of_row _ a.p 1 _ _ (0, 0) hp1, cell_of_row _ a.p 2 _ _ (0, 0) hp1, cell_of_row _ w.heap.size 0 _ _ (0, 0) ho1, cell_of_row _ w.heap.size 1 _ _ (0, 0) ho1, cell_of_row _ w.heap.size 2 _ _ (0, 0) ho1, cell_of_row _ w.heap.size 3 _ _ (0, 0) ho1, cell_of_row _ w.heap.size 4 _ _ (0, 0) ho1, cell_of_row _ w.heap.size 5 _ _ (0, 0) ho1, cell_of_row _ w.heap.size 6 _ _ (0, 0) ho1, cell_of_row _ w.heap.size 7 _ _ (0, 0) ho1, cell_of_row _ w.heap.size 8 _ _ (0, 0) ho1, cell_of_row _ w.heap.size 9 _ _ (0, 0) ho1⟩)
    have HR0 := Lib.hid hr0
    have HO0 := Lib.hid ho0
    have HB0 := Lib.hid H0
    have Hb0 := Lib.hid hb0
    have hG0 := Gr.of_below ((Below.refl W0.heap.size W0).drew) a.maps
    clear hp0 ho0 hr0 H0 hb0 h
    refine wp_region_noPanic ?_
    refine wp_region_l 6 (fun V : World => V.cell? ⟨a.p, 0, none⟩ = some (.pointer (some ⟨a.g, 0, none⟩)) ∧ V.cell? ⟨a.p, 1, none⟩ = some (.pointer (some ⟨a.gh, 0, none⟩)) ∧ V.cell? ⟨a.p, 2, none⟩ = some (i64 B.cl) ∧ V.cell? ⟨w.heap.size, 0, none⟩ = some (i64 x.client) ∧ V.cell? ⟨w.heap.size, 1, none⟩ = some (i64 x.seq) ∧ V.cell? ⟨w.heap.size, 2, none⟩ = some (i64 x.kind) ∧ V.cell? ⟨w.heap.size, 3, none⟩ = some (.string x.acct) ∧ V.cell? ⟨w.heap.size, 4, none⟩ = some (.string x.peer) ∧ V.cell? ⟨w.heap.size, 5, none⟩ = some (i64 x.sum) ∧ V.cell? ⟨w.heap.size, 6, none⟩ = some (.slice x.la x.legs.length x.lc) ∧ V.cell? ⟨w.heap.size, 7, none⟩ = some (i64 x.period) ∧ V.cell? ⟨w.heap.size, 8, none⟩ = some (i64 x.hold) ∧ V.cell? ⟨w.heap.size, 9, none⟩ = some (.string x.note)) (by kernel_rfl) (HSS.out _ hG0) (fun hH => ?_)
    refine wpAnyL_take (i := 0) (v := ?v20055) rfl (by kernel_rfl) (by kernel_rfl) (by kernel_rfl) (by kernel_rfl) (fun _ _ _ h => h) (Or.inl ⟨by kernel_rfl, ?hy20055⟩) (by assumption) ?r20055
    case hy20055 => (intro W hSW; obtain ⟨s0, s1, s2, s3, s4, s5, s6, s7, s8, s9, s10, s11, s12⟩ := hSW; go_simp; try with_reducible rfl)
    try simp only [Act.put, List.getElem_toArray, List.getElem_cons_zero, List.setIfInBounds_toArray, List.set_cons_zero, List.set_cons_succ]
    refine wpAnyL_take (i := 1) (v := ?v20056) rfl (by kernel_rfl) (by kernel_rfl) (by kernel_rfl) (by kernel_rfl) (fun _ _ _ h => h) (Or.inl ⟨by kernel_rfl, ?hy20056⟩) (by assumption) ?r20056
    case hy20056 => (intro W hSW; obtain ⟨s0, s1, s2, s3, s4, s5, s6, s7, s8, s9, s10, s11, s12⟩ := hSW; go_simp; try with_reducible rfl)
    try simp only [Act.put, List.getElem_toArray, List.getElem_cons_zero, List.getElem_cons_succ, List.setIfInBounds_toArray, List.set_cons_zero, List.set_cons_succ]
    refine wpAnyL_take (i := 2) (v := ?v20057) rfl (by kernel_rfl) (by kernel_rfl) (by kernel_rfl) (by kernel_rfl) (fun _ _ _ h => h) (Or.inl ⟨by kernel_rfl, ?hy20057⟩) (by assumption) ?r20057
    case hy20057 => (intro W hSW; obtain ⟨s0, s1, s2, s3, s4, s5, s6, s7, s8, s9, s10, s11, s12⟩ := hSW; go_simp; try with_reducible rfl)
    try simp only [Act.put, List.getElem_toArray, List.getElem_cons_zero, List.getElem_cons_succ, List.setIfInBounds_toArray, List.set_cons_zero, List.set_cons_succ]
    refine wpAnyL_take (i := 3) (v := ?v20058) rfl (by kernel_rfl) (by kernel_rfl) (by kernel_rfl) (by kernel_rfl) (fun _ _ _ h => h) (Or.inl ⟨by kernel_rfl, ?hy20058⟩) (by assumption) ?r20058
    case hy20058 => (intro W hSW; obtain ⟨s0, s1, s2, s3, s4, s5, s6, s7, s8, s9, s10, s11, s12⟩ := hSW; go_simp; try with_reducible rfl)
    try simp only [Act.put, List.getElem_toArray, List.getElem_cons_zero, List.getElem_cons_succ, List.setIfInBounds_toArray, List.set_cons_zero, List.set_cons_succ]
    refine wpAnyL_take (i := 4) (v := ?v20059) rfl (by kernel_rfl) (by kernel_rfl) (by kernel_rfl) (by kernel_rfl) (fun _ _ _ h => h) (Or.inl ⟨by kernel_rfl, ?hy20059⟩) (by assumption) ?r20059
    case hy20059 => (intro W hSW; obtain ⟨s0, s1, s2, s3, s4, s5, s6, s7, s8, s9, s10, s11, s12⟩ := hSW; go_simp; try with_reducible rfl)
    try simp only [Act.put, List.getElem_toArray, List.getElem_cons_zero, List.getElem_cons_succ, List.setIfInBounds_toArray, List.set_cons_zero, List.set_cons_succ]
    refine wpAnyL_take (i := 5) (v := ?v20060) rfl (by kernel_rfl) (by kernel_rfl) (by kernel_rfl) (by kernel_rfl) (fun _ _ _ h => h) (Or.inl ⟨by kernel_rfl, ?hy20060⟩) (by assumption) ?r20060
    case hy20060 => (intro W hSW; obtain ⟨s0, s1, s2, s3, s4, s5, s6, s7, s8, s9, s10, s11, s12⟩ := hSW; go_simp; try with_reducible rfl)
    try simp only [Act.put, List.getElem_toArray, List.getElem_cons_zero, List.getElem_cons_succ, List.setIfInBounds_toArray, List.set_cons_zero, List.set_cons_succ]
    refine wpAnyL_last (by kernel_rfl) rfl (fun K hK => ?_)
    go_simp
    refine hK.out _ _ ?_
    clear hK K
    try simp only [Act.put, List.getElem_toArray, List.getElem_cons_zero, List.getElem_cons_succ, List.setIfInBounds_toArray, List.set_cons_zero, List.set_cons_succ]
    refine wpAnyL_done (by kernel_rfl) ?_ _
    refine NoPanic.normal ?_
    have hG := hG0.more (Below.refl _ _).drew
    have hB := (HB0.out.later (Below.refl _ _).drew).later (Below.refl _ _).drew
    clear hG0
    go_wp2_with fail
    refine wp_region_noPanic ?_
    refine wp_region_l 20 (fun V : World => V.cell? ⟨a.p, 0, none⟩ = some (.pointer (some ⟨a.g, 0, none⟩)) ∧ V.cell? ⟨a.p, 1, none⟩ = some (.pointer (some ⟨a.gh, 0, none⟩)) ∧ V.cell? ⟨a.p, 2, none⟩ = some (i64 B.cl) ∧ V.cell? ⟨w.heap.size, 0, none⟩ = some (i64 x.client) ∧ V.cell? ⟨w.heap.size, 1, none⟩ = some (i64 x.seq) ∧ V.cell? ⟨w.heap.size, 2, none⟩ = some (i64 x.kind) ∧ V.cell? ⟨w.heap.size, 3, none⟩ = some (.string x.acct) ∧ V.cell? ⟨w.heap.size, 4, none⟩ = some (.string x.peer) ∧ V.cell? ⟨w.heap.size, 5, none⟩ = some (i64 x.sum) ∧ V.cell? ⟨w.heap.size, 6, none⟩ = some (.slice x.la x.legs.length x.lc) ∧ V.cell? ⟨w.heap.size, 7, none⟩ = some (i64 x.period) ∧ V.cell? ⟨w.heap.size, 8, none⟩ = some (i64 x.hold) ∧ V.cell? ⟨w.heap.size, 9, none⟩ = some (.string x.note)) (by kernel_rfl) (HSS.out _ hG) (fun hH => ?_)
    refine wpAnyL_take (i := 0) (v := ?v20061) rfl (by kernel_rfl) (by kernel_rfl) (by kernel_rfl) (by kernel_rfl) (fun _ _ _ h => h) (Or.inl ⟨by kernel_rfl, ?hy20061⟩) (by assumption) ?r20061
    case hy20061 => (intro W hSW; obtain ⟨s0, s1, s2, s3, s4, s5, s6, s7, s8, s9, s10, s11, s12⟩ := hSW; go_simp; try with_reducible rfl)
    try simp only [Act.put, List.getElem_toArray, List.getElem_cons_zero, List.setIfInBounds_toArray, List.set_cons_zero, List.set_cons_succ]
    refine wpAnyL_take (i := 1) (v := ?v20062) rfl (by kernel_rfl) (by kernel_rfl) (by kernel_rfl) (by kernel_rfl) (fun _ _ _ h => h) (Or.inl ⟨by kernel_rfl, ?hy20062⟩) (by assumption) ?r20062
    case hy20062 => (intro W hSW; obtain ⟨s0, s1, s2, s3, s4, s5, s6, s7, s8, s9, s10, s11, s12⟩ := hSW; go_simp; try with_reducible rfl)
    try simp only [Act.put, List.getElem_toArray, List.getElem_cons_zero, List.getElem_cons_succ, List.setIfInBounds_toArray, List.set_cons_zero, List.set_cons_succ]
    refine wpAnyL_take (i := 2) (v := ?v20063) rfl (by kernel_rfl) (by kernel_rfl) (by kernel_rfl) (by kernel_rfl) (fun _ _ _ h => h) (Or.inl ⟨by kernel_rfl, ?hy20063⟩) (by assumption) ?r20063
    case hy20063 => (intro W hSW; obtain ⟨s0, s1, s2, s3, s4, s5, s6, s7, s8, s9, s10, s11, s12⟩ := hSW; go_simp; try with_reducible rfl)
    try simp only [Act.put, List.getElem_toArray, List.getElem_cons_zero, List.getElem_cons_succ, List.setIfInBounds_toArray, List.set_cons_zero, List.set_cons_succ]
    refine wpAnyL_take (i := 3) (v := ?v20064) rfl (by kernel_rfl) (by kernel_rfl) (by kernel_rfl) (by kernel_rfl) (fun _ _ _ h => h) (Or.inl ⟨by kernel_rfl, ?hy20064⟩) (by assumption) ?r20064
    case hy20064 => (intro W hSW; obtain ⟨s0, s1, s2, s3, s4, s5, s6, s7, s8, s9, s10, s11, s12⟩ := hSW; go_simp; try with_reducible rfl)
    try simp only [Act.put, List.getElem_toArray, List.getElem_cons_zero, List.getElem_cons_succ, List.setIfInBounds_toArray, List.set_cons_zero, List.set_cons_succ]
    refine wpAnyL_take (i := 4) (v := ?v20065) rfl (by kernel_rfl) (by kernel_rfl) (by kernel_rfl) (by kernel_rfl) (fun _ _ _ h => h) (Or.inl ⟨by kernel_rfl, ?hy20065⟩) (by assumption) ?r20065
    case hy20065 => (intro W hSW; obtain ⟨s0, s1, s2, s3, s4, s5, s6, s7, s8, s9, s10, s11, s12⟩ := hSW; go_simp; try with_reducible rfl)
    try simp only [Act.put, List.getElem_toArray, List.getElem_cons_zero, List.getElem_cons_succ, List.setIfInBounds_toArray, List.set_cons_zero, List.set_cons_succ]
    refine wpAnyL_take (i := 5) (v := ?v20066) rfl (by kernel_rfl) (by kernel_rfl) (by kernel_rfl) (by kernel_rfl) (fun _ _ _ h => h) (Or.inl ⟨by kernel_rfl, ?hy20066⟩) (by assumption) ?r20066
    case hy20066 => (intro W hSW; obtain ⟨s0, s1, s2, s3, s4, s5, s6, s7, s8, s9, s10, s11, s12⟩ := hSW; go_simp; try with_reducible rfl)
    try simp only [Act.put, List.getElem_toArray, List.getElem_cons_zero, List.getElem_cons_succ, List.setIfInBounds_toArray, List.set_cons_zero, List.set_cons_succ]
    refine wpAnyL_take (i := 6) (v := ?v20067) rfl (by kernel_rfl) (by kernel_rfl) (by kernel_rfl) (by kernel_rfl) (fun _ _ _ h => h) (Or.inl ⟨by kernel_rfl, ?hy20067⟩) (by assumption) ?r20067
    case hy20067 => (intro W hSW; obtain ⟨s0, s1, s2, s3, s4, s5, s6, s7, s8, s9, s10, s11, s12⟩ := hSW; go_simp; try with_reducible rfl)
    try simp only [Act.put, List.getElem_toArray, List.getElem_cons_zero, List.getElem_cons_succ, List.setIfInBounds_toArray, List.set_cons_zero, List.set_cons_succ]
    refine wpAnyL_take (i := 7) (v := ?v20068) rfl (by kernel_rfl) (by kernel_rfl) (by kernel_rfl) (by kernel_rfl) (fun _ _ _ h => h) (Or.inl ⟨by kernel_rfl, ?hy20068⟩) (by assumption) ?r20068
    case hy20068 => (intro W hSW; obtain ⟨s0, s1, s2, s3, s4, s5, s6, s7, s8, s9, s10, s11, s12⟩ := hSW; go_simp; try with_reducible rfl)
    try simp only [Act.put, List.getElem_toArray, List.getElem_cons_zero, List.getElem_cons_succ, List.setIfInBounds_toArray, List.set_cons_zero, List.set_cons_succ]
    refine wpAnyL_take (i := 8) (v := ?v20069) rfl (by kernel_rfl) (by kernel_rfl) (by kernel_rfl) (by kernel_rfl) (fun _ _ _ h => h) (Or.inl ⟨by kernel_rfl, ?hy20069⟩) (by assumption) ?r20069
    case hy20069 => (intro W hSW; obtain ⟨s0, s1, s2, s3, s4, s5, s6, s7, s8, s9, s10, s11, s12⟩ := hSW; go_simp; try with_reducible rfl)
    try simp only [Act.put, List.getElem_toArray, List.getElem_cons_zero, List.getElem_cons_succ, List.setIfInBounds_toArray, List.set_cons_zero, List.set_cons_succ]
    refine wpAnyL_take (i := 9) (v := ?v20070) rfl (by kernel_rfl) (by kernel_rfl) (by kernel_rfl) (by kernel_rfl) (fun _ _ _ h => h) (Or.inl ⟨by kernel_rfl, ?hy20070⟩) (by assumption) ?r20070
    case hy20070 => (intro W hSW; obtain ⟨s0, s1, s2, s3, s4, s5, s6, s7, s8, s9, s10, s11, s12⟩ := hSW; go_simp; try with_reducible rfl)
    try simp only [Act.put, List.getElem_toArray, List.getElem_cons_zero, List.getElem_cons_succ, List.setIfInBounds_toArray, List.set_cons_zero, List.set_cons_succ]
    refine wpAnyL_take (i := 10) (v := ?v20071) rfl (by kernel_rfl) (by kernel_rfl) (by kernel_rfl) (by kernel_rfl) (fun _ _ _ h => h) (Or.inl ⟨by kernel_rfl, ?hy20071⟩) (by assumption) ?r20071
    case hy20071 => (intro W hSW; obtain ⟨s0, s1, s2, s3, s4, s5, s6, s7, s8, s9, s10, s11, s12⟩ := hSW; go_simp; try with_reducible rfl)
    try simp only [Act.put, List.getElem_toArray, List.getElem_cons_zero, List.getElem_cons_succ, List.setIfInBounds_toArray, List.set_cons_zero, List.set_cons_succ]
    refine wpAnyL_take (i := 11) (v := ?v20072) rfl (by kernel_rfl) (by kernel_rfl) (by kernel_rfl) (by kernel_rfl) (fun _ _ _ h => h) (Or.inl ⟨by kernel_rfl, ?hy20072⟩) (by assumption) ?r20072
    case hy20072 => (intro W hSW; obtain ⟨s0, s1, s2, s3, s4, s5, s6, s7, s8, s9, s10, s11, s12⟩ := hSW; go_simp; try with_reducible rfl)
    try simp only [Act.put, List.getElem_toArray, List.getElem_cons_zero, List.getElem_cons_succ, List.setIfInBounds_toArray, List.set_cons_zero, List.set_cons_succ]
    refine wpAnyL_take (i := 12) (v := ?v20073) rfl (by kernel_rfl) (by kernel_rfl) (by kernel_rfl) (by kernel_rfl) (fun _ _ _ h => h) (Or.inl ⟨by kernel_rfl, ?hy20073⟩) (by assumption) ?r20073
    case hy20073 => (intro W hSW; obtain ⟨s0, s1, s2, s3, s4, s5, s6, s7, s8, s9, s10, s11, s12⟩ := hSW; go_simp; try with_reducible rfl)
    try simp only [Act.put, List.getElem_toArray, List.getElem_cons_zero, List.getElem_cons_succ, List.setIfInBounds_toArray, List.set_cons_zero, List.set_cons_succ]
    refine wpAnyL_take (i := 13) (v := ?v20074) rfl (by kernel_rfl) (by kernel_rfl) (by kernel_rfl) (by kernel_rfl) (fun _ _ _ h => h) (Or.inl ⟨by kernel_rfl, ?hy20074⟩) (by assumption) ?r20074
    case hy20074 => (intro W hSW; obtain ⟨s0, s1, s2, s3, s4, s5, s6, s7, s8, s9, s10, s11, s12⟩ := hSW; go_simp; try with_reducible rfl)
    try simp only [Act.put, List.getElem_toArray, List.getElem_cons_zero, List.getElem_cons_succ, List.setIfInBounds_toArray, List.set_cons_zero, List.set_cons_succ]
    refine wpAnyL_take (i := 14) (v := ?v20075) rfl (by kernel_rfl) (by kernel_rfl) (by kernel_rfl) (by kernel_rfl) (fun _ _ _ h => h) (Or.inl ⟨by kernel_rfl, ?hy20075⟩) (by assumption) ?r20075
    case hy20075 => (intro W hSW; obtain ⟨s0, s1, s2, s3, s4, s5, s6, s7, s8, s9, s10, s11, s12⟩ := hSW; go_simp; try with_reducible rfl)
    try simp only [Act.put, List.getElem_toArray, List.getElem_cons_zero, List.getElem_cons_succ, List.setIfInBounds_toArray, List.set_cons_zero, List.set_cons_succ]
    refine wpAnyL_take (i := 15) (v := ?v20076) rfl (by kernel_rfl) (by kernel_rfl) (by kernel_rfl) (by kernel_rfl) (fun _ _ _ h => h) (Or.inl ⟨by kernel_rfl, ?hy20076⟩) (by assumption) ?r20076
    case hy20076 => (intro W hSW; obtain ⟨s0, s1, s2, s3, s4, s5, s6, s7, s8, s9, s10, s11, s12⟩ := hSW; go_simp; try with_reducible rfl)
    try simp only [Act.put, List.getElem_toArray, List.getElem_cons_zero, List.getElem_cons_succ, List.setIfInBounds_toArray, List.set_cons_zero, List.set_cons_succ]
    refine wpAnyL_take (i := 16) (v := ?v20077) rfl (by kernel_rfl) (by kernel_rfl) (by kernel_rfl) (by kernel_rfl) (fun _ _ _ h => h) (Or.inl ⟨by kernel_rfl, ?hy20077⟩) (by assumption) ?r20077
    case hy20077 => (intro W hSW; obtain ⟨s0, s1, s2, s3, s4, s5, s6, s7, s8, s9, s10, s11, s12⟩ := hSW; go_simp; try with_reducible rfl)
    try simp only [Act.put, List.getElem_toArray, List.getElem_cons_zero, List.getElem_cons_succ, List.setIfInBounds_toArray, List.set_cons_zero, List.set_cons_succ]
    refine wpAnyL_take (i := 17) (v := ?v20078) rfl (by kernel_rfl) (by kernel_rfl) (by kernel_rfl) (by kernel_rfl) (fun _ _ _ h => h) (Or.inl ⟨by kernel_rfl, ?hy20078⟩) (by assumption) ?r20078
    case hy20078 => (intro W hSW; obtain ⟨s0, s1, s2, s3, s4, s5, s6, s7, s8, s9, s10, s11, s12⟩ := hSW; go_simp; try with_reducible rfl)
    try simp only [Act.put, List.getElem_toArray, List.getElem_cons_zero, List.getElem_cons_succ, List.setIfInBounds_toArray, List.set_cons_zero, List.set_cons_succ]
    refine wpAnyL_one (i := 18) (by kernel_rfl) rfl (by decide) (fun K hK => ?_)
    go_simp
    refine (HC.out _ hB).mono ?_
    rintro e W2 ⟨rfl, hc1, hh1, hg1⟩
    obtain ⟨hB, hg1⟩ := hB.both hc1 hh1 hg1
    clear hc1 hh1
    have hG := hG.after hg1
    clear hg1
    refine hK.out _ _ (HSS.out _ hG) (fun hH => ?_)
    clear hK K
    try simp only [Act.put, List.getElem_toArray, List.getElem_cons_zero, List.getElem_cons_succ, List.setIfInBounds_toArray, List.set_cons_zero, List.set_cons_succ]
    refine wpAnyL_one (i := 19) (by kernel_rfl) rfl (by decide) (fun K hK => ?_)
    go_simp
    refine (HT.out _ hB).mono ?_
    rintro e W3 ⟨rfl, hF⟩
    have hB := hB.later hF
    have hG := hG.more hF
    clear hF
    refine hK.out _ _ (HSS.out _ hG) (fun hH => ?_)
    clear hK K
    try simp only [Act.put, List.getElem_toArray, List.getElem_cons_zero, List.getElem_cons_succ, List.setIfInBounds_toArray, List.set_cons_zero, List.set_cons_succ]
    refine wpAnyL_last (by kernel_rfl) rfl (fun K hK => ?_)
    have hr := (hG.block rb hlt0.2 Hnm.out).trans HR0.out
    refine wp_store_row 44 (.tmp 4) (.tmp 32) rfl rb #[i64 t.err, i64 t.hav, i64 t.set_, i64 t.num] rfl rfl 44 #[i64 0, i64 0, i64 0, i64 0] hr (by kernel_rfl) rfl (by simp [Value.oneCell']) ?_
    refine hK.out _ _ ?_
    clear hK K
    try simp only [Act.put, List.getElem_toArray, List.getElem_cons_zero, List.getElem_cons_succ]
    refine wpAnyL_done (by kernel_rfl) ?_ _
    refine NoPanic.normal ?_
    have hrow := setRow_heap W3 rb _ #[i64 t.err, i64 t.hav, i64 t.set_, i64 t.num] _ _ hr
    have hB9 := hB.row Hna.out #[i64 t.err, i64 t.hav, i64 t.set_, i64 t.num]
    have hG9 := ((Gr.of_below Hb0.out a.maps).after hG).own_row Hrb.out #[i64 t.err, i64 t.hav, i64 t.set_, i64 t.num]
    have HB9 := Lib.hid hB9
    have HG9 := Lib.hid hG9
    clear hB9 hG9 hB hG
    go_wp2
    exact bodyPost_ret (results_cell_row rfl _ _ rb 44 _ (0, 0) _ rfl hrow Tryz.underlying44 rfl (by kernel_rfl)) rfl ⟨rfl, HB9.out, HG9.out.mono (fun _ _ e => BA.maps_own e)⟩
set_option maxRecDepth 100000 in
set_option maxHeartbeats 8000000 in
theorem bpost_c (a : BA) (B : Bk) (x : Od) (w : World) (h : BkA w a B) (hI : InvB B) (hx : OdB x) (hl : OdIn w a x) :
    Calls Tryz.prog 135 #[a.ptr, x.v] w fun e w' => e = .returned (postD B x).1.v ∧ BkA w' a (postD B x).2 ∧ Gr w w' a.own := by
  unfold postD
  have HC := Lib.hid (fun (W : World) (hW : BkA W a B) (hl : OdIn W a x) => make_c a.g a.b B.L x.la x.lc x.legs W hW.ch hI.inv.okA (hl.1.legs.mono fun k hk => ⟨hk.1, fun e => hk.2 (.inr (.inr (.inl e)))⟩) hl.2 hx.rng.2.2.2.2.2.2)
  clear hI hx
  try dsimp only at *
  generalize makeL B.L x.legs = R at *
  obtain ⟨er, L2⟩ := R
  try dsimp only at *
  by_cases hp : x.period ≤ B.cl
  · have g1 : decide (x.period ≤ B.cl) = true := decide_eq_true hp
    rw [if_pos hp]
    clear hp
    have hb0 : Below w.heap.size w ((w.alloc (.cells #[i64 x.client, i64 x.seq, i64 x.kind, .string x.acct, .string x.peer, i64 x.sum, .slice x.la x.legs.length x.lc, i64 x.period, i64 x.hold, .string x.note] 50)).alloc (.cells #[i64 0, i64 0, i64 0, i64 0] 44)) := ((Below.refl w.heap.size w).alloc (Nat.le_refl _) (.cells #[i64 x.client, i64 x.seq, i64 x.kind, .string x.acct, .string x.peer, i64 x.sum, .slice x.la x.legs.length x.lc, i64 x.period, i64 x.hold, .string x.note] 50)).alloc (by simp) (.cells #[i64 0, i64 0, i64 0, i64 0] 44)
    have ho0 := heap_alloc2_old w (.cells #[i64 x.client, i64 x.seq, i64 x.kind, .string x.acct, .string x.peer, i64 x.sum, .slice x.la x.legs.length x.lc, i64 x.period, i64 x.hold, .string x.note] 50) (.cells #[i64 0, i64 0, i64 0, i64 0] 44)
    have hr0 := heap_alloc2_new w (.cells #[i64 x.client, i64 x.seq, i64 x.kind, .string x.acct, .string x.peer, i64 x.sum, .slice x.la x.legs.length x.lc, i64 x.period, i64 x.hold, .string x.note] 50) (.cells #[i64 0, i64 0, i64 0, i64 0] 44)
    have hlt0 : w.heap.size < ((w.alloc (.cells #[i64 x.client, i64 x.seq, i64 x.kind, .string x.acct, .string x.peer, i64 x.sum, .slice x.la x.legs.length x.lc, i64 x.period, i64 x.hold, .string x.note] 50)).alloc (.cells #[i64 0, i64 0, i64 0, i64 0] 44)).heap.size ∧ w.heap.size + 1 < ((w.alloc (.cells #[i64 x.client, i64 x.seq, i64 x.kind, .string x.acct, .string x.peer, i64 x.sum, .slice x.la x.legs.length x.lc, i64 x.period, i64 x.hold, .string x.note] 50)).alloc (.cells #[i64 0, i64 0, i64 0, i64 0] 44)).heap.size := ⟨by simp; omega, by simp⟩
    have Hlt := Lib.hid h.lt
    have Hap := Lib.hid h.ap
    have H0 := h.later hb0
    unfold Od.v
    go_enter Tryz.func135, Tryz.ntmps135
    go_wp2_with fail
    generalize ((w.alloc (.cells #[i64 x.client, i64 x.seq, i64 x.kind, .string x.acct, .string x.peer, i64 x.sum, .slice x.la x.legs.length x.lc, i64 x.period, i64 x.hold, .string x.note] 50)).alloc (.cells #[i64 0, i64 0, i64 0, i64 0] 44)) = W0 at *
    generalize hrb : w.heap.size + 1 = rb at *
    have Hrb := Lib.hid (show w.heap.size ≤ rb by omega)
    clear hrb
    have Hna := Lib.hid (not_all Hlt.out Hrb.out)
    have Hnm := Lib.hid (not_maps Hlt.out Hrb.out)
    have hp0 := H0.cell
    have HSS := Lib.hid (show ∀ V, Gr W0 V a.maps → (fun V : World => V.cell? ⟨a.p, 0, none⟩ = some (.pointer (some ⟨a.g, 0, none⟩)) ∧ V.cell? ⟨a.p, 1, none⟩ = some (.pointer (some ⟨a.gh, 0, none⟩)) ∧ V.cell? ⟨a.p, 2, none⟩ = some (i64 B.cl) ∧ V.cell? ⟨w.heap.size, 0, none⟩ = some (i64 x.client) ∧ V.cell? ⟨w.heap.size, 1, none⟩ = some (i64 x.seq) ∧ V.cell? ⟨w.heap.size, 2, none⟩ = some (i64 x.kind) ∧ V.cell? ⟨w.heap.size, 3, none⟩ = some (.string x.acct) ∧ V.cell? ⟨w.heap.size, 4, none⟩ = some (.string x.peer) ∧ V.cell? ⟨w.heap.size, 5, none⟩ = some (i64 x.sum) ∧ V.cell? ⟨w.heap.size, 6, none⟩ = some (.slice x.la x.legs.length x.lc) ∧ V.cell? ⟨w.heap.size, 7, none⟩ = some (i64 x.period) ∧ V.cell? ⟨w.heap.size, 8, none⟩ = some (i64 x.hold) ∧ V.cell? ⟨w.heap.size, 9, none⟩ = some (.string x.note)) V from fun V hG => by
      have hp1 := (hG.block a.p (Array.getElem?_eq_some_iff.1 hp0).1 Hap.out.p_maps).trans hp0
      have ho1 := (hG.block w.heap.size hlt0.1 (not_maps Hlt.out (Nat.le_refl _))).trans ho0
      exact ⟨cell_of_row _ a.p 0 _ _ (0, 0) hp1, cell_of_row _ a.p 1 _ _ (0, 0) hp1, cell_of_row _ a.p 2 _ _ (0, 0) hp1, cell_of_row _ w.heap.size 0 _ _ (0, 0) ho1, cell_of_row _ w.heap.size 1 _ _ (0, 0) ho1, cell_of_row _ w.heap.size 2 _ _ (0, 0) ho1, cell_of_row _ w.heap.size 3 _ _ (0, 0) ho1, cell_of_row _ w.heap.size 4 _ _ (0, 0) ho1, cell_of_row _ w.heap.size 5 _ _ (0, 0) ho1, cell_of_row _ w.heap.size 6 _ _ (0, 0) ho1, cell_of_row _ w.heap.size 7 _ _ (0, 0) ho1, cell_of_row _ w.heap.size 8 _ _ (0, 0) ho1, cell_of_row _ w.heap.size 9 _ _ (0, 0) ho1⟩)
    have HR0 := Lib.hid hr0
    have HO0 := Lib.hid ho0
    have HB0 := Lib.hid H0
    have Hb0 := Lib.hid hb0
    have hG0 := Gr.of_below ((Below.refl W0.heap.size W0).drew) a.maps
    clear hp0 ho0 hr0 H0 hb0 h
    refine wp_region_noPanic ?_
    refine wp_region_l 6 (fun V : World => V.cell? ⟨a.p, 0, none⟩ = some (.pointer (some ⟨a.g, 0, none⟩)) ∧ V.cell? ⟨a.p, 1, none⟩ = some (.pointer (some ⟨a.gh, 0, none⟩)) ∧ V.cell? ⟨a.p, 2, none⟩ = some (i64 B.cl) ∧ V.cell? ⟨w.heap.size, 0, none⟩ = some (i64 x.client) ∧ V.cell? ⟨w.heap.size, 1, none⟩ = some (i64 x.seq) ∧ V.cell? ⟨w.heap.size, 2, none⟩ = some (i64 x.kind) ∧ V.cell? ⟨w.heap.size, 3, none⟩ = some (.string x.acct) ∧ V.cell? ⟨w.heap.size, 4, none⟩ = some (.string x.peer) ∧ V.cell? ⟨w.heap.size, 5, none⟩ = some (i64 x.sum) ∧ V.cell? ⟨w.heap.size, 6, none⟩ = some (.slice x.la x.legs.length x.lc) ∧ V.cell? ⟨w.heap.size, 7, none⟩ = some (i64 x.period) ∧ V.cell? ⟨w.heap.size, 8, none⟩ = some (i64 x.hold) ∧ V.cell? ⟨w.heap.size, 9, none⟩ = some (.string x.note)) (by kernel_rfl) (HSS.out _ hG0) (fun hH => ?_)
    refine wpAnyL_take (i := 0) (v := ?v20079) rfl (by kernel_rfl) (by kernel_rfl) (by kernel_rfl) (by kernel_rfl) (fun _ _ _ h => h) (Or.inl ⟨by kernel_rfl, ?hy20079⟩) (by assumption) ?r20079
    case hy20079 => (intro W hSW; obtain ⟨s0, s1, s2, s3, s4, s5, s6, s7, s8, s9, s10, s11, s12⟩ := hSW; go_simp; try with_reducible rfl)
    try simp only [Act.put, List.getElem_toArray, List.getElem_cons_zero, List.setIfInBounds_toArray, List.set_cons_zero, List.set_cons_succ]
    refine wpAnyL_take (i := 1) (v := ?v20080) rfl (by kernel_rfl) (by kernel_rfl) (by kernel_rfl) (by kernel_rfl) (fun _ _ _ h => h) (Or.inl ⟨by kernel_rfl, ?hy20080⟩) (by assumption) ?r20080
    case hy20080 => (intro W hSW; obtain ⟨s0, s1, s2, s3, s4, s5, s6, s7, s8, s9, s10, s11, s12⟩ := hSW; go_simp; try with_reducible rfl)
    try simp only [Act.put, List.getElem_toArray, List.getElem_cons_zero, List.getElem_cons_succ, List.setIfInBounds_toArray, List.set_cons_zero, List.set_cons_succ]
    refine wpAnyL_take (i := 2) (v := ?v20081) rfl (by kernel_rfl) (by kernel_rfl) (by kernel_rfl) (by kernel_rfl) (fun _ _ _ h => h) (Or.inl ⟨by kernel_rfl, ?hy20081⟩) (by assumption) ?r20081
    case hy20081 => (intro W hSW; obtain ⟨s0, s1, s2, s3, s4, s5, s6, s7, s8, s9, s10, s11, s12⟩ := hSW; go_simp; try with_reducible rfl)
    try simp only [Act.put, List.getElem_toArray, List.getElem_cons_zero, List.getElem_cons_succ, List.setIfInBounds_toArray, List.set_cons_zero, List.set_cons_succ]
    refine wpAnyL_take (i := 3) (v := ?v20082) rfl (by kernel_rfl) (by kernel_rfl) (by kernel_rfl) (by kernel_rfl) (fun _ _ _ h => h) (Or.inl ⟨by kernel_rfl, ?hy20082⟩) (by assumption) ?r20082
    case hy20082 => (intro W hSW; obtain ⟨s0, s1, s2, s3, s4, s5, s6, s7, s8, s9, s10, s11, s12⟩ := hSW; go_simp; try with_reducible rfl)
    try simp only [Act.put, List.getElem_toArray, List.getElem_cons_zero, List.getElem_cons_succ, List.setIfInBounds_toArray, List.set_cons_zero, List.set_cons_succ]
    refine wpAnyL_take (i := 4) (v := ?v20083) rfl (by kernel_rfl) (by kernel_rfl) (by kernel_rfl) (by kernel_rfl) (fun _ _ _ h => h) (Or.inl ⟨by kernel_rfl, ?hy20083⟩) (by assumption) ?r20083
    case hy20083 => (intro W hSW; obtain ⟨s0, s1, s2, s3, s4, s5, s6, s7, s8, s9, s10, s11, s12⟩ := hSW; go_simp; try with_reducible rfl)
    try simp only [Act.put, List.getElem_toArray, List.getElem_cons_zero, List.getElem_cons_succ, List.setIfInBounds_toArray, List.set_cons_zero, List.set_cons_succ]
    refine wpAnyL_take (i := 5) (v := ?v20084) rfl (by kernel_rfl) (by kernel_rfl) (by kernel_rfl) (by kernel_rfl) (fun _ _ _ h => h) (Or.inl ⟨by kernel_rfl, ?hy20084⟩) (by assumption) ?r20084
    case hy20084 => (intro W hSW; obtain ⟨s0, s1, s2, s3, s4, s5, s6, s7, s8, s9, s10, s11, s12⟩ := hSW; go_simp; try with_reducible rfl)
    try simp only [Act.put, List.getElem_toArray, List.getElem_cons_zero, List.getElem_cons_succ, List.setIfInBounds_toArray, List.set_cons_zero, List.set_cons_succ]
    refine wpAnyL_last (by kernel_rfl) rfl (fun K hK => ?_)
    go_simp
    refine hK.out _ _ ?_
    clear hK K
    try simp only [Act.put, List.getElem_toArray, List.getElem_cons_zero, List.getElem_cons_succ, List.setIfInBounds_toArray, List.set_cons_zero, List.set_cons_succ]
    refine wpAnyL_done (by kernel_rfl) ?_ _
    refine NoPanic.normal ?_
    have HRow := Lib.hid (setRow_heap W0.drew rb _ #[i64 10, i64 0, i64 0, i64 0] _ _ HR0.out)
    have HB9 := Lib.hid ((HB0.out.later (Below.refl _ _).drew).row Hna.out #[i64 10, i64 0, i64 0, i64 0])
    have HG9 := Lib.hid (((Gr.of_below Hb0.out a.maps).after hG0).own_row Hrb.out #[i64 10, i64 0, i64 0, i64 0])
    have hr := (show W0.drew.heap[rb]? = some (.cells #[i64 0, i64 0, i64 0, i64 0] 44) from HR0.out)
    clear hG0
    go_wp2_with (refine wpList_store_row rfl 44 (.tmp 4) (.tmp 12) rfl rb #[i64 10, i64 0, i64 0, i64 0] rfl rfl 44 #[i64 0, i64 0, i64 0, i64 0] hr (by kernel_rfl) rfl (by simp [Value.oneCell']) ?_)
    have hrow := HRow.out
    exact bodyPost_ret (results_cell_row rfl _ _ rb 44 _ (0, 0) _ rfl hrow Tryz.underlying44 rfl (by kernel_rfl)) rfl ⟨rfl, HB9.out, HG9.out.mono (fun _ _ e => BA.maps_own e)⟩
  · have g1 : decide (x.period ≤ B.cl) = false := decide_eq_false hp
    rw [if_neg hp]
    clear hp
    have hb0 : Below w.heap.size w ((w.alloc (.cells #[i64 x.client, i64 x.seq, i64 x.kind, .string x.acct, .string x.peer, i64 x.sum, .slice x.la x.legs.length x.lc, i64 x.period, i64 x.hold, .string x.note] 50)).alloc (.cells #[i64 0, i64 0, i64 0, i64 0] 44)) := ((Below.refl w.heap.size w).alloc (Nat.le_refl _) (.cells #[i64 x.client, i64 x.seq, i64 x.kind, .string x.acct, .string x.peer, i64 x.sum, .slice x.la x.legs.length x.lc, i64 x.period, i64 x.hold, .string x.note] 50)).alloc (by simp) (.cells #[i64 0, i64 0, i64 0, i64 0] 44)
    have ho0 := heap_alloc2_old w (.cells #[i64 x.client, i64 x.seq, i64 x.kind, .string x.acct, .string x.peer, i64 x.sum, .slice x.la x.legs.length x.lc, i64 x.period, i64 x.hold, .string x.note] 50) (.cells #[i64 0, i64 0, i64 0, i64 0] 44)
    have hr0 := heap_alloc2_new w (.cells #[i64 x.client, i64 x.seq, i64 x.kind, .string x.acct, .string x.peer, i64 x.sum, .slice x.la x.legs.length x.lc, i64 x.period, i64 x.hold, .string x.note] 50) (.cells #[i64 0, i64 0, i64 0, i64 0] 44)
    have hlt0 : w.heap.size < ((w.alloc (.cells #[i64 x.client, i64 x.seq, i64 x.kind, .string x.acct, .string x.peer, i64 x.sum, .slice x.la x.legs.length x.lc, i64 x.period, i64 x.hold, .string x.note] 50)).alloc (.cells #[i64 0, i64 0, i64 0, i64 0] 44)).heap.size ∧ w.heap.size + 1 < ((w.alloc (.cells #[i64 x.client, i64 x.seq, i64 x.kind, .string x.acct, .string x.peer, i64 x.sum, .slice x.la x.legs.length x.lc, i64 x.period, i64 x.hold, .string x.note] 50)).alloc (.cells #[i64 0, i64 0, i64 0, i64 0] 44)).heap.size := ⟨by simp; omega, by simp⟩
    have Hlt := Lib.hid h.lt
    have Hap := Lib.hid h.ap
    have H0 := h.later hb0
    unfold Od.v
    go_enter Tryz.func135, Tryz.ntmps135
    go_wp2_with fail
    generalize ((w.alloc (.cells #[i64 x.client, i64 x.seq, i64 x.kind, .string x.acct, .string x.peer, i64 x.sum, .slice x.la x.legs.length x.lc, i64 x.period, i64 x.hold, .string x.note] 50)).alloc (.cells #[i64 0, i64 0, i64 0, i64 0] 44)) = W0 at *
    generalize hrb : w.heap.size + 1 = rb at *
    have Hrb := Lib.hid (show w.heap.size ≤ rb by omega)
    clear hrb
    have Hna := Lib.hid (not_all Hlt.out Hrb.out)
    have Hnm := Lib.hid (not_maps Hlt.out Hrb.out)
    have hp0 := H0.cell
    have HSS := Lib.hid (show ∀ V, Gr W0 V a.maps → (fun V : World => V.cell? ⟨a.p, 0, none⟩ = some (.pointer (some ⟨a.g, 0, none⟩)) ∧ V.cell? ⟨a.p, 1, none⟩ = some (.pointer (some ⟨a.gh, 0, none⟩)) ∧ V.cell? ⟨a.p, 2, none⟩ = some (i64 B.cl) ∧ V.cell? ⟨w.heap.size, 0, none⟩ = some (i64 x.client) ∧ V.cell? ⟨w.heap.size, 1, none⟩ = some (i64 x.seq) ∧ V.cell? ⟨w.heap.size, 2, none⟩ = some (i64 x.kind) ∧ V.cell? ⟨w.heap.size, 3, none⟩ = some (.string x.acct) ∧ V.cell? ⟨w.heap.size, 4, none⟩ = some (.string x.peer) ∧ V.cell? ⟨w.heap.size, 5, none⟩ = some (i64 x.sum) ∧ V.cell? ⟨w.heap.size, 6, none⟩ = some (.slice x.la x.legs.length x.lc) ∧ V.cell? ⟨w.heap.size, 7, none⟩ = some (i64 x.period) ∧ V.cell? ⟨w.heap.size, 8, none⟩ = some (i64 x.hold) ∧ V.cell? ⟨w.heap.size, 9, none⟩ = some (.string x.note)) V from fun V hG => by
      have hp1 := (hG.block a.p (Array.getElem?_eq_some_iff.1 hp0).1 Hap.out.p_maps).trans hp0
      have ho1 := (hG.block w.heap.size hlt0.1 (not_maps Hlt.out (Nat.le_refl _))).trans ho0
      exact ⟨cell_of_row _ a.p 0 _ _ (0, 0) hp1, cell_of_row _ a.p 1 _ _ (0, 0) hp1, cell_of_row _ a.p 2 _ _ (0, 0) hp1, cell_of_row _ w.heap.size 0 _ _ (0, 0) ho1, cell_of_row _ w.heap.size 1 _ _ (0, 0) ho1, cell_of_row _ w.heap.size 2 _ _ (0, 0) ho1, cell_of_row _ w.heap.size 3 _ _ (0, 0) ho1, cell_of_row _ w.heap.size 4 _ _ (0, 0) ho1, cell_of_row _ w.heap.size 5 _ _ (0, 0) ho1, cell_of_row _ w.heap.size 6 _ _ (0, 0) ho1, cell_of_row _ w.heap.size 7 _ _ (0, 0) ho1, cell_of_row _ w.heap.size 8 _ _ (0, 0) ho1, cell_of_row _ w.heap.size 9 _ _ (0, 0) ho1⟩)
    have HR0 := Lib.hid hr0
    have HO0 := Lib.hid ho0
    have HB0 := Lib.hid H0
    have Hb0 := Lib.hid hb0
    have hG0 := Gr.of_below ((Below.refl W0.heap.size W0).drew) a.maps
    clear hp0 ho0 hr0 H0 hb0 h
    refine wp_region_noPanic ?_
    refine wp_region_l 6 (fun V : World => V.cell? ⟨a.p, 0, none⟩ = some (.pointer (some ⟨a.g, 0, none⟩)) ∧ V.cell? ⟨a.p, 1, none⟩ = some (.pointer (some ⟨a.gh, 0, none⟩)) ∧ V.cell? ⟨a.p, 2, none⟩ = some (i64 B.cl) ∧ V.cell? ⟨w.heap.size, 0, none⟩ = some (i64 x.client) ∧ V.cell? ⟨w.heap.size, 1, none⟩ = some (i64 x.seq) ∧ V.cell? ⟨w.heap.size, 2, none⟩ = some (i64 x.kind) ∧ V.cell? ⟨w.heap.size, 3, none⟩ = some (.string x.acct) ∧ V.cell? ⟨w.heap.size, 4, none⟩ = some (.string x.peer) ∧ V.cell? ⟨w.heap.size, 5, none⟩ = some (i64 x.sum) ∧ V.cell? ⟨w.heap.size, 6, none⟩ = some (.slice x.la x.legs.length x.lc) ∧ V.cell? ⟨w.heap.size, 7, none⟩ = some (i64 x.period) ∧ V.cell? ⟨w.heap.size, 8, none⟩ = some (i64 x.hold) ∧ V.cell? ⟨w.heap.size, 9, none⟩ = some (.string x.note)) (by kernel_rfl) (HSS.out _ hG0) (fun hH => ?_)
    refine wpAnyL_take (i := 0) (v := ?v20085) rfl (by kernel_rfl) (by kernel_rfl) (by kernel_rfl) (by kernel_rfl) (fun _ _ _ h => h) (Or.inl ⟨by kernel_rfl, ?hy20085⟩) (by assumption) ?r20085
    case hy20085 => (intro W hSW; obtain ⟨s0, s1, s2, s3, s4, s5, s6, s7, s8, s9, s10, s11, s12⟩ := hSW; go_simp; try with_reducible rfl)
    try simp only [Act.put, List.getElem_toArray, List.getElem_cons_zero, List.setIfInBounds_toArray, List.set_cons_zero, List.set_cons_succ]
    refine wpAnyL_take (i := 1) (v := ?v20086) rfl (by kernel_rfl) (by kernel_rfl) (by kernel_rfl) (by kernel_rfl) (fun _ _ _ h => h) (Or.inl ⟨by kernel_rfl, ?hy20086⟩) (by assumption) ?r20086
    case hy20086 => (intro W hSW; obtain ⟨s0, s1, s2, s3, s4, s5, s6, s7, s8, s9, s10, s11, s12⟩ := hSW; go_simp; try with_reducible rfl)
    try simp only [Act.put, List.getElem_toArray, List.getElem_cons_zero, List.getElem_cons_succ, List.setIfInBounds_toArray, List.set_cons_zero, List.set_cons_succ]
    refine wpAnyL_take (i := 2) (v := ?v20087) rfl (by kernel_rfl) (by kernel_rfl) (by kernel_rfl) (by kernel_rfl) (fun _ _ _ h => h) (Or.inl ⟨by kernel_rfl, ?hy20087⟩) (by assumption) ?r20087
    case hy20087 => (intro W hSW; obtain ⟨s0, s1, s2, s3, s4, s5, s6, s7, s8, s9, s10, s11, s12⟩ := hSW; go_simp; try with_reducible rfl)
    try simp only [Act.put, List.getElem_toArray, List.getElem_cons_zero, List.getElem_cons_succ, List.setIfInBounds_toArray, List.set_cons_zero, List.set_cons_succ]
    refine wpAnyL_take (i := 3) (v := ?v20088) rfl (by kernel_rfl) (by kernel_rfl) (by kernel_rfl) (by kernel_rfl) (fun _ _ _ h => h) (Or.inl ⟨by kernel_rfl, ?hy20088⟩) (by assumption) ?r20088
    case hy20088 => (intro W hSW; obtain ⟨s0, s1, s2, s3, s4, s5, s6, s7, s8, s9, s10, s11, s12⟩ := hSW; go_simp; try with_reducible rfl)
    try simp only [Act.put, List.getElem_toArray, List.getElem_cons_zero, List.getElem_cons_succ, List.setIfInBounds_toArray, List.set_cons_zero, List.set_cons_succ]
    refine wpAnyL_take (i := 4) (v := ?v20089) rfl (by kernel_rfl) (by kernel_rfl) (by kernel_rfl) (by kernel_rfl) (fun _ _ _ h => h) (Or.inl ⟨by kernel_rfl, ?hy20089⟩) (by assumption) ?r20089
    case hy20089 => (intro W hSW; obtain ⟨s0, s1, s2, s3, s4, s5, s6, s7, s8, s9, s10, s11, s12⟩ := hSW; go_simp; try with_reducible rfl)
    try simp only [Act.put, List.getElem_toArray, List.getElem_cons_zero, List.getElem_cons_succ, List.setIfInBounds_toArray, List.set_cons_zero, List.set_cons_succ]
    refine wpAnyL_take (i := 5) (v := ?v20090) rfl (by kernel_rfl) (by kernel_rfl) (by kernel_rfl) (by kernel_rfl) (fun _ _ _ h => h) (Or.inl ⟨by kernel_rfl, ?hy20090⟩) (by assumption) ?r20090
    case hy20090 => (intro W hSW; obtain ⟨s0, s1, s2, s3, s4, s5, s6, s7, s8, s9, s10, s11, s12⟩ := hSW; go_simp; try with_reducible rfl)
    try simp only [Act.put, List.getElem_toArray, List.getElem_cons_zero, List.getElem_cons_succ, List.setIfInBounds_toArray, List.set_cons_zero, List.set_cons_succ]
    refine wpAnyL_last (by kernel_rfl) rfl (fun K hK => ?_)
    go_simp
    refine hK.out _ _ ?_
    clear hK K
    try simp only [Act.put, List.getElem_toArray, List.getElem_cons_zero, List.getElem_cons_succ, List.setIfInBounds_toArray, List.set_cons_zero, List.set_cons_succ]
    refine wpAnyL_done (by kernel_rfl) ?_ _
    refine NoPanic.normal ?_
    have hG := hG0.more (Below.refl _ _).drew
    have hB := (HB0.out.later (Below.refl _ _).drew).later (Below.refl _ _).drew
    have hl := ((hl.later Hb0.out).later (Below.refl _ _).drew).later (Below.refl _ _).drew
    clear hG0
    go_wp2_with fail
    refine wp_region_noPanic ?_
    refine wp_region_l 8 (fun V : World => V.cell? ⟨a.p, 0, none⟩ = some (.pointer (some ⟨a.g, 0, none⟩)) ∧ V.cell? ⟨a.p, 1, none⟩ = some (.pointer (some ⟨a.gh, 0, none⟩)) ∧ V.cell? ⟨a.p, 2, none⟩ = some (i64 B.cl) ∧ V.cell? ⟨w.heap.size, 0, none⟩ = some (i64 x.client) ∧ V.cell? ⟨w.heap.size, 1, none⟩ = some (i64 x.seq) ∧ V.cell? ⟨w.heap.size, 2, none⟩ = some (i64 x.kind) ∧ V.cell? ⟨w.heap.size, 3, none⟩ = some (.string x.acct) ∧ V.cell? ⟨w.heap.size, 4, none⟩ = some (.string x.peer) ∧ V.cell? ⟨w.heap.size, 5, none⟩ = some (i64 x.sum) ∧ V.cell? ⟨w.heap.size, 6, none⟩ = some (.slice x.la x.legs.length x.lc) ∧ V.cell? ⟨w.heap.size, 7, none⟩ = some (i64 x.period) ∧ V.cell? ⟨w.heap.size, 8, none⟩ = some (i64 x.hold) ∧ V.cell? ⟨w.heap.size, 9, none⟩ = some (.string x.note)) (by kernel_rfl) (HSS.out _ hG) (fun hH => ?_)
    refine wpAnyL_take (i := 0) (v := ?v20091) rfl (by kernel_rfl) (by kernel_rfl) (by kernel_rfl) (by kernel_rfl) (fun _ _ _ h => h) (Or.inl ⟨by kernel_rfl, ?hy20091⟩) (by assumption) ?r20091
    case hy20091 => (intro W hSW; obtain ⟨s0, s1, s2, s3, s4, s5, s6, s7, s8, s9, s10, s11, s12⟩ := hSW; go_simp; try with_reducible rfl)
    try simp only [Act.put, List.getElem_toArray, List.getElem_cons_zero, List.setIfInBounds_toArray, List.set_cons_zero, List.set_cons_succ]
    refine wpAnyL_take (i := 1) (v := ?v20092) rfl (by kernel_rfl) (by kernel_rfl) (by kernel_rfl) (by kernel_rfl) (fun _ _ _ h => h) (Or.inl ⟨by kernel_rfl, ?hy20092⟩) (by assumption) ?r20092
    case hy20092 => (intro W hSW; obtain ⟨s0, s1, s2, s3, s4, s5, s6, s7, s8, s9, s10, s11, s12⟩ := hSW; go_simp; try with_reducible rfl)
    try simp only [Act.put, List.getElem_toArray, List.getElem_cons_zero, List.getElem_cons_succ, List.setIfInBounds_toArray, List.set_cons_zero, List.set_cons_succ]
    refine wpAnyL_take (i := 2) (v := ?v20093) rfl (by kernel_rfl) (by kernel_rfl) (by kernel_rfl) (by kernel_rfl) (fun _ _ _ h => h) (Or.inl ⟨by kernel_rfl, ?hy20093⟩) (by assumption) ?r20093
    case hy20093 => (intro W hSW; obtain ⟨s0, s1, s2, s3, s4, s5, s6, s7, s8, s9, s10, s11, s12⟩ := hSW; go_simp; try with_reducible rfl)
    try simp only [Act.put, List.getElem_toArray, List.getElem_cons_zero, List.getElem_cons_succ, List.setIfInBounds_toArray, List.set_cons_zero, List.set_cons_succ]
    refine wpAnyL_take (i := 3) (v := ?v20094) rfl (by kernel_rfl) (by kernel_rfl) (by kernel_rfl) (by kernel_rfl) (fun _ _ _ h => h) (Or.inl ⟨by kernel_rfl, ?hy20094⟩) (by assumption) ?r20094
    case hy20094 => (intro W hSW; obtain ⟨s0, s1, s2, s3, s4, s5, s6, s7, s8, s9, s10, s11, s12⟩ := hSW; go_simp; try with_reducible rfl)
    try simp only [Act.put, List.getElem_toArray, List.getElem_cons_zero, List.getElem_cons_succ, List.setIfInBounds_toArray, List.set_cons_zero, List.set_cons_succ]
    refine wpAnyL_take (i := 4) (v := ?v20095) rfl (by kernel_rfl) (by kernel_rfl) (by kernel_rfl) (by kernel_rfl) (fun _ _ _ h => h) (Or.inl ⟨by kernel_rfl, ?hy20095⟩) (by assumption) ?r20095
    case hy20095 => (intro W hSW; obtain ⟨s0, s1, s2, s3, s4, s5, s6, s7, s8, s9, s10, s11, s12⟩ := hSW; go_simp; try with_reducible rfl)
    try simp only [Act.put, List.getElem_toArray, List.getElem_cons_zero, List.getElem_cons_succ, List.setIfInBounds_toArray, List.set_cons_zero, List.set_cons_succ]
    refine wpAnyL_take (i := 5) (v := ?v20096) rfl (by kernel_rfl) (by kernel_rfl) (by kernel_rfl) (by kernel_rfl) (fun _ _ _ h => h) (Or.inl ⟨by kernel_rfl, ?hy20096⟩) (by assumption) ?r20096
    case hy20096 => (intro W hSW; obtain ⟨s0, s1, s2, s3, s4, s5, s6, s7, s8, s9, s10, s11, s12⟩ := hSW; go_simp; try with_reducible rfl)
    try simp only [Act.put, List.getElem_toArray, List.getElem_cons_zero, List.getElem_cons_succ, List.setIfInBounds_toArray, List.set_cons_zero, List.set_cons_succ]
    refine wpAnyL_one (i := 6) (by kernel_rfl) rfl (by decide) (fun K hK => ?_)
    go_simp
    refine (HC.out _ hB hl).mono ?_
    rintro e W2 ⟨rfl, hc1, hg1⟩
    obtain ⟨hB, hg1⟩ := hB.chart hc1 hg1
    clear hc1
    have hG := hG.after hg1
    clear hg1
    refine hK.out _ _ (HSS.out _ hG) (fun hH => ?_)
    clear hK K
    try simp only [Act.put, List.getElem_toArray, List.getElem_cons_zero, List.getElem_cons_succ, List.setIfInBounds_toArray, List.set_cons_zero, List.set_cons_succ]
    refine wpAnyL_take (i := 7) (v := ?v20097) rfl (by kernel_rfl) (by kernel_rfl) (by kernel_rfl) (by kernel_rfl) (fun _ _ _ h => h) (Or.inl ⟨by kernel_rfl, ?hy20097⟩) (by assumption) ?r20097
    case hy20097 => (intro W hSW; obtain ⟨s0, s1, s2, s3, s4, s5, s6, s7, s8, s9, s10, s11, s12⟩ := hSW; go_simp; try with_reducible rfl)
    try simp only [Act.put, List.getElem_toArray, List.getElem_cons_zero, List.getElem_cons_succ, List.setIfInBounds_toArray, List.set_cons_zero, List.set_cons_succ]
    refine wpAnyL_last (by kernel_rfl) rfl (fun K hK => ?_)
    have hr := (hG.block rb hlt0.2 Hnm.out).trans HR0.out
    refine wp_store_row 44 (.tmp 4) (.tmp 20) rfl rb #[i64 er, i64 0, i64 0, i64 0] rfl rfl 44 #[i64 0, i64 0, i64 0, i64 0] hr (by kernel_rfl) rfl (by simp [Value.oneCell']) ?_
    refine hK.out _ _ ?_
    clear hK K
    try simp only [Act.put, List.getElem_toArray, List.getElem_cons_zero, List.getElem_cons_succ]
    refine wpAnyL_done (by kernel_rfl) ?_ _
    refine NoPanic.normal ?_
    have hrow := setRow_heap W2 rb _ #[i64 er, i64 0, i64 0, i64 0] _ _ hr
    have hB9 := hB.row Hna.out #[i64 er, i64 0, i64 0, i64 0]
    have hG9 := ((Gr.of_below Hb0.out a.maps).after hG).own_row Hrb.out #[i64 er, i64 0, i64 0, i64 0]
    have HB9 := Lib.hid hB9
    have HG9 := Lib.hid hG9
    clear hB9 hG9 hB hG
    go_wp2
    exact bodyPost_ret (results_cell_row rfl _ _ rb 44 _ (0, 0) _ rfl hrow Tryz.underlying44 rfl (by kernel_rfl)) rfl ⟨rfl, HB9.out, HG9.out.mono (fun _ _ e => BA.maps_own e)⟩
set_option maxRecDepth 100000 in
set_option maxHeartbeats 8000000 in
theorem bhold_c (a : BA) (B : Bk) (x : Od) (w : World) (h : BkA w a B) (hI : InvB B) (hx : OdB x) (hr : rightB x = true) :
    Calls Tryz.prog 136 #[a.ptr, x.v] w fun e w' => e = .returned (holdD B x).1.v ∧ BkA w' a (holdD B x).2 ∧ Gr w w' a.own := by
  have hids := (rightB_ids hr).2
  have HN := Lib.hid (fun W => number9_c x.client x.seq W hids)
  unfold holdD
  have HC := Lib.hid (fun (W : World) (hW : BkA W a B) => hoput_c a.g a.b a.gh a.bh B.L B.H ⟨numO x, x.acct, x.sum⟩ W hW.ch hW.ho ⟨hW.ap.ghb, hW.ap.bhb, hW.ap.gbh⟩ hI.inv.okA hI.inv.okH hx.rng.2.2.2.1 (Nat.le_trans hI.lenH (by decide)))
  have HT := Lib.hid (fun (W : World) (hW : BkA W a ⟨(putH B.L B.H ⟨numO x, x.acct, x.sum⟩).2.1, (putH B.L B.H ⟨numO x, x.acct, x.sum⟩).2.2, B.cl⟩) => btells_c a _ x (putH B.L B.H ⟨numO x, x.acct, x.sum⟩).1 W hW)
  clear hI hx hr hids
  dsimp only at *
  generalize putH B.L B.H ⟨numO x, x.acct, x.sum⟩ = R at *
  obtain ⟨er, L2, H2⟩ := R
  dsimp only at *
  generalize tellsL L2 x.acct er = t at *
  generalize hN : numO x = N at *
  rw [show 1000 * x.client + x.seq = N from hN] at HN
  clear hN
  have hb0 : Below w.heap.size w ((w.alloc (.cells #[i64 x.client, i64 x.seq, i64 x.kind, .string x.acct, .string x.peer, i64 x.sum, .slice x.la x.legs.length x.lc, i64 x.period, i64 x.hold, .string x.note] 50)).alloc (.cells #[i64 0, i64 0, i64 0, i64 0] 44)) := ((Below.refl w.heap.size w).alloc (Nat.le_refl _) (.cells #[i64 x.client, i64 x.seq, i64 x.kind, .string x.acct, .string x.peer, i64 x.sum, .slice x.la x.legs.length x.lc, i64 x.period, i64 x.hold, .string x.note] 50)).alloc (by simp) (.cells #[i64 0, i64 0, i64 0, i64 0] 44)
  have ho0 := heap_alloc2_old w (.cells #[i64 x.client, i64 x.seq, i64 x.kind, .string x.acct, .string x.peer, i64 x.sum, .slice x.la x.legs.length x.lc, i64 x.period, i64 x.hold, .string x.note] 50) (.cells #[i64 0, i64 0, i64 0, i64 0] 44)
  have hr0 := heap_alloc2_new w (.cells #[i64 x.client, i64 x.seq, i64 x.kind, .string x.acct, .string x.peer, i64 x.sum, .slice x.la x.legs.length x.lc, i64 x.period, i64 x.hold, .string x.note] 50) (.cells #[i64 0, i64 0, i64 0, i64 0] 44)
  have hlt0 : w.heap.size < ((w.alloc (.cells #[i64 x.client, i64 x.seq, i64 x.kind, .string x.acct, .string x.peer, i64 x.sum, .slice x.la x.legs.length x.lc, i64 x.period, i64 x.hold, .string x.note] 50)).alloc (.cells #[i64 0, i64 0, i64 0, i64 0] 44)).heap.size ∧ w.heap.size + 1 < ((w.alloc (.cells #[i64 x.client, i64 x.seq, i64 x.kind, .string x.acct, .string x.peer, i64 x.sum, .slice x.la x.legs.length x.lc, i64 x.period, i64 x.hold, .string x.note] 50)).alloc (.cells #[i64 0, i64 0, i64 0, i64 0] 44)).heap.size := ⟨by simp; omega, by simp⟩
  have Hlt := Lib.hid h.lt
  have Hap := Lib.hid h.ap
  have H0 := h.later hb0
  unfold Od.v
  go_enter Tryz.func136, Tryz.ntmps136
  go_wp2_with fail
  generalize ((w.alloc (.cells #[i64 x.client, i64 x.seq, i64 x.kind, .string x.acct, .string x.peer, i64 x.sum, .slice x.la x.legs.length x.lc, i64 x.period, i64 x.hold, .string x.note] 50)).alloc (.cells #[i64 0, i64 0, i64 0, i64 0] 44)) = W0 at *
  generalize hrb : w.heap.size + 1 = rb at *
  have Hrb := Lib.hid (show w.heap.size ≤ rb by omega)
  clear hrb
  have Hna := Lib.hid (not_all Hlt.out Hrb.out)
  have Hnm := Lib.hid (not_maps Hlt.out Hrb.out)
  have hp0 := H0.cell
  have HSS := Lib.hid (show ∀ V, Gr W0 V a.maps → (fun V : World => V.cell? ⟨a.p, 0, none⟩ = some (.pointer (some ⟨a.g, 0, none⟩)) ∧ V.cell? ⟨a.p, 1, none⟩ = some (.pointer (some ⟨a.gh, 0, none⟩)) ∧ V.cell? ⟨a.p, 2, none⟩ = some (i64 B.cl) ∧ V.cell? ⟨w.heap.size, 0, none⟩ = some (i64 x.client) ∧ V.cell? ⟨w.heap.size, 1, none⟩ = some (i64 x.seq) ∧ V.cell? ⟨w.heap.size, 2, none⟩ = some (i64 x.kind) ∧ V.cell? ⟨w.heap.size, 3, none⟩ = some (.string x.acct) ∧ V.cell? ⟨w.heap.size, 4, none⟩ = some (.string x.peer) ∧ V.cell? ⟨w.heap.size, 5, none⟩ = some (i64 x.sum) ∧ V.cell? ⟨w.heap.size, 6, none⟩ = some (.slice x.la x.legs.length x.lc) ∧ V.cell? ⟨w.heap.size, 7, none⟩ = some (i64 x.period) ∧ V.cell? ⟨w.heap.size, 8, none⟩ = some (i64 x.hold) ∧ V.cell? ⟨w.heap.size, 9, none⟩ = some (.string x.note)) V from fun V hG => by
    have hp1 := (hG.block a.p (Array.getElem?_eq_some_iff.1 hp0).1 Hap.out.p_maps).trans hp0
    have ho1 := (hG.block w.heap.size hlt0.1 (not_maps Hlt.out (Nat.le_refl _))).trans ho0
    exact ⟨cell_of_row _ a.p 0 _ _ (0, 0) hp1, cell_of_row _ a.p 1 _ _ (0, 0) hp1, cell_of_row _ a.p 2 _ _ (0, 0) hp1, cell_of_row _ w.heap.size 0 _ _ (0, 0) ho1, cell_of_row _ w.heap.size 1 _ _ (0, 0) ho1, cell_of_row _ w.heap.size 2 _ _ (0, 0) ho1, cell_of_row _ w.heap.size 3 _ _ (0, 0) ho1, cell_of_row _ w.heap.size 4 _ _ (0, 0) ho1, cell_of_row _ w.heap.size 5 _ _ (0, 0) ho1, cell_of_row _ w.heap.size 6 _ _ (0, 0) ho1, cell_of_row _ w.heap.size 7 _ _ (0, 0) ho1, cell_of_row _ w.heap.size 8 _ _ (0, 0) ho1, cell_of_row _ w.heap.size 9 _ _ (0, 0) ho1⟩)
  have HR0 := Lib.hid hr0
  have HO0 := Lib.hid ho0
  have HB0 := Lib.hid H0
  have Hb0 := Lib.hid hb0
  have hG0 := Gr.of_below ((Below.refl W0.heap.size W0).drew) a.maps
  clear hp0 ho0 hr0 H0 hb0 h
  have hb0z := Lib.hid Hb0.out.size
  refine (HN.out _).mono ?_
  rintro e W1 ⟨rfl, hF⟩
  have hG := (Gr.of_below hF a.maps).more (Below.refl _ _).drew
  have hB := (HB0.out.later hF).later (Below.refl _ _).drew
  clear hF hG0
  go_wp2_with fail
  refine wp_region_noPanic ?_
  refine wp_region_l 19 (fun V : World => V.cell? ⟨a.p, 0, none⟩ = some (.pointer (some ⟨a.g, 0, none⟩)) ∧ V.cell? ⟨a.p, 1, none⟩ = some (.pointer (some ⟨a.gh, 0, none⟩)) ∧ V.cell? ⟨a.p, 2, none⟩ = some (i64 B.cl) ∧ V.cell? ⟨w.heap.size, 0, none⟩ = some (i64 x.client) ∧ V.cell? ⟨w.heap.size, 1, none⟩ = some (i64 x.seq) ∧ V.cell? ⟨w.heap.size, 2, none⟩ = some (i64 x.kind) ∧ V.cell? ⟨w.heap.size, 3, none⟩ = some (.string x.acct) ∧ V.cell? ⟨w.heap.size, 4, none⟩ = some (.string x.peer) ∧ V.cell? ⟨w.heap.size, 5, none⟩ = some (i64 x.sum) ∧ V.cell? ⟨w.heap.size, 6, none⟩ = some (.slice x.la x.legs.length x.lc) ∧ V.cell? ⟨w.heap.size, 7, none⟩ = some (i64 x.period) ∧ V.cell? ⟨w.heap.size, 8, none⟩ = some (i64 x.hold) ∧ V.cell? ⟨w.heap.size, 9, none⟩ = some (.string x.note)) (by kernel_rfl) (HSS.out _ hG) (fun hH => ?_)
  refine wpAnyL_take (i := 0) (v := ?v20098) rfl (by kernel_rfl) (by kernel_rfl) (by kernel_rfl) (by kernel_rfl) (fun _ _ _ h => h) (Or.inl ⟨by kernel_rfl, ?hy20098⟩) (by assumption) ?r20098
  case hy20098 => (intro W hSW; obtain ⟨s0, s1, s2, s3, s4, s5, s6, s7, s8, s9, s10, s11, s12⟩ := hSW; go_simp; try with_reducible rfl)
  try simp only [Act.put, List.getElem_toArray, List.getElem_cons_zero, List.setIfInBounds_toArray, List.set_cons_zero, List.set_cons_succ]
  refine wpAnyL_take (i := 1) (v := ?v20099) rfl (by kernel_rfl) (by kernel_rfl) (by kernel_rfl) (by kernel_rfl) (fun _ _ _ h => h) (Or.inl ⟨by kernel_rfl, ?hy20099⟩) (by assumption) ?r20099
  case hy20099 => (intro W hSW; obtain ⟨s0, s1, s2, s3, s4, s5, s6, s7, s8, s9, s10, s11, s12⟩ := hSW; go_simp; try with_reducible rfl)
  try simp only [Act.put, List.getElem_toArray, List.getElem_cons_zero, List.getElem_cons_succ, List.setIfInBounds_toArray, List.set_cons_zero, List.set_cons_succ]
  refine wpAnyL_take (i := 2) (v := ?v20100) rfl (by kernel_rfl) (by kernel_rfl) (by kernel_rfl) (by kernel_rfl) (fun _ _ _ h => h) (Or.inl ⟨by kernel_rfl, ?hy20100⟩) (by assumption) ?r20100
  case hy20100 => (intro W hSW; obtain ⟨s0, s1, s2, s3, s4, s5, s6, s7, s8, s9, s10, s11, s12⟩ := hSW; go_simp; try with_reducible rfl)
  try simp only [Act.put, List.getElem_toArray, List.getElem_cons_zero, List.getElem_cons_succ, List.setIfInBounds_toArray, List.set_cons_zero, List.set_cons_succ]
  refine wpAnyL_take (i := 3) (v := ?v20101) rfl (by kernel_rfl) (by kernel_rfl) (by kernel_rfl) (by kernel_rfl) (fun _ _ _ h => h) (Or.inl ⟨by kernel_rfl, ?hy20101⟩) (by assumption) ?r20101
  case hy20101 => (intro W hSW; obtain ⟨s0, s1, s2, s3, s4, s5, s6, s7, s8, s9, s10, s11, s12⟩ := hSW; go_simp; try with_reducible rfl)
  try simp only [Act.put, List.getElem_toArray, List.getElem_cons_zero, List.getElem_cons_succ, List.setIfInBounds_toArray, List.set_cons_zero, List.set_cons_succ]
  refine wpAnyL_take (i := 4) (v := ?v20102) rfl (by kernel_rfl) (by kernel_rfl) (by kernel_rfl) (by kernel_rfl) (fun _ _ _ h => h) (Or.inl ⟨by kernel_rfl, ?hy20102⟩) (by assumption) ?r20102
  case hy20102 => (intro W hSW; obtain ⟨s0, s1, s2, s3, s4, s5, s6, s7, s8, s9, s10, s11, s12⟩ := hSW; go_simp; try with_reducible rfl)
  try simp only [Act.put, List.getElem_toArray, List.getElem_cons_zero, List.getElem_cons_succ, List.setIfInBounds_toArray, List.set_cons_zero, List.set_cons_succ]
  refine wpAnyL_take (i := 5) (v := ?v20103) rfl (by kernel_rfl) (by kernel_rfl) (by kernel_rfl) (by kernel_rfl) (fun _ _ _ h => h) (Or.inl ⟨by kernel_rfl, ?hy20103⟩) (by assumption) ?r20103
  case hy20103 => (intro W hSW; obtain ⟨s0, s1, s2, s3, s4, s5, s6, s7, s8, s9, s10, s11, s12⟩ := hSW; go_simp; try with_reducible rfl)
  try simp only [Act.put, List.getElem_toArray, List.getElem_cons_zero, List.getElem_cons_succ, List.setIfInBounds_toArray, List.set_cons_zero, List.set_cons_succ]
  refine wpAnyL_take (i := 6) (v := ?v20104) rfl (by kernel_rfl) (by kernel_rfl) (by kernel_rfl) (by kernel_rfl) (fun _ _ _ h => h) (Or.inl ⟨by kernel_rfl, ?hy20104⟩) (by assumption) ?r20104
  case hy20104 => (intro W hSW; obtain ⟨s0, s1, s2, s3, s4, s5, s6, s7, s8, s9, s10, s11, s12⟩ := hSW; go_simp; try with_reducible rfl)
  try simp only [Act.put, List.getElem_toArray, List.getElem_cons_zero, List.getElem_cons_succ, List.setIfInBounds_toArray, List.set_cons_zero, List.set_cons_succ]
  refine wpAnyL_take (i := 7) (v := ?v20105) rfl (by kernel_rfl) (by kernel_rfl) (by kernel_rfl) (by kernel_rfl) (fun _ _ _ h => h) (Or.inl ⟨by kernel_rfl, ?hy20105⟩) (by assumption) ?r20105
  case hy20105 => (intro W hSW; obtain ⟨s0, s1, s2, s3, s4, s5, s6, s7, s8, s9, s10, s11, s12⟩ := hSW; go_simp; try with_reducible rfl)
  try simp only [Act.put, List.getElem_toArray, List.getElem_cons_zero, List.getElem_cons_succ, List.setIfInBounds_toArray, List.set_cons_zero, List.set_cons_succ]
  refine wpAnyL_take (i := 8) (v := ?v20106) rfl (by kernel_rfl) (by kernel_rfl) (by kernel_rfl) (by kernel_rfl) (fun _ _ _ h => h) (Or.inl ⟨by kernel_rfl, ?hy20106⟩) (by assumption) ?r20106
  case hy20106 => (intro W hSW; obtain ⟨s0, s1, s2, s3, s4, s5, s6, s7, s8, s9, s10, s11, s12⟩ := hSW; go_simp; try with_reducible rfl)
  try simp only [Act.put, List.getElem_toArray, List.getElem_cons_zero, List.getElem_cons_succ, List.setIfInBounds_toArray, List.set_cons_zero, List.set_cons_succ]
  refine wpAnyL_take (i := 9) (v := ?v20107) rfl (by kernel_rfl) (by kernel_rfl) (by kernel_rfl) (by kernel_rfl) (fun _ _ _ h => h) (Or.inl ⟨by kernel_rfl, ?hy20107⟩) (by assumption) ?r20107
  case hy20107 => (intro W hSW; obtain ⟨s0, s1, s2, s3, s4, s5, s6, s7, s8, s9, s10, s11, s12⟩ := hSW; go_simp; try with_reducible rfl)
  try simp only [Act.put, List.getElem_toArray, List.getElem_cons_zero, List.getElem_cons_succ, List.setIfInBounds_toArray, List.set_cons_zero, List.set_cons_succ]
  refine wpAnyL_take (i := 10) (v := ?v20108) rfl (by kernel_rfl) (by kernel_rfl) (by kernel_rfl) (by kernel_rfl) (fun _ _ _ h => h) (Or.inl ⟨by kernel_rfl, ?hy20108⟩) (by assumption) ?r20108
  case hy20108 => (intro W hSW; obtain ⟨s0, s1, s2, s3, s4, s5, s6, s7, s8, s9, s10, s11, s12⟩ := hSW; go_simp; try with_reducible rfl)
  try simp only [Act.put, List.getElem_toArray, List.getElem_cons_zero, List.getElem_cons_succ, List.setIfInBounds_toArray, List.set_cons_zero, List.set_cons_succ]
  refine wpAnyL_take (i := 11) (v := ?v20109) rfl (by kernel_rfl) (by kernel_rfl) (by kernel_rfl) (by kernel_rfl) (fun _ _ _ h => h) (Or.inl ⟨by kernel_rfl, ?hy20109⟩) (by assumption) ?r20109
  case hy20109 => (intro W hSW; obtain ⟨s0, s1, s2, s3, s4, s5, s6, s7, s8, s9, s10, s11, s12⟩ := hSW; go_simp; try with_reducible rfl)
  try simp only [Act.put, List.getElem_toArray, List.getElem_cons_zero, List.getElem_cons_succ, List.setIfInBounds_toArray, List.set_cons_zero, List.set_cons_succ]
  refine wpAnyL_take (i := 12) (v := ?v20110) rfl (by kernel_rfl) (by kernel_rfl) (by kernel_rfl) (by kernel_rfl) (fun _ _ _ h => h) (Or.inl ⟨by kernel_rfl, ?hy20110⟩) (by assumption) ?r20110
  case hy20110 => (intro W hSW; obtain ⟨s0, s1, s2, s3, s4, s5, s6, s7, s8, s9, s10, s11, s12⟩ := hSW; go_simp; try with_reducible rfl)
  try simp only [Act.put, List.getElem_toArray, List.getElem_cons_zero, List.getElem_cons_succ, List.setIfInBounds_toArray, List.set_cons_zero, List.set_cons_succ]
  refine wpAnyL_take (i := 13) (v := ?v20111) rfl (by kernel_rfl) (by kernel_rfl) (by kernel_rfl) (by kernel_rfl) (fun _ _ _ h => h) (Or.inl ⟨by kernel_rfl, ?hy20111⟩) (by assumption) ?r20111
  case hy20111 => (intro W hSW; obtain ⟨s0, s1, s2, s3, s4, s5, s6, s7, s8, s9, s10, s11, s12⟩ := hSW; go_simp; try with_reducible rfl)
  try simp only [Act.put, List.getElem_toArray, List.getElem_cons_zero, List.getElem_cons_succ, List.setIfInBounds_toArray, List.set_cons_zero, List.set_cons_succ]
  refine wpAnyL_take (i := 14) (v := ?v20112) rfl (by kernel_rfl) (by kernel_rfl) (by kernel_rfl) (by kernel_rfl) (fun _ _ _ h => h) (Or.inl ⟨by kernel_rfl, ?hy20112⟩) (by assumption) ?r20112
  case hy20112 => (intro W hSW; obtain ⟨s0, s1, s2, s3, s4, s5, s6, s7, s8, s9, s10, s11, s12⟩ := hSW; go_simp; try with_reducible rfl)
  try simp only [Act.put, List.getElem_toArray, List.getElem_cons_zero, List.getElem_cons_succ, List.setIfInBounds_toArray, List.set_cons_zero, List.set_cons_succ]
  refine wpAnyL_take (i := 15) (v := ?v20113) rfl (by kernel_rfl) (by kernel_rfl) (by kernel_rfl) (by kernel_rfl) (fun _ _ _ h => h) (Or.inl ⟨by kernel_rfl, ?hy20113⟩) (by assumption) ?r20113
  case hy20113 => (intro W hSW; obtain ⟨s0, s1, s2, s3, s4, s5, s6, s7, s8, s9, s10, s11, s12⟩ := hSW; go_simp; try with_reducible rfl)
  try simp only [Act.put, List.getElem_toArray, List.getElem_cons_zero, List.getElem_cons_succ, List.setIfInBounds_toArray, List.set_cons_zero, List.set_cons_succ]
  refine wpAnyL_ready (rs := [16, 18]) (by kernel_rfl) (by simp) ?_
  refine AllReadyL.cons rfl (fun K hK => ?_) ?_
  · skip
    go_simp
    refine (HC.out _ hB).mono ?_
    rintro e W2 ⟨rfl, hc1, hh1, hg1⟩
    obtain ⟨hB, hg1⟩ := hB.both hc1 hh1 hg1
    clear hc1 hh1
    have hG := hG.after hg1
    clear hg1
    refine hK.out _ _ (HSS.out _ hG) (fun hH => ?_)
    clear hK K
    try simp only [Act.put, List.getElem_toArray, List.getElem_cons_zero, List.getElem_cons_succ, List.setIfInBounds_toArray, List.set_cons_zero, List.set_cons_succ]
    refine wpAnyL_ready (rs := [17, 18]) (by kernel_rfl) (by simp) ?_
    refine AllReadyL.cons rfl (fun K hK => ?_) ?_
    · skip
      go_simp
      refine (HT.out _ hB).mono ?_
      rintro e W3 ⟨rfl, hF⟩
      have hB := hB.later hF
      have hG := hG.more hF
      clear hF
      refine hK.out _ _ (HSS.out _ hG) (fun hH => ?_)
      clear hK K
      try simp only [Act.put, List.getElem_toArray, List.getElem_cons_zero, List.getElem_cons_succ, List.setIfInBounds_toArray, List.set_cons_zero, List.set_cons_succ]
      refine wpAnyL_one (i := 18) (by kernel_rfl) rfl (by decide) (fun K hK => ?_)
      go_simp
      obtain ⟨ab, hab, hal⟩ : ∃ ab, ab = W3.heap.size ∧ (W3.alloc (.cells #[i64 0, i64 0, i64 0, i64 0] 44)).heap[ab]? = some (.cells #[i64 0, i64 0, i64 0, i64 0] 44) := ⟨_, rfl, heap_alloc_new W3 _⟩
      have Hab := Lib.hid hab
      have hgz := hG.size
      have hwz := hb0z.out
      have Hgw := Lib.hid (show W0.heap.size ≤ ab by rw [hab]; exact hgz)
      have Hge := Lib.hid (show w.heap.size ≤ ab from Nat.le_trans hwz Hgw.out)
      have Hne := Lib.hid (show rb ≠ ab by have := hlt0.2; have := Hgw.out; omega)
      clear hab hgz hwz
      have hB := hB.later ((Below.refl _ _).alloc (Nat.le_refl _) (.cells #[i64 0, i64 0, i64 0, i64 0] 44))
      have hG := hG.more ((Below.refl _ _).alloc (Nat.le_refl _) (.cells #[i64 0, i64 0, i64 0, i64 0] 44))
      refine hK.out _ _ (HSS.out _ hG) (fun hH => ?_)
      clear hK K
      try simp only [Act.put, List.getElem_toArray, List.getElem_cons_zero, List.getElem_cons_succ, List.setIfInBounds_toArray, List.set_cons_zero, List.set_cons_succ]
      refine wpAnyL_last (by kernel_rfl) rfl (fun K hK => ?_)
      refine wp_store_row 44 (.tmp 6) (.tmp 27) rfl ab #[i64 t.err, i64 t.hav, i64 t.set_, i64 t.num] (by rw [Hab.out] <;> rfl) rfl 44 #[i64 0, i64 0, i64 0, i64 0] hal (by kernel_rfl) rfl (by simp [Value.oneCell']) ?_
      refine hK.out _ _ ?_
      clear hK K
      try simp only [Act.put, List.getElem_toArray, List.getElem_cons_zero, List.getElem_cons_succ]
      have hal := setRow_heap _ ab _ #[i64 t.err, i64 t.hav, i64 t.set_, i64 t.num] _ _ hal
      have hB := hB.row (not_all Hlt.out Hge.out) #[i64 t.err, i64 t.hav, i64 t.set_, i64 t.num]
      have hG := hG.own_row Hgw.out #[i64 t.err, i64 t.hav, i64 t.set_, i64 t.num]
      refine wpAnyL_done (by kernel_rfl) ?_ _
      refine NoPanic.normal ?_
      generalize ((W3.alloc (.cells #[i64 0, i64 0, i64 0, i64 0] 44))).setRow ab #[i64 t.err, i64 t.hav, i64 t.set_, i64 t.num] = W4 at *
      have hr := (hG.block rb hlt0.2 Hnm.out).trans HR0.out
      have k0 := cell_of_row _ ab 0 _ _ (0, 0) hal
      have k1 := cell_of_row _ ab 1 _ _ (0, 0) hal
      have k2 := cell_of_row _ ab 2 _ _ (0, 0) hal
      have k3 := cell_of_row _ ab 3 _ _ (0, 0) hal
      have kf := frozen_of_row _ ab 3 _ _ hal
      simp only [List.getElem?_toArray, List.getElem?_cons_zero, List.getElem?_cons_succ] at k0 k1 k2 k3
      have hab2 := Hab.out
      subst hab2
      by_cases ht : t.err = 0
      · have g5 : (t.err == 0) = true := by rw [ht]; rfl
        have hg4 := grown_setCell (World.grownBy.refl W4 (some W3.heap.size)) (p := ⟨W3.heap.size, 3, none⟩) (.inl rfl) (i64 N)
        have hal4 := heap_setCell_same W4 W3.heap.size 3 _ _ (i64 N) hal
        simp only [List.setIfInBounds_toArray, List.set_cons_zero, List.set_cons_succ] at hal4
        have hr4 := (hg4.block rb (Array.getElem?_eq_some_iff.1 hr).1 (fun e => Hne.out (by injection e))).trans hr
        have hG4 : Gr W4 (W4.setCell ⟨W3.heap.size, 3, none⟩ (i64 N)) (fun k => k = W3.heap.size) := (Gr.of_grown hg4).mono fun k _ e => by injection e with e; exact e.symm
        have hB := hB.kept hG4 (not_all Hlt.out Hge.out)
        have hG := ((Gr.of_below Hb0.out a.maps).after hG).trans hG4 (fun k e => .inr (by rw [e]; exact Hge.out))
        have HRow := Lib.hid (setRow_heap _ rb _ #[i64 t.err, i64 t.hav, i64 t.set_, i64 N] _ _ hr4)
        have HB9 := Lib.hid (hB.row Hna.out #[i64 t.err, i64 t.hav, i64 t.set_, i64 N])
        have HG9 := Lib.hid (hG.own_row Hrb.out #[i64 t.err, i64 t.hav, i64 t.set_, i64 N])
        have HW := Lib.hid (show withN t N = ⟨t.err, t.hav, t.set_, N⟩ by unfold withN; rw [if_pos ht])
        clear hB hG hg4 hG4 ht hal
        go_wp2_with (first | refine wpList_store_row rfl 44 (.tmp 4) (.tmp 33) rfl rb #[i64 t.err, i64 t.hav, i64 t.set_, i64 N] rfl rfl 44 #[i64 0, i64 0, i64 0, i64 0] hr4 (by kernel_rfl) rfl (by simp [Value.oneCell']) ?_ | refine wpList_load_row rfl 44 (.tmp 6) rfl W3.heap.size rfl 44 #[i64 t.err, i64 t.hav, i64 t.set_, i64 N] _ _ hal4 Tryz.underlying44 rfl (by kernel_rfl) ?_)
        have hrow := HRow.out
        exact bodyPost_ret (results_cell_row rfl _ _ rb 44 _ (0, 0) _ rfl hrow Tryz.underlying44 rfl (by kernel_rfl)) rfl ⟨by rw [HW.out], HB9.out, HG9.out.mono (fun _ _ e => BA.maps_own e)⟩
      · have g5 : (t.err == 0) = false := beq_eq_false_iff_ne.2 ht
        have hG := (Gr.of_below Hb0.out a.maps).after hG
        have HRow := Lib.hid (setRow_heap W4 rb _ #[i64 t.err, i64 t.hav, i64 t.set_, i64 t.num] _ _ hr)
        have HB9 := Lib.hid (hB.row Hna.out #[i64 t.err, i64 t.hav, i64 t.set_, i64 t.num])
        have HG9 := Lib.hid (hG.own_row Hrb.out #[i64 t.err, i64 t.hav, i64 t.set_, i64 t.num])
        have HW := Lib.hid (show withN t N = t by unfold withN; rw [if_neg ht])
        clear hB hG ht hal
        go_wp2_with (refine wpList_store_row rfl 44 (.tmp 4) (.tmp 33) rfl rb #[i64 t.err, i64 t.hav, i64 t.set_, i64 t.num] rfl rfl 44 #[i64 0, i64 0, i64 0, i64 0] hr (by kernel_rfl) rfl (by simp [Value.oneCell']) ?_)
        have hrow := HRow.out
        exact bodyPost_ret (results_cell_row rfl _ _ rb 44 _ (0, 0) _ rfl hrow Tryz.underlying44 rfl (by kernel_rfl)) rfl ⟨by rw [HW.out], HB9.out, HG9.out.mono (fun _ _ e => BA.maps_own e)⟩
    refine AllReadyL.cons rfl (fun K hK => ?_) ?_
    · skip
      go_simp
      obtain ⟨ab, hab, hal⟩ : ∃ ab, ab = W2.heap.size ∧ (W2.alloc (.cells #[i64 0, i64 0, i64 0, i64 0] 44)).heap[ab]? = some (.cells #[i64 0, i64 0, i64 0, i64 0] 44) := ⟨_, rfl, heap_alloc_new W2 _⟩
      have Hab := Lib.hid hab
      have hgz := hG.size
      have hwz := hb0z.out
      have Hgw := Lib.hid (show W0.heap.size ≤ ab by rw [hab]; exact hgz)
      have Hge := Lib.hid (show w.heap.size ≤ ab from Nat.le_trans hwz Hgw.out)
      have Hne := Lib.hid (show rb ≠ ab by have := hlt0.2; have := Hgw.out; omega)
      clear hab hgz hwz
      have hB := hB.later ((Below.refl _ _).alloc (Nat.le_refl _) (.cells #[i64 0, i64 0, i64 0, i64 0] 44))
      have hG := hG.more ((Below.refl _ _).alloc (Nat.le_refl _) (.cells #[i64 0, i64 0, i64 0, i64 0] 44))
      refine hK.out _ _ (HSS.out _ hG) (fun hH => ?_)
      clear hK K
      try simp only [Act.put, List.getElem_toArray, List.getElem_cons_zero, List.getElem_cons_succ, List.setIfInBounds_toArray, List.set_cons_zero, List.set_cons_succ]
      refine wpAnyL_one (i := 17) (by kernel_rfl) rfl (by decide) (fun K hK => ?_)
      go_simp
      refine (HT.out _ hB).mono ?_
      rintro e W3 ⟨rfl, hF⟩
      have hal := (hF.block ab (Array.getElem?_eq_some_iff.1 hal).1).trans hal
      have hB := hB.later hF
      have hG := hG.more hF
      clear hF
      refine hK.out _ _ (HSS.out _ hG) (fun hH => ?_)
      clear hK K
      try simp only [Act.put, List.getElem_toArray, List.getElem_cons_zero, List.getElem_cons_succ, List.setIfInBounds_toArray, List.set_cons_zero, List.set_cons_succ]
      refine wpAnyL_last (by kernel_rfl) rfl (fun K hK => ?_)
      refine wp_store_row 44 (.tmp 6) (.tmp 27) rfl ab #[i64 t.err, i64 t.hav, i64 t.set_, i64 t.num] (by rw [Hab.out] <;> rfl) rfl 44 #[i64 0, i64 0, i64 0, i64 0] hal (by kernel_rfl) rfl (by simp [Value.oneCell']) ?_
      refine hK.out _ _ ?_
      clear hK K
      try simp only [Act.put, List.getElem_toArray, List.getElem_cons_zero, List.getElem_cons_succ]
      have hal := setRow_heap _ ab _ #[i64 t.err, i64 t.hav, i64 t.set_, i64 t.num] _ _ hal
      have hB := hB.row (not_all Hlt.out Hge.out) #[i64 t.err, i64 t.hav, i64 t.set_, i64 t.num]
      have hG := hG.own_row Hgw.out #[i64 t.err, i64 t.hav, i64 t.set_, i64 t.num]
      refine wpAnyL_done (by kernel_rfl) ?_ _
      refine NoPanic.normal ?_
      generalize (W3).setRow ab #[i64 t.err, i64 t.hav, i64 t.set_, i64 t.num] = W4 at *
      have hr := (hG.block rb hlt0.2 Hnm.out).trans HR0.out
      have k0 := cell_of_row _ ab 0 _ _ (0, 0) hal
      have k1 := cell_of_row _ ab 1 _ _ (0, 0) hal
      have k2 := cell_of_row _ ab 2 _ _ (0, 0) hal
      have k3 := cell_of_row _ ab 3 _ _ (0, 0) hal
      have kf := frozen_of_row _ ab 3 _ _ hal
      simp only [List.getElem?_toArray, List.getElem?_cons_zero, List.getElem?_cons_succ] at k0 k1 k2 k3
      have hab2 := Hab.out
      subst hab2
      by_cases ht : t.err = 0
      · have g5 : (t.err == 0) = true := by rw [ht]; rfl
        have hg4 := grown_setCell (World.grownBy.refl W4 (some W2.heap.size)) (p := ⟨W2.heap.size, 3, none⟩) (.inl rfl) (i64 N)
        have hal4 := heap_setCell_same W4 W2.heap.size 3 _ _ (i64 N) hal
        simp only [List.setIfInBounds_toArray, List.set_cons_zero, List.set_cons_succ] at hal4
        have hr4 := (hg4.block rb (Array.getElem?_eq_some_iff.1 hr).1 (fun e => Hne.out (by injection e))).trans hr
        have hG4 : Gr W4 (W4.setCell ⟨W2.heap.size, 3, none⟩ (i64 N)) (fun k => k = W2.heap.size) := (Gr.of_grown hg4).mono fun k _ e => by injection e with e; exact e.symm
        have hB := hB.kept hG4 (not_all Hlt.out Hge.out)
        have hG := ((Gr.of_below Hb0.out a.maps).after hG).trans hG4 (fun k e => .inr (by rw [e]; exact Hge.out))
        have HRow := Lib.hid (setRow_heap _ rb _ #[i64 t.err, i64 t.hav, i64 t.set_, i64 N] _ _ hr4)
        have HB9 := Lib.hid (hB.row Hna.out #[i64 t.err, i64 t.hav, i64 t.set_, i64 N])
        have HG9 := Lib.hid (hG.own_row Hrb.out #[i64 t.err, i64 t.hav, i64 t.set_, i64 N])
        have HW := Lib.hid (show withN t N = ⟨t.err, t.hav, t.set_, N⟩ by unfold withN; rw [if_pos ht])
        clear hB hG hg4 hG4 ht hal
        go_wp2_with (first | refine wpList_store_row rfl 44 (.tmp 4) (.tmp 33) rfl rb #[i64 t.err, i64 t.hav, i64 t.set_, i64 N] rfl rfl 44 #[i64 0, i64 0, i64 0, i64 0] hr4 (by kernel_rfl) rfl (by simp [Value.oneCell']) ?_ | refine wpList_load_row rfl 44 (.tmp 6) rfl W2.heap.size rfl 44 #[i64 t.err, i64 t.hav, i64 t.set_, i64 N] _ _ hal4 Tryz.underlying44 rfl (by kernel_rfl) ?_)
        have hrow := HRow.out
        exact bodyPost_ret (results_cell_row rfl _ _ rb 44 _ (0, 0) _ rfl hrow Tryz.underlying44 rfl (by kernel_rfl)) rfl ⟨by rw [HW.out], HB9.out, HG9.out.mono (fun _ _ e => BA.maps_own e)⟩
      · have g5 : (t.err == 0) = false := beq_eq_false_iff_ne.2 ht
        have hG := (Gr.of_below Hb0.out a.maps).after hG
        have HRow := Lib.hid (setRow_heap W4 rb _ #[i64 t.err, i64 t.hav, i64 t.set_, i64 t.num] _ _ hr)
        have HB9 := Lib.hid (hB.row Hna.out #[i64 t.err, i64 t.hav, i64 t.set_, i64 t.num])
        have HG9 := Lib.hid (hG.own_row Hrb.out #[i64 t.err, i64 t.hav, i64 t.set_, i64 t.num])
        have HW := Lib.hid (show withN t N = t by unfold withN; rw [if_neg ht])
        clear hB hG ht hal
        go_wp2_with (refine wpList_store_row rfl 44 (.tmp 4) (.tmp 33) rfl rb #[i64 t.err, i64 t.hav, i64 t.set_, i64 t.num] rfl rfl 44 #[i64 0, i64 0, i64 0, i64 0] hr (by kernel_rfl) rfl (by simp [Value.oneCell']) ?_)
        have hrow := HRow.out
        exact bodyPost_ret (results_cell_row rfl _ _ rb 44 _ (0, 0) _ rfl hrow Tryz.underlying44 rfl (by kernel_rfl)) rfl ⟨by rw [HW.out], HB9.out, HG9.out.mono (fun _ _ e => BA.maps_own e)⟩
    exact AllReadyL.nil
  refine AllReadyL.cons rfl (fun K hK => ?_) ?_
  · skip
    go_simp
    obtain ⟨ab, hab, hal⟩ : ∃ ab, ab = W1.heap.size ∧ (W1.drew.alloc (.cells #[i64 0, i64 0, i64 0, i64 0] 44)).heap[ab]? = some (.cells #[i64 0, i64 0, i64 0, i64 0] 44) := ⟨_, rfl, heap_alloc_new W1.drew _⟩
    have Hab := Lib.hid hab
    have hgz := hG.size
    have hwz := hb0z.out
    have Hgw := Lib.hid (show W0.heap.size ≤ ab by rw [hab]; exact hgz)
    have Hge := Lib.hid (show w.heap.size ≤ ab from Nat.le_trans hwz Hgw.out)
    have Hne := Lib.hid (show rb ≠ ab by have := hlt0.2; have := Hgw.out; omega)
    clear hab hgz hwz
    have hB := hB.later ((Below.refl _ _).alloc (Nat.le_refl _) (.cells #[i64 0, i64 0, i64 0, i64 0] 44))
    have hG := hG.more ((Below.refl _ _).alloc (Nat.le_refl _) (.cells #[i64 0, i64 0, i64 0, i64 0] 44))
    refine hK.out _ _ (HSS.out _ hG) (fun hH => ?_)
    clear hK K
    try simp only [Act.put, List.getElem_toArray, List.getElem_cons_zero, List.getElem_cons_succ, List.setIfInBounds_toArray, List.set_cons_zero, List.set_cons_succ]
    refine wpAnyL_one (i := 16) (by kernel_rfl) rfl (by decide) (fun K hK => ?_)
    go_simp
    refine (HC.out _ hB).mono ?_
    rintro e W2 ⟨rfl, hc1, hh1, hg1⟩
    obtain ⟨hB, hg1⟩ := hB.both hc1 hh1 hg1
    clear hc1 hh1
    have hal := (hg1.block ab (Array.getElem?_eq_some_iff.1 hal).1 (not_maps Hlt.out Hge.out)).trans hal
    have hG := hG.after hg1
    clear hg1
    refine hK.out _ _ (HSS.out _ hG) (fun hH => ?_)
    clear hK K
    try simp only [Act.put, List.getElem_toArray, List.getElem_cons_zero, List.getElem_cons_succ, List.setIfInBounds_toArray, List.set_cons_zero, List.set_cons_succ]
    refine wpAnyL_one (i := 17) (by kernel_rfl) rfl (by decide) (fun K hK => ?_)
    go_simp
    refine (HT.out _ hB).mono ?_
    rintro e W3 ⟨rfl, hF⟩
    have hal := (hF.block ab (Array.getElem?_eq_some_iff.1 hal).1).trans hal
    have hB := hB.later hF
    have hG := hG.more hF
    clear hF
    refine hK.out _ _ (HSS.out _ hG) (fun hH => ?_)
    clear hK K
    try simp only [Act.put, List.getElem_toArray, List.getElem_cons_zero, List.getElem_cons_succ, List.setIfInBounds_toArray, List.set_cons_zero, List.set_cons_succ]
    refine wpAnyL_last (by kernel_rfl) rfl (fun K hK => ?_)
    refine wp_store_row 44 (.tmp 6) (.tmp 27) rfl ab #[i64 t.err, i64 t.hav, i64 t.set_, i64 t.num] (by rw [Hab.out] <;> rfl) rfl 44 #[i64 0, i64 0, i64 0, i64 0] hal (by kernel_rfl) rfl (by simp [Value.oneCell']) ?_
    refine hK.out _ _ ?_
    clear hK K
    try simp only [Act.put, List.getElem_toArray, List.getElem_cons_zero, List.getElem_cons_succ]
    have hal := setRow_heap _ ab _ #[i64 t.err, i64 t.hav, i64 t.set_, i64 t.num] _ _ hal
    have hB := hB.row (not_all Hlt.out Hge.out) #[i64 t.err, i64 t.hav, i64 t.set_, i64 t.num]
    have hG := hG.own_row Hgw.out #[i64 t.err, i64 t.hav, i64 t.set_, i64 t.num]
    refine wpAnyL_done (by kernel_rfl) ?_ _
    refine NoPanic.normal ?_
    generalize (W3).setRow ab #[i64 t.err, i64 t.hav, i64 t.set_, i64 t.num] = W4 at *
    have hr := (hG.block rb hlt0.2 Hnm.out).trans HR0.out
    have k0 := cell_of_row _ ab 0 _ _ (0, 0) hal
    have k1 := cell_of_row _ ab 1 _ _ (0, 0) hal
    have k2 := cell_of_row _ ab 2 _ _ (0, 0) hal
    have k3 := cell_of_row _ ab 3 _ _ (0, 0) hal
    have kf := frozen_of_row _ ab 3 _ _ hal
    simp only [List.getElem?_toArray, List.getElem?_cons_zero, List.getElem?_cons_succ] at k0 k1 k2 k3
    have hab2 := Hab.out
    subst hab2
    by_cases ht : t.err = 0
    · have g5 : (t.err == 0) = true := by rw [ht]; rfl
      have hg4 := grown_setCell (World.grownBy.refl W4 (some W1.heap.size)) (p := ⟨W1.heap.size, 3, none⟩) (.inl rfl) (i64 N)
      have hal4 := heap_setCell_same W4 W1.heap.size 3 _ _ (i64 N) hal
      simp only [List.setIfInBounds_toArray, List.set_cons_zero, List.set_cons_succ] at hal4
      have hr4 := (hg4.block rb (Array.getElem?_eq_some_iff.1 hr).1 (fun e => Hne.out (by injection e))).trans hr
      have hG4 : Gr W4 (W4.setCell ⟨W1.heap.size, 3, none⟩ (i64 N)) (fun k => k = W1.heap.size) := (Gr.of_grown hg4).mono fun k _ e => by injection e with e; exact e.symm
      have hB := hB.kept hG4 (not_all Hlt.out Hge.out)
      have hG := ((Gr.of_below Hb0.out a.maps).after hG).trans hG4 (fun k e => .inr (by rw [e]; exact Hge.out))
      have HRow := Lib.hid (setRow_heap _ rb _ #[i64 t.err, i64 t.hav, i64 t.set_, i64 N] _ _ hr4)
      have HB9 := Lib.hid (hB.row Hna.out #[i64 t.err, i64 t.hav, i64 t.set_, i64 N])
      have HG9 := Lib.hid (hG.own_row Hrb.out #[i64 t.err, i64 t.hav, i64 t.set_, i64 N])
      have HW := Lib.hid (show withN t N = ⟨t.err, t.hav, t.set_, N⟩ by unfold withN; rw [if_pos ht])
      clear hB hG hg4 hG4 ht hal
      go_wp2_with (first | refine wpList_store_row rfl 44 (.tmp 4) (.tmp 33) rfl rb #[i64 t.err, i64 t.hav, i64 t.set_, i64 N] rfl rfl 44 #[i64 0, i64 0, i64 0, i64 0] hr4 (by kernel_rfl) rfl (by simp [Value.oneCell']) ?_ | refine wpList_load_row rfl 44 (.tmp 6) rfl W1.heap.size rfl 44 #[i64 t.err, i64 t.hav, i64 t.set_, i64 N] _ _ hal4 Tryz.underlying44 rfl (by kernel_rfl) ?_)
      have hrow := HRow.out
      exact bodyPost_ret (results_cell_row rfl _ _ rb 44 _ (0, 0) _ rfl hrow Tryz.underlying44 rfl (by kernel_rfl)) rfl ⟨by rw [HW.out], HB9.out, HG9.out.mono (fun _ _ e => BA.maps_own e)⟩
    · have g5 : (t.err == 0) = false := beq_eq_false_iff_ne.2 ht
      have hG := (Gr.of_below Hb0.out a.maps).after hG
      have HRow := Lib.hid (setRow_heap W4 rb _ #[i64 t.err, i64 t.hav, i64 t.set_, i64 t.num] _ _ hr)
      have HB9 := Lib.hid (hB.row Hna.out #[i64 t.err, i64 t.hav, i64 t.set_, i64 t.num])
      have HG9 := Lib.hid (hG.own_row Hrb.out #[i64 t.err, i64 t.hav, i64 t.set_, i64 t.num])
      have HW := Lib.hid (show withN t N = t by unfold withN; rw [if_neg ht])
      clear hB hG ht hal
      go_wp2_with (refine wpList_store_row rfl 44 (.tmp 4) (.tmp 33) rfl rb #[i64 t.err, i64 t.hav, i64 t.set_, i64 t.num] rfl rfl 44 #[i64 0, i64 0, i64 0, i64 0] hr (by kernel_rfl) rfl (by simp [Value.oneCell']) ?_)
      have hrow := HRow.out
      exact bodyPost_ret (results_cell_row rfl _ _ rb 44 _ (0, 0) _ rfl hrow Tryz.underlying44 rfl (by kernel_rfl)) rfl ⟨by rw [HW.out], HB9.out, HG9.out.mono (fun _ _ e => BA.maps_own e)⟩
  exact AllReadyL.nil
end Go.Proofs.YtdkkblhfjblpkaaGreat
