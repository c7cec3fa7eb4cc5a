/- book: open, post, hold, capture, release, shut, ask -/
import Derived.Test.YtampniiehgimhaaGreatRows
import Derived.Test.YtampniiehgimhaaGreatBs9
import Derived.Test.YtampniiehgimhaaGreatBs4
import Derived.Test.YtampniiehgimhaaGreatBs5
import Derived.WalkKit
import Derived.WalkSpells
import Derived.WalkLawsBesides
import Derived.Deep.QuietTactic
import Derived.BigQuiet
import Derived.Laws.StructEq
import Derived.Deep.DeepFit
import Derived.StillTailTactics

namespace Go.Proofs.YtampniiehgimhaaGreat
open Go.RowKit
set_option maxRecDepth 100000 in
set_option maxHeartbeats 1000000 in
theorem number9_c (c s : Int) (w : World) (h : (0 ≤ c ∧ c ≤ 9) ∧ 1 ≤ s ∧ s ≤ 999) : Calls Tryz.prog 165 #[.agg #[i64 c, i64 s]] w fun e w' => e = .returned (i64 (1000 * c + s)) ∧ Below w.heap.size w w' := by
 have e1 : IntKind.i64.wrap (1000 * c) = 1000 * c := by rw [IntKind.wrap_i64]; omega
 have e2 : IntKind.i64.wrap (1000 * c + s) = 1000 * c + s := by rw [IntKind.wrap_i64]; omega
 have e3 : wrap64 (1000 * c) = 1000 * c := by rw [← IntWalk.i64_left]; exact e1
 have e4 : wrap64 (1000 * c + s) = 1000 * c + s := by rw [← IntWalk.i64_left]; exact e2
 have hb := (Below.refl w.heap.size w).alloc (Nat.le_refl _) (.cells #[i64 c, i64 s] 34)
 clear h
 go_enter Tryz.func165, Tryz.ntmps165
 go_wp2
 go_ret
 exact ⟨by first | rfl | simp only [e3, e4], hb⟩
theorem OdIn.later {w w' : World} {a : BA} {x : Od} (h : OdIn w a x) (hb : Below w.heap.size w w') : OdIn w' a x :=
 ⟨Enc.keep (α := Od) h.1 (fun _ hp => hb.cell hp.1) (fun _ hk => ⟨Nat.lt_of_lt_of_le hk.1 hb.size, hk.2⟩), h.2⟩
theorem OdIn.okb {w : World} {a : BA} {x : Od} (h : OdIn w a x) : Okb w w.heap.size x := Enc.keep (α := Od) h.1 (fun _ _ => rfl) (fun _ h => h.1)
theorem BkA.shut {w : World} {a : BA} {B : Bk} (h : BkA w a B) (n : Int) : BkA (w.setCell ⟨a.p, 2, none⟩ (i64 n)) a ⟨B.L, B.H, n⟩ ∧ Gr w (w.setCell ⟨a.p, 2, none⟩ (i64 n)) (fun k => k = a.p) := by
 have hg := grown_setCell (World.grownBy.refl w (some a.p)) (p := ⟨a.p, 2, none⟩) (.inl rfl) (i64 n)
 have hk := Gr.of_grown hg
 exact ⟨⟨heap_setCell_same w a.p 2 _ _ (i64 n) h.cell, h.ch.kept hk (fun e => h.ap.pg (by injection e)) (fun e => h.ap.pb (by injection e)), h.ho.kept hk (fun e => h.ap.pgh (by injection e)) (fun e => h.ap.pbh (by injection e)), h.ap⟩, hk.mono fun k _ e => by injection e with e; exact e.symm⟩
set_option maxRecDepth 100000 in
set_option maxHeartbeats 8000000 in
theorem bopen_c (a : BA) (B : Bk) (x : Od) (w : World) (h : BkA w a B) (_hI : InvB B) (_hx : OdB x) :
  Calls Tryz.prog 104 #[a.ptr, x.v] w fun e w' => e = .returned (openD B x).1.v ∧ BkA w' a (openD B x).2 ∧ Gr w w' a.own := by
 unfold openD
 have HC := Lib.hid (fun (W : World) (hW : BkA W a B) => openA_c a.g a.b B.L x.acct x.sum W hW.ch)
 have HT := Lib.hid (fun (W : World) (hW : BkA W a ⟨(openL B.L x.acct x.sum).2, B.H, B.cl⟩) => btells_c a _ x (openL B.L x.acct x.sum).1 W hW)
 clear _hI _hx
 dsimp only at *
 generalize openL B.L x.acct x.sum = R at *
 obtain ⟨er, L2⟩ := R
 dsimp only at *
 generalize tellsL L2 x.acct er = t at *
 have hb0 : Below w.heap.size w ((w.alloc (.cells #[i64 x.client, i64 x.seq, i64 x.kind, .string x.acct, .string x.peer, i64 x.sum, .slice x.la x.legs.length x.lc, i64 x.period, i64 x.hold, .string x.note] 37)).alloc (.cells #[i64 0, i64 0, i64 0, i64 0] 31)) := ((Below.refl w.heap.size w).alloc (Nat.le_refl _) (.cells #[i64 x.client, i64 x.seq, i64 x.kind, .string x.acct, .string x.peer, i64 x.sum, .slice x.la x.legs.length x.lc, i64 x.period, i64 x.hold, .string x.note] 37)).alloc (by simp) (.cells #[i64 0, i64 0, i64 0, i64 0] 31)
 have ho0 := heap_alloc2_old w (.cells #[i64 x.client, i64 x.seq, i64 x.kind, .string x.acct, .string x.peer, i64 x.sum, .slice x.la x.legs.length x.lc, i64 x.period, i64 x.hold, .string x.note] 37) (.cells #[i64 0, i64 0, i64 0, i64 0] 31)
 have hr0 := heap_alloc2_new w (.cells #[i64 x.client, i64 x.seq, i64 x.kind, .string x.acct, .string x.peer, i64 x.sum, .slice x.la x.legs.length x.lc, i64 x.period, i64 x.hold, .string x.note] 37) (.cells #[i64 0, i64 0, i64 0, i64 0] 31)
 have hlt0 : w.heap.size < ((w.alloc (.cells #[i64 x.client, i64 x.seq, i64 x.kind, .string x.acct, .string x.peer, i64 x.sum, .slice x.la x.legs.length x.lc, i64 x.period, i64 x.hold, .string x.note] 37)).alloc (.cells #[i64 0, i64 0, i64 0, i64 0] 31)).heap.size ∧ w.heap.size + 1 < ((w.alloc (.cells #[i64 x.client, i64 x.seq, i64 x.kind, .string x.acct, .string x.peer, i64 x.sum, .slice x.la x.legs.length x.lc, i64 x.period, i64 x.hold, .string x.note] 37)).alloc (.cells #[i64 0, i64 0, i64 0, i64 0] 31)).heap.size := ⟨by simp; omega, by simp⟩
 have Hlt := Lib.hid h.lt
 have Hap := Lib.hid h.ap
 have H0 := h.later hb0
 unfold Od.v
 go_enter Tryz.func104, Tryz.ntmps104
 go_wp2_with fail
 generalize ((w.alloc (.cells #[i64 x.client, i64 x.seq, i64 x.kind, .string x.acct, .string x.peer, i64 x.sum, .slice x.la x.legs.length x.lc, i64 x.period, i64 x.hold, .string x.note] 37)).alloc (.cells #[i64 0, i64 0, i64 0, i64 0] 31)) = W0 at *
 generalize hrb : w.heap.size + 1 = rb at *
 have Hrb := Lib.hid (show w.heap.size ≤ rb by omega)
 clear hrb
 have Hna := Lib.hid (not_all Hlt.out Hrb.out)
 have Hnm := Lib.hid (not_maps Hlt.out Hrb.out)
 have hp0 := H0.cell
 have HSS := Lib.hid (show ∀ V, Gr W0 V a.maps → (fun V : World => V.cell? ⟨a.p, 0, none⟩ = some (.pointer (some ⟨a.g, 0, none⟩)) ∧ V.cell? ⟨a.p, 1, none⟩ = some (.pointer (some ⟨a.gh, 0, none⟩)) ∧ V.cell? ⟨a.p, 2, none⟩ = some (i64 B.cl) ∧ V.cell? ⟨w.heap.size, 0, none⟩ = some (i64 x.client) ∧ V.cell? ⟨w.heap.size, 1, none⟩ = some (i64 x.seq) ∧ V.cell? ⟨w.heap.size, 2, none⟩ = some (i64 x.kind) ∧ V.cell? ⟨w.heap.size, 3, none⟩ = some (.string x.acct) ∧ V.cell? ⟨w.heap.size, 4, none⟩ = some (.string x.peer) ∧ V.cell? ⟨w.heap.size, 5, none⟩ = some (i64 x.sum) ∧ V.cell? ⟨w.heap.size, 6, none⟩ = some (.slice x.la x.legs.length x.lc) ∧ V.cell? ⟨w.heap.size, 7, none⟩ = some (i64 x.period) ∧ V.cell? ⟨w.heap.size, 8, none⟩ = some (i64 x.hold) ∧ V.cell? ⟨w.heap.size, 9, none⟩ = some (.string x.note)) V from fun V hG => by
  have hp1 := (hG.block a.p (Array.getElem?_eq_some_iff.1 hp0).1 Hap.out.p_maps).trans hp0
  have ho1 := (hG.block w.heap.size hlt0.1 (not_maps Hlt.out (Nat.le_refl _))).trans ho0
  exact ⟨cell_of_row _ a.p 0 _ _ (0, 0) hp1, cell_of_row _ a.p 1 _ _ (0, 0) hp1, cell_of_row _ a.p 2 _ _ (0, 0) hp1, cell_of_row _ w.heap.size 0 _ _ (0, 0) ho1, cell_of_row _ w.heap.size 1 _ _ (0, 0) ho1, cell_of_row _ w.heap.size 2 _ _ (0, 0) ho1, cell_of_row _ w.heap.size 3 _ _ (0, 0) ho1, cell_of_row _ w.heap.size 4 _ _ (0, 0) ho1, cell_of_row _ w.heap.size 5 _ _ (0, 0) ho1, cell_of_row _ w.heap.size 6 _ _ (0, 0) ho1, cell_of_row _ w.heap.size 7 _ _ (0, 0) ho1, cell_of_row _ w.heap.size 8 _ _ (0, 0) ho1, cell_of_row _ w.heap.size 9 _ _ (0, 0) ho1⟩)
 have HR0 := Lib.hid hr0
 have HO0 := Lib.hid ho0
 have HB0 := Lib.hid H0
 have Hb0 := Lib.hid hb0
 have hG0 := Gr.of_below ((Below.refl W0.heap.size W0).drew) a.maps
 clear hp0 ho0 hr0 H0 hb0 h
 have hG := hG0
 have hB := HB0.out.later (Below.refl _ _).drew
 clear hG0
 refine wp_region_noPanic ?_
 refine wp_region_l 12 (fun V : World => V.cell? ⟨a.p, 0, none⟩ = some (.pointer (some ⟨a.g, 0, none⟩)) ∧ V.cell? ⟨a.p, 1, none⟩ = some (.pointer (some ⟨a.gh, 0, none⟩)) ∧ V.cell? ⟨a.p, 2, none⟩ = some (i64 B.cl) ∧ V.cell? ⟨w.heap.size, 0, none⟩ = some (i64 x.client) ∧ V.cell? ⟨w.heap.size, 1, none⟩ = some (i64 x.seq) ∧ V.cell? ⟨w.heap.size, 2, none⟩ = some (i64 x.kind) ∧ V.cell? ⟨w.heap.size, 3, none⟩ = some (.string x.acct) ∧ V.cell? ⟨w.heap.size, 4, none⟩ = some (.string x.peer) ∧ V.cell? ⟨w.heap.size, 5, none⟩ = some (i64 x.sum) ∧ V.cell? ⟨w.heap.size, 6, none⟩ = some (.slice x.la x.legs.length x.lc) ∧ V.cell? ⟨w.heap.size, 7, none⟩ = some (i64 x.period) ∧ V.cell? ⟨w.heap.size, 8, none⟩ = some (i64 x.hold) ∧ V.cell? ⟨w.heap.size, 9, none⟩ = some (.string x.note)) (by kernel_rfl) (HSS.out _ hG) (fun hH => ?_)
 refine tkZ 0 ?_; refine tkZ 1 ?_; refine tkZ 2 ?_; refine tkZ 3 ?_; refine tkZ 4 ?_; refine tkZ 5 ?_; refine tkZ 6 ?_; refine tkZ 7 ?_; refine tkZ 8 ?_; refine tkZ 9 ?_
 refine tkO 10 (fun K hK => ?_)
 go_simp
 refine (HC.out _ hB).mono ?_
 rintro e W2 ⟨rfl, hc1, hg1⟩
 obtain ⟨hB, hg1⟩ := hB.chart hc1 hg1
 clear hc1
 have hG := hG.after hg1
 clear hg1
 refine hK.out _ _ (HSS.out _ hG) (fun hH => ?_)
 clear hK K
 try simp only [Act.put, uA, uZ, uS, vA, vZ, vS]
 refine tkO 11 (fun K hK => ?_)
 go_simp
 refine (HT.out _ hB).mono ?_
 rintro e W3 ⟨rfl, hF⟩
 have hB := hB.later hF
 have hG := hG.more hF
 clear hF
 refine hK.out _ _ (HSS.out _ hG) (fun hH => ?_)
 clear hK K
 try simp only [Act.put, uA, uZ, uS, vA, vZ, vS]
 refine tkL (fun K hK => ?_)
 have hr := (hG.block rb hlt0.2 Hnm.out).trans HR0.out
 refine wp_store_row 31 (.tmp 4) (.tmp 16) rfl rb #[i64 t.err, i64 t.hav, i64 t.set_, i64 t.num] rfl rfl 31 #[i64 0, i64 0, i64 0, i64 0] hr (by kernel_rfl) rfl (by simp [Value.oneCell']) ?_
 refine hK.out _ _ ?_
 clear hK K
 try simp only [Act.put, uA, uZ, uS]
 refine tkD ?_
 have hrow := setRow_heap W3 rb _ #[i64 t.err, i64 t.hav, i64 t.set_, i64 t.num] _ _ hr
 have hB9 := hB.row Hna.out #[i64 t.err, i64 t.hav, i64 t.set_, i64 t.num]
 have hG9 := ((Gr.of_below Hb0.out a.maps).after hG).own_row Hrb.out #[i64 t.err, i64 t.hav, i64 t.set_, i64 t.num]
 have HB9 := Lib.hid hB9
 have HG9 := Lib.hid hG9
 clear hB9 hG9 hB hG
 go_wp2
 exact bodyPost_ret (results_cell_row rfl _ _ rb 31 _ (0, 0) _ rfl hrow Tryz.underlying31 rfl (by kernel_rfl)) rfl ⟨rfl, HB9.out, HG9.out.mono (fun _ _ e => BA.maps_own e)⟩
set_option maxRecDepth 100000 in
set_option maxHeartbeats 8000000 in
theorem bask_c (a : BA) (B : Bk) (x : Od) (w : World) (h : BkA w a B) (_hI : InvB B) (_hx : OdB x) :
  Calls Tryz.prog 110 #[a.ptr, x.v] w fun e w' => e = .returned (askD B x).1.v ∧ BkA w' a (askD B x).2 ∧ Gr w w' a.own := by
 unfold askD
 have HT := Lib.hid (fun (W : World) (hW : BkA W a B) => btells_c a B x 0 W hW)
 clear _hI _hx
 dsimp only at *
 generalize tellsL B.L x.acct 0 = t at *
 have hb0 : Below w.heap.size w ((w.alloc (.cells #[i64 x.client, i64 x.seq, i64 x.kind, .string x.acct, .string x.peer, i64 x.sum, .slice x.la x.legs.length x.lc, i64 x.period, i64 x.hold, .string x.note] 37)).alloc (.cells #[i64 0, i64 0, i64 0, i64 0] 31)) := ((Below.refl w.heap.size w).alloc (Nat.le_refl _) (.cells #[i64 x.client, i64 x.seq, i64 x.kind, .string x.acct, .string x.peer, i64 x.sum, .slice x.la x.legs.length x.lc, i64 x.period, i64 x.hold, .string x.note] 37)).alloc (by simp) (.cells #[i64 0, i64 0, i64 0, i64 0] 31)
 have ho0 := heap_alloc2_old w (.cells #[i64 x.client, i64 x.seq, i64 x.kind, .string x.acct, .string x.peer, i64 x.sum, .slice x.la x.legs.length x.lc, i64 x.period, i64 x.hold, .string x.note] 37) (.cells #[i64 0, i64 0, i64 0, i64 0] 31)
 have hr0 := heap_alloc2_new w (.cells #[i64 x.client, i64 x.seq, i64 x.kind, .string x.acct, .string x.peer, i64 x.sum, .slice x.la x.legs.length x.lc, i64 x.period, i64 x.hold, .string x.note] 37) (.cells #[i64 0, i64 0, i64 0, i64 0] 31)
 have hlt0 : w.heap.size < ((w.alloc (.cells #[i64 x.client, i64 x.seq, i64 x.kind, .string x.acct, .string x.peer, i64 x.sum, .slice x.la x.legs.length x.lc, i64 x.period, i64 x.hold, .string x.note] 37)).alloc (.cells #[i64 0, i64 0, i64 0, i64 0] 31)).heap.size ∧ w.heap.size + 1 < ((w.alloc (.cells #[i64 x.client, i64 x.seq, i64 x.kind, .string x.acct, .string x.peer, i64 x.sum, .slice x.la x.legs.length x.lc, i64 x.period, i64 x.hold, .string x.note] 37)).alloc (.cells #[i64 0, i64 0, i64 0, i64 0] 31)).heap.size := ⟨by simp; omega, by simp⟩
 have Hlt := Lib.hid h.lt
 have Hap := Lib.hid h.ap
 have H0 := h.later hb0
 unfold Od.v
 go_enter Tryz.func110, Tryz.ntmps110
 go_wp2_with fail
 generalize ((w.alloc (.cells #[i64 x.client, i64 x.seq, i64 x.kind, .string x.acct, .string x.peer, i64 x.sum, .slice x.la x.legs.length x.lc, i64 x.period, i64 x.hold, .string x.note] 37)).alloc (.cells #[i64 0, i64 0, i64 0, i64 0] 31)) = W0 at *
 generalize hrb : w.heap.size + 1 = rb at *
 have Hrb := Lib.hid (show w.heap.size ≤ rb by omega)
 clear hrb
 have Hna := Lib.hid (not_all Hlt.out Hrb.out)
 have Hnm := Lib.hid (not_maps Hlt.out Hrb.out)
 have hp0 := H0.cell
 have HSS := Lib.hid (show ∀ V, Gr W0 V a.maps → (fun V : World => V.cell? ⟨a.p, 0, none⟩ = some (.pointer (some ⟨a.g, 0, none⟩)) ∧ V.cell? ⟨a.p, 1, none⟩ = some (.pointer (some ⟨a.gh, 0, none⟩)) ∧ V.cell? ⟨a.p, 2, none⟩ = some (i64 B.cl) ∧ V.cell? ⟨w.heap.size, 0, none⟩ = some (i64 x.client) ∧ V.cell? ⟨w.heap.size, 1, none⟩ = some (i64 x.seq) ∧ V.cell? ⟨w.heap.size, 2, none⟩ = some (i64 x.kind) ∧ V.cell? ⟨w.heap.size, 3, none⟩ = some (.string x.acct) ∧ V.cell? ⟨w.heap.size, 4, none⟩ = some (.string x.peer) ∧ V.cell? ⟨w.heap.size, 5, none⟩ = some (i64 x.sum) ∧ V.cell? ⟨w.heap.size, 6, none⟩ = some (.slice x.la x.legs.length x.lc) ∧ V.cell? ⟨w.heap.size, 7, none⟩ = some (i64 x.period) ∧ V.cell? ⟨w.heap.size, 8, none⟩ = some (i64 x.hold) ∧ V.cell? ⟨w.heap.size, 9, none⟩ = some (.string x.note)) V from fun V hG => by
  have hp1 := (hG.block a.p (Array.getElem?_eq_some_iff.1 hp0).1 Hap.out.p_maps).trans hp0
  have ho1 := (hG.block w.heap.size hlt0.1 (not_maps Hlt.out (Nat.le_refl _))).trans ho0
  exact ⟨cell_of_row _ a.p 0 _ _ (0, 0) hp1, cell_of_row _ a.p 1 _ _ (0, 0) hp1, cell_of_row _ a.p 2 _ _ (0, 0) hp1, cell_of_row _ w.heap.size 0 _ _ (0, 0) ho1, cell_of_row _ w.heap.size 1 _ _ (0, 0) ho1, cell_of_row _ w.heap.size 2 _ _ (0, 0) ho1, cell_of_row _ w.heap.size 3 _ _ (0, 0) ho1, cell_of_row _ w.heap.size 4 _ _ (0, 0) ho1, cell_of_row _ w.heap.size 5 _ _ (0, 0) ho1, cell_of_row _ w.heap.size 6 _ _ (0, 0) ho1, cell_of_row _ w.heap.size 7 _ _ (0, 0) ho1, cell_of_row _ w.heap.size 8 _ _ (0, 0) ho1, cell_of_row _ w.heap.size 9 _ _ (0, 0) ho1⟩)
 have HR0 := Lib.hid hr0
 have HO0 := Lib.hid ho0
 have HB0 := Lib.hid H0
 have Hb0 := Lib.hid hb0
 have hG0 := Gr.of_below ((Below.refl W0.heap.size W0).drew) a.maps
 clear hp0 ho0 hr0 H0 hb0 h
 refine (HT.out _ HB0.out).mono ?_
 rintro e W3 ⟨rfl, hF⟩
 have hG := Gr.of_below hF a.maps
 have hB := HB0.out.later hF
 have hr := (hG.block rb hlt0.2 Hnm.out).trans HR0.out
 have hrow := setRow_heap W3 rb _ #[i64 t.err, i64 t.hav, i64 t.set_, i64 t.num] _ _ hr
 have HB9 := Lib.hid (hB.row Hna.out #[i64 t.err, i64 t.hav, i64 t.set_, i64 t.num])
 have HG9 := Lib.hid (((Gr.of_below Hb0.out a.maps).after hG).own_row Hrb.out #[i64 t.err, i64 t.hav, i64 t.set_, i64 t.num])
 clear hF hG hB hG0
 go_wp2_with (refine wpList_store_row rfl 31 (.tmp 4) (.tmp 7) rfl rb #[i64 t.err, i64 t.hav, i64 t.set_, i64 t.num] rfl rfl 31 #[i64 0, i64 0, i64 0, i64 0] hr (by kernel_rfl) rfl (by simp [Value.oneCell']) ?_)
 exact bodyPost_ret (results_cell_row rfl _ _ rb 31 _ (0, 0) _ rfl hrow Tryz.underlying31 rfl (by kernel_rfl)) rfl ⟨rfl, HB9.out, HG9.out.mono (fun _ _ e => BA.maps_own e)⟩
set_option maxRecDepth 100000 in
set_option maxHeartbeats 8000000 in
theorem brel_c (a : BA) (B : Bk) (x : Od) (w : World) (h : BkA w a B) (hI : InvB B) (_hx : OdB x) :
  Calls Tryz.prog 108 #[a.ptr, x.v] w fun e w' => e = .returned (relD B x).1.v ∧ BkA w' a (relD B x).2 ∧ Gr w w' a.own := by
 unfold relD
 have HC := Lib.hid (fun (W : World) (hW : BkA W a B) => hofreeA_c a.g a.b a.gh a.bh B.L B.H x.acct x.hold W hW.ch hW.ho ⟨hW.ap.ghb, hW.ap.bhb, hW.ap.gbh⟩ hI.inv.okA hI.inv.okH)
 have HT := Lib.hid (fun (W : World) (hW : BkA W a ⟨(freeHL B.L B.H x.acct x.hold).2.1, (freeHL B.L B.H x.acct x.hold).2.2, B.cl⟩) => btells_c a _ x (freeHL B.L B.H x.acct x.hold).1 W hW)
 clear hI _hx
 dsimp only at *
 generalize freeHL B.L B.H x.acct x.hold = R at *
 obtain ⟨er, L2, H2⟩ := R
 dsimp only at *
 generalize tellsL L2 x.acct er = t at *
 have hb0 : Below w.heap.size w ((w.alloc (.cells #[i64 x.client, i64 x.seq, i64 x.kind, .string x.acct, .string x.peer, i64 x.sum, .slice x.la x.legs.length x.lc, i64 x.period, i64 x.hold, .string x.note] 37)).alloc (.cells #[i64 0, i64 0, i64 0, i64 0] 31)) := ((Below.refl w.heap.size w).alloc (Nat.le_refl _) (.cells #[i64 x.client, i64 x.seq, i64 x.kind, .string x.acct, .string x.peer, i64 x.sum, .slice x.la x.legs.length x.lc, i64 x.period, i64 x.hold, .string x.note] 37)).alloc (by simp) (.cells #[i64 0, i64 0, i64 0, i64 0] 31)
 have ho0 := heap_alloc2_old w (.cells #[i64 x.client, i64 x.seq, i64 x.kind, .string x.acct, .string x.peer, i64 x.sum, .slice x.la x.legs.length x.lc, i64 x.period, i64 x.hold, .string x.note] 37) (.cells #[i64 0, i64 0, i64 0, i64 0] 31)
 have hr0 := heap_alloc2_new w (.cells #[i64 x.client, i64 x.seq, i64 x.kind, .string x.acct, .string x.peer, i64 x.sum, .slice x.la x.legs.length x.lc, i64 x.period, i64 x.hold, .string x.note] 37) (.cells #[i64 0, i64 0, i64 0, i64 0] 31)
 have hlt0 : w.heap.size < ((w.alloc (.cells #[i64 x.client, i64 x.seq, i64 x.kind, .string x.acct, .string x.peer, i64 x.sum, .slice x.la x.legs.length x.lc, i64 x.period, i64 x.hold, .string x.note] 37)).alloc (.cells #[i64 0, i64 0, i64 0, i64 0] 31)).heap.size ∧ w.heap.size + 1 < ((w.alloc (.cells #[i64 x.client, i64 x.seq, i64 x.kind, .string x.acct, .string x.peer, i64 x.sum, .slice x.la x.legs.length x.lc, i64 x.period, i64 x.hold, .string x.note] 37)).alloc (.cells #[i64 0, i64 0, i64 0, i64 0] 31)).heap.size := ⟨by simp; omega, by simp⟩
 have Hlt := Lib.hid h.lt
 have Hap := Lib.hid h.ap
 have H0 := h.later hb0
 unfold Od.v
 go_enter Tryz.func108, Tryz.ntmps108
 go_wp2_with fail
 generalize ((w.alloc (.cells #[i64 x.client, i64 x.seq, i64 x.kind, .string x.acct, .string x.peer, i64 x.sum, .slice x.la x.legs.length x.lc, i64 x.period, i64 x.hold, .string x.note] 37)).alloc (.cells #[i64 0, i64 0, i64 0, i64 0] 31)) = W0 at *
 generalize hrb : w.heap.size + 1 = rb at *
 have Hrb := Lib.hid (show w.heap.size ≤ rb by omega)
 clear hrb
 have Hna := Lib.hid (not_all Hlt.out Hrb.out)
 have Hnm := Lib.hid (not_maps Hlt.out Hrb.out)
 have hp0 := H0.cell
 have HSS := Lib.hid (show ∀ V, Gr W0 V a.maps → (fun V : World => V.cell? ⟨a.p, 0, none⟩ = some (.pointer (some ⟨a.g, 0, none⟩)) ∧ V.cell? ⟨a.p, 1, none⟩ = some (.pointer (some ⟨a.gh, 0, none⟩)) ∧ V.cell? ⟨a.p, 2, none⟩ = some (i64 B.cl) ∧ V.cell? ⟨w.heap.size, 0, none⟩ = some (i64 x.client) ∧ V.cell? ⟨w.heap.size, 1, none⟩ = some (i64 x.seq) ∧ V.cell? ⟨w.heap.size, 2, none⟩ = some (i64 x.kind) ∧ V.cell? ⟨w.heap.size, 3, none⟩ = some (.string x.acct) ∧ V.cell? ⟨w.heap.size, 4, none⟩ = some (.string x.peer) ∧ V.cell? ⟨w.heap.size, 5, none⟩ = some (i64 x.sum) ∧ V.cell? ⟨w.heap.size, 6, none⟩ = some (.slice x.la x.legs.length x.lc) ∧ V.cell? ⟨w.heap.size, 7, none⟩ = some (i64 x.period) ∧ V.cell? ⟨w.heap.size, 8, none⟩ = some (i64 x.hold) ∧ V.cell? ⟨w.heap.size, 9, none⟩ = some (.string x.note)) V from fun V hG => by
  have hp1 := (hG.block a.p (Array.getElem?_eq_some_iff.1 hp0).1 Hap.out.p_maps).trans hp0
  have ho1 := (hG.block w.heap.size hlt0.1 (not_maps Hlt.out (Nat.le_refl _))).trans ho0
  exact ⟨cell_of_row _ a.p 0 _ _ (0, 0) hp1, cell_of_row _ a.p 1 _ _ (0, 0) hp1, cell_of_row _ a.p 2 _ _ (0, 0) hp1, cell_of_row _ w.heap.size 0 _ _ (0, 0) ho1, cell_of_row _ w.heap.size 1 _ _ (0, 0) ho1, cell_of_row _ w.heap.size 2 _ _ (0, 0) ho1, cell_of_row _ w.heap.size 3 _ _ (0, 0) ho1, cell_of_row _ w.heap.size 4 _ _ (0, 0) ho1, cell_of_row _ w.heap.size 5 _ _ (0, 0) ho1, cell_of_row _ w.heap.size 6 _ _ (0, 0) ho1, cell_of_row _ w.heap.size 7 _ _ (0, 0) ho1, cell_of_row _ w.heap.size 8 _ _ (0, 0) ho1, cell_of_row _ w.heap.size 9 _ _ (0, 0) ho1⟩)
 have HR0 := Lib.hid hr0
 have HO0 := Lib.hid ho0
 have HB0 := Lib.hid H0
 have Hb0 := Lib.hid hb0
 have hG0 := Gr.of_below ((Below.refl W0.heap.size W0).drew) a.maps
 clear hp0 ho0 hr0 H0 hb0 h
 have hG := hG0
 have hB := HB0.out.later (Below.refl _ _).drew
 clear hG0
 refine wp_region_noPanic ?_
 refine wp_region_l 16 (fun V : World => V.cell? ⟨a.p, 0, none⟩ = some (.pointer (some ⟨a.g, 0, none⟩)) ∧ V.cell? ⟨a.p, 1, none⟩ = some (.pointer (some ⟨a.gh, 0, none⟩)) ∧ V.cell? ⟨a.p, 2, none⟩ = some (i64 B.cl) ∧ V.cell? ⟨w.heap.size, 0, none⟩ = some (i64 x.client) ∧ V.cell? ⟨w.heap.size, 1, none⟩ = some (i64 x.seq) ∧ V.cell? ⟨w.heap.size, 2, none⟩ = some (i64 x.kind) ∧ V.cell? ⟨w.heap.size, 3, none⟩ = some (.string x.acct) ∧ V.cell? ⟨w.heap.size, 4, none⟩ = some (.string x.peer) ∧ V.cell? ⟨w.heap.size, 5, none⟩ = some (i64 x.sum) ∧ V.cell? ⟨w.heap.size, 6, none⟩ = some (.slice x.la x.legs.length x.lc) ∧ V.cell? ⟨w.heap.size, 7, none⟩ = some (i64 x.period) ∧ V.cell? ⟨w.heap.size, 8, none⟩ = some (i64 x.hold) ∧ V.cell? ⟨w.heap.size, 9, none⟩ = some (.string x.note)) (by kernel_rfl) (HSS.out _ hG) (fun hH => ?_)
 refine tkZ 0 ?_; refine tkZ 1 ?_; refine tkZ 2 ?_; refine tkZ 3 ?_; refine tkZ 4 ?_; refine tkZ 5 ?_; refine tkZ 6 ?_; refine tkZ 7 ?_; refine tkZ 8 ?_; refine tkZ 9 ?_; refine tkZ 10 ?_; refine tkZ 11 ?_; refine tkZ 12 ?_; refine tkZ 13 ?_
 refine tkO 14 (fun K hK => ?_)
 go_simp
 refine (HC.out _ hB).mono ?_
 rintro e W2 ⟨rfl, hc1, hh1, hg1⟩
 obtain ⟨hB, hg1⟩ := hB.both hc1 hh1 hg1
 clear hc1 hh1
 have hG := hG.after hg1
 clear hg1
 refine hK.out _ _ (HSS.out _ hG) (fun hH => ?_)
 clear hK K
 try simp only [Act.put, uA, uZ, uS, vA, vZ, vS]
 refine tkO 15 (fun K hK => ?_)
 go_simp
 refine (HT.out _ hB).mono ?_
 rintro e W3 ⟨rfl, hF⟩
 have hB := hB.later hF
 have hG := hG.more hF
 clear hF
 refine hK.out _ _ (HSS.out _ hG) (fun hH => ?_)
 clear hK K
 try simp only [Act.put, uA, uZ, uS, vA, vZ, vS]
 refine tkL (fun K hK => ?_)
 have hr := (hG.block rb hlt0.2 Hnm.out).trans HR0.out
 refine wp_store_row 31 (.tmp 4) (.tmp 20) rfl rb #[i64 t.err, i64 t.hav, i64 t.set_, i64 t.num] rfl rfl 31 #[i64 0, i64 0, i64 0, i64 0] hr (by kernel_rfl) rfl (by simp [Value.oneCell']) ?_
 refine hK.out _ _ ?_
 clear hK K
 try simp only [Act.put, uA, uZ, uS]
 refine tkD ?_
 have hrow := setRow_heap W3 rb _ #[i64 t.err, i64 t.hav, i64 t.set_, i64 t.num] _ _ hr
 have hB9 := hB.row Hna.out #[i64 t.err, i64 t.hav, i64 t.set_, i64 t.num]
 have hG9 := ((Gr.of_below Hb0.out a.maps).after hG).own_row Hrb.out #[i64 t.err, i64 t.hav, i64 t.set_, i64 t.num]
 have HB9 := Lib.hid hB9
 have HG9 := Lib.hid hG9
 clear hB9 hG9 hB hG
 go_wp2
 exact bodyPost_ret (results_cell_row rfl _ _ rb 31 _ (0, 0) _ rfl hrow Tryz.underlying31 rfl (by kernel_rfl)) rfl ⟨rfl, HB9.out, HG9.out.mono (fun _ _ e => BA.maps_own e)⟩
set_option maxRecDepth 100000 in
set_option maxHeartbeats 8000000 in
theorem bshut_c (a : BA) (B : Bk) (x : Od) (w : World) (h : BkA w a B) (_hI : InvB B) (_hx : OdB x) :
  Calls Tryz.prog 109 #[a.ptr, x.v] w fun e w' => e = .returned (shutD B x).1.v ∧ BkA w' a (shutD B x).2 ∧ Gr w w' a.own := by
 unfold shutD
 clear _hI _hx
 by_cases hp : x.period ≤ B.cl
 ·have g1 : decide (x.period ≤ B.cl) = true := decide_eq_true hp
  rw [if_pos hp]
  clear hp
  have hb0 : Below w.heap.size w ((w.alloc (.cells #[i64 x.client, i64 x.seq, i64 x.kind, .string x.acct, .string x.peer, i64 x.sum, .slice x.la x.legs.length x.lc, i64 x.period, i64 x.hold, .string x.note] 37)).alloc (.cells #[i64 0, i64 0, i64 0, i64 0] 31)) := ((Below.refl w.heap.size w).alloc (Nat.le_refl _) (.cells #[i64 x.client, i64 x.seq, i64 x.kind, .string x.acct, .string x.peer, i64 x.sum, .slice x.la x.legs.length x.lc, i64 x.period, i64 x.hold, .string x.note] 37)).alloc (by simp) (.cells #[i64 0, i64 0, i64 0, i64 0] 31)
  have ho0 := heap_alloc2_old w (.cells #[i64 x.client, i64 x.seq, i64 x.kind, .string x.acct, .string x.peer, i64 x.sum, .slice x.la x.legs.length x.lc, i64 x.period, i64 x.hold, .string x.note] 37) (.cells #[i64 0, i64 0, i64 0, i64 0] 31)
  have hr0 := heap_alloc2_new w (.cells #[i64 x.client, i64 x.seq, i64 x.kind, .string x.acct, .string x.peer, i64 x.sum, .slice x.la x.legs.length x.lc, i64 x.period, i64 x.hold, .string x.note] 37) (.cells #[i64 0, i64 0, i64 0, i64 0] 31)
  have hlt0 : w.heap.size < ((w.alloc (.cells #[i64 x.client, i64 x.seq, i64 x.kind, .string x.acct, .string x.peer, i64 x.sum, .slice x.la x.legs.length x.lc, i64 x.period, i64 x.hold, .string x.note] 37)).alloc (.cells #[i64 0, i64 0, i64 0, i64 0] 31)).heap.size ∧ w.heap.size + 1 < ((w.alloc (.cells #[i64 x.client, i64 x.seq, i64 x.kind, .string x.acct, .string x.peer, i64 x.sum, .slice x.la x.legs.length x.lc, i64 x.period, i64 x.hold, .string x.note] 37)).alloc (.cells #[i64 0, i64 0, i64 0, i64 0] 31)).heap.size := ⟨by simp; omega, by simp⟩
  have Hlt := Lib.hid h.lt
  have Hap := Lib.hid h.ap
  have H0 := h.later hb0
  unfold Od.v
  go_enter Tryz.func109, Tryz.ntmps109
  go_wp2_with fail
  generalize ((w.alloc (.cells #[i64 x.client, i64 x.seq, i64 x.kind, .string x.acct, .string x.peer, i64 x.sum, .slice x.la x.legs.length x.lc, i64 x.period, i64 x.hold, .string x.note] 37)).alloc (.cells #[i64 0, i64 0, i64 0, i64 0] 31)) = W0 at *
  generalize hrb : w.heap.size + 1 = rb at *
  have Hrb := Lib.hid (show w.heap.size ≤ rb by omega)
  clear hrb
  have Hna := Lib.hid (not_all Hlt.out Hrb.out)
  have Hnm := Lib.hid (not_maps Hlt.out Hrb.out)
  have hp0 := H0.cell
  have HSS := Lib.hid (show ∀ V, Gr W0 V a.maps → (fun V : World => V.cell? ⟨a.p, 0, none⟩ = some (.pointer (some ⟨a.g, 0, none⟩)) ∧ V.cell? ⟨a.p, 1, none⟩ = some (.pointer (some ⟨a.gh, 0, none⟩)) ∧ V.cell? ⟨a.p, 2, none⟩ = some (i64 B.cl) ∧ V.cell? ⟨w.heap.size, 0, none⟩ = some (i64 x.client) ∧ V.cell? ⟨w.heap.size, 1, none⟩ = some (i64 x.seq) ∧ V.cell? ⟨w.heap.size, 2, none⟩ = some (i64 x.kind) ∧ V.cell? ⟨w.heap.size, 3, none⟩ = some (.string x.acct) ∧ V.cell? ⟨w.heap.size, 4, none⟩ = some (.string x.peer) ∧ V.cell? ⟨w.heap.size, 5, none⟩ = some (i64 x.sum) ∧ V.cell? ⟨w.heap.size, 6, none⟩ = some (.slice x.la x.legs.length x.lc) ∧ V.cell? ⟨w.heap.size, 7, none⟩ = some (i64 x.period) ∧ V.cell? ⟨w.heap.size, 8, none⟩ = some (i64 x.hold) ∧ V.cell? ⟨w.heap.size, 9, none⟩ = some (.string x.note)) V from fun V hG => by
   have hp1 := (hG.block a.p (Array.getElem?_eq_some_iff.1 hp0).1 Hap.out.p_maps).trans hp0
   have ho1 := (hG.block w.heap.size hlt0.1 (not_maps Hlt.out (Nat.le_refl _))).trans ho0
   exact ⟨cell_of_row _ a.p 0 _ _ (0, 0) hp1, cell_of_row _ a.p 1 _ _ (0, 0) hp1, cell_of_row _ a.p 2 _ _ (0, 0) hp1, cell_of_row _ w.heap.size 0 _ _ (0, 0) ho1, cell_of_row _ w.heap.size 1 _ _ (0, 0) ho1, cell_of_row _ w.heap.size 2 _ _ (0, 0) ho1, cell_of_row _ w.heap.size 3 _ _ (0, 0) ho1, cell_of_row _ w.heap.size 4 _ _ (0, 0) ho1, cell_of_row _ w.heap.size 5 _ _ (0, 0) ho1, cell_of_row _ w.heap.size 6 _ _ (0, 0) ho1, cell_of_row _ w.heap.size 7 _ _ (0, 0) ho1, cell_of_row _ w.heap.size 8 _ _ (0, 0) ho1, cell_of_row _ w.heap.size 9 _ _ (0, 0) ho1⟩)
  have HR0 := Lib.hid hr0
  have HO0 := Lib.hid ho0
  have HB0 := Lib.hid H0
  have Hb0 := Lib.hid hb0
  have hG0 := Gr.of_below ((Below.refl W0.heap.size W0).drew) a.maps
  clear hp0 ho0 hr0 H0 hb0 h
  refine wp_region_noPanic ?_
  refine wp_region_l 6 (fun V : World => V.cell? ⟨a.p, 0, none⟩ = some (.pointer (some ⟨a.g, 0, none⟩)) ∧ V.cell? ⟨a.p, 1, none⟩ = some (.pointer (some ⟨a.gh, 0, none⟩)) ∧ V.cell? ⟨a.p, 2, none⟩ = some (i64 B.cl) ∧ V.cell? ⟨w.heap.size, 0, none⟩ = some (i64 x.client) ∧ V.cell? ⟨w.heap.size, 1, none⟩ = some (i64 x.seq) ∧ V.cell? ⟨w.heap.size, 2, none⟩ = some (i64 x.kind) ∧ V.cell? ⟨w.heap.size, 3, none⟩ = some (.string x.acct) ∧ V.cell? ⟨w.heap.size, 4, none⟩ = some (.string x.peer) ∧ V.cell? ⟨w.heap.size, 5, none⟩ = some (i64 x.sum) ∧ V.cell? ⟨w.heap.size, 6, none⟩ = some (.slice x.la x.legs.length x.lc) ∧ V.cell? ⟨w.heap.size, 7, none⟩ = some (i64 x.period) ∧ V.cell? ⟨w.heap.size, 8, none⟩ = some (i64 x.hold) ∧ V.cell? ⟨w.heap.size, 9, none⟩ = some (.string x.note)) (by kernel_rfl) (HSS.out _ hG0) (fun hH => ?_)
  refine tkZ 0 ?_; refine tkZ 1 ?_; refine tkZ 2 ?_; refine tkZ 3 ?_; refine tkZ 4 ?_; refine tkZ 5 ?_
  refine tkL (fun K hK => ?_)
  go_simp
  refine hK.out _ _ ?_
  clear hK K
  try simp only [Act.put, uA, uZ, uS, vA, vZ, vS]
  refine tkD ?_
  have HRow := Lib.hid (setRow_heap W0.drew rb _ #[i64 10, i64 0, i64 0, i64 0] _ _ HR0.out)
  have HB9 := Lib.hid ((HB0.out.later (Below.refl _ _).drew).row Hna.out #[i64 10, i64 0, i64 0, i64 0])
  have HG9 := Lib.hid (((Gr.of_below Hb0.out a.maps).after hG0).own_row Hrb.out #[i64 10, i64 0, i64 0, i64 0])
  have hr := (show W0.drew.heap[rb]? = some (.cells #[i64 0, i64 0, i64 0, i64 0] 31) from HR0.out)
  clear hG0
  go_wp2_with (refine wpList_store_row rfl 31 (.tmp 4) (.tmp 12) rfl rb #[i64 10, i64 0, i64 0, i64 0] rfl rfl 31 #[i64 0, i64 0, i64 0, i64 0] hr (by kernel_rfl) rfl (by simp [Value.oneCell']) ?_)
  have hrow := HRow.out
  exact bodyPost_ret (results_cell_row rfl _ _ rb 31 _ (0, 0) _ rfl hrow Tryz.underlying31 rfl (by kernel_rfl)) rfl ⟨rfl, HB9.out, HG9.out.mono (fun _ _ e => BA.maps_own e)⟩
 ·have g1 : decide (x.period ≤ B.cl) = false := decide_eq_false hp
  rw [if_neg hp]
  clear hp
  have hb0 : Below w.heap.size w ((w.alloc (.cells #[i64 x.client, i64 x.seq, i64 x.kind, .string x.acct, .string x.peer, i64 x.sum, .slice x.la x.legs.length x.lc, i64 x.period, i64 x.hold, .string x.note] 37)).alloc (.cells #[i64 0, i64 0, i64 0, i64 0] 31)) := ((Below.refl w.heap.size w).alloc (Nat.le_refl _) (.cells #[i64 x.client, i64 x.seq, i64 x.kind, .string x.acct, .string x.peer, i64 x.sum, .slice x.la x.legs.length x.lc, i64 x.period, i64 x.hold, .string x.note] 37)).alloc (by simp) (.cells #[i64 0, i64 0, i64 0, i64 0] 31)
  have ho0 := heap_alloc2_old w (.cells #[i64 x.client, i64 x.seq, i64 x.kind, .string x.acct, .string x.peer, i64 x.sum, .slice x.la x.legs.length x.lc, i64 x.period, i64 x.hold, .string x.note] 37) (.cells #[i64 0, i64 0, i64 0, i64 0] 31)
  have hr0 := heap_alloc2_new w (.cells #[i64 x.client, i64 x.seq, i64 x.kind, .string x.acct, .string x.peer, i64 x.sum, .slice x.la x.legs.length x.lc, i64 x.period, i64 x.hold, .string x.note] 37) (.cells #[i64 0, i64 0, i64 0, i64 0] 31)
  have hlt0 : w.heap.size < ((w.alloc (.cells #[i64 x.client, i64 x.seq, i64 x.kind, .string x.acct, .string x.peer, i64 x.sum, .slice x.la x.legs.length x.lc, i64 x.period, i64 x.hold, .string x.note] 37)).alloc (.cells #[i64 0, i64 0, i64 0, i64 0] 31)).heap.size ∧ w.heap.size + 1 < ((w.alloc (.cells #[i64 x.client, i64 x.seq, i64 x.kind, .string x.acct, .string x.peer, i64 x.sum, .slice x.la x.legs.length x.lc, i64 x.period, i64 x.hold, .string x.note] 37)).alloc (.cells #[i64 0, i64 0, i64 0, i64 0] 31)).heap.size := ⟨by simp; omega, by simp⟩
  have Hlt := Lib.hid h.lt
  have Hap := Lib.hid h.ap
  have H0 := h.later hb0
  unfold Od.v
  go_enter Tryz.func109, Tryz.ntmps109
  go_wp2_with fail
  generalize ((w.alloc (.cells #[i64 x.client, i64 x.seq, i64 x.kind, .string x.acct, .string x.peer, i64 x.sum, .slice x.la x.legs.length x.lc, i64 x.period, i64 x.hold, .string x.note] 37)).alloc (.cells #[i64 0, i64 0, i64 0, i64 0] 31)) = W0 at *
  generalize hrb : w.heap.size + 1 = rb at *
  have Hrb := Lib.hid (show w.heap.size ≤ rb by omega)
  clear hrb
  have Hna := Lib.hid (not_all Hlt.out Hrb.out)
  have Hnm := Lib.hid (not_maps Hlt.out Hrb.out)
  have hp0 := H0.cell
  have HSS := Lib.hid (show ∀ V, Gr W0 V a.maps → (fun V : World => V.cell? ⟨a.p, 0, none⟩ = some (.pointer (some ⟨a.g, 0, none⟩)) ∧ V.cell? ⟨a.p, 1, none⟩ = some (.pointer (some ⟨a.gh, 0, none⟩)) ∧ V.cell? ⟨a.p, 2, none⟩ = some (i64 B.cl) ∧ V.cell? ⟨w.heap.size, 0, none⟩ = some (i64 x.client) ∧ V.cell? ⟨w.heap.size, 1, none⟩ = some (i64 x.seq) ∧ V.cell? ⟨w.heap.size, 2, none⟩ = some (i64 x.kind) ∧ V.cell? ⟨w.heap.size, 3, none⟩ = some (.string x.acct) ∧ V.cell? ⟨w.heap.size, 4, none⟩ = some (.string x.peer) ∧ V.cell? ⟨w.heap.size, 5, none⟩ = some (i64 x.sum) ∧ V.cell? ⟨w.heap.size, 6, none⟩ = some (.slice x.la x.legs.length x.lc) ∧ V.cell? ⟨w.heap.size, 7, none⟩ = some (i64 x.period) ∧ V.cell? ⟨w.heap.size, 8, none⟩ = some (i64 x.hold) ∧ V.cell? ⟨w.heap.size, 9, none⟩ = some (.string x.note)) V from fun V hG => by
   have hp1 := (hG.block a.p (Array.getElem?_eq_some_iff.1 hp0).1 Hap.out.p_maps).trans hp0
   have ho1 := (hG.block w.heap.size hlt0.1 (not_maps Hlt.out (Nat.le_refl _))).trans ho0
   exact ⟨cell_of_row _ a.p 0 _ _ (0, 0) hp1, cell_of_row _ a.p 1 _ _ (0, 0) hp1, cell_of_row _ a.p 2 _ _ (0, 0) hp1, cell_of_row _ w.heap.size 0 _ _ (0, 0) ho1, cell_of_row _ w.heap.size 1 _ _ (0, 0) ho1, cell_of_row _ w.heap.size 2 _ _ (0, 0) ho1, cell_of_row _ w.heap.size 3 _ _ (0, 0) ho1, cell_of_row _ w.heap.size 4 _ _ (0, 0) ho1, cell_of_row _ w.heap.size 5 _ _ (0, 0) ho1, cell_of_row _ w.heap.size 6 _ _ (0, 0) ho1, cell_of_row _ w.heap.size 7 _ _ (0, 0) ho1, cell_of_row _ w.heap.size 8 _ _ (0, 0) ho1, cell_of_row _ w.heap.size 9 _ _ (0, 0) ho1⟩)
  have HR0 := Lib.hid hr0
  have HO0 := Lib.hid ho0
  have HB0 := Lib.hid H0
  have Hb0 := Lib.hid hb0
  have hG0 := Gr.of_below ((Below.refl W0.heap.size W0).drew) a.maps
  clear hp0 ho0 hr0 H0 hb0 h
  refine wp_region_noPanic ?_
  refine wp_region_l 6 (fun V : World => V.cell? ⟨a.p, 0, none⟩ = some (.pointer (some ⟨a.g, 0, none⟩)) ∧ V.cell? ⟨a.p, 1, none⟩ = some (.pointer (some ⟨a.gh, 0, none⟩)) ∧ V.cell? ⟨a.p, 2, none⟩ = some (i64 B.cl) ∧ V.cell? ⟨w.heap.size, 0, none⟩ = some (i64 x.client) ∧ V.cell? ⟨w.heap.size, 1, none⟩ = some (i64 x.seq) ∧ V.cell? ⟨w.heap.size, 2, none⟩ = some (i64 x.kind) ∧ V.cell? ⟨w.heap.size, 3, none⟩ = some (.string x.acct) ∧ V.cell? ⟨w.heap.size, 4, none⟩ = some (.string x.peer) ∧ V.cell? ⟨w.heap.size, 5, none⟩ = some (i64 x.sum) ∧ V.cell? ⟨w.heap.size, 6, none⟩ = some (.slice x.la x.legs.length x.lc) ∧ V.cell? ⟨w.heap.size, 7, none⟩ = some (i64 x.period) ∧ V.cell? ⟨w.heap.size, 8, none⟩ = some (i64 x.hold) ∧ V.cell? ⟨w.heap.size, 9, none⟩ = some (.string x.note)) (by kernel_rfl) (HSS.out _ hG0) (fun hH => ?_)
  refine tkZ 0 ?_; refine tkZ 1 ?_; refine tkZ 2 ?_; refine tkZ 3 ?_; refine tkZ 4 ?_; refine tkZ 5 ?_
  refine tkL (fun K hK => ?_)
  go_simp
  refine hK.out _ _ ?_
  clear hK K
  try simp only [Act.put, uA, uZ, uS, vA, vZ, vS]
  refine tkD ?_
  have hB := HB0.out.later (Below.refl _ _).drew
  have hr := (show W0.drew.heap[rb]? = some (.cells #[i64 0, i64 0, i64 0, i64 0] 31) from HR0.out)
  have ho := (show W0.drew.heap[w.heap.size]? = some (.cells #[i64 x.client, i64 x.seq, i64 x.kind, .string x.acct, .string x.peer, i64 x.sum, .slice x.la x.legs.length x.lc, i64 x.period, i64 x.hold, .string x.note] 37) from HO0.out)
  have hGd := ((Gr.of_below Hb0.out a.own).after ((hG0.mono (fun _ _ e => BA.maps_own e))))
  have hlt1 : w.heap.size < W0.drew.heap.size ∧ rb < W0.drew.heap.size := hlt0
  clear hG0 hH
  generalize W0.drew = W1 at *
  have hpc := hB.cell
  have p2 := cell_of_row _ a.p 2 _ _ (0, 0) hpc
  simp only [List.getElem?_toArray, List.getElem?_cons_zero, List.getElem?_cons_succ] at p2
  have pf := frozen_of_row _ a.p 2 _ _ hpc
  obtain ⟨hB2, hG2⟩ := hB.shut x.period
  have hr2 := (hG2.block rb hlt1.2 (Hna.out _ (.inl rfl)).symm).trans hr
  have o7 := cell_of_row W1 w.heap.size 7 _ _ (0, 0) ho
  simp only [List.getElem?_toArray, List.getElem?_cons_zero, List.getElem?_cons_succ] at o7
  have hpo : a.p ≠ w.heap.size := not_all Hlt.out (Nat.le_refl _) _ (.inl rfl)
  have o7b : (W1.setCell ⟨a.p, 2, none⟩ (i64 x.period)).cell? ⟨w.heap.size, 7, none⟩ = some (i64 x.period) := (World.cell?_of_block (a := ⟨w.heap.size, 7, none⟩) (hG2.block w.heap.size hlt1.1 hpo.symm)).trans o7
  have HRow := Lib.hid (setRow_heap _ rb _ #[i64 0, i64 0, i64 0, i64 x.period] _ _ hr2)
  have HB9 := Lib.hid (hB2.row Hna.out #[i64 0, i64 0, i64 0, i64 x.period])
  have HG9 := Lib.hid ((hGd.after (hG2.mono (fun k _ e => (show a.own k from .inl e)))).own_row Hrb.out #[i64 0, i64 0, i64 0, i64 x.period])
  clear hB2 hG2 hpc hGd hB hr ho
  go_wp2_with (refine wpList_store_row rfl 31 (.tmp 4) (.tmp 20) rfl rb #[i64 0, i64 0, i64 0, i64 x.period] rfl rfl 31 #[i64 0, i64 0, i64 0, i64 0] hr2 (by kernel_rfl) rfl (by simp [Value.oneCell']) ?_)
  have hrow := HRow.out
  exact bodyPost_ret (results_cell_row rfl _ _ rb 31 _ (0, 0) _ rfl hrow Tryz.underlying31 rfl (by kernel_rfl)) rfl ⟨rfl, HB9.out, HG9.out⟩
set_option maxRecDepth 100000 in
set_option maxHeartbeats 8000000 in
theorem bcap_c (a : BA) (B : Bk) (x : Od) (w : World) (h : BkA w a B) (hI : InvB B) (hx : OdB x) :
  Calls Tryz.prog 107 #[a.ptr, x.v] w fun e w' => e = .returned (capD B x).1.v ∧ BkA w' a (capD B x).2 ∧ Gr w w' a.own := by
 unfold capD
 have HC := Lib.hid (fun (W : World) (hW : BkA W a B) => hotake_c a.g a.b a.gh a.bh B.L B.H x.acct x.hold x.peer x.sum W hW.ch hW.ho ⟨hW.ap.ghb, hW.ap.bhb, hW.ap.gbh⟩ hI.inv.okA hI.inv.okH hx.rng.2.2.2.1 hx.acct hx.peer)
 have HT := Lib.hid (fun (W : World) (hW : BkA W a ⟨(takeH B.L B.H x.acct x.hold x.peer x.sum).2.1, (takeH B.L B.H x.acct x.hold x.peer x.sum).2.2, B.cl⟩) => btells_c a _ x (takeH B.L B.H x.acct x.hold x.peer x.sum).1 W hW)
 clear hI hx
 dsimp only at *
 generalize takeH B.L B.H x.acct x.hold x.peer x.sum = R at *
 obtain ⟨er, L2, H2⟩ := R
 dsimp only at *
 generalize tellsL L2 x.acct er = t at *
 by_cases hp : x.period ≤ B.cl
 ·have g1 : decide (x.period ≤ B.cl) = true := decide_eq_true hp
  rw [if_pos hp]
  clear hp
  have hb0 : Below w.heap.size w ((w.alloc (.cells #[i64 x.client, i64 x.seq, i64 x.kind, .string x.acct, .string x.peer, i64 x.sum, .slice x.la x.legs.length x.lc, i64 x.period, i64 x.hold, .string x.note] 37)).alloc (.cells #[i64 0, i64 0, i64 0, i64 0] 31)) := ((Below.refl w.heap.size w).alloc (Nat.le_refl _) (.cells #[i64 x.client, i64 x.seq, i64 x.kind, .string x.acct, .string x.peer, i64 x.sum, .slice x.la x.legs.length x.lc, i64 x.period, i64 x.hold, .string x.note] 37)).alloc (by simp) (.cells #[i64 0, i64 0, i64 0, i64 0] 31)
  have ho0 := heap_alloc2_old w (.cells #[i64 x.client, i64 x.seq, i64 x.kind, .string x.acct, .string x.peer, i64 x.sum, .slice x.la x.legs.length x.lc, i64 x.period, i64 x.hold, .string x.note] 37) (.cells #[i64 0, i64 0, i64 0, i64 0] 31)
  have hr0 := heap_alloc2_new w (.cells #[i64 x.client, i64 x.seq, i64 x.kind, .string x.acct, .string x.peer, i64 x.sum, .slice x.la x.legs.length x.lc, i64 x.period, i64 x.hold, .string x.note] 37) (.cells #[i64 0, i64 0, i64 0, i64 0] 31)
  have hlt0 : w.heap.size < ((w.alloc (.cells #[i64 x.client, i64 x.seq, i64 x.kind, .string x.acct, .string x.peer, i64 x.sum, .slice x.la x.legs.length x.lc, i64 x.period, i64 x.hold, .string x.note] 37)).alloc (.cells #[i64 0, i64 0, i64 0, i64 0] 31)).heap.size ∧ w.heap.size + 1 < ((w.alloc (.cells #[i64 x.client, i64 x.seq, i64 x.kind, .string x.acct, .string x.peer, i64 x.sum, .slice x.la x.legs.length x.lc, i64 x.period, i64 x.hold, .string x.note] 37)).alloc (.cells #[i64 0, i64 0, i64 0, i64 0] 31)).heap.size := ⟨by simp; omega, by simp⟩
  have Hlt := Lib.hid h.lt
  have Hap := Lib.hid h.ap
  have H0 := h.later hb0
  unfold Od.v
  go_enter Tryz.func107, Tryz.ntmps107
  go_wp2_with fail
  generalize ((w.alloc (.cells #[i64 x.client, i64 x.seq, i64 x.kind, .string x.acct, .string x.peer, i64 x.sum, .slice x.la x.legs.length x.lc, i64 x.period, i64 x.hold, .string x.note] 37)).alloc (.cells #[i64 0, i64 0, i64 0, i64 0] 31)) = W0 at *
  generalize hrb : w.heap.size + 1 = rb at *
  have Hrb := Lib.hid (show w.heap.size ≤ rb by omega)
  clear hrb
  have Hna := Lib.hid (not_all Hlt.out Hrb.out)
  have Hnm := Lib.hid (not_maps Hlt.out Hrb.out)
  have hp0 := H0.cell
  have HSS := Lib.hid (show ∀ V, Gr W0 V a.maps → (fun V : World => V.cell? ⟨a.p, 0, none⟩ = some (.pointer (some ⟨a.g, 0, none⟩)) ∧ V.cell? ⟨a.p, 1, none⟩ = some (.pointer (some ⟨a.gh, 0, none⟩)) ∧ V.cell? ⟨a.p, 2, none⟩ = some (i64 B.cl) ∧ V.cell? ⟨w.heap.size, 0, none⟩ = some (i64 x.client) ∧ V.cell? ⟨w.heap.size, 1, none⟩ = some (i64 x.seq) ∧ V.cell? ⟨w.heap.size, 2, none⟩ = some (i64 x.kind) ∧ V.cell? ⟨w.heap.size, 3, none⟩ = some (.string x.acct) ∧ V.cell? ⟨w.heap.size, 4, none⟩ = some (.string x.peer) ∧ V.cell? ⟨w.heap.size, 5, none⟩ = some (i64 x.sum) ∧ V.cell? ⟨w.heap.size, 6, none⟩ = some (.slice x.la x.legs.length x.lc) ∧ V.cell? ⟨w.heap.size, 7, none⟩ = some (i64 x.period) ∧ V.cell? ⟨w.heap.size, 8, none⟩ = some (i64 x.hold) ∧ V.cell? ⟨w.heap.size, 9, none⟩ = some (.string x.note)) V from fun V hG => by
   have hp1 := (hG.block a.p (Array.getElem?_eq_some_iff.1 hp0).1 Hap.out.p_maps).trans hp0
   have ho1 := (hG.block w.heap.size hlt0.1 (not_maps Hlt.out (Nat.le_refl _))).trans ho0
   exact ⟨cell_of_row _ a.p 0 _ _ (0, 0) hp1, cell_of_row _ a.p 1 _ _ (0, 0) hp1, cell_of_row _ a.p 2 _ _ (0, 0) hp1, cell_of_row _ w.heap.size 0 _ _ (0, 0) ho1, cell_of_row _ w.heap.size 1 _ _ (0, 0) ho1, cell_of_row _ w.heap.size 2 _ _ (0, 0) ho1, cell_of_row _ w.heap.size 3 _ _ (0, 0) ho1, cell_of_row _ w.heap.size 4 _ _ (0, 0) ho1, cell_of_row _ w.heap.size 5 _ _ (0, 0) ho1, cell_of_row _ w.heap.size 6 _ _ (0, 0) ho1, cell_of_row _ w.heap.size 7 _ _ (0, 0) ho1, cell_of_row _ w.heap.size 8 _ _ (0, 0) ho1, cell_of_row _ w.heap.size 9 _ _ (0, 0) ho1⟩)
  have HR0 := Lib.hid hr0
  have HO0 := Lib.hid ho0
  have HB0 := Lib.hid H0
  have Hb0 := Lib.hid hb0
  have hG0 := Gr.of_below ((Below.refl W0.heap.size W0).drew) a.maps
  clear hp0 ho0 hr0 H0 hb0 h
  refine wp_region_noPanic ?_
  refine wp_region_l 6 (fun V : World => V.cell? ⟨a.p, 0, none⟩ = some (.pointer (some ⟨a.g, 0, none⟩)) ∧ V.cell? ⟨a.p, 1, none⟩ = some (.pointer (some ⟨a.gh, 0, none⟩)) ∧ V.cell? ⟨a.p, 2, none⟩ = some (i64 B.cl) ∧ V.cell? ⟨w.heap.size, 0, none⟩ = some (i64 x.client) ∧ V.cell? ⟨w.heap.size, 1, none⟩ = some (i64 x.seq) ∧ V.cell? ⟨w.heap.size, 2, none⟩ = some (i64 x.kind) ∧ V.cell? ⟨w.heap.size, 3, none⟩ = some (.string x.acct) ∧ V.cell? ⟨w.heap.size, 4, none⟩ = some (.string x.peer) ∧ V.cell? ⟨w.heap.size, 5, none⟩ = some (i64 x.sum) ∧ V.cell? ⟨w.heap.size, 6, none⟩ = some (.slice x.la x.legs.length x.lc) ∧ V.cell? ⟨w.heap.size, 7, none⟩ = some (i64 x.period) ∧ V.cell? ⟨w.heap.size, 8, none⟩ = some (i64 x.hold) ∧ V.cell? ⟨w.heap.size, 9, none⟩ = some (.string x.note)) (by kernel_rfl) (HSS.out _ hG0) (fun hH => ?_)
  refine tkZ 0 ?_; refine tkZ 1 ?_; refine tkZ 2 ?_; refine tkZ 3 ?_; refine tkZ 4 ?_; refine tkZ 5 ?_
  refine tkL (fun K hK => ?_)
  go_simp
  refine hK.out _ _ ?_
  clear hK K
  try simp only [Act.put, uA, uZ, uS, vA, vZ, vS]
  refine tkD ?_
  have HRow := Lib.hid (setRow_heap W0.drew rb _ #[i64 10, i64 0, i64 0, i64 0] _ _ HR0.out)
  have HB9 := Lib.hid ((HB0.out.later (Below.refl _ _).drew).row Hna.out #[i64 10, i64 0, i64 0, i64 0])
  have HG9 := Lib.hid (((Gr.of_below Hb0.out a.maps).after hG0).own_row Hrb.out #[i64 10, i64 0, i64 0, i64 0])
  have hr := (show W0.drew.heap[rb]? = some (.cells #[i64 0, i64 0, i64 0, i64 0] 31) from HR0.out)
  clear hG0
  go_wp2_with (refine wpList_store_row rfl 31 (.tmp 4) (.tmp 12) rfl rb #[i64 10, i64 0, i64 0, i64 0] rfl rfl 31 #[i64 0, i64 0, i64 0, i64 0] hr (by kernel_rfl) rfl (by simp [Value.oneCell']) ?_)
  have hrow := HRow.out
  exact bodyPost_ret (results_cell_row rfl _ _ rb 31 _ (0, 0) _ rfl hrow Tryz.underlying31 rfl (by kernel_rfl)) rfl ⟨rfl, HB9.out, HG9.out.mono (fun _ _ e => BA.maps_own e)⟩
 ·have g1 : decide (x.period ≤ B.cl) = false := decide_eq_false hp
  rw [if_neg hp]
  clear hp
  have hb0 : Below w.heap.size w ((w.alloc (.cells #[i64 x.client, i64 x.seq, i64 x.kind, .string x.acct, .string x.peer, i64 x.sum, .slice x.la x.legs.length x.lc, i64 x.period, i64 x.hold, .string x.note] 37)).alloc (.cells #[i64 0, i64 0, i64 0, i64 0] 31)) := ((Below.refl w.heap.size w).alloc (Nat.le_refl _) (.cells #[i64 x.client, i64 x.seq, i64 x.kind, .string x.acct, .string x.peer, i64 x.sum, .slice x.la x.legs.length x.lc, i64 x.period, i64 x.hold, .string x.note] 37)).alloc (by simp) (.cells #[i64 0, i64 0, i64 0, i64 0] 31)
  have ho0 := heap_alloc2_old w (.cells #[i64 x.client, i64 x.seq, i64 x.kind, .string x.acct, .string x.peer, i64 x.sum, .slice x.la x.legs.length x.lc, i64 x.period, i64 x.hold, .string x.note] 37) (.cells #[i64 0, i64 0, i64 0, i64 0] 31)
  have hr0 := heap_alloc2_new w (.cells #[i64 x.client, i64 x.seq, i64 x.kind, .string x.acct, .string x.peer, i64 x.sum, .slice x.la x.legs.length x.lc, i64 x.period, i64 x.hold, .string x.note] 37) (.cells #[i64 0, i64 0, i64 0, i64 0] 31)
  have hlt0 : w.heap.size < ((w.alloc (.cells #[i64 x.client, i64 x.seq, i64 x.kind, .string x.acct, .string x.peer, i64 x.sum, .slice x.la x.legs.length x.lc, i64 x.period, i64 x.hold, .string x.note] 37)).alloc (.cells #[i64 0, i64 0, i64 0, i64 0] 31)).heap.size ∧ w.heap.size + 1 < ((w.alloc (.cells #[i64 x.client, i64 x.seq, i64 x.kind, .string x.acct, .string x.peer, i64 x.sum, .slice x.la x.legs.length x.lc, i64 x.period, i64 x.hold, .string x.note] 37)).alloc (.cells #[i64 0, i64 0, i64 0, i64 0] 31)).heap.size := ⟨by simp; omega, by simp⟩
  have Hlt := Lib.hid h.lt
  have Hap := Lib.hid h.ap
  have H0 := h.later hb0
  unfold Od.v
  go_enter Tryz.func107, Tryz.ntmps107
  go_wp2_with fail
  generalize ((w.alloc (.cells #[i64 x.client, i64 x.seq, i64 x.kind, .string x.acct, .string x.peer, i64 x.sum, .slice x.la x.legs.length x.lc, i64 x.period, i64 x.hold, .string x.note] 37)).alloc (.cells #[i64 0, i64 0, i64 0, i64 0] 31)) = W0 at *
  generalize hrb : w.heap.size + 1 = rb at *
  have Hrb := Lib.hid (show w.heap.size ≤ rb by omega)
  clear hrb
  have Hna := Lib.hid (not_all Hlt.out Hrb.out)
  have Hnm := Lib.hid (not_maps Hlt.out Hrb.out)
  have hp0 := H0.cell
  have HSS := Lib.hid (show ∀ V, Gr W0 V a.maps → (fun V : World => V.cell? ⟨a.p, 0, none⟩ = some (.pointer (some ⟨a.g, 0, none⟩)) ∧ V.cell? ⟨a.p, 1, none⟩ = some (.pointer (some ⟨a.gh, 0, none⟩)) ∧ V.cell? ⟨a.p, 2, none⟩ = some (i64 B.cl) ∧ V.cell? ⟨w.heap.size, 0, none⟩ = some (i64 x.client) ∧ V.cell? ⟨w.heap.size, 1, none⟩ = some (i64 x.seq) ∧ V.cell? ⟨w.heap.size, 2, none⟩ = some (i64 x.kind) ∧ V.cell? ⟨w.heap.size, 3, none⟩ = some (.string x.acct) ∧ V.cell? ⟨w.heap.size, 4, none⟩ = some (.string x.peer) ∧ V.cell? ⟨w.heap.size, 5, none⟩ = some (i64 x.sum) ∧ V.cell? ⟨w.heap.size, 6, none⟩ = some (.slice x.la x.legs.length x.lc) ∧ V.cell? ⟨w.heap.size, 7, none⟩ = some (i64 x.period) ∧ V.cell? ⟨w.heap.size, 8, none⟩ = some (i64 x.hold) ∧ V.cell? ⟨w.heap.size, 9, none⟩ = some (.string x.note)) V from fun V hG => by
   have hp1 := (hG.block a.p (Array.getElem?_eq_some_iff.1 hp0).1 Hap.out.p_maps).trans hp0
   have ho1 := (hG.block w.heap.size hlt0.1 (not_maps Hlt.out (Nat.le_refl _))).trans ho0
   exact ⟨cell_of_row _ a.p 0 _ _ (0, 0) hp1, cell_of_row _ a.p 1 _ _ (0, 0) hp1, cell_of_row _ a.p 2 _ _ (0, 0) hp1, cell_of_row _ w.heap.size 0 _ _ (0, 0) ho1, cell_of_row _ w.heap.size 1 _ _ (0, 0) ho1, cell_of_row _ w.heap.size 2 _ _ (0, 0) ho1, cell_of_row _ w.heap.size 3 _ _ (0, 0) ho1, cell_of_row _ w.heap.size 4 _ _ (0, 0) ho1, cell_of_row _ w.heap.size 5 _ _ (0, 0) ho1, cell_of_row _ w.heap.size 6 _ _ (0, 0) ho1, cell_of_row _ w.heap.size 7 _ _ (0, 0) ho1, cell_of_row _ w.heap.size 8 _ _ (0, 0) ho1, cell_of_row _ w.heap.size 9 _ _ (0, 0) ho1⟩)
  have HR0 := Lib.hid hr0
  have HO0 := Lib.hid ho0
  have HB0 := Lib.hid H0
  have Hb0 := Lib.hid hb0
  have hG0 := Gr.of_below ((Below.refl W0.heap.size W0).drew) a.maps
  clear hp0 ho0 hr0 H0 hb0 h
  refine wp_region_noPanic ?_
  refine wp_region_l 6 (fun V : World => V.cell? ⟨a.p, 0, none⟩ = some (.pointer (some ⟨a.g, 0, none⟩)) ∧ V.cell? ⟨a.p, 1, none⟩ = some (.pointer (some ⟨a.gh, 0, none⟩)) ∧ V.cell? ⟨a.p, 2, none⟩ = some (i64 B.cl) ∧ V.cell? ⟨w.heap.size, 0, none⟩ = some (i64 x.client) ∧ V.cell? ⟨w.heap.size, 1, none⟩ = some (i64 x.seq) ∧ V.cell? ⟨w.heap.size, 2, none⟩ = some (i64 x.kind) ∧ V.cell? ⟨w.heap.size, 3, none⟩ = some (.string x.acct) ∧ V.cell? ⟨w.heap.size, 4, none⟩ = some (.string x.peer) ∧ V.cell? ⟨w.heap.size, 5, none⟩ = some (i64 x.sum) ∧ V.cell? ⟨w.heap.size, 6, none⟩ = some (.slice x.la x.legs.length x.lc) ∧ V.cell? ⟨w.heap.size, 7, none⟩ = some (i64 x.period) ∧ V.cell? ⟨w.heap.size, 8, none⟩ = some (i64 x.hold) ∧ V.cell? ⟨w.heap.size, 9, none⟩ = some (.string x.note)) (by kernel_rfl) (HSS.out _ hG0) (fun hH => ?_)
  refine tkZ 0 ?_; refine tkZ 1 ?_; refine tkZ 2 ?_; refine tkZ 3 ?_; refine tkZ 4 ?_; refine tkZ 5 ?_
  refine tkL (fun K hK => ?_)
  go_simp
  refine hK.out _ _ ?_
  clear hK K
  try simp only [Act.put, uA, uZ, uS, vA, vZ, vS]
  refine tkD ?_
  have hG := hG0.more (Below.refl _ _).drew
  have hB := (HB0.out.later (Below.refl _ _).drew).later (Below.refl _ _).drew
  clear hG0
  go_wp2_with fail
  refine wp_region_noPanic ?_
  refine wp_region_l 20 (fun V : World => V.cell? ⟨a.p, 0, none⟩ = some (.pointer (some ⟨a.g, 0, none⟩)) ∧ V.cell? ⟨a.p, 1, none⟩ = some (.pointer (some ⟨a.gh, 0, none⟩)) ∧ V.cell? ⟨a.p, 2, none⟩ = some (i64 B.cl) ∧ V.cell? ⟨w.heap.size, 0, none⟩ = some (i64 x.client) ∧ V.cell? ⟨w.heap.size, 1, none⟩ = some (i64 x.seq) ∧ V.cell? ⟨w.heap.size, 2, none⟩ = some (i64 x.kind) ∧ V.cell? ⟨w.heap.size, 3, none⟩ = some (.string x.acct) ∧ V.cell? ⟨w.heap.size, 4, none⟩ = some (.string x.peer) ∧ V.cell? ⟨w.heap.size, 5, none⟩ = some (i64 x.sum) ∧ V.cell? ⟨w.heap.size, 6, none⟩ = some (.slice x.la x.legs.length x.lc) ∧ V.cell? ⟨w.heap.size, 7, none⟩ = some (i64 x.period) ∧ V.cell? ⟨w.heap.size, 8, none⟩ = some (i64 x.hold) ∧ V.cell? ⟨w.heap.size, 9, none⟩ = some (.string x.note)) (by kernel_rfl) (HSS.out _ hG) (fun hH => ?_)
  refine tkZ 0 ?_; refine tkZ 1 ?_; refine tkZ 2 ?_; refine tkZ 3 ?_; refine tkZ 4 ?_; refine tkZ 5 ?_; refine tkZ 6 ?_; refine tkZ 7 ?_; refine tkZ 8 ?_; refine tkZ 9 ?_; refine tkZ 10 ?_; refine tkZ 11 ?_; refine tkZ 12 ?_; refine tkZ 13 ?_; refine tkZ 14 ?_; refine tkZ 15 ?_; refine tkZ 16 ?_; refine tkZ 17 ?_
  refine tkO 18 (fun K hK => ?_)
  go_simp
  refine (HC.out _ hB).mono ?_
  rintro e W2 ⟨rfl, hc1, hh1, hg1⟩
  obtain ⟨hB, hg1⟩ := hB.both hc1 hh1 hg1
  clear hc1 hh1
  have hG := hG.after hg1
  clear hg1
  refine hK.out _ _ (HSS.out _ hG) (fun hH => ?_)
  clear hK K
  try simp only [Act.put, uA, uZ, uS, vA, vZ, vS]
  refine tkO 19 (fun K hK => ?_)
  go_simp
  refine (HT.out _ hB).mono ?_
  rintro e W3 ⟨rfl, hF⟩
  have hB := hB.later hF
  have hG := hG.more hF
  clear hF
  refine hK.out _ _ (HSS.out _ hG) (fun hH => ?_)
  clear hK K
  try simp only [Act.put, uA, uZ, uS, vA, vZ, vS]
  refine tkL (fun K hK => ?_)
  have hr := (hG.block rb hlt0.2 Hnm.out).trans HR0.out
  refine wp_store_row 31 (.tmp 4) (.tmp 32) rfl rb #[i64 t.err, i64 t.hav, i64 t.set_, i64 t.num] rfl rfl 31 #[i64 0, i64 0, i64 0, i64 0] hr (by kernel_rfl) rfl (by simp [Value.oneCell']) ?_
  refine hK.out _ _ ?_
  clear hK K
  try simp only [Act.put, uA, uZ, uS]
  refine tkD ?_
  have hrow := setRow_heap W3 rb _ #[i64 t.err, i64 t.hav, i64 t.set_, i64 t.num] _ _ hr
  have hB9 := hB.row Hna.out #[i64 t.err, i64 t.hav, i64 t.set_, i64 t.num]
  have hG9 := ((Gr.of_below Hb0.out a.maps).after hG).own_row Hrb.out #[i64 t.err, i64 t.hav, i64 t.set_, i64 t.num]
  have HB9 := Lib.hid hB9
  have HG9 := Lib.hid hG9
  clear hB9 hG9 hB hG
  go_wp2
  exact bodyPost_ret (results_cell_row rfl _ _ rb 31 _ (0, 0) _ rfl hrow Tryz.underlying31 rfl (by kernel_rfl)) rfl ⟨rfl, HB9.out, HG9.out.mono (fun _ _ e => BA.maps_own e)⟩
set_option maxRecDepth 100000 in
set_option maxHeartbeats 8000000 in
theorem bpost_c (a : BA) (B : Bk) (x : Od) (w : World) (h : BkA w a B) (hI : InvB B) (hx : OdB x) (hl : OdIn w a x) :
  Calls Tryz.prog 105 #[a.ptr, x.v] w fun e w' => e = .returned (postD B x).1.v ∧ BkA w' a (postD B x).2 ∧ Gr w w' a.own := by
 unfold postD
 have HC := Lib.hid (fun (W : World) (hW : BkA W a B) (hl : OdIn W a x) => make_c a.g a.b B.L x.la x.lc x.legs W hW.ch hI.inv.okA (hl.1.legs.mono fun k hk => ⟨hk.1, fun e => hk.2 (.inr (.inr (.inl e)))⟩) hl.2 hx.rng.2.2.2.2.2.2)
 clear hI hx
 try dsimp only at *
 generalize makeL B.L x.legs = R at *
 obtain ⟨er, L2⟩ := R
 try dsimp only at *
 by_cases hp : x.period ≤ B.cl
 ·have g1 : decide (x.period ≤ B.cl) = true := decide_eq_true hp
  rw [if_pos hp]
  clear hp
  have hb0 : Below w.heap.size w ((w.alloc (.cells #[i64 x.client, i64 x.seq, i64 x.kind, .string x.acct, .string x.peer, i64 x.sum, .slice x.la x.legs.length x.lc, i64 x.period, i64 x.hold, .string x.note] 37)).alloc (.cells #[i64 0, i64 0, i64 0, i64 0] 31)) := ((Below.refl w.heap.size w).alloc (Nat.le_refl _) (.cells #[i64 x.client, i64 x.seq, i64 x.kind, .string x.acct, .string x.peer, i64 x.sum, .slice x.la x.legs.length x.lc, i64 x.period, i64 x.hold, .string x.note] 37)).alloc (by simp) (.cells #[i64 0, i64 0, i64 0, i64 0] 31)
  have ho0 := heap_alloc2_old w (.cells #[i64 x.client, i64 x.seq, i64 x.kind, .string x.acct, .string x.peer, i64 x.sum, .slice x.la x.legs.length x.lc, i64 x.period, i64 x.hold, .string x.note] 37) (.cells #[i64 0, i64 0, i64 0, i64 0] 31)
  have hr0 := heap_alloc2_new w (.cells #[i64 x.client, i64 x.seq, i64 x.kind, .string x.acct, .string x.peer, i64 x.sum, .slice x.la x.legs.length x.lc, i64 x.period, i64 x.hold, .string x.note] 37) (.cells #[i64 0, i64 0, i64 0, i64 0] 31)
  have hlt0 : w.heap.size < ((w.alloc (.cells #[i64 x.client, i64 x.seq, i64 x.kind, .string x.acct, .string x.peer, i64 x.sum, .slice x.la x.legs.length x.lc, i64 x.period, i64 x.hold, .string x.note] 37)).alloc (.cells #[i64 0, i64 0, i64 0, i64 0] 31)).heap.size ∧ w.heap.size + 1 < ((w.alloc (.cells #[i64 x.client, i64 x.seq, i64 x.kind, .string x.acct, .string x.peer, i64 x.sum, .slice x.la x.legs.length x.lc, i64 x.period, i64 x.hold, .string x.note] 37)).alloc (.cells #[i64 0, i64 0, i64 0, i64 0] 31)).heap.size := ⟨by simp; omega, by simp⟩
  have Hlt := Lib.hid h.lt
  have Hap := Lib.hid h.ap
  have H0 := h.later hb0
  unfold Od.v
  go_enter Tryz.func105, Tryz.ntmps105
  go_wp2_with fail
  generalize ((w.alloc (.cells #[i64 x.client, i64 x.seq, i64 x.kind, .string x.acct, .string x.peer, i64 x.sum, .slice x.la x.legs.length x.lc, i64 x.period, i64 x.hold, .string x.note] 37)).alloc (.cells #[i64 0, i64 0, i64 0, i64 0] 31)) = W0 at *
  generalize hrb : w.heap.size + 1 = rb at *
  have Hrb := Lib.hid (show w.heap.size ≤ rb by omega)
  clear hrb
  have Hna := Lib.hid (not_all Hlt.out Hrb.out)
  have Hnm := Lib.hid (not_maps Hlt.out Hrb.out)
  have hp0 := H0.cell
  have HSS := Lib.hid (show ∀ V, Gr W0 V a.maps → (fun V : World => V.cell? ⟨a.p, 0, none⟩ = some (.pointer (some ⟨a.g, 0, none⟩)) ∧ V.cell? ⟨a.p, 1, none⟩ = some (.pointer (some ⟨a.gh, 0, none⟩)) ∧ V.cell? ⟨a.p, 2, none⟩ = some (i64 B.cl) ∧ V.cell? ⟨w.heap.size, 0, none⟩ = some (i64 x.client) ∧ V.cell? ⟨w.heap.size, 1, none⟩ = some (i64 x.seq) ∧ V.cell? ⟨w.heap.size, 2, none⟩ = some (i64 x.kind) ∧ V.cell? ⟨w.heap.size, 3, none⟩ = some (.string x.acct) ∧ V.cell? ⟨w.heap.size, 4, none⟩ = some (.string x.peer) ∧ V.cell? ⟨w.heap.size, 5, none⟩ = some (i64 x.sum) ∧ V.cell? ⟨w.heap.size, 6, none⟩ = some (.slice x.la x.legs.length x.lc) ∧ V.cell? ⟨w.heap.size, 7, none⟩ = some (i64 x.period) ∧ V.cell? ⟨w.heap.size, 8, none⟩ = some (i64 x.hold) ∧ V.cell? ⟨w.heap.size, 9, none⟩ = some (.string x.note)) V from fun V hG => by
   have hp1 := (hG.block a.p (Array.getElem?_eq_some_iff.1 hp0).1 Hap.out.p_maps).trans hp0
   have ho1 := (hG.block w.heap.size hlt0.1 (not_maps Hlt.out (Nat.le_refl _))).trans ho0
   exact ⟨cell_of_row _ a.p 0 _ _ (0, 0) hp1, cell_of_row _ a.p 1 _ _ (0, 0) hp1, cell_of_row _ a.p 2 _ _ (0, 0) hp1, cell_of_row _ w.heap.size 0 _ _ (0, 0) ho1, cell_of_row _ w.heap.size 1 _ _ (0, 0) ho1, cell_of_row _ w.heap.size 2 _ _ (0, 0) ho1, cell_of_row _ w.heap.size 3 _ _ (0, 0) ho1, cell_of_row _ w.heap.size 4 _ _ (0, 0) ho1, cell_of_row _ w.heap.size 5 _ _ (0, 0) ho1, cell_of_row _ w.heap.size 6 _ _ (0, 0) ho1, cell_of_row _ w.heap.size 7 _ _ (0, 0) ho1, cell_of_row _ w.heap.size 8 _ _ (0, 0) ho1, cell_of_row _ w.heap.size 9 _ _ (0, 0) ho1⟩)
  have HR0 := Lib.hid hr0
  have HO0 := Lib.hid ho0
  have HB0 := Lib.hid H0
  have Hb0 := Lib.hid hb0
  have hG0 := Gr.of_below ((Below.refl W0.heap.size W0).drew) a.maps
  clear hp0 ho0 hr0 H0 hb0 h
  refine wp_region_noPanic ?_
  refine wp_region_l 6 (fun V : World => V.cell? ⟨a.p, 0, none⟩ = some (.pointer (some ⟨a.g, 0, none⟩)) ∧ V.cell? ⟨a.p, 1, none⟩ = some (.pointer (some ⟨a.gh, 0, none⟩)) ∧ V.cell? ⟨a.p, 2, none⟩ = some (i64 B.cl) ∧ V.cell? ⟨w.heap.size, 0, none⟩ = some (i64 x.client) ∧ V.cell? ⟨w.heap.size, 1, none⟩ = some (i64 x.seq) ∧ V.cell? ⟨w.heap.size, 2, none⟩ = some (i64 x.kind) ∧ V.cell? ⟨w.heap.size, 3, none⟩ = some (.string x.acct) ∧ V.cell? ⟨w.heap.size, 4, none⟩ = some (.string x.peer) ∧ V.cell? ⟨w.heap.size, 5, none⟩ = some (i64 x.sum) ∧ V.cell? ⟨w.heap.size, 6, none⟩ = some (.slice x.la x.legs.length x.lc) ∧ V.cell? ⟨w.heap.size, 7, none⟩ = some (i64 x.period) ∧ V.cell? ⟨w.heap.size, 8, none⟩ = some (i64 x.hold) ∧ V.cell? ⟨w.heap.size, 9, none⟩ = some (.string x.note)) (by kernel_rfl) (HSS.out _ hG0) (fun hH => ?_)
  refine tkZ 0 ?_; refine tkZ 1 ?_; refine tkZ 2 ?_; refine tkZ 3 ?_; refine tkZ 4 ?_; refine tkZ 5 ?_
  refine tkL (fun K hK => ?_)
  go_simp
  refine hK.out _ _ ?_
  clear hK K
  try simp only [Act.put, uA, uZ, uS, vA, vZ, vS]
  refine tkD ?_
  have HRow := Lib.hid (setRow_heap W0.drew rb _ #[i64 10, i64 0, i64 0, i64 0] _ _ HR0.out)
  have HB9 := Lib.hid ((HB0.out.later (Below.refl _ _).drew).row Hna.out #[i64 10, i64 0, i64 0, i64 0])
  have HG9 := Lib.hid (((Gr.of_below Hb0.out a.maps).after hG0).own_row Hrb.out #[i64 10, i64 0, i64 0, i64 0])
  have hr := (show W0.drew.heap[rb]? = some (.cells #[i64 0, i64 0, i64 0, i64 0] 31) from HR0.out)
  clear hG0
  go_wp2_with (refine wpList_store_row rfl 31 (.tmp 4) (.tmp 12) rfl rb #[i64 10, i64 0, i64 0, i64 0] rfl rfl 31 #[i64 0, i64 0, i64 0, i64 0] hr (by kernel_rfl) rfl (by simp [Value.oneCell']) ?_)
  have hrow := HRow.out
  exact bodyPost_ret (results_cell_row rfl _ _ rb 31 _ (0, 0) _ rfl hrow Tryz.underlying31 rfl (by kernel_rfl)) rfl ⟨rfl, HB9.out, HG9.out.mono (fun _ _ e => BA.maps_own e)⟩
 ·have g1 : decide (x.period ≤ B.cl) = false := decide_eq_false hp
  rw [if_neg hp]
  clear hp
  have hb0 : Below w.heap.size w ((w.alloc (.cells #[i64 x.client, i64 x.seq, i64 x.kind, .string x.acct, .string x.peer, i64 x.sum, .slice x.la x.legs.length x.lc, i64 x.period, i64 x.hold, .string x.note] 37)).alloc (.cells #[i64 0, i64 0, i64 0, i64 0] 31)) := ((Below.refl w.heap.size w).alloc (Nat.le_refl _) (.cells #[i64 x.client, i64 x.seq, i64 x.kind, .string x.acct, .string x.peer, i64 x.sum, .slice x.la x.legs.length x.lc, i64 x.period, i64 x.hold, .string x.note] 37)).alloc (by simp) (.cells #[i64 0, i64 0, i64 0, i64 0] 31)
  have ho0 := heap_alloc2_old w (.cells #[i64 x.client, i64 x.seq, i64 x.kind, .string x.acct, .string x.peer, i64 x.sum, .slice x.la x.legs.length x.lc, i64 x.period, i64 x.hold, .string x.note] 37) (.cells #[i64 0, i64 0, i64 0, i64 0] 31)
  have hr0 := heap_alloc2_new w (.cells #[i64 x.client, i64 x.seq, i64 x.kind, .string x.acct, .string x.peer, i64 x.sum, .slice x.la x.legs.length x.lc, i64 x.period, i64 x.hold, .string x.note] 37) (.cells #[i64 0, i64 0, i64 0, i64 0] 31)
  have hlt0 : w.heap.size < ((w.alloc (.cells #[i64 x.client, i64 x.seq, i64 x.kind, .string x.acct, .string x.peer, i64 x.sum, .slice x.la x.legs.length x.lc, i64 x.period, i64 x.hold, .string x.note] 37)).alloc (.cells #[i64 0, i64 0, i64 0, i64 0] 31)).heap.size ∧ w.heap.size + 1 < ((w.alloc (.cells #[i64 x.client, i64 x.seq, i64 x.kind, .string x.acct, .string x.peer, i64 x.sum, .slice x.la x.legs.length x.lc, i64 x.period, i64 x.hold, .string x.note] 37)).alloc (.cells #[i64 0, i64 0, i64 0, i64 0] 31)).heap.size := ⟨by simp; omega, by simp⟩
  have Hlt := Lib.hid h.lt
  have Hap := Lib.hid h.ap
  have H0 := h.later hb0
  unfold Od.v
  go_enter Tryz.func105, Tryz.ntmps105
  go_wp2_with fail
  generalize ((w.alloc (.cells #[i64 x.client, i64 x.seq, i64 x.kind, .string x.acct, .string x.peer, i64 x.sum, .slice x.la x.legs.length x.lc, i64 x.period, i64 x.hold, .string x.note] 37)).alloc (.cells #[i64 0, i64 0, i64 0, i64 0] 31)) = W0 at *
  generalize hrb : w.heap.size + 1 = rb at *
  have Hrb := Lib.hid (show w.heap.size ≤ rb by omega)
  clear hrb
  have Hna := Lib.hid (not_all Hlt.out Hrb.out)
  have Hnm := Lib.hid (not_maps Hlt.out Hrb.out)
  have hp0 := H0.cell
  have HSS := Lib.hid (show ∀ V, Gr W0 V a.maps → (fun V : World => V.cell? ⟨a.p, 0, none⟩ = some (.pointer (some ⟨a.g, 0, none⟩)) ∧ V.cell? ⟨a.p, 1, none⟩ = some (.pointer (some ⟨a.gh, 0, none⟩)) ∧ V.cell? ⟨a.p, 2, none⟩ = some (i64 B.cl) ∧ V.cell? ⟨w.heap.size, 0, none⟩ = some (i64 x.client) ∧ V.cell? ⟨w.heap.size, 1, none⟩ = some (i64 x.seq) ∧ V.cell? ⟨w.heap.size, 2, none⟩ = some (i64 x.kind) ∧ V.cell? ⟨w.heap.size, 3, none⟩ = some (.string x.acct) ∧ V.cell? ⟨w.heap.size, 4, none⟩ = some (.string x.peer) ∧ V.cell? ⟨w.heap.size, 5, none⟩ = some (i64 x.sum) ∧ V.cell? ⟨w.heap.size, 6, none⟩ = some (.slice x.la x.legs.length x.lc) ∧ V.cell? ⟨w.heap.size, 7, none⟩ = some (i64 x.period) ∧ V.cell? ⟨w.heap.size, 8, none⟩ = some (i64 x.hold) ∧ V.cell? ⟨w.heap.size, 9, none⟩ = some (.string x.note)) V from fun V hG => by
   have hp1 := (hG.block a.p (Array.getElem?_eq_some_iff.1 hp0).1 Hap.out.p_maps).trans hp0
   have ho1 := (hG.block w.heap.size hlt0.1 (not_maps Hlt.out (Nat.le_refl _))).trans ho0
   exact ⟨cell_of_row _ a.p 0 _ _ (0, 0) hp1, cell_of_row _ a.p 1 _ _ (0, 0) hp1, cell_of_row _ a.p 2 _ _ (0, 0) hp1, cell_of_row _ w.heap.size 0 _ _ (0, 0) ho1, cell_of_row _ w.heap.size 1 _ _ (0, 0) ho1, cell_of_row _ w.heap.size 2 _ _ (0, 0) ho1, cell_of_row _ w.heap.size 3 _ _ (0, 0) ho1, cell_of_row _ w.heap.size 4 _ _ (0, 0) ho1, cell_of_row _ w.heap.size 5 _ _ (0, 0) ho1, cell_of_row _ w.heap.size 6 _ _ (0, 0) ho1, cell_of_row _ w.heap.size 7 _ _ (0, 0) ho1, cell_of_row _ w.heap.size 8 _ _ (0, 0) ho1, cell_of_row _ w.heap.size 9 _ _ (0, 0) ho1⟩)
  have HR0 := Lib.hid hr0
  have HO0 := Lib.hid ho0
  have HB0 := Lib.hid H0
  have Hb0 := Lib.hid hb0
  have hG0 := Gr.of_below ((Below.refl W0.heap.size W0).drew) a.maps
  clear hp0 ho0 hr0 H0 hb0 h
  refine wp_region_noPanic ?_
  refine wp_region_l 6 (fun V : World => V.cell? ⟨a.p, 0, none⟩ = some (.pointer (some ⟨a.g, 0, none⟩)) ∧ V.cell? ⟨a.p, 1, none⟩ = some (.pointer (some ⟨a.gh, 0, none⟩)) ∧ V.cell? ⟨a.p, 2, none⟩ = some (i64 B.cl) ∧ V.cell? ⟨w.heap.size, 0, none⟩ = some (i64 x.client) ∧ V.cell? ⟨w.heap.size, 1, none⟩ = some (i64 x.seq) ∧ V.cell? ⟨w.heap.size, 2, none⟩ = some (i64 x.kind) ∧ V.cell? ⟨w.heap.size, 3, none⟩ = some (.string x.acct) ∧ V.cell? ⟨w.heap.size, 4, none⟩ = some (.string x.peer) ∧ V.cell? ⟨w.heap.size, 5, none⟩ = some (i64 x.sum) ∧ V.cell? ⟨w.heap.size, 6, none⟩ = some (.slice x.la x.legs.length x.lc) ∧ V.cell? ⟨w.heap.size, 7, none⟩ = some (i64 x.period) ∧ V.cell? ⟨w.heap.size, 8, none⟩ = some (i64 x.hold) ∧ V.cell? ⟨w.heap.size, 9, none⟩ = some (.string x.note)) (by kernel_rfl) (HSS.out _ hG0) (fun hH => ?_)
  refine tkZ 0 ?_; refine tkZ 1 ?_; refine tkZ 2 ?_; refine tkZ 3 ?_; refine tkZ 4 ?_; refine tkZ 5 ?_
  refine tkL (fun K hK => ?_)
  go_simp
  refine hK.out _ _ ?_
  clear hK K
  try simp only [Act.put, uA, uZ, uS, vA, vZ, vS]
  refine tkD ?_
  have hG := hG0.more (Below.refl _ _).drew
  have hB := (HB0.out.later (Below.refl _ _).drew).later (Below.refl _ _).drew
  have hl := ((hl.later Hb0.out).later (Below.refl _ _).drew).later (Below.refl _ _).drew
  clear hG0
  go_wp2_with fail
  refine wp_region_noPanic ?_
  refine wp_region_l 8 (fun V : World => V.cell? ⟨a.p, 0, none⟩ = some (.pointer (some ⟨a.g, 0, none⟩)) ∧ V.cell? ⟨a.p, 1, none⟩ = some (.pointer (some ⟨a.gh, 0, none⟩)) ∧ V.cell? ⟨a.p, 2, none⟩ = some (i64 B.cl) ∧ V.cell? ⟨w.heap.size, 0, none⟩ = some (i64 x.client) ∧ V.cell? ⟨w.heap.size, 1, none⟩ = some (i64 x.seq) ∧ V.cell? ⟨w.heap.size, 2, none⟩ = some (i64 x.kind) ∧ V.cell? ⟨w.heap.size, 3, none⟩ = some (.string x.acct) ∧ V.cell? ⟨w.heap.size, 4, none⟩ = some (.string x.peer) ∧ V.cell? ⟨w.heap.size, 5, none⟩ = some (i64 x.sum) ∧ V.cell? ⟨w.heap.size, 6, none⟩ = some (.slice x.la x.legs.length x.lc) ∧ V.cell? ⟨w.heap.size, 7, none⟩ = some (i64 x.period) ∧ V.cell? ⟨w.heap.size, 8, none⟩ = some (i64 x.hold) ∧ V.cell? ⟨w.heap.size, 9, none⟩ = some (.string x.note)) (by kernel_rfl) (HSS.out _ hG) (fun hH => ?_)
  refine tkZ 0 ?_; refine tkZ 1 ?_; refine tkZ 2 ?_; refine tkZ 3 ?_; refine tkZ 4 ?_; refine tkZ 5 ?_
  refine tkO 6 (fun K hK => ?_)
  go_simp
  refine (HC.out _ hB hl).mono ?_
  rintro e W2 ⟨rfl, hc1, hg1⟩
  obtain ⟨hB, hg1⟩ := hB.chart hc1 hg1
  clear hc1
  have hG := hG.after hg1
  clear hg1
  refine hK.out _ _ (HSS.out _ hG) (fun hH => ?_)
  clear hK K
  try simp only [Act.put, uA, uZ, uS, vA, vZ, vS]
  refine tkZ 7 ?_
  refine tkL (fun K hK => ?_)
  have hr := (hG.block rb hlt0.2 Hnm.out).trans HR0.out
  refine wp_store_row 31 (.tmp 4) (.tmp 20) rfl rb #[i64 er, i64 0, i64 0, i64 0] rfl rfl 31 #[i64 0, i64 0, i64 0, i64 0] hr (by kernel_rfl) rfl (by simp [Value.oneCell']) ?_
  refine hK.out _ _ ?_
  clear hK K
  try simp only [Act.put, uA, uZ, uS]
  refine tkD ?_
  have hrow := setRow_heap W2 rb _ #[i64 er, i64 0, i64 0, i64 0] _ _ hr
  have hB9 := hB.row Hna.out #[i64 er, i64 0, i64 0, i64 0]
  have hG9 := ((Gr.of_below Hb0.out a.maps).after hG).own_row Hrb.out #[i64 er, i64 0, i64 0, i64 0]
  have HB9 := Lib.hid hB9
  have HG9 := Lib.hid hG9
  clear hB9 hG9 hB hG
  go_wp2
  exact bodyPost_ret (results_cell_row rfl _ _ rb 31 _ (0, 0) _ rfl hrow Tryz.underlying31 rfl (by kernel_rfl)) rfl ⟨rfl, HB9.out, HG9.out.mono (fun _ _ e => BA.maps_own e)⟩
set_option maxRecDepth 100000 in
set_option maxHeartbeats 8000000 in
theorem bhold_c (a : BA) (B : Bk) (x : Od) (w : World) (h : BkA w a B) (hI : InvB B) (hx : OdB x) (hr : rightB x = true) :
  Calls Tryz.prog 106 #[a.ptr, x.v] w fun e w' => e = .returned (holdD B x).1.v ∧ BkA w' a (holdD B x).2 ∧ Gr w w' a.own := by
 have hids := (rightB_ids hr).2
 have HN := Lib.hid (fun W => number9_c x.client x.seq W hids)
 unfold holdD
 have HC := Lib.hid (fun (W : World) (hW : BkA W a B) => hoput_c a.g a.b a.gh a.bh B.L B.H ⟨numO x, x.acct, x.sum⟩ W hW.ch hW.ho ⟨hW.ap.ghb, hW.ap.bhb, hW.ap.gbh⟩ hI.inv.okA hI.inv.okH hx.rng.2.2.2.1 (Nat.le_trans hI.lenH (by decide)))
 have HT := Lib.hid (fun (W : World) (hW : BkA W a ⟨(putH B.L B.H ⟨numO x, x.acct, x.sum⟩).2.1, (putH B.L B.H ⟨numO x, x.acct, x.sum⟩).2.2, B.cl⟩) => btells_c a _ x (putH B.L B.H ⟨numO x, x.acct, x.sum⟩).1 W hW)
 clear hI hx hr hids
 dsimp only at *
 generalize putH B.L B.H ⟨numO x, x.acct, x.sum⟩ = R at *
 obtain ⟨er, L2, H2⟩ := R
 dsimp only at *
 generalize tellsL L2 x.acct er = t at *
 generalize hN : numO x = N at *
 rw [show 1000 * x.client + x.seq = N from hN] at HN
 clear hN
 have hb0 : Below w.heap.size w ((w.alloc (.cells #[i64 x.client, i64 x.seq, i64 x.kind, .string x.acct, .string x.peer, i64 x.sum, .slice x.la x.legs.length x.lc, i64 x.period, i64 x.hold, .string x.note] 37)).alloc (.cells #[i64 0, i64 0, i64 0, i64 0] 31)) := ((Below.refl w.heap.size w).alloc (Nat.le_refl _) (.cells #[i64 x.client, i64 x.seq, i64 x.kind, .string x.acct, .string x.peer, i64 x.sum, .slice x.la x.legs.length x.lc, i64 x.period, i64 x.hold, .string x.note] 37)).alloc (by simp) (.cells #[i64 0, i64 0, i64 0, i64 0] 31)
 have ho0 := heap_alloc2_old w (.cells #[i64 x.client, i64 x.seq, i64 x.kind, .string x.acct, .string x.peer, i64 x.sum, .slice x.la x.legs.length x.lc, i64 x.period, i64 x.hold, .string x.note] 37) (.cells #[i64 0, i64 0, i64 0, i64 0] 31)
 have hr0 := heap_alloc2_new w (.cells #[i64 x.client, i64 x.seq, i64 x.kind, .string x.acct, .string x.peer, i64 x.sum, .slice x.la x.legs.length x.lc, i64 x.period, i64 x.hold, .string x.note] 37) (.cells #[i64 0, i64 0, i64 0, i64 0] 31)
 have hlt0 : w.heap.size < ((w.alloc (.cells #[i64 x.client, i64 x.seq, i64 x.kind, .string x.acct, .string x.peer, i64 x.sum, .slice x.la x.legs.length x.lc, i64 x.period, i64 x.hold, .string x.note] 37)).alloc (.cells #[i64 0, i64 0, i64 0, i64 0] 31)).heap.size ∧ w.heap.size + 1 < ((w.alloc (.cells #[i64 x.client, i64 x.seq, i64 x.kind, .string x.acct, .string x.peer, i64 x.sum, .slice x.la x.legs.length x.lc, i64 x.period, i64 x.hold, .string x.note] 37)).alloc (.cells #[i64 0, i64 0, i64 0, i64 0] 31)).heap.size := ⟨by simp; omega, by simp⟩
 have Hlt := Lib.hid h.lt
 have Hap := Lib.hid h.ap
 have H0 := h.later hb0
 unfold Od.v
 go_enter Tryz.func106, Tryz.ntmps106
 go_wp2_with fail
 generalize ((w.alloc (.cells #[i64 x.client, i64 x.seq, i64 x.kind, .string x.acct, .string x.peer, i64 x.sum, .slice x.la x.legs.length x.lc, i64 x.period, i64 x.hold, .string x.note] 37)).alloc (.cells #[i64 0, i64 0, i64 0, i64 0] 31)) = W0 at *
 generalize hrb : w.heap.size + 1 = rb at *
 have Hrb := Lib.hid (show w.heap.size ≤ rb by omega)
 clear hrb
 have Hna := Lib.hid (not_all Hlt.out Hrb.out)
 have Hnm := Lib.hid (not_maps Hlt.out Hrb.out)
 have hp0 := H0.cell
 have HSS := Lib.hid (show ∀ V, Gr W0 V a.maps → (fun V : World => V.cell? ⟨a.p, 0, none⟩ = some (.pointer (some ⟨a.g, 0, none⟩)) ∧ V.cell? ⟨a.p, 1, none⟩ = some (.pointer (some ⟨a.gh, 0, none⟩)) ∧ V.cell? ⟨a.p, 2, none⟩ = some (i64 B.cl) ∧ V.cell? ⟨w.heap.size, 0, none⟩ = some (i64 x.client) ∧ V.cell? ⟨w.heap.size, 1, none⟩ = some (i64 x.seq) ∧ V.cell? ⟨w.heap.size, 2, none⟩ = some (i64 x.kind) ∧ V.cell? ⟨w.heap.size, 3, none⟩ = some (.string x.acct) ∧ V.cell? ⟨w.heap.size, 4, none⟩ = some (.string x.peer) ∧ V.cell? ⟨w.heap.size, 5, none⟩ = some (i64 x.sum) ∧ V.cell? ⟨w.heap.size, 6, none⟩ = some (.slice x.la x.legs.length x.lc) ∧ V.cell? ⟨w.heap.size, 7, none⟩ = some (i64 x.period) ∧ V.cell? ⟨w.heap.size, 8, none⟩ = some (i64 x.hold) ∧ V.cell? ⟨w.heap.size, 9, none⟩ = some (.string x.note)) V from fun V hG => by
  have hp1 := (hG.block a.p (Array.getElem?_eq_some_iff.1 hp0).1 Hap.out.p_maps).trans hp0
  have ho1 := (hG.block w.heap.size hlt0.1 (not_maps Hlt.out (Nat.le_refl _))).trans ho0
  exact ⟨cell_of_row _ a.p 0 _ _ (0, 0) hp1, cell_of_row _ a.p 1 _ _ (0, 0) hp1, cell_of_row _ a.p 2 _ _ (0, 0) hp1, cell_of_row _ w.heap.size 0 _ _ (0, 0) ho1, cell_of_row _ w.heap.size 1 _ _ (0, 0) ho1, cell_of_row _ w.heap.size 2 _ _ (0, 0) ho1, cell_of_row _ w.heap.size 3 _ _ (0, 0) ho1, cell_of_row _ w.heap.size 4 _ _ (0, 0) ho1, cell_of_row _ w.heap.size 5 _ _ (0, 0) ho1, cell_of_row _ w.heap.size 6 _ _ (0, 0) ho1, cell_of_row _ w.heap.size 7 _ _ (0, 0) ho1, cell_of_row _ w.heap.size 8 _ _ (0, 0) ho1, cell_of_row _ w.heap.size 9 _ _ (0, 0) ho1⟩)
 have HR0 := Lib.hid hr0
 have HO0 := Lib.hid ho0
 have HB0 := Lib.hid H0
 have Hb0 := Lib.hid hb0
 have hG0 := Gr.of_below ((Below.refl W0.heap.size W0).drew) a.maps
 clear hp0 ho0 hr0 H0 hb0 h
 have hb0z := Lib.hid Hb0.out.size
 refine (HN.out _).mono ?_
 rintro e W1 ⟨rfl, hF⟩
 have hG := (Gr.of_below hF a.maps).more (Below.refl _ _).drew
 have hB := (HB0.out.later hF).later (Below.refl _ _).drew
 clear hF hG0
 go_wp2_with fail
 refine wp_region_noPanic ?_
 refine wp_region_l 19 (fun V : World => V.cell? ⟨a.p, 0, none⟩ = some (.pointer (some ⟨a.g, 0, none⟩)) ∧ V.cell? ⟨a.p, 1, none⟩ = some (.pointer (some ⟨a.gh, 0, none⟩)) ∧ V.cell? ⟨a.p, 2, none⟩ = some (i64 B.cl) ∧ V.cell? ⟨w.heap.size, 0, none⟩ = some (i64 x.client) ∧ V.cell? ⟨w.heap.size, 1, none⟩ = some (i64 x.seq) ∧ V.cell? ⟨w.heap.size, 2, none⟩ = some (i64 x.kind) ∧ V.cell? ⟨w.heap.size, 3, none⟩ = some (.string x.acct) ∧ V.cell? ⟨w.heap.size, 4, none⟩ = some (.string x.peer) ∧ V.cell? ⟨w.heap.size, 5, none⟩ = some (i64 x.sum) ∧ V.cell? ⟨w.heap.size, 6, none⟩ = some (.slice x.la x.legs.length x.lc) ∧ V.cell? ⟨w.heap.size, 7, none⟩ = some (i64 x.period) ∧ V.cell? ⟨w.heap.size, 8, none⟩ = some (i64 x.hold) ∧ V.cell? ⟨w.heap.size, 9, none⟩ = some (.string x.note)) (by kernel_rfl) (HSS.out _ hG) (fun hH => ?_)
 refine tkZ 0 ?_; refine tkZ 1 ?_; refine tkZ 2 ?_; refine tkZ 3 ?_; refine tkZ 4 ?_; refine tkZ 5 ?_; refine tkZ 6 ?_; refine tkZ 7 ?_; refine tkZ 8 ?_; refine tkZ 9 ?_; refine tkZ 10 ?_; refine tkZ 11 ?_; refine tkZ 12 ?_; refine tkZ 13 ?_; refine tkZ 14 ?_; refine tkZ 15 ?_
 refine wpAnyL_ready (rs := [16, 18]) (by kernel_rfl) (by simp) ?_
 refine AllReadyL.cons rfl (fun K hK => ?_) ?_
 ·skip
  go_simp
  refine (HC.out _ hB).mono ?_
  rintro e W2 ⟨rfl, hc1, hh1, hg1⟩
  obtain ⟨hB, hg1⟩ := hB.both hc1 hh1 hg1
  clear hc1 hh1
  have hG := hG.after hg1
  clear hg1
  refine hK.out _ _ (HSS.out _ hG) (fun hH => ?_)
  clear hK K
  try simp only [Act.put, uA, uZ, uS, vA, vZ, vS]
  refine wpAnyL_ready (rs := [17, 18]) (by kernel_rfl) (by simp) ?_
  refine AllReadyL.cons rfl (fun K hK => ?_) ?_
  ·skip
   go_simp
   refine (HT.out _ hB).mono ?_
   rintro e W3 ⟨rfl, hF⟩
   have hB := hB.later hF
   have hG := hG.more hF
   clear hF
   refine hK.out _ _ (HSS.out _ hG) (fun hH => ?_)
   clear hK K
   try simp only [Act.put, uA, uZ, uS, vA, vZ, vS]
   refine tkO 18 (fun K hK => ?_)
   go_simp
   obtain ⟨ab, hab, hal⟩ : ∃ ab, ab = W3.heap.size ∧ (W3.alloc (.cells #[i64 0, i64 0, i64 0, i64 0] 31)).heap[ab]? = some (.cells #[i64 0, i64 0, i64 0, i64 0] 31) := ⟨_, rfl, heap_alloc_new W3 _⟩
   have Hab := Lib.hid hab
   have hgz := hG.size
   have hwz := hb0z.out
   have Hgw := Lib.hid (show W0.heap.size ≤ ab by rw [hab]; exact hgz)
   have Hge := Lib.hid (show w.heap.size ≤ ab from Nat.le_trans hwz Hgw.out)
   have Hne := Lib.hid (show rb ≠ ab by have := hlt0.2; have := Hgw.out; omega)
   clear hab hgz hwz
   have hB := hB.later ((Below.refl _ _).alloc (Nat.le_refl _) (.cells #[i64 0, i64 0, i64 0, i64 0] 31))
   have hG := hG.more ((Below.refl _ _).alloc (Nat.le_refl _) (.cells #[i64 0, i64 0, i64 0, i64 0] 31))
   refine hK.out _ _ (HSS.out _ hG) (fun hH => ?_)
   clear hK K
   try simp only [Act.put, uA, uZ, uS, vA, vZ, vS]
   refine tkL (fun K hK => ?_)
   refine wp_store_row 31 (.tmp 6) (.tmp 27) rfl ab #[i64 t.err, i64 t.hav, i64 t.set_, i64 t.num] (by rw [Hab.out] <;> rfl) rfl 31 #[i64 0, i64 0, i64 0, i64 0] hal (by kernel_rfl) rfl (by simp [Value.oneCell']) ?_
   refine hK.out _ _ ?_
   clear hK K
   try simp only [Act.put, uA, uZ, uS]
   have hal := setRow_heap _ ab _ #[i64 t.err, i64 t.hav, i64 t.set_, i64 t.num] _ _ hal
   have hB := hB.row (not_all Hlt.out Hge.out) #[i64 t.err, i64 t.hav, i64 t.set_, i64 t.num]
   have hG := hG.own_row Hgw.out #[i64 t.err, i64 t.hav, i64 t.set_, i64 t.num]
   refine tkD ?_
   generalize ((W3.alloc (.cells #[i64 0, i64 0, i64 0, i64 0] 31))).setRow ab #[i64 t.err, i64 t.hav, i64 t.set_, i64 t.num] = W4 at *
   have hr := (hG.block rb hlt0.2 Hnm.out).trans HR0.out
   have k0 := cell_of_row _ ab 0 _ _ (0, 0) hal
   have k1 := cell_of_row _ ab 1 _ _ (0, 0) hal
   have k2 := cell_of_row _ ab 2 _ _ (0, 0) hal
   have k3 := cell_of_row _ ab 3 _ _ (0, 0) hal
   have kf := frozen_of_row _ ab 3 _ _ hal
   simp only [List.getElem?_toArray, List.getElem?_cons_zero, List.getElem?_cons_succ] at k0 k1 k2 k3
   have hab2 := Hab.out
   subst hab2
   by_cases ht : t.err = 0
   ·have g5 : (t.err == 0) = true := by rw [ht]; rfl
    have hg4 := grown_setCell (World.grownBy.refl W4 (some W3.heap.size)) (p := ⟨W3.heap.size, 3, none⟩) (.inl rfl) (i64 N)
    have hal4 := heap_setCell_same W4 W3.heap.size 3 _ _ (i64 N) hal
    simp only [vA, vZ, vS] at hal4
    have hr4 := (hg4.block rb (Array.getElem?_eq_some_iff.1 hr).1 (fun e => Hne.out (by injection e))).trans hr
    have hG4 : Gr W4 (W4.setCell ⟨W3.heap.size, 3, none⟩ (i64 N)) (fun k => k = W3.heap.size) := (Gr.of_grown hg4).mono fun k _ e => by injection e with e; exact e.symm
    have hB := hB.kept hG4 (not_all Hlt.out Hge.out)
    have hG := ((Gr.of_below Hb0.out a.maps).after hG).trans hG4 (fun k e => .inr (by rw [e]; exact Hge.out))
    have HRow := Lib.hid (setRow_heap _ rb _ #[i64 t.err, i64 t.hav, i64 t.set_, i64 N] _ _ hr4)
    have HB9 := Lib.hid (hB.row Hna.out #[i64 t.err, i64 t.hav, i64 t.set_, i64 N])
    have HG9 := Lib.hid (hG.own_row Hrb.out #[i64 t.err, i64 t.hav, i64 t.set_, i64 N])
    have HW := Lib.hid (show withN t N = ⟨t.err, t.hav, t.set_, N⟩ by unfold withN; rw [if_pos ht])
    clear hB hG hg4 hG4 ht hal
    go_wp2_with (first | refine wpList_store_row rfl 31 (.tmp 4) (.tmp 33) rfl rb #[i64 t.err, i64 t.hav, i64 t.set_, i64 N] rfl rfl 31 #[i64 0, i64 0, i64 0, i64 0] hr4 (by kernel_rfl) rfl (by simp [Value.oneCell']) ?_ | refine wpList_load_row rfl 31 (.tmp 6) rfl W3.heap.size rfl 31 #[i64 t.err, i64 t.hav, i64 t.set_, i64 N] _ _ hal4 Tryz.underlying31 rfl (by kernel_rfl) ?_)
    have hrow := HRow.out
    exact bodyPost_ret (results_cell_row rfl _ _ rb 31 _ (0, 0) _ rfl hrow Tryz.underlying31 rfl (by kernel_rfl)) rfl ⟨by rw [HW.out], HB9.out, HG9.out.mono (fun _ _ e => BA.maps_own e)⟩
   ·have g5 : (t.err == 0) = false := beq_eq_false_iff_ne.2 ht
    have hG := (Gr.of_below Hb0.out a.maps).after hG
    have HRow := Lib.hid (setRow_heap W4 rb _ #[i64 t.err, i64 t.hav, i64 t.set_, i64 t.num] _ _ hr)
    have HB9 := Lib.hid (hB.row Hna.out #[i64 t.err, i64 t.hav, i64 t.set_, i64 t.num])
    have HG9 := Lib.hid (hG.own_row Hrb.out #[i64 t.err, i64 t.hav, i64 t.set_, i64 t.num])
    have HW := Lib.hid (show withN t N = t by unfold withN; rw [if_neg ht])
    clear hB hG ht hal
    go_wp2_with (refine wpList_store_row rfl 31 (.tmp 4) (.tmp 33) rfl rb #[i64 t.err, i64 t.hav, i64 t.set_, i64 t.num] rfl rfl 31 #[i64 0, i64 0, i64 0, i64 0] hr (by kernel_rfl) rfl (by simp [Value.oneCell']) ?_)
    have hrow := HRow.out
    exact bodyPost_ret (results_cell_row rfl _ _ rb 31 _ (0, 0) _ rfl hrow Tryz.underlying31 rfl (by kernel_rfl)) rfl ⟨by rw [HW.out], HB9.out, HG9.out.mono (fun _ _ e => BA.maps_own e)⟩
  refine AllReadyL.cons rfl (fun K hK => ?_) ?_
  ·skip
   go_simp
   obtain ⟨ab, hab, hal⟩ : ∃ ab, ab = W2.heap.size ∧ (W2.alloc (.cells #[i64 0, i64 0, i64 0, i64 0] 31)).heap[ab]? = some (.cells #[i64 0, i64 0, i64 0, i64 0] 31) := ⟨_, rfl, heap_alloc_new W2 _⟩
   have Hab := Lib.hid hab
   have hgz := hG.size
   have hwz := hb0z.out
   have Hgw := Lib.hid (show W0.heap.size ≤ ab by rw [hab]; exact hgz)
   have Hge := Lib.hid (show w.heap.size ≤ ab from Nat.le_trans hwz Hgw.out)
   have Hne := Lib.hid (show rb ≠ ab by have := hlt0.2; have := Hgw.out; omega)
   clear hab hgz hwz
   have hB := hB.later ((Below.refl _ _).alloc (Nat.le_refl _) (.cells #[i64 0, i64 0, i64 0, i64 0] 31))
   have hG := hG.more ((Below.refl _ _).alloc (Nat.le_refl _) (.cells #[i64 0, i64 0, i64 0, i64 0] 31))
   refine hK.out _ _ (HSS.out _ hG) (fun hH => ?_)
   clear hK K
   try simp only [Act.put, uA, uZ, uS, vA, vZ, vS]
   refine tkO 17 (fun K hK => ?_)
   go_simp
   refine (HT.out _ hB).mono ?_
   rintro e W3 ⟨rfl, hF⟩
   have hal := (hF.block ab (Array.getElem?_eq_some_iff.1 hal).1).trans hal
   have hB := hB.later hF
   have hG := hG.more hF
   clear hF
   refine hK.out _ _ (HSS.out _ hG) (fun hH => ?_)
   clear hK K
   try simp only [Act.put, uA, uZ, uS, vA, vZ, vS]
   refine tkL (fun K hK => ?_)
   refine wp_store_row 31 (.tmp 6) (.tmp 27) rfl ab #[i64 t.err, i64 t.hav, i64 t.set_, i64 t.num] (by rw [Hab.out] <;> rfl) rfl 31 #[i64 0, i64 0, i64 0, i64 0] hal (by kernel_rfl) rfl (by simp [Value.oneCell']) ?_
   refine hK.out _ _ ?_
   clear hK K
   try simp only [Act.put, uA, uZ, uS]
   have hal := setRow_heap _ ab _ #[i64 t.err, i64 t.hav, i64 t.set_, i64 t.num] _ _ hal
   have hB := hB.row (not_all Hlt.out Hge.out) #[i64 t.err, i64 t.hav, i64 t.set_, i64 t.num]
   have hG := hG.own_row Hgw.out #[i64 t.err, i64 t.hav, i64 t.set_, i64 t.num]
   refine tkD ?_
   generalize (W3).setRow ab #[i64 t.err, i64 t.hav, i64 t.set_, i64 t.num] = W4 at *
   have hr := (hG.block rb hlt0.2 Hnm.out).trans HR0.out
   have k0 := cell_of_row _ ab 0 _ _ (0, 0) hal
   have k1 := cell_of_row _ ab 1 _ _ (0, 0) hal
   have k2 := cell_of_row _ ab 2 _ _ (0, 0) hal
   have k3 := cell_of_row _ ab 3 _ _ (0, 0) hal
   have kf := frozen_of_row _ ab 3 _ _ hal
   simp only [List.getElem?_toArray, List.getElem?_cons_zero, List.getElem?_cons_succ] at k0 k1 k2 k3
   have hab2 := Hab.out
   subst hab2
   by_cases ht : t.err = 0
   ·have g5 : (t.err == 0) = true := by rw [ht]; rfl
    have hg4 := grown_setCell (World.grownBy.refl W4 (some W2.heap.size)) (p := ⟨W2.heap.size, 3, none⟩) (.inl rfl) (i64 N)
    have hal4 := heap_setCell_same W4 W2.heap.size 3 _ _ (i64 N) hal
    simp only [vA, vZ, vS] at hal4
    have hr4 := (hg4.block rb (Array.getElem?_eq_some_iff.1 hr).1 (fun e => Hne.out (by injection e))).trans hr
    have hG4 : Gr W4 (W4.setCell ⟨W2.heap.size, 3, none⟩ (i64 N)) (fun k => k = W2.heap.size) := (Gr.of_grown hg4).mono fun k _ e => by injection e with e; exact e.symm
    have hB := hB.kept hG4 (not_all Hlt.out Hge.out)
    have hG := ((Gr.of_below Hb0.out a.maps).after hG).trans hG4 (fun k e => .inr (by rw [e]; exact Hge.out))
    have HRow := Lib.hid (setRow_heap _ rb _ #[i64 t.err, i64 t.hav, i64 t.set_, i64 N] _ _ hr4)
    have HB9 := Lib.hid (hB.row Hna.out #[i64 t.err, i64 t.hav, i64 t.set_, i64 N])
    have HG9 := Lib.hid (hG.own_row Hrb.out #[i64 t.err, i64 t.hav, i64 t.set_, i64 N])
    have HW := Lib.hid (show withN t N = ⟨t.err, t.hav, t.set_, N⟩ by unfold withN; rw [if_pos ht])
    clear hB hG hg4 hG4 ht hal
    go_wp2_with (first | refine wpList_store_row rfl 31 (.tmp 4) (.tmp 33) rfl rb #[i64 t.err, i64 t.hav, i64 t.set_, i64 N] rfl rfl 31 #[i64 0, i64 0, i64 0, i64 0] hr4 (by kernel_rfl) rfl (by simp [Value.oneCell']) ?_ | refine wpList_load_row rfl 31 (.tmp 6) rfl W2.heap.size rfl 31 #[i64 t.err, i64 t.hav, i64 t.set_, i64 N] _ _ hal4 Tryz.underlying31 rfl (by kernel_rfl) ?_)
    have hrow := HRow.out
    exact bodyPost_ret (results_cell_row rfl _ _ rb 31 _ (0, 0) _ rfl hrow Tryz.underlying31 rfl (by kernel_rfl)) rfl ⟨by rw [HW.out], HB9.out, HG9.out.mono (fun _ _ e => BA.maps_own e)⟩
   ·have g5 : (t.err == 0) = false := beq_eq_false_iff_ne.2 ht
    have hG := (Gr.of_below Hb0.out a.maps).after hG
    have HRow := Lib.hid (setRow_heap W4 rb _ #[i64 t.err, i64 t.hav, i64 t.set_, i64 t.num] _ _ hr)
    have HB9 := Lib.hid (hB.row Hna.out #[i64 t.err, i64 t.hav, i64 t.set_, i64 t.num])
    have HG9 := Lib.hid (hG.own_row Hrb.out #[i64 t.err, i64 t.hav, i64 t.set_, i64 t.num])
    have HW := Lib.hid (show withN t N = t by unfold withN; rw [if_neg ht])
    clear hB hG ht hal
    go_wp2_with (refine wpList_store_row rfl 31 (.tmp 4) (.tmp 33) rfl rb #[i64 t.err, i64 t.hav, i64 t.set_, i64 t.num] rfl rfl 31 #[i64 0, i64 0, i64 0, i64 0] hr (by kernel_rfl) rfl (by simp [Value.oneCell']) ?_)
    have hrow := HRow.out
    exact bodyPost_ret (results_cell_row rfl _ _ rb 31 _ (0, 0) _ rfl hrow Tryz.underlying31 rfl (by kernel_rfl)) rfl ⟨by rw [HW.out], HB9.out, HG9.out.mono (fun _ _ e => BA.maps_own e)⟩
  exact AllReadyL.nil
 refine AllReadyL.cons rfl (fun K hK => ?_) ?_
 ·skip
  go_simp
  obtain ⟨ab, hab, hal⟩ : ∃ ab, ab = W1.heap.size ∧ (W1.drew.alloc (.cells #[i64 0, i64 0, i64 0, i64 0] 31)).heap[ab]? = some (.cells #[i64 0, i64 0, i64 0, i64 0] 31) := ⟨_, rfl, heap_alloc_new W1.drew _⟩
  have Hab := Lib.hid hab
  have hgz := hG.size
  have hwz := hb0z.out
  have Hgw := Lib.hid (show W0.heap.size ≤ ab by rw [hab]; exact hgz)
  have Hge := Lib.hid (show w.heap.size ≤ ab from Nat.le_trans hwz Hgw.out)
  have Hne := Lib.hid (show rb ≠ ab by have := hlt0.2; have := Hgw.out; omega)
  clear hab hgz hwz
  have hB := hB.later ((Below.refl _ _).alloc (Nat.le_refl _) (.cells #[i64 0, i64 0, i64 0, i64 0] 31))
  have hG := hG.more ((Below.refl _ _).alloc (Nat.le_refl _) (.cells #[i64 0, i64 0, i64 0, i64 0] 31))
  refine hK.out _ _ (HSS.out _ hG) (fun hH => ?_)
  clear hK K
  try simp only [Act.put, uA, uZ, uS, vA, vZ, vS]
  refine tkO 16 (fun K hK => ?_)
  go_simp
  refine (HC.out _ hB).mono ?_
  rintro e W2 ⟨rfl, hc1, hh1, hg1⟩
  obtain ⟨hB, hg1⟩ := hB.both hc1 hh1 hg1
  clear hc1 hh1
  have hal := (hg1.block ab (Array.getElem?_eq_some_iff.1 hal).1 (not_maps Hlt.out Hge.out)).trans hal
  have hG := hG.after hg1
  clear hg1
  refine hK.out _ _ (HSS.out _ hG) (fun hH => ?_)
  clear hK K
  try simp only [Act.put, uA, uZ, uS, vA, vZ, vS]
  refine tkO 17 (fun K hK => ?_)
  go_simp
  refine (HT.out _ hB).mono ?_
  rintro e W3 ⟨rfl, hF⟩
  have hal := (hF.block ab (Array.getElem?_eq_some_iff.1 hal).1).trans hal
  have hB := hB.later hF
  have hG := hG.more hF
  clear hF
  refine hK.out _ _ (HSS.out _ hG) (fun hH => ?_)
  clear hK K
  try simp only [Act.put, uA, uZ, uS, vA, vZ, vS]
  refine tkL (fun K hK => ?_)
  refine wp_store_row 31 (.tmp 6) (.tmp 27) rfl ab #[i64 t.err, i64 t.hav, i64 t.set_, i64 t.num] (by rw [Hab.out] <;> rfl) rfl 31 #[i64 0, i64 0, i64 0, i64 0] hal (by kernel_rfl) rfl (by simp [Value.oneCell']) ?_
  refine hK.out _ _ ?_
  clear hK K
  try simp only [Act.put, uA, uZ, uS]
  have hal := setRow_heap _ ab _ #[i64 t.err, i64 t.hav, i64 t.set_, i64 t.num] _ _ hal
  have hB := hB.row (not_all Hlt.out Hge.out) #[i64 t.err, i64 t.hav, i64 t.set_, i64 t.num]
  have hG := hG.own_row Hgw.out #[i64 t.err, i64 t.hav, i64 t.set_, i64 t.num]
  refine tkD ?_
  generalize (W3).setRow ab #[i64 t.err, i64 t.hav, i64 t.set_, i64 t.num] = W4 at *
  have hr := (hG.block rb hlt0.2 Hnm.out).trans HR0.out
  have k0 := cell_of_row _ ab 0 _ _ (0, 0) hal
  have k1 := cell_of_row _ ab 1 _ _ (0, 0) hal
  have k2 := cell_of_row _ ab 2 _ _ (0, 0) hal
  have k3 := cell_of_row _ ab 3 _ _ (0, 0) hal
  have kf := frozen_of_row _ ab 3 _ _ hal
  simp only [List.getElem?_toArray, List.getElem?_cons_zero, List.getElem?_cons_succ] at k0 k1 k2 k3
  have hab2 := Hab.out
  subst hab2
  by_cases ht : t.err = 0
  ·have g5 : (t.err == 0) = true := by rw [ht]; rfl
   have hg4 := grown_setCell (World.grownBy.refl W4 (some W1.heap.size)) (p := ⟨W1.heap.size, 3, none⟩) (.inl rfl) (i64 N)
   have hal4 := heap_setCell_same W4 W1.heap.size 3 _ _ (i64 N) hal
   simp only [vA, vZ, vS] at hal4
   have hr4 := (hg4.block rb (Array.getElem?_eq_some_iff.1 hr).1 (fun e => Hne.out (by injection e))).trans hr
   have hG4 : Gr W4 (W4.setCell ⟨W1.heap.size, 3, none⟩ (i64 N)) (fun k => k = W1.heap.size) := (Gr.of_grown hg4).mono fun k _ e => by injection e with e; exact e.symm
   have hB := hB.kept hG4 (not_all Hlt.out Hge.out)
   have hG := ((Gr.of_below Hb0.out a.maps).after hG).trans hG4 (fun k e => .inr (by rw [e]; exact Hge.out))
   have HRow := Lib.hid (setRow_heap _ rb _ #[i64 t.err, i64 t.hav, i64 t.set_, i64 N] _ _ hr4)
   have HB9 := Lib.hid (hB.row Hna.out #[i64 t.err, i64 t.hav, i64 t.set_, i64 N])
   have HG9 := Lib.hid (hG.own_row Hrb.out #[i64 t.err, i64 t.hav, i64 t.set_, i64 N])
   have HW := Lib.hid (show withN t N = ⟨t.err, t.hav, t.set_, N⟩ by unfold withN; rw [if_pos ht])
   clear hB hG hg4 hG4 ht hal
   go_wp2_with (first | refine wpList_store_row rfl 31 (.tmp 4) (.tmp 33) rfl rb #[i64 t.err, i64 t.hav, i64 t.set_, i64 N] rfl rfl 31 #[i64 0, i64 0, i64 0, i64 0] hr4 (by kernel_rfl) rfl (by simp [Value.oneCell']) ?_ | refine wpList_load_row rfl 31 (.tmp 6) rfl W1.heap.size rfl 31 #[i64 t.err, i64 t.hav, i64 t.set_, i64 N] _ _ hal4 Tryz.underlying31 rfl (by kernel_rfl) ?_)
   have hrow := HRow.out
   exact bodyPost_ret (results_cell_row rfl _ _ rb 31 _ (0, 0) _ rfl hrow Tryz.underlying31 rfl (by kernel_rfl)) rfl ⟨by rw [HW.out], HB9.out, HG9.out.mono (fun _ _ e => BA.maps_own e)⟩
  ·have g5 : (t.err == 0) = false := beq_eq_false_iff_ne.2 ht
   have hG := (Gr.of_below Hb0.out a.maps).after hG
   have HRow := Lib.hid (setRow_heap W4 rb _ #[i64 t.err, i64 t.hav, i64 t.set_, i64 t.num] _ _ hr)
   have HB9 := Lib.hid (hB.row Hna.out #[i64 t.err, i64 t.hav, i64 t.set_, i64 t.num])
   have HG9 := Lib.hid (hG.own_row Hrb.out #[i64 t.err, i64 t.hav, i64 t.set_, i64 t.num])
   have HW := Lib.hid (show withN t N = t by unfold withN; rw [if_neg ht])
   clear hB hG ht hal
   go_wp2_with (refine wpList_store_row rfl 31 (.tmp 4) (.tmp 33) rfl rb #[i64 t.err, i64 t.hav, i64 t.set_, i64 t.num] rfl rfl 31 #[i64 0, i64 0, i64 0, i64 0] hr (by kernel_rfl) rfl (by simp [Value.oneCell']) ?_)
   have hrow := HRow.out
   exact bodyPost_ret (results_cell_row rfl _ _ rb 31 _ (0, 0) _ rfl hrow Tryz.underlying31 rfl (by kernel_rfl)) rfl ⟨by rw [HW.out], HB9.out, HG9.out.mono (fun _ _ e => BA.maps_own e)⟩
 exact AllReadyL.nil
end Go.Proofs.YtampniiehgimhaaGreat
