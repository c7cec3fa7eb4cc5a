/- Texts of this claim, laid together: StD, StL. -/
import Derived.Test.YtdkkblhfjblpkaaGreatRows
import Derived.Test.YtdkkblhfjblpkaaGreatBk14
import Derived.Test.YtdkkblhfjblpkaaGreatBi8
import Derived.Test.YtdkkblhfjblpkaaGreatBk1
import Derived.Test.YtdkkblhfjblpkaaGreatBi2
import Derived.Test.YtdkkblhfjblpkaaGreatBk7
import Derived.Deep.Cut
import Derived.WalkKit
import Derived.WalkSpells
import Derived.WalkLawsBesides
import Derived.Deep.QuietTactic
import Derived.BigQuiet
import Derived.Laws.StructEq
import Derived.Deep.DeepFit
import Derived.StillTailTactics
import Derived.Test.YtdkkblhfjblpkaaGreatBk15
import Derived.Test.YtdkkblhfjblpkaaGreatBk11

/- stream: Do, Events -/
namespace Go.Proofs.YtdkkblhfjblpkaaGreat
open Go.RowKit
set_option maxRecDepth 100000 in
set_option maxHeartbeats 16000000 in
theorem sdo_c {base : Nat} {d : DA} {B : Bk} {T : EvT} {R : List Rx} (x : Od) (w : World) (h : DkA w base d B T R) (hI : InvB B) (hx : OdB x) (hl : Od.Ok w (fun k => k < w.heap.size ∧ ¬ d.all T R k) x) (hlen : x.legs.length ≤ 10) (hB : base ≤ w.heap.size) (hn : ∀ k, (T.get k).length ≤ 60000) :
    Calls Tryz.prog 43 #[d.ptr, x.v] w fun e w' => e = .returned (doL B x).1.v ∧ ∃ T2 : EvT, DkA w' base d (doL B x).2 T2 R ∧ (∀ k, T2.get k = T.get k ++ evD B x k) ∧ Gr w w' (d.all T R) ∧ (∀ g, T2.rows g → T.rows g ∨ w.heap.size ≤ g) := by
  have HE := Lib.hid (show (doL B x).1.err = 0 → ∀ k, evN x (doL B x).2.L k = evD B x k from fun e k => evN_all (hI.do_ hx).inv.srtA e k)
  have HE0 := Lib.hid (show (doL B x).1.err ≠ 0 → ∀ k, evD B x k = [] from fun e k => evD_none fun h => e h.1)
  have HI2 := Lib.hid (hI.do_ hx)
  have Hlt := Lib.hid h.lt
  have hb0 : Below w.heap.size w ((w.alloc (.cells #[i64 x.client, i64 x.seq, i64 x.kind, .string x.acct, .string x.peer, i64 x.sum, .slice x.la x.legs.length x.lc, i64 x.period, i64 x.hold, .string x.note] 50)).alloc (.cells #[i64 0, i64 0, i64 0, i64 0] 44)) := ((Below.refl w.heap.size w).alloc (Nat.le_refl _) (.cells #[i64 x.client, i64 x.seq, i64 x.kind, .string x.acct, .string x.peer, i64 x.sum, .slice x.la x.legs.length x.lc, i64 x.period, i64 x.hold, .string x.note] 50)).alloc (by simp) (.cells #[i64 0, i64 0, i64 0, i64 0] 44)
  have ho0 := heap_alloc2_old w (.cells #[i64 x.client, i64 x.seq, i64 x.kind, .string x.acct, .string x.peer, i64 x.sum, .slice x.la x.legs.length x.lc, i64 x.period, i64 x.hold, .string x.note] 50) (.cells #[i64 0, i64 0, i64 0, i64 0] 44)
  have hr0 := heap_alloc2_new w (.cells #[i64 x.client, i64 x.seq, i64 x.kind, .string x.acct, .string x.peer, i64 x.sum, .slice x.la x.legs.length x.lc, i64 x.period, i64 x.hold, .string x.note] 50) (.cells #[i64 0, i64 0, i64 0, i64 0] 44)
  have hz0 : ((w.alloc (.cells #[i64 x.client, i64 x.seq, i64 x.kind, .string x.acct, .string x.peer, i64 x.sum, .slice x.la x.legs.length x.lc, i64 x.period, i64 x.hold, .string x.note] 50)).alloc (.cells #[i64 0, i64 0, i64 0, i64 0] 44)).heap.size = w.heap.size + 2 := by simp
  have H0 := h.later hb0
  have c0 := H0.c0
  have hin : ∀ V, Below ((w.alloc (.cells #[i64 x.client, i64 x.seq, i64 x.kind, .string x.acct, .string x.peer, i64 x.sum, .slice x.la x.legs.length x.lc, i64 x.period, i64 x.hold, .string x.note] 50)).alloc (.cells #[i64 0, i64 0, i64 0, i64 0] 44)).heap.size ((w.alloc (.cells #[i64 x.client, i64 x.seq, i64 x.kind, .string x.acct, .string x.peer, i64 x.sum, .slice x.la x.legs.length x.lc, i64 x.period, i64 x.hold, .string x.note] 50)).alloc (.cells #[i64 0, i64 0, i64 0, i64 0] 44)) V → OdIn V d.a x := fun V hV => ⟨Enc.keep (α := Od) hl (fun p hp => (below_on hb0 (Nat.le_refl _) hV).cell hp.1) (fun b hb => ⟨Nat.lt_of_lt_of_le hb.1 (below_on hb0 (Nat.le_refl _) hV).size, fun e => hb.2 (.inl (.inl e))⟩), Nat.le_trans hlen (by decide)⟩
  have HD := Lib.hid (fun V (hV : Below ((w.alloc (.cells #[i64 x.client, i64 x.seq, i64 x.kind, .string x.acct, .string x.peer, i64 x.sum, .slice x.la x.legs.length x.lc, i64 x.period, i64 x.hold, .string x.note] 50)).alloc (.cells #[i64 0, i64 0, i64 0, i64 0] 44)).heap.size ((w.alloc (.cells #[i64 x.client, i64 x.seq, i64 x.kind, .string x.acct, .string x.peer, i64 x.sum, .slice x.la x.legs.length x.lc, i64 x.period, i64 x.hold, .string x.note] 50)).alloc (.cells #[i64 0, i64 0, i64 0, i64 0] 44)) V) => bdo_c d.a B x V (H0.later hV).bk hI hx (hin V hV))
  have hok : Okb w w.heap.size x := Enc.keep (α := Od) hl (fun _ _ => rfl) (fun _ h => h.1)
  have HT := Lib.hid (fun V (hV : Gr w V (d.all T R)) => touches_c x V (Enc.keep (α := Od) hl (fun p hp => World.cell?_of_block (hV.block _ hp.1 hp.2)) (fun b hb => Nat.lt_of_lt_of_le hb.1 hV.size)) hlen)
  have Htl := Lib.hid (touches_len x hlen)
  have Hn := Lib.hid hn
  generalize doL B x = D at *
  obtain ⟨Rr, B2⟩ := D
  dsimp only at HE HE0 HI2 HD ⊢
  unfold Od.v at *
  go_enter Tryz.func43, Tryz.ntmps43
  go_upto_region 3 with fail
  generalize (w.alloc (.cells #[i64 x.client, i64 x.seq, i64 x.kind, .string x.acct, .string x.peer, i64 x.sum, .slice x.la x.legs.length x.lc, i64 x.period, i64 x.hold, .string x.note] 50)).alloc (.cells #[i64 0, i64 0, i64 0, i64 0] 44) = W0 at *
  have Hall := Lib.hid (show ∀ k, d.a.all k → k < W0.heap.size from H0.bk.lt)
  have Hown := Lib.hid (show ∀ k, d.a.own k → k < w.heap.size from fun k hk => (Hlt.out k (.inl (.inl (BA.own_all hk)))).2)
  have HS : Hid (∀ V, Gr W0 V d.a.own → (fun V : World => Gr W0 V d.a.own ∧ V.cell? ⟨d.p, 0, none⟩ = some d.a.ptr ∧ V.cell? ⟨w.heap.size, 0, none⟩ = some (i64 x.client) ∧ V.cell? ⟨w.heap.size, 1, none⟩ = some (i64 x.seq) ∧ V.cell? ⟨w.heap.size, 2, none⟩ = some (i64 x.kind) ∧ V.cell? ⟨w.heap.size, 3, none⟩ = some (.string x.acct) ∧ V.cell? ⟨w.heap.size, 4, none⟩ = some (.string x.peer) ∧ V.cell? ⟨w.heap.size, 5, none⟩ = some (i64 x.sum) ∧ V.cell? ⟨w.heap.size, 6, none⟩ = some (.slice x.la x.legs.length x.lc) ∧ V.cell? ⟨w.heap.size, 7, none⟩ = some (i64 x.period) ∧ V.cell? ⟨w.heap.size, 8, none⟩ = some (i64 x.hold) ∧ V.cell? ⟨w.heap.size, 9, none⟩ = some (.string x.note)) V) := Lib.hid fun V hV => by
    have h1 := (hV.block d.p (H0.lt d.p (.inl (.inr (.inl rfl)))).2 (fun e => H0.ap.pa (BA.own_all e))).trans H0.cell
    have h2 := (hV.block w.heap.size (by omega) (fun e => by have := Hown.out _ e; omega)).trans ho0
    exact ⟨hV, cell_of_row _ d.p 0 _ _ (0, 0) h1, cell_of_row _ w.heap.size 0 _ _ (0, 0) h2, cell_of_row _ w.heap.size 1 _ _ (0, 0) h2, cell_of_row _ w.heap.size 2 _ _ (0, 0) h2, cell_of_row _ w.heap.size 3 _ _ (0, 0) h2, cell_of_row _ w.heap.size 4 _ _ (0, 0) h2, cell_of_row _ w.heap.size 5 _ _ (0, 0) h2, cell_of_row _ w.heap.size 6 _ _ (0, 0) h2, cell_of_row _ w.heap.size 7 _ _ (0, 0) h2, cell_of_row _ w.heap.size 8 _ _ (0, 0) h2, cell_of_row _ w.heap.size 9 _ _ (0, 0) h2⟩
  have H00 := Lib.hid H0
  have Ho0 := Lib.hid ho0
  have Hr0 := Lib.hid hr0
  have Hb0 := Lib.hid hb0
  clear H0 ho0 hr0 hb0 h hin hl hok hn
  go_cut [5] from 9 (fun s5 wx => ∃ g5, s5 = .pointer (some ⟨g5, 0, none⟩) ∧ wx.heap[g5]? = some (.cells #[i64 Rr.err, i64 Rr.hav, i64 Rr.set_, i64 Rr.num] 44 (0, 0)) ∧ W0.heap.size ≤ g5 ∧ BkA wx d.a B2 ∧ Gr W0 wx d.a.own)
  case first =>
    refine wp_region_noPanic ?_
    refine wp_region_l 7 (fun V : World => Gr W0 V d.a.own ∧ V.cell? ⟨d.p, 0, none⟩ = some d.a.ptr ∧ V.cell? ⟨w.heap.size, 0, none⟩ = some (i64 x.client) ∧ V.cell? ⟨w.heap.size, 1, none⟩ = some (i64 x.seq) ∧ V.cell? ⟨w.heap.size, 2, none⟩ = some (i64 x.kind) ∧ V.cell? ⟨w.heap.size, 3, none⟩ = some (.string x.acct) ∧ V.cell? ⟨w.heap.size, 4, none⟩ = some (.string x.peer) ∧ V.cell? ⟨w.heap.size, 5, none⟩ = some (i64 x.sum) ∧ V.cell? ⟨w.heap.size, 6, none⟩ = some (.slice x.la x.legs.length x.lc) ∧ V.cell? ⟨w.heap.size, 7, none⟩ = some (i64 x.period) ∧ V.cell? ⟨w.heap.size, 8, none⟩ = some (i64 x.hold) ∧ V.cell? ⟨w.heap.size, 9, none⟩ = some (.string x.note)) (by kernel_rfl) (HS.out _ (Gr.of_below (Below.refl W0.heap.size W0).drew d.a.own)) (fun hH => ?_)
    have hbd := (Below.refl W0.heap.size W0).drew
    generalize W0.drew = Wd at *
    refine wpAnyL_take (i := 0) (v := ?v20001) rfl (by kernel_rfl) (by kernel_rfl) (by kernel_rfl) (by kernel_rfl) (fun _ _ _ h => h) (Or.inl ⟨by kernel_rfl, ?hy20001⟩) (by assumption) ?r20001
    case hy20001 => (intro W hSW; obtain ⟨hV0, pd, u0, u1, u2, u3, u4, u5, u6, u7, u8, u9⟩ := hSW; go_simp; try with_reducible rfl)
    try simp only [Act.put, List.getElem_toArray, List.getElem_cons_zero, List.setIfInBounds_toArray, List.set_cons_zero, List.set_cons_succ]
    refine wpAnyL_take (i := 1) (v := ?v20002) rfl (by kernel_rfl) (by kernel_rfl) (by kernel_rfl) (by kernel_rfl) (fun _ _ _ h => h) (Or.inl ⟨by kernel_rfl, ?hy20002⟩) (by assumption) ?r20002
    case hy20002 => (intro W hSW; obtain ⟨hV0, pd, u0, u1, u2, u3, u4, u5, u6, u7, u8, u9⟩ := hSW; go_simp; try with_reducible rfl)
    try simp only [Act.put, List.getElem_toArray, List.getElem_cons_zero, List.getElem_cons_succ, List.setIfInBounds_toArray, List.set_cons_zero, List.set_cons_succ]
    refine wpAnyL_take (i := 2) (v := ?v20003) rfl (by kernel_rfl) (by kernel_rfl) (by kernel_rfl) (by kernel_rfl) (fun _ _ _ h => h) (Or.inl ⟨by kernel_rfl, ?hy20003⟩) (by assumption) ?r20003
    case hy20003 => (intro W hSW; obtain ⟨hV0, pd, u0, u1, u2, u3, u4, u5, u6, u7, u8, u9⟩ := hSW; go_simp; try with_reducible rfl)
    try simp only [Act.put, List.getElem_toArray, List.getElem_cons_zero, List.getElem_cons_succ, List.setIfInBounds_toArray, List.set_cons_zero, List.set_cons_succ]
    refine wpAnyL_take (i := 3) (v := ?v20004) rfl (by kernel_rfl) (by kernel_rfl) (by kernel_rfl) (by kernel_rfl) (fun _ _ _ h => h) (Or.inl ⟨by kernel_rfl, ?hy20004⟩) (by assumption) ?r20004
    case hy20004 => (intro W hSW; obtain ⟨hV0, pd, u0, u1, u2, u3, u4, u5, u6, u7, u8, u9⟩ := hSW; go_simp; try with_reducible rfl)
    try simp only [Act.put, List.getElem_toArray, List.getElem_cons_zero, List.getElem_cons_succ, List.setIfInBounds_toArray, List.set_cons_zero, List.set_cons_succ]
    refine wpAnyL_take (i := 4) (v := ?v20005) rfl (by kernel_rfl) (by kernel_rfl) (by kernel_rfl) (by kernel_rfl) (fun _ _ _ h => h) (Or.inl ⟨by kernel_rfl, ?hy20005⟩) (by assumption) ?r20005
    case hy20005 => (intro W hSW; obtain ⟨hV0, pd, u0, u1, u2, u3, u4, u5, u6, u7, u8, u9⟩ := hSW; go_simp; try with_reducible rfl)
    try simp only [Act.put, List.getElem_toArray, List.getElem_cons_zero, List.getElem_cons_succ, List.setIfInBounds_toArray, List.set_cons_zero, List.set_cons_succ]
    refine wpAnyL_ready (rs := [5, 6]) (by kernel_rfl) (by simp) ?_
    refine AllReadyL.cons rfl (fun K hK => ?_) ?_
    · skip
      have hbV := hbd
      go_simp
      go_at_call 28
      with_reducible refine (HD.out _ hbV).mono ?_
      rintro e w9 ⟨rfl, hB9, hG9⟩
      have hG := (Gr.of_below hbV d.a.own).after hG9
      have hsz9 := hG.size
      have HB9 := Lib.hid hB9
      clear hbV hB9 hG9
      refine hK.out _ _ (HS.out _ hG) (fun hH => ?_)
      clear hK K
      try simp only [Act.put, List.getElem_toArray, List.getElem_cons_zero, List.getElem_cons_succ, List.setIfInBounds_toArray, List.set_cons_zero, List.set_cons_succ]
      refine wpAnyL_one (i := 6) (by kernel_rfl) rfl (by decide) (fun K hK => ?_)
      go_simp
      have hal := heap_alloc_new w9 (.cells #[i64 0, i64 0, i64 0, i64 0] 44)
      have hG := hG.more ((Below.refl _ _).alloc (Nat.le_refl _) (.cells #[i64 0, i64 0, i64 0, i64 0] 44))
      refine hK.out _ _ (HS.out _ hG) (fun hH => ?_)
      clear hK K
      try simp only [Act.put, List.getElem_toArray, List.getElem_cons_zero, List.getElem_cons_succ, List.setIfInBounds_toArray, List.set_cons_zero, List.set_cons_succ]
      refine wpAnyL_last (by kernel_rfl) rfl (fun K hK => ?_)
      refine wp_store_row 44 (.tmp 5) (.tmp 17) rfl w9.heap.size #[i64 Rr.err, i64 Rr.hav, i64 Rr.set_, i64 Rr.num] rfl rfl 44 #[i64 0, i64 0, i64 0, i64 0] hal (by kernel_rfl) rfl (by simp [Value.oneCell']) ?_
      refine hK.out _ _ ?_
      clear hK K
      try simp only [Act.put, List.getElem_toArray, List.getElem_cons_zero, List.getElem_cons_succ, List.setIfInBounds_toArray, List.set_cons_zero, List.set_cons_succ]
      refine wpAnyL_done (by kernel_rfl) ?_ _
      refine NoPanic.normal ?_
      have hrow := setRow_heap _ w9.heap.size _ #[i64 Rr.err, i64 Rr.hav, i64 Rr.set_, i64 Rr.num] _ _ hal
      have hgl : W0.heap.size ≤ w9.heap.size := hsz9
      have hna : ∀ k, d.a.all k → k ≠ w9.heap.size := fun k hk e => by have := Hall.out k hk; omega
      have hB8 := HB9.out.later ((Below.refl _ _).alloc (Nat.le_refl _) (.cells #[i64 0, i64 0, i64 0, i64 0] 44))
      have hB7 := hB8.row hna #[i64 Rr.err, i64 Rr.hav, i64 Rr.set_, i64 Rr.num]
      have hG7 := hG.own_row hgl #[i64 Rr.err, i64 Rr.hav, i64 Rr.set_, i64 Rr.num]
      clear hH HS hG hB8
      go_wp2_with fail
      go_meet
      exact ⟨w9.heap.size, rfl, hrow, hgl, hB7, hG7⟩
    refine AllReadyL.cons rfl (fun K hK => ?_) ?_
    · skip
      go_simp
      have hal := heap_alloc_new Wd (.cells #[i64 0, i64 0, i64 0, i64 0] 44)
      refine hK.out _ _ (HS.out _ (Gr.of_below (hbd.alloc hbd.size (.cells #[i64 0, i64 0, i64 0, i64 0] 44)) d.a.own)) (fun hH => ?_)
      clear hK K
      try simp only [Act.put, List.getElem_toArray, List.getElem_cons_zero, List.getElem_cons_succ, List.setIfInBounds_toArray, List.set_cons_zero, List.set_cons_succ]
      refine wpAnyL_one (i := 5) (by kernel_rfl) rfl (by decide) (fun K hK => ?_)
      have hbV := hbd.alloc hbd.size (.cells #[i64 0, i64 0, i64 0, i64 0] 44)
      go_simp
      go_at_call 28
      with_reducible refine (HD.out _ hbV).mono ?_
      rintro e w9 ⟨rfl, hB9, hG9⟩
      have hG := (Gr.of_below hbV d.a.own).after hG9
      have hsz9 := hG.size
      have hal := (hG9.block Wd.heap.size (by simp) (fun e => by have h8 := (Hown.out _ e); have h9 := hbd.size; omega)).trans hal
      have HB9 := Lib.hid hB9
      clear hbV hB9 hG9
      refine hK.out _ _ (HS.out _ hG) (fun hH => ?_)
      clear hK K
      try simp only [Act.put, List.getElem_toArray, List.getElem_cons_zero, List.getElem_cons_succ, List.setIfInBounds_toArray, List.set_cons_zero, List.set_cons_succ]
      refine wpAnyL_last (by kernel_rfl) rfl (fun K hK => ?_)
      refine wp_store_row 44 (.tmp 5) (.tmp 17) rfl Wd.heap.size #[i64 Rr.err, i64 Rr.hav, i64 Rr.set_, i64 Rr.num] rfl rfl 44 #[i64 0, i64 0, i64 0, i64 0] hal (by kernel_rfl) rfl (by simp [Value.oneCell']) ?_
      refine hK.out _ _ ?_
      clear hK K
      try simp only [Act.put, List.getElem_toArray, List.getElem_cons_zero, List.getElem_cons_succ, List.setIfInBounds_toArray, List.set_cons_zero, List.set_cons_succ]
      refine wpAnyL_done (by kernel_rfl) ?_ _
      refine NoPanic.normal ?_
      have hrow := setRow_heap _ Wd.heap.size _ #[i64 Rr.err, i64 Rr.hav, i64 Rr.set_, i64 Rr.num] _ _ hal
      have hgl : W0.heap.size ≤ Wd.heap.size := hbd.size
      have hna : ∀ k, d.a.all k → k ≠ Wd.heap.size := fun k hk e => by have := Hall.out k hk; omega
      have hB8 := HB9.out
      have hB7 := hB8.row hna #[i64 Rr.err, i64 Rr.hav, i64 Rr.set_, i64 Rr.num]
      have hG7 := hG.own_row hgl #[i64 Rr.err, i64 Rr.hav, i64 Rr.set_, i64 Rr.num]
      clear hH HS hG hB8
      go_wp2_with fail
      go_meet
      exact ⟨Wd.heap.size, rfl, hrow, hgl, hB7, hG7⟩
    exact AllReadyL.nil
  case rest =>
    obtain ⟨g5, rfl, hg5, hl5, hB2, hG2⟩ := hcut
    obtain ⟨w2, rfl⟩ : ∃ w2, w2 = wc := ⟨wc, rfl⟩
    have hK2 := H00.out.book hB2 hG2
    have ho2 := (hG2.block w.heap.size (by omega) (fun e => by have := Hown.out _ e; omega)).trans Ho0.out
    have hr2 := (hG2.block (w.heap.size + 1) (by omega) (fun e => by have := Hown.out _ e; omega)).trans Hr0.out
    have k0 := cell_of_row _ g5 0 _ _ (0, 0) hg5
    have k1 := cell_of_row _ g5 1 _ _ (0, 0) hg5
    have k2 := cell_of_row _ g5 2 _ _ (0, 0) hg5
    have k3 := cell_of_row _ g5 3 _ _ (0, 0) hg5
    simp only [List.getElem?_toArray, List.getElem?_cons_zero, List.getElem?_cons_succ] at k0 k1 k2 k3
    have hGw : Gr w w2 (d.all T R) := ((Gr.of_below Hb0.out (d.all T R)).after (hG2.mono fun j _ e => .inl (.inl (BA.own_all e))))
    by_cases he : Rr.err = 0
    · have e1 : (Rr.err == 0) = true := by simpa using he
      have e2 : (Rr.err != 0) = false := by simp [he]
      have e3 : decide (Rr.err = 0) = true := decide_eq_true he
      have HE1 := Lib.hid (HE.out he)
      have HTt := Lib.hid (HT.out w2 hGw)
      have HK2 := Lib.hid hK2
      have HGw := Lib.hid hGw
      have Ho2 := Lib.hid ho2
      have Hr2 := Lib.hid hr2
      have Hg5 := Lib.hid hg5
      have hw2 := hGw.size
      have hl2 : W0.heap.size ≤ w2.heap.size := hG2.size
      have hl5b : g5 < w2.heap.size := (Array.getElem?_eq_some_iff.1 hg5).1
      have o0 := cell_of_row _ w.heap.size 0 _ _ (0, 0) Ho2.out
      have o1 := cell_of_row _ w.heap.size 1 _ _ (0, 0) Ho2.out
      have o2 := cell_of_row _ w.heap.size 2 _ _ (0, 0) Ho2.out
      have o3 := cell_of_row _ w.heap.size 3 _ _ (0, 0) Ho2.out
      have o4 := cell_of_row _ w.heap.size 4 _ _ (0, 0) Ho2.out
      have o5 := cell_of_row _ w.heap.size 5 _ _ (0, 0) Ho2.out
      have o6 := cell_of_row _ w.heap.size 6 _ _ (0, 0) Ho2.out
      have o7 := cell_of_row _ w.heap.size 7 _ _ (0, 0) Ho2.out
      have o8 := cell_of_row _ w.heap.size 8 _ _ (0, 0) Ho2.out
      have o9 := cell_of_row _ w.heap.size 9 _ _ (0, 0) Ho2.out
      simp only [List.getElem?_toArray, List.getElem?_cons_zero, List.getElem?_cons_succ] at o0 o1 o2 o3 o4 o5 o6 o7 o8 o9
      clear he hK2 hB2 hG2 hGw HS H00 HD HT HE HE0 hg5 hr2 ho2
      go_wp2_with fail
      refine HTt.out.mono ?_
      rintro e w3 ⟨vt, rfl, hOt, hF3⟩
      obtain ⟨At, ct, rfl, hst⟩ := hOt.sl_at (S := fun b => b < w3.heap.size ∧ ¬ d.all T R b) (fun b e => ⟨(hOt.1.lt b e).2, fun e2 => by have h1 := (hOt.1.lt b e).1; have h2 := (Hlt.out b e2).2; omega⟩) (fun y hy => hOt.2 y hy)
      have hK3 := HK2.out.later hF3
      have HAc := Lib.hid (baccts_c d.a B2 w3 hK3.bk HI2.out)
      have c0 := hK3.c0
      have hw3 := hF3.size
      have Hst := Lib.hid hst
      have HK3 := Lib.hid hK3
      have HF3 := Lib.hid hF3
      clear hOt hst hK3 hF3 HTt o0 o1 o2 o3 o4 o5 o6 o7 o8 o9
      go_wp2_with fail
      refine HAc.out.mono ?_
      rintro e w4 ⟨va, rfl, hOa, hF4⟩
      obtain ⟨Aa, ca, rfl, hsa⟩ := hOa.sl_at (S := fun b => b < w4.heap.size ∧ ¬ d.all T R b) (fun b e => ⟨(hOa.1.lt b e).2, fun e2 => by have h1 := (hOa.1.lt b e).1; have h2 := (Hlt.out b e2).2; omega⟩) (fun y hy => hOa.2 y hy)
      have hK4 := HK3.out.later hF4
      have hw4 := hF4.size
      have Hsa := Lib.hid hsa
      have Hst4 := Lib.hid (Hst.out.keep (fun p hp => hF4.cell hp.1) (fun b hb => (⟨Nat.lt_of_lt_of_le hb.1 hw4, hb.2⟩ : b < w4.heap.size ∧ ¬ d.all T R b)))
      have hF24 := HF3.out.trans (hF4.mono hw3)
      have Ho4 := Lib.hid ((hF24.block w.heap.size (by omega)).trans Ho2.out)
      have Hr4 := Lib.hid ((hF24.block (w.heap.size + 1) (by omega)).trans Hr2.out)
      have Hg4 := Lib.hid ((hF24.block g5 hl5b).trans Hg5.out)
      have HG4 := Lib.hid (HGw.out.more hF24)
      have hLn : B2.L.length ≤ 12 := HI2.out.len
      clear hOa hsa hF4 hF24 HAc HK3 HF3 Hst HGw Ho2 Hr2 Hg5 k0 k1 k2 k3 c0
      go_wp2_with fail
      go_loopw [30] (fun iv wr => ∃ (n : Nat) (T2 : EvT), iv = i64 n ∧ n ≤ B2.L.length ∧ DkA wr base d B2 T2 R ∧ Hid (∀ k, T2.get k = T.get k ++ evN x (B2.L.take n) k) ∧ Gr w4 wr (d.all T R) ∧ Hid (∀ g, T2.rows g → T.rows g ∨ w4.heap.size ≤ g)) (fun iv _ => B2.L.length - (intOf iv).toNat)
      case atStart => exact ⟨0, T, rfl, Nat.zero_le _, hK4, Lib.hid (fun k => by rw [List.take_zero]; unfold evN; split <;> simp), Gr.refl _ _, Lib.hid (fun g hg => .inl hg)⟩
      case round =>
        clear hK4
        obtain ⟨n, T2, rfl, hnL, hK, Hget, hGr, Hrows⟩ := hrel
        have hwr := hGr.size
        by_cases hlt : n < B2.L.length
        · have g1 : decide ((n : Int) < (B2.L.length : Int)) = true := decide_eq_true (by omega)
          have g2 : decide (n < B2.L.length) = true := decide_eq_true hlt
          have i0 : (0 : Int) ≤ (n : Int) := by omega
          have i1 : (n : Int) < (B2.L.length : Int) := by omega
          have hsr := Hsa.out.grs hGr (fun b hb => hb)
          have hac : B2.L.length ≤ ca := hsr.1
          obtain ⟨ba, oa, rfl, -, -, a0, a1, a2, a3⟩ := hsr.acc hlt
          have Hstep := Lib.hid (fun k => show evN x (B2.L.take (n + 1)) k = _ by rw [List.take_succ_eq_append_getElem hlt, evN_snoc])
          obtain ⟨ac, hac2⟩ : ∃ ac, B2.L[n] = ac := ⟨_, rfl⟩
          simp only [hac2] at a0 a1 a2 a3 Hstep
          clear hac2 hsr
          have hba := (Below.refl wr.heap.size wr).alloc (Nat.le_refl _) (.cells #[.string ac.name, i64 ac.hav, i64 ac.set_, i64 ac.lim] 86)
          have hza : (wr.alloc (.cells #[.string ac.name, i64 ac.hav, i64 ac.set_, i64 ac.lim] 86)).heap.size = wr.heap.size + 1 := by simp
          have hal := heap_alloc_new wr (.cells #[.string ac.name, i64 ac.hav, i64 ac.set_, i64 ac.lim] 86)
          have HCn : Hid (Calls Tryz.prog 102 #[.slice At (touches x).length ct, .string ac.name] (wr.alloc (.cells #[.string ac.name, i64 ac.hav, i64 ac.set_, i64 ac.lim] 86)) fun e w' => e = .returned (.bool (nmB x ac.name)) ∧ Below (wr.alloc (.cells #[.string ac.name, i64 ac.hav, i64 ac.set_, i64 ac.lim] 86)).heap.size (wr.alloc (.cells #[.string ac.name, i64 ac.hav, i64 ac.set_, i64 ac.lim] 86)) w') := Lib.hid (contains_str At ct (touches x) ac.name _ (((Hst4.out.grs hGr (fun b hb => hb)).keep (fun p hp => hba.cell (Nat.lt_of_lt_of_le hp.1 hwr)) (fun b hb => hb)).mono (fun b hb => by have h1 := hb.1; omega)) (Nat.le_trans Htl.out (by decide)))
          have s0 := cell_of_row _ wr.heap.size 0 _ _ (0, 0) hal
          simp only [List.getElem?_toArray, List.getElem?_cons_zero] at s0
          have HKa := Lib.hid (hK.later hba)
          have Hal := Lib.hid hal
          have Hrlt := Lib.hid (fun g (hg : T2.rows g) => hK.ev.rows_lt hg)
          clear hK hal
          go_wp2_with fail
          refine HCn.out.mono ?_
          rintro e w5 ⟨rfl, hF5⟩
          have hK5 := HKa.out.later hF5
          have hb5 := hba.trans (hF5.mono (by omega))
          have hG5 := hGr.more hb5
          have hw5 := hF5.size
          have Hal5 := Lib.hid ((hF5.block wr.heap.size (by omega)).trans Hal.out)
          clear HKa Hal HCn hF5 hba a0 a1 a2 a3 s0
          cases hnm : nmB x ac.name
          · have Hst5 := Lib.hid (fun k => show T2.get k = T.get k ++ evN x (B2.L.take (n + 1)) k by rw [Hget.out, Hstep.out, if_neg (by rw [hnm]; simp), List.append_nil])
            clear hnm Hget Hstep
            go_wp2
            go_roundw
            case rel => exact ⟨n + 1, T2, by go_num, by omega, hK5, Hst5, hG5, Hrows⟩
            case measure => simp [intOf]; omega
          · have HVo := Lib.hid (hK5.ev.val_own ac.name)
            have HVr := Lib.hid (fun j (e : (T2.val ac.name).ownBlock = some j) => hK5.ev.val_row ac.name e)
            have Hlen := Lib.hid (show (T2.get ac.name).length + 1 ≤ 4294967296 by
              rw [Hget.out, List.length_append]
              have h1 := evN_len x (B2.L.take n) ac.name
              rw [List.length_take] at h1
              have h2 := Hn.out ac.name
              omega)
            have HMp := Lib.hid hK5.ev.map
            have Hbe := Lib.hid (show ¬ T2.rows d.be from fun e => hK5.out _ e (.inr (.inr (.inl rfl))))
            have hB5 : base ≤ w5.heap.size := by omega
            have Hst5 := Lib.hid (fun (v : Value) k => show EvT.get (putM T2 ac.name (v, T2.get ac.name ++ [evA x ac])) k = T.get k ++ evN x (B2.L.take (n + 1)) k by
              rw [EvT.get_put, Hstep.out]
              by_cases e : ac.name = k
              · rw [if_pos e, if_pos ⟨hnm, e⟩, ← e, Hget.out, List.append_assoc]
              · rw [if_neg e, if_neg (fun h => e h.2), Hget.out, List.append_nil])
            have Ho5 := Lib.hid ((hG5.block w.heap.size (by omega) (fun e => by have := (Hlt.out _ e).2; omega)).trans Ho4.out)
            have HS : Hid (∀ V, Gr w5 V T2.rows → (fun V : World => Gr w5 V T2.rows ∧ V.cell? ⟨d.p, 1, none⟩ = some (.map (some d.be)) ∧ (V.cell? ⟨wr.heap.size, 0, none⟩ = some (.string ac.name) ∧ V.cell? ⟨wr.heap.size, 1, none⟩ = some (i64 ac.hav) ∧ V.cell? ⟨wr.heap.size, 2, none⟩ = some (i64 ac.set_)) ∧ V.cell? ⟨w.heap.size, 0, none⟩ = some (i64 x.client) ∧ V.cell? ⟨w.heap.size, 1, none⟩ = some (i64 x.seq) ∧ V.cell? ⟨w.heap.size, 2, none⟩ = some (i64 x.kind) ∧ (Instr.lookup 173 (.map (some d.be)) (.string ac.name) false).run Tryz.prog V = .ok (T2.val ac.name) V) V) := Lib.hid fun V hV => by
              have hp := (hV.block d.p (hK5.lt d.p (.inl (.inr (.inl rfl)))).2 (fun e => hK5.out _ e (.inr (.inl rfl)))).trans hK5.cell
              have ha := (hV.block wr.heap.size (by omega) (fun e => by have := (Hrlt.out _ e).2; omega)).trans Hal5.out
              have ho := (hV.block w.heap.size (by omega) (fun e => by
                rcases Hrows.out _ e with e | e
                · have := (Hlt.out _ (.inr e)).2; omega
                · omega)).trans Ho5.out
              have hm := hK5.ev.map.gr hV Hbe.out
              have hlk := run_lookup (P := Tryz.prog) strKey Tryz.underlying173 hm ac.name (.slice none 0 0) (by kernel_rfl) false
              rw [EvT.ents_get] at hlk
              exact ⟨hV, cell_of_row _ d.p 1 _ _ (0, 0) hp, ⟨cell_of_row _ wr.heap.size 0 _ _ (0, 0) ha, cell_of_row _ wr.heap.size 1 _ _ (0, 0) ha, cell_of_row _ wr.heap.size 2 _ _ (0, 0) ha⟩, cell_of_row _ w.heap.size 0 _ _ (0, 0) ho, cell_of_row _ w.heap.size 1 _ _ (0, 0) ho, cell_of_row _ w.heap.size 2 _ _ (0, 0) ho, hlk⟩
            have HK5 := Lib.hid hK5
            have HG5 := Lib.hid hG5
            clear hnm Hget Hstep hK5 hG5 hGr hb5
            go_upto_region 11 with fail
            refine wp_region_noPanic ?_
            refine wp_region_l 24 (fun V : World => Gr w5 V T2.rows ∧ V.cell? ⟨d.p, 1, none⟩ = some (.map (some d.be)) ∧ (V.cell? ⟨wr.heap.size, 0, none⟩ = some (.string ac.name) ∧ V.cell? ⟨wr.heap.size, 1, none⟩ = some (i64 ac.hav) ∧ V.cell? ⟨wr.heap.size, 2, none⟩ = some (i64 ac.set_)) ∧ V.cell? ⟨w.heap.size, 0, none⟩ = some (i64 x.client) ∧ V.cell? ⟨w.heap.size, 1, none⟩ = some (i64 x.seq) ∧ V.cell? ⟨w.heap.size, 2, none⟩ = some (i64 x.kind) ∧ (Instr.lookup 173 (.map (some d.be)) (.string ac.name) false).run Tryz.prog V = .ok (T2.val ac.name) V) (by kernel_rfl) (HS.out _ (Gr.of_below (Below.refl w5.heap.size w5).drew T2.rows)) (fun hH => ?_)
            have hbd := (Below.refl w5.heap.size w5).drew
            generalize w5.drew = Wd at *
            refine wpAnyL_take (i := 0) (v := ?v20006) rfl (by kernel_rfl) (by kernel_rfl) (by kernel_rfl) (by kernel_rfl) (fun _ _ _ h => h) (Or.inl ⟨by kernel_rfl, ?hy20006⟩) (by assumption) ?r20006
            case hy20006 => (intro W hSW; obtain ⟨hV0, pd, ⟨s0, s1, s2⟩, u0, u1, u2, hlk⟩ := hSW; go_simp; try with_reducible rfl)
            try simp only [Act.put, List.getElem_toArray, List.getElem_cons_zero, List.setIfInBounds_toArray, List.set_cons_zero, List.set_cons_succ]
            refine wpAnyL_take (i := 1) (v := ?v20007) rfl (by kernel_rfl) (by kernel_rfl) (by kernel_rfl) (by kernel_rfl) (fun _ _ _ h => h) (Or.inl ⟨by kernel_rfl, ?hy20007⟩) (by assumption) ?r20007
            case hy20007 => (intro W hSW; obtain ⟨hV0, pd, ⟨s0, s1, s2⟩, u0, u1, u2, hlk⟩ := hSW; go_simp; try with_reducible rfl)
            try simp only [Act.put, List.getElem_toArray, List.getElem_cons_zero, List.getElem_cons_succ, List.setIfInBounds_toArray, List.set_cons_zero, List.set_cons_succ]
            refine wpAnyL_take (i := 2) (v := ?v20008) rfl (by kernel_rfl) (by kernel_rfl) (by kernel_rfl) (by kernel_rfl) (fun _ _ _ h => h) (Or.inl ⟨by kernel_rfl, ?hy20008⟩) (by assumption) ?r20008
            case hy20008 => (intro W hSW; obtain ⟨hV0, pd, ⟨s0, s1, s2⟩, u0, u1, u2, hlk⟩ := hSW; go_simp; try with_reducible rfl)
            try simp only [Act.put, List.getElem_toArray, List.getElem_cons_zero, List.getElem_cons_succ, List.setIfInBounds_toArray, List.set_cons_zero, List.set_cons_succ]
            refine wpAnyL_take (i := 3) (v := ?v20009) rfl (by kernel_rfl) (by kernel_rfl) (by kernel_rfl) (by kernel_rfl) (fun _ _ _ h => h) (Or.inl ⟨by kernel_rfl, ?hy20009⟩) (by assumption) ?r20009
            case hy20009 => (intro W hSW; obtain ⟨hV0, pd, ⟨s0, s1, s2⟩, u0, u1, u2, hlk⟩ := hSW; go_simp; try with_reducible rfl)
            try simp only [Act.put, List.getElem_toArray, List.getElem_cons_zero, List.getElem_cons_succ, List.setIfInBounds_toArray, List.set_cons_zero, List.set_cons_succ]
            refine wpAnyL_take (i := 4) (v := ?v20010) rfl (by kernel_rfl) (by kernel_rfl) (by kernel_rfl) (by kernel_rfl) (fun _ _ _ h => h) (Or.inl ⟨by kernel_rfl, ?hy20010⟩) (by assumption) ?r20010
            case hy20010 => (intro W hSW; obtain ⟨hV0, pd, ⟨s0, s1, s2⟩, u0, u1, u2, hlk⟩ := hSW; go_simp; try with_reducible rfl)
            try simp only [Act.put, List.getElem_toArray, List.getElem_cons_zero, List.getElem_cons_succ, List.setIfInBounds_toArray, List.set_cons_zero, List.set_cons_succ]
            refine wpAnyL_take (i := 5) (v := ?v20011) rfl (by kernel_rfl) (by kernel_rfl) (by kernel_rfl) (by kernel_rfl) (fun _ _ _ h => h) (Or.inl ⟨by kernel_rfl, ?hy20011⟩) (by assumption) ?r20011
            case hy20011 => (intro W hSW; obtain ⟨hV0, pd, ⟨s0, s1, s2⟩, u0, u1, u2, hlk⟩ := hSW; go_simp; try with_reducible rfl)
            try simp only [Act.put, List.getElem_toArray, List.getElem_cons_zero, List.getElem_cons_succ, List.setIfInBounds_toArray, List.set_cons_zero, List.set_cons_succ]
            refine wpAnyL_take (i := 6) (v := ?v20012) rfl (by kernel_rfl) (by kernel_rfl) (by kernel_rfl) (by kernel_rfl) (fun _ _ _ h => h) (Or.inl ⟨by kernel_rfl, ?hy20012⟩) (by assumption) ?r20012
            case hy20012 => (intro W hSW; obtain ⟨hV0, pd, ⟨s0, s1, s2⟩, u0, u1, u2, hlk⟩ := hSW; go_simp; try with_reducible rfl)
            try simp only [Act.put, List.getElem_toArray, List.getElem_cons_zero, List.getElem_cons_succ, List.setIfInBounds_toArray, List.set_cons_zero, List.set_cons_succ]
            refine wpAnyL_take (i := 7) (v := ?v20013) rfl (by kernel_rfl) (by kernel_rfl) (by kernel_rfl) (by kernel_rfl) (fun _ _ _ h => h) (Or.inl ⟨by kernel_rfl, ?hy20013⟩) (by assumption) ?r20013
            case hy20013 => (intro W hSW; obtain ⟨hV0, pd, ⟨s0, s1, s2⟩, u0, u1, u2, hlk⟩ := hSW; go_simp; try with_reducible rfl)
            try simp only [Act.put, List.getElem_toArray, List.getElem_cons_zero, List.getElem_cons_succ, List.setIfInBounds_toArray, List.set_cons_zero, List.set_cons_succ]
            refine wpAnyL_take (i := 8) (v := ?v20014) rfl (by kernel_rfl) (by kernel_rfl) (by kernel_rfl) (by kernel_rfl) (fun _ _ _ h => h) (Or.inl ⟨by kernel_rfl, ?hy20014⟩) (by assumption) ?r20014
            case hy20014 => (intro W hSW; obtain ⟨hV0, pd, ⟨s0, s1, s2⟩, u0, u1, u2, hlk⟩ := hSW; go_simp; try with_reducible rfl)
            try simp only [Act.put, List.getElem_toArray, List.getElem_cons_zero, List.getElem_cons_succ, List.setIfInBounds_toArray, List.set_cons_zero, List.set_cons_succ]
            refine wpAnyL_take (i := 9) (v := ?v20015) rfl (by kernel_rfl) (by kernel_rfl) (by kernel_rfl) (by kernel_rfl) (fun _ _ _ h => h) (Or.inl ⟨by kernel_rfl, ?hy20015⟩) (by assumption) ?r20015
            case hy20015 => (intro W hSW; obtain ⟨hV0, pd, ⟨s0, s1, s2⟩, u0, u1, u2, hlk⟩ := hSW; go_simp; try with_reducible rfl)
            try simp only [Act.put, List.getElem_toArray, List.getElem_cons_zero, List.getElem_cons_succ, List.setIfInBounds_toArray, List.set_cons_zero, List.set_cons_succ]
            refine wpAnyL_take (i := 10) (v := ?v20016) rfl (by kernel_rfl) (by kernel_rfl) (by kernel_rfl) (by kernel_rfl) (fun _ _ _ h => h) (Or.inl ⟨by kernel_rfl, ?hy20016⟩) (by assumption) ?r20016
            case hy20016 => (intro W hSW; obtain ⟨hV0, pd, ⟨s0, s1, s2⟩, u0, u1, u2, hlk⟩ := hSW; go_simp; try with_reducible rfl)
            try simp only [Act.put, List.getElem_toArray, List.getElem_cons_zero, List.getElem_cons_succ, List.setIfInBounds_toArray, List.set_cons_zero, List.set_cons_succ]
            refine wpAnyL_take (i := 11) (v := ?v20017) rfl (by kernel_rfl) (by kernel_rfl) (by kernel_rfl) (by kernel_rfl) (fun _ _ _ h => h) (Or.inl ⟨by kernel_rfl, ?hy20017⟩) (by assumption) ?r20017
            case hy20017 => (intro W hSW; obtain ⟨hV0, pd, ⟨s0, s1, s2⟩, u0, u1, u2, hlk⟩ := hSW; go_simp; try with_reducible rfl)
            try simp only [Act.put, List.getElem_toArray, List.getElem_cons_zero, List.getElem_cons_succ, List.setIfInBounds_toArray, List.set_cons_zero, List.set_cons_succ]
            refine wpAnyL_take (i := 12) (v := ?v20018) rfl (by kernel_rfl) (by kernel_rfl) (by kernel_rfl) (by kernel_rfl) (fun _ _ _ h => h) (Or.inl ⟨by kernel_rfl, ?hy20018⟩) (by assumption) ?r20018
            case hy20018 => (intro W hSW; obtain ⟨hV0, pd, ⟨s0, s1, s2⟩, u0, u1, u2, hlk⟩ := hSW; go_simp; try with_reducible rfl)
            try simp only [Act.put, List.getElem_toArray, List.getElem_cons_zero, List.getElem_cons_succ, List.setIfInBounds_toArray, List.set_cons_zero, List.set_cons_succ]
            refine wpAnyL_take (i := 13) (v := ?v20019) rfl (by kernel_rfl) (by kernel_rfl) (by kernel_rfl) (by kernel_rfl) (fun _ _ _ h => h) (Or.inl ⟨by kernel_rfl, ?hy20019⟩) (by assumption) ?r20019
            case hy20019 => (intro W hSW; obtain ⟨hV0, pd, ⟨s0, s1, s2⟩, u0, u1, u2, hlk⟩ := hSW; go_simp; try with_reducible rfl)
            try simp only [Act.put, List.getElem_toArray, List.getElem_cons_zero, List.getElem_cons_succ, List.setIfInBounds_toArray, List.set_cons_zero, List.set_cons_succ]
            refine wpAnyL_take (i := 14) (v := ?v20020) rfl (by kernel_rfl) (by kernel_rfl) (by kernel_rfl) (by kernel_rfl) (fun _ _ _ h => h) (Or.inl ⟨by kernel_rfl, ?hy20020⟩) (by assumption) ?r20020
            case hy20020 => (intro W hSW; obtain ⟨hV0, pd, ⟨s0, s1, s2⟩, u0, u1, u2, hlk⟩ := hSW; go_simp; try with_reducible rfl)
            try simp only [Act.put, List.getElem_toArray, List.getElem_cons_zero, List.getElem_cons_succ, List.setIfInBounds_toArray, List.set_cons_zero, List.set_cons_succ]
            refine wpAnyL_take (i := 15) (v := ?v20021) rfl (by kernel_rfl) (by kernel_rfl) (by kernel_rfl) (by kernel_rfl) (fun _ _ _ h => h) (Or.inl ⟨by kernel_rfl, ?hy20021⟩) (by assumption) ?r20021
            case hy20021 => (intro W hSW; obtain ⟨hV0, pd, ⟨s0, s1, s2⟩, u0, u1, u2, hlk⟩ := hSW; go_simp; try with_reducible rfl)
            try simp only [Act.put, List.getElem_toArray, List.getElem_cons_zero, List.getElem_cons_succ, List.setIfInBounds_toArray, List.set_cons_zero, List.set_cons_succ]
            refine wpAnyL_take (i := 16) (v := ?v20022) rfl (by kernel_rfl) (by kernel_rfl) (by kernel_rfl) (by kernel_rfl) (fun _ _ _ h => h) (Or.inl ⟨by kernel_rfl, ?hy20022⟩) (by assumption) ?r20022
            case hy20022 => (intro W hSW; obtain ⟨hV0, pd, ⟨s0, s1, s2⟩, u0, u1, u2, hlk⟩ := hSW; go_simp; try with_reducible rfl)
            try simp only [Act.put, List.getElem_toArray, List.getElem_cons_zero, List.getElem_cons_succ, List.setIfInBounds_toArray, List.set_cons_zero, List.set_cons_succ]
            refine wpAnyL_take (i := 17) (v := ?v20023) rfl (by kernel_rfl) (by kernel_rfl) (by kernel_rfl) (by kernel_rfl) (fun _ _ _ h => h) (Or.inl ⟨by kernel_rfl, ?hy20023⟩) (by assumption) ?r20023
            case hy20023 => (intro W hSW; obtain ⟨hV0, pd, ⟨s0, s1, s2⟩, u0, u1, u2, hlk⟩ := hSW; go_simp; try with_reducible rfl)
            try simp only [Act.put, List.getElem_toArray, List.getElem_cons_zero, List.getElem_cons_succ, List.setIfInBounds_toArray, List.set_cons_zero, List.set_cons_succ]
            refine wpAnyL_take (i := 18) (v := ?v20024) rfl (by kernel_rfl) (by kernel_rfl) (by kernel_rfl) (by kernel_rfl) (fun _ _ _ h => h) (Or.inl ⟨by kernel_rfl, ?hy20024⟩) (by assumption) ?r20024
            case hy20024 => (intro W hSW; obtain ⟨hV0, pd, ⟨s0, s1, s2⟩, u0, u1, u2, hlk⟩ := hSW; go_simp; try with_reducible rfl)
            try simp only [Act.put, List.getElem_toArray, List.getElem_cons_zero, List.getElem_cons_succ, List.setIfInBounds_toArray, List.set_cons_zero, List.set_cons_succ]
            refine wpAnyL_take (i := 19) (v := ?v20025) rfl (by kernel_rfl) (by kernel_rfl) (by kernel_rfl) (by kernel_rfl) (fun _ _ _ h => h) (Or.inl ⟨by kernel_rfl, ?hy20025⟩) (by assumption) ?r20025
            case hy20025 => (intro W hSW; obtain ⟨hV0, pd, ⟨s0, s1, s2⟩, u0, u1, u2, hlk⟩ := hSW; go_simp; try with_reducible rfl)
            try simp only [Act.put, List.getElem_toArray, List.getElem_cons_zero, List.getElem_cons_succ, List.setIfInBounds_toArray, List.set_cons_zero, List.set_cons_succ]
            refine wpAnyL_take (i := 20) (v := ?v20026) rfl (by kernel_rfl) (by kernel_rfl) (by kernel_rfl) (by kernel_rfl) (fun _ _ _ h => h) (Or.inl ⟨by kernel_rfl, ?hy20026⟩) (by assumption) ?r20026
            case hy20026 => (intro W hSW; obtain ⟨hV0, pd, ⟨s0, s1, s2⟩, u0, u1, u2, hlk⟩ := hSW; go_simp; try with_reducible rfl)
            try simp only [Act.put, List.getElem_toArray, List.getElem_cons_zero, List.getElem_cons_succ, List.setIfInBounds_toArray, List.set_cons_zero, List.set_cons_succ]
            refine wpAnyL_take (i := 21) (v := ?v20027) rfl (by kernel_rfl) (by kernel_rfl) (by kernel_rfl) (by kernel_rfl) (fun _ _ _ h => h) (Or.inl ⟨by kernel_rfl, ?hy20027⟩) (by assumption) ?r20027
            case hy20027 => (intro W hSW; obtain ⟨hV0, pd, ⟨s0, s1, s2⟩, u0, u1, u2, hlk⟩ := hSW; go_simp; try with_reducible rfl)
            try simp only [Act.put, List.getElem_toArray, List.getElem_cons_zero, List.getElem_cons_succ, List.setIfInBounds_toArray, List.set_cons_zero, List.set_cons_succ]
            refine wpAnyL_one (i := 22) (by kernel_rfl) rfl (by decide) (fun K hK => ?_)
            go_simp
            have hgl := heap_alloc_new Wd (.cells #[i64 x.client, i64 x.seq, i64 x.kind, i64 ac.hav, i64 ac.set_] 88)
            have hG1 := Gr.of_below (hbd.alloc hbd.size (.cells #[i64 x.client, i64 x.seq, i64 x.kind, i64 ac.hav, i64 ac.set_] 88)) T2.rows
            have HOv := Lib.hid ((HVo.out.later hbd).later ((Below.refl Wd.heap.size Wd).alloc (Nat.le_refl _) (.cells #[i64 x.client, i64 x.seq, i64 x.kind, i64 ac.hav, i64 ac.set_] 88)))
            refine hK.out _ _ (HS.out _ hG1) (fun hH => ?_)
            clear hK K
            try simp only [Act.put, List.getElem_toArray, List.getElem_cons_zero, List.getElem_cons_succ, List.setIfInBounds_toArray, List.set_cons_zero, List.set_cons_succ]
            refine wpAnyL_one (i := 23) (by kernel_rfl) rfl (by decide) (fun K hK => ?_)
            refine oper_append_one (.tmp 50) (.tmp 60) 61 rfl _ 40 Tryz.underlying61 evInfo rfl (by decide) (by decide) rfl HOv.out Wd.heap.size (evA x ac) rfl _ 88 hgl rfl (fun e => by have := (HVo.out.1.lt _ e.symm).2; have h2 := hbd.size; omega) trivial Hlen.out (Nat.le_trans hB5 (Nat.le_trans hbd.size (by simp))) ?_
            intro v6 w6 hO6 hgr6 hat6
            have hG6 := hG1.after ((Gr.of_grown hgr6).mono (S' := T2.rows) fun j _ e => HVr.out j e)
            have HO6 := Lib.hid hO6
            have hmap6 := HMp.out.gr hG6 Hbe.out
            clear hO6
            refine hK.out _ _ (HS.out _ hG6) (fun hH => ?_)
            clear hK K
            try simp only [Act.put, List.getElem_toArray, List.getElem_cons_zero, List.getElem_cons_succ, List.setIfInBounds_toArray, List.set_cons_zero, List.set_cons_succ]
            refine wpAnyL_last (by kernel_rfl) rfl (fun K hK => ?_)
            obtain ⟨w7, hrun, hm7, hg7⟩ := run_put (P := Tryz.prog) strKey Tryz.underlying173 hmap6 ac.name v6
            go_simp
            refine hK.out _ _ ?_
            clear hK K
            try simp only [Act.put, List.getElem_toArray, List.getElem_cons_zero, List.getElem_cons_succ, List.setIfInBounds_toArray, List.set_cons_zero, List.set_cons_succ]
            refine wpAnyL_done (by kernel_rfl) ?_ _
            refine NoPanic.normal ?_
            have hK7 := HK5.out.event ac.name HO6.out (grown_trans (grown_of_below (hbd.alloc hbd.size (.cells #[i64 x.client, i64 x.seq, i64 x.kind, i64 ac.hav, i64 ac.set_] 88)) _) hgr6) (hat6.imp id (fun e => ⟨_, e, Nat.le_trans hbd.size (by simp)⟩)) hm7 hg7
            clear hH HS
            obtain ⟨hK7, hG7, hr7⟩ := hK7
            have hG8 := HG5.out.trans hG7 (fun j hj => by
              rcases hj with hj | hj
              · exact .inl (.inl hj)
              · exact (Hrows.out j hj).imp (fun e => .inr e) id)
            have Hr8 := Lib.hid (fun g hg => show T.rows g ∨ w4.heap.size ≤ g from (hr7 g hg).elim (fun e => Hrows.out g e) (fun e => .inr (by omega)))
            have Hst8 := Lib.hid (Hst5.out v6)
            clear hG1 hG6 hgr6 hat6 hm7 hg7 hr7 hrun hmap6 hG7
            go_wp2
            go_roundw
            case rel => exact ⟨n + 1, _, by go_num, by omega, hK7, Hst8, hG8, Hr8⟩
            case measure => simp [intOf]; omega
        · obtain rfl : n = B2.L.length := by omega
          have g1 : decide ((B2.L.length : Int) < (B2.L.length : Int)) = false := decide_eq_false (by omega)
          have Hfin := Lib.hid (fun k => show T2.get k = T.get k ++ evD B x k by rw [Hget.out, List.take_length, HE1.out])
          have hr9 := (hGr.block (w.heap.size + 1) (by omega) (fun e => by have := (Hlt.out _ e).2; omega)).trans Hr4.out
          have hg9 := (hGr.block g5 (by omega) (fun e => by have := (Hlt.out _ e).2; omega)).trans Hg4.out
          have q0 := cell_of_row _ g5 0 _ _ (0, 0) hg9
          have q1 := cell_of_row _ g5 1 _ _ (0, 0) hg9
          have q2 := cell_of_row _ g5 2 _ _ (0, 0) hg9
          have q3 := cell_of_row _ g5 3 _ _ (0, 0) hg9
          simp only [List.getElem?_toArray, List.getElem?_cons_zero, List.getElem?_cons_succ] at q0 q1 q2 q3
          have hrow := setRow_heap wr (w.heap.size + 1) _ #[i64 Rr.err, i64 Rr.hav, i64 Rr.set_, i64 Rr.num] _ _ hr9
          have HK9 := Lib.hid (hK.kept (gr_setRow wr (w.heap.size + 1) #[i64 Rr.err, i64 Rr.hav, i64 Rr.set_, i64 Rr.num]) (fun j hj e => by
            rcases hj with hj | hj
            · have := (Hlt.out j (.inl hj)).2; omega
            · rcases Hrows.out j hj with e2 | e2
              · have := (Hlt.out j (.inr e2)).2; omega
              · omega))
          have HG9 := Lib.hid ((HG4.out.after hGr).own_row (g := w.heap.size + 1) (Nat.le_succ _) #[i64 Rr.err, i64 Rr.hav, i64 Rr.set_, i64 Rr.num])
          have Hrw := Lib.hid (fun g (hg : T2.rows g) => show T.rows g ∨ w.heap.size ≤ g from (Hrows.out g hg).imp id (fun e => by omega))
          clear hK hGr Hget hg9
          go_wp2_with (refine wpList_store_row rfl 44 (.tmp 4) (.tmp 63) rfl (w.heap.size + 1) #[i64 Rr.err, i64 Rr.hav, i64 Rr.set_, i64 Rr.num] rfl rfl 44 #[i64 0, i64 0, i64 0, i64 0] hr9 (by kernel_rfl) rfl (by simp [Value.oneCell']) ?_)
          exact bodyPost_ret (results_cell_row rfl _ _ (w.heap.size + 1) 44 _ (0, 0) _ rfl hrow Tryz.underlying44 rfl (by kernel_rfl)) rfl ⟨rfl, T2, HK9.out, Hfin.out, HG9.out, Hrw.out⟩
    · have e1 : (Rr.err == 0) = false := by simpa using he
      have e2 : (Rr.err != 0) = true := by simpa using he
      have e3 : decide (Rr.err = 0) = false := decide_eq_false he
      have HE1 := Lib.hid (HE0.out he)
      have hrow := setRow_heap w2 (w.heap.size + 1) _ #[i64 Rr.err, i64 Rr.hav, i64 Rr.set_, i64 Rr.num] _ _ hr2
      have hK3 := hK2.kept (gr_setRow w2 (w.heap.size + 1) #[i64 Rr.err, i64 Rr.hav, i64 Rr.set_, i64 Rr.num]) (fun j hj e => by have := (Hlt.out j hj).2; omega)
      have HG3 := Lib.hid (hGw.own_row (g := w.heap.size + 1) (Nat.le_succ _) #[i64 Rr.err, i64 Rr.hav, i64 Rr.set_, i64 Rr.num])
      have HK3 := Lib.hid hK3
      clear he hK3 hK2 hB2 hG2 hGw HS H00 HD HT HE HE0
      go_wp2_with (refine wpList_store_row rfl 44 (.tmp 4) (.tmp 21) rfl (w.heap.size + 1) #[i64 Rr.err, i64 Rr.hav, i64 Rr.set_, i64 Rr.num] rfl rfl 44 #[i64 0, i64 0, i64 0, i64 0] hr2 (by kernel_rfl) rfl (by simp [Value.oneCell']) ?_)
      exact bodyPost_ret (results_cell_row rfl _ _ (w.heap.size + 1) 44 _ (0, 0) _ rfl hrow Tryz.underlying44 rfl (by kernel_rfl)) rfl ⟨rfl, T, HK3.out, fun k => by rw [HE1.out k, List.append_nil], HG3.out, fun g hg => .inl hg⟩
set_option maxRecDepth 100000 in
set_option maxHeartbeats 8000000 in
theorem sevents_c (A : Option Addr) (c : Nat) (l : List Od) (k : ByteArray) (w : World) (h : Sl w w.heap.size A c l) (hx : ∀ x ∈ l, OdB x) (hl : ∀ x ∈ l, x.legs.length ≤ 10) (hn : l.length ≤ 60000) :
    Calls Tryz.prog 38 #[.slice A l.length c, .string k] w fun e w' => ∃ v, e = .returned v ∧ Own w' w.heap.size 88 v (evL bk0 l k) ∧ Below w.heap.size w w' := by
  have hN := Lib.hid (snew_c w)
  have H := Lib.hid h
  have Hx := Lib.hid hx
  have Hl := Lib.hid hl
  have hlc : l.length ≤ c := h.1
  clear h hx hl
  go_enter Tryz.func38, Tryz.ntmps38
  go_wp2_with fail
  refine hN.out.mono ?_
  rintro e w1 ⟨d, rfl, hK0, hF⟩
  clear hN
  go_wp2_with fail
  go_loopw [11] (fun iv wr => ∃ (n : Nat) (T : EvT), iv = i64 n ∧ n ≤ l.length ∧ DkA wr w.heap.size d (foldL bk0 (l.take n)) T [] ∧ InvB (foldL bk0 (l.take n)) ∧ Hid (∀ k, T.get k = evL bk0 (l.take n) k) ∧ Below w.heap.size w wr) (fun iv _ => l.length - (intOf iv).toNat)
  case atStart => exact ⟨0, [], rfl, Nat.zero_le _, hK0, inv_bk0, Lib.hid (fun k => rfl), hF⟩
  case round =>
    clear hK0 hF
    obtain ⟨n, T, rfl, hnl, hK, hI, Hget, hb⟩ := hrel
    by_cases hlt : n < l.length
    · have g1 : decide ((n : Int) < (l.length : Int)) = true := decide_eq_true (by omega)
      have g2 : decide (n < l.length) = true := decide_eq_true hlt
      have i0 : (0 : Int) ≤ (n : Int) := by omega
      have i1 : (n : Int) < (l.length : Int) := by omega
      have hlw := H.out.below hb
      obtain ⟨b, o, rfl, hbb, hokx, c0, c1, c2, c3, c4, c5, c6, c7, c8, c9⟩ := hlw.od hlt
      have HF := Lib.hid (show foldL bk0 (l.take (n + 1)) = (doL (foldL bk0 (l.take n)) l[n]).2 by rw [List.take_succ_eq_append_getElem hlt, foldL_snoc])
      have HE := Lib.hid (fun k => show evL bk0 (l.take (n + 1)) k = evL bk0 (l.take n) k ++ evD (foldL bk0 (l.take n)) l[n] k by rw [List.take_succ_eq_append_getElem hlt, evL_snoc])
      have hxo := Hx.out l[n] (List.getElem_mem hlt)
      have hlo := Hl.out l[n] (List.getElem_mem hlt)
      have Hlen := Lib.hid (fun k => show (T.get k).length ≤ 60000 by
        rw [Hget.out]
        have h1 := evL_le inv_bk0 k (l.take n) (fun x hx => Hx.out x (List.mem_of_mem_take hx))
        rw [List.length_take] at h1
        omega)
      have hI2 := Lib.hid (hI.do_ hxo)
      generalize foldL bk0 (l.take n) = B at *
      obtain ⟨x, hxk⟩ : ∃ x, l[n] = x := ⟨_, rfl⟩
      rw [hxk] at c0 c1 c2 c3 c4 c5 c6 c7 c8 c9 hxo hlo hokx hI2
      have HF2 := Lib.hid (show foldL bk0 (l.take (n + 1)) = (doL B x).2 by rw [HF.out, hxk])
      have HE2 := Lib.hid (fun k => show evL bk0 (l.take (n + 1)) k = evL bk0 (l.take n) k ++ evD B x k by rw [HE.out, hxk])
      clear HF HE hxk
      have hba := (Below.refl wr.heap.size wr).alloc (Nat.le_refl _) (.cells #[i64 x.client, i64 x.seq, i64 x.kind, .string x.acct, .string x.peer, i64 x.sum, .slice x.la x.legs.length x.lc, i64 x.period, i64 x.hold, .string x.note] 50)
      have hob := heap_alloc_new wr (.cells #[i64 x.client, i64 x.seq, i64 x.kind, .string x.acct, .string x.peer, i64 x.sum, .slice x.la x.legs.length x.lc, i64 x.period, i64 x.hold, .string x.note] 50)
      have hK1 := hK.later hba
      have hbs := hb.size
      have hzs : (wr.alloc (.cells #[i64 x.client, i64 x.seq, i64 x.kind, .string x.acct, .string x.peer, i64 x.sum, .slice x.la x.legs.length x.lc, i64 x.period, i64 x.hold, .string x.note] 50)).heap.size = wr.heap.size + 1 := by simp
      have hin : Od.Ok (wr.alloc (.cells #[i64 x.client, i64 x.seq, i64 x.kind, .string x.acct, .string x.peer, i64 x.sum, .slice x.la x.legs.length x.lc, i64 x.period, i64 x.hold, .string x.note] 50)) (fun k => k < (wr.alloc (.cells #[i64 x.client, i64 x.seq, i64 x.kind, .string x.acct, .string x.peer, i64 x.sum, .slice x.la x.legs.length x.lc, i64 x.period, i64 x.hold, .string x.note] 50)).heap.size ∧ ¬ d.all T [] k) x := Enc.keep (α := Od) hokx (fun p hp => hba.cell (Nat.lt_of_lt_of_le hp hbs)) (fun b hb => ⟨by omega, fun e => by have := (hK1.lt b e).1; omega⟩)
      have HD := Lib.hid (sdo_c x _ hK1 hI hxo hin hlo (by omega) Hlen.out)
      have HK1 := Lib.hid hK1
      have k0 := cell_of_row _ wr.heap.size 0 _ _ (0, 0) hob
      have k1 := cell_of_row _ wr.heap.size 1 _ _ (0, 0) hob
      have k2 := cell_of_row _ wr.heap.size 2 _ _ (0, 0) hob
      have k3 := cell_of_row _ wr.heap.size 3 _ _ (0, 0) hob
      have k4 := cell_of_row _ wr.heap.size 4 _ _ (0, 0) hob
      have k5 := cell_of_row _ wr.heap.size 5 _ _ (0, 0) hob
      have k6 := cell_of_row _ wr.heap.size 6 _ _ (0, 0) hob
      have k7 := cell_of_row _ wr.heap.size 7 _ _ (0, 0) hob
      have k8 := cell_of_row _ wr.heap.size 8 _ _ (0, 0) hob
      have k9 := cell_of_row _ wr.heap.size 9 _ _ (0, 0) hob
      simp only [List.getElem?_toArray, List.getElem?_cons_zero, List.getElem?_cons_succ] at k0 k1 k2 k3 k4 k5 k6 k7 k8 k9
      have hb1 := hb.alloc hbs (.cells #[i64 x.client, i64 x.seq, i64 x.kind, .string x.acct, .string x.peer, i64 x.sum, .slice x.la x.legs.length x.lc, i64 x.period, i64 x.hold, .string x.note] 50)
      clear hin hxo hokx hlo hI hK hK1 hba hob hlw hbb
      go_wp2_with fail
      refine HD.out.mono ?_
      rintro e w2 ⟨rfl, T2, hK2, hg2, hG2, -⟩
      have hb2 := hb1.trans (HK1.out.below hG2 (by omega))
      have Hg2 := Lib.hid (fun k => show T2.get k = evL bk0 (l.take (n + 1)) k by rw [hg2, Hget.out, HE2.out])
      rw [← HF2.out] at hK2 hI2
      clear HD HK1 hG2 hb1 hg2 HE2 HF2 Hget k0 k1 k2 k3 k4 k5 k6 k7 k8 k9 c0 c1 c2 c3 c4 c5 c6 c7 c8 c9
      go_wp2
      go_roundw
      case rel => exact ⟨n + 1, T2, by go_num, by omega, hK2, hI2.out, Hg2, hb2⟩
      case measure => simp [intOf]; omega
    · obtain rfl : n = l.length := by omega
      have g1 : decide ((l.length : Int) < (l.length : Int)) = false := decide_eq_false (by omega)
      have Hgk := Lib.hid (show T.get k = evL bk0 l k by rw [Hget.out, List.take_length])
      have HO := Lib.hid (sof_c k wr hK (by
        rw [Hgk.out]
        exact Nat.le_trans (evL_le inv_bk0 k l Hx.out) (by omega)))
      clear hK hI Hget
      go_wp2_with fail
      refine HO.out.mono ?_
      rintro e w2 ⟨v, rfl, hO, hF⟩
      have hb2 := below_on hb (Nat.le_refl _) hF
      rw [Hgk.out] at hO
      have HO2 := Lib.hid (hO.mono hb.size)
      clear hO HO
      go_wp2
      go_ret
      exact ⟨v, rfl, HO2.out, hb2⟩
end Go.Proofs.YtdkkblhfjblpkaaGreat

/- law12.lives -/
namespace Go.Proofs.YtdkkblhfjblpkaaGreat
open Go.RowKit
abbrev tMe : ByteArray := ⟨#[109, 101]⟩
theorem l12_1 : doL bk0 (askK 1 1 tA 5) = (⟨0, 0, 0, 0⟩, ⟨[⟨tA, 0, 0, 5⟩], [], 0⟩) := by kernel_rfl
theorem l12_2 : doL ⟨[⟨tA, 0, 0, 5⟩], [], 0⟩ (askK 2 3 tA 3) = (⟨0, 0, 3, 2⟩, ⟨[⟨tA, 0, 3, 5⟩], [⟨2, tA, 3⟩], 0⟩) := by kernel_rfl
theorem l12_e1 : evD bk0 (askK 1 1 tA 5) tA = [⟨0, 1, 1, 0, 0⟩] := by kernel_rfl
theorem l12_e2 : evD ⟨[⟨tA, 0, 0, 5⟩], [], 0⟩ (askK 2 3 tA 3) tA = [⟨0, 2, 3, 0, 3⟩] := by kernel_rfl
theorem l12_r : sreadE [] tMe tA = 0 := by kernel_rfl
theorem eq_evS (W : World) : (binOp .eql 88 (.agg #[i64 0, i64 2, i64 3, i64 0, i64 3]) (.agg #[i64 0, i64 2, i64 3, i64 0, i64 3])).run Tryz.prog W = .ok (.bool true) W := by
  have u3 := Tryz.underlying2
  have a3 := Tryz.isAgg2
  have z3 := Tryz.sizeOf2
  have u4 := Tryz.underlying3
  have a4 := Tryz.isAgg3
  have z4 := Tryz.sizeOf3
  have u5 := Tryz.underlying47
  have hS : Tryz.prog.underlying 88 = some (.struct (Tryz.prog.fieldsOf 88)) := by kernel_rfl
  have hp : Tryz.prog.stoodInHeld 88 = false := by kernel_rfl
  have hS2 : Tryz.prog.underlying 47 = some (.struct (Tryz.prog.fieldsOf 47)) := by kernel_rfl
  have hp2 : Tryz.prog.stoodInHeld 47 = false := by kernel_rfl
  rw [run_eql_struct, show (10000 : Nat) = 9999 + 1 from rfl, run_equalIn_agg W 9999 88 _ _ hS hp]
  simp only [Program.fieldsOf, Tryz.underlying88]
  go_simp
theorem evD_le {B : Bk} (hI : InvB B) (x : Od) (k : ByteArray) : (evD B x k).length ≤ 1 := by
  rw [evD_len hI]
  split <;> omega
theorem r64s (n : Int) (h : 0 ≤ n ∧ n ≤ 1000) : R64 n := by unfold R64; omega
set_option maxRecDepth 100000 in
set_option maxHeartbeats 16000000 in
theorem lives_12 (w : World) : Calls Tryz.prog 35 #[] w fun e w' => e = .returned (.bool true) ∧ Below w.heap.size w w' := by
  have hsA : tA.size ≤ maxLen := by show 1 ≤ maxLen; decide
  have H1 : Hid (∀ (d : DA) (W : World), DkA W w.heap.size d bk0 [] [] → w.heap.size ≤ W.heap.size → Calls Tryz.prog 43 #[d.ptr, .agg #[i64 0, i64 1, i64 1, .string tA, .string ⟨#[]⟩, i64 5, .slice none 0 0, i64 0, i64 0, .string ⟨#[]⟩]] W fun e w' => e = .returned (.agg #[i64 0, i64 0, i64 0, i64 0]) ∧ ∃ T, DkA w' w.heap.size d ⟨[⟨tA, 0, 0, 5⟩], [], 0⟩ T [] ∧ T.get tA = [⟨0, 1, 1, 0, 0⟩] ∧ (∀ k, (T.get k).length ≤ 1) ∧ Below w.heap.size W w') := Lib.hid fun d W hK hW =>
    (sdo_c (askK 1 1 tA 5) W hK inv_bk0 (askK_odB hsA (r64s _ (by decide)) (r64s _ (by decide)) (r64s _ (by decide))) (askK_ok _ _ _ _ hsA _ _) (Nat.zero_le _) hW (fun k => Nat.zero_le _)).mono (by
      rintro e w' ⟨rfl, T, h1, h2, h3, -⟩
      rw [l12_1] at h1 ⊢
      exact ⟨rfl, T, h1, by rw [h2, l12_e1]; rfl, fun k => by rw [h2]; exact evD_le inv_bk0 _ k, hK.below h3 hW⟩)
  have hI1 : InvB ⟨[⟨tA, 0, 0, 5⟩], [], 0⟩ := by
    have := inv_bk0.do_ (askK_odB (seq := 1) (kind := 1) (sum := 5) hsA (r64s _ (by decide)) (r64s _ (by decide)) (r64s _ (by decide)))
    rwa [l12_1] at this
  have H2 : Hid (∀ (d : DA) (T : EvT) (W : World), DkA W w.heap.size d ⟨[⟨tA, 0, 0, 5⟩], [], 0⟩ T [] → w.heap.size ≤ W.heap.size → T.get tA = [⟨0, 1, 1, 0, 0⟩] → (∀ k, (T.get k).length ≤ 1) → Calls Tryz.prog 43 #[d.ptr, .agg #[i64 0, i64 2, i64 3, .string tA, .string ⟨#[]⟩, i64 3, .slice none 0 0, i64 0, i64 0, .string ⟨#[]⟩]] W fun e w' => e = .returned (.agg #[i64 0, i64 0, i64 3, i64 2]) ∧ ∃ T, DkA w' w.heap.size d ⟨[⟨tA, 0, 3, 5⟩], [⟨2, tA, 3⟩], 0⟩ T [] ∧ T.get tA = [⟨0, 1, 1, 0, 0⟩, ⟨0, 2, 3, 0, 3⟩] ∧ Below w.heap.size W w') := Lib.hid fun d T W hK hW hg hl =>
    (sdo_c (askK 2 3 tA 3) W hK hI1 (askK_odB hsA (r64s _ (by decide)) (r64s _ (by decide)) (r64s _ (by decide))) (askK_ok _ _ _ _ hsA _ _) (Nat.zero_le _) hW (fun k => Nat.le_trans (hl k) (by decide))).mono (by
      rintro e w' ⟨rfl, T2, h1, h2, h3, -⟩
      rw [l12_2] at h1 ⊢
      exact ⟨rfl, T2, h1, by rw [h2, hg, l12_e2]; rfl, hK.below h3 hW⟩)
  have he := eq_evS
  go_enter Tryz.func35, Tryz.ntmps35
  go_wp2_with fail
  refine (snew_c w).mono ?_
  rintro e w1 ⟨d, rfl, hK1, hF⟩
  have hb1 := hF
  clear hF
  go_wp2_with fail
  refine (H1.out d w1 hK1 hb1.size).mono ?_
  rintro e w2 ⟨rfl, T1, hK2, hg2, hl2, hF⟩
  have hb2 := hb1.trans hF
  clear hF hb1 hK1 H1
  go_wp2_with fail
  refine (H2.out d T1 w2 hK2 hb2.size hg2 hl2).mono ?_
  rintro e w3 ⟨rfl, T2, hK3, hg3, hF⟩
  have hb3 := hb2.trans hF
  have hlt3 := hK3.lt
  clear hF hb2 hK2 H2 hg2 hl2
  have hba := (Below.refl w3.heap.size w3).alloc (Nat.le_refl _) (.cells #[i64 0, i64 0, i64 3, i64 2] 44)
  have hal := heap_alloc_new w3 (.cells #[i64 0, i64 0, i64 3, i64 2] 44)
  have hK4 := hK3.later hba
  have hb4 := hb3.alloc hb3.size (.cells #[i64 0, i64 0, i64 3, i64 2] 44)
  clear hba hb3 hK3
  go_wp2_with fail
  generalize w3.alloc (.cells #[i64 0, i64 0, i64 3, i64 2] 44) = w4 at *
  refine (sread_c tMe tA w4 hK4 hb4.size).mono ?_
  rintro e w5 ⟨R2, rfl, hK5, hG, -, hR⟩
  obtain ⟨g, rfl, hgl⟩ := hR l12_r
  rw [l12_r]
  have hb5 := hb4.trans (hK4.below hG hb4.size)
  have hal5 := (hG.block w3.heap.size (Array.getElem?_eq_some_iff.1 hal).1 (fun e => by have := (hlt3 _ e).2; omega)).trans hal
  clear hK4 hG hR hal hb4
  have hr : getRd ([] ++ [(⟨tMe, g, tA, 0⟩ : Rx)]) tMe = some ⟨tMe, g, tA, 0⟩ := by unfold getRd; simp
  have HP := Lib.hid (spoll_c tMe 9 ⟨tMe, g, tA, 0⟩ w5 hK5 hr (Nat.zero_le _) (by show (T2.get tA).length ≤ 65536; rw [hg3]; decide))
  change Hid (Calls Tryz.prog 44 #[d.ptr, .string tMe, i64 9] w5 fun e w' => ∃ v, e = .returned (.tuple #[v, i64 0]) ∧ Own w' w5.heap.size 88 v (((T2.get tA).drop 0).take (min (max 9 0) (((T2.get tA).drop 0).length : Int)).toNat) ∧ Below w5.heap.size w5 w') at HP
  rw [hg3] at HP
  change Hid (Calls Tryz.prog 44 #[d.ptr, .string tMe, i64 9] w5 fun e w' => ∃ v, e = .returned (.tuple #[v, i64 0]) ∧ Own w' w5.heap.size 88 v [(⟨0, 1, 1, 0, 0⟩ : Ev), ⟨0, 2, 3, 0, 3⟩] ∧ Below w5.heap.size w5 w') at HP
  clear hK5 hg3 hr hlt3 hgl
  go_wp2_with fail
  refine HP.out.mono ?_
  rintro e w6 ⟨v, rfl, hO, hF⟩
  have hb6 := below_on hb5 (Nat.le_refl _) hF
  have hal6 := (hF.block w3.heap.size (Array.getElem?_eq_some_iff.1 hal5).1).trans hal5
  have r3 := cell_of_row _ w3.heap.size 3 _ _ (0, 0) hal6
  simp only [List.getElem?_toArray, List.getElem?_cons_zero, List.getElem?_cons_succ] at r3
  obtain ⟨A, c, rfl, hs⟩ := hO.sl
  have hc : 2 ≤ c := hs.1
  obtain ⟨b, o, rfl, -, c0, c1, c2, c3, c4⟩ := hs.ev (k := 1) (by decide)
  simp only [List.getElem_cons_zero, List.getElem_cons_succ] at c0 c1 c2 c3 c4
  clear hO hs hal6 hal5 hF HP hb5
  go_wp2
  go_ret
  exact ⟨rfl, hb6⟩
end Go.Proofs.YtdkkblhfjblpkaaGreat
