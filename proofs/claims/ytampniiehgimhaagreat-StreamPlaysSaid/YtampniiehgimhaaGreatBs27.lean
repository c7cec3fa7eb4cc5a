/- Texts of this claim, laid together. -/
import Derived.Test.YtampniiehgimhaaGreatRows
import Derived.Test.YtampniiehgimhaaGreatBs26
import Derived.Test.YtampniiehgimhaaGreatBs23
import Derived.Test.YtampniiehgimhaaGreatBs11
import Derived.Test.YtampniiehgimhaaGreatBs9
import Derived.OwnWalk
import Derived.Deep.Cut
import Derived.Test.YtampniiehgimhaaGreatBs4
import Derived.Test.YtampniiehgimhaaGreatBs5
import Derived.WalkKit
import Derived.WalkSpells
import Derived.WalkLawsBesides
import Derived.Deep.QuietTactic
import Derived.BigQuiet
import Derived.Laws.StructEq
import Derived.Deep.DeepFit
import Derived.StillTailTactics
import Derived.Test.YtampniiehgimhaaGreatBs13
import Derived.Test.YtampniiehgimhaaGreatBs10

/- stream: what a desk does -/
namespace Go.Proofs.YtampniiehgimhaaGreat
open Go.RowKit
theorem evInfo : (Tryz.prog.info? 148).map (fun i => (i.zero, i.size, i.bytes)) = some (some (.agg #[i64 0, i64 0, i64 0, i64 0, i64 0]), Enc.size Ev, 40) := by kernel_rfl
set_option maxRecDepth 100000 in
set_option maxHeartbeats 2000000 in
theorem snew_c (w : World) : Calls Tryz.prog 20 #[] w fun e w' => ∃ d : DA, e = .returned d.ptr ∧ DkA w' w.heap.size d bk0 [] [] ∧ Below w.heap.size w w' := by
 have hmm := @run_makeMap Tryz.prog
 have h1 := Lib.hid (bnew_c w)
 go_enter Tryz.func20, Tryz.ntmps20
 go_wp2_with fail
 refine h1.out.mono ?_
 rintro e w1 ⟨a, rfl, hB, ha, hF⟩
 have HB := Lib.hid hB
 have Ha := Lib.hid ha
 have hb := hF
 clear hB ha hF h1
 go_wp2
 go_ret
 have hz := hb.size
 have b1 := (Below.refl w1.heap.size w1).alloc (Nat.le_refl _) (.map #[] 0)
 have z1 : (w1.alloc (.map #[] 0)).heap.size = w1.heap.size + 1 := by simp
 have b2 := (Below.refl (w1.alloc (.map #[] 0)).heap.size (w1.alloc (.map #[] 0))).alloc (Nat.le_refl _) (.map #[] 0)
 have z2 : ((w1.alloc (.map #[] 0)).alloc (.map #[] 0)).heap.size = w1.heap.size + 2 := by simp
 have b3 := (Below.refl ((w1.alloc (.map #[] 0)).alloc (.map #[] 0)).heap.size ((w1.alloc (.map #[] 0)).alloc (.map #[] 0))).alloc (Nat.le_refl _) (.cells #[a.ptr, .map (some w1.heap.size), .map (some (w1.heap.size + 1))] 152)
 have hlt := HB.out.lt
 refine ⟨⟨a, w1.heap.size + 2, w1.heap.size, w1.heap.size + 1⟩, rfl, ⟨((HB.out.later b1).later b2).later b3, ?_, ⟨?_, fun _ h => (by cases h), fun _ h => (by cases h)⟩, ⟨?_, fun _ h => (by cases h)⟩, ⟨fun e => ?_, fun e => ?_, fun e => ?_, ?_, ?_, ?_, (fun _ h => by cases h), List.Pairwise.nil⟩, (fun g hg => by obtain ⟨p, hp, _⟩ := hg; cases hp), fun k hk => ?_⟩, ?_⟩
 ·have := heap_alloc_new ((w1.alloc (.map #[] 0)).alloc (.map #[] 0)) (.cells #[a.ptr, .map (some w1.heap.size), .map (some (w1.heap.size + 1))] 152)
  rwa [z2] at this
 ·exact ((MapIs.made (enc := Value.string) w1).later b2).later b3
 ·have := (MapIs.made (enc := Value.string) (w1.alloc (.map #[] 0))).later b3
  rwa [z1] at this
 ·have h0 := hlt _ e
  dsimp only at h0
  omega
 ·have h0 := hlt _ e
  dsimp only at h0
  omega
 ·have h0 := hlt _ e
  dsimp only at h0
  omega
 ·show w1.heap.size + 2 ≠ w1.heap.size; omega
 ·show w1.heap.size + 2 ≠ w1.heap.size + 1; omega
 ·show w1.heap.size ≠ w1.heap.size + 1; omega
 ·rcases hk with hk | rfl | rfl | rfl | ⟨r, hr, _⟩
  ·exact Ha.out k hk
  ·show w.heap.size ≤ w1.heap.size + 2; omega
  ·exact hz
  ·show w.heap.size ≤ w1.heap.size + 1; omega
  ·cases hr
 ·exact ((hb.alloc hz _).alloc (by rw [z1]; omega) _).alloc (by rw [z2]; omega) _
section
variable {base : Nat} {d : DA} {B : Bk} {T : EvT} {R : List Rx}
theorem DkA.c0 {w : World} (h : DkA w base d B T R) : w.cell? ⟨d.p, 0, none⟩ = some d.a.ptr := cell_of_row _ d.p 0 _ _ (0, 0) h.cell
theorem DkA.c1 {w : World} (h : DkA w base d B T R) : w.cell? ⟨d.p, 1, none⟩ = some (.map (some d.be)) := cell_of_row _ d.p 1 _ _ (0, 0) h.cell
theorem DkA.c2 {w : World} (h : DkA w base d B T R) : w.cell? ⟨d.p, 2, none⟩ = some (.map (some d.br)) := cell_of_row _ d.p 2 _ _ (0, 0) h.cell
theorem DkA.look {w : World} (h : DkA w base d B T R) (k : ByteArray) : (Instr.lookup 149 (.map (some d.be)) (.string k) false).run Tryz.prog w = .ok (T.val k) w := by
 have hlk := run_lookup (P := Tryz.prog) strKey Tryz.underlying149 h.ev.map k (.slice none 0 0) (by kernel_rfl) false
 rw [EvT.ents_get] at hlk
 exact hlk
theorem DkA.find {w : World} (h : DkA w base d B T R) (k : ByteArray) : (Instr.lookup 150 (.map (some d.br)) (.string k) false).run Tryz.prog w = .ok (((getRd R k).map Rx.ptr).getD (.pointer none)) w := by
 have hlk := run_lookup (P := Tryz.prog) strKey Tryz.underlying150 h.rd.map k (.pointer none) (by kernel_rfl) false
 rw [rdEnts_get] at hlk
 exact hlk
set_option maxRecDepth 100000 in
set_option maxHeartbeats 4000000 in
/-- Of -/
theorem sof_c (k : ByteArray) (w : World) (h : DkA w base d B T R) (hn : (T.get k).length ≤ 65536) : Calls Tryz.prog 33 #[d.ptr, .string k] w fun e w' => ∃ v, e = .returned v ∧ Own w' w.heap.size 148 v (T.get k) ∧ Below w.heap.size w w' := by
 have c1 := h.c1
 have hlk := h.look k
 obtain ⟨A, c, hv, hs⟩ := (h.ev.val_own k).sl
 rw [hv] at hlk
 have HC := Lib.hid (clone_ev A c _ w hs hn)
 clear hs hv
 generalize T.get k = l at *
 go_enter Tryz.func33, Tryz.ntmps33
 go_wp2_with fail
 refine HC.out.mono ?_
 rintro e w1 ⟨v, rfl, hO, hF⟩
 have HO := Lib.hid hO
 clear hO HC
 go_wp2
 go_ret
 exact ⟨v, rfl, HO.out, hF⟩
set_option maxRecDepth 100000 in
set_option maxHeartbeats 4000000 in
/-- get -/
theorem sget_no (k : ByteArray) (w : World) (h : DkA w base d B T R) (hr : getRd R k = none) : Calls Tryz.prog 76 #[d.ptr, .string k] w fun e w' => e = .returned (.tuple #[.pointer none, .slice none 0 0, i64 6]) ∧ w = w' := by
 have c2 := h.c2
 have hlk := h.find k
 rw [hr] at hlk
 change (Instr.lookup 150 (.map (some d.br)) (.string k) false).run Tryz.prog w = .ok (.pointer none) w at hlk
 go_enter Tryz.func76, Tryz.ntmps76
 go_wp2
 go_ret3
 exact ⟨rfl, rfl⟩
set_option maxRecDepth 100000 in
set_option maxHeartbeats 4000000 in
theorem sget_c (k : ByteArray) (r : Rx) (w : World) (h : DkA w base d B T R) (hr : getRd R k = some r) (ha : r.at_ ≤ (T.get r.acct).length) : Calls Tryz.prog 76 #[d.ptr, .string k] w fun e w' => ∃ A c, e = .returned (.tuple #[r.ptr, .slice A ((T.get r.acct).length - r.at_) c, i64 0]) ∧ Sl w' w'.heap.size A c ((T.get r.acct).drop r.at_) ∧ Below w.heap.size w w' := by
 have c1 := h.c1
 have c2 := h.c2
 have hlk := h.find k
 rw [hr] at hlk
 change (Instr.lookup 150 (.map (some d.br)) (.string k) false).run Tryz.prog w = .ok r.ptr w at hlk
 have hcell := h.rd.cell r (getRd_mem hr).1
 have r0 := cell_of_row _ r.blk 0 _ _ (0, 0) hcell
 have r1 := cell_of_row _ r.blk 1 _ _ (0, 0) hcell
 simp only [List.getElem?_toArray, List.getElem?_cons_zero, List.getElem?_cons_succ] at r0 r1
 have hlk2 := fun W (hW : Below w.heap.size w W) => (h.later hW).look r.acct
 obtain ⟨A, c, hv, hs⟩ := (h.ev.val_own r.acct).sl
 rw [hv] at hlk2
 have hc : (T.get r.acct).length ≤ c := hs.1
 have HD := Lib.hid (hs.drop ha)
 have HS : Hid (∀ V, Below w.heap.size w V → (fun V : World => Below w.heap.size w V ∧ V.cell? ⟨d.p, 1, none⟩ = some (.map (some d.be)) ∧ V.cell? ⟨r.blk, 0, none⟩ = some (.string r.acct) ∧ V.cell? ⟨r.blk, 1, none⟩ = some (i64 (r.at_ : Int)) ∧ (Instr.lookup 149 (.map (some d.be)) (.string r.acct) false).run Tryz.prog V = .ok (.slice A (T.get r.acct).length c) V) V) := Lib.hid fun V hV => by
  have hc1 := (hV.block _ (Array.getElem?_eq_some_iff.1 hcell).1).trans hcell
  exact ⟨hV, (h.later hV).c1, cell_of_row _ r.blk 0 _ _ (0, 0) hc1, cell_of_row _ r.blk 1 _ _ (0, 0) hc1, hlk2 V hV⟩
 clear hs hv hcell h hlk2
 generalize T.get r.acct = l at *
 have i0 : (0 : Int) ≤ (r.at_ : Int) := by omega
 have i1 : (r.at_ : Int) ≤ (l.length : Int) := by omega
 have i2 : (r.at_ : Int) ≤ (c : Int) := by omega
 go_enter Tryz.func76, Tryz.ntmps76
 go_upto_region 6 with fail
 refine wp_region_noPanic ?_
 refine wp_region_l 17 (fun V : World => Below w.heap.size w V ∧ V.cell? ⟨d.p, 1, none⟩ = some (.map (some d.be)) ∧ V.cell? ⟨r.blk, 0, none⟩ = some (.string r.acct) ∧ V.cell? ⟨r.blk, 1, none⟩ = some (i64 (r.at_ : Int)) ∧ (Instr.lookup 149 (.map (some d.be)) (.string r.acct) false).run Tryz.prog V = .ok (.slice A (l).length c) V) (by kernel_rfl) (HS.out _ (Below.refl _ _).drew) (fun hH => ?_)
 refine tkZ 0 ?_; refine tkZ 1 ?_; refine tkZ 2 ?_; refine tkZ 3 ?_; refine tkZ 4 ?_; refine tkZ 5 ?_; refine tkZ 6 ?_; refine tkZ 7 ?_; refine tkZ 8 ?_; refine tkZ 9 ?_; refine tkZ 10 ?_; refine tkZ 11 ?_; refine tkZ 12 ?_; refine tkZ 13 ?_; refine tkZ 14 ?_; refine tkZ 15 ?_; refine tkZ 16 ?_
 refine tkL (fun K hK => ?_)
 go_simp
 refine hK.out _ _ ?_
 clear hK K
 try simp only [Act.put, uA, uZ, uS, vA, vZ, vS]
 refine tkD ?_
 have hF := hH.1
 clear hH HS
 go_wp2
 ·go_ret3
  have h2 := HD.out.later hF
  have hc0 : c = r.at_ := by assumption
  rw [if_pos hc0, hc0, Nat.sub_self] at h2
  exact ⟨_, _, rfl, h2, hF⟩
 ·go_ret3
  have h2 := HD.out.later hF
  have hc0 : ¬ c = r.at_ := by assumption
  rw [if_neg hc0] at h2
  exact ⟨_, _, rfl, h2, hF⟩
set_option maxRecDepth 100000 in
set_option maxHeartbeats 4000000 in
/-- Poll -/
theorem spoll_no (k : ByteArray) (n : Int) (w : World) (h : DkA w base d B T R) (hr : getRd R k = none) : Calls Tryz.prog 24 #[d.ptr, .string k, i64 n] w fun e w' => ∃ v, e = .returned (.tuple #[v, i64 6]) ∧ Own w' w.heap.size 148 v ([] : List Ev) ∧ Below w.heap.size w w' := by
 have HG := Lib.hid (sget_no k w h hr)
 have HC := Lib.hid (fun W => clone_ev none 0 [] W (SlS.nil_ _ _) (by decide))
 have m0 : (0 : Int) ≤ min (max n 0) 0 := by omega
 have m1 : min (max n 0) 0 ≤ (0 : Int) := by omega
 have m2 : min (max n 0) 0 = (0 : Int) := by omega
 go_enter Tryz.func24, Tryz.ntmps24
 go_wp2_with fail
 refine HG.out.mono ?_
 rintro e w1 ⟨rfl, rfl⟩
 go_wp2_with fail
 refine (HC.out _).mono ?_
 rintro e w1 ⟨v, rfl, hO, hF⟩
 have HO := Lib.hid hO
 clear hO HC HG
 go_wp2
 go_ret2
 exact ⟨v, rfl, HO.out, hF⟩
set_option maxRecDepth 100000 in
set_option maxHeartbeats 4000000 in
/-- At -/
theorem sat_no (k : ByteArray) (w : World) (h : DkA w base d B T R) (hr : getRd R k = none) : Calls Tryz.prog 31 #[d.ptr, .string k] w fun e w' => e = .returned (.tuple #[i64 0, i64 6]) ∧ w = w' := by
 have HG := Lib.hid (sget_no k w h hr)
 go_enter Tryz.func31, Tryz.ntmps31
 go_wp2_with fail
 refine HG.out.mono ?_
 rintro e w1 ⟨rfl, rfl⟩
 go_wp2
 go_ret2
 exact ⟨rfl, rfl⟩
set_option maxRecDepth 100000 in
set_option maxHeartbeats 4000000 in
theorem sat_c (k : ByteArray) (r : Rx) (w : World) (h : DkA w base d B T R) (hr : getRd R k = some r) (ha : r.at_ ≤ (T.get r.acct).length) : Calls Tryz.prog 31 #[d.ptr, .string k] w fun e w' => e = .returned (.tuple #[i64 r.at_, i64 0]) ∧ Below w.heap.size w w' := by
 have HG := Lib.hid (sget_c k r w h hr ha)
 have hcell := h.rd.cell r (getRd_mem hr).1
 go_enter Tryz.func31, Tryz.ntmps31
 go_wp2_with fail
 refine HG.out.mono ?_
 rintro e w1 ⟨A, c, rfl, -, hF⟩
 have hcell1 := (hF.block _ (Array.getElem?_eq_some_iff.1 hcell).1).trans hcell
 have r1 := cell_of_row _ r.blk 1 _ _ (0, 0) hcell1
 simp only [List.getElem?_toArray, List.getElem?_cons_zero, List.getElem?_cons_succ] at r1
 clear hcell hcell1 HG
 go_wp2
 go_ret2
 exact ⟨rfl, hF⟩
set_option maxRecDepth 100000 in
set_option maxHeartbeats 4000000 in
/-- Book -/
theorem sbook_c (w : World) (h : DkA w base d B T R) : Calls Tryz.prog 36 #[d.ptr] w fun e w' => ∃ c : BA, e = .returned c.ptr ∧ BkA w' c B ∧ (∀ k, c.all k → w.heap.size ≤ k) ∧ Below w.heap.size w w' := by
 have HG := Lib.hid (bcopy_c d.a B w h.bk)
 have c0 := h.c0
 go_enter Tryz.func36, Tryz.ntmps36
 go_wp2_with fail
 refine HG.out.mono ?_
 rintro e w1 ⟨a, rfl, hB, ha, hF⟩
 have HB := Lib.hid hB
 have HA := Lib.hid ha
 clear hB ha HG
 go_wp2
 go_ret
 exact ⟨a, rfl, HB.out, HA.out, hF⟩
end
end Go.Proofs.YtampniiehgimhaaGreat
/- stream: Do, Events -/
namespace Go.Proofs.YtampniiehgimhaaGreat
open Go.RowKit
set_option maxRecDepth 100000 in
set_option maxHeartbeats 16000000 in
theorem sdo_c {base : Nat} {d : DA} {B : Bk} {T : EvT} {R : List Rx} (x : Od) (w : World) (h : DkA w base d B T R) (hI : InvB B) (hx : OdB x) (hl : Od.Ok w (fun k => k < w.heap.size ∧ ¬ d.all T R k) x) (hlen : x.legs.length ≤ 10) (hB : base ≤ w.heap.size) (hn : ∀ k, (T.get k).length ≤ 60000) :
  Calls Tryz.prog 21 #[d.ptr, x.v] w fun e w' => e = .returned (doL B x).1.v ∧ ∃ T2 : EvT, DkA w' base d (doL B x).2 T2 R ∧ (∀ k, T2.get k = T.get k ++ evD B x k) ∧ Gr w w' (d.all T R) ∧ (∀ g, T2.rows g → T.rows g ∨ w.heap.size ≤ g) := by
 have HE := Lib.hid (show (doL B x).1.err = 0 → ∀ k, evN x (doL B x).2.L k = evD B x k from fun e k => evN_all (hI.do_ hx).inv.srtA e k)
 have HE0 := Lib.hid (show (doL B x).1.err ≠ 0 → ∀ k, evD B x k = [] from fun e k => evD_none fun h => e h.1)
 have HI2 := Lib.hid (hI.do_ hx)
 have Hlt := Lib.hid h.lt
 have hb0 : Below w.heap.size w ((w.alloc (.cells #[i64 x.client, i64 x.seq, i64 x.kind, .string x.acct, .string x.peer, i64 x.sum, .slice x.la x.legs.length x.lc, i64 x.period, i64 x.hold, .string x.note] 37)).alloc (.cells #[i64 0, i64 0, i64 0, i64 0] 31)) := ((Below.refl w.heap.size w).alloc (Nat.le_refl _) (.cells #[i64 x.client, i64 x.seq, i64 x.kind, .string x.acct, .string x.peer, i64 x.sum, .slice x.la x.legs.length x.lc, i64 x.period, i64 x.hold, .string x.note] 37)).alloc (by simp) (.cells #[i64 0, i64 0, i64 0, i64 0] 31)
 have ho0 := heap_alloc2_old w (.cells #[i64 x.client, i64 x.seq, i64 x.kind, .string x.acct, .string x.peer, i64 x.sum, .slice x.la x.legs.length x.lc, i64 x.period, i64 x.hold, .string x.note] 37) (.cells #[i64 0, i64 0, i64 0, i64 0] 31)
 have hr0 := heap_alloc2_new w (.cells #[i64 x.client, i64 x.seq, i64 x.kind, .string x.acct, .string x.peer, i64 x.sum, .slice x.la x.legs.length x.lc, i64 x.period, i64 x.hold, .string x.note] 37) (.cells #[i64 0, i64 0, i64 0, i64 0] 31)
 have hz0 : ((w.alloc (.cells #[i64 x.client, i64 x.seq, i64 x.kind, .string x.acct, .string x.peer, i64 x.sum, .slice x.la x.legs.length x.lc, i64 x.period, i64 x.hold, .string x.note] 37)).alloc (.cells #[i64 0, i64 0, i64 0, i64 0] 31)).heap.size = w.heap.size + 2 := by simp
 have H0 := h.later hb0
 have c0 := H0.c0
 have hin : ∀ V, Below ((w.alloc (.cells #[i64 x.client, i64 x.seq, i64 x.kind, .string x.acct, .string x.peer, i64 x.sum, .slice x.la x.legs.length x.lc, i64 x.period, i64 x.hold, .string x.note] 37)).alloc (.cells #[i64 0, i64 0, i64 0, i64 0] 31)).heap.size ((w.alloc (.cells #[i64 x.client, i64 x.seq, i64 x.kind, .string x.acct, .string x.peer, i64 x.sum, .slice x.la x.legs.length x.lc, i64 x.period, i64 x.hold, .string x.note] 37)).alloc (.cells #[i64 0, i64 0, i64 0, i64 0] 31)) V → OdIn V d.a x := fun V hV => ⟨Enc.keep (α := Od) hl (fun p hp => (below_on hb0 (Nat.le_refl _) hV).cell hp.1) (fun b hb => ⟨Nat.lt_of_lt_of_le hb.1 (below_on hb0 (Nat.le_refl _) hV).size, fun e => hb.2 (.inl (.inl e))⟩), Nat.le_trans hlen (by decide)⟩
 have HD := Lib.hid (fun V (hV : Below ((w.alloc (.cells #[i64 x.client, i64 x.seq, i64 x.kind, .string x.acct, .string x.peer, i64 x.sum, .slice x.la x.legs.length x.lc, i64 x.period, i64 x.hold, .string x.note] 37)).alloc (.cells #[i64 0, i64 0, i64 0, i64 0] 31)).heap.size ((w.alloc (.cells #[i64 x.client, i64 x.seq, i64 x.kind, .string x.acct, .string x.peer, i64 x.sum, .slice x.la x.legs.length x.lc, i64 x.period, i64 x.hold, .string x.note] 37)).alloc (.cells #[i64 0, i64 0, i64 0, i64 0] 31)) V) => bdo_c d.a B x V (H0.later hV).bk hI hx (hin V hV))
 have hok : Okb w w.heap.size x := Enc.keep (α := Od) hl (fun _ _ => rfl) (fun _ h => h.1)
 have HT := Lib.hid (fun V (hV : Gr w V (d.all T R)) => touches_c x V (Enc.keep (α := Od) hl (fun p hp => World.cell?_of_block (hV.block _ hp.1 hp.2)) (fun b hb => Nat.lt_of_lt_of_le hb.1 hV.size)) hlen)
 have Htl := Lib.hid (touches_len x hlen)
 have Hn := Lib.hid hn
 generalize doL B x = D at *
 obtain ⟨Rr, B2⟩ := D
 dsimp only at HE HE0 HI2 HD ⊢
 unfold Od.v at *
 go_enter Tryz.func21, Tryz.ntmps21
 go_upto_region 3 with fail
 generalize (w.alloc (.cells #[i64 x.client, i64 x.seq, i64 x.kind, .string x.acct, .string x.peer, i64 x.sum, .slice x.la x.legs.length x.lc, i64 x.period, i64 x.hold, .string x.note] 37)).alloc (.cells #[i64 0, i64 0, i64 0, i64 0] 31) = W0 at *
 have Hall := Lib.hid (show ∀ k, d.a.all k → k < W0.heap.size from H0.bk.lt)
 have Hown := Lib.hid (show ∀ k, d.a.own k → k < w.heap.size from fun k hk => (Hlt.out k (.inl (.inl (BA.own_all hk)))).2)
 have HS : Hid (∀ V, Gr W0 V d.a.own → (fun V : World => Gr W0 V d.a.own ∧ V.cell? ⟨d.p, 0, none⟩ = some d.a.ptr ∧ V.cell? ⟨w.heap.size, 0, none⟩ = some (i64 x.client) ∧ V.cell? ⟨w.heap.size, 1, none⟩ = some (i64 x.seq) ∧ V.cell? ⟨w.heap.size, 2, none⟩ = some (i64 x.kind) ∧ V.cell? ⟨w.heap.size, 3, none⟩ = some (.string x.acct) ∧ V.cell? ⟨w.heap.size, 4, none⟩ = some (.string x.peer) ∧ V.cell? ⟨w.heap.size, 5, none⟩ = some (i64 x.sum) ∧ V.cell? ⟨w.heap.size, 6, none⟩ = some (.slice x.la x.legs.length x.lc) ∧ V.cell? ⟨w.heap.size, 7, none⟩ = some (i64 x.period) ∧ V.cell? ⟨w.heap.size, 8, none⟩ = some (i64 x.hold) ∧ V.cell? ⟨w.heap.size, 9, none⟩ = some (.string x.note)) V) := Lib.hid fun V hV => by
  have h1 := (hV.block d.p (H0.lt d.p (.inl (.inr (.inl rfl)))).2 (fun e => H0.ap.pa (BA.own_all e))).trans H0.cell
  have h2 := (hV.block w.heap.size (by omega) (fun e => by have := Hown.out _ e; omega)).trans ho0
  exact ⟨hV, cell_of_row _ d.p 0 _ _ (0, 0) h1, cell_of_row _ w.heap.size 0 _ _ (0, 0) h2, cell_of_row _ w.heap.size 1 _ _ (0, 0) h2, cell_of_row _ w.heap.size 2 _ _ (0, 0) h2, cell_of_row _ w.heap.size 3 _ _ (0, 0) h2, cell_of_row _ w.heap.size 4 _ _ (0, 0) h2, cell_of_row _ w.heap.size 5 _ _ (0, 0) h2, cell_of_row _ w.heap.size 6 _ _ (0, 0) h2, cell_of_row _ w.heap.size 7 _ _ (0, 0) h2, cell_of_row _ w.heap.size 8 _ _ (0, 0) h2, cell_of_row _ w.heap.size 9 _ _ (0, 0) h2⟩
 have H00 := Lib.hid H0
 have Ho0 := Lib.hid ho0
 have Hr0 := Lib.hid hr0
 have Hb0 := Lib.hid hb0
 clear H0 ho0 hr0 hb0 h hin hl hok hn
 go_cut [5] from 9 (fun s5 wx => ∃ g5, s5 = .pointer (some ⟨g5, 0, none⟩) ∧ wx.heap[g5]? = some (.cells #[i64 Rr.err, i64 Rr.hav, i64 Rr.set_, i64 Rr.num] 31 (0, 0)) ∧ W0.heap.size ≤ g5 ∧ BkA wx d.a B2 ∧ Gr W0 wx d.a.own)
 case first =>
  refine wp_region_noPanic ?_
  refine wp_region_l 7 (fun V : World => Gr W0 V d.a.own ∧ V.cell? ⟨d.p, 0, none⟩ = some d.a.ptr ∧ V.cell? ⟨w.heap.size, 0, none⟩ = some (i64 x.client) ∧ V.cell? ⟨w.heap.size, 1, none⟩ = some (i64 x.seq) ∧ V.cell? ⟨w.heap.size, 2, none⟩ = some (i64 x.kind) ∧ V.cell? ⟨w.heap.size, 3, none⟩ = some (.string x.acct) ∧ V.cell? ⟨w.heap.size, 4, none⟩ = some (.string x.peer) ∧ V.cell? ⟨w.heap.size, 5, none⟩ = some (i64 x.sum) ∧ V.cell? ⟨w.heap.size, 6, none⟩ = some (.slice x.la x.legs.length x.lc) ∧ V.cell? ⟨w.heap.size, 7, none⟩ = some (i64 x.period) ∧ V.cell? ⟨w.heap.size, 8, none⟩ = some (i64 x.hold) ∧ V.cell? ⟨w.heap.size, 9, none⟩ = some (.string x.note)) (by kernel_rfl) (HS.out _ (Gr.of_below (Below.refl W0.heap.size W0).drew d.a.own)) (fun hH => ?_)
  have hbd := (Below.refl W0.heap.size W0).drew
  generalize W0.drew = Wd at *
  refine tkZ 0 ?_; refine tkZ 1 ?_; refine tkZ 2 ?_; refine tkZ 3 ?_; refine tkZ 4 ?_
  refine wpAnyL_ready (rs := [5, 6]) (by kernel_rfl) (by simp) ?_
  refine AllReadyL.cons rfl (fun K hK => ?_) ?_
  ·skip
   have hbV := hbd
   go_simp
   go_at_call 12
   with_reducible refine (HD.out _ hbV).mono ?_
   rintro e w9 ⟨rfl, hB9, hG9⟩
   have hG := (Gr.of_below hbV d.a.own).after hG9
   have hsz9 := hG.size
   have HB9 := Lib.hid hB9
   clear hbV hB9 hG9
   refine hK.out _ _ (HS.out _ hG) (fun hH => ?_)
   clear hK K
   try simp only [Act.put, uA, uZ, uS, vA, vZ, vS]
   refine tkO 6 (fun K hK => ?_)
   go_simp
   have hal := heap_alloc_new w9 (.cells #[i64 0, i64 0, i64 0, i64 0] 31)
   have hG := hG.more ((Below.refl _ _).alloc (Nat.le_refl _) (.cells #[i64 0, i64 0, i64 0, i64 0] 31))
   refine hK.out _ _ (HS.out _ hG) (fun hH => ?_)
   clear hK K
   try simp only [Act.put, uA, uZ, uS, vA, vZ, vS]
   refine tkL (fun K hK => ?_)
   refine wp_store_row 31 (.tmp 5) (.tmp 17) rfl w9.heap.size #[i64 Rr.err, i64 Rr.hav, i64 Rr.set_, i64 Rr.num] rfl rfl 31 #[i64 0, i64 0, i64 0, i64 0] hal (by kernel_rfl) rfl (by simp [Value.oneCell']) ?_
   refine hK.out _ _ ?_
   clear hK K
   try simp only [Act.put, uA, uZ, uS]
   refine tkD ?_
   have hrow := setRow_heap _ w9.heap.size _ #[i64 Rr.err, i64 Rr.hav, i64 Rr.set_, i64 Rr.num] _ _ hal
   have hgl : W0.heap.size ≤ w9.heap.size := hsz9
   have hna : ∀ k, d.a.all k → k ≠ w9.heap.size := fun k hk e => by have := Hall.out k hk; omega
   have hB8 := HB9.out.later ((Below.refl _ _).alloc (Nat.le_refl _) (.cells #[i64 0, i64 0, i64 0, i64 0] 31))
   have hB7 := hB8.row hna #[i64 Rr.err, i64 Rr.hav, i64 Rr.set_, i64 Rr.num]
   have hG7 := hG.own_row hgl #[i64 Rr.err, i64 Rr.hav, i64 Rr.set_, i64 Rr.num]
   clear hH HS hG hB8
   go_wp2_with fail
   go_meet
   exact ⟨w9.heap.size, rfl, hrow, hgl, hB7, hG7⟩
  refine AllReadyL.cons rfl (fun K hK => ?_) ?_
  ·skip
   go_simp
   have hal := heap_alloc_new Wd (.cells #[i64 0, i64 0, i64 0, i64 0] 31)
   refine hK.out _ _ (HS.out _ (Gr.of_below (hbd.alloc hbd.size (.cells #[i64 0, i64 0, i64 0, i64 0] 31)) d.a.own)) (fun hH => ?_)
   clear hK K
   try simp only [Act.put, uA, uZ, uS, vA, vZ, vS]
   refine tkO 5 (fun K hK => ?_)
   have hbV := hbd.alloc hbd.size (.cells #[i64 0, i64 0, i64 0, i64 0] 31)
   go_simp
   go_at_call 12
   with_reducible refine (HD.out _ hbV).mono ?_
   rintro e w9 ⟨rfl, hB9, hG9⟩
   have hG := (Gr.of_below hbV d.a.own).after hG9
   have hsz9 := hG.size
   have hal := (hG9.block Wd.heap.size (by simp) (fun e => by have h8 := (Hown.out _ e); have h9 := hbd.size; omega)).trans hal
   have HB9 := Lib.hid hB9
   clear hbV hB9 hG9
   refine hK.out _ _ (HS.out _ hG) (fun hH => ?_)
   clear hK K
   try simp only [Act.put, uA, uZ, uS, vA, vZ, vS]
   refine tkL (fun K hK => ?_)
   refine wp_store_row 31 (.tmp 5) (.tmp 17) rfl Wd.heap.size #[i64 Rr.err, i64 Rr.hav, i64 Rr.set_, i64 Rr.num] rfl rfl 31 #[i64 0, i64 0, i64 0, i64 0] hal (by kernel_rfl) rfl (by simp [Value.oneCell']) ?_
   refine hK.out _ _ ?_
   clear hK K
   try simp only [Act.put, uA, uZ, uS]
   refine tkD ?_
   have hrow := setRow_heap _ Wd.heap.size _ #[i64 Rr.err, i64 Rr.hav, i64 Rr.set_, i64 Rr.num] _ _ hal
   have hgl : W0.heap.size ≤ Wd.heap.size := hbd.size
   have hna : ∀ k, d.a.all k → k ≠ Wd.heap.size := fun k hk e => by have := Hall.out k hk; omega
   have hB8 := HB9.out
   have hB7 := hB8.row hna #[i64 Rr.err, i64 Rr.hav, i64 Rr.set_, i64 Rr.num]
   have hG7 := hG.own_row hgl #[i64 Rr.err, i64 Rr.hav, i64 Rr.set_, i64 Rr.num]
   clear hH HS hG hB8
   go_wp2_with fail
   go_meet
   exact ⟨Wd.heap.size, rfl, hrow, hgl, hB7, hG7⟩
  exact AllReadyL.nil
 case rest =>
  obtain ⟨g5, rfl, hg5, hl5, hB2, hG2⟩ := hcut
  obtain ⟨w2, rfl⟩ : ∃ w2, w2 = wc := ⟨wc, rfl⟩
  have hK2 := H00.out.book hB2 hG2
  have ho2 := (hG2.block w.heap.size (by omega) (fun e => by have := Hown.out _ e; omega)).trans Ho0.out
  have hr2 := (hG2.block (w.heap.size + 1) (by omega) (fun e => by have := Hown.out _ e; omega)).trans Hr0.out
  have k0 := cell_of_row _ g5 0 _ _ (0, 0) hg5
  have k1 := cell_of_row _ g5 1 _ _ (0, 0) hg5
  have k2 := cell_of_row _ g5 2 _ _ (0, 0) hg5
  have k3 := cell_of_row _ g5 3 _ _ (0, 0) hg5
  simp only [List.getElem?_toArray, List.getElem?_cons_zero, List.getElem?_cons_succ] at k0 k1 k2 k3
  have hGw : Gr w w2 (d.all T R) := ((Gr.of_below Hb0.out (d.all T R)).after (hG2.mono fun j _ e => .inl (.inl (BA.own_all e))))
  by_cases he : Rr.err = 0
  ·have e1 : (Rr.err == 0) = true := by simpa using he
   have e2 : (Rr.err != 0) = false := by simp [he]
   have e3 : decide (Rr.err = 0) = true := decide_eq_true he
   have HE1 := Lib.hid (HE.out he)
   have HTt := Lib.hid (HT.out w2 hGw)
   have HK2 := Lib.hid hK2
   have HGw := Lib.hid hGw
   have Ho2 := Lib.hid ho2
   have Hr2 := Lib.hid hr2
   have Hg5 := Lib.hid hg5
   have hw2 := hGw.size
   have hl2 : W0.heap.size ≤ w2.heap.size := hG2.size
   have hl5b : g5 < w2.heap.size := (Array.getElem?_eq_some_iff.1 hg5).1
   have o0 := cell_of_row _ w.heap.size 0 _ _ (0, 0) Ho2.out
   have o1 := cell_of_row _ w.heap.size 1 _ _ (0, 0) Ho2.out
   have o2 := cell_of_row _ w.heap.size 2 _ _ (0, 0) Ho2.out
   have o3 := cell_of_row _ w.heap.size 3 _ _ (0, 0) Ho2.out
   have o4 := cell_of_row _ w.heap.size 4 _ _ (0, 0) Ho2.out
   have o5 := cell_of_row _ w.heap.size 5 _ _ (0, 0) Ho2.out
   have o6 := cell_of_row _ w.heap.size 6 _ _ (0, 0) Ho2.out
   have o7 := cell_of_row _ w.heap.size 7 _ _ (0, 0) Ho2.out
   have o8 := cell_of_row _ w.heap.size 8 _ _ (0, 0) Ho2.out
   have o9 := cell_of_row _ w.heap.size 9 _ _ (0, 0) Ho2.out
   simp only [List.getElem?_toArray, List.getElem?_cons_zero, List.getElem?_cons_succ] at o0 o1 o2 o3 o4 o5 o6 o7 o8 o9
   clear he hK2 hB2 hG2 hGw HS H00 HD HT HE HE0 hg5 hr2 ho2
   go_wp2_with fail
   refine HTt.out.mono ?_
   rintro e w3 ⟨vt, rfl, hOt, hF3⟩
   obtain ⟨At, ct, rfl, hst⟩ := hOt.sl_at (S := fun b => b < w3.heap.size ∧ ¬ d.all T R b) (fun b e => ⟨(hOt.1.lt b e).2, fun e2 => by have h1 := (hOt.1.lt b e).1; have h2 := (Hlt.out b e2).2; omega⟩) (fun y hy => hOt.2 y hy)
   have hK3 := HK2.out.later hF3
   have HAc := Lib.hid (baccts_c d.a B2 w3 hK3.bk HI2.out)
   have c0 := hK3.c0
   have hw3 := hF3.size
   have Hst := Lib.hid hst
   have HK3 := Lib.hid hK3
   have HF3 := Lib.hid hF3
   clear hOt hst hK3 hF3 HTt o0 o1 o2 o3 o4 o5 o6 o7 o8 o9
   go_wp2_with fail
   refine HAc.out.mono ?_
   rintro e w4 ⟨va, rfl, hOa, hF4⟩
   obtain ⟨Aa, ca, rfl, hsa⟩ := hOa.sl_at (S := fun b => b < w4.heap.size ∧ ¬ d.all T R b) (fun b e => ⟨(hOa.1.lt b e).2, fun e2 => by have h1 := (hOa.1.lt b e).1; have h2 := (Hlt.out b e2).2; omega⟩) (fun y hy => hOa.2 y hy)
   have hK4 := HK3.out.later hF4
   have hw4 := hF4.size
   have Hsa := Lib.hid hsa
   have Hst4 := Lib.hid (Hst.out.keep (fun p hp => hF4.cell hp.1) (fun b hb => (⟨Nat.lt_of_lt_of_le hb.1 hw4, hb.2⟩ : b < w4.heap.size ∧ ¬ d.all T R b)))
   have hF24 := HF3.out.trans (hF4.mono hw3)
   have Ho4 := Lib.hid ((hF24.block w.heap.size (by omega)).trans Ho2.out)
   have Hr4 := Lib.hid ((hF24.block (w.heap.size + 1) (by omega)).trans Hr2.out)
   have Hg4 := Lib.hid ((hF24.block g5 hl5b).trans Hg5.out)
   have HG4 := Lib.hid (HGw.out.more hF24)
   have hLn : B2.L.length ≤ 12 := HI2.out.len
   clear hOa hsa hF4 hF24 HAc HK3 HF3 Hst HGw Ho2 Hr2 Hg5 k0 k1 k2 k3 c0
   go_wp2_with fail
   go_loopw [30] (fun iv wr => ∃ (n : Nat) (T2 : EvT), iv = i64 n ∧ n ≤ B2.L.length ∧ DkA wr base d B2 T2 R ∧ Hid (∀ k, T2.get k = T.get k ++ evN x (B2.L.take n) k) ∧ Gr w4 wr (d.all T R) ∧ Hid (∀ g, T2.rows g → T.rows g ∨ w4.heap.size ≤ g)) (fun iv _ => B2.L.length - (intOf iv).toNat)
   case atStart => exact ⟨0, T, rfl, Nat.zero_le _, hK4, Lib.hid (fun k => by rw [List.take_zero]; unfold evN; split <;> simp), Gr.refl _ _, Lib.hid (fun g hg => .inl hg)⟩
   case round =>
    clear hK4
    obtain ⟨n, T2, rfl, hnL, hK, Hget, hGr, Hrows⟩ := hrel
    have hwr := hGr.size
    by_cases hlt : n < B2.L.length
    ·have g1 : decide ((n : Int) < (B2.L.length : Int)) = true := decide_eq_true (by omega)
     have g2 : decide (n < B2.L.length) = true := decide_eq_true hlt
     have i0 : (0 : Int) ≤ (n : Int) := by omega
     have i1 : (n : Int) < (B2.L.length : Int) := by omega
     have hsr := Hsa.out.grs hGr (fun b hb => hb)
     have hac : B2.L.length ≤ ca := hsr.1
     obtain ⟨ba, oa, rfl, -, -, a0, a1, a2, a3⟩ := hsr.acc hlt
     have Hstep := Lib.hid (fun k => show evN x (B2.L.take (n + 1)) k = _ by rw [List.take_succ_eq_append_getElem hlt, evN_snoc])
     obtain ⟨ac, hac2⟩ : ∃ ac, B2.L[n] = ac := ⟨_, rfl⟩
     simp only [hac2] at a0 a1 a2 a3 Hstep
     clear hac2 hsr
     have hba := (Below.refl wr.heap.size wr).alloc (Nat.le_refl _) (.cells #[.string ac.name, i64 ac.hav, i64 ac.set_, i64 ac.lim] 140)
     have hza : (wr.alloc (.cells #[.string ac.name, i64 ac.hav, i64 ac.set_, i64 ac.lim] 140)).heap.size = wr.heap.size + 1 := by simp
     have hal := heap_alloc_new wr (.cells #[.string ac.name, i64 ac.hav, i64 ac.set_, i64 ac.lim] 140)
     have HCn : Hid (Calls Tryz.prog 73 #[.slice At (touches x).length ct, .string ac.name] (wr.alloc (.cells #[.string ac.name, i64 ac.hav, i64 ac.set_, i64 ac.lim] 140)) fun e w' => e = .returned (.bool (nmB x ac.name)) ∧ Below (wr.alloc (.cells #[.string ac.name, i64 ac.hav, i64 ac.set_, i64 ac.lim] 140)).heap.size (wr.alloc (.cells #[.string ac.name, i64 ac.hav, i64 ac.set_, i64 ac.lim] 140)) w') := Lib.hid (contains_str At ct (touches x) ac.name _ (((Hst4.out.grs hGr (fun b hb => hb)).keep (fun p hp => hba.cell (Nat.lt_of_lt_of_le hp.1 hwr)) (fun b hb => hb)).mono (fun b hb => by have h1 := hb.1; omega)) (Nat.le_trans Htl.out (by decide)))
     have s0 := cell_of_row _ wr.heap.size 0 _ _ (0, 0) hal
     simp only [List.getElem?_toArray, List.getElem?_cons_zero] at s0
     have HKa := Lib.hid (hK.later hba)
     have Hal := Lib.hid hal
     have Hrlt := Lib.hid (fun g (hg : T2.rows g) => hK.ev.rows_lt hg)
     clear hK hal
     go_wp2_with fail
     refine HCn.out.mono ?_
     rintro e w5 ⟨rfl, hF5⟩
     have hK5 := HKa.out.later hF5
     have hb5 := hba.trans (hF5.mono (by omega))
     have hG5 := hGr.more hb5
     have hw5 := hF5.size
     have Hal5 := Lib.hid ((hF5.block wr.heap.size (by omega)).trans Hal.out)
     clear HKa Hal HCn hF5 hba a0 a1 a2 a3 s0
     cases hnm : nmB x ac.name
     ·have Hst5 := Lib.hid (fun k => show T2.get k = T.get k ++ evN x (B2.L.take (n + 1)) k by rw [Hget.out, Hstep.out, if_neg (by rw [hnm]; simp), List.append_nil])
      clear hnm Hget Hstep
      go_wp2
      go_roundw
      case rel => exact ⟨n + 1, T2, by go_num, by omega, hK5, Hst5, hG5, Hrows⟩
      case measure => simp [intOf]; omega
     ·have HVo := Lib.hid (hK5.ev.val_own ac.name)
      have HVr := Lib.hid (fun j (e : (T2.val ac.name).ownBlock = some j) => hK5.ev.val_row ac.name e)
      have Hlen := Lib.hid (show (T2.get ac.name).length + 1 ≤ 4294967296 by
       rw [Hget.out, List.length_append]
       have h1 := evN_len x (B2.L.take n) ac.name
       rw [List.length_take] at h1
       have h2 := Hn.out ac.name
       omega)
      have HMp := Lib.hid hK5.ev.map
      have Hbe := Lib.hid (show ¬ T2.rows d.be from fun e => hK5.out _ e (.inr (.inr (.inl rfl))))
      have hB5 : base ≤ w5.heap.size := by omega
      have Hst5 := Lib.hid (fun (v : Value) k => show EvT.get (putM T2 ac.name (v, T2.get ac.name ++ [evA x ac])) k = T.get k ++ evN x (B2.L.take (n + 1)) k by
       rw [EvT.get_put, Hstep.out]
       by_cases e : ac.name = k
       ·rw [if_pos e, if_pos ⟨hnm, e⟩, ← e, Hget.out, List.append_assoc]
       ·rw [if_neg e, if_neg (fun h => e h.2), Hget.out, List.append_nil])
      have Ho5 := Lib.hid ((hG5.block w.heap.size (by omega) (fun e => by have := (Hlt.out _ e).2; omega)).trans Ho4.out)
      have HS : Hid (∀ V, Gr w5 V T2.rows → (fun V : World => Gr w5 V T2.rows ∧ V.cell? ⟨d.p, 1, none⟩ = some (.map (some d.be)) ∧ (V.cell? ⟨wr.heap.size, 0, none⟩ = some (.string ac.name) ∧ V.cell? ⟨wr.heap.size, 1, none⟩ = some (i64 ac.hav) ∧ V.cell? ⟨wr.heap.size, 2, none⟩ = some (i64 ac.set_)) ∧ V.cell? ⟨w.heap.size, 0, none⟩ = some (i64 x.client) ∧ V.cell? ⟨w.heap.size, 1, none⟩ = some (i64 x.seq) ∧ V.cell? ⟨w.heap.size, 2, none⟩ = some (i64 x.kind) ∧ (Instr.lookup 149 (.map (some d.be)) (.string ac.name) false).run Tryz.prog V = .ok (T2.val ac.name) V) V) := Lib.hid fun V hV => by
       have hp := (hV.block d.p (hK5.lt d.p (.inl (.inr (.inl rfl)))).2 (fun e => hK5.out _ e (.inr (.inl rfl)))).trans hK5.cell
       have ha := (hV.block wr.heap.size (by omega) (fun e => by have := (Hrlt.out _ e).2; omega)).trans Hal5.out
       have ho := (hV.block w.heap.size (by omega) (fun e => by
        rcases Hrows.out _ e with e | e
        ·have := (Hlt.out _ (.inr e)).2; omega
        ·omega)).trans Ho5.out
       have hm := hK5.ev.map.gr hV Hbe.out
       have hlk := run_lookup (P := Tryz.prog) strKey Tryz.underlying149 hm ac.name (.slice none 0 0) (by kernel_rfl) false
       rw [EvT.ents_get] at hlk
       exact ⟨hV, cell_of_row _ d.p 1 _ _ (0, 0) hp, ⟨cell_of_row _ wr.heap.size 0 _ _ (0, 0) ha, cell_of_row _ wr.heap.size 1 _ _ (0, 0) ha, cell_of_row _ wr.heap.size 2 _ _ (0, 0) ha⟩, cell_of_row _ w.heap.size 0 _ _ (0, 0) ho, cell_of_row _ w.heap.size 1 _ _ (0, 0) ho, cell_of_row _ w.heap.size 2 _ _ (0, 0) ho, hlk⟩
      have HK5 := Lib.hid hK5
      have HG5 := Lib.hid hG5
      clear hnm Hget Hstep hK5 hG5 hGr hb5
      go_upto_region 11 with fail
      refine wp_region_noPanic ?_
      refine wp_region_l 24 (fun V : World => Gr w5 V T2.rows ∧ V.cell? ⟨d.p, 1, none⟩ = some (.map (some d.be)) ∧ (V.cell? ⟨wr.heap.size, 0, none⟩ = some (.string ac.name) ∧ V.cell? ⟨wr.heap.size, 1, none⟩ = some (i64 ac.hav) ∧ V.cell? ⟨wr.heap.size, 2, none⟩ = some (i64 ac.set_)) ∧ V.cell? ⟨w.heap.size, 0, none⟩ = some (i64 x.client) ∧ V.cell? ⟨w.heap.size, 1, none⟩ = some (i64 x.seq) ∧ V.cell? ⟨w.heap.size, 2, none⟩ = some (i64 x.kind) ∧ (Instr.lookup 149 (.map (some d.be)) (.string ac.name) false).run Tryz.prog V = .ok (T2.val ac.name) V) (by kernel_rfl) (HS.out _ (Gr.of_below (Below.refl w5.heap.size w5).drew T2.rows)) (fun hH => ?_)
      have hbd := (Below.refl w5.heap.size w5).drew
      generalize w5.drew = Wd at *
      refine tkY 0 (v := ?v20006) ?y20006 ?r20006
      case y20006 => (intro W hSW; obtain ⟨hV0, pd, ⟨s0, s1, s2⟩, u0, u1, u2, hlk⟩ := hSW; go_simp; try with_reducible rfl)
      try simp only [List.set]
      refine tkY 1 (v := ?v20007) ?y20007 ?r20007
      case y20007 => (intro W hSW; obtain ⟨hV0, pd, ⟨s0, s1, s2⟩, u0, u1, u2, hlk⟩ := hSW; go_simp; try with_reducible rfl)
      try simp only [List.set]
      refine tkY 2 (v := ?v20008) ?y20008 ?r20008
      case y20008 => (intro W hSW; obtain ⟨hV0, pd, ⟨s0, s1, s2⟩, u0, u1, u2, hlk⟩ := hSW; go_simp; try with_reducible rfl)
      try simp only [List.set]
      refine tkY 3 (v := ?v20009) ?y20009 ?r20009
      case y20009 => (intro W hSW; obtain ⟨hV0, pd, ⟨s0, s1, s2⟩, u0, u1, u2, hlk⟩ := hSW; go_simp; try with_reducible rfl)
      try simp only [List.set]
      refine tkY 4 (v := ?v20010) ?y20010 ?r20010
      case y20010 => (intro W hSW; obtain ⟨hV0, pd, ⟨s0, s1, s2⟩, u0, u1, u2, hlk⟩ := hSW; go_simp; try with_reducible rfl)
      try simp only [List.set]
      refine tkY 5 (v := ?v20011) ?y20011 ?r20011
      case y20011 => (intro W hSW; obtain ⟨hV0, pd, ⟨s0, s1, s2⟩, u0, u1, u2, hlk⟩ := hSW; go_simp; try with_reducible rfl)
      try simp only [List.set]
      refine tkY 6 (v := ?v20012) ?y20012 ?r20012
      case y20012 => (intro W hSW; obtain ⟨hV0, pd, ⟨s0, s1, s2⟩, u0, u1, u2, hlk⟩ := hSW; go_simp; try with_reducible rfl)
      try simp only [List.set]
      refine tkY 7 (v := ?v20013) ?y20013 ?r20013
      case y20013 => (intro W hSW; obtain ⟨hV0, pd, ⟨s0, s1, s2⟩, u0, u1, u2, hlk⟩ := hSW; go_simp; try with_reducible rfl)
      try simp only [List.set]
      refine tkY 8 (v := ?v20014) ?y20014 ?r20014
      case y20014 => (intro W hSW; obtain ⟨hV0, pd, ⟨s0, s1, s2⟩, u0, u1, u2, hlk⟩ := hSW; go_simp; try with_reducible rfl)
      try simp only [List.set]
      refine tkY 9 (v := ?v20015) ?y20015 ?r20015
      case y20015 => (intro W hSW; obtain ⟨hV0, pd, ⟨s0, s1, s2⟩, u0, u1, u2, hlk⟩ := hSW; go_simp; try with_reducible rfl)
      try simp only [List.set]
      refine tkY 10 (v := ?v20016) ?y20016 ?r20016
      case y20016 => (intro W hSW; obtain ⟨hV0, pd, ⟨s0, s1, s2⟩, u0, u1, u2, hlk⟩ := hSW; go_simp; try with_reducible rfl)
      try simp only [List.set]
      refine tkY 11 (v := ?v20017) ?y20017 ?r20017
      case y20017 => (intro W hSW; obtain ⟨hV0, pd, ⟨s0, s1, s2⟩, u0, u1, u2, hlk⟩ := hSW; go_simp; try with_reducible rfl)
      try simp only [List.set]
      refine tkY 12 (v := ?v20018) ?y20018 ?r20018
      case y20018 => (intro W hSW; obtain ⟨hV0, pd, ⟨s0, s1, s2⟩, u0, u1, u2, hlk⟩ := hSW; go_simp; try with_reducible rfl)
      try simp only [List.set]
      refine tkY 13 (v := ?v20019) ?y20019 ?r20019
      case y20019 => (intro W hSW; obtain ⟨hV0, pd, ⟨s0, s1, s2⟩, u0, u1, u2, hlk⟩ := hSW; go_simp; try with_reducible rfl)
      try simp only [List.set]
      refine tkY 14 (v := ?v20020) ?y20020 ?r20020
      case y20020 => (intro W hSW; obtain ⟨hV0, pd, ⟨s0, s1, s2⟩, u0, u1, u2, hlk⟩ := hSW; go_simp; try with_reducible rfl)
      try simp only [List.set]
      refine tkY 15 (v := ?v20021) ?y20021 ?r20021
      case y20021 => (intro W hSW; obtain ⟨hV0, pd, ⟨s0, s1, s2⟩, u0, u1, u2, hlk⟩ := hSW; go_simp; try with_reducible rfl)
      try simp only [List.set]
      refine tkY 16 (v := ?v20022) ?y20022 ?r20022
      case y20022 => (intro W hSW; obtain ⟨hV0, pd, ⟨s0, s1, s2⟩, u0, u1, u2, hlk⟩ := hSW; go_simp; try with_reducible rfl)
      try simp only [List.set]
      refine tkY 17 (v := ?v20023) ?y20023 ?r20023
      case y20023 => (intro W hSW; obtain ⟨hV0, pd, ⟨s0, s1, s2⟩, u0, u1, u2, hlk⟩ := hSW; go_simp; try with_reducible rfl)
      try simp only [List.set]
      refine tkY 18 (v := ?v20024) ?y20024 ?r20024
      case y20024 => (intro W hSW; obtain ⟨hV0, pd, ⟨s0, s1, s2⟩, u0, u1, u2, hlk⟩ := hSW; go_simp; try with_reducible rfl)
      try simp only [List.set]
      refine tkY 19 (v := ?v20025) ?y20025 ?r20025
      case y20025 => (intro W hSW; obtain ⟨hV0, pd, ⟨s0, s1, s2⟩, u0, u1, u2, hlk⟩ := hSW; go_simp; try with_reducible rfl)
      try simp only [List.set]
      refine tkY 20 (v := ?v20026) ?y20026 ?r20026
      case y20026 => (intro W hSW; obtain ⟨hV0, pd, ⟨s0, s1, s2⟩, u0, u1, u2, hlk⟩ := hSW; go_simp; try with_reducible rfl)
      try simp only [List.set]
      refine tkY 21 (v := ?v20027) ?y20027 ?r20027
      case y20027 => (intro W hSW; obtain ⟨hV0, pd, ⟨s0, s1, s2⟩, u0, u1, u2, hlk⟩ := hSW; go_simp; try with_reducible rfl)
      try simp only [List.set]
      refine tkO 22 (fun K hK => ?_)
      go_simp
      have hgl := heap_alloc_new Wd (.cells #[i64 x.client, i64 x.seq, i64 x.kind, i64 ac.hav, i64 ac.set_] 148)
      have hG1 := Gr.of_below (hbd.alloc hbd.size (.cells #[i64 x.client, i64 x.seq, i64 x.kind, i64 ac.hav, i64 ac.set_] 148)) T2.rows
      have HOv := Lib.hid ((HVo.out.later hbd).later ((Below.refl Wd.heap.size Wd).alloc (Nat.le_refl _) (.cells #[i64 x.client, i64 x.seq, i64 x.kind, i64 ac.hav, i64 ac.set_] 148)))
      refine hK.out _ _ (HS.out _ hG1) (fun hH => ?_)
      clear hK K
      try simp only [Act.put, uA, uZ, uS, vA, vZ, vS]
      refine tkO 23 (fun K hK => ?_)
      refine oper_append_one (.tmp 50) (.tmp 60) 58 rfl _ 40 Tryz.underlying58 evInfo rfl (by decide) (by decide) rfl HOv.out Wd.heap.size (evA x ac) rfl _ 148 hgl rfl (fun e => by have := (HVo.out.1.lt _ e.symm).2; have h2 := hbd.size; omega) trivial Hlen.out (Nat.le_trans hB5 (Nat.le_trans hbd.size (by simp))) ?_
      intro v6 w6 hO6 hgr6 hat6
      have hG6 := hG1.after ((Gr.of_grown hgr6).mono (S' := T2.rows) fun j _ e => HVr.out j e)
      have HO6 := Lib.hid hO6
      have hmap6 := HMp.out.gr hG6 Hbe.out
      clear hO6
      refine hK.out _ _ (HS.out _ hG6) (fun hH => ?_)
      clear hK K
      try simp only [Act.put, uA, uZ, uS, vA, vZ, vS]
      refine tkL (fun K hK => ?_)
      obtain ⟨w7, hrun, hm7, hg7⟩ := run_put (P := Tryz.prog) strKey Tryz.underlying149 hmap6 ac.name v6
      go_simp
      refine hK.out _ _ ?_
      clear hK K
      try simp only [Act.put, uA, uZ, uS, vA, vZ, vS]
      refine tkD ?_
      have hK7 := HK5.out.event ac.name HO6.out (grown_trans (grown_of_below (hbd.alloc hbd.size (.cells #[i64 x.client, i64 x.seq, i64 x.kind, i64 ac.hav, i64 ac.set_] 148)) _) hgr6) (hat6.imp id (fun e => ⟨_, e, Nat.le_trans hbd.size (by simp)⟩)) hm7 hg7
      clear hH HS
      obtain ⟨hK7, hG7, hr7⟩ := hK7
      have hG8 := HG5.out.trans hG7 (fun j hj => by
       rcases hj with hj | hj
       ·exact .inl (.inl hj)
       ·exact (Hrows.out j hj).imp (fun e => .inr e) id)
      have Hr8 := Lib.hid (fun g hg => show T.rows g ∨ w4.heap.size ≤ g from (hr7 g hg).elim (fun e => Hrows.out g e) (fun e => .inr (by omega)))
      have Hst8 := Lib.hid (Hst5.out v6)
      clear hG1 hG6 hgr6 hat6 hm7 hg7 hr7 hrun hmap6 hG7
      go_wp2
      go_roundw
      case rel => exact ⟨n + 1, _, by go_num, by omega, hK7, Hst8, hG8, Hr8⟩
      case measure => simp [intOf]; omega
    ·obtain rfl : n = B2.L.length := by omega
     have g1 : decide ((B2.L.length : Int) < (B2.L.length : Int)) = false := decide_eq_false (by omega)
     have Hfin := Lib.hid (fun k => show T2.get k = T.get k ++ evD B x k by rw [Hget.out, List.take_length, HE1.out])
     have hr9 := (hGr.block (w.heap.size + 1) (by omega) (fun e => by have := (Hlt.out _ e).2; omega)).trans Hr4.out
     have hg9 := (hGr.block g5 (by omega) (fun e => by have := (Hlt.out _ e).2; omega)).trans Hg4.out
     have q0 := cell_of_row _ g5 0 _ _ (0, 0) hg9
     have q1 := cell_of_row _ g5 1 _ _ (0, 0) hg9
     have q2 := cell_of_row _ g5 2 _ _ (0, 0) hg9
     have q3 := cell_of_row _ g5 3 _ _ (0, 0) hg9
     simp only [List.getElem?_toArray, List.getElem?_cons_zero, List.getElem?_cons_succ] at q0 q1 q2 q3
     have hrow := setRow_heap wr (w.heap.size + 1) _ #[i64 Rr.err, i64 Rr.hav, i64 Rr.set_, i64 Rr.num] _ _ hr9
     have HK9 := Lib.hid (hK.kept (gr_setRow wr (w.heap.size + 1) #[i64 Rr.err, i64 Rr.hav, i64 Rr.set_, i64 Rr.num]) (fun j hj e => by
      rcases hj with hj | hj
      ·have := (Hlt.out j (.inl hj)).2; omega
      ·rcases Hrows.out j hj with e2 | e2
       ·have := (Hlt.out j (.inr e2)).2; omega
       ·omega))
     have HG9 := Lib.hid ((HG4.out.after hGr).own_row (g := w.heap.size + 1) (Nat.le_succ _) #[i64 Rr.err, i64 Rr.hav, i64 Rr.set_, i64 Rr.num])
     have Hrw := Lib.hid (fun g (hg : T2.rows g) => show T.rows g ∨ w.heap.size ≤ g from (Hrows.out g hg).imp id (fun e => by omega))
     clear hK hGr Hget hg9
     go_wp2_with (refine wpList_store_row rfl 31 (.tmp 4) (.tmp 63) rfl (w.heap.size + 1) #[i64 Rr.err, i64 Rr.hav, i64 Rr.set_, i64 Rr.num] rfl rfl 31 #[i64 0, i64 0, i64 0, i64 0] hr9 (by kernel_rfl) rfl (by simp [Value.oneCell']) ?_)
     exact bodyPost_ret (results_cell_row rfl _ _ (w.heap.size + 1) 31 _ (0, 0) _ rfl hrow Tryz.underlying31 rfl (by kernel_rfl)) rfl ⟨rfl, T2, HK9.out, Hfin.out, HG9.out, Hrw.out⟩
  ·have e1 : (Rr.err == 0) = false := by simpa using he
   have e2 : (Rr.err != 0) = true := by simpa using he
   have e3 : decide (Rr.err = 0) = false := decide_eq_false he
   have HE1 := Lib.hid (HE0.out he)
   have hrow := setRow_heap w2 (w.heap.size + 1) _ #[i64 Rr.err, i64 Rr.hav, i64 Rr.set_, i64 Rr.num] _ _ hr2
   have hK3 := hK2.kept (gr_setRow w2 (w.heap.size + 1) #[i64 Rr.err, i64 Rr.hav, i64 Rr.set_, i64 Rr.num]) (fun j hj e => by have := (Hlt.out j hj).2; omega)
   have HG3 := Lib.hid (hGw.own_row (g := w.heap.size + 1) (Nat.le_succ _) #[i64 Rr.err, i64 Rr.hav, i64 Rr.set_, i64 Rr.num])
   have HK3 := Lib.hid hK3
   clear he hK3 hK2 hB2 hG2 hGw HS H00 HD HT HE HE0
   go_wp2_with (refine wpList_store_row rfl 31 (.tmp 4) (.tmp 21) rfl (w.heap.size + 1) #[i64 Rr.err, i64 Rr.hav, i64 Rr.set_, i64 Rr.num] rfl rfl 31 #[i64 0, i64 0, i64 0, i64 0] hr2 (by kernel_rfl) rfl (by simp [Value.oneCell']) ?_)
   exact bodyPost_ret (results_cell_row rfl _ _ (w.heap.size + 1) 31 _ (0, 0) _ rfl hrow Tryz.underlying31 rfl (by kernel_rfl)) rfl ⟨rfl, T, HK3.out, fun k => by rw [HE1.out k, List.append_nil], HG3.out, fun g hg => .inl hg⟩
set_option maxRecDepth 100000 in
set_option maxHeartbeats 8000000 in
theorem sevents_c (A : Option Addr) (c : Nat) (l : List Od) (k : ByteArray) (w : World) (h : Sl w w.heap.size A c l) (hx : ∀ x ∈ l, OdB x) (hl : ∀ x ∈ l, x.legs.length ≤ 10) (hn : l.length ≤ 60000) :
  Calls Tryz.prog 35 #[.slice A l.length c, .string k] w fun e w' => ∃ v, e = .returned v ∧ Own w' w.heap.size 148 v (evL bk0 l k) ∧ Below w.heap.size w w' := by
 have hN := Lib.hid (snew_c w)
 have H := Lib.hid h
 have Hx := Lib.hid hx
 have Hl := Lib.hid hl
 have hlc : l.length ≤ c := h.1
 clear h hx hl
 go_enter Tryz.func35, Tryz.ntmps35
 go_wp2_with fail
 refine hN.out.mono ?_
 rintro e w1 ⟨d, rfl, hK0, hF⟩
 clear hN
 go_wp2_with fail
 go_loopw [11] (fun iv wr => ∃ (n : Nat) (T : EvT), iv = i64 n ∧ n ≤ l.length ∧ DkA wr w.heap.size d (foldL bk0 (l.take n)) T [] ∧ InvB (foldL bk0 (l.take n)) ∧ Hid (∀ k, T.get k = evL bk0 (l.take n) k) ∧ Below w.heap.size w wr) (fun iv _ => l.length - (intOf iv).toNat)
 case atStart => exact ⟨0, [], rfl, Nat.zero_le _, hK0, inv_bk0, Lib.hid (fun k => rfl), hF⟩
 case round =>
  clear hK0 hF
  obtain ⟨n, T, rfl, hnl, hK, hI, Hget, hb⟩ := hrel
  by_cases hlt : n < l.length
  ·have g1 : decide ((n : Int) < (l.length : Int)) = true := decide_eq_true (by omega)
   have g2 : decide (n < l.length) = true := decide_eq_true hlt
   have i0 : (0 : Int) ≤ (n : Int) := by omega
   have i1 : (n : Int) < (l.length : Int) := by omega
   have hlw := H.out.below hb
   obtain ⟨b, o, rfl, hbb, hokx, c0, c1, c2, c3, c4, c5, c6, c7, c8, c9⟩ := hlw.od hlt
   have HF := Lib.hid (show foldL bk0 (l.take (n + 1)) = (doL (foldL bk0 (l.take n)) l[n]).2 by rw [List.take_succ_eq_append_getElem hlt, foldL_snoc])
   have HE := Lib.hid (fun k => show evL bk0 (l.take (n + 1)) k = evL bk0 (l.take n) k ++ evD (foldL bk0 (l.take n)) l[n] k by rw [List.take_succ_eq_append_getElem hlt, evL_snoc])
   have hxo := Hx.out l[n] (List.getElem_mem hlt)
   have hlo := Hl.out l[n] (List.getElem_mem hlt)
   have Hlen := Lib.hid (fun k => show (T.get k).length ≤ 60000 by
    rw [Hget.out]
    have h1 := evL_le inv_bk0 k (l.take n) (fun x hx => Hx.out x (List.mem_of_mem_take hx))
    rw [List.length_take] at h1
    omega)
   have hI2 := Lib.hid (hI.do_ hxo)
   generalize foldL bk0 (l.take n) = B at *
   obtain ⟨x, hxk⟩ : ∃ x, l[n] = x := ⟨_, rfl⟩
   rw [hxk] at c0 c1 c2 c3 c4 c5 c6 c7 c8 c9 hxo hlo hokx hI2
   have HF2 := Lib.hid (show foldL bk0 (l.take (n + 1)) = (doL B x).2 by rw [HF.out, hxk])
   have HE2 := Lib.hid (fun k => show evL bk0 (l.take (n + 1)) k = evL bk0 (l.take n) k ++ evD B x k by rw [HE.out, hxk])
   clear HF HE hxk
   have hba := (Below.refl wr.heap.size wr).alloc (Nat.le_refl _) (.cells #[i64 x.client, i64 x.seq, i64 x.kind, .string x.acct, .string x.peer, i64 x.sum, .slice x.la x.legs.length x.lc, i64 x.period, i64 x.hold, .string x.note] 37)
   have hob := heap_alloc_new wr (.cells #[i64 x.client, i64 x.seq, i64 x.kind, .string x.acct, .string x.peer, i64 x.sum, .slice x.la x.legs.length x.lc, i64 x.period, i64 x.hold, .string x.note] 37)
   have hK1 := hK.later hba
   have hbs := hb.size
   have hzs : (wr.alloc (.cells #[i64 x.client, i64 x.seq, i64 x.kind, .string x.acct, .string x.peer, i64 x.sum, .slice x.la x.legs.length x.lc, i64 x.period, i64 x.hold, .string x.note] 37)).heap.size = wr.heap.size + 1 := by simp
   have hin : Od.Ok (wr.alloc (.cells #[i64 x.client, i64 x.seq, i64 x.kind, .string x.acct, .string x.peer, i64 x.sum, .slice x.la x.legs.length x.lc, i64 x.period, i64 x.hold, .string x.note] 37)) (fun k => k < (wr.alloc (.cells #[i64 x.client, i64 x.seq, i64 x.kind, .string x.acct, .string x.peer, i64 x.sum, .slice x.la x.legs.length x.lc, i64 x.period, i64 x.hold, .string x.note] 37)).heap.size ∧ ¬ d.all T [] k) x := Enc.keep (α := Od) hokx (fun p hp => hba.cell (Nat.lt_of_lt_of_le hp hbs)) (fun b hb => ⟨by omega, fun e => by have := (hK1.lt b e).1; omega⟩)
   have HD := Lib.hid (sdo_c x _ hK1 hI hxo hin hlo (by omega) Hlen.out)
   have HK1 := Lib.hid hK1
   have k0 := cell_of_row _ wr.heap.size 0 _ _ (0, 0) hob
   have k1 := cell_of_row _ wr.heap.size 1 _ _ (0, 0) hob
   have k2 := cell_of_row _ wr.heap.size 2 _ _ (0, 0) hob
   have k3 := cell_of_row _ wr.heap.size 3 _ _ (0, 0) hob
   have k4 := cell_of_row _ wr.heap.size 4 _ _ (0, 0) hob
   have k5 := cell_of_row _ wr.heap.size 5 _ _ (0, 0) hob
   have k6 := cell_of_row _ wr.heap.size 6 _ _ (0, 0) hob
   have k7 := cell_of_row _ wr.heap.size 7 _ _ (0, 0) hob
   have k8 := cell_of_row _ wr.heap.size 8 _ _ (0, 0) hob
   have k9 := cell_of_row _ wr.heap.size 9 _ _ (0, 0) hob
   simp only [List.getElem?_toArray, List.getElem?_cons_zero, List.getElem?_cons_succ] at k0 k1 k2 k3 k4 k5 k6 k7 k8 k9
   have hb1 := hb.alloc hbs (.cells #[i64 x.client, i64 x.seq, i64 x.kind, .string x.acct, .string x.peer, i64 x.sum, .slice x.la x.legs.length x.lc, i64 x.period, i64 x.hold, .string x.note] 37)
   clear hin hxo hokx hlo hI hK hK1 hba hob hlw hbb
   go_wp2_with fail
   refine HD.out.mono ?_
   rintro e w2 ⟨rfl, T2, hK2, hg2, hG2, -⟩
   have hb2 := hb1.trans (HK1.out.below hG2 (by omega))
   have Hg2 := Lib.hid (fun k => show T2.get k = evL bk0 (l.take (n + 1)) k by rw [hg2, Hget.out, HE2.out])
   rw [← HF2.out] at hK2 hI2
   clear HD HK1 hG2 hb1 hg2 HE2 HF2 Hget k0 k1 k2 k3 k4 k5 k6 k7 k8 k9 c0 c1 c2 c3 c4 c5 c6 c7 c8 c9
   go_wp2
   go_roundw
   case rel => exact ⟨n + 1, T2, by go_num, by omega, hK2, hI2.out, Hg2, hb2⟩
   case measure => simp [intOf]; omega
  ·obtain rfl : n = l.length := by omega
   have g1 : decide ((l.length : Int) < (l.length : Int)) = false := decide_eq_false (by omega)
   have Hgk := Lib.hid (show T.get k = evL bk0 l k by rw [Hget.out, List.take_length])
   have HO := Lib.hid (sof_c k wr hK (by
    rw [Hgk.out]
    exact Nat.le_trans (evL_le inv_bk0 k l Hx.out) (by omega)))
   clear hK hI Hget
   go_wp2_with fail
   refine HO.out.mono ?_
   rintro e w2 ⟨v, rfl, hO, hF⟩
   have hb2 := below_on hb (Nat.le_refl _) hF
   rw [Hgk.out] at hO
   have HO2 := Lib.hid (hO.mono hb.size)
   clear hO HO
   go_wp2
   go_ret
   exact ⟨v, rfl, HO2.out, hb2⟩
end Go.Proofs.YtampniiehgimhaaGreat
