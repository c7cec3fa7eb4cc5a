/- Texts of this claim, laid together: Book. -/
import Derived.Test.YtampniiehgimhaaGreatRows
import Derived.Test.YtampniiehgimhaaGreatBn9
import Derived.Test.YtampniiehgimhaaGreatBn4
import Derived.Laws.Tables
import Derived.Laws.CopyOwn
import Derived.WalkKit
import Derived.WalkSpells
import Derived.WalkLawsBesides
import Derived.Deep.QuietTactic
import Derived.BigQuiet
import Derived.Laws.StructEq
import Derived.Deep.DeepFit
import Derived.StillTailTactics

/- book: the ledger in memory -/
namespace Go.Proofs.YtampniiehgimhaaGreat
open Go.RowKit
/-- where a book lies: itself, its chart and that's map, its holds and that's map -/
structure BA where
 p : Nat
 g : Nat
 b : Nat
 gh : Nat
 bh : Nat
abbrev BA.ptr (a : BA) : Value := .pointer (some ⟨a.p, 0, none⟩)
def BA.own (a : BA) (k : Nat) : Prop := k = a.p ∨ k = a.b ∨ k = a.bh
def BA.maps (a : BA) (k : Nat) : Prop := k = a.b ∨ k = a.bh
def BA.all (a : BA) (k : Nat) : Prop := k = a.p ∨ k = a.g ∨ k = a.b ∨ k = a.gh ∨ k = a.bh
structure BA.Apart (a : BA) : Prop where
 pg : a.p ≠ a.g
 pb : a.p ≠ a.b
 pgh : a.p ≠ a.gh
 pbh : a.p ≠ a.bh
 ghb : a.gh ≠ a.b
 bhb : a.bh ≠ a.b
 gbh : a.g ≠ a.bh
structure BkA (w : World) (a : BA) (B : Bk) : Prop where
 cell : w.heap[a.p]? = some (.cells #[.pointer (some ⟨a.g, 0, none⟩), .pointer (some ⟨a.gh, 0, none⟩), i64 B.cl] 118 (0, 0))
 ch : ChA w a.g a.b B.L
 ho : HoA w a.gh a.bh B.H
 ap : a.Apart
theorem BkA.lt {w : World} {a : BA} {B : Bk} (h : BkA w a B) : ∀ k, a.all k → k < w.heap.size := by
 intro k hk
 rcases hk with rfl | rfl | rfl | rfl | rfl
 ·exact (Array.getElem?_eq_some_iff.1 h.cell).1
 ·exact h.ch.lt.1
 ·exact h.ch.lt.2.1
 ·exact h.ho.lt.1
 ·exact h.ho.lt.2.1
theorem BkA.kept {w w' : World} {a : BA} {B : Bk} {S : Nat → Prop} (h : BkA w a B) (hk : Gr w w' S) (hS : ∀ k, a.all k → ¬ S k) : BkA w' a B :=
 ⟨(hk.block a.p (h.lt _ (.inl rfl)) (hS _ (.inl rfl))).trans h.cell, h.ch.kept hk (hS _ (.inr (.inl rfl))) (hS _ (.inr (.inr (.inl rfl)))), h.ho.kept hk (hS _ (.inr (.inr (.inr (.inl rfl))))) (hS _ (.inr (.inr (.inr (.inr rfl))))), h.ap⟩
theorem BkA.later {w w' : World} {a : BA} {B : Bk} (h : BkA w a B) (hb : Below w.heap.size w w') : BkA w' a B := h.kept (Gr.of_below hb (fun _ => False)) (fun _ _ => id)
theorem BkA.chart {w w' : World} {a : BA} {B : Bk} {L : List Ac} (h : BkA w a B) (hc : ChA w' a.g a.b L) (hg : w.grownBy w' (some a.b)) : BkA w' a ⟨L, B.H, B.cl⟩ ∧ Gr w w' a.maps :=
 ⟨⟨(hg.block a.p (h.lt _ (.inl rfl)) (fun e => h.ap.pb (by injection e))).trans h.cell, hc, h.ho.kept (Gr.of_grown hg) (fun e => h.ap.ghb (by injection e with e; exact e.symm)) (fun e => h.ap.bhb (by injection e with e; exact e.symm)), h.ap⟩,
  (Gr.of_grown hg).mono fun k _ e => .inl (by injection e with e; exact e.symm)⟩
theorem BkA.both {w w' : World} {a : BA} {B : Bk} {L : List Ac} {H : List Held} (h : BkA w a B) (hc : ChA w' a.g a.b L) (hh : HoA w' a.gh a.bh H) (hg : G2 w w' a.b a.bh) : BkA w' a ⟨L, H, B.cl⟩ ∧ Gr w w' a.maps :=
 ⟨⟨((Gr.of_g2 hg).block a.p (h.lt _ (.inl rfl)) (fun e => e.elim h.ap.pb h.ap.pbh)).trans h.cell, hc, hh, h.ap⟩, Gr.of_g2 hg⟩
theorem BA.maps_own {a : BA} {k : Nat} (h : a.maps k) : a.own k := .inr h
theorem gr_setRow (w : World) (g : Nat) (cs : Array Value) : Gr w (w.setRow g cs) (fun k => k = g) := ⟨rfl, rfl, rfl, by simp, fun k _ hn => setRow_other w g k cs hn⟩
theorem Gr.own_row {w u : World} {S : Nat → Prop} (h : Gr w u S) {g : Nat} (hg : w.heap.size ≤ g) (cs : Array Value) : Gr w (u.setRow g cs) S := h.trans (gr_setRow u g cs) (fun k e => .inr (by rw [e]; exact hg))
theorem Gr.after {w u v : World} {S : Nat → Prop} (h : Gr w u S) (k : Gr u v S) : Gr w v S := h.trans k (fun _ e => .inl e)
theorem Gr.more {w u v : World} {S : Nat → Prop} (h : Gr w u S) (k : Below u.heap.size u v) : Gr w v S := h.after (Gr.of_below k S)
theorem BkA.row {w : World} {a : BA} {B : Bk} (h : BkA w a B) {g : Nat} (hg : ∀ k, a.all k → k ≠ g) (cs : Array Value) : BkA (w.setRow g cs) a B := h.kept (gr_setRow w g cs) hg
/-- an order, and room for a reply, laid behind a book -/
theorem not_maps {a : BA} {w : World} (hl : ∀ k, a.all k → k < w.heap.size) {k : Nat} (hk : w.heap.size ≤ k) : ¬ a.maps k := fun e => by
 rcases e with e | e
 ·have := hl a.b (.inr (.inr (.inl rfl))); omega
 ·have := hl a.bh (.inr (.inr (.inr (.inr rfl)))); omega
theorem not_all {a : BA} {w : World} (hl : ∀ k, a.all k → k < w.heap.size) {g : Nat} (hg : w.heap.size ≤ g) : ∀ k, a.all k → k ≠ g := fun k hk e => by have := hl k hk; omega
theorem BA.Apart.p_maps {a : BA} (h : a.Apart) : ¬ a.maps a.p := fun e => e.elim h.pb h.pbh
/-- an order as a book takes it: its legs lie apart from the book -/
def OdIn (w : World) (a : BA) (x : Od) : Prop := Od.Ok w (fun k => k < w.heap.size ∧ ¬ a.all k) x ∧ x.legs.length ≤ 65536
set_option maxRecDepth 100000 in
set_option maxHeartbeats 8000000 in
theorem btells_c (a : BA) (B : Bk) (x : Od) (er : Int) (w : World) (h : BkA w a B) :
  Calls Tryz.prog 162 #[a.ptr, x.v, i64 er] w fun e w' => e = .returned (tellsL B.L x.acct er).v ∧ Below w.heap.size w w' := by
 obtain ⟨R, hR⟩ : ∃ R, tellsL B.L x.acct er = R := ⟨_, rfl⟩
 rw [hR]
 unfold tellsL at hR
 have HR := Lib.hid hR.symm
 clear hR
 by_cases he : er = 0
 ·have g1 : (er != 0) = false := by rw [he]; rfl
  have HR1 := Lib.hid (show R = _ from HR.out.trans (if_neg (fun e => e he)))
  have HG := Lib.hid (fun (W : World) (hW : BkA W a B) => getA_c a.g a.b B.L x.acct W hW.ch)
  generalize getLR B.L x.acct = gl at *
  obtain ⟨ac, ge⟩ := gl
  dsimp only at *
  clear HR he
  have hb0 : Below w.heap.size w ((w.alloc (.cells #[i64 x.client, i64 x.seq, i64 x.kind, .string x.acct, .string x.peer, i64 x.sum, .slice x.la x.legs.length x.lc, i64 x.period, i64 x.hold, .string x.note] 37)).alloc (.cells #[i64 0, i64 0, i64 0, i64 0] 31)) := ((Below.refl w.heap.size w).alloc (Nat.le_refl _) (.cells #[i64 x.client, i64 x.seq, i64 x.kind, .string x.acct, .string x.peer, i64 x.sum, .slice x.la x.legs.length x.lc, i64 x.period, i64 x.hold, .string x.note] 37)).alloc (by simp) (.cells #[i64 0, i64 0, i64 0, i64 0] 31)
  have ho0 := heap_alloc2_old w (.cells #[i64 x.client, i64 x.seq, i64 x.kind, .string x.acct, .string x.peer, i64 x.sum, .slice x.la x.legs.length x.lc, i64 x.period, i64 x.hold, .string x.note] 37) (.cells #[i64 0, i64 0, i64 0, i64 0] 31)
  have hr0 := heap_alloc2_new w (.cells #[i64 x.client, i64 x.seq, i64 x.kind, .string x.acct, .string x.peer, i64 x.sum, .slice x.la x.legs.length x.lc, i64 x.period, i64 x.hold, .string x.note] 37) (.cells #[i64 0, i64 0, i64 0, i64 0] 31)
  have hlt0 : w.heap.size < ((w.alloc (.cells #[i64 x.client, i64 x.seq, i64 x.kind, .string x.acct, .string x.peer, i64 x.sum, .slice x.la x.legs.length x.lc, i64 x.period, i64 x.hold, .string x.note] 37)).alloc (.cells #[i64 0, i64 0, i64 0, i64 0] 31)).heap.size ∧ w.heap.size + 1 < ((w.alloc (.cells #[i64 x.client, i64 x.seq, i64 x.kind, .string x.acct, .string x.peer, i64 x.sum, .slice x.la x.legs.length x.lc, i64 x.period, i64 x.hold, .string x.note] 37)).alloc (.cells #[i64 0, i64 0, i64 0, i64 0] 31)).heap.size := ⟨by simp; omega, by simp⟩
  have Hlt := Lib.hid h.lt
  have Hap := Lib.hid h.ap
  have H0 := h.later hb0
  unfold Od.v
  go_enter Tryz.func162, Tryz.ntmps162
  go_wp2_with fail
  generalize ((w.alloc (.cells #[i64 x.client, i64 x.seq, i64 x.kind, .string x.acct, .string x.peer, i64 x.sum, .slice x.la x.legs.length x.lc, i64 x.period, i64 x.hold, .string x.note] 37)).alloc (.cells #[i64 0, i64 0, i64 0, i64 0] 31)) = W0 at *
  generalize hrb : w.heap.size + 1 = rb at *
  have Hrb := Lib.hid (show w.heap.size ≤ rb by omega)
  clear hrb
  have Hna := Lib.hid (not_all Hlt.out Hrb.out)
  have Hnm := Lib.hid (not_maps Hlt.out Hrb.out)
  have hp0 := H0.cell
  have HSS := Lib.hid (show ∀ V, Gr W0 V a.maps → (fun V : World => V.cell? ⟨a.p, 0, none⟩ = some (.pointer (some ⟨a.g, 0, none⟩)) ∧ V.cell? ⟨a.p, 1, none⟩ = some (.pointer (some ⟨a.gh, 0, none⟩)) ∧ V.cell? ⟨a.p, 2, none⟩ = some (i64 B.cl) ∧ V.cell? ⟨w.heap.size, 0, none⟩ = some (i64 x.client) ∧ V.cell? ⟨w.heap.size, 1, none⟩ = some (i64 x.seq) ∧ V.cell? ⟨w.heap.size, 2, none⟩ = some (i64 x.kind) ∧ V.cell? ⟨w.heap.size, 3, none⟩ = some (.string x.acct) ∧ V.cell? ⟨w.heap.size, 4, none⟩ = some (.string x.peer) ∧ V.cell? ⟨w.heap.size, 5, none⟩ = some (i64 x.sum) ∧ V.cell? ⟨w.heap.size, 6, none⟩ = some (.slice x.la x.legs.length x.lc) ∧ V.cell? ⟨w.heap.size, 7, none⟩ = some (i64 x.period) ∧ V.cell? ⟨w.heap.size, 8, none⟩ = some (i64 x.hold) ∧ V.cell? ⟨w.heap.size, 9, none⟩ = some (.string x.note)) V from fun V hG => by
   have hp1 := (hG.block a.p (Array.getElem?_eq_some_iff.1 hp0).1 Hap.out.p_maps).trans hp0
   have ho1 := (hG.block w.heap.size hlt0.1 (not_maps Hlt.out (Nat.le_refl _))).trans ho0
   exact ⟨cell_of_row _ a.p 0 _ _ (0, 0) hp1, cell_of_row _ a.p 1 _ _ (0, 0) hp1, cell_of_row _ a.p 2 _ _ (0, 0) hp1, cell_of_row _ w.heap.size 0 _ _ (0, 0) ho1, cell_of_row _ w.heap.size 1 _ _ (0, 0) ho1, cell_of_row _ w.heap.size 2 _ _ (0, 0) ho1, cell_of_row _ w.heap.size 3 _ _ (0, 0) ho1, cell_of_row _ w.heap.size 4 _ _ (0, 0) ho1, cell_of_row _ w.heap.size 5 _ _ (0, 0) ho1, cell_of_row _ w.heap.size 6 _ _ (0, 0) ho1, cell_of_row _ w.heap.size 7 _ _ (0, 0) ho1, cell_of_row _ w.heap.size 8 _ _ (0, 0) ho1, cell_of_row _ w.heap.size 9 _ _ (0, 0) ho1⟩)
  have HR0 := Lib.hid hr0
  have HO0 := Lib.hid ho0
  have HB0 := Lib.hid H0
  have Hb0 := Lib.hid hb0
  have hG0 := Gr.of_below ((Below.refl W0.heap.size W0).drew) a.maps
  clear hp0 ho0 hr0 H0 hb0 h
  refine wp_region_noPanic ?_
  refine wp_region_l 12 (fun V : World => V.cell? ⟨a.p, 0, none⟩ = some (.pointer (some ⟨a.g, 0, none⟩)) ∧ V.cell? ⟨a.p, 1, none⟩ = some (.pointer (some ⟨a.gh, 0, none⟩)) ∧ V.cell? ⟨a.p, 2, none⟩ = some (i64 B.cl) ∧ V.cell? ⟨w.heap.size, 0, none⟩ = some (i64 x.client) ∧ V.cell? ⟨w.heap.size, 1, none⟩ = some (i64 x.seq) ∧ V.cell? ⟨w.heap.size, 2, none⟩ = some (i64 x.kind) ∧ V.cell? ⟨w.heap.size, 3, none⟩ = some (.string x.acct) ∧ V.cell? ⟨w.heap.size, 4, none⟩ = some (.string x.peer) ∧ V.cell? ⟨w.heap.size, 5, none⟩ = some (i64 x.sum) ∧ V.cell? ⟨w.heap.size, 6, none⟩ = some (.slice x.la x.legs.length x.lc) ∧ V.cell? ⟨w.heap.size, 7, none⟩ = some (i64 x.period) ∧ V.cell? ⟨w.heap.size, 8, none⟩ = some (i64 x.hold) ∧ V.cell? ⟨w.heap.size, 9, none⟩ = some (.string x.note)) (by kernel_rfl) (HSS.out _ hG0) (fun hH => ?_)
  refine tkY 0 (v := ?v20001) ?y20001 ?r20001
  case y20001 => (intro W hW; go_simp; try with_reducible rfl)
  try simp only [List.set]
  refine tkY 1 (v := ?v20002) ?y20002 ?r20002
  case y20002 => (intro W hW; go_simp; try with_reducible rfl)
  try simp only [List.set]
  refine tkY 2 (v := ?v20003) ?y20003 ?r20003
  case y20003 => (intro W hW; go_simp; try with_reducible rfl)
  try simp only [List.set]
  refine tkY 3 (v := ?v20004) ?y20004 ?r20004
  case y20004 => (intro W hW; go_simp; try with_reducible rfl)
  try simp only [List.set]
  refine tkY 4 (v := ?v20005) ?y20005 ?r20005
  case y20005 => (intro W hW; go_simp; try with_reducible rfl)
  try simp only [List.set]
  refine tkY 5 (v := ?v20006) ?y20006 ?r20006
  case y20006 => (intro W hW; go_simp; try with_reducible rfl)
  try simp only [List.set]
  refine wpAnyL_ready (rs := [6, 10]) (by kernel_rfl) (by simp) ?_
  refine AllReadyL.cons rfl (fun K hK => ?_) ?_
  ·skip
   have hb := (Below.refl W0.heap.size W0).drew
   go_simp
   refine (HG.out _ (HB0.out.later hb)).mono ?_
   rintro e W1 ⟨rfl, hF⟩
   have hb := hb.trans (hF.mono hb.size)
   clear hF
   refine hK.out _ _ (HSS.out _ (Gr.of_below hb _)) (fun hH => ?_)
   clear hK K
   try simp only [Act.put, List.getElem_toArray, List.getElem_cons_zero, List.getElem_cons_succ, List.setIfInBounds_toArray, List.set_cons_zero, List.set_cons_succ]
   refine tkY 7 (v := ?v20007) ?y20007 ?r20007
   case y20007 => (intro W hW; go_simp; try with_reducible rfl)
   try simp only [List.set]
   refine tkY 8 (v := ?v20008) ?y20008 ?r20008
   case y20008 => (intro W hW; go_simp; try with_reducible rfl)
   try simp only [List.set]
   refine tkY 9 (v := ?v20009) ?y20009 ?r20009
   case y20009 => (intro W hW; go_simp; try with_reducible rfl)
   try simp only [List.set]
   refine wpAnyL_one (i := 10) (by kernel_rfl) rfl (by decide) (fun K hK => ?_)
   go_simp
   obtain ⟨ab, hab, hal⟩ : ∃ ab, ab = W1.heap.size ∧ (W1.alloc (.cells #[.string ⟨#[]⟩, i64 0, i64 0, i64 0] 140)).heap[ab]? = some (.cells #[.string ⟨#[]⟩, i64 0, i64 0, i64 0] 140) := ⟨_, rfl, heap_alloc_new W1 _⟩
   have Hab := Lib.hid hab
   have hgb := hb.size
   have Hge := Lib.hid (show W0.heap.size ≤ ab by omega)
   clear hab
   have hb := hb.alloc hb.size (.cells #[.string ⟨#[]⟩, i64 0, i64 0, i64 0] 140)
   refine hK.out _ _ (HSS.out _ (Gr.of_below hb _)) (fun hH => ?_)
   clear hK K
   try simp only [Act.put, List.getElem_toArray, List.getElem_cons_zero, List.getElem_cons_succ, List.setIfInBounds_toArray, List.set_cons_zero, List.set_cons_succ]
   refine wpAnyL_one (i := 11) (by kernel_rfl) rfl (by decide) (fun K hK => ?_)
   refine wp_store_row 140 (.tmp 7) (.tmp 20) rfl ab #[.string ac.name, i64 ac.hav, i64 ac.set_, i64 ac.lim] (by rw [Hab.out] <;> rfl) rfl 140 #[.string ⟨#[]⟩, i64 0, i64 0, i64 0] hal (by kernel_rfl) rfl (by simp [Value.oneCell']) ?_
   have hal2 := setRow_heap _ ab _ #[.string ac.name, i64 ac.hav, i64 ac.set_, i64 ac.lim] _ _ hal
   have hb := below_setRow hb Hge.out #[.string ac.name, i64 ac.hav, i64 ac.set_, i64 ac.lim]
   refine hK.out _ _ (HSS.out _ (Gr.of_below hb _)) (fun hH => ?_)
   clear hK K
   try simp only [Act.put, List.getElem_toArray, List.getElem_cons_zero, List.getElem_cons_succ]
   refine wpAnyL_last (by kernel_rfl) rfl (fun K hK => ?_)
   go_simp
   refine hK.out _ _ ?_
   clear hK K
   try simp only [Act.put, List.getElem_toArray, List.getElem_cons_zero, List.getElem_cons_succ, List.setIfInBounds_toArray, List.set_cons_zero, List.set_cons_succ]
   refine wpAnyL_done (by kernel_rfl) ?_ _
   refine NoPanic.normal ?_
   generalize ((W1.alloc (.cells #[.string ⟨#[]⟩, i64 0, i64 0, i64 0] 140))).setRow ab #[.string ac.name, i64 ac.hav, i64 ac.set_, i64 ac.lim] = W3 at *
   have hb3 := Hb0.out.trans (hb.mono Hb0.out.size)
   have hr3 := (hb.block rb hlt0.2).trans HR0.out
   have n1 := cell_of_row _ ab 1 _ _ (0, 0) hal2
   have n2 := cell_of_row _ ab 2 _ _ (0, 0) hal2
   simp only [List.getElem?_toArray, List.getElem?_cons_zero, List.getElem?_cons_succ] at n1 n2
   have Hr3 := Lib.hid hr3
   clear hb hal hal2 hr3
   by_cases hg : ge = 0
   ·have g2 : (ge != 0) = false := by rw [hg]; rfl
    have HR2 := Lib.hid (show R = ⟨0, ac.hav, ac.set_, 0⟩ from HR1.out.trans (if_neg (fun e => e hg)))
    have HRow := Lib.hid (setRow_heap W3 rb _ #[i64 0, i64 ac.hav, i64 ac.set_, i64 0] _ _ Hr3.out)
    have HBel := Lib.hid (below_setRow hb3 Hrb.out #[i64 0, i64 ac.hav, i64 ac.set_, i64 0])
    have hab2 := Hab.out
    subst hab2
    clear HR1 hg
    go_wp2_with (refine wpList_store_row rfl 31 (.tmp 6) (.tmp 30) rfl rb #[i64 0, i64 ac.hav, i64 ac.set_, i64 0] rfl rfl 31 #[i64 0, i64 0, i64 0, i64 0] Hr3.out (by kernel_rfl) rfl (by simp [Value.oneCell']) ?_)
    exact bodyPost_ret (results_cell_row rfl _ _ rb 31 _ (0, 0) _ rfl HRow.out Tryz.underlying31 rfl (by kernel_rfl)) rfl ⟨by rw [HR2.out] <;> rfl, HBel.out⟩
   ·have g2 : (ge != 0) = true := by simpa using hg
    have HR2 := Lib.hid (show R = rpE ge from HR1.out.trans (if_pos hg))
    have HRow := Lib.hid (setRow_heap W3 rb _ #[i64 ge, i64 0, i64 0, i64 0] _ _ Hr3.out)
    have HBel := Lib.hid (below_setRow hb3 Hrb.out #[i64 ge, i64 0, i64 0, i64 0])
    clear HR1 hg
    go_wp2_with (refine wpList_store_row rfl 31 (.tmp 6) (.tmp 25) rfl rb #[i64 ge, i64 0, i64 0, i64 0] rfl rfl 31 #[i64 0, i64 0, i64 0, i64 0] Hr3.out (by kernel_rfl) rfl (by simp [Value.oneCell']) ?_)
    exact bodyPost_ret (results_cell_row rfl _ _ rb 31 _ (0, 0) _ rfl HRow.out Tryz.underlying31 rfl (by kernel_rfl)) rfl ⟨by rw [HR2.out] <;> rfl, HBel.out⟩
  refine AllReadyL.cons rfl (fun K hK => ?_) ?_
  ·skip
   have hb := (Below.refl W0.heap.size W0).drew
   go_simp
   obtain ⟨ab, hab, hal⟩ : ∃ ab, ab = W0.heap.size ∧ (W0.drew.alloc (.cells #[.string ⟨#[]⟩, i64 0, i64 0, i64 0] 140)).heap[ab]? = some (.cells #[.string ⟨#[]⟩, i64 0, i64 0, i64 0] 140) := ⟨_, rfl, heap_alloc_new W0.drew _⟩
   have Hab := Lib.hid hab
   have Hge := Lib.hid (show W0.heap.size ≤ ab by omega)
   clear hab
   have hb := hb.alloc hb.size (.cells #[.string ⟨#[]⟩, i64 0, i64 0, i64 0] 140)
   refine hK.out _ _ (HSS.out _ (Gr.of_below hb _)) (fun hH => ?_)
   clear hK K
   try simp only [Act.put, List.getElem_toArray, List.getElem_cons_zero, List.getElem_cons_succ, List.setIfInBounds_toArray, List.set_cons_zero, List.set_cons_succ]
   refine wpAnyL_one (i := 6) (by kernel_rfl) rfl (by decide) (fun K hK => ?_)
   go_simp
   refine (HG.out _ (HB0.out.later hb)).mono ?_
   rintro e W1 ⟨rfl, hF⟩
   have hal := (hF.block ab (Array.getElem?_eq_some_iff.1 hal).1).trans hal
   have hb := hb.trans (hF.mono hb.size)
   clear hF
   refine hK.out _ _ (HSS.out _ (Gr.of_below hb _)) (fun hH => ?_)
   clear hK K
   try simp only [Act.put, List.getElem_toArray, List.getElem_cons_zero, List.getElem_cons_succ, List.setIfInBounds_toArray, List.set_cons_zero, List.set_cons_succ]
   refine tkY 7 (v := ?v20010) ?y20010 ?r20010
   case y20010 => (intro W hW; go_simp; try with_reducible rfl)
   try simp only [List.set]
   refine tkY 8 (v := ?v20011) ?y20011 ?r20011
   case y20011 => (intro W hW; go_simp; try with_reducible rfl)
   try simp only [List.set]
   refine tkY 9 (v := ?v20012) ?y20012 ?r20012
   case y20012 => (intro W hW; go_simp; try with_reducible rfl)
   try simp only [List.set]
   refine wpAnyL_one (i := 11) (by kernel_rfl) rfl (by decide) (fun K hK => ?_)
   refine wp_store_row 140 (.tmp 7) (.tmp 20) rfl ab #[.string ac.name, i64 ac.hav, i64 ac.set_, i64 ac.lim] (by rw [Hab.out] <;> rfl) rfl 140 #[.string ⟨#[]⟩, i64 0, i64 0, i64 0] hal (by kernel_rfl) rfl (by simp [Value.oneCell']) ?_
   have hal2 := setRow_heap _ ab _ #[.string ac.name, i64 ac.hav, i64 ac.set_, i64 ac.lim] _ _ hal
   have hb := below_setRow hb Hge.out #[.string ac.name, i64 ac.hav, i64 ac.set_, i64 ac.lim]
   refine hK.out _ _ (HSS.out _ (Gr.of_below hb _)) (fun hH => ?_)
   clear hK K
   try simp only [Act.put, List.getElem_toArray, List.getElem_cons_zero, List.getElem_cons_succ]
   refine wpAnyL_last (by kernel_rfl) rfl (fun K hK => ?_)
   go_simp
   refine hK.out _ _ ?_
   clear hK K
   try simp only [Act.put, List.getElem_toArray, List.getElem_cons_zero, List.getElem_cons_succ, List.setIfInBounds_toArray, List.set_cons_zero, List.set_cons_succ]
   refine wpAnyL_done (by kernel_rfl) ?_ _
   refine NoPanic.normal ?_
   generalize (W1).setRow ab #[.string ac.name, i64 ac.hav, i64 ac.set_, i64 ac.lim] = W3 at *
   have hb3 := Hb0.out.trans (hb.mono Hb0.out.size)
   have hr3 := (hb.block rb hlt0.2).trans HR0.out
   have n1 := cell_of_row _ ab 1 _ _ (0, 0) hal2
   have n2 := cell_of_row _ ab 2 _ _ (0, 0) hal2
   simp only [List.getElem?_toArray, List.getElem?_cons_zero, List.getElem?_cons_succ] at n1 n2
   have Hr3 := Lib.hid hr3
   clear hb hal hal2 hr3
   by_cases hg : ge = 0
   ·have g2 : (ge != 0) = false := by rw [hg]; rfl
    have HR2 := Lib.hid (show R = ⟨0, ac.hav, ac.set_, 0⟩ from HR1.out.trans (if_neg (fun e => e hg)))
    have HRow := Lib.hid (setRow_heap W3 rb _ #[i64 0, i64 ac.hav, i64 ac.set_, i64 0] _ _ Hr3.out)
    have HBel := Lib.hid (below_setRow hb3 Hrb.out #[i64 0, i64 ac.hav, i64 ac.set_, i64 0])
    have hab2 := Hab.out
    subst hab2
    clear HR1 hg
    go_wp2_with (refine wpList_store_row rfl 31 (.tmp 6) (.tmp 30) rfl rb #[i64 0, i64 ac.hav, i64 ac.set_, i64 0] rfl rfl 31 #[i64 0, i64 0, i64 0, i64 0] Hr3.out (by kernel_rfl) rfl (by simp [Value.oneCell']) ?_)
    exact bodyPost_ret (results_cell_row rfl _ _ rb 31 _ (0, 0) _ rfl HRow.out Tryz.underlying31 rfl (by kernel_rfl)) rfl ⟨by rw [HR2.out] <;> rfl, HBel.out⟩
   ·have g2 : (ge != 0) = true := by simpa using hg
    have HR2 := Lib.hid (show R = rpE ge from HR1.out.trans (if_pos hg))
    have HRow := Lib.hid (setRow_heap W3 rb _ #[i64 ge, i64 0, i64 0, i64 0] _ _ Hr3.out)
    have HBel := Lib.hid (below_setRow hb3 Hrb.out #[i64 ge, i64 0, i64 0, i64 0])
    clear HR1 hg
    go_wp2_with (refine wpList_store_row rfl 31 (.tmp 6) (.tmp 25) rfl rb #[i64 ge, i64 0, i64 0, i64 0] rfl rfl 31 #[i64 0, i64 0, i64 0, i64 0] Hr3.out (by kernel_rfl) rfl (by simp [Value.oneCell']) ?_)
    exact bodyPost_ret (results_cell_row rfl _ _ rb 31 _ (0, 0) _ rfl HRow.out Tryz.underlying31 rfl (by kernel_rfl)) rfl ⟨by rw [HR2.out] <;> rfl, HBel.out⟩
  exact AllReadyL.nil
 ·have g1 : (er != 0) = true := by simpa using he
  have HR1 := Lib.hid (show R = rpE er from HR.out.trans (if_pos he))
  clear HR he h
  have hb := ((Below.refl w.heap.size w).alloc (Nat.le_refl _) (.cells #[i64 x.client, i64 x.seq, i64 x.kind, .string x.acct, .string x.peer, i64 x.sum, .slice x.la x.legs.length x.lc, i64 x.period, i64 x.hold, .string x.note] 37)).alloc (by simp) (.cells #[i64 er, i64 0, i64 0, i64 0] 31)
  unfold Od.v
  go_enter Tryz.func162, Tryz.ntmps162
  go_wp2
  exact bodyPost_ret (results_cell_row rfl _ _ (w.heap.size + 1) 31 _ (0, 0) _ rfl (heap_alloc2_new w _ _) Tryz.underlying31 rfl (by kernel_rfl)) rfl ⟨by rw [HR1.out]; rfl, hb⟩
end Go.Proofs.YtampniiehgimhaaGreat
