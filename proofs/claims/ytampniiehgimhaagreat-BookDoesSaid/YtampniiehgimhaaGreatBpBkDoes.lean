/- law09.BookDoes -/
import Derived.Test.YtampniiehgimhaaGreatRows
import Derived.Test.YtampniiehgimhaaGreatBpRf09B
import Derived.Test.YtampniiehgimhaaGreatBpLike9
import Derived.Test.YtampniiehgimhaaGreatBn25
import Derived.Test.YtampniiehgimhaaGreatBn24
import Derived.WalkKit
import Derived.WalkSpells
import Derived.WalkLawsBesides
import Derived.Deep.QuietTactic
import Derived.BigQuiet
import Derived.Laws.StructEq
import Derived.Deep.DeepFit
import Derived.StillTailTactics
namespace Go.Proofs.YtampniiehgimhaaGreat
open Go.RowKit
theorem fewN_odB9 {w : World} {S : Nat → Prop} {A : Option Addr} {c m n : Nat} {l : List Od} (h : SlS w S A c l) (hr : ∀ x ∈ l, InR x) : ∀ x ∈ fewN m n l, OdB x := fun x hx => by
 obtain ⟨y, hy, rfl⟩ := List.mem_map.1 hx
 have hy := List.mem_of_mem_take hy
 have ho := h.2.2.2 y hy
 have hi := hr y hy
 exact ⟨ho.acct, ho.peer, ⟨hi.1, hi.2.1, hi.2.2.1, hi.2.2.2.1, hi.2.2.2.2.1, hi.2.2.2.2.2.1, fun z hz => hi.2.2.2.2.2.2 z (List.mem_of_mem_take hz)⟩⟩
theorem Own.slW9 {α : Type} [Enc α] {w : World} {base : Nat} {e : TypeId} {v : Value} {l : List α} {S : Nat → Prop} (h : Own w base e v l) (hb : ∀ b, v.ownBlock = some b → S b) (hx : ∀ x ∈ l, Enc.ok w S x) : ∃ A c, v = .slice A l.length c ∧ SlS w S A c l := by
 obtain ⟨⟨h1, h2⟩, h3⟩ := h
 rcases h2 with ⟨rfl, h0⟩ | ⟨g, cap, cur, rfl, hg, hh, hn, hm, hz, ht⟩
 ·have : l = [] := List.length_eq_zero_iff.1 h0
  subst this
  exact ⟨none, 0, rfl, SlS.nil_ _ _⟩
 ·refine ⟨_, _, rfl, hn, hm, fun _ => ⟨g, 0, rfl, hb g rfl, fun j u hu => ?_⟩, hx⟩
  rw [cell_of_row w g (0 + j) cur e (0, 0) hh, Nat.zero_add]
  rw [← ht, List.getElem?_take] at hu
  split at hu
  ·rw [← hu]; simp
  ·cases hu
/-- few's orders, apart from what lies ahead of them -/
theorem few_room {w w2 w3 : World} {T : Nat → Prop} {A : Option Addr} {c m n : Nat} {l : List Od} {v : Value} {e : TypeId} (h : Sl w w.heap.size A c l) (hO : Own w3 w2.heap.size e v (fewN m n l)) (hb : Below w.heap.size w w3) (h1 : ∀ k, T k → w.heap.size ≤ k) (h2 : ∀ k, T k → k < w2.heap.size) :
  ∃ A c, v = .slice A (fewN m n l).length c ∧ SlS w3 (fun k => k < w3.heap.size ∧ ¬ T k) A c (fewN m n l) := by
 obtain ⟨A', c', e1, e2⟩ := Own.slW9 (S := fun k => k < w3.heap.size ∧ ¬ T k) hO (fun b hb' => ⟨(hO.1.lt b hb').2, fun e => absurd (h2 b e) (Nat.not_lt.2 (hO.1.lt b hb').1)⟩) fun x hx => by
  obtain ⟨y, hy, rfl⟩ := List.mem_map.1 hx
  exact cutN_ok (Enc.keep (α := Od) (h.2.2.2 y (List.mem_of_mem_take hy)) (fun p hp => hb.cell hp) (fun k hk => ⟨Nat.lt_of_lt_of_le hk hb.size, fun e => absurd (h1 k e) (by omega)⟩))
 exact ⟨A', c', e1, e2⟩
theorem sl_gr9 {w w' : World} {T S : Nat → Prop} {A : Option Addr} {c n : Nat} {l : List Od} (h : SlS w (fun k => k < n ∧ T k) A c l) (hg : Gr w w' S) (hn : n ≤ w.heap.size) (hS : ∀ k, S k → ¬ T k) : SlS w' (fun k => k < n ∧ T k) A c l :=
 h.grs hg fun _ hk => ⟨Nat.lt_of_lt_of_le hk.1 hn, fun e => hS _ e hk.2⟩
set_option maxRecDepth 100000 in
set_option maxHeartbeats 16000000 in
theorem bookDoes_c (A : Option Addr) (c : Nat) (l : List Od) (w : World) (h : Sl w w.heap.size A c l) (hr : ∀ x ∈ l, InR x) :
  Calls Tryz.prog 3 #[.slice A l.length c] w fun e w' => e = .returned (.bool true) ∧ Below w.heap.size w w' := by
 have hL := Lib.hid fun W => lives9_c W
 have HN := Lib.hid fun W => bnew_c W
 have HN2 := Lib.hid fun W => rnew9_c W
 have Hod := Lib.hid (fewN_odB9 (m := 10) (n := 80) h hr)
 have H := Lib.hid h
 clear h hr
 go_enter Tryz.func3, Tryz.ntmps3
 go_wp2_with fail
 refine (hL.out _).mono ?_
 rintro e w1 ⟨rfl, hF⟩
 have hb1 := hF
 clear hL hF
 go_wp2_with fail
 refine (HN.out _).mono ?_
 rintro e w2 ⟨a, rfl, hB, ha, hF⟩
 have hb2 := below_on hb1 (Nat.le_refl _) hF
 have hlt2 := hB.lt
 clear HN hF
 go_wp2_with fail
 refine (HN2.out _).mono ?_
 rintro e w3 ⟨r, rfl, hR, hrb, hF⟩
 have hb3 := below_on hb2 (Nat.le_refl _) hF
 have hB := hB.later hF
 have Hab := Lib.hid (show ∀ k, a.all k → ¬ r.base ≤ k from fun k hk e => by have := hlt2 k hk; omega)
 have Hlo := Lib.hid hR.lo
 have Hga := Lib.hid (show ∀ k, a.all k → w.heap.size ≤ k from fun k hk => Nat.le_trans hb1.size (ha k hk))
 have Hgr := Lib.hid (show ∀ k, r.own k → w.heap.size ≤ k from fun k hk => by have := hR.lo k hk; have := hb2.size; omega)
 have Hl3 := Lib.hid (show ∀ k, a.all k ∨ r.own k → k < w3.heap.size from fun k hk => hk.elim (fun e => Nat.lt_of_lt_of_le (hlt2 k e) hF.size) (hR.lt k))
 have HFw := Lib.hid (few_09 A c 80 l w3 (H.out.later hb3) (by decide))
 clear HN2 hF hlt2 ha hrb
 go_wp2_with fail
 refine HFw.out.mono ?_
 rintro e w4 ⟨v, rfl, hO, hF⟩
 have hb4 := below_on hb3 (Nat.le_refl _) hF
 have hB4 := hB.later hF
 have hR4 := hR.later hF
 obtain ⟨A2, c2, rfl, s2⟩ := few_room (T := fun k => a.all k ∨ r.own k) H.out hO hb4 (fun k hk => hk.elim (Hga.out k) (Hgr.out k)) Hl3.out
 have Hlg := Lib.hid (show ∀ x ∈ fewN 10 80 l, x.legs.length ≤ 65536 from fun x hx => Nat.le_trans (fewN_legs 10 80 l x hx) (by decide))
 have hlm : (fewN 10 80 l).length ≤ 80 := fewN_le 10 80 l
 have hmc : (fewN 10 80 l).length ≤ c2 := s2.1
 clear HFw hO hF hB hR H hb3 hb2 hb1
 generalize fewN 10 80 l = m at *
 go_wp2_with fail
 go_loopw [5] (fun i wr => ∃ k : Nat, i = i64 k ∧ k ≤ m.length ∧ BkA wr a (foldL bk0 (m.take k)) ∧ RkIs wr r r.T (foldL bk0 (m.take k)) ∧ InvB (foldL bk0 (m.take k)) ∧ SlS wr (fun k => k < w4.heap.size ∧ ¬ (a.all k ∨ r.own k)) A2 c2 m ∧ Below w.heap.size w wr ∧ w4.heap.size ≤ wr.heap.size) (fun i _ => m.length - (intOf i).toNat)
 case atStart => exact ⟨0, rfl, Nat.zero_le _, hB4, hR4, inv_bk0, s2, hb4, Nat.le_refl _⟩
 case round =>
  obtain ⟨k, rfl, hk, hB, hR, hI, hS, hb, hz⟩ := hrel
  clear hB4 hR4 s2 hb4
  by_cases hlt : k < m.length
  ·have g1 : decide ((k : Int) < (m.length : Int)) = true := decide_eq_true (by omega)
   have g2 : decide (k < m.length) = true := decide_eq_true hlt
   have i0 : (0 : Int) ≤ (k : Int) := by omega
   have i1 : (k : Int) < (m.length : Int) := by omega
   have HF := Lib.hid (show foldL bk0 (m.take (k + 1)) = (doL (foldL bk0 (m.take k)) m[k]).2 by rw [List.take_succ_eq_append_getElem hlt, foldL_snoc])
   have hxo := Hod.out m[k] (List.getElem_mem hlt)
   have hI2 := hI.do_ hxo
   generalize foldL bk0 (m.take k) = B at *
   obtain ⟨b, o, rfl, -, hok, -⟩ := hS.od hlt
   obtain ⟨x, hxk⟩ : ∃ x, m[k] = x := ⟨_, rfl⟩
   have Hcell := Lib.hid (show ∀ V, SlS V (fun k => k < w4.heap.size ∧ ¬ (a.all k ∨ r.own k)) (some ⟨b, o, none⟩) c2 m → (fun V : World => V.cell? ⟨b, o + k * 10, none⟩ = some (i64 x.client) ∧ V.cell? ⟨b, o + k * 10 + 1, none⟩ = some (i64 x.seq) ∧ V.cell? ⟨b, o + k * 10 + 2, none⟩ = some (i64 x.kind) ∧ V.cell? ⟨b, o + k * 10 + 3, none⟩ = some (.string x.acct) ∧ V.cell? ⟨b, o + k * 10 + 4, none⟩ = some (.string x.peer) ∧ V.cell? ⟨b, o + k * 10 + 5, none⟩ = some (i64 x.sum) ∧ V.cell? ⟨b, o + k * 10 + 6, none⟩ = some (.slice x.la x.legs.length x.lc) ∧ V.cell? ⟨b, o + k * 10 + 7, none⟩ = some (i64 x.period) ∧ V.cell? ⟨b, o + k * 10 + 8, none⟩ = some (i64 x.hold) ∧ V.cell? ⟨b, o + k * 10 + 9, none⟩ = some (.string x.note)) V from fun V hV => by
    obtain ⟨b', o', hA, -, -, c0, c1, c2, c3, c4, c5, c6, c7, c8, c9⟩ := hV.od hlt
    injection hA with hA
    injection hA with hA1 hA2
    subst hA1 hA2
    rw [hxk] at c0 c1 c2 c3 c4 c5 c6 c7 c8 c9
    exact ⟨c0, c1, c2, c3, c4, c5, c6, c7, c8, c9⟩)
   have Hrin := Lib.hid (show ∀ V, SlS V (fun k => k < w4.heap.size ∧ ¬ (a.all k ∨ r.own k)) (some ⟨b, o, none⟩) c2 m → w4.heap.size ≤ V.heap.size → RdIn V r x from fun V hV hz => by
    rw [← hxk]
    exact ⟨Enc.keep (α := Od) (hV.2.2.2 _ (List.getElem_mem hlt)) (fun _ _ => rfl) (fun j hj => ⟨Nat.lt_of_lt_of_le hj.1 hz, fun e => hj.2 (.inr e)⟩), Hlg.out _ (List.getElem_mem hlt)⟩)
   have hin : OdIn wr.drew a x := by
    rw [← hxk]
    exact ⟨Enc.keep (α := Od) hok (fun _ _ => rfl) (fun j hj => ⟨Nat.lt_of_lt_of_le hj.1 hz, fun e => hj.2 (.inl e)⟩), Hlg.out _ (List.getElem_mem hlt)⟩
   rw [hxk] at hxo HF hI2
   have HD := Lib.hid (show ∃ D, D = doL B x from ⟨_, rfl⟩)
   have Hx := Lib.hid hxo
   have HI := Lib.hid hI
   have HI2 := Lib.hid hI2
   have hB := hB.later (Below.refl _ _).drew
   have hR := hR.later (Below.refl _ _).drew
   have hS := sl_gr9 hS (Gr.of_below (Below.refl _ _).drew (fun _ => False)) hz (fun _ e => e.elim)
   have hb := hb.drew
   have hz : w4.heap.size ≤ wr.drew.heap.size := hz
   have hcd := Hcell.out _ hS
   have hne : ∀ W : World, (binOp .neq 31 (.agg #[i64 (doL B x).1.err, i64 (doL B x).1.hav, i64 (doL B x).1.set_, i64 (doL B x).1.num]) (.agg #[i64 (doL B x).1.err, i64 (doL B x).1.hav, i64 (doL B x).1.set_, i64 (doL B x).1.num])).run Tryz.prog W = .ok (.bool false) W := fun W => (neq_rp (doL B x).1 (doL B x).1 W).trans (by rw [decide_eq_true rfl]; rfl)
   clear hok hxk hxo hI hI2 HD
   go_wp2_with fail
   refine wp_region_noPanic ?_
   refine wp_region_l 18 (fun V : World => V.cell? ⟨b, o + k * 10, none⟩ = some (i64 x.client) ∧ V.cell? ⟨b, o + k * 10 + 1, none⟩ = some (i64 x.seq) ∧ V.cell? ⟨b, o + k * 10 + 2, none⟩ = some (i64 x.kind) ∧ V.cell? ⟨b, o + k * 10 + 3, none⟩ = some (.string x.acct) ∧ V.cell? ⟨b, o + k * 10 + 4, none⟩ = some (.string x.peer) ∧ V.cell? ⟨b, o + k * 10 + 5, none⟩ = some (i64 x.sum) ∧ V.cell? ⟨b, o + k * 10 + 6, none⟩ = some (.slice x.la x.legs.length x.lc) ∧ V.cell? ⟨b, o + k * 10 + 7, none⟩ = some (i64 x.period) ∧ V.cell? ⟨b, o + k * 10 + 8, none⟩ = some (i64 x.hold) ∧ V.cell? ⟨b, o + k * 10 + 9, none⟩ = some (.string x.note)) (by kernel_rfl) (hcd) (fun hH => ?_)
   refine tkY 0 (v := ?v20001) ?y20001 ?r20001
   case y20001 => (intro W hW; go_simp; try with_reducible rfl)
   try simp only [List.set]
   refine tkY 1 (v := ?v20002) ?y20002 ?r20002
   case y20002 => (intro W hW; go_simp; try with_reducible rfl)
   try simp only [List.set]
   refine tkY 2 (v := ?v20003) ?y20003 ?r20003
   case y20003 => (intro W hW; go_simp; try with_reducible rfl)
   try simp only [List.set]
   refine tkY 3 (v := ?v20004) ?y20004 ?r20004
   case y20004 => (intro W hW; go_simp; try with_reducible rfl)
   try simp only [List.set]
   refine tkY 4 (v := ?v20005) ?y20005 ?r20005
   case y20005 => (intro W hW; go_simp; try with_reducible rfl)
   try simp only [List.set]
   refine tkY 6 (v := ?v20006) ?y20006 ?r20006
   case y20006 => (intro W hW; go_simp; try with_reducible rfl)
   try simp only [List.set]
   refine tkY 7 (v := ?v20007) ?y20007 ?r20007
   case y20007 => (intro W hW; go_simp; try with_reducible rfl)
   try simp only [List.set]
   refine tkY 8 (v := ?v20008) ?y20008 ?r20008
   case y20008 => (intro W hW; go_simp; try with_reducible rfl)
   try simp only [List.set]
   refine tkY 9 (v := ?v20009) ?y20009 ?r20009
   case y20009 => (intro W hW; go_simp; try with_reducible rfl)
   try simp only [List.set]
   refine tkY 10 (v := ?v20010) ?y20010 ?r20010
   case y20010 => (intro W hW; go_simp; try with_reducible rfl)
   try simp only [List.set]
   refine wpAnyL_one (i := 5) (by kernel_rfl) rfl (by decide) (fun K hK => ?_)
   refine oper_call2 12 22 26 _ rfl _ _ rfl rfl (enters_of Tryz.func12 (by kernel_rfl) rfl) ?_
   refine (bdo_c a B x _ hB HI.out Hx.out hin).mono ?_
   rintro e W5 ⟨rfl, hB5, hG⟩
   refine ⟨_, rfl, ?_⟩
   have hS5 := sl_gr9 hS hG hz (fun k e h => h (.inl (BA.own_all e)))
   have hR5 := hR.far hG (fun k hk e => Hab.out k (BA.own_all e) hk)
   have hb5 := hb.trans (BkA.own_below hG hb.size Hga.out)
   have hz5 := Nat.le_trans hz hG.size
   have hin5 := Hrin.out W5 hS5 hz5
   have hc5 := Hcell.out W5 hS5
   clear hG hB hR hS hb hz hin
   refine hK.out _ _ (hc5) (fun hH => ?_)
   clear hK K
   try simp only [Act.put, List.getElem_toArray, List.getElem_cons_zero, List.getElem_cons_succ, List.setIfInBounds_toArray, List.set_cons_zero, List.set_cons_succ]
   refine wpAnyL_one (i := 11) (by kernel_rfl) rfl (by decide) (fun K hK => ?_)
   refine oper_call2 13 28 32 _ rfl _ _ rfl rfl (enters_of Tryz.func13 (by kernel_rfl) rfl) ?_
   refine (rdo9_c r r.T B x _ hR5 hR5.new HI.out Hx.out hin5).mono ?_
   rintro e W6 ⟨rfl, hR6, hG⟩
   refine ⟨_, rfl, ?_⟩
   have hS6 := sl_gr9 hS5 hG hz5 (fun k e h => h (.inr e))
   have hB6 := hB5.kept hG (fun k hk e => Hab.out k hk (Hlo.out k e))
   have hb6 := hb5.trans (hG.below hb5.size Hgr.out)
   have hz6 := Nat.le_trans hz5 hG.size
   have hc6 := Hcell.out W6 hS6
   clear hG hB5 hR5 hS5 hb5 hz5 hc5 hin5
   refine hK.out _ _ (hc6) (fun hH => ?_)
   clear hK K
   try simp only [Act.put, List.getElem_toArray, List.getElem_cons_zero, List.getElem_cons_succ, List.setIfInBounds_toArray, List.set_cons_zero, List.set_cons_succ]
   refine tkY 12 (v := ?v20011) ?y20011 ?r20011
   case y20011 => (intro W hW; go_simp; try with_reducible rfl)
   try simp only [List.set]
   refine tkY 13 (v := ?v20012) ?y20012 ?r20012
   case y20012 => (intro W hW; go_simp; try with_reducible rfl)
   try simp only [List.set]
   refine tkY 14 (v := ?v20013) ?y20013 ?r20013
   case y20013 => (intro W hW; go_simp; try with_reducible rfl)
   try simp only [List.set]
   refine tkY 15 (v := ?v20014) ?y20014 ?r20014
   case y20014 => (intro W hW; go_simp; try with_reducible rfl)
   try simp only [List.set]
   refine wpAnyL_one (i := 16) (by kernel_rfl) rfl (by decide) (fun K hK => ?_)
   refine oper_call2 14 36 37 _ rfl _ _ rfl rfl (enters_of Tryz.func14 (by kernel_rfl) rfl) ?_
   refine (like9_c a r r.T _ W6 hB6 hR6 HI2.out).mono ?_
   rintro e W7 ⟨rfl, hF⟩
   refine ⟨_, rfl, ?_⟩
   have hS7 := sl_gr9 hS6 (Gr.of_below hF (fun _ => False)) hz6 (fun _ e => e.elim)
   have hB7 := hB6.later hF
   have hR7 := hR6.later hF
   have hb7 := hb6.trans (hF.mono hb6.size)
   have hz7 := Nat.le_trans hz6 hF.size
   have hc7 := Hcell.out W7 hS7
   clear hF hB6 hR6 hS6 hb6 hz6 hc6
   refine hK.out _ _ (hc7) (fun hH => ?_)
   clear hK K
   try simp only [Act.put, List.getElem_toArray, List.getElem_cons_zero, List.getElem_cons_succ, List.setIfInBounds_toArray, List.set_cons_zero, List.set_cons_succ]
   refine tkY 17 (v := ?v20015) ?y20015 ?r20015
   case y20015 => (intro W hW; go_simp; try with_reducible rfl)
   try simp only [List.set]
   refine wpAnyL_last (by kernel_rfl) rfl (fun K hK => ?_)
   go_simp
   refine hK.out _ _ ?_
   clear hK K
   try simp only [Act.put, List.getElem_toArray, List.getElem_cons_zero, List.getElem_cons_succ, List.setIfInBounds_toArray, List.set_cons_zero, List.set_cons_succ]
   refine wpAnyL_done (by kernel_rfl) ?_ _
   refine NoPanic.normal ?_
   rw [← HF.out] at hB7 hR7 HI2
   go_wp2
   go_roundw
   case rel => exact ⟨k + 1, by go_num, by omega, hB7, hR7, HI2.out, hS7, hb7, hz7⟩
   case measure => simp [intOf]; omega
  ·obtain rfl : k = m.length := by omega
   have g1 : decide ((m.length : Int) < (m.length : Int)) = false := decide_eq_false (by omega)
   rw [List.take_length] at hB hR hI
   have hs := hS.mono fun j hj => (Nat.lt_of_lt_of_le hj.1 hz)
   have HI := Lib.hid hI
   have HB := Lib.hid hB
   clear hR hI hS hB
   go_wp2_with fail
   refine (bfold_c A2 c2 m _ hs Hod.out Hlg.out (by omega)).mono ?_
   rintro e w5 ⟨p, v5, n5, rfl, hP, -, hO5, -, hp, hF⟩
   have hb5 := hb.trans (hF.mono hb.size)
   have hB5 := Lib.hid (HB.out.later hF)
   have hs := hs.later hF
   clear hF HB
   go_wp2_with fail
   refine (rfold9_c A2 c2 m _ hs Hod.out Hlg.out (by omega)).mono ?_
   rintro e w6 ⟨q, v6, rfl, hQ, hO6, -, hF⟩
   have hb6 := hb5.trans (hF.mono hb5.size)
   have hB6 := hB5.out.later hF
   have hP6 := hP.later hF
   obtain ⟨A5, c5, rfl, s5⟩ := hO5.sl
   obtain ⟨A6, c6, rfl, s6⟩ := hO6.sl
   have s5 := s5.later hF
   clear hF hB5 hP hO5 hO6 hs
   have HSr := Lib.hid (rsame9_c _ _ A5 A6 c5 c6 (toldL bk0 m) w6 s5 s6 (by rw [toldL_len]; omega))
   clear s5 s6
   go_wp2_with fail
   refine HSr.out.mono ?_
   rintro e w7 ⟨rfl, hF⟩
   have hb7 := hb6.trans (hF.mono hb6.size)
   have hB7 := hB6.later hF
   have hP7 := hP6.later hF
   have hQ7 := hQ.later hF
   clear hF hB6 hP6 hQ HSr
   go_wp2_with fail
   refine (like9_c p q q.T _ w7 hP7 hQ7 HI.out).mono ?_
   rintro e w8 ⟨rfl, hF⟩
   have hb8 := hb7.trans (hF.mono hb7.size)
   have hSm := Lib.hid (bsame_c a p _ _ w8 (hB7.later hF) (hP7.later hF) HI.out HI.out)
   rw [sameBk_refl] at hSm
   clear hF hB7 hP7 hQ7
   go_wp2_with fail
   refine hSm.out.mono ?_
   rintro e w9 ⟨rfl, hF⟩
   have hb9 := hb8.trans (hF.mono hb8.size)
   clear hF hSm
   go_wp2
   go_ret
   exact ⟨rfl, hb9⟩
end Go.Proofs.YtampniiehgimhaaGreat
