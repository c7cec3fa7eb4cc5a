/- ref12.Events -/
import Derived.Test.YtampniiehgimhaaGreatRows
import Derived.Test.YtampniiehgimhaaGreatBsRf09B
import Derived.Test.YtampniiehgimhaaGreatBs28
import Derived.Test.YtampniiehgimhaaGreatBs26
import Derived.Test.YtampniiehgimhaaGreatBs4
import Derived.Test.YtampniiehgimhaaGreatBs5
import Derived.Test.YtampniiehgimhaaGreatBs13
import Derived.WalkKit
import Derived.WalkSpells
import Derived.WalkLawsBesides
import Derived.Deep.QuietTactic
import Derived.BigQuiet
import Derived.Laws.StructEq
import Derived.Deep.DeepFit
import Derived.StillTailTactics

namespace Go.Proofs.YtampniiehgimhaaGreat
open Go.RowKit
theorem touches_strict (x : Od) : StrictB (touches x) := compactL_strict (sortB_sorted bless_strict _)
/-- the events that the first so many names bring -/
def inT (x : Od) (k : ByteArray) (n : Nat) : Bool := ((touches x).take n).any fun s => decide (s = k)
theorem inT_iff {x : Od} {k : ByteArray} {n : Nat} : inT x k n = true ↔ k ∈ (touches x).take n := by
 unfold inT
 rw [List.any_eq_true]
 exact ⟨fun ⟨s, hs, e⟩ => (of_decide_eq_true e) ▸ hs, fun h => ⟨k, h, decide_eq_true rfl⟩⟩
def evK (B : Bk) (x : Od) (k : ByteArray) (n : Nat) : List Ev := if inT x k n = true then evD B x k else []
theorem evK_0 (B : Bk) (x : Od) (k : ByteArray) : evK B x k 0 = [] := if_neg (fun e => by have := inT_iff.1 e; simp at this)
theorem evK_all (B : Bk) (x : Od) (k : ByteArray) : evK B x k (touches x).length = evD B x k := by
 unfold evK
 by_cases h : inT x k (touches x).length = true
 ·rw [if_pos h]
 ·rw [if_neg h]
  refine (evD_none fun e => h (inT_iff.2 ?_)).symm
  rw [List.take_length]
  obtain ⟨s, hs, e2⟩ := List.any_eq_true.1 e.2
  rw [of_decide_eq_true e2]
  exact hs
theorem evK_miss {B : Bk} {x : Od} {k : ByteArray} {n : Nat} (hn : n < (touches x).length) (h : (touches x)[n] ≠ k) : evK B x k (n + 1) = evK B x k n := by
 have e : inT x k (n + 1) = inT x k n := by
  unfold inT
  rw [List.take_succ_eq_append_getElem hn, List.any_append]
  simp [h]
 unfold evK
 rw [e]
theorem evK_hit {B : Bk} {x : Od} {k : ByteArray} {n : Nat} (hn : n < (touches x).length) (h : (touches x)[n] = k) : evK B x k n = [] ∧ evK B x k (n + 1) = evD B x k ∧ nmB x k = true := by
 refine ⟨if_neg fun e => ?_, if_pos (inT_iff.2 ?_), List.any_eq_true.2 ⟨k, h ▸ List.getElem_mem hn, decide_eq_true rfl⟩⟩
 ·obtain ⟨j, hj, e⟩ := List.getElem_of_mem (inT_iff.1 e)
  rw [List.length_take] at hj
  rw [List.getElem_take] at e
  have := List.pairwise_iff_getElem.1 (touches_strict x) j n (by omega) hn (by omega)
  rw [e, h, bless_strict.irr] at this
  cases this
 ·rw [List.take_succ_eq_append_getElem hn, h]
  simp
/-- an event more: what lies beside the row stays -/
theorem ev_grow {Wa W7 w w1 w3 w4 : World} {a : RA} {T : Nat → Prop} {B2 : Bk} {g8 : Nat} {v v7 : Value} {e e7 : TypeId} {L L7 : List Ev} {O8 : Obj} {A9 : Option Addr} {c9 : Nat} {tt : List ByteArray}
  (h83 : g8 < w3.heap.size) (h34 : w3.heap.size ≤ w4.heap.size) (h4a : w4.heap.size ≤ Wa.heap.size) (hB : RkIs Wa a T B2) (hTn : ∀ j, Wa.heap.size ≤ j → T j) (hTv : ∀ g, v.ownBlock = some g → ¬ T g) (hvp : ∀ g, v.ownBlock = some g → g < g8 ∨ w4.heap.size ≤ g) (hlt : ∀ k, a.own k → k < w1.heap.size)
  (hO : Own Wa w1.heap.size e v L) (hO7 : Own W7 w1.heap.size e7 v7 L7) (hg : Wa.grownBy W7 v.ownBlock) (hat : v7.ownBlock = v.ownBlock ∨ v7.ownBlock = some Wa.heap.size) (_ : Below w.heap.size w Wa)
  (hrp : Wa.heap[g8]? = some O8) (s9 : SlS Wa (fun j => w3.heap.size ≤ j ∧ j < w4.heap.size) A9 c9 tt) :
  ∃ T2 : Nat → Prop, RkIs W7 a T2 B2 ∧ (∀ j, W7.heap.size ≤ j → T2 j) ∧ (∀ g, v7.ownBlock = some g → ¬ T2 g) ∧ (∀ g, v7.ownBlock = some g → g < g8 ∨ w4.heap.size ≤ g) ∧ W7.heap[g8]? = some O8 ∧ SlS W7 (fun j => w3.heap.size ≤ j ∧ j < w4.heap.size) A9 c9 tt := by
 have hnv : ∀ j, j < Wa.heap.size → T j → v7.ownBlock ≠ some j := fun j hj ht e => by
  rcases hat with h | h
  ·exact hTv j (h.symm.trans e) ht
  ·rw [h] at e
   injection e with e
   omega
 refine ⟨fun j => T j ∧ v7.ownBlock ≠ some j, (hB.room (T' := fun j => T j ∧ v7.ownBlock ≠ some j) (fun j hj ht => ⟨ht, hnv j hj ht⟩) (fun j hj ht => hB.tn j hj ht.1)).kept (Gr.of_grown hg) (fun j hj e => by have h1 := (hO.1.lt j e).1; have h2 := hlt j hj; omega) (fun j hj e => hTv j e hj.1), fun j hj => ⟨hTn j (Nat.le_trans hg.size hj), fun e => by have := (hO7.1.lt j e).2; omega⟩, fun g hv hj => hj.2 hv, fun g hv => ?_, (hg.block g8 (by omega) (fun e => by rcases hvp g8 e.symm with h | h <;> omega)).trans hrp, s9.grs (Gr.of_grown hg) (fun j hj => ⟨by have := hj.2; omega, fun e => by have := hj.1; have := hj.2; rcases hvp j e with h | h <;> omega⟩)⟩
 rcases hat with h | h
 ·exact hvp g (h.symm.trans hv)
 ·rw [h] at hv
  injection hv with hv
  exact .inr (by omega)
set_option maxRecDepth 100000 in
set_option maxHeartbeats 16000000 in
theorem rev_c (A : Option Addr) (c : Nat) (l : List Od) (k : ByteArray) (w : World) (h : Sl w w.heap.size A c l) (hx : ∀ x ∈ l, OdB x) (hl : ∀ x ∈ l, x.legs.length ≤ 10) (hn : l.length ≤ 60000) :
  Calls Tryz.prog 34 #[.slice A l.length c, .string k] w fun e w' => ∃ v, e = .returned v ∧ Own w' w.heap.size 162 v (evL bk0 l k) ∧ Below w.heap.size w w' := by
 have hN := Lib.hid (rnew9_c w)
 have H := Lib.hid h
 have Hx := Lib.hid hx
 have Hl := Lib.hid hl
 have Hl2 := Lib.hid (show ∀ x ∈ l, x.legs.length ≤ 65536 from fun x h => Nat.le_trans (hl x h) (by decide))
 have hlc : l.length ≤ c := h.1
 clear h hx hl
 go_enter Tryz.func34, Tryz.ntmps34
 go_wp2_with fail
 refine hN.out.mono ?_
 rintro e w1 ⟨a, rfl, hb0, ha, hF⟩
 have Hlt := Lib.hid hb0.lt
 have Ha := Lib.hid (show ∀ k, a.own k → w.heap.size ≤ k from fun k hk => by have := hb0.lo k hk; omega)
 have hsz := hF.size
 clear hN ha
 go_wp2_with fail
 go_loopw [6, 7] (fun v i wr => ∃ (n : Nat) (T : Nat → Prop), i = i64 n ∧ n ≤ l.length ∧ RkIs wr a T (foldL bk0 (l.take n)) ∧ (∀ j, wr.heap.size ≤ j → T j) ∧ (∀ g, v.ownBlock = some g → ¬ T g) ∧ InvB (foldL bk0 (l.take n)) ∧ Own wr w1.heap.size 162 v (evL bk0 (l.take n) k) ∧ Below w.heap.size w wr ∧ w1.heap.size ≤ wr.heap.size) (fun _ i _ => l.length - (intOf i).toNat)
 case atStart => exact ⟨0, a.T, rfl, Nat.zero_le _, hb0, hb0.new, fun g h => (by cases h), inv_bk0, Own.nil_ _ _ _, hF, Nat.le_refl _⟩
 case round =>
  clear hb0 hF
  obtain ⟨n, T, rfl, hnl, hB, hTn, hTv, hI, hO, hb, hz⟩ := hrel
  by_cases hlt : n < l.length
  ·have g1 : decide ((n : Int) < (l.length : Int)) = true := decide_eq_true (by omega)
   have g2 : decide (n < l.length) = true := decide_eq_true hlt
   have i0 : (0 : Int) ≤ (n : Int) := by omega
   have i1 : (n : Int) < (l.length : Int) := by omega
   have Hod := Lib.hid (fun V (hV : Below w.heap.size w V) => (H.out.below hV).od hlt)
   obtain ⟨b, o, rfl, hbb, hokx, c0, c1, c2, c3, c4, c5, c6, c7, c8, c9⟩ := Hod.out wr hb
   have hin := RdIn.of_sl ((H.out.below hb).mono fun _ h => h) (fun k hk => Ha.out k hk) hb.size Hl2.out l[n] (List.getElem_mem hlt)
   have hxo := Hx.out l[n] (List.getElem_mem hlt)
   have hlo := Hl.out l[n] (List.getElem_mem hlt)
   have HF := Lib.hid (show foldL bk0 (l.take (n + 1)) = (doL (foldL bk0 (l.take n)) l[n]).2 by rw [List.take_succ_eq_append_getElem hlt, foldL_snoc])
   have HE := Lib.hid (show evL bk0 (l.take (n + 1)) k = evL bk0 (l.take n) k ++ evD (foldL bk0 (l.take n)) l[n] k by rw [List.take_succ_eq_append_getElem hlt, evL_snoc])
   have HLn := Lib.hid (show (evL bk0 (l.take n) k).length ≤ 60000 by
    have h1 := evL_le inv_bk0 k (l.take n) (fun x hx => Hx.out x (List.mem_of_mem_take hx))
    rw [List.length_take] at h1
    omega)
   have HIo := Lib.hid hI
   have hI2 := hI.do_ hxo
   generalize foldL bk0 (l.take n) = B at *
   generalize evL bk0 (l.take n) k = es at *
   obtain ⟨x, hxk⟩ : ∃ x, l[n] = x := ⟨_, rfl⟩
   rw [hxk] at c0 c1 c2 c3 c4 c5 c6 c7 c8 c9 hin hxo HF HE hI2 hlo
   have Hxk := Lib.hid hxk
   have HO1 := Lib.hid hO
   have HD := Lib.hid (rdo9_c a T B x wr hB hTn hI hxo hin)
   have HEv := Lib.hid (fun (hok : (doL B x).1.err = 0) (hk : nmB x k = true) => evD_some hI hok hk)
   have HEn := Lib.hid (fun (hno : (doL B x).1.err ≠ 0) => evD_none (B := B) (x := x) (k := k) (fun e => hno e.1))
   have HT := Lib.hid (fun V (hV : Okb V V.heap.size x) => rtouches_c x V hV hlo)
   have Hin := Lib.hid hin
   have Htl := Lib.hid (touches_len x hlo)
   have HK0 := Lib.hid (evK_0 B x k)
   have HKa := Lib.hid (evK_all B x k)
   have HKn := Lib.hid (show evD B x k = [] → ∀ q, evK B x k q = [] from fun e q => by unfold evK; rw [e]; split <;> rfl)
   have HKm := Lib.hid (fun n hn h => evK_miss (B := B) (x := x) (k := k) (n := n) hn h)
   have HKh := Lib.hid (fun n hn h => evK_hit (B := B) (x := x) (k := k) (n := n) hn h)
   obtain ⟨D, hD⟩ : ∃ D, D = doL B x := ⟨_, rfl⟩
   rw [← hD] at HD HF hI2 HEv HEn
   obtain ⟨R, B2⟩ := D
   dsimp only at HD HF hI2 HEv HEn
   generalize evD B x k = ed at *
   generalize evK B x k = ek at *
   have HI2 := Lib.hid hI2
   have HTn := Lib.hid hTn
   have HTv := Lib.hid hTv
   have Hof := Lib.hid (show ∀ (W : World), Gr wr W a.own → Below w.heap.size w W from fun W hG => hb.trans (hG.below hb.size Ha.out))
   clear hxk hin hxo hI hI2 hB hO hbb hTn hTv hb hokx hD hlo HIo
   go_wp2_with fail
   refine HD.out.mono ?_
   rintro e w2 ⟨rfl, hB2, hG⟩
   have hb2 := Hof.out w2 hG
   have hin2 := Hin.out.kept hG
   have HO2 := HO1.out.gr hG (fun b hv e => by have h1 := (HO1.out.1.lt b hv).1; have h2 := Hlt.out b e; omega) (fun _ _ => trivial)
   have hz2 : wr.heap.size ≤ w2.heap.size := hG.size
   have hba := (Below.refl w2.heap.size w2).alloc (Nat.le_refl _) (.cells #[i64 R.err, i64 R.hav, i64 R.set_, i64 R.num] 31)
   have hrp := heap_alloc_new w2 (.cells #[i64 R.err, i64 R.hav, i64 R.set_, i64 R.num] 31)
   have hb3 := hb2.alloc hb2.size (.cells #[i64 R.err, i64 R.hav, i64 R.set_, i64 R.num] 31)
   have hB3 := hB2.later hba
   have hin3 := hin2.later hba
   have hO3 := HO2.later hba
   have hz3 : w2.heap.size + 1 = (w2.alloc (.cells #[i64 R.err, i64 R.hav, i64 R.set_, i64 R.num] 31)).heap.size := by simp
   have Hvl := Lib.hid (fun g (hv : (_ : Value).ownBlock = some g) => (HO2.1.lt g hv).2)
   clear HO1 HO2 hG hb2 HD hB2 hin2 hba Hin Hof c0 c1 c2 c3 c4 c5 c6 c7 c8 c9
   have Hd := Lib.hid (show ∀ V, Below w.heap.size w V → V.cell? ⟨b, o + n * 10, none⟩ = some (i64 x.client) ∧ V.cell? ⟨b, o + n * 10 + 1, none⟩ = some (i64 x.seq) ∧ V.cell? ⟨b, o + n * 10 + 2, none⟩ = some (i64 x.kind) ∧ V.cell? ⟨b, o + n * 10 + 3, none⟩ = some (.string x.acct) ∧ V.cell? ⟨b, o + n * 10 + 4, none⟩ = some (.string x.peer) ∧ V.cell? ⟨b, o + n * 10 + 5, none⟩ = some (i64 x.sum) ∧ V.cell? ⟨b, o + n * 10 + 6, none⟩ = some (.slice x.la x.legs.length x.lc) ∧ V.cell? ⟨b, o + n * 10 + 7, none⟩ = some (i64 x.period) ∧ V.cell? ⟨b, o + n * 10 + 8, none⟩ = some (i64 x.hold) ∧ V.cell? ⟨b, o + n * 10 + 9, none⟩ = some (.string x.note) from fun V hV => by
    obtain ⟨b', o', hA, -, -, h⟩ := Hod.out V hV
    injection hA with hA
    injection hA with hA1 hA2
    subst hA1 hA2
    rw [Hxk.out] at h
    exact h)
   obtain ⟨d0, d1, d2, d3, d4, d5, d6, d7, d8, d9⟩ := Hd.out _ hb3
   go_wp2_with fail
   generalize w2.alloc (.cells #[i64 R.err, i64 R.hav, i64 R.set_, i64 R.num] 31) = w3 at *
   generalize w2.heap.size = g8 at *
   refine (HT.out _ hin3.okb).mono ?_
   rintro e w4 ⟨v9, rfl, hO9, hF⟩
   have hb4 := hb3.trans (hF.mono hb3.size)
   have hB4 := hB3.later hF
   have hO4 := hO3.later hF
   have hrp4 := (hF.block g8 (by omega)).trans hrp
   obtain ⟨A9, c9, rfl, s9⟩ := Own.slW9 (S := fun j => w3.heap.size ≤ j ∧ j < w4.heap.size) hO9 (fun b hb' => ⟨(hO9.1.lt b hb').1, (hO9.1.lt b hb').2⟩) (fun y hy => hO9.2 y hy)
   have hz4 := hF.size
   have hTn4 := Lib.hid (show ∀ j, w4.heap.size ≤ j → T j from fun j hj => HTn.out j (by omega))
   have h9c : (touches x).length ≤ c9 := s9.1
   clear hF hO3 hB3 hb3 hrp hin3 HT hO9 d0 d1 d2 d3 d4 d5 d6 d7 d8 d9
   generalize touches x = tt at *
   have htl := Htl.out
   go_wp2_with fail
   go_loopw [6, 10] (fun v iv wq => ∃ (q : Nat) (T : Nat → Prop), iv = i64 q ∧ q ≤ tt.length ∧ RkIs wq a T B2 ∧ (∀ j, wq.heap.size ≤ j → T j) ∧ (∀ g, v.ownBlock = some g → ¬ T g) ∧ (∀ g, v.ownBlock = some g → g < g8 ∨ w4.heap.size ≤ g) ∧ Own wq w1.heap.size 162 v (es ++ ek q) ∧ wq.heap[g8]? = some (.cells #[i64 R.err, i64 R.hav, i64 R.set_, i64 R.num] 31 (0, 0)) ∧ SlS wq (fun j => w3.heap.size ≤ j ∧ j < w4.heap.size) A9 c9 tt ∧ Below w.heap.size w wq ∧ w4.heap.size ≤ wq.heap.size) (fun _ iv _ => tt.length - (intOf iv).toNat)
   case atStart => exact ⟨0, T, rfl, Nat.zero_le _, hB4, hTn4.out, HTv.out, fun g hg => .inl (Hvl.out g hg), by rw [HK0.out, List.append_nil]; exact hO4, hrp4, s9, hb4, Nat.le_refl _⟩
   case round =>
    clear hB4 hO4 hrp4 s9 hb4 HTv HTn hTn4 Hvl
    obtain ⟨q, T, rfl, hq, hB, hTn, hTv, hvp, hO, hrp, s9, hb, hzq⟩ := hrel
    have r0 := cell_of_row _ g8 0 _ _ (0, 0) hrp
    simp only [List.getElem?_toArray, List.getElem?_cons_zero, List.getElem?_cons_succ] at r0
    by_cases hqt : q < tt.length
    ·have g3 : decide ((q : Int) < (tt.length : Int)) = true := decide_eq_true (by omega)
     have g4 : decide (q < tt.length) = true := decide_eq_true hqt
     have j0 : (0 : Int) ≤ (q : Int) := by omega
     have j1 : (q : Int) < (tt.length : Int) := by omega
     by_cases he : R.err = 0
     ·have e0 : (R.err == 0) = true := beq_iff_eq.2 he
      obtain ⟨b9, o9, hA9, -, -, f0⟩ := str_at s9 hqt
      subst hA9
      by_cases htk : tt[q] = k
      ·have e1 := beqS_of_eq htk
       obtain ⟨k1, k2, k3⟩ := HKh.out q hqt htk
       obtain ⟨ac, hed, hac, -⟩ := HEv.out he k3
       rw [k1, List.append_nil] at hO
       have Hek := Lib.hid (show es ++ ek (q + 1) = es ++ [evA x ac] by rw [k2, hed])
       have HGt := Lib.hid (fun W (hW : RkIs W a T B2) => rget_c T a.gc B2.L k W hW.c (Nat.le_trans HI2.out.len (by decide)))
       rw [getLR_some hac] at HGt
       have HB := Lib.hid hB
       have HO := Lib.hid hO
       have Hrp := Lib.hid hrp
       have Hs9 := Lib.hid s9
       have Hvp := Lib.hid hvp
       have HTn := Lib.hid hTn
       have HTv := Lib.hid hTv
       have p0 := cell_of_row _ a.r 0 _ _ (0, 0) hB.cell
       simp only [List.getElem?_toArray, List.getElem?_cons_zero, List.getElem?_cons_succ] at p0
       clear htk he k1 k2 k3 hed hac hO hB hrp s9 hvp hTn hTv HKh HKm HEv HEn HKa HK0 HE HKn
       go_wp2_with fail
       refine (HGt.out _ HB.out).mono ?_
       rintro e W5 ⟨rfl, hF⟩
       have Hge11 := Lib.hid hF.size
       have hb5 := hF.alloc hF.size (.cells #[.string ac.name, i64 ac.hav, i64 ac.set_, i64 ac.lim] 140)
       have hg11 := heap_alloc_new W5 (.cells #[.string ac.name, i64 ac.hav, i64 ac.set_, i64 ac.lim] 140)
       clear HGt hF p0 f0 r0
       go_upto_region 13 with fail
       generalize W5.alloc (.cells #[.string ac.name, i64 ac.hav, i64 ac.set_, i64 ac.lim] 140) = W6 at *
       generalize W5.heap.size = g11 at *
       have HO6 := Lib.hid (HO.out.later hb5)
       have HB6 := Lib.hid (HB.out.later hb5)
       have hl11 : g11 < W6.heap.size := (Array.getElem?_eq_some_iff.1 hg11).1
       have Hb6 := Lib.hid (hb.trans (hb5.mono hb.size))
       have Hz6 := Lib.hid (show wr.heap.size ≤ W6.heap.size from hb5.size)
       have Hz1 := Lib.hid (show w1.heap.size ≤ W6.heap.size by have := hb5.size; omega)
       have Hlen := Lib.hid (show es.length + 1 ≤ 4294967296 by have := HLn.out; omega)
       have HS := Lib.hid (show ∀ V, Below W6.heap.size W6 V → (fun V : World => V.cell? ⟨b, o + n * 10, none⟩ = some (i64 x.client) ∧ V.cell? ⟨b, o + n * 10 + 1, none⟩ = some (i64 x.seq) ∧ V.cell? ⟨b, o + n * 10 + 2, none⟩ = some (i64 x.kind) ∧ V.cell? ⟨g11, 1, none⟩ = some (i64 ac.hav) ∧ V.cell? ⟨g11, 2, none⟩ = some (i64 ac.set_)) V from fun V hV => by
        obtain ⟨d0, d1, d2, -⟩ := Hd.out V (Hb6.out.trans (hV.mono Hb6.out.size))
        have hg := (hV.block g11 hl11).trans hg11
        exact ⟨d0, d1, d2, cell_of_row _ g11 1 _ _ (0, 0) hg, cell_of_row _ g11 2 _ _ (0, 0) hg⟩)
       have HS3 := Lib.hid (show ∀ V, Below w.heap.size w V → V.heap[g11]? = some (.cells #[.string ac.name, i64 ac.hav, i64 ac.set_, i64 ac.lim] 140 (0, 0)) → (fun V : World => V.cell? ⟨b, o + n * 10, none⟩ = some (i64 x.client) ∧ V.cell? ⟨b, o + n * 10 + 1, none⟩ = some (i64 x.seq) ∧ V.cell? ⟨b, o + n * 10 + 2, none⟩ = some (i64 x.kind) ∧ V.cell? ⟨g11, 1, none⟩ = some (i64 ac.hav) ∧ V.cell? ⟨g11, 2, none⟩ = some (i64 ac.set_)) V from fun V hV hg => by
        obtain ⟨d0, d1, d2, -⟩ := Hd.out V hV
        exact ⟨d0, d1, d2, cell_of_row _ g11 1 _ _ (0, 0) hg, cell_of_row _ g11 2 _ _ (0, 0) hg⟩)
       have Hg11 := Lib.hid hg11
       have Hl11 := Lib.hid hl11
       have Hrp6 := Lib.hid ((hb5.block g8 (by omega)).trans Hrp.out)
       have Hs96 := Lib.hid (Hs9.out.grs (Gr.of_below hb5 (fun _ => False)) (fun j hj => ⟨by have := hj.2; omega, fun e => e⟩))
       clear hg11 hb5 hb hl11
       refine wp_region_noPanic ?_
       refine wp_region_l 18 (fun V : World => V.cell? ⟨b, o + n * 10, none⟩ = some (i64 x.client) ∧ V.cell? ⟨b, o + n * 10 + 1, none⟩ = some (i64 x.seq) ∧ V.cell? ⟨b, o + n * 10 + 2, none⟩ = some (i64 x.kind) ∧ V.cell? ⟨g11, 1, none⟩ = some (i64 ac.hav) ∧ V.cell? ⟨g11, 2, none⟩ = some (i64 ac.set_)) (by kernel_rfl) (HS.out _ (Below.refl _ _).drew) (fun hH => ?_)
       refine tkZ 0 ?_; refine tkZ 1 ?_; refine tkZ 2 ?_; refine tkZ 3 ?_; refine tkZ 4 ?_; refine tkZ 5 ?_; refine tkZ 6 ?_; refine tkZ 7 ?_; refine tkZ 8 ?_; refine tkZ 9 ?_; refine tkZ 10 ?_; refine tkZ 11 ?_; refine tkZ 12 ?_; refine tkZ 13 ?_; refine tkZ 14 ?_; refine tkZ 15 ?_
       refine tkO 16 (fun K hK => ?_)
       go_simp
       have hgl := heap_alloc_new W6.drew (.cells #[i64 x.client, i64 x.seq, i64 x.kind, i64 ac.hav, i64 ac.set_] 162)
       have hb1 := (Below.refl W6.heap.size W6).drew.alloc (Nat.le_refl _) (.cells #[i64 x.client, i64 x.seq, i64 x.kind, i64 ac.hav, i64 ac.set_] 162)
       have HOv := Lib.hid (HO6.out.later hb1)
       refine hK.out _ _ (HS.out _ hb1) (fun hH => ?_)
       clear hK K
       try simp only [Act.put, uA, uZ, uS, vA, vZ, vS]
       refine tkO 17 (fun K hK => ?_)
       refine oper_append_one (.tmp 57) (.tmp 73) 61 rfl _ 40 Tryz.underlying61 inf12 rfl (by decide) (by decide) rfl HOv.out W6.heap.size (evA x ac) rfl _ 162 hgl rfl (fun e => by have := (HO6.out.1.lt _ e.symm).2; omega) trivial Hlen.out (Nat.le_trans Hz1.out hb1.size) ?_
       intro v7 W7 hO7 hg7 hat7
       have hb7 := (Hb6.out.trans (hb1.mono Hb6.out.size)).trans (HOv.out.below hg7 hsz (Nat.le_trans Hb6.out.size hb1.size))
       have hr11 := (hg7.block g11 (Nat.lt_of_lt_of_le Hl11.out hb1.size) (fun e => by have := (HO.out.1.lt g11 e.symm).2; have := Hge11.out; omega)).trans ((hb1.block g11 Hl11.out).trans Hg11.out)
       have hS7 := HS3.out W7 hb7 hr11
       have HG := Lib.hid (ev_grow (Nat.lt_of_succ_le (Nat.le_of_eq hz3)) hz4 (Nat.le_trans hzq (Nat.le_trans Hz6.out hb1.size)) (HB6.out.later hb1) (fun j hj => HTn.out j (Nat.le_trans (Nat.le_trans Hz6.out hb1.size) hj)) HTv.out Hvp.out Hlt.out HOv.out hO7 hg7 hat7 (((Hb6.out.trans (hb1.mono Hb6.out.size)))) ((hb1.block g8 (by have := hzq; have := Hz6.out; omega)).trans Hrp6.out) (Hs96.out.grs (Gr.of_below hb1 (fun _ => False)) (fun j hj => ⟨by have := hzq; have := Hz6.out; have := hj.2; omega, fun e => e⟩)))
       have HO7 := Lib.hid hO7
       have Hb7 := Lib.hid hb7
       have Hz7 := Lib.hid (Nat.le_trans hb1.size hg7.size)
       clear hO7 hg7 hat7 hb7 hr11
       refine hK.out _ _ (hS7) (fun hH => ?_)
       clear hK K
       try simp only [Act.put, uA, uZ, uS, vA, vZ, vS]
       refine tkL (fun K hK => ?_)
       go_simp
       refine hK.out _ _ ?_
       clear hK K
       try simp only [Act.put, uA, uZ, uS, vA, vZ, vS]
       refine tkD ?_
       obtain ⟨T2, q1, q2, q3, q4, q5, q6⟩ := HG.out
       have HQ := Lib.hid (And.intro q1 (And.intro q2 (And.intro q3 (And.intro q4 (And.intro q5 q6)))))
       clear q1 q2 q3 q4 q5 q6
       go_wp2
       go_roundw
       case rel => exact ⟨q + 1, T2, by go_num, by omega, HQ.out.1, HQ.out.2.1, HQ.out.2.2.1, HQ.out.2.2.2.1, by rw [Hek.out]; exact HO7.out, HQ.out.2.2.2.2.1, HQ.out.2.2.2.2.2, Hb7.out, Nat.le_trans hzq (Nat.le_trans Hz6.out Hz7.out)⟩
       case measure => simp [intOf]; omega
      ·have e1 := beqS_of_ne htk
       have Hek := Lib.hid (HKm.out q hqt htk)
       clear htk he
       go_wp2
       go_roundw
       case rel => exact ⟨q + 1, T, by go_num, by omega, hB, hTn, hTv, hvp, by rw [Hek.out]; exact hO, hrp, s9, hb, hzq⟩
       case measure => simp [intOf]; omega
     ·have e0 : (R.err == 0) = false := beq_eq_false_iff_ne.2 he
      have HEx := Lib.hid (show es ++ ek q = evL bk0 (l.take (n + 1)) k by rw [HE.out, HEn.out he, HKn.out (HEn.out he) q])
      have HI2' := Lib.hid (show InvB (foldL bk0 (l.take (n + 1))) by rw [HF.out]; exact HI2.out)
      rw [HEx.out] at hO
      rw [← HF.out] at hB
      clear he s9 hrp hvp HKh HKm HEv HEn HKa HK0 HE HKn
      go_wp2
      go_roundw
      case rel => exact ⟨n + 1, T, by go_num, by omega, hB, hTn, hTv, HI2'.out, hO, hb, by omega⟩
      case measure => simp [intOf]; omega
    ·have hqe : q = tt.length := by omega
     have g3 : decide ((q : Int) < (tt.length : Int)) = false := decide_eq_false (by omega)
     have g4 : decide (q < tt.length) = false := decide_eq_false hqt
     have HEx := Lib.hid (show es ++ ek q = evL bk0 (l.take (n + 1)) k by rw [HE.out, hqe, HKa.out])
     have HI2' := Lib.hid (show InvB (foldL bk0 (l.take (n + 1))) by rw [HF.out]; exact HI2.out)
     rw [HEx.out] at hO
     rw [← HF.out] at hB
     clear s9 hrp hvp HKh HKm HEv HEn HKa HK0 HE HKn hqe
     go_wp2
     go_roundw
     case rel => exact ⟨n + 1, T, by go_num, by omega, hB, hTn, hTv, HI2'.out, hO, hb, by omega⟩
     case measure => simp [intOf]; omega
  ·obtain rfl : n = l.length := by omega
   have g1 : decide ((l.length : Int) < (l.length : Int)) = false := decide_eq_false (by omega)
   rw [List.take_length] at hO
   have HO := Lib.hid (hO.mono hsz)
   clear hO hB hTn hTv hI
   go_wp2
   go_ret
   exact ⟨_, rfl, HO.out, hb⟩
end Go.Proofs.YtampniiehgimhaaGreat
