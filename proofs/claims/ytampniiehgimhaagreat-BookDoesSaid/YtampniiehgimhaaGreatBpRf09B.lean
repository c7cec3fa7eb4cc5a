/- ref09: Fold, SameReplies -/
import Derived.Test.YtampniiehgimhaaGreatRows
import Derived.Test.YtampniiehgimhaaGreatBpRf09
import Derived.Test.YtampniiehgimhaaGreatBn13
import Derived.WalkKit
import Derived.WalkSpells
import Derived.WalkLawsBesides
import Derived.Deep.QuietTactic
import Derived.BigQuiet
import Derived.Laws.StructEq
import Derived.Deep.DeepFit
import Derived.StillTailTactics
namespace Go.Proofs.YtampniiehgimhaaGreat
open Go.RowKit
set_option maxRecDepth 100000 in
set_option maxHeartbeats 8000000 in
theorem rfold9_c (A : Option Addr) (c : Nat) (l : List Od) (w : World) (h : Sl w w.heap.size A c l) (hx : ∀ x ∈ l, OdB x) (hl : ∀ x ∈ l, x.legs.length ≤ 65536) (hn : l.length ≤ 60000) :
  Calls Tryz.prog 16 #[.slice A l.length c] w fun e w' => ∃ (a : RA) (v : Value), e = .returned (.tuple #[v, a.ptr]) ∧ RkIs w' a a.T (foldL bk0 l) ∧ Own w' w.heap.size 31 v (toldL bk0 l) ∧ a.base = w.heap.size ∧ Below w.heap.size w w' := by
 have hN := Lib.hid (rnew9_c w)
 have H := Lib.hid h
 have Hx := Lib.hid hx
 have Hl := Lib.hid hl
 have hlc : l.length ≤ c := h.1
 clear h hx hl
 go_enter Tryz.func16, Tryz.ntmps16
 go_wp2_with fail
 refine hN.out.mono ?_
 rintro e w1 ⟨a, rfl, hb0, ha, hF⟩
 have Hlt := Lib.hid hb0.lt
 have Hba := Lib.hid ha
 have Ha := Lib.hid (show ∀ k, a.own k → w.heap.size ≤ k from fun k hk => by have := hb0.lo k hk; omega)
 have hsz := hF.size
 clear hN ha
 go_wp2_with fail
 go_loopw [5, 6] (fun v i wr => ∃ (k : Nat) (T : Nat → Prop), i = i64 k ∧ k ≤ l.length ∧ RkIs wr a T (foldL bk0 (l.take k)) ∧ (∀ j, wr.heap.size ≤ j → T j) ∧ (∀ j, T j → a.T j) ∧ (∀ g, v.ownBlock = some g → ¬ T g) ∧ InvB (foldL bk0 (l.take k)) ∧ Own wr w1.heap.size 31 v (toldL bk0 (l.take k)) ∧ Below w.heap.size w wr ∧ w1.heap.size ≤ wr.heap.size) (fun _ i _ => l.length - (intOf i).toNat)
 case atStart => exact ⟨0, a.T, rfl, Nat.zero_le _, hb0, hb0.new, fun _ h => h, fun g h => (by cases h), inv_bk0, Own.nil_ _ _ _, hF, Nat.le_refl _⟩
 case round =>
  clear hb0 hF
  obtain ⟨k, T, rfl, hk, hB, hTn, hTa, hTv, hI, hO, hb, hz⟩ := hrel
  by_cases hlt : k < l.length
  ·have g1 : decide ((k : Int) < (l.length : Int)) = true := decide_eq_true (by omega)
   have g2 : decide (k < l.length) = true := decide_eq_true hlt
   have i0 : (0 : Int) ≤ (k : Int) := by omega
   have i1 : (k : Int) < (l.length : Int) := by omega
   have hlw := H.out.below hb
   obtain ⟨b, o, rfl, hbb, _, c0, c1, c2, c3, c4, c5, c6, c7, c8, c9⟩ := hlw.od hlt
   have hin := RdIn.of_sl (hlw.mono fun _ h => h) (fun k hk => Ha.out k hk) hb.size Hl.out l[k] (List.getElem_mem hlt)
   have hxo := Hx.out l[k] (List.getElem_mem hlt)
   have HF := Lib.hid (show foldL bk0 (l.take (k + 1)) = (doL (foldL bk0 (l.take k)) l[k]).2 by rw [List.take_succ_eq_append_getElem hlt, foldL_snoc])
   have HTl := Lib.hid (show toldL bk0 (l.take (k + 1)) = toldL bk0 (l.take k) ++ [(doL (foldL bk0 (l.take k)) l[k]).1] by rw [List.take_succ_eq_append_getElem hlt, toldL_snoc])
   have HLn := Lib.hid (show (toldL bk0 (l.take k)).length = k by rw [toldL_len, List.length_take]; omega)
   have hI2 := hI.do_ hxo
   generalize foldL bk0 (l.take k) = B at *
   generalize toldL bk0 (l.take k) = ts at *
   obtain ⟨x, hxk⟩ : ∃ x, l[k] = x := ⟨_, rfl⟩
   rw [hxk] at c0 c1 c2 c3 c4 c5 c6 c7 c8 c9 hin hxo HF HTl hI2
   have HO1 := Lib.hid hO
   have HD := Lib.hid (rdo9_c a T B x wr hB hTn hI hxo hin)
   generalize doL B x = d at *
   obtain ⟨R, B2⟩ := d
   dsimp only at *
   have HI2 := Lib.hid hI2
   have HTa := Lib.hid hTa
   have HTn := Lib.hid hTn
   have HTv := Lib.hid hTv
   have HRo := Lib.hid (show ∀ k, a.own k → w.heap.size ≤ k from Ha.out)
   have Hof := Lib.hid (show ∀ (W : World), Gr wr W a.own → Below w.heap.size w W from fun W hG => hb.trans (hG.below hb.size Ha.out))
   clear hxk hin hxo hI hI2 hB hO hlw hbb hTa hTn hTv hb
   go_wp2_with fail
   refine HD.out.mono ?_
   rintro e w2 ⟨rfl, hB2, hG⟩
   have hb2 := Hof.out w2 hG
   have HO2 := HO1.out.gr hG (fun b hv e => by have h1 := (HO1.out.1.lt b hv).1; have h2 := Hlt.out b e; omega) (fun _ _ => trivial)
   have hz2 : w1.heap.size ≤ w2.heap.size := by have := hG.size; omega
   have Hzr := Lib.hid hG.size
   have HO3 := Lib.hid (HO2.later ((Below.refl _ _).alloc (Nat.le_refl _) (.cells #[i64 R.err, i64 R.hav, i64 R.set_, i64 R.num] 31)))
   have Hne := Lib.hid (HO2.new_ne (Nat.le_refl w2.heap.size))
   have HH := Lib.hid (heap_alloc_new w2 (.cells #[i64 R.err, i64 R.hav, i64 R.set_, i64 R.num] 31))
   have hb3 := hb2.alloc hb2.size (.cells #[i64 R.err, i64 R.hav, i64 R.set_, i64 R.num] 31)
   have hB3 := hB2.later ((Below.refl _ _).alloc (Nat.le_refl _) (.cells #[i64 R.err, i64 R.hav, i64 R.set_, i64 R.num] 31))
   have Hz3 := Lib.hid (show w1.heap.size ≤ (w2.alloc (.cells #[i64 R.err, i64 R.hav, i64 R.set_, i64 R.num] 31)).heap.size by simp; omega)
   have Hz4 := Lib.hid (show wr.heap.size ≤ (w2.alloc (.cells #[i64 R.err, i64 R.hav, i64 R.set_, i64 R.num] 31)).heap.size by simp; have := Hzr.out; omega)
   clear HO1 HO2 hG hb2 HD hB2 c0 c1 c2 c3 c4 c5 c6 c7 c8 c9
   go_wp2_with (at_builtin; refine wpList_append_one rfl (some 22) (.tmp 14) (.tmp 21) 39 rfl rfl (.agg #[i64 0, i64 0, i64 0, i64 0]) 32 Tryz.underlying39 rpInfo rfl (by decide) (by decide) rfl HO3.out w2.heap.size R rfl _ 31 HH.out rfl Hne.out trivial (by rw [HLn.out]; omega) Hz3.out ?_; intro v3 w3 hO3 hg3 hat3)
   rw [← HTl.out] at hO3
   obtain ⟨T2, hT2⟩ : ∃ T2 : Nat → Prop, T2 = fun j => T j ∧ v3.ownBlock ≠ some j := ⟨_, rfl⟩
   have hnv : ∀ j, (w2.alloc (.cells #[i64 R.err, i64 R.hav, i64 R.set_, i64 R.num] 31)).heap.size > j → T j → v3.ownBlock ≠ some j := fun j hj ht e => by
    rcases hat3 with h | h
    ·exact HTv.out j (by first | exact h.symm.trans e | exact h.trans e) ht
    ·rw [h] at e
     injection e with e
     omega
   have hB4 := (hB3.room (T' := T2) (fun j hj ht => by rw [hT2]; exact ⟨ht, hnv j hj ht⟩) (fun j hj ht => by rw [hT2] at ht; exact hB3.tn j hj ht.1)).kept (Gr.of_grown hg3) (fun j hj e => by have h1 := (HO3.out.1.lt j e).1; have h2 := Hlt.out j hj; omega) (fun j hj e => by rw [hT2] at hj; exact HTv.out j e hj.1)
   rw [← HF.out] at hB4 HI2
   have hb4 := hb3.trans (HO3.out.below hg3 hsz hb3.size)
   have hz4 := hg3.size
   have hT3 : ∀ j, w3.heap.size ≤ j → T2 j := fun j hj => by
    rw [hT2]
    refine ⟨HTn.out j (Nat.le_trans Hz4.out (Nat.le_trans hz4 hj)), fun e => ?_⟩
    have := (hO3.1.lt j e).2
    omega
   have HT2 := Lib.hid (show (∀ j, T2 j → a.T j) ∧ (∀ g, v3.ownBlock = some g → ¬ T2 g) from ⟨fun j hj => by rw [hT2] at hj; exact HTa.out j hj.1, fun g hv hj => by rw [hT2] at hj; exact hj.2 hv⟩)
   clear hg3 hat3 HO3 HH Hne hB3 hb3 hnv hT2
   go_roundw
   case rel => exact ⟨k + 1, T2, by go_num, by omega, hB4, hT3, HT2.out.1, HT2.out.2, HI2.out, hO3, hb4, Nat.le_trans Hz3.out hz4⟩
   case measure => simp [intOf]; omega
  ·obtain rfl : k = l.length := by omega
   have g1 : decide ((l.length : Int) < (l.length : Int)) = false := decide_eq_false (by omega)
   rw [List.take_length] at hB hI hO
   have HB := Lib.hid (hB.room (fun j _ hj => hTa j hj) (fun j hj => RA.T_own hj))
   have HO := Lib.hid (hO.mono hsz)
   clear hB hI hO hTn hTa hTv
   go_wp2
   go_ret2
   exact ⟨a, _, rfl, HB.out, HO.out, Hba.out, hb⟩
set_option maxRecDepth 100000 in
set_option maxHeartbeats 4000000 in
theorem rsame9_c (S T : Nat → Prop) (A B : Option Addr) (c d : Nat) (l : List Rp) (w : World) (hx : SlS w S A c l) (hy : SlS w T B d l) (hl : l.length ≤ 65536) :
  Calls Tryz.prog 17 #[.slice A l.length c, .slice B l.length d] w fun e w' => e = .returned (.bool true) ∧ Below w.heap.size w w' := by
 have Hx := Lib.hid hx
 have Hy := Lib.hid hy
 have hxc : l.length ≤ c := hx.1
 have hyd : l.length ≤ d := hy.1
 have q0 : ((l.length : Int) != (l.length : Int)) = false := by simp
 clear hx hy
 go_enter Tryz.func17, Tryz.ntmps17
 go_wp2
 go_loopw [5] (fun i wr => ∃ (j m : Nat), i = i64 j ∧ j ≤ l.length ∧ wr = w.drewN m) (fun i _ => l.length - (intOf i).toNat)
 case atStart => exact ⟨0, 0, rfl, by omega, rfl⟩
 case round =>
  obtain ⟨j, m, rfl, hj, rfl⟩ := hrel
  by_cases hlt : j < l.length
  ·have g1 : decide ((j : Int) < (l.length : Int)) = true := decide_eq_true (by omega)
   have i0 : (0 : Int) ≤ (j : Int) := by omega
   have i1 : (j : Int) < (l.length : Int) := by omega
   obtain ⟨b, o, hA, hb, c0, c1, c2, c3⟩ := Hx.out.rp hlt
   obtain ⟨b', o', hA', hb', c0', c1', c2', c3'⟩ := Hy.out.rp hlt
   subst hA hA'
   have he : ∀ W : World, (binOp .neq 31 (.agg #[i64 l[j].err, i64 l[j].hav, i64 l[j].set_, i64 l[j].num]) (.agg #[i64 l[j].err, i64 l[j].hav, i64 l[j].set_, i64 l[j].num])).run Tryz.prog W = .ok (.bool false) W := fun W => (neq_rp l[j] l[j] W).trans (by rw [decide_eq_true rfl]; rfl)
   go_wp2
   go_quiet (fail)
   go_wp2
   go_roundw
   case rel => exact ⟨j + 1, m + _, by go_num, by omega, rfl⟩
   case measure => simp [intOf]; omega
  ·have g1 : decide ((j : Int) < (l.length : Int)) = false := decide_eq_false (by omega)
   go_wp2
   go_ret
   exact ⟨rfl, below_quiet w _⟩
end Go.Proofs.YtampniiehgimhaaGreat
