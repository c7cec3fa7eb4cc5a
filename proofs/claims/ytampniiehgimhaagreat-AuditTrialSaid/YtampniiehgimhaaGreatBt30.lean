/- Texts of this claim, laid together. -/
import Derived.Test.YtampniiehgimhaaGreatRows
import Derived.Test.YtampniiehgimhaaGreatBs29
import Derived.Test.YtampniiehgimhaaGreatBs23
import Derived.Test.YtampniiehgimhaaGreatBs12
import Derived.Test.YtampniiehgimhaaGreatBs9
import Derived.Test.YtampniiehgimhaaGreatBs13
import Derived.Test.YtampniiehgimhaaGreatBs4
import Derived.Test.YtampniiehgimhaaGreatBs5
import Derived.WalkKit
import Derived.WalkSpells
import Derived.WalkLawsBesides
import Derived.Deep.QuietTactic
import Derived.BigQuiet
import Derived.Laws.StructEq
import Derived.Deep.DeepFit
import Derived.StillTailTactics
import Derived.Test.YtampniiehgimhaaGreatBs1
import Derived.Test.YtampniiehgimhaaGreatBtX

/- audit: legs, moved -/
namespace Go.Proofs.YtampniiehgimhaaGreat
open Go.RowKit
theorem mvInfo : (Tryz.prog.info? 85).map (fun i => (i.zero, i.size, i.bytes)) = some (some (.agg #[i64 0, i64 0, i64 0, .slice none 0 0]), Enc.size Mv, 48) := by kernel_rfl
theorem lnInfo : (Tryz.prog.info? 104).map (fun i => (i.zero, i.size, i.bytes)) = some (some (.agg #[.string ByteArray.empty, i64 0, i64 0]), Enc.size Ln, 32) := by kernel_rfl
theorem wrap_neg {s : Int} (h : 1 ≤ s ∧ s ≤ 9223372036854775807) : wrap64 (-s) = -s := by rw [← IntWalk.i64_left, IntKind.wrap_i64]; omega
theorem SlS.some_ {α : Type} [Enc α] {w : World} {S : Nat → Prop} {c : Nat} {A : Option Addr} {l : List α} (h : SlS w S A c l) (h0 : 0 < l.length) : A.isNone = false := by
 obtain ⟨b, o, rfl, -⟩ := h.2.2.1 h0
 rfl
/-- blocks that are new behind w -/
abbrev NewB (w w' : World) : Nat → Prop := fun b => w.heap.size ≤ b ∧ b < w'.heap.size
set_option maxRecDepth 100000 in
set_option maxHeartbeats 4000000 in
theorem alegs_c (x : Od) (w : World) (hl : Okb w w.heap.size x) (hk : x.kind = 2 ∨ x.kind = 4) (hs : x.kind = 4 → 1 ≤ x.sum ∧ x.sum ≤ 9223372036854775807) (hn : x.legs.length ≤ 65536) :
  Calls Tryz.prog 81 #[x.v] w fun e w' => ∃ A c, e = .returned (.slice A (mvL x).length c) ∧ SlS w' (NewB w w') A c (mvL x) ∧ Below w.heap.size w w' := by
 rcases hk with k | k
 ·have hm : mvL x = x.legs := by unfold mvL; rw [if_pos k]
  rw [hm]
  have hba := (Below.refl w.heap.size w).alloc (Nat.le_refl _) (.cells #[i64 x.client, i64 x.seq, i64 x.kind, .string x.acct, .string x.peer, i64 x.sum, .slice x.la x.legs.length x.lc, i64 x.period, i64 x.hold, .string x.note] 37)
  have hob := heap_alloc_new w (.cells #[i64 x.client, i64 x.seq, i64 x.kind, .string x.acct, .string x.peer, i64 x.sum, .slice x.la x.legs.length x.lc, i64 x.period, i64 x.hold, .string x.note] 37)
  have hl1 := (show Sl w w.heap.size x.la x.lc x.legs from hl.legs).later hba
  have HC := Lib.hid (clone_leg x.la x.lc x.legs _ hl1 hn)
  have k2 := cell_of_row _ w.heap.size 2 _ _ (0, 0) hob
  have k6 := cell_of_row _ w.heap.size 6 _ _ (0, 0) hob
  simp only [List.getElem?_toArray, List.getElem?_cons_zero, List.getElem?_cons_succ] at k2 k6
  have g1 : (x.kind == 2) = true := beq_iff_eq.2 k
  have hsz : (w.alloc (.cells #[i64 x.client, i64 x.seq, i64 x.kind, .string x.acct, .string x.peer, i64 x.sum, .slice x.la x.legs.length x.lc, i64 x.period, i64 x.hold, .string x.note] 37)).heap.size = w.heap.size + 1 := by simp
  clear hl hl1 hob k hs hm
  unfold Od.v
  go_enter Tryz.func81, Tryz.ntmps81
  go_wp2_with fail
  generalize w.alloc (.cells #[i64 x.client, i64 x.seq, i64 x.kind, .string x.acct, .string x.peer, i64 x.sum, .slice x.la x.legs.length x.lc, i64 x.period, i64 x.hold, .string x.note] 37) = w1 at *
  refine HC.out.mono ?_
  rintro e w2 ⟨v, rfl, hO, hF⟩
  have hb2 := below_on hba (by omega) hF
  obtain ⟨A, c, rfl, hS⟩ := hO.sl_at (S := NewB w w2) (fun b e => ⟨by have := (hO.1.lt b e).1; omega, (hO.1.lt b e).2⟩) (fun y hy => hO.2 y hy)
  have HS := Lib.hid hS
  clear hO hS HC hF hba
  go_wp2
  go_ret
  exact ⟨A, c, rfl, HS.out, hb2⟩
 ·obtain ⟨ns, hns⟩ : ∃ ns, ns = -x.sum := ⟨_, rfl⟩
  have hm : mvL x = [⟨x.acct, ns⟩, ⟨x.peer, x.sum⟩] := by unfold mvL legs2; rw [if_neg (by omega), hns]
  rw [hm]
  have hba := (Below.refl w.heap.size w).alloc (Nat.le_refl _) (.cells #[i64 x.client, i64 x.seq, i64 x.kind, .string x.acct, .string x.peer, i64 x.sum, .slice x.la x.legs.length x.lc, i64 x.period, i64 x.hold, .string x.note] 37)
  have hob := heap_alloc_new w (.cells #[i64 x.client, i64 x.seq, i64 x.kind, .string x.acct, .string x.peer, i64 x.sum, .slice x.la x.legs.length x.lc, i64 x.period, i64 x.hold, .string x.note] 37)
  have k2 := cell_of_row _ w.heap.size 2 _ _ (0, 0) hob
  have k3 := cell_of_row _ w.heap.size 3 _ _ (0, 0) hob
  have k4 := cell_of_row _ w.heap.size 4 _ _ (0, 0) hob
  have k5 := cell_of_row _ w.heap.size 5 _ _ (0, 0) hob
  simp only [List.getElem?_toArray, List.getElem?_cons_zero, List.getElem?_cons_succ] at k2 k3 k4 k5
  have g1 : (x.kind == 2) = false := beq_eq_false_iff_ne.2 (by omega)
  have g2 : (x.kind == 4) = true := beq_iff_eq.2 k
  have hw : wrap64 (-x.sum) = ns := by rw [hns]; exact wrap_neg (hs k)
  have hsz : (w.alloc (.cells #[i64 x.client, i64 x.seq, i64 x.kind, .string x.acct, .string x.peer, i64 x.sum, .slice x.la x.legs.length x.lc, i64 x.period, i64 x.hold, .string x.note] 37)).heap.size = w.heap.size + 1 := by simp
  have Hok := Lib.hid (show x.acct.size ≤ maxLen ∧ x.peer.size ≤ maxLen from ⟨hl.acct, hl.peer⟩)
  clear hl hob k hs hm hns
  unfold Od.v
  go_enter Tryz.func81, Tryz.ntmps81
  go_wp2_with fail
  generalize w.alloc (.cells #[i64 x.client, i64 x.seq, i64 x.kind, .string x.acct, .string x.peer, i64 x.sum, .slice x.la x.legs.length x.lc, i64 x.period, i64 x.hold, .string x.note] 37) = w1 at *
  have hO2 := own_lit (w := w1) (base := w1.heap.size) 167 #[.string x.acct, i64 ns, .string x.peer, i64 x.sum] [(⟨x.acct, ns⟩ : Leg), ⟨x.peer, x.sum⟩] (Nat.le_refl _) rfl (by simp) (fun y hy => by
   rcases List.mem_cons.1 hy with rfl | hy
   ·exact Hok.out.1
   ·rw [List.mem_singleton.1 hy]; exact Hok.out.2)
  obtain ⟨A, c, hv, hS⟩ := hO2.sl_at (S := NewB w (w1.alloc (.cells #[.string x.acct, i64 ns, .string x.peer, i64 x.sum] 167))) (fun b e => ⟨by have := (hO2.1.lt b e).1; omega, (hO2.1.lt b e).2⟩) (fun y hy => hO2.2 y hy)
  rw [hsz] at hv
  have HS := Lib.hid hS
  have Hv := Lib.hid hv
  have hb2 := hba.alloc (by omega) (.cells #[.string x.acct, i64 ns, .string x.peer, i64 x.sum] 167)
  clear hO2 hS hv hba
  go_wp2
  go_ret
  exact ⟨A, c, congrArg Ending.returned (show _ = _ from Hv.out), HS.out, hb2⟩
set_option maxRecDepth 100000 in
set_option maxHeartbeats 4000000 in
theorem alegs_no (x : Od) (w : World) (hk : ¬ (x.kind = 2 ∨ x.kind = 4)) :
  Calls Tryz.prog 81 #[x.v] w fun e w' => e = .returned (.slice none 0 0) ∧ Below w.heap.size w w' := by
 have hba := (Below.refl w.heap.size w).alloc (Nat.le_refl _) (.cells #[i64 x.client, i64 x.seq, i64 x.kind, .string x.acct, .string x.peer, i64 x.sum, .slice x.la x.legs.length x.lc, i64 x.period, i64 x.hold, .string x.note] 37)
 have hob := heap_alloc_new w (.cells #[i64 x.client, i64 x.seq, i64 x.kind, .string x.acct, .string x.peer, i64 x.sum, .slice x.la x.legs.length x.lc, i64 x.period, i64 x.hold, .string x.note] 37)
 have k2 := cell_of_row _ w.heap.size 2 _ _ (0, 0) hob
 simp only [List.getElem?_toArray, List.getElem?_cons_zero, List.getElem?_cons_succ] at k2
 have g1 : (x.kind == 2) = false := beq_eq_false_iff_ne.2 (fun e => hk (.inl e))
 have g2 : (x.kind == 4) = false := beq_eq_false_iff_ne.2 (fun e => hk (.inr e))
 clear hob hk
 unfold Od.v
 go_enter Tryz.func81, Tryz.ntmps81
 go_wp2
 go_ret
 exact ⟨rfl, hba⟩
theorem movedZ_snoc (Z : List (Od × Rp)) (p : Od × Rp) : movedZ (Z ++ [p]) = if mvB p = true then movedZ Z ++ [p.1] else movedZ Z := by
 rw [movedZ_app]
 unfold movedZ
 by_cases h : mvB p = true
 ·rw [if_pos h, List.filter_cons_of_pos h]; rfl
 ·rw [if_neg h, List.filter_cons_of_neg h]; simp
set_option maxRecDepth 100000 in
set_option maxHeartbeats 16000000 in
theorem amoved_c (A : Option Addr) (c : Nat) (l : List Od) (w : World) (h : Sl w w.heap.size A c l) (hx : ∀ x ∈ l, OdB x) (hl : ∀ x ∈ l, x.legs.length ≤ 65536) (hn : l.length ≤ 60000) :
  Calls Tryz.prog 80 #[.slice A l.length c] w fun e w' => ∃ v, e = .returned v ∧ Own w' w.heap.size 37 v (movedL l) ∧ Below w.heap.size w w' := by
 have hN := Lib.hid (bfold_c A c l w h hx hl hn)
 have H := Lib.hid h
 have Hx := Lib.hid hx
 have Hl := Lib.hid hl
 have hlc : l.length ≤ c := h.1
 have HT := Lib.hid (show ∀ k (hk : k < l.length), ∃ r, (toldL bk0 l)[k]? = some r ∧ (toldZ bk0 l).take (k + 1) = (toldZ bk0 l).take k ++ [(l[k], r)] ∧ (l[k], r) ∈ toldZ bk0 l from fun k hk => ⟨_, List.getElem?_eq_getElem (by rw [toldL_len]; exact hk), toldZ_take bk0 hk, toldZ_get (B := bk0) hk⟩)
 have HTl := Lib.hid (toldL_len l bk0)
 have HM := Lib.hid (fun p hp => toldZ_mem l bk0 inv_bk0 hx p hp)
 have HZl := Lib.hid (toldZ_len bk0 l)
 clear h hx hl
 change Calls _ _ _ _ fun e w' => ∃ v, e = .returned v ∧ Own w' w.heap.size 37 v (movedZ (toldZ bk0 l)) ∧ Below w.heap.size w w'
 generalize toldZ bk0 l = Z at *
 generalize toldL bk0 l = R at *
 go_enter Tryz.func80, Tryz.ntmps80
 go_wp2_with fail
 refine hN.out.mono ?_
 rintro e w1 ⟨a, vt, B0, rfl, -, -, hOt, -, -, hF⟩
 obtain ⟨At, ct, rfl, hst⟩ := hOt.sl
 have hl1 := H.out.later hF
 have hw1 := hF.size
 have hct : R.length ≤ ct := hst.1
 have HS := Lib.hid (fun V (hV : Below w1.heap.size w1 V) => hst.later hV)
 have HL := Lib.hid (fun V (hV : Below w1.heap.size w1 V) => hl1.later hV)
 have HL1 := Lib.hid hl1
 have hF1 := Lib.hid hF
 have hr0 : R.length = l.length := HTl.out
 have Hr0 := Lib.hid hr0
 clear hN hOt hst hl1 H hr0 HTl hF
 go_wp2_with fail
 go_loopw [5, 15] (fun v i wr => ∃ k : Nat, i = i64 k ∧ k ≤ l.length ∧ Own wr w1.heap.size 37 v (movedZ (Z.take k)) ∧ Below w1.heap.size w1 wr) (fun _ i _ => l.length - (intOf i).toNat)
 case atStart => exact ⟨0, rfl, Nat.zero_le _, by rw [List.take_zero]; exact Own.nil_ _ _ _, Below.refl _ _⟩
 case round =>
  obtain ⟨k, rfl, hk, hO, hb⟩ := hrel
  obtain ⟨wo, rfl⟩ : ∃ wo, wo = wr := ⟨wr, rfl⟩
  have hwz := hb.size
  by_cases hlt : k < l.length
  ·have g1 : decide ((k : Int) < (l.length : Int)) = true := decide_eq_true (by omega)
   have g2 : decide (k < l.length) = true := decide_eq_true hlt
   have i0 : (0 : Int) ≤ (k : Int) := by omega
   have i1 : (k : Int) < (l.length : Int) := by omega
   have hrl : k < R.length := by rw [Hr0.out]; exact hlt
   have i2 : (k : Int) < (R.length : Int) := by omega
   obtain ⟨b, o, rfl, hbb, hok, c0, c1, c2, c3, c4, c5, c6, c7, c8, c9⟩ := (HL.out _ hb).od hlt
   have hst2 := HS.out _ hb
   have hok0 := (HL1.out.keep (fun p hp => hb.cell hp) (fun b hb => hb)).2.2.2 l[k] (List.getElem_mem hlt)
   have hxo := Hx.out l[k] (List.getElem_mem hlt)
   have hll := Hl.out l[k] (List.getElem_mem hlt)
   obtain ⟨r, hrk, hT, hZ0⟩ := HT.out k hlt
   have hZ := HM.out _ hZ0
   have hlen : (movedZ (Z.take k)).length ≤ 60000 := by
    unfold movedZ
    rw [List.length_map]
    refine Nat.le_trans (List.length_filter_le _ _) ?_
    rw [List.length_take]; omega
   obtain ⟨x, hxk⟩ : ∃ x, l[k] = x := ⟨_, rfl⟩
   have hrk : R[k]'hrl = r := List.getElem_eq_iff hrl |>.2 hrk
   obtain ⟨bt, ot, rfl, hbt, r0, -⟩ := hst2.rp hrl
   simp only [hxk] at c0 c1 c2 c3 c4 c5 c6 c7 c8 c9 hok hok0 hxo hll hT hZ
   simp only [hrk] at r0 hT hZ
   have Hmv := Lib.hid (show movedZ (Z.take (k + 1)) = if mvB (x, r) = true then movedZ (Z.take k) ++ [x] else movedZ (Z.take k) by rw [hT, movedZ_snoc])
   have hba := (Below.refl wo.heap.size wo).alloc (Nat.le_refl _) (.cells #[i64 x.client, i64 x.seq, i64 x.kind, .string x.acct, .string x.peer, i64 x.sum, .slice x.la x.legs.length x.lc, i64 x.period, i64 x.hold, .string x.note] 37)
   have hob := heap_alloc_new wo (.cells #[i64 x.client, i64 x.seq, i64 x.kind, .string x.acct, .string x.peer, i64 x.sum, .slice x.la x.legs.length x.lc, i64 x.period, i64 x.hold, .string x.note] 37)
   have hO1 := hO.later hba
   have hok1 := Okb.later (show Okb wo wo.heap.size x from hok) hba
   have hokb := Enc.keep (α := Od) hok0 (fun p hp => hba.cell (Nat.lt_of_lt_of_le hp hb.size)) (fun _ h => h)
   have r1 := (hba.cell (p := ⟨bt, ot + k * 4, none⟩) hbt).trans r0
   have hb1 := hb.alloc hb.size (.cells #[i64 x.client, i64 x.seq, i64 x.kind, .string x.acct, .string x.peer, i64 x.sum, .slice x.la x.legs.length x.lc, i64 x.period, i64 x.hold, .string x.note] 37)
   have hz1 : (wo.alloc (.cells #[i64 x.client, i64 x.seq, i64 x.kind, .string x.acct, .string x.peer, i64 x.sum, .slice x.la x.legs.length x.lc, i64 x.period, i64 x.hold, .string x.note] 37)).heap.size = wo.heap.size + 1 := by simp
   have HO1 := Lib.hid hO1
   have Hob := Lib.hid hob
   have Hb1 := Lib.hid hb1
   have Hok1 := Lib.hid hok1
   have Hokb := Lib.hid hokb
   have HZ1 := Lib.hid hZ
   have Hlen := Lib.hid hlen
   have Hxo := Lib.hid hxo
   clear hxk hrk hok hok0 hZ0 hxo hT hZ hst2 hO hO1 hok1 hokb hob hb1 hlen r0 hbb hbt hba
   by_cases he : r.err = 0
   ·have e1 : (r.err == 0) = true := beq_iff_eq.2 he
    by_cases hk24 : x.kind = 2 ∨ x.kind = 4
    ·have hmv : Mvd x := by
      obtain ⟨-, C, hC, e⟩ := HZ1.out
      have hd : (doL C x).1.err = 0 := by rw [← e]; exact he
      exact ⟨do_right hd, hk24, C, hC, hd⟩
     rw [if_pos (show mvB (x, r) = true by unfold mvB; simp [he, hk24])] at Hmv
     have hfit := hmv.fits
     have HA := Lib.hid (alegs_c x _ Hok1.out hk24 (fun e => ⟨hfit.2.2.2.2 e, Hxo.out.rng.2.2.2.1.2⟩) hll)
     have Hml := Lib.hid (show 0 < (mvL x).length by omega)
     clear hmv hfit he hk24 HZ1
     unfold Od.v at HA
     generalize mvL x = ml at *
     go_wp2_with fail
     generalize wo.alloc (.cells #[i64 x.client, i64 x.seq, i64 x.kind, .string x.acct, .string x.peer, i64 x.sum, .slice x.la x.legs.length x.lc, i64 x.period, i64 x.hold, .string x.note] 37) = w2 at *
     refine HA.out.mono ?_
     rintro e w3 ⟨A3, c3, rfl, hs3, hF3⟩
     have hnn := hs3.some_ Hml.out
     have hob3 := (hF3.block wo.heap.size (by omega)).trans Hob.out
     have k0 := cell_of_row _ wo.heap.size 0 _ _ (0, 0) hob3
     have k1 := cell_of_row _ wo.heap.size 1 _ _ (0, 0) hob3
     have k2 := cell_of_row _ wo.heap.size 2 _ _ (0, 0) hob3
     have k3 := cell_of_row _ wo.heap.size 3 _ _ (0, 0) hob3
     have k4 := cell_of_row _ wo.heap.size 4 _ _ (0, 0) hob3
     have k5 := cell_of_row _ wo.heap.size 5 _ _ (0, 0) hob3
     have k6 := cell_of_row _ wo.heap.size 6 _ _ (0, 0) hob3
     have k7 := cell_of_row _ wo.heap.size 7 _ _ (0, 0) hob3
     have k8 := cell_of_row _ wo.heap.size 8 _ _ (0, 0) hob3
     have k9 := cell_of_row _ wo.heap.size 9 _ _ (0, 0) hob3
     simp only [List.getElem?_toArray, List.getElem?_cons_zero, List.getElem?_cons_succ] at k0 k1 k2 k3 k4 k5 k6 k7 k8 k9
     have hb3 := Hb1.out.trans (hF3.mono Hb1.out.size)
     have hO3 := HO1.out.later hF3
     have hba3 := (Below.refl w3.heap.size w3).alloc (Nat.le_refl _) (.cells #[i64 x.client, i64 x.seq, i64 x.kind, .string x.acct, .string x.peer, i64 x.sum, .slice x.la x.legs.length x.lc, i64 x.period, i64 x.hold, .string x.note] 37)
     have HO4 := Lib.hid (hO3.later hba3)
     have Hne := Lib.hid (hO3.new_ne (Nat.le_refl w3.heap.size))
     have HH := Lib.hid (heap_alloc_new w3 (.cells #[i64 x.client, i64 x.seq, i64 x.kind, .string x.acct, .string x.peer, i64 x.sum, .slice x.la x.legs.length x.lc, i64 x.period, i64 x.hold, .string x.note] 37))
     have Hb4 := Lib.hid (hb3.alloc hb3.size (.cells #[i64 x.client, i64 x.seq, i64 x.kind, .string x.acct, .string x.peer, i64 x.sum, .slice x.la x.legs.length x.lc, i64 x.period, i64 x.hold, .string x.note] 37))
     have Hokx := Lib.hid (Enc.keep (α := Od) Hokb.out (fun p hp => (hF3.trans (hba3.mono hF3.size)).cell (Nat.lt_of_lt_of_le hp Hb1.out.size)) (fun b hb => HO4.out.oth (Nat.le_refl _) Hb4.out.size b hb))
     clear hs3 hF3 hob3 hO3 hba3 hb3 HA Hob HO1 Hb1 Hok1 Hokb
     go_wp2_with (at_builtin; refine wpList_append_one rfl (some 34) (.tmp 31) (.tmp 33) 22 rfl rfl _ 120 Tryz.underlying22 inf_od rfl (by decide) (by decide) rfl HO4.out w3.heap.size x rfl _ 37 HH.out rfl Hne.out Hokx.out (by have := Hlen.out; omega) Hb4.out.size ?_; intro v4 w4 hO5 hg5 hat5)
     go_roundw
     case rel => exact ⟨k + 1, by go_num, by omega, by rw [Hmv.out]; exact hO5, Hb4.out.trans (HO4.out.below hg5 (Nat.le_refl _) Hb4.out.size)⟩
     case measure => simp [intOf]; omega
    ·rw [if_neg (show ¬ mvB (x, r) = true by unfold mvB; simp [hk24])] at Hmv
     have HA := Lib.hid (alegs_no x (wo.alloc (.cells #[i64 x.client, i64 x.seq, i64 x.kind, .string x.acct, .string x.peer, i64 x.sum, .slice x.la x.legs.length x.lc, i64 x.period, i64 x.hold, .string x.note] 37)) hk24)
     clear he hk24 HZ1
     unfold Od.v at HA
     go_wp2_with fail
     generalize wo.alloc (.cells #[i64 x.client, i64 x.seq, i64 x.kind, .string x.acct, .string x.peer, i64 x.sum, .slice x.la x.legs.length x.lc, i64 x.period, i64 x.hold, .string x.note] 37) = w2 at *
     refine HA.out.mono ?_
     rintro e w3 ⟨rfl, hF3⟩
     have HO3 := Lib.hid (HO1.out.later hF3)
     have hb3 := Hb1.out.trans (hF3.mono Hb1.out.size)
     clear HA hF3 Hob HO1 Hb1 Hok1 Hokb
     go_wp2
     go_roundw
     case rel => exact ⟨k + 1, by go_num, by omega, by rw [Hmv.out]; exact HO3.out, hb3⟩
     case measure => simp [intOf]; omega
   ·have e1 : (r.err == 0) = false := beq_eq_false_iff_ne.2 he
    rw [if_neg (show ¬ mvB (x, r) = true by unfold mvB; simp [he])] at Hmv
    clear he HZ1
    go_wp2
    go_roundw
    case rel => exact ⟨k + 1, by go_num, by omega, by rw [Hmv.out]; exact HO1.out, Hb1.out⟩
    case measure => simp [intOf]; omega
  ·obtain rfl : k = l.length := by omega
   have g1 : decide ((l.length : Int) < (l.length : Int)) = false := decide_eq_false (by omega)
   rw [List.take_of_length_le (by rw [HZl.out]; exact Nat.le_refl _)] at hO
   have HO := Lib.hid hO
   clear hO
   go_wp2
   go_ret
   exact ⟨_, rfl, HO.out.mono hw1, hF1.out.trans (hb.mono hw1)⟩
theorem Enc.ok_mv {w : World} {S S' : Nat → Prop} {x : Mv} (h : SlS w S x.la x.lc x.legs) (hS : ∀ b, S b → S' b) : Enc.ok w S' x := (⟨h.mono hS⟩ : Mv.Ok w S' x)
set_option maxRecDepth 100000 in
set_option maxHeartbeats 16000000 in
theorem amoves_c (A : Option Addr) (c : Nat) (l : List Od) (w : World) (h : Sl w w.heap.size A c l) (hx : ∀ x ∈ l, OdB x) (hl : ∀ x ∈ l, x.legs.length ≤ 65536) (hn : l.length ≤ 60000) :
  Calls Tryz.prog 39 #[.slice A l.length c] w fun e w' => ∃ (v : Value) (M : List Mv), e = .returned v ∧ M.map Mv.core = (movedL l).map coreM ∧ Own w' w.heap.size 85 v M ∧ Below w.heap.size w w' := by
 have hN := Lib.hid (amoved_c A c l w h hx hl hn)
 have hlc : l.length ≤ c := h.1
 have HX := Lib.hid (show ∀ x ∈ movedL l, OdB x ∧ Mvd x ∧ x.legs.length ≤ 65536 from fun x hm => ⟨hx x (movedL_mem hx hm).1, (movedL_mem hx hm).2, hl x (movedL_mem hx hm).1⟩)
 have hLn : (movedL l).length ≤ 60000 := Nat.le_trans (movedL_len l) hn
 clear h hx hl
 generalize movedL l = L at *
 go_enter Tryz.func39, Tryz.ntmps39
 go_wp2_with fail
 refine hN.out.mono ?_
 rintro e w1 ⟨vm, rfl, hOm, hF⟩
 obtain ⟨Am, cm, rfl, hsm⟩ := hOm.sl
 have hcm : L.length ≤ cm := hsm.1
 have hw1 := hF.size
 have HL := Lib.hid (fun V (hV : Below w1.heap.size w1 V) => hsm.later hV)
 have HF1 := Lib.hid hF
 clear hN hOm hsm hF
 go_wp2_with fail
 go_loopw [3, 9] (fun v i wr => ∃ (k : Nat) (M : List Mv) (vo : Value), vo = v ∧ i = i64 k ∧ k ≤ L.length ∧ M.map Mv.core = (L.take k).map coreM ∧ Own wr w1.heap.size 85 v M ∧ Below w1.heap.size w1 wr) (fun _ i _ => L.length - (intOf i).toNat)
 case atStart => exact ⟨0, [], _, rfl, rfl, Nat.zero_le _, rfl, Own.nil_ _ _ _, Below.refl _ _⟩
 case round =>
  obtain ⟨k, M, v, rfl, rfl, hk, hM, hO, hb⟩ := hrel
  obtain ⟨wo, rfl⟩ : ∃ wo, wo = wr := ⟨wr, rfl⟩
  have hwz := hb.size
  by_cases hlt : k < L.length
  ·have g1 : decide ((k : Int) < (L.length : Int)) = true := decide_eq_true (by omega)
   have g2 : decide (k < L.length) = true := decide_eq_true hlt
   have i0 : (0 : Int) ≤ (k : Int) := by omega
   have i1 : (k : Int) < (L.length : Int) := by omega
   obtain ⟨b, o, rfl, hbb, hok, c0, c1, c2, c3, c4, c5, c6, c7, c8, c9⟩ := (HL.out _ hb).od hlt
   obtain ⟨hxo, hmv, hll⟩ := HX.out L[k] (List.getElem_mem hlt)
   have hMl : M.length = k := by have := congrArg List.length hM; rw [List.length_map, List.length_map, List.length_take] at this; omega
   have Hln := Lib.hid (show M.length + 1 ≤ 4294967296 by rw [hMl]; omega)
   have Htk := Lib.hid (show (L.take (k + 1)).map coreM = (L.take k).map coreM ++ [coreM L[k]] by rw [List.take_succ_eq_append_getElem hlt, List.map_append]; rfl)
   obtain ⟨x, hxk⟩ : ∃ x, L[k] = x := ⟨_, rfl⟩
   simp only [hxk] at c0 c1 c2 c3 c4 c5 c6 c7 c8 c9 hok hxo hmv hll Htk
   have hfit := hmv.fits
   have hba := (Below.refl wo.heap.size wo).alloc (Nat.le_refl _) (.cells #[i64 x.client, i64 x.seq, i64 x.kind, .string x.acct, .string x.peer, i64 x.sum, .slice x.la x.legs.length x.lc, i64 x.period, i64 x.hold, .string x.note] 37)
   have hob := heap_alloc_new wo (.cells #[i64 x.client, i64 x.seq, i64 x.kind, .string x.acct, .string x.peer, i64 x.sum, .slice x.la x.legs.length x.lc, i64 x.period, i64 x.hold, .string x.note] 37)
   have HM := Lib.hid hM
   have HA : Hid (∀ V, Below (wo.alloc (.cells #[i64 x.client, i64 x.seq, i64 x.kind, .string x.acct, .string x.peer, i64 x.sum, .slice x.la x.legs.length x.lc, i64 x.period, i64 x.hold, .string x.note] 37)).heap.size (wo.alloc (.cells #[i64 x.client, i64 x.seq, i64 x.kind, .string x.acct, .string x.peer, i64 x.sum, .slice x.la x.legs.length x.lc, i64 x.period, i64 x.hold, .string x.note] 37)) V → Calls Tryz.prog 81 #[x.v] V fun e w' => ∃ A c, e = .returned (.slice A (mvL x).length c) ∧ SlS w' (NewB V w') A c (mvL x) ∧ Below V.heap.size V w') := Lib.hid fun V hV => alegs_c x V ((Okb.later (show Okb wo wo.heap.size x from hok) hba).later hV) hmv.kind (fun e => ⟨hfit.2.2.2.2 e, hxo.rng.2.2.2.1.2⟩) hll
   have HO : Hid (∀ V, Below (wo.alloc (.cells #[i64 x.client, i64 x.seq, i64 x.kind, .string x.acct, .string x.peer, i64 x.sum, .slice x.la x.legs.length x.lc, i64 x.period, i64 x.hold, .string x.note] 37)).heap.size (wo.alloc (.cells #[i64 x.client, i64 x.seq, i64 x.kind, .string x.acct, .string x.peer, i64 x.sum, .slice x.la x.legs.length x.lc, i64 x.period, i64 x.hold, .string x.note] 37)) V → Own V w1.heap.size 85 v M) := Lib.hid fun V hV => (hO.later hba).later hV
   have Hob := Lib.hid hob
   have Hvo := Lib.hid (show ∀ g, v.ownBlock = some g → g ≠ wo.heap.size from fun g e e2 => by have := (hO.1.lt g e).2; omega)
   have Hbw := Lib.hid (hb.alloc hb.size (.cells #[i64 x.client, i64 x.seq, i64 x.kind, .string x.acct, .string x.peer, i64 x.sum, .slice x.la x.legs.length x.lc, i64 x.period, i64 x.hold, .string x.note] 37))
   have hz0 : (wo.alloc (.cells #[i64 x.client, i64 x.seq, i64 x.kind, .string x.acct, .string x.peer, i64 x.sum, .slice x.la x.legs.length x.lc, i64 x.period, i64 x.hold, .string x.note] 37)).heap.size = wo.heap.size + 1 := by simp
   have hml : coreM x = (⟨x.client, x.seq⟩, x.period, mvL x) := rfl
   rw [hml] at Htk
   unfold Od.v at HA
   generalize mvL x = ml at *
   clear hxk hmv hxo hfit hok hba hO hob hM hMl hb hbb hml
   go_upto_region 5 with fail
   generalize wo.alloc (.cells #[i64 x.client, i64 x.seq, i64 x.kind, .string x.acct, .string x.peer, i64 x.sum, .slice x.la x.legs.length x.lc, i64 x.period, i64 x.hold, .string x.note] 37) = W0 at *
   have hw1W := Hbw.out.size
   generalize wo.heap.size = ob at *
   have hob1 : ob < W0.heap.size := by omega
   have HS : Hid (∀ V : World, Below w1.heap.size w1 V → V.heap[ob]? = some (.cells #[i64 x.client, i64 x.seq, i64 x.kind, .string x.acct, .string x.peer, i64 x.sum, .slice x.la x.legs.length x.lc, i64 x.period, i64 x.hold, .string x.note] 37 (0, 0)) → (fun V : World => Below w1.heap.size w1 V ∧ V.cell? ⟨ob, 0, none⟩ = some (i64 x.client) ∧ V.cell? ⟨ob, 1, none⟩ = some (i64 x.seq) ∧ V.cell? ⟨ob, 2, none⟩ = some (i64 x.kind) ∧ V.cell? ⟨ob, 3, none⟩ = some (.string x.acct) ∧ V.cell? ⟨ob, 4, none⟩ = some (.string x.peer) ∧ V.cell? ⟨ob, 5, none⟩ = some (i64 x.sum) ∧ V.cell? ⟨ob, 6, none⟩ = some (.slice x.la x.legs.length x.lc) ∧ V.cell? ⟨ob, 7, none⟩ = some (i64 x.period) ∧ V.cell? ⟨ob, 8, none⟩ = some (i64 x.hold) ∧ V.cell? ⟨ob, 9, none⟩ = some (.string x.note)) V) := Lib.hid fun V hV h1 => ⟨hV, cell_of_row _ ob 0 _ _ (0, 0) h1, cell_of_row _ ob 1 _ _ (0, 0) h1, cell_of_row _ ob 2 _ _ (0, 0) h1, cell_of_row _ ob 3 _ _ (0, 0) h1, cell_of_row _ ob 4 _ _ (0, 0) h1, cell_of_row _ ob 5 _ _ (0, 0) h1, cell_of_row _ ob 6 _ _ (0, 0) h1, cell_of_row _ ob 7 _ _ (0, 0) h1, cell_of_row _ ob 8 _ _ (0, 0) h1, cell_of_row _ ob 9 _ _ (0, 0) h1⟩
   refine wp_region_noPanic ?_
   refine wp_region_l 10 (fun V : World => Below w1.heap.size w1 V ∧ V.cell? ⟨ob, 0, none⟩ = some (i64 x.client) ∧ V.cell? ⟨ob, 1, none⟩ = some (i64 x.seq) ∧ V.cell? ⟨ob, 2, none⟩ = some (i64 x.kind) ∧ V.cell? ⟨ob, 3, none⟩ = some (.string x.acct) ∧ V.cell? ⟨ob, 4, none⟩ = some (.string x.peer) ∧ V.cell? ⟨ob, 5, none⟩ = some (i64 x.sum) ∧ V.cell? ⟨ob, 6, none⟩ = some (.slice x.la x.legs.length x.lc) ∧ V.cell? ⟨ob, 7, none⟩ = some (i64 x.period) ∧ V.cell? ⟨ob, 8, none⟩ = some (i64 x.hold) ∧ V.cell? ⟨ob, 9, none⟩ = some (.string x.note)) (by kernel_rfl) (HS.out _ (Hbw.out.trans ((Below.refl _ _).drew.mono Hbw.out.size)) (((Below.refl _ _).drew.block ob hob1).trans Hob.out)) (fun hH => ?_)
   have hbd := (Below.refl W0.heap.size W0).drew
   generalize W0.drew = Wd at *
   refine tkZ 0 ?_; refine tkZ 1 ?_; refine tkZ 2 ?_; refine tkZ 3 ?_; refine tkZ 4 ?_; refine tkZ 5 ?_
   refine tkO 6 (fun K hK => ?_)
   refine oper_call1 81 18 _ rfl _ rfl (enters_of Tryz.func81 (by kernel_rfl) rfl) ?_
   refine (HA.out _ hbd).mono ?_
   rintro e u1 ⟨A3, c3, rfl, hs3, hF3⟩
   refine ⟨_, rfl, ?_⟩
   have HBu := Lib.hid (below_on hbd (Nat.le_refl _) hF3)
   have HO1 := Lib.hid ((HO.out _ hbd).later hF3)
   have Hs3 := Lib.hid (Enc.ok_mv (x := ⟨x.client, x.seq, x.period, A3, c3, ml⟩) hs3 (fun b hb => (⟨hb.2, fun e => by have h1 := ((HO.out _ hbd).1.lt b e.symm).2; have h2 := hb.1; omega⟩ : Oth u1 v b)))
   have Hne0 := Lib.hid (show some ob ≠ v.ownBlock from fun e => Hvo.out ob e.symm rfl)
   clear hF3 hs3
   refine hK.out _ _ (HS.out _ (Hbw.out.trans (HBu.out.mono Hbw.out.size)) ((HBu.out.block ob hob1).trans Hob.out)) (fun hH => ?_)
   clear hK K
   try simp only [Act.put, uA, uZ, uS, vA, vZ, vS]
   refine tkZ 7 ?_
   refine tkO 8 (fun K hK => ?_)
   refine oper_lit_mv 20 rfl ⟨x.client, x.seq, x.period, A3, c3, ml⟩ rfl ?_
   have HH := Lib.hid (heap_alloc_new u1 (.cells #[i64 x.client, i64 x.seq, i64 x.period, .slice A3 ml.length c3] 85))
   have hba := (Below.refl u1.heap.size u1).alloc (Nat.le_refl _) (.cells #[i64 x.client, i64 x.seq, i64 x.period, .slice A3 ml.length c3] 85)
   have HO2 := Lib.hid (HO1.out.later hba)
   have Hne := Lib.hid (HO1.out.new_ne (Nat.le_refl u1.heap.size))
   have Hy := Lib.hid (Enc.keep (α := Mv) Hs3.out (fun p hp => hba.cell hp.1) (fun b hb => (⟨Nat.lt_of_lt_of_le hb.1 hba.size, hb.2⟩ : Oth (u1.alloc (.cells #[i64 x.client, i64 x.seq, i64 x.period, .slice A3 ml.length c3] 85)) v b)))
   have HBv := Lib.hid (HBu.out.alloc HBu.out.size (.cells #[i64 x.client, i64 x.seq, i64 x.period, .slice A3 ml.length c3] 85))
   clear hba HO1 Hs3 HBu
   refine hK.out _ _ (HS.out _ (Hbw.out.trans (HBv.out.mono Hbw.out.size)) ((HBv.out.block ob hob1).trans Hob.out)) (fun hH => ?_)
   clear hK K
   try simp only [Act.put, uA, uZ, uS, vA, vZ, vS]
   refine tkO 9 (fun K hK => ?_)
   refine oper_append_one (.tmp 13) (.tmp 21) 78 rfl _ 48 Tryz.underlying78 mvInfo rfl (by decide) (by decide) rfl HO2.out u1.heap.size ⟨x.client, x.seq, x.period, A3, c3, ml⟩ rfl _ 85 HH.out rfl Hne.out Hy.out Hln.out (Nat.le_trans hw1W HBv.out.size) ?_
   intro v2 u2 hO3 hg3 hat3
   have HB3 := Lib.hid ((Hbw.out.trans (HBv.out.mono Hbw.out.size)).trans (HO2.out.below hg3 (Nat.le_refl _) (Nat.le_trans hw1W HBv.out.size)))
   have hob3 := (hg3.block ob (Nat.lt_of_lt_of_le hob1 HBv.out.size) Hne0.out).trans ((HBv.out.block ob hob1).trans Hob.out)
   have HO3 := Lib.hid hO3
   clear hg3 hat3 HO2 HH Hne Hy hO3
   refine hK.out _ _ (HS.out _ HB3.out hob3) (fun hH => ?_)
   clear hK K
   try simp only [Act.put, uA, uZ, uS, vA, vZ, vS]
   refine tkL (fun K hK => ?_)
   refine oper_assign (.tmp 22) rfl v2 rfl ?_
   refine hK.out _ _ ?_
   clear hK K
   try simp only [Act.put, uA, uZ, uS, vA, vZ, vS]
   refine tkD ?_
   clear hH HS
   go_wp2
   go_roundw
   case rel => exact ⟨k + 1, M ++ [⟨x.client, x.seq, x.period, A3, c3, ml⟩], _, rfl, by go_num, by omega, by rw [List.map_append, HM.out, Htk.out]; rfl, HO3.out, HB3.out⟩
   case measure => simp [intOf]; omega
  ·obtain rfl : k = L.length := by omega
   have g1 : decide ((L.length : Int) < (L.length : Int)) = false := decide_eq_false (by omega)
   rw [List.take_length] at hM
   have HO := Lib.hid hO
   have HM := Lib.hid hM
   clear hO hM
   go_wp2
   go_ret
   exact ⟨_, M, rfl, HM.out, HO.out.mono hw1, HF1.out.trans (hb.mono hw1)⟩
end Go.Proofs.YtampniiehgimhaaGreat
/- audit: how many orders are told which error (plain) -/
namespace Go.Proofs.YtampniiehgimhaaGreat
open Go.RowKit
/-- the errors' numbers -/
def ErrN (n : Int) : Prop := 0 ≤ n ∧ n ≤ 14
theorem sumR_errN (n : Int) : ErrN (sumR n).2 := by unfold sumR ErrN; split <;> (dsimp only; omega)
theorem getLR_errN (L : List Ac) (k : ByteArray) : ErrN (getLR L k).2 := by unfold getLR ErrN; split <;> (dsimp only; omega)
theorem turn_errN {D : Ac → Ac × Int} (hD : ∀ a, ErrN (D a).2) (L : List Ac) (k : ByteArray) (x : Int) : ErrN (turnL D L k x).1 := by
 unfold turnL
 split
 ·unfold ErrN; dsimp only; omega
 ·rename_i a _
  have := hD a
  split
  ·exact this
  ·split
   ·unfold ErrN; dsimp only; omega
   ·split
    ·unfold ErrN; dsimp only; omega
    ·unfold ErrN; dsimp only; omega
theorem giv_errN (x : Int) : ∀ a, ErrN (givD x a).2 := fun _ => sumR_errN _
theorem asi_errN (x : Int) : ∀ a, ErrN (asiD x a).2 := fun _ => sumR_errN _
theorem open_errN (L : List Ac) (k : ByteArray) (lim : Int) : ErrN (openL L k lim).1 := by
 unfold openL ErrN
 split
 ·dsimp only; omega
 ·split
  ·dsimp only; omega
  ·split <;> (dsimp only; omega)
theorem post_errN (L : List Ac) (x : Leg) : ErrN (postL L x).1 := by
 unfold postL
 split
 ·exact getLR_errN _ _
 ·split
  ·exact sumR_errN _
  ·exact turn_errN (giv_errN _) _ _ _
theorem all_errN : ∀ (l : List Leg) (L : List Ac), ErrN (allL L l).1
 | [], _ => by unfold allL ErrN; dsimp only; omega
 | x :: r, L => by
  unfold allL
  split
  ·exact post_errN _ _
  ·exact all_errN r _
theorem check_errN (L : List Ac) (l : List Leg) : ErrN (checkL L l) := by
 unfold checkL
 split
 ·unfold ErrN; omega
 ·split
  ·unfold ErrN; omega
  ·exact all_errN _ _
theorem make_errN (L : List Ac) (l : List Leg) : ErrN (makeL L l).1 := by
 unfold makeL
 split
 ·exact check_errN _ _
 ·exact all_errN _ _
theorem free_errN (L : List Ac) (H : List Held) (k : ByteArray) (n : Int) : ErrN (freeHL L H k n).1 := by
 unfold freeHL
 split
 ·unfold ErrN; dsimp only; omega
 ·exact turn_errN (asi_errN _) _ _ _
theorem put_errN (L : List Ac) (H : List Held) (x : Held) : ErrN (putH L H x).1 := by
 unfold putH
 split
 ·unfold ErrN; dsimp only; omega
 ·split
  ·unfold ErrN; dsimp only; omega
  ·split
   ·unfold ErrN; dsimp only; omega
   ·exact turn_errN (asi_errN _) _ _ _
theorem take_errN (L : List Ac) (H : List Held) (k : ByteArray) (n : Int) (p : ByteArray) (s : Int) : ErrN (takeH L H k n p s).1 := by
 unfold takeH
 split
 ·unfold ErrN; dsimp only; omega
 ·split
  ·unfold ErrN; dsimp only; omega
  ·split
   ·exact turn_errN (asi_errN _) _ _ _
   ·split
    ·exact check_errN _ _
    ·exact make_errN _ _
theorem tells_errN (L : List Ac) (k : ByteArray) {e : Int} (h : ErrN e) : ErrN (tellsL L k e).err := by
 unfold tellsL
 split
 ·exact h
 ·split
  ·exact getLR_errN _ _
  ·unfold ErrN; dsimp only; omega
theorem do_errN (B : Bk) (x : Od) : ErrN (doL B x).1.err := by
 unfold doL
 split
 ·unfold ErrN rpE; dsimp only; omega
 ·unfold kindD
  split
  ·exact tells_errN _ _ (open_errN _ _ _)
  ·split
   ·unfold postD
    split
    ·unfold ErrN rpE; dsimp only; omega
    ·exact make_errN _ _
   ·split
    ·unfold holdD
     dsimp only
     have := tells_errN (putH B.L B.H ⟨numO x, x.acct, x.sum⟩).2.1 x.acct (put_errN B.L B.H ⟨numO x, x.acct, x.sum⟩)
     unfold withN
     split
     ·exact this
     ·exact this
    ·split
     ·unfold capD
      split
      ·unfold ErrN rpE; dsimp only; omega
      ·exact tells_errN _ _ (take_errN _ _ _ _ _ _)
     ·split
      ·exact tells_errN _ _ (free_errN _ _ _ _)
      ·split
       ·unfold shutD
        split
        ·unfold ErrN rpE; dsimp only; omega
        ·unfold ErrN; dsimp only; omega
       ·exact tells_errN _ _ (by unfold ErrN; omega)
theorem toldL_errN : ∀ (l : List Od) (B : Bk), ∀ r ∈ toldL B l, ErrN r.err
 | [], _ => fun _ h => by cases h
 | x :: l, B => fun r h => by
  rcases List.mem_cons.1 h with rfl | h
  ·exact do_errN B x
  ·exact toldL_errN l _ r h
/-- how many are told e -/
def cntE (R : List Rp) (e : Nat) : Int := (R.countP fun r => decide (r.err = (e : Int)) : Nat)
def errsL (R : List Rp) : List Int := (List.range 15).map (cntE R)
theorem errsL_len (R : List Rp) : (errsL R).length = 15 := by unfold errsL; rw [List.length_map, List.length_range]
theorem errsL_nil : errsL [] = List.replicate 15 0 := by decide
theorem errsL_get (R : List Rp) {e : Nat} (he : e < 15) : (errsL R)[e]'(by rw [errsL_len]; exact he) = cntE R e := by
 unfold errsL
 rw [List.getElem_map, List.getElem_range]
/-- one more -/
theorem errsL_snoc (R : List Rp) (r : Rp) {e : Nat} (_he : e < 15) (hr : r.err = (e : Int)) : errsL (R ++ [r]) = (errsL R).set e (cntE R e + 1) := by
 apply List.ext_getElem
 ·rw [List.length_set, errsL_len, errsL_len]
 ·intro j h1 h2
  rw [errsL_len] at h1
  rw [List.getElem_set, errsL_get _ h1]
  have h3 : cntE (R ++ [r]) j = cntE R j + if e = j then 1 else 0 := by
   unfold cntE
   rw [List.countP_append, List.countP_cons, List.countP_nil, hr]
   by_cases h : e = j
   ·subst h; simp
   ·rw [if_neg h, if_neg (by simpa using fun q => h (by omega))]; simp
  rw [h3]
  by_cases h : e = j
  ·subst h; rw [if_pos rfl, if_pos rfl]
  ·rw [if_neg h, if_neg h, errsL_get _ h1, Int.add_zero]
theorem cntE_range (R : List Rp) (e : Nat) : 0 ≤ cntE R e ∧ cntE R e ≤ R.length := by
 unfold cntE
 have := List.countP_le_length (p := fun r : Rp => decide (r.err = (e : Int))) (l := R)
 omega
end Go.Proofs.YtampniiehgimhaaGreat
/- a store of one cell into a block whose cells are told -/
namespace Go.Proofs.YtampniiehgimhaaGreat
open Go.RowKit
section
variable {w : World} {e : TypeId}
/-- a store of one cell into a block of the call's own -/
theorem wpList_store_arr {P : Program} {ops : Array Oper} {rest : List Oper} {o : Oper} {a : Act} {Q : Exit → Act → World → Prop} (hgd : o.guard = none) (d : Option Nat) (ad x : Operand) (t : TypeId) (ho : o.op = .store t ad x) (hd : o.dst = d)
  (hi : (P.info? t).map (·.size) = some 1) (g off : Nat) (cur : Array Value) (v : Value) (hg : w.heap[g]? = some (.cells cur e (0, 0))) (hil : off < cur.size)
  (had : a.eval ad = .pointer (some ⟨g, off, none⟩)) (hx : (a.eval x).cells.toList = [v]) (hv : v.oneCell' = true)
  (hK : ∀ w', w'.heap[g]? = some (.cells (cur.setIfInBounds off v) e (0, 0)) → w.grownBy w' (some g) → wpList P ops Q rest (a.put d undef) w') : wpList P ops Q (o :: rest) a w := by
 have hsz : (a.eval x).cells.size = 1 := by rw [← Array.length_toList, hx]; rfl
 have hst := run_storeCells_at P g off e [v] 0 cur w hg (by simp; omega) (by simpa using hv)
 have hset := setCells_row g e [v] off cur w hg (by simp; omega)
 rw [World.setCells, World.setCells] at hset
 rw [Nat.add_zero] at hst
 have h1 := heap_setCell_same w g off cur e v hg
 have h2 := grown_setCell (g := g) (World.grownBy.refl w (some g)) (p := ⟨g, off, none⟩) (.inl rfl) v
 subst hd
 refine wpList_plain hgd fun K hk => ?_
 cases hq : P.info? t with
 | none => simp [hq] at hi
 | some j =>
  have hj : j.size = 1 := by simpa [hq] using hi
  unfold Oper.wp execOp
  simp only [ho]
  simp [had, Instr.storeAt, Instr.sureAddr, storeVar, sizeOf, typeInfo, hq, hj, hsz, hx, hst]
  simp only [List.length_singleton, List.append_assoc] at hset
  refine hk _ _ (hK _ ?_ ?_)
  ·simpa [hset] using h1
  ·simpa [hset] using h2
theorem oper_store_arr {P : Program} {o : Oper} {a : Act} {K : Act → World → Prop} {Q : Exit → Act → World → Prop} (ad x : Operand) (t : TypeId) (ho : o.op = .store t ad x)
  (hi : (P.info? t).map (·.size) = some 1) (g off : Nat) (cur : Array Value) (v : Value) (hg : w.heap[g]? = some (.cells cur e (0, 0))) (hil : off < cur.size)
  (had : a.eval ad = .pointer (some ⟨g, off, none⟩)) (hx : (a.eval x).cells.toList = [v]) (hv : v.oneCell' = true)
  (hK : ∀ w', w'.heap[g]? = some (.cells (cur.setIfInBounds off v) e (0, 0)) → w.grownBy w' (some g) → K (a.put o.dst undef) w') : Oper.wp P o a w K Q := by
 have hsz : (a.eval x).cells.size = 1 := by rw [← Array.length_toList, hx]; rfl
 have hst := run_storeCells_at P g off e [v] 0 cur w hg (by simp; omega) (by simpa using hv)
 have hset := setCells_row g e [v] off cur w hg (by simp; omega)
 rw [World.setCells, World.setCells] at hset
 rw [Nat.add_zero] at hst
 have h1 := heap_setCell_same w g off cur e v hg
 have h2 := grown_setCell (g := g) (World.grownBy.refl w (some g)) (p := ⟨g, off, none⟩) (.inl rfl) v
 cases hq : P.info? t with
 | none => simp [hq] at hi
 | some j =>
  have hj : j.size = 1 := by simpa [hq] using hi
  unfold Oper.wp execOp
  simp only [ho]
  simp [had, Instr.storeAt, Instr.sureAddr, storeVar, sizeOf, typeInfo, hq, hj, hsz, hx, hst]
  simp only [List.length_singleton, List.append_assoc] at hset
  refine hK _ ?_ ?_
  ·simpa [hset] using h1
  ·simpa [hset] using h2
end
end Go.Proofs.YtampniiehgimhaaGreat
/- audit: Errors -/
namespace Go.Proofs.YtampniiehgimhaaGreat
open Go.RowKit
theorem list15 : ∀ {l : List Int}, l.length = 15 → ∃ a0 a1 a2 a3 a4 a5 a6 a7 a8 a9 a10 a11 a12 a13 a14, l = [a0, a1, a2, a3, a4, a5, a6, a7, a8, a9, a10, a11, a12, a13, a14]
 | [a0, a1, a2, a3, a4, a5, a6, a7, a8, a9, a10, a11, a12, a13, a14], _ => ⟨a0, a1, a2, a3, a4, a5, a6, a7, a8, a9, a10, a11, a12, a13, a14, rfl⟩
set_option maxRecDepth 100000 in
set_option maxHeartbeats 8000000 in
theorem aerrors_c (A : Option Addr) (c : Nat) (l : List Od) (w : World) (h : Sl w w.heap.size A c l) (hx : ∀ x ∈ l, OdB x) (hl : ∀ x ∈ l, x.legs.length ≤ 65536) (hn : l.length ≤ 60000) :
  Calls Tryz.prog 41 #[.slice A l.length c] w fun e w' => e = .returned (.agg ((errsL (toldL bk0 l)).map fun n => i64 n).toArray) ∧ Below w.heap.size w w' := by
 have hlc : l.length ≤ c := h.1
 have hb1 := (Below.refl w.heap.size w).alloc (Nat.le_refl _) (.cells #[i64 0, i64 0, i64 0, i64 0, i64 0, i64 0, i64 0, i64 0, i64 0, i64 0, i64 0, i64 0, i64 0, i64 0, i64 0] 82)
 have hb2 := hb1.alloc hb1.size (.cells #[i64 0, i64 0, i64 0, i64 0, i64 0, i64 0, i64 0, i64 0, i64 0, i64 0, i64 0, i64 0, i64 0, i64 0, i64 0] 82)
 have HN := Lib.hid (bfold_c A c l _ (h.later hb2) hx hl hn)
 have Hn0 := Lib.hid (heap_alloc2_new w (.cells #[i64 0, i64 0, i64 0, i64 0, i64 0, i64 0, i64 0, i64 0, i64 0, i64 0, i64 0, i64 0, i64 0, i64 0, i64 0] 82) (.cells #[i64 0, i64 0, i64 0, i64 0, i64 0, i64 0, i64 0, i64 0, i64 0, i64 0, i64 0, i64 0, i64 0, i64 0, i64 0] 82))
 have Ho0 := Lib.hid (heap_alloc2_old w (.cells #[i64 0, i64 0, i64 0, i64 0, i64 0, i64 0, i64 0, i64 0, i64 0, i64 0, i64 0, i64 0, i64 0, i64 0, i64 0] 82) (.cells #[i64 0, i64 0, i64 0, i64 0, i64 0, i64 0, i64 0, i64 0, i64 0, i64 0, i64 0, i64 0, i64 0, i64 0, i64 0] 82))
 have hz2 : ((w.alloc (.cells #[i64 0, i64 0, i64 0, i64 0, i64 0, i64 0, i64 0, i64 0, i64 0, i64 0, i64 0, i64 0, i64 0, i64 0, i64 0] 82)).alloc (.cells #[i64 0, i64 0, i64 0, i64 0, i64 0, i64 0, i64 0, i64 0, i64 0, i64 0, i64 0, i64 0, i64 0, i64 0, i64 0] 82)).heap.size = w.heap.size + 2 := by simp
 have HE := Lib.hid (toldL_errN l bk0)
 have HLr := Lib.hid (toldL_len l bk0)
 have Hb2 := Lib.hid hb2
 clear h hx hl hb1 hb2
 generalize toldL bk0 l = R at *
 go_enter Tryz.func41, Tryz.ntmps41
 go_wp2_with fail
 generalize (w.alloc (.cells #[i64 0, i64 0, i64 0, i64 0, i64 0, i64 0, i64 0, i64 0, i64 0, i64 0, i64 0, i64 0, i64 0, i64 0, i64 0] 82)).alloc (.cells #[i64 0, i64 0, i64 0, i64 0, i64 0, i64 0, i64 0, i64 0, i64 0, i64 0, i64 0, i64 0, i64 0, i64 0, i64 0] 82) = w0 at *
 refine HN.out.mono ?_
 rintro e w1 ⟨a, vt, B0, rfl, -, -, hOt, hB0, -, hF⟩
 have hRn : R.length ≤ 60000 := by have := HLr.out; omega
 obtain ⟨At, ct, rfl, hst⟩ := hOt.sl_at (S := fun b => b < w1.heap.size ∧ b ≠ w.heap.size + 1) (fun b e => ⟨(hOt.1.lt b e).2, fun e2 => by have := (hOt.1.lt b e).1; omega⟩) (fun y hy => trivial)
 have hct : R.length ≤ ct := hst.1
 have hw1 := hF.size
 have Hst := Lib.hid hst
 have Hg1 := Lib.hid ((hF.block (w.heap.size + 1) (by omega)).trans Hn0.out)
 have Ho1 := Lib.hid ((hF.block w.heap.size (by omega)).trans Ho0.out)
 have Hb1 := Lib.hid (below_on Hb2.out (by omega) hF)
 clear HN hOt hst hF Hn0 Ho0 Hb2 HLr hB0
 go_wp2_with fail
 go_loopw [15] (fun i wr => ∃ k : Nat, i = i64 k ∧ k ≤ R.length ∧ wr.heap[w.heap.size + 1]? = some (.cells ((errsL (R.take k)).map fun n => i64 n).toArray 82 (0, 0)) ∧ Gr w1 wr (fun j => j = w.heap.size + 1)) (fun i _ => R.length - (intOf i).toNat)
 case atStart => exact ⟨0, rfl, Nat.zero_le _, by rw [List.take_zero, errsL_nil]; exact Hg1.out, Gr.refl _ _⟩
 case round =>
  obtain ⟨k, rfl, hk, hg, hG⟩ := hrel
  have hwz := hG.size
  by_cases hlt : k < R.length
  ·have g1 : decide ((k : Int) < (R.length : Int)) = true := decide_eq_true (by omega)
   have g2 : decide (k < R.length) = true := decide_eq_true hlt
   have i0 : (0 : Int) ≤ (k : Int) := by omega
   have i1 : (k : Int) < (R.length : Int) := by omega
   obtain ⟨bt, ot, rfl, hbt, r0, r1, r2, r3⟩ := (Hst.out.grs hG (fun b hb => hb)).rp hlt
   have hre := HE.out R[k] (List.getElem_mem hlt)
   obtain ⟨e, he⟩ : ∃ e : Nat, R[k].err = (e : Int) := ⟨R[k].err.toNat, by have := hre.1; omega⟩
   have he15 : e < 15 := by have := hre.2; omega
   have Hs := Lib.hid (show errsL (R.take (k + 1)) = (errsL (R.take k)).set e (cntE (R.take k) e + 1) by rw [List.take_succ_eq_append_getElem hlt, errsL_snoc _ _ he15 he])
   have hcn := cntE_range (R.take k) e
   have hlk : (R.take k).length ≤ 60000 := by rw [List.length_take]; omega
   have hge := errsL_get (R.take k) he15
   have hle := errsL_len (R.take k)
   have d0 : wr.cell? ⟨w.heap.size + 1, e, none⟩ = some (i64 (cntE (R.take k) e)) := by
    rw [cell_of_row _ _ e _ _ (0, 0) hg, List.getElem?_toArray, List.getElem?_map, List.getElem?_eq_getElem (by omega), hge]; rfl
   generalize cntE (R.take k) e = cn at *
   have hcr : 0 ≤ cn ∧ cn ≤ 60000 := by omega
   have hlen : ((errsL (R.take k)).map fun n => i64 n).toArray.size = 15 := by simp [hle]
   have Hset : Hid (((errsL (R.take k)).map fun n => i64 n).toArray.setIfInBounds e (i64 (cn + 1)) = ((errsL (R.take (k + 1))).map fun n => i64 n).toArray) := Lib.hid (by rw [Hs.out]; simp [List.map_set])
   generalize ((errsL (R.take k)).map fun n => i64 n).toArray = arr at *
   obtain ⟨r, hrk⟩ : ∃ r, R[k] = r := ⟨_, rfl⟩
   simp only [hrk] at r0 r1 r2 r3 he
   rw [he] at r0
   have hba := (Below.refl wr.heap.size wr).alloc (Nat.le_refl _) (.cells #[i64 (e : Int), i64 r.hav, i64 r.set_, i64 r.num] 31)
   have hq0 := heap_alloc_new wr (.cells #[i64 (e : Int), i64 r.hav, i64 r.set_, i64 r.num] 31)
   have s0 := cell_of_row _ wr.heap.size 0 _ _ (0, 0) hq0
   simp only [List.getElem?_toArray, List.getElem?_cons_zero] at s0
   have d1 := (hba.cell (p := ⟨w.heap.size + 1, e, none⟩) (show w.heap.size + 1 < wr.heap.size by omega)).trans d0
   have hg2 := (hba.block (w.heap.size + 1) (by omega)).trans hg
   have hG2 := hG.more hba
   have x1 : IntKind.i64.wrap (cn + 1) = cn + 1 := by rw [IntKind.wrap_i64]; omega
   have x2 : wrap64 (cn + 1) = cn + 1 := by rw [← IntWalk.i64_left]; exact x1
   have X1 := Lib.hid x1
   have i2 : (0 : Int) ≤ (e : Int) := by omega
   have i3 : (e : Int) < 15 := by omega
   have Hg2 := Lib.hid hg2
   have HG2 := Lib.hid hG2
   have Hlen := Lib.hid hlen
   clear hrk hre he hg hG hba hq0 d0 hg2 hG2 hge hle hlen hcn hlk x1 Hs
   go_wp2_with (refine wpList_store_arr rfl none (.tmp 24) (.tmp 23) 3 rfl rfl (by kernel_rfl) (w.heap.size + 1) e arr (i64 (cn + 1)) Hg2.out (by rw [Hlen.out]; exact he15) (by first | rfl | simp) (by first | rfl | simp [x2]) rfl ?_; intro w4 hg4 hgr4)
   rw [Hset.out] at hg4
   have HG4 := Lib.hid (HG2.out.after ((Gr.of_grown hgr4).mono fun j _ e => by injection e with e; exact e.symm))
   clear hgr4
   go_roundw
   case rel => exact ⟨k + 1, by go_num, by omega, hg4, HG4.out⟩
   case measure => simp [intOf]; omega
  ·obtain rfl : k = R.length := by omega
   have g1 : decide ((R.length : Int) < (R.length : Int)) = false := decide_eq_false (by omega)
   rw [List.take_length] at hg
   have ho := (hG.block w.heap.size (by omega) (by omega)).trans Ho1.out
   obtain ⟨a0, a1, a2, a3, a4, a5, a6, a7, a8, a9, a10, a11, a12, a13, a14, hE⟩ := list15 (errsL_len R)
   rw [hE] at hg
   have HE2 := Lib.hid hE
   simp only [List.map_cons, List.map_nil] at hg
   have k0 := cell_of_row _ (w.heap.size + 1) 0 _ _ (0, 0) hg
   have k1 := cell_of_row _ (w.heap.size + 1) 1 _ _ (0, 0) hg
   have k2 := cell_of_row _ (w.heap.size + 1) 2 _ _ (0, 0) hg
   have k3 := cell_of_row _ (w.heap.size + 1) 3 _ _ (0, 0) hg
   have k4 := cell_of_row _ (w.heap.size + 1) 4 _ _ (0, 0) hg
   have k5 := cell_of_row _ (w.heap.size + 1) 5 _ _ (0, 0) hg
   have k6 := cell_of_row _ (w.heap.size + 1) 6 _ _ (0, 0) hg
   have k7 := cell_of_row _ (w.heap.size + 1) 7 _ _ (0, 0) hg
   have k8 := cell_of_row _ (w.heap.size + 1) 8 _ _ (0, 0) hg
   have k9 := cell_of_row _ (w.heap.size + 1) 9 _ _ (0, 0) hg
   have k10 := cell_of_row _ (w.heap.size + 1) 10 _ _ (0, 0) hg
   have k11 := cell_of_row _ (w.heap.size + 1) 11 _ _ (0, 0) hg
   have k12 := cell_of_row _ (w.heap.size + 1) 12 _ _ (0, 0) hg
   have k13 := cell_of_row _ (w.heap.size + 1) 13 _ _ (0, 0) hg
   have k14 := cell_of_row _ (w.heap.size + 1) 14 _ _ (0, 0) hg
   simp only [List.getElem?_toArray, List.getElem?_cons_zero, List.getElem?_cons_succ] at k0 k1 k2 k3 k4 k5 k6 k7 k8 k9 k10 k11 k12 k13 k14
   have HG := Lib.hid (hG.below (B := w.heap.size) (by omega) (fun j e => by omega))
   clear hE hG
   have hrow := setRow_heap wr w.heap.size _ #[i64 a0, i64 a1, i64 a2, i64 a3, i64 a4, i64 a5, i64 a6, i64 a7, i64 a8, i64 a9, i64 a10, i64 a11, i64 a12, i64 a13, i64 a14] _ _ ho
   have hbr : Below w.heap.size w (wr.setRow w.heap.size #[i64 a0, i64 a1, i64 a2, i64 a3, i64 a4, i64 a5, i64 a6, i64 a7, i64 a8, i64 a9, i64 a10, i64 a11, i64 a12, i64 a13, i64 a14]) := (Hb1.out.trans HG.out).trans ((gr_setRow wr w.heap.size #[i64 a0, i64 a1, i64 a2, i64 a3, i64 a4, i64 a5, i64 a6, i64 a7, i64 a8, i64 a9, i64 a10, i64 a11, i64 a12, i64 a13, i64 a14]).below (by omega) (fun j e => by omega))
   go_wp2_with (refine wpList_store_row rfl 82 (.tmp 2) (.tmp 26) rfl w.heap.size #[i64 a0, i64 a1, i64 a2, i64 a3, i64 a4, i64 a5, i64 a6, i64 a7, i64 a8, i64 a9, i64 a10, i64 a11, i64 a12, i64 a13, i64 a14] rfl rfl 82 #[i64 0, i64 0, i64 0, i64 0, i64 0, i64 0, i64 0, i64 0, i64 0, i64 0, i64 0, i64 0, i64 0, i64 0, i64 0] ho (by kernel_rfl) rfl (by simp [Value.oneCell']) ?_)
   exact bodyPost_ret (results_cell_row rfl _ _ w.heap.size 82 _ (0, 0) _ rfl hrow Tryz.underlying82 rfl (by kernel_rfl)) rfl ⟨by rw [HE2.out]; rfl, hbr⟩
end Go.Proofs.YtampniiehgimhaaGreat
/- Clone, Grow, Concat at int64 -/
namespace Go.Proofs.YtampniiehgimhaaGreat
open Go.RowKit
theorem inf_i64 : (Tryz.prog.info? 2).map (fun i => (i.zero, i.size, i.bytes)) = some (some (i64 0), Enc.size Int, 8) := by kernel_rfl
set_option maxRecDepth 100000 in
set_option maxHeartbeats 400000 in
theorem grow_i64 (n : Nat) (w : World) (hn : n ≤ 1000000000) :
  Calls Tryz.prog 135 #[.slice none 0 0, i64 n] w fun e w' => ∃ v, e = .returned v ∧ Own w' w.heap.size 2 v ([] : List Int) ∧ Below w.heap.size w w' := by
 rcases Nat.eq_zero_or_pos n with rfl | h0
 ·go_enter Tryz.func135, Tryz.ntmps135
  go_wp2
  go_ret
  exact ⟨_, rfl, Own.nil_ _ _ _, Below.refl _ _⟩
 ·obtain ⟨i, hi, hz, hz1, hz2⟩ := info_parts inf_i64
  have hrun := fun ty => Lib.run_append_nil_zeros (P := Tryz.prog) w 181 3 ty 2 i (i64 0) .i64 .i64 Tryz.underlying181 Tryz.underlying3 hi hz n h0 (by rw [hz1]; decide) (by omega) (by rw [hz2]; omega)
  have hO := own_room (α := Int) w.drew w.heap.size 2 (grownCap w n 0 2) (Builtin.zeroCells (Value.cells (i64 0)) n ++ Builtin.zeroCells (Value.cells (i64 0)) (grownCap w n 0 2 - n)) (Nat.le_refl _) (grownCap_le_maxLen w n 0 _ (by simp only [maxLen]; omega)) (by
   rw [Array.size_append, size_zeroCells, size_zeroCells, show (Value.cells (i64 0)).size = Enc.size Int from rfl, ← Nat.add_mul]
   have := grownCap_ge w n 0 2
   rw [Nat.add_sub_cancel' this])
  have hb := ((Below.refl w.heap.size w).drew).alloc (Nat.le_refl _) (.cells (Builtin.zeroCells (Value.cells (i64 0)) n ++ Builtin.zeroCells (Value.cells (i64 0)) (grownCap w n 0 2 - n)) 2)
  have HO := Lib.hid hO
  have Hb := Lib.hid hb
  have Hrun := Lib.hid hrun
  clear hO hb hrun hi hz hz1 hz2
  generalize (Builtin.zeroCells (Value.cells (i64 0)) n ++ Builtin.zeroCells (Value.cells (i64 0)) (grownCap w n 0 2 - n)) = Z at *
  generalize grownCap w n 0 2 = gc at *
  go_enter Tryz.func135, Tryz.ntmps135
  go_wp2_with (at_builtin; refine Lib.wpList_append_run _ rfl (.tmp 20) (.tmp 21) _ _ rfl _ _ rfl rfl _ _ (Hrun.out _) ?_)
  go_ret
  exact ⟨_, rfl, HO.out, Hb.out⟩
set_option maxRecDepth 100000 in
set_option maxHeartbeats 1000000 in
theorem concat_i64 (A : Option Addr) (c : Nat) (ss : List (SV Int)) (w : World) (h : Sl w w.heap.size A c ss) (hn : ss.length ≤ 65536) (ht : (ss.flatMap SV.l).length ≤ 65536) :
  Calls Tryz.prog 97 #[.slice A ss.length c] w fun e w' => ∃ v, e = .returned v ∧ Own w' w.heap.size 2 v (ss.flatMap SV.l) ∧ Below w.heap.size w w' := by
 have hpre : ∀ k, k ≤ ss.length → ((ss.take k).flatMap SV.l).length ≤ 65536 := fun k _ => by
  refine Nat.le_trans ?_ ht
  conv => rhs; rw [← List.take_append_drop k ss, List.flatMap_append, List.length_append]
  omega
 have hstep : ∀ k (hk : k < ss.length), (ss.take (k + 1)).flatMap SV.l = (ss.take k).flatMap SV.l ++ ss[k].l := fun k hk => by
  rw [List.take_succ_eq_append_getElem hk, List.flatMap_append]; simp
 have Hpre := Lib.hid hpre
 have Hstep := Lib.hid hstep
 clear hpre hstep
 go_enter Tryz.func97, Tryz.ntmps97
 go_wp2_with fail
 go_loop [3, 11] (fun sz i => ∃ k : Nat, k ≤ ss.length ∧ i = i64 k ∧ sz = i64 ((ss.take k).flatMap SV.l).length) (fun _ i => ss.length - (intOf i).toNat)
 case atStart => exact ⟨0, Nat.zero_le _, rfl, rfl⟩
 case round =>
  obtain ⟨k, hk, rfl, rfl⟩ := hrel
  have hpk := Hpre.out k hk
  by_cases hlt : k < ss.length
  ·obtain ⟨b, o, rfl, hbb, -, d0⟩ := h.sv hlt
   have hpk1 := Hpre.out (k + 1) hlt
   have hl1 : ((ss.take (k + 1)).flatMap SV.l).length = ((ss.take k).flatMap SV.l).length + ss[k].l.length := by rw [Hstep.out k hlt, List.length_append]
   rw [hl1] at hpk1
   have Hl1 := Lib.hid hl1
   clear hl1
   generalize ((ss.take k).flatMap SV.l).length = p at *
   have hp1 : (p : Int) + (ss[k].l.length : Int) ≤ 65536 := by omega
   have hp0 : decide ((p : Int) + (ss[k].l.length : Int) < 0) = false := by rw [decide_eq_false_iff_not]; omega
   go_wp2
   go_round
   case rel => exact ⟨k + 1, by omega, by go_num, by rw [Hl1.out]; go_num⟩
   case measure => simp [intOf]; omega
  ·obtain rfl : k = ss.length := by omega
   rw [List.take_length] at hpk ⊢
   clear ht
   generalize (ss.flatMap SV.l).length = q at *
   go_wp2_with fail
   refine (grow_i64 _ _ (by omega)).mono ?_
   rintro e w1 ⟨v1, rfl, hO1, hb1⟩
   go_wp2_with fail
   go_loopw [6, 27] (fun v i wr => ∃ k : Nat, k ≤ ss.length ∧ i = i64 k ∧ Own wr w.heap.size 2 v ((ss.take k).flatMap SV.l) ∧ Below w.heap.size w wr) (fun _ i _ => ss.length - (intOf i).toNat)
   case atStart => exact ⟨0, Nat.zero_le _, rfl, hO1, hb1⟩
   case round =>
    obtain ⟨k, hk, rfl, hO, hb⟩ := hrel
    have hpk2 := Hpre.out k hk
    by_cases hlt : k < ss.length
    ·obtain ⟨b, o, rfl, hbb, hok, d0⟩ := (h.below hb).sv hlt
     have hs := hok.mono (hO.oth (Nat.le_refl _) hb.size)
     have hpk1 := Hpre.out (k + 1) hlt
     rw [Hstep.out k hlt, List.length_append] at hpk1
     have HO := Lib.hid hO
     have Hs := Lib.hid hs
     clear hok hs hO1 hb1 hO
     go_wp2_with (at_builtin; refine wpList_append_slice rfl (some 33) (.tmp 31) (.tmp 32) 181 rfl rfl (i64 0) 8 Tryz.underlying181 inf_i64 rfl (by decide) (by decide) rfl HO.out ss[k].a ss[k].l.length ss[k].c ss[k].l rfl rfl Hs.out (by omega) hb.size ?_; intro v3 w3 hO3 hg3 hat3)
     go_roundw
     case rel => exact ⟨k + 1, by omega, by go_num, by rw [Hstep.out k hlt]; exact hO3, hb.trans (HO.out.below hg3 (Nat.le_refl _) hb.size)⟩
     case measure => simp [intOf]; omega
    ·obtain rfl : k = ss.length := by omega
     rw [List.take_length] at hO
     go_wp2
     go_ret
     exact ⟨_, rfl, hO, hb⟩
end Go.Proofs.YtampniiehgimhaaGreat
