/- audit: legs, moved -/
import Derived.Test.YtgholbeehkfbiaaGreatRows
import Derived.Test.YtgholbeehkfbiaaGreatBpAuM
import Derived.Test.YtgholbeehkfbiaaGreatBpMv
import Derived.Test.YtgholbeehkfbiaaGreatBm10
import Derived.Test.YtgholbeehkfbiaaGreatBm2
import Derived.Test.YtgholbeehkfbiaaGreatBm19
import Derived.Test.YtgholbeehkfbiaaGreatBm8
import Derived.Test.YtgholbeehkfbiaaGreatBm15
import Derived.Test.YtgholbeehkfbiaaGreatBm20
import Derived.Test.YtgholbeehkfbiaaGreatBpOperMv
import Derived.WalkKit
import Derived.WalkSpells
import Derived.WalkLawsBesides
import Derived.Deep.QuietTactic
import Derived.BigQuiet
import Derived.Laws.StructEq
import Derived.Deep.DeepFit
import Derived.StillTailTactics
namespace Go.Proofs.YtgholbeehkfbiaaGreat
open Go.RowKit
theorem mvInfo : (Tryz.prog.info? 85).map (fun i => (i.zero, i.size, i.bytes)) = some (some (.agg #[i64 0, i64 0, i64 0, .slice none 0 0]), Enc.size Mv, 48) := by kernel_rfl
theorem lnInfo : (Tryz.prog.info? 104).map (fun i => (i.zero, i.size, i.bytes)) = some (some (.agg #[.string ByteArray.empty, i64 0, i64 0]), Enc.size Ln, 32) := by kernel_rfl
theorem wrap_neg {s : Int} (h : 1 ≤ s ∧ s ≤ 9223372036854775807) : wrap64 (-s) = -s := by rw [← IntWalk.i64_left, IntKind.wrap_i64]; omega
theorem SlS.some_ {α : Type} [Enc α] {w : World} {S : Nat → Prop} {c : Nat} {A : Option Addr} {l : List α} (h : SlS w S A c l) (h0 : 0 < l.length) : A.isNone = false := by
  obtain ⟨b, o, rfl, -⟩ := h.2.2.1 h0
  rfl
/-- blocks that are new behind w -/
abbrev NewB (w w' : World) : Nat → Prop := fun b => w.heap.size ≤ b ∧ b < w'.heap.size
set_option maxRecDepth 100000 in
set_option maxHeartbeats 4000000 in
theorem alegs_c (x : Od) (w : World) (hl : Okb w w.heap.size x) (hk : x.kind = 2 ∨ x.kind = 4) (hs : x.kind = 4 → 1 ≤ x.sum ∧ x.sum ≤ 9223372036854775807) (hn : x.legs.length ≤ 65536) :
    Calls Tryz.prog 87 #[x.v] w fun e w' => ∃ A c, e = .returned (.slice A (mvL x).length c) ∧ SlS w' (NewB w w') A c (mvL x) ∧ Below w.heap.size w w' := by
  rcases hk with k | k
  · have hm : mvL x = x.legs := by unfold mvL; rw [if_pos k]
    rw [hm]
    have hba := (Below.refl w.heap.size w).alloc (Nat.le_refl _) (.cells #[i64 x.client, i64 x.seq, i64 x.kind, .string x.acct, .string x.peer, i64 x.sum, .slice x.la x.legs.length x.lc, i64 x.period, i64 x.hold, .string x.note] 37)
    have hob := heap_alloc_new w (.cells #[i64 x.client, i64 x.seq, i64 x.kind, .string x.acct, .string x.peer, i64 x.sum, .slice x.la x.legs.length x.lc, i64 x.period, i64 x.hold, .string x.note] 37)
    have hl1 := (show Sl w w.heap.size x.la x.lc x.legs from hl.legs).later hba
    have HC := Lib.hid (clone_leg x.la x.lc x.legs _ hl1 hn)
    have k2 := cell_of_row _ w.heap.size 2 _ _ (0, 0) hob
    have k6 := cell_of_row _ w.heap.size 6 _ _ (0, 0) hob
    simp only [List.getElem?_toArray, List.getElem?_cons_zero, List.getElem?_cons_succ] at k2 k6
    have g1 : (x.kind == 2) = true := beq_iff_eq.2 k
    have hsz : (w.alloc (.cells #[i64 x.client, i64 x.seq, i64 x.kind, .string x.acct, .string x.peer, i64 x.sum, .slice x.la x.legs.length x.lc, i64 x.period, i64 x.hold, .string x.note] 37)).heap.size = w.heap.size + 1 := by simp
    clear hl hl1 hob k hs hm
    unfold Od.v
    go_enter Tryz.func87, Tryz.ntmps87
    go_wp2_with fail
    generalize w.alloc (.cells #[i64 x.client, i64 x.seq, i64 x.kind, .string x.acct, .string x.peer, i64 x.sum, .slice x.la x.legs.length x.lc, i64 x.period, i64 x.hold, .string x.note] 37) = w1 at *
    refine HC.out.mono ?_
    rintro e w2 ⟨v, rfl, hO, hF⟩
    have hb2 := below_on hba (by omega) hF
    obtain ⟨A, c, rfl, hS⟩ := hO.sl_at (S := NewB w w2) (fun b e => ⟨by have := (hO.1.lt b e).1; omega, (hO.1.lt b e).2⟩) (fun y hy => hO.2 y hy)
    have HS := Lib.hid hS
    clear hO hS HC hF hba
    go_wp2
    go_ret
    exact ⟨A, c, rfl, HS.out, hb2⟩
  · obtain ⟨ns, hns⟩ : ∃ ns, ns = -x.sum := ⟨_, rfl⟩
    have hm : mvL x = [⟨x.acct, ns⟩, ⟨x.peer, x.sum⟩] := by unfold mvL legs2; rw [if_neg (by omega), hns]
    rw [hm]
    have hba := (Below.refl w.heap.size w).alloc (Nat.le_refl _) (.cells #[i64 x.client, i64 x.seq, i64 x.kind, .string x.acct, .string x.peer, i64 x.sum, .slice x.la x.legs.length x.lc, i64 x.period, i64 x.hold, .string x.note] 37)
    have hob := heap_alloc_new w (.cells #[i64 x.client, i64 x.seq, i64 x.kind, .string x.acct, .string x.peer, i64 x.sum, .slice x.la x.legs.length x.lc, i64 x.period, i64 x.hold, .string x.note] 37)
    have k2 := cell_of_row _ w.heap.size 2 _ _ (0, 0) hob
    have k3 := cell_of_row _ w.heap.size 3 _ _ (0, 0) hob
    have k4 := cell_of_row _ w.heap.size 4 _ _ (0, 0) hob
    have k5 := cell_of_row _ w.heap.size 5 _ _ (0, 0) hob
    simp only [List.getElem?_toArray, List.getElem?_cons_zero, List.getElem?_cons_succ] at k2 k3 k4 k5
    have g1 : (x.kind == 2) = false := beq_eq_false_iff_ne.2 (by omega)
    have g2 : (x.kind == 4) = true := beq_iff_eq.2 k
    have hw : wrap64 (-x.sum) = ns := by rw [hns]; exact wrap_neg (hs k)
    have hsz : (w.alloc (.cells #[i64 x.client, i64 x.seq, i64 x.kind, .string x.acct, .string x.peer, i64 x.sum, .slice x.la x.legs.length x.lc, i64 x.period, i64 x.hold, .string x.note] 37)).heap.size = w.heap.size + 1 := by simp
    have Hok := Lib.hid (show x.acct.size ≤ maxLen ∧ x.peer.size ≤ maxLen from ⟨hl.acct, hl.peer⟩)
    clear hl hob k hs hm hns
    unfold Od.v
    go_enter Tryz.func87, Tryz.ntmps87
    go_wp2_with fail
    generalize w.alloc (.cells #[i64 x.client, i64 x.seq, i64 x.kind, .string x.acct, .string x.peer, i64 x.sum, .slice x.la x.legs.length x.lc, i64 x.period, i64 x.hold, .string x.note] 37) = w1 at *
    have hO2 := own_lit (w := w1) (base := w1.heap.size) 173 #[.string x.acct, i64 ns, .string x.peer, i64 x.sum] [(⟨x.acct, ns⟩ : Leg), ⟨x.peer, x.sum⟩] (Nat.le_refl _) rfl (by simp) (fun y hy => by
      rcases List.mem_cons.1 hy with rfl | hy
      · exact Hok.out.1
      · rw [List.mem_singleton.1 hy]; exact Hok.out.2)
    obtain ⟨A, c, hv, hS⟩ := hO2.sl_at (S := NewB w (w1.alloc (.cells #[.string x.acct, i64 ns, .string x.peer, i64 x.sum] 173))) (fun b e => ⟨by have := (hO2.1.lt b e).1; omega, (hO2.1.lt b e).2⟩) (fun y hy => hO2.2 y hy)
    rw [hsz] at hv
    have HS := Lib.hid hS
    have Hv := Lib.hid hv
    have hb2 := hba.alloc (by omega) (.cells #[.string x.acct, i64 ns, .string x.peer, i64 x.sum] 173)
    clear hO2 hS hv hba
    go_wp2
    go_ret
    exact ⟨A, c, congrArg Ending.returned (show _ = _ from Hv.out), HS.out, hb2⟩
set_option maxRecDepth 100000 in
set_option maxHeartbeats 4000000 in
theorem alegs_no (x : Od) (w : World) (hk : ¬ (x.kind = 2 ∨ x.kind = 4)) :
    Calls Tryz.prog 87 #[x.v] w fun e w' => e = .returned (.slice none 0 0) ∧ Below w.heap.size w w' := by
  have hba := (Below.refl w.heap.size w).alloc (Nat.le_refl _) (.cells #[i64 x.client, i64 x.seq, i64 x.kind, .string x.acct, .string x.peer, i64 x.sum, .slice x.la x.legs.length x.lc, i64 x.period, i64 x.hold, .string x.note] 37)
  have hob := heap_alloc_new w (.cells #[i64 x.client, i64 x.seq, i64 x.kind, .string x.acct, .string x.peer, i64 x.sum, .slice x.la x.legs.length x.lc, i64 x.period, i64 x.hold, .string x.note] 37)
  have k2 := cell_of_row _ w.heap.size 2 _ _ (0, 0) hob
  simp only [List.getElem?_toArray, List.getElem?_cons_zero, List.getElem?_cons_succ] at k2
  have g1 : (x.kind == 2) = false := beq_eq_false_iff_ne.2 (fun e => hk (.inl e))
  have g2 : (x.kind == 4) = false := beq_eq_false_iff_ne.2 (fun e => hk (.inr e))
  clear hob hk
  unfold Od.v
  go_enter Tryz.func87, Tryz.ntmps87
  go_wp2
  go_ret
  exact ⟨rfl, hba⟩
theorem movedZ_snoc (Z : List (Od × Rp)) (p : Od × Rp) : movedZ (Z ++ [p]) = if mvB p = true then movedZ Z ++ [p.1] else movedZ Z := by
  rw [movedZ_app]
  unfold movedZ
  by_cases h : mvB p = true
  · rw [if_pos h, List.filter_cons_of_pos h]; rfl
  · rw [if_neg h, List.filter_cons_of_neg h]; simp
set_option maxRecDepth 100000 in
set_option maxHeartbeats 16000000 in
theorem amoved_c (A : Option Addr) (c : Nat) (l : List Od) (w : World) (h : Sl w w.heap.size A c l) (hx : ∀ x ∈ l, OdB x) (hl : ∀ x ∈ l, x.legs.length ≤ 65536) (hn : l.length ≤ 60000) :
    Calls Tryz.prog 86 #[.slice A l.length c] w fun e w' => ∃ v, e = .returned v ∧ Own w' w.heap.size 37 v (movedL l) ∧ Below w.heap.size w w' := by
  have hN := Lib.hid (bfold_c A c l w h hx hl hn)
  have H := Lib.hid h
  have Hx := Lib.hid hx
  have Hl := Lib.hid hl
  have hlc : l.length ≤ c := h.1
  have HT := Lib.hid (show ∀ k (hk : k < l.length), ∃ r, (toldL bk0 l)[k]? = some r ∧ (toldZ bk0 l).take (k + 1) = (toldZ bk0 l).take k ++ [(l[k], r)] ∧ (l[k], r) ∈ toldZ bk0 l from fun k hk => ⟨_, List.getElem?_eq_getElem (by rw [toldL_len]; exact hk), toldZ_take bk0 hk, toldZ_get (B := bk0) hk⟩)
  have HTl := Lib.hid (toldL_len l bk0)
  have HM := Lib.hid (fun p hp => toldZ_mem l bk0 inv_bk0 hx p hp)
  have HZl := Lib.hid (toldZ_len bk0 l)
  clear h hx hl
  change Calls _ _ _ _ fun e w' => ∃ v, e = .returned v ∧ Own w' w.heap.size 37 v (movedZ (toldZ bk0 l)) ∧ Below w.heap.size w w'
  generalize toldZ bk0 l = Z at *
  generalize toldL bk0 l = R at *
  go_enter Tryz.func86, Tryz.ntmps86
  go_wp2_with fail
  refine hN.out.mono ?_
  rintro e w1 ⟨a, vt, B0, rfl, -, -, hOt, -, -, hF⟩
  obtain ⟨At, ct, rfl, hst⟩ := hOt.sl
  have hl1 := H.out.later hF
  have hw1 := hF.size
  have hct : R.length ≤ ct := hst.1
  have HS := Lib.hid (fun V (hV : Below w1.heap.size w1 V) => hst.later hV)
  have HL := Lib.hid (fun V (hV : Below w1.heap.size w1 V) => hl1.later hV)
  have HL1 := Lib.hid hl1
  have hF1 := Lib.hid hF
  have hr0 : R.length = l.length := HTl.out
  have Hr0 := Lib.hid hr0
  clear hN hOt hst hl1 H hr0 HTl hF
  go_wp2_with fail
  go_loopw [5, 15] (fun v i wr => ∃ k : Nat, i = i64 k ∧ k ≤ l.length ∧ Own wr w1.heap.size 37 v (movedZ (Z.take k)) ∧ Below w1.heap.size w1 wr) (fun _ i _ => l.length - (intOf i).toNat)
  case atStart => exact ⟨0, rfl, Nat.zero_le _, by rw [List.take_zero]; exact Own.nil_ _ _ _, Below.refl _ _⟩
  case round =>
    obtain ⟨k, rfl, hk, hO, hb⟩ := hrel
    obtain ⟨wo, rfl⟩ : ∃ wo, wo = wr := ⟨wr, rfl⟩
    have hwz := hb.size
    by_cases hlt : k < l.length
    · have g1 : decide ((k : Int) < (l.length : Int)) = true := decide_eq_true (by omega)
      have g2 : decide (k < l.length) = true := decide_eq_true hlt
      have i0 : (0 : Int) ≤ (k : Int) := by omega
      have i1 : (k : Int) < (l.length : Int) := by omega
      have hrl : k < R.length := by rw [Hr0.out]; exact hlt
      have i2 : (k : Int) < (R.length : Int) := by omega
      obtain ⟨b, o, rfl, hbb, hok, c0, c1, c2, c3, c4, c5, c6, c7, c8, c9⟩ := (HL.out _ hb).od hlt
      have hst2 := HS.out _ hb
      have hok0 := (HL1.out.keep (fun p hp => hb.cell hp) (fun b hb => hb)).2.2.2 l[k] (List.getElem_mem hlt)
      have hxo := Hx.out l[k] (List.getElem_mem hlt)
      have hll := Hl.out l[k] (List.getElem_mem hlt)
      obtain ⟨r, hrk, hT, hZ0⟩ := HT.out k hlt
      have hZ := HM.out _ hZ0
      have hlen : (movedZ (Z.take k)).length ≤ 60000 := by
        unfold movedZ
        rw [List.length_map]
        refine Nat.le_trans (List.length_filter_le _ _) ?_
        rw [List.length_take]; omega
      obtain ⟨x, hxk⟩ : ∃ x, l[k] = x := ⟨_, rfl⟩
      have hrk : R[k]'hrl = r := List.getElem_eq_iff hrl |>.2 hrk
      obtain ⟨bt, ot, rfl, hbt, r0, -⟩ := hst2.rp hrl
      simp only [hxk] at c0 c1 c2 c3 c4 c5 c6 c7 c8 c9 hok hok0 hxo hll hT hZ
      simp only [hrk] at r0 hT hZ
      have Hmv := Lib.hid (show movedZ (Z.take (k + 1)) = if mvB (x, r) = true then movedZ (Z.take k) ++ [x] else movedZ (Z.take k) by rw [hT, movedZ_snoc])
      have hba := (Below.refl wo.heap.size wo).alloc (Nat.le_refl _) (.cells #[i64 x.client, i64 x.seq, i64 x.kind, .string x.acct, .string x.peer, i64 x.sum, .slice x.la x.legs.length x.lc, i64 x.period, i64 x.hold, .string x.note] 37)
      have hob := heap_alloc_new wo (.cells #[i64 x.client, i64 x.seq, i64 x.kind, .string x.acct, .string x.peer, i64 x.sum, .slice x.la x.legs.length x.lc, i64 x.period, i64 x.hold, .string x.note] 37)
      have hO1 := hO.later hba
      have hok1 := Okb.later (show Okb wo wo.heap.size x from hok) hba
      have hokb := Enc.keep (α := Od) hok0 (fun p hp => hba.cell (Nat.lt_of_lt_of_le hp hb.size)) (fun _ h => h)
      have r1 := (hba.cell (p := ⟨bt, ot + k * 4, none⟩) hbt).trans r0
      have hb1 := hb.alloc hb.size (.cells #[i64 x.client, i64 x.seq, i64 x.kind, .string x.acct, .string x.peer, i64 x.sum, .slice x.la x.legs.length x.lc, i64 x.period, i64 x.hold, .string x.note] 37)
      have hz1 : (wo.alloc (.cells #[i64 x.client, i64 x.seq, i64 x.kind, .string x.acct, .string x.peer, i64 x.sum, .slice x.la x.legs.length x.lc, i64 x.period, i64 x.hold, .string x.note] 37)).heap.size = wo.heap.size + 1 := by simp
      have HO1 := Lib.hid hO1
      have Hob := Lib.hid hob
      have Hb1 := Lib.hid hb1
      have Hok1 := Lib.hid hok1
      have Hokb := Lib.hid hokb
      have HZ1 := Lib.hid hZ
      have Hlen := Lib.hid hlen
      have Hxo := Lib.hid hxo
      clear hxk hrk hok hok0 hZ0 hxo hT hZ hst2 hO hO1 hok1 hokb hob hb1 hlen r0 hbb hbt hba
      by_cases he : r.err = 0
      · have e1 : (r.err == 0) = true := beq_iff_eq.2 he
        by_cases hk24 : x.kind = 2 ∨ x.kind = 4
        · have hmv : Mvd x := by
            obtain ⟨-, C, hC, e⟩ := HZ1.out
            have hd : (doL C x).1.err = 0 := by rw [← e]; exact he
            exact ⟨do_right hd, hk24, C, hC, hd⟩
          rw [if_pos (show mvB (x, r) = true by unfold mvB; simp [he, hk24])] at Hmv
          have hfit := hmv.fits
          have HA := Lib.hid (alegs_c x _ Hok1.out hk24 (fun e => ⟨hfit.2.2.2.2 e, Hxo.out.rng.2.2.2.1.2⟩) hll)
          have Hml := Lib.hid (show 0 < (mvL x).length by omega)
          clear hmv hfit he hk24 HZ1
          unfold Od.v at HA
          generalize mvL x = ml at *
          go_wp2_with fail
          generalize wo.alloc (.cells #[i64 x.client, i64 x.seq, i64 x.kind, .string x.acct, .string x.peer, i64 x.sum, .slice x.la x.legs.length x.lc, i64 x.period, i64 x.hold, .string x.note] 37) = w2 at *
          refine HA.out.mono ?_
          rintro e w3 ⟨A3, c3, rfl, hs3, hF3⟩
          have hnn := hs3.some_ Hml.out
          have hob3 := (hF3.block wo.heap.size (by omega)).trans Hob.out
          have k0 := cell_of_row _ wo.heap.size 0 _ _ (0, 0) hob3
          have k1 := cell_of_row _ wo.heap.size 1 _ _ (0, 0) hob3
          have k2 := cell_of_row _ wo.heap.size 2 _ _ (0, 0) hob3
          have k3 := cell_of_row _ wo.heap.size 3 _ _ (0, 0) hob3
          have k4 := cell_of_row _ wo.heap.size 4 _ _ (0, 0) hob3
          have k5 := cell_of_row _ wo.heap.size 5 _ _ (0, 0) hob3
          have k6 := cell_of_row _ wo.heap.size 6 _ _ (0, 0) hob3
          have k7 := cell_of_row _ wo.heap.size 7 _ _ (0, 0) hob3
          have k8 := cell_of_row _ wo.heap.size 8 _ _ (0, 0) hob3
          have k9 := cell_of_row _ wo.heap.size 9 _ _ (0, 0) hob3
          simp only [List.getElem?_toArray, List.getElem?_cons_zero, List.getElem?_cons_succ] at k0 k1 k2 k3 k4 k5 k6 k7 k8 k9
          have hb3 := Hb1.out.trans (hF3.mono Hb1.out.size)
          have hO3 := HO1.out.later hF3
          have hba3 := (Below.refl w3.heap.size w3).alloc (Nat.le_refl _) (.cells #[i64 x.client, i64 x.seq, i64 x.kind, .string x.acct, .string x.peer, i64 x.sum, .slice x.la x.legs.length x.lc, i64 x.period, i64 x.hold, .string x.note] 37)
          have HO4 := Lib.hid (hO3.later hba3)
          have Hne := Lib.hid (hO3.new_ne (Nat.le_refl w3.heap.size))
          have HH := Lib.hid (heap_alloc_new w3 (.cells #[i64 x.client, i64 x.seq, i64 x.kind, .string x.acct, .string x.peer, i64 x.sum, .slice x.la x.legs.length x.lc, i64 x.period, i64 x.hold, .string x.note] 37))
          have Hb4 := Lib.hid (hb3.alloc hb3.size (.cells #[i64 x.client, i64 x.seq, i64 x.kind, .string x.acct, .string x.peer, i64 x.sum, .slice x.la x.legs.length x.lc, i64 x.period, i64 x.hold, .string x.note] 37))
          have Hokx := Lib.hid (Enc.keep (α := Od) Hokb.out (fun p hp => (hF3.trans (hba3.mono hF3.size)).cell (Nat.lt_of_lt_of_le hp Hb1.out.size)) (fun b hb => HO4.out.oth (Nat.le_refl _) Hb4.out.size b hb))
          clear hs3 hF3 hob3 hO3 hba3 hb3 HA Hob HO1 Hb1 Hok1 Hokb
          go_wp2_with (at_builtin; refine wpList_append_one rfl (some 34) (.tmp 31) (.tmp 33) 22 rfl rfl _ 120 Tryz.underlying22 inf_od rfl (by decide) (by decide) rfl HO4.out w3.heap.size x rfl _ 37 HH.out rfl Hne.out Hokx.out (by have := Hlen.out; omega) Hb4.out.size ?_; intro v4 w4 hO5 hg5 hat5)
          go_roundw
          case rel => exact ⟨k + 1, by go_num, by omega, by rw [Hmv.out]; exact hO5, Hb4.out.trans (HO4.out.below hg5 (Nat.le_refl _) Hb4.out.size)⟩
          case measure => simp [intOf]; omega
        · rw [if_neg (show ¬ mvB (x, r) = true by unfold mvB; simp [hk24])] at Hmv
          have HA := Lib.hid (alegs_no x (wo.alloc (.cells #[i64 x.client, i64 x.seq, i64 x.kind, .string x.acct, .string x.peer, i64 x.sum, .slice x.la x.legs.length x.lc, i64 x.period, i64 x.hold, .string x.note] 37)) hk24)
          clear he hk24 HZ1
          unfold Od.v at HA
          go_wp2_with fail
          generalize wo.alloc (.cells #[i64 x.client, i64 x.seq, i64 x.kind, .string x.acct, .string x.peer, i64 x.sum, .slice x.la x.legs.length x.lc, i64 x.period, i64 x.hold, .string x.note] 37) = w2 at *
          refine HA.out.mono ?_
          rintro e w3 ⟨rfl, hF3⟩
          have HO3 := Lib.hid (HO1.out.later hF3)
          have hb3 := Hb1.out.trans (hF3.mono Hb1.out.size)
          clear HA hF3 Hob HO1 Hb1 Hok1 Hokb
          go_wp2
          go_roundw
          case rel => exact ⟨k + 1, by go_num, by omega, by rw [Hmv.out]; exact HO3.out, hb3⟩
          case measure => simp [intOf]; omega
      · have e1 : (r.err == 0) = false := beq_eq_false_iff_ne.2 he
        rw [if_neg (show ¬ mvB (x, r) = true by unfold mvB; simp [he])] at Hmv
        clear he HZ1
        go_wp2
        go_roundw
        case rel => exact ⟨k + 1, by go_num, by omega, by rw [Hmv.out]; exact HO1.out, Hb1.out⟩
        case measure => simp [intOf]; omega
    · obtain rfl : k = l.length := by omega
      have g1 : decide ((l.length : Int) < (l.length : Int)) = false := decide_eq_false (by omega)
      rw [List.take_of_length_le (by rw [HZl.out]; exact Nat.le_refl _)] at hO
      have HO := Lib.hid hO
      clear hO
      go_wp2
      go_ret
      exact ⟨_, rfl, HO.out.mono hw1, hF1.out.trans (hb.mono hw1)⟩
theorem Enc.ok_mv {w : World} {S S' : Nat → Prop} {x : Mv} (h : SlS w S x.la x.lc x.legs) (hS : ∀ b, S b → S' b) : Enc.ok w S' x := (⟨h.mono hS⟩ : Mv.Ok w S' x)
set_option maxRecDepth 100000 in
set_option maxHeartbeats 16000000 in
theorem amoves_c (A : Option Addr) (c : Nat) (l : List Od) (w : World) (h : Sl w w.heap.size A c l) (hx : ∀ x ∈ l, OdB x) (hl : ∀ x ∈ l, x.legs.length ≤ 65536) (hn : l.length ≤ 60000) :
    Calls Tryz.prog 43 #[.slice A l.length c] w fun e w' => ∃ (v : Value) (M : List Mv), e = .returned v ∧ M.map Mv.core = (movedL l).map coreM ∧ Own w' w.heap.size 85 v M ∧ Below w.heap.size w w' := by
  have hN := Lib.hid (amoved_c A c l w h hx hl hn)
  have hlc : l.length ≤ c := h.1
  have HX := Lib.hid (show ∀ x ∈ movedL l, OdB x ∧ Mvd x ∧ x.legs.length ≤ 65536 from fun x hm => ⟨hx x (movedL_mem hx hm).1, (movedL_mem hx hm).2, hl x (movedL_mem hx hm).1⟩)
  have hLn : (movedL l).length ≤ 60000 := Nat.le_trans (movedL_len l) hn
  clear h hx hl
  generalize movedL l = L at *
  go_enter Tryz.func43, Tryz.ntmps43
  go_wp2_with fail
  refine hN.out.mono ?_
  rintro e w1 ⟨vm, rfl, hOm, hF⟩
  obtain ⟨Am, cm, rfl, hsm⟩ := hOm.sl
  have hcm : L.length ≤ cm := hsm.1
  have hw1 := hF.size
  have HL := Lib.hid (fun V (hV : Below w1.heap.size w1 V) => hsm.later hV)
  have HF1 := Lib.hid hF
  clear hN hOm hsm hF
  go_wp2_with fail
  go_loopw [3, 9] (fun v i wr => ∃ (k : Nat) (M : List Mv) (vo : Value), vo = v ∧ i = i64 k ∧ k ≤ L.length ∧ M.map Mv.core = (L.take k).map coreM ∧ Own wr w1.heap.size 85 v M ∧ Below w1.heap.size w1 wr) (fun _ i _ => L.length - (intOf i).toNat)
  case atStart => exact ⟨0, [], _, rfl, rfl, Nat.zero_le _, rfl, Own.nil_ _ _ _, Below.refl _ _⟩
  case round =>
    obtain ⟨k, M, v, rfl, rfl, hk, hM, hO, hb⟩ := hrel
    obtain ⟨wo, rfl⟩ : ∃ wo, wo = wr := ⟨wr, rfl⟩
    have hwz := hb.size
    by_cases hlt : k < L.length
    · have g1 : decide ((k : Int) < (L.length : Int)) = true := decide_eq_true (by omega)
      have g2 : decide (k < L.length) = true := decide_eq_true hlt
      have i0 : (0 : Int) ≤ (k : Int) := by omega
      have i1 : (k : Int) < (L.length : Int) := by omega
      obtain ⟨b, o, rfl, hbb, hok, c0, c1, c2, c3, c4, c5, c6, c7, c8, c9⟩ := (HL.out _ hb).od hlt
      obtain ⟨hxo, hmv, hll⟩ := HX.out L[k] (List.getElem_mem hlt)
      have hMl : M.length = k := by have := congrArg List.length hM; rw [List.length_map, List.length_map, List.length_take] at this; omega
      have Hln := Lib.hid (show M.length + 1 ≤ 4294967296 by rw [hMl]; omega)
      have Htk := Lib.hid (show (L.take (k + 1)).map coreM = (L.take k).map coreM ++ [coreM L[k]] by rw [List.take_succ_eq_append_getElem hlt, List.map_append]; rfl)
      obtain ⟨x, hxk⟩ : ∃ x, L[k] = x := ⟨_, rfl⟩
      simp only [hxk] at c0 c1 c2 c3 c4 c5 c6 c7 c8 c9 hok hxo hmv hll Htk
      have hfit := hmv.fits
      have hba := (Below.refl wo.heap.size wo).alloc (Nat.le_refl _) (.cells #[i64 x.client, i64 x.seq, i64 x.kind, .string x.acct, .string x.peer, i64 x.sum, .slice x.la x.legs.length x.lc, i64 x.period, i64 x.hold, .string x.note] 37)
      have hob := heap_alloc_new wo (.cells #[i64 x.client, i64 x.seq, i64 x.kind, .string x.acct, .string x.peer, i64 x.sum, .slice x.la x.legs.length x.lc, i64 x.period, i64 x.hold, .string x.note] 37)
      have HM := Lib.hid hM
      have HA : Hid (∀ V, Below (wo.alloc (.cells #[i64 x.client, i64 x.seq, i64 x.kind, .string x.acct, .string x.peer, i64 x.sum, .slice x.la x.legs.length x.lc, i64 x.period, i64 x.hold, .string x.note] 37)).heap.size (wo.alloc (.cells #[i64 x.client, i64 x.seq, i64 x.kind, .string x.acct, .string x.peer, i64 x.sum, .slice x.la x.legs.length x.lc, i64 x.period, i64 x.hold, .string x.note] 37)) V → Calls Tryz.prog 87 #[x.v] V fun e w' => ∃ A c, e = .returned (.slice A (mvL x).length c) ∧ SlS w' (NewB V w') A c (mvL x) ∧ Below V.heap.size V w') := Lib.hid fun V hV => alegs_c x V ((Okb.later (show Okb wo wo.heap.size x from hok) hba).later hV) hmv.kind (fun e => ⟨hfit.2.2.2.2 e, hxo.rng.2.2.2.1.2⟩) hll
      have HO : Hid (∀ V, Below (wo.alloc (.cells #[i64 x.client, i64 x.seq, i64 x.kind, .string x.acct, .string x.peer, i64 x.sum, .slice x.la x.legs.length x.lc, i64 x.period, i64 x.hold, .string x.note] 37)).heap.size (wo.alloc (.cells #[i64 x.client, i64 x.seq, i64 x.kind, .string x.acct, .string x.peer, i64 x.sum, .slice x.la x.legs.length x.lc, i64 x.period, i64 x.hold, .string x.note] 37)) V → Own V w1.heap.size 85 v M) := Lib.hid fun V hV => (hO.later hba).later hV
      have Hob := Lib.hid hob
      have Hvo := Lib.hid (show ∀ g, v.ownBlock = some g → g ≠ wo.heap.size from fun g e e2 => by have := (hO.1.lt g e).2; omega)
      have Hbw := Lib.hid (hb.alloc hb.size (.cells #[i64 x.client, i64 x.seq, i64 x.kind, .string x.acct, .string x.peer, i64 x.sum, .slice x.la x.legs.length x.lc, i64 x.period, i64 x.hold, .string x.note] 37))
      have hz0 : (wo.alloc (.cells #[i64 x.client, i64 x.seq, i64 x.kind, .string x.acct, .string x.peer, i64 x.sum, .slice x.la x.legs.length x.lc, i64 x.period, i64 x.hold, .string x.note] 37)).heap.size = wo.heap.size + 1 := by simp
      have hml : coreM x = (⟨x.client, x.seq⟩, x.period, mvL x) := rfl
      rw [hml] at Htk
      unfold Od.v at HA
      generalize mvL x = ml at *
      clear hxk hmv hxo hfit hok hba hO hob hM hMl hb hbb hml
      go_upto_region 5 with fail
      generalize wo.alloc (.cells #[i64 x.client, i64 x.seq, i64 x.kind, .string x.acct, .string x.peer, i64 x.sum, .slice x.la x.legs.length x.lc, i64 x.period, i64 x.hold, .string x.note] 37) = W0 at *
      have hw1W := Hbw.out.size
      generalize wo.heap.size = ob at *
      have hob1 : ob < W0.heap.size := by omega
      have HS : Hid (∀ V : World, Below w1.heap.size w1 V → V.heap[ob]? = some (.cells #[i64 x.client, i64 x.seq, i64 x.kind, .string x.acct, .string x.peer, i64 x.sum, .slice x.la x.legs.length x.lc, i64 x.period, i64 x.hold, .string x.note] 37 (0, 0)) → (fun V : World => Below w1.heap.size w1 V ∧ V.cell? ⟨ob, 0, none⟩ = some (i64 x.client) ∧ V.cell? ⟨ob, 1, none⟩ = some (i64 x.seq) ∧ V.cell? ⟨ob, 2, none⟩ = some (i64 x.kind) ∧ V.cell? ⟨ob, 3, none⟩ = some (.string x.acct) ∧ V.cell? ⟨ob, 4, none⟩ = some (.string x.peer) ∧ V.cell? ⟨ob, 5, none⟩ = some (i64 x.sum) ∧ V.cell? ⟨ob, 6, none⟩ = some (.slice x.la x.legs.length x.lc) ∧ V.cell? ⟨ob, 7, none⟩ = some (i64 x.period) ∧ V.cell? ⟨ob, 8, none⟩ = some (i64 x.hold) ∧ V.cell? ⟨ob, 9, none⟩ = some (.string x.note)) V) := Lib.hid fun V hV h1 => ⟨hV, cell_of_row _ ob 0 _ _ (0, 0) h1, cell_of_row _ ob 1 _ _ (0, 0) h1, cell_of_row _ ob 2 _ _ (0, 0) h1, cell_of_row _ ob 3 _ _ (0, 0) h1, cell_of_row _ ob 4 _ _ (0, 0) h1, cell_of_row _ ob 5 _ _ (0, 0) h1, cell_of_row _ ob 6 _ _ (0, 0) h1, cell_of_row _ ob 7 _ _ (0, 0) h1, cell_of_row _ ob 8 _ _ (0, 0) h1, cell_of_row _ ob 9 _ _ (0, 0) h1⟩
      refine wp_region_noPanic ?_
      refine wp_region_l 10 (fun V : World => Below w1.heap.size w1 V ∧ V.cell? ⟨ob, 0, none⟩ = some (i64 x.client) ∧ V.cell? ⟨ob, 1, none⟩ = some (i64 x.seq) ∧ V.cell? ⟨ob, 2, none⟩ = some (i64 x.kind) ∧ V.cell? ⟨ob, 3, none⟩ = some (.string x.acct) ∧ V.cell? ⟨ob, 4, none⟩ = some (.string x.peer) ∧ V.cell? ⟨ob, 5, none⟩ = some (i64 x.sum) ∧ V.cell? ⟨ob, 6, none⟩ = some (.slice x.la x.legs.length x.lc) ∧ V.cell? ⟨ob, 7, none⟩ = some (i64 x.period) ∧ V.cell? ⟨ob, 8, none⟩ = some (i64 x.hold) ∧ V.cell? ⟨ob, 9, none⟩ = some (.string x.note)) (by kernel_rfl) (HS.out _ (Hbw.out.trans ((Below.refl _ _).drew.mono Hbw.out.size)) (((Below.refl _ _).drew.block ob hob1).trans Hob.out)) (fun hH => ?_)
      have hbd := (Below.refl W0.heap.size W0).drew
      generalize W0.drew = Wd at *
      refine tkY 0 (v := ?v20001) ?y20001 ?r20001
      case y20001 => (intro W hW; go_simp; try with_reducible rfl)
      try simp only [List.set]
      refine tkY 1 (v := ?v20002) ?y20002 ?r20002
      case y20002 => (intro W hW; go_simp; try with_reducible rfl)
      try simp only [List.set]
      refine tkY 2 (v := ?v20003) ?y20003 ?r20003
      case y20003 => (intro W hW; go_simp; try with_reducible rfl)
      try simp only [List.set]
      refine tkY 3 (v := ?v20004) ?y20004 ?r20004
      case y20004 => (intro W hW; go_simp; try with_reducible rfl)
      try simp only [List.set]
      refine tkY 4 (v := ?v20005) ?y20005 ?r20005
      case y20005 => (intro W hW; go_simp; try with_reducible rfl)
      try simp only [List.set]
      refine tkY 5 (v := ?v20006) ?y20006 ?r20006
      case y20006 => (intro W hW; go_simp; try with_reducible rfl)
      try simp only [List.set]
      refine wpAnyL_one (i := 6) (by kernel_rfl) rfl (by decide) (fun K hK => ?_)
      refine oper_call1 87 18 _ rfl _ rfl (enters_of Tryz.func87 (by kernel_rfl) rfl) ?_
      refine (HA.out _ hbd).mono ?_
      rintro e u1 ⟨A3, c3, rfl, hs3, hF3⟩
      refine ⟨_, rfl, ?_⟩
      have HBu := Lib.hid (below_on hbd (Nat.le_refl _) hF3)
      have HO1 := Lib.hid ((HO.out _ hbd).later hF3)
      have Hs3 := Lib.hid (Enc.ok_mv (x := ⟨x.client, x.seq, x.period, A3, c3, ml⟩) hs3 (fun b hb => (⟨hb.2, fun e => by have h1 := ((HO.out _ hbd).1.lt b e.symm).2; have h2 := hb.1; omega⟩ : Oth u1 v b)))
      have Hne0 := Lib.hid (show some ob ≠ v.ownBlock from fun e => Hvo.out ob e.symm rfl)
      clear hF3 hs3
      refine hK.out _ _ (HS.out _ (Hbw.out.trans (HBu.out.mono Hbw.out.size)) ((HBu.out.block ob hob1).trans Hob.out)) (fun hH => ?_)
      clear hK K
      try simp only [Act.put, List.getElem_toArray, List.getElem_cons_zero, List.getElem_cons_succ, List.setIfInBounds_toArray, List.set_cons_zero, List.set_cons_succ]
      refine tkY 7 (v := ?v20007) ?y20007 ?r20007
      case y20007 => (intro W hW; go_simp; try with_reducible rfl)
      try simp only [List.set]
      refine wpAnyL_one (i := 8) (by kernel_rfl) rfl (by decide) (fun K hK => ?_)
      refine oper_lit_mv 20 rfl ⟨x.client, x.seq, x.period, A3, c3, ml⟩ rfl ?_
      have HH := Lib.hid (heap_alloc_new u1 (.cells #[i64 x.client, i64 x.seq, i64 x.period, .slice A3 ml.length c3] 85))
      have hba := (Below.refl u1.heap.size u1).alloc (Nat.le_refl _) (.cells #[i64 x.client, i64 x.seq, i64 x.period, .slice A3 ml.length c3] 85)
      have HO2 := Lib.hid (HO1.out.later hba)
      have Hne := Lib.hid (HO1.out.new_ne (Nat.le_refl u1.heap.size))
      have Hy := Lib.hid (Enc.keep (α := Mv) Hs3.out (fun p hp => hba.cell hp.1) (fun b hb => (⟨Nat.lt_of_lt_of_le hb.1 hba.size, hb.2⟩ : Oth (u1.alloc (.cells #[i64 x.client, i64 x.seq, i64 x.period, .slice A3 ml.length c3] 85)) v b)))
      have HBv := Lib.hid (HBu.out.alloc HBu.out.size (.cells #[i64 x.client, i64 x.seq, i64 x.period, .slice A3 ml.length c3] 85))
      clear hba HO1 Hs3 HBu
      refine hK.out _ _ (HS.out _ (Hbw.out.trans (HBv.out.mono Hbw.out.size)) ((HBv.out.block ob hob1).trans Hob.out)) (fun hH => ?_)
      clear hK K
      try simp only [Act.put, List.getElem_toArray, List.getElem_cons_zero, List.getElem_cons_succ, List.setIfInBounds_toArray, List.set_cons_zero, List.set_cons_succ]
      refine wpAnyL_one (i := 9) (by kernel_rfl) rfl (by decide) (fun K hK => ?_)
      refine oper_append_one (.tmp 13) (.tmp 21) 78 rfl _ 48 Tryz.underlying78 mvInfo rfl (by decide) (by decide) rfl HO2.out u1.heap.size ⟨x.client, x.seq, x.period, A3, c3, ml⟩ rfl _ 85 HH.out rfl Hne.out Hy.out Hln.out (Nat.le_trans hw1W HBv.out.size) ?_
      intro v2 u2 hO3 hg3 hat3
      have HB3 := Lib.hid ((Hbw.out.trans (HBv.out.mono Hbw.out.size)).trans (HO2.out.below hg3 (Nat.le_refl _) (Nat.le_trans hw1W HBv.out.size)))
      have hob3 := (hg3.block ob (Nat.lt_of_lt_of_le hob1 HBv.out.size) Hne0.out).trans ((HBv.out.block ob hob1).trans Hob.out)
      have HO3 := Lib.hid hO3
      clear hg3 hat3 HO2 HH Hne Hy hO3
      refine hK.out _ _ (HS.out _ HB3.out hob3) (fun hH => ?_)
      clear hK K
      try simp only [Act.put, List.getElem_toArray, List.getElem_cons_zero, List.getElem_cons_succ, List.setIfInBounds_toArray, List.set_cons_zero, List.set_cons_succ]
      refine wpAnyL_last (by kernel_rfl) rfl (fun K hK => ?_)
      refine oper_assign (.tmp 22) rfl v2 rfl ?_
      refine hK.out _ _ ?_
      clear hK K
      try simp only [Act.put, List.getElem_toArray, List.getElem_cons_zero, List.getElem_cons_succ, List.setIfInBounds_toArray, List.set_cons_zero, List.set_cons_succ]
      refine wpAnyL_done (by kernel_rfl) ?_ _
      refine NoPanic.normal ?_
      clear hH HS
      go_wp2
      go_roundw
      case rel => exact ⟨k + 1, M ++ [⟨x.client, x.seq, x.period, A3, c3, ml⟩], _, rfl, by go_num, by omega, by rw [List.map_append, HM.out, Htk.out]; rfl, HO3.out, HB3.out⟩
      case measure => simp [intOf]; omega
    · obtain rfl : k = L.length := by omega
      have g1 : decide ((L.length : Int) < (L.length : Int)) = false := decide_eq_false (by omega)
      rw [List.take_length] at hM
      have HO := Lib.hid hO
      have HM := Lib.hid hM
      clear hO hM
      go_wp2
      go_ret
      exact ⟨_, M, rfl, HM.out, HO.out.mono hw1, HF1.out.trans (hb.mono hw1)⟩
end Go.Proofs.YtgholbeehkfbiaaGreat
