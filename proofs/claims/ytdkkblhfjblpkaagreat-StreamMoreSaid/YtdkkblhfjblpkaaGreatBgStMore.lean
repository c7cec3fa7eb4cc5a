/- StreamMore -/
import Derived.Test.YtdkkblhfjblpkaaGreatRows
import Derived.Test.YtdkkblhfjblpkaaGreatBk16
import Derived.Test.YtdkkblhfjblpkaaGreatBk1
import Derived.Test.YtdkkblhfjblpkaaGreatBk12
import Derived.Test.YtdkkblhfjblpkaaGreatBgNames5
import Derived.Test.YtdkkblhfjblpkaaGreatBk17
import Derived.Deep.Cut
import Derived.WalkKit
import Derived.WalkSpells
import Derived.WalkLawsBesides
import Derived.Deep.QuietTactic
import Derived.BigQuiet
import Derived.Laws.StructEq
import Derived.Deep.DeepFit
import Derived.StillTailTactics
namespace Go.Proofs.YtdkkblhfjblpkaaGreat
open Go.RowKit
theorem cut8_cut8 (x : Od) : cut8 (cut8 x) = cut8 x := cut8_small (by show (x.legs.take 8).length ≤ 8; rw [List.length_take]; omega)
theorem fewL_snoc {l : List Od} (h : l.length ≤ 50) (o : Od) (hc : ∀ x ∈ l, cut8 x = x) : fewL 51 (l ++ [o]) = l ++ [cut8 o] := by
  unfold fewL
  rw [List.take_of_length_le (by simp; omega), List.map_append]
  congr 1
  exact (List.map_congr_left hc).trans (List.map_id l)
theorem fewL_cut (n : Nat) (l : List Od) : ∀ x ∈ fewL n l, cut8 x = x := fun x hx => by
  obtain ⟨y, _, rfl⟩ := List.mem_map.1 hx
  exact cut8_cut8 y
theorem nm_take {z : Od} {k : Nat} (hk : k < (touches z).length) (nm : ByteArray) : ((touches z).take (k + 1)).any (fun s => decide (nm = s)) = (((touches z).take k).any (fun s => decide (nm = s)) || decide (nm = (touches z)[k])) := by
  rw [List.take_succ_eq_append_getElem hk, List.any_append]; simp
set_option maxRecDepth 100000 in
set_option maxHeartbeats 16000000 in
theorem streamMore_c (A : Option Addr) (c : Nat) (l : List Od) (o : Od) (w : World) (h : Sl w w.heap.size A c l) (hr : ∀ x ∈ l, InR x) (ho : Okb w w.heap.size o) (hro : InR o) :
    Calls Tryz.prog 6 #[.slice A l.length c, o.v] w fun e w' => e = .returned (.bool true) ∧ Below w.heap.size w w' := by
  have hL := Lib.hid fun W => lives_12 W
  have Hod := Lib.hid (fewL_od (n := 50) h hr)
  have Hleg := Lib.hid (fun x hx => Nat.le_trans (fewL_legs 50 l x hx) (by decide : 8 ≤ 10))
  have Hcut := Lib.hid (fewL_cut 50 l)
  have hba := (Below.refl w.heap.size w).alloc (Nat.le_refl _) (.cells #[i64 o.client, i64 o.seq, i64 o.kind, .string o.acct, .string o.peer, i64 o.sum, .slice o.la o.legs.length o.lc, i64 o.period, i64 o.hold, .string o.note] 50)
  have hzo : OdB (cut8 o) := ⟨ho.acct, ho.peer, cut8_rng hro⟩
  have Hzo := Lib.hid hzo
  have hal := heap_alloc_new w (.cells #[i64 o.client, i64 o.seq, i64 o.kind, .string o.acct, .string o.peer, i64 o.sum, .slice o.la o.legs.length o.lc, i64 o.period, i64 o.hold, .string o.note] 50)
  have hla := h.later hba
  have HO := Lib.hid ho
  have hza : (w.alloc (.cells #[i64 o.client, i64 o.seq, i64 o.kind, .string o.acct, .string o.peer, i64 o.sum, .slice o.la o.legs.length o.lc, i64 o.period, i64 o.hold, .string o.note] 50)).heap.size = w.heap.size + 1 := by simp
  clear h hr ho hro hzo
  unfold Od.v
  go_enter Tryz.func6, Tryz.ntmps6
  go_wp2_with fail
  generalize w.alloc (.cells #[i64 o.client, i64 o.seq, i64 o.kind, .string o.acct, .string o.peer, i64 o.sum, .slice o.la o.legs.length o.lc, i64 o.period, i64 o.hold, .string o.note] 50) = w0 at *
  refine (hL.out _).mono ?_
  rintro e w1 ⟨rfl, hF⟩
  have hb1 := below_on hba (by omega) hF
  have hl1 := hla.later hF
  have hal1 := (hF.block w.heap.size (by omega)).trans hal
  have hz1 := hF.size
  clear hL hF hla hal hba
  have HFw := Lib.hid (few_12 A c 50 l w1 hl1 (by decide))
  go_wp2_with fail
  refine HFw.out.mono ?_
  rintro e w2 ⟨v, rfl, hO, hF⟩
  have hb2 := below_on hb1 (by omega) hF
  have hal2 := (hF.block w.heap.size (by omega)).trans hal1
  have hz2 := hF.size
  have hn := fewL_le 50 l
  obtain ⟨AF, cF, rfl, hsF⟩ := hO.sl
  clear hF hb1 hal1 hl1 HFw hO
  generalize fewL 50 l = F at *
  have hw2 : w.heap.size ≤ w2.heap.size := hb2.size
  have HFs := Lib.hid (fun V (hV : Below w2.heap.size w2 V) => (hsF.below hV))
  have Hoo := Lib.hid (fun V (hV : Below w2.heap.size w2 V) => Enc.keep (α := Od) HO.out (fun p hp => (hb2.trans (hV.mono hw2)).cell hp) (fun _ h => h))
  have HG := Lib.hid (fewL_snoc hn o Hcut.out)
  have Hl1 := Lib.hid (show ([] : List Od).length + F.length ≤ 4294967296 by rw [List.length_nil]; omega)
  have Hl2 := Lib.hid (show F.length + 1 ≤ 4294967296 by omega)
  have HS : Hid (∀ V, Below w2.heap.size w2 V → (fun V : World => Below w2.heap.size w2 V ∧ V.cell? ⟨w.heap.size, 0, none⟩ = some (i64 o.client) ∧ V.cell? ⟨w.heap.size, 1, none⟩ = some (i64 o.seq) ∧ V.cell? ⟨w.heap.size, 2, none⟩ = some (i64 o.kind) ∧ V.cell? ⟨w.heap.size, 3, none⟩ = some (.string o.acct) ∧ V.cell? ⟨w.heap.size, 4, none⟩ = some (.string o.peer) ∧ V.cell? ⟨w.heap.size, 5, none⟩ = some (i64 o.sum) ∧ V.cell? ⟨w.heap.size, 6, none⟩ = some (.slice o.la o.legs.length o.lc) ∧ V.cell? ⟨w.heap.size, 7, none⟩ = some (i64 o.period) ∧ V.cell? ⟨w.heap.size, 8, none⟩ = some (i64 o.hold) ∧ V.cell? ⟨w.heap.size, 9, none⟩ = some (.string o.note)) V) := Lib.hid fun V hV => by
    have h2 := (hV.block w.heap.size (by omega)).trans hal2
    exact ⟨hV, cell_of_row _ w.heap.size 0 _ _ (0, 0) h2, cell_of_row _ w.heap.size 1 _ _ (0, 0) h2, cell_of_row _ w.heap.size 2 _ _ (0, 0) h2, cell_of_row _ w.heap.size 3 _ _ (0, 0) h2, cell_of_row _ w.heap.size 4 _ _ (0, 0) h2, cell_of_row _ w.heap.size 5 _ _ (0, 0) h2, cell_of_row _ w.heap.size 6 _ _ (0, 0) h2, cell_of_row _ w.heap.size 7 _ _ (0, 0) h2, cell_of_row _ w.heap.size 8 _ _ (0, 0) h2, cell_of_row _ w.heap.size 9 _ _ (0, 0) h2⟩
  have HsF := Lib.hid hsF
  have Hb2 := Lib.hid hb2
  clear hsF hb2 hal2 Hcut
  go_upto_region 4 with fail
  go_cut [5] from 16 (fun s5 wx => Own wx w2.heap.size 50 s5 (F ++ [cut8 o]) ∧ Below w2.heap.size w2 wx)
  case first =>
    refine wp_region_noPanic ?_
    refine wp_region_l 6 (fun V : World => Below w2.heap.size w2 V ∧ V.cell? ⟨w.heap.size, 0, none⟩ = some (i64 o.client) ∧ V.cell? ⟨w.heap.size, 1, none⟩ = some (i64 o.seq) ∧ V.cell? ⟨w.heap.size, 2, none⟩ = some (i64 o.kind) ∧ V.cell? ⟨w.heap.size, 3, none⟩ = some (.string o.acct) ∧ V.cell? ⟨w.heap.size, 4, none⟩ = some (.string o.peer) ∧ V.cell? ⟨w.heap.size, 5, none⟩ = some (i64 o.sum) ∧ V.cell? ⟨w.heap.size, 6, none⟩ = some (.slice o.la o.legs.length o.lc) ∧ V.cell? ⟨w.heap.size, 7, none⟩ = some (i64 o.period) ∧ V.cell? ⟨w.heap.size, 8, none⟩ = some (i64 o.hold) ∧ V.cell? ⟨w.heap.size, 9, none⟩ = some (.string o.note)) (by kernel_rfl) (HS.out _ (Below.refl _ _).drew) (fun hH => ?_)
    have hbd := (Below.refl w2.heap.size w2).drew
    generalize w2.drew = Wd at *
    refine wpAnyL_take (i := 0) (v := ?v20001) rfl (by kernel_rfl) (by kernel_rfl) (by kernel_rfl) (by kernel_rfl) (fun _ _ _ h => h) (Or.inl ⟨by kernel_rfl, ?hy20001⟩) (by assumption) ?r20001
    case hy20001 => (intro W hSW; obtain ⟨hV0, u0, u1, u2, u3, u4, u5, u6, u7, u8, u9⟩ := hSW; go_simp; try with_reducible rfl)
    try simp only [Act.put, List.getElem_toArray, List.getElem_cons_zero, List.setIfInBounds_toArray, List.set_cons_zero, List.set_cons_succ]
    refine wpAnyL_take (i := 2) (v := ?v20002) rfl (by kernel_rfl) (by kernel_rfl) (by kernel_rfl) (by kernel_rfl) (fun _ _ _ h => h) (Or.inl ⟨by kernel_rfl, ?hy20002⟩) (by assumption) ?r20002
    case hy20002 => (intro W hSW; obtain ⟨hV0, u0, u1, u2, u3, u4, u5, u6, u7, u8, u9⟩ := hSW; go_simp; try with_reducible rfl)
    try simp only [Act.put, List.getElem_toArray, List.getElem_cons_zero, List.getElem_cons_succ, List.setIfInBounds_toArray, List.set_cons_zero, List.set_cons_succ]
    refine wpAnyL_ready (rs := [1, 3]) (by kernel_rfl) (by simp) ?_
    refine AllReadyL.cons rfl (fun K hK => ?_) ?_
    · skip
      refine oper_append (.const (.slice none 0 0)) (.tmp 20) 22 rfl _ 120 Tryz.underlying22 inf_od rfl (by decide) (by decide) rfl (Own.nil_ _ w2.heap.size 50) AF F.length cF F rfl rfl ((HFs.out _ hH.1).mono (fun b hb => ⟨Nat.lt_of_lt_of_le hb hH.1.size, by intro e; cases e⟩)) Hl1.out hH.1.size ?_
      intro v1 u1 hO1 hg1 hat1
      rw [List.nil_append] at hO1
      have hF := (Own.nil_ (α := Od) _ w2.heap.size 50).below hg1 (Nat.le_refl _) hH.1.size
      have hbu := hH.1.trans hF
      have HO1 := Lib.hid hO1
      clear hF hg1 hat1 hO1
      refine hK.out _ _ (HS.out _ hbu) (fun hH => ?_)
      clear hK K
      try simp only [Act.put, List.getElem_toArray, List.getElem_cons_zero, List.getElem_cons_succ, List.setIfInBounds_toArray, List.set_cons_zero, List.set_cons_succ]
      refine wpAnyL_one (i := 3) (by kernel_rfl) rfl (by decide) (fun K hK => ?_)
      refine oper_lit_od 22 rfl o rfl ?_
      obtain ⟨gl, hgl0⟩ : ∃ gl, gl = u1.heap.size := ⟨_, rfl⟩
      have hgl := heap_alloc_new u1 (.cells #[i64 o.client, i64 o.seq, i64 o.kind, .string o.acct, .string o.peer, i64 o.sum, .slice o.la o.legs.length o.lc, i64 o.period, i64 o.hold, .string o.note] 50)
      rw [← hgl0] at hgl
      have hne1 := HO1.out.new_ne (g := gl) (Nat.le_of_eq hgl0.symm)
      have HO1 := Lib.hid (HO1.out.later ((Below.refl _ _).alloc (Nat.le_refl _) (.cells #[i64 o.client, i64 o.seq, i64 o.kind, .string o.acct, .string o.peer, i64 o.sum, .slice o.la o.legs.length o.lc, i64 o.period, i64 o.hold, .string o.note] 50)))
      have hbu := hH.1.alloc hH.1.size (.cells #[i64 o.client, i64 o.seq, i64 o.kind, .string o.acct, .string o.peer, i64 o.sum, .slice o.la o.legs.length o.lc, i64 o.period, i64 o.hold, .string o.note] 50)
      refine hK.out _ _ (HS.out _ hbu) (fun hH => ?_)
      clear hK K
      try simp only [Act.put, List.getElem_toArray, List.getElem_cons_zero, List.getElem_cons_succ, List.setIfInBounds_toArray, List.set_cons_zero, List.set_cons_succ]
      have Hgl0 := Lib.hid hgl0
      clear hgl0
      refine wpAnyL_one (i := 4) (by kernel_rfl) rfl (by decide) (fun K hK => ?_)
      refine oper_append_one (.tmp 21) (.tmp 23) 22 rfl _ 120 Tryz.underlying22 inf_od rfl (by decide) (by decide) rfl HO1.out gl o (by first | rfl | (rw [Hgl0.out]; rfl)) _ 50 hgl rfl hne1 (Enc.keep (Hoo.out _ hH.1) (fun _ _ => rfl) (fun b hb => HO1.out.oth (B := w.heap.size) hw2 (Nat.le_trans hw2 hH.1.size) b hb)) Hl2.out hH.1.size ?_
      intro v2 u2 hO2 hg2 hat2
      have hbu := hH.1.trans (HO1.out.below hg2 (Nat.le_refl _) hH.1.size)
      obtain ⟨A2, c2, rfl, hs2⟩ := hO2.sl
      have HFw := Lib.hid (few_12 A2 c2 51 (F ++ [o]) u2 hs2 (by decide))
      clear hg2 hat2 hO2 HO1 hne1 hs2
      refine hK.out _ _ (HS.out _ hbu) (fun hH => ?_)
      clear hK K
      try simp only [Act.put, List.getElem_toArray, List.getElem_cons_zero, List.getElem_cons_succ, List.setIfInBounds_toArray, List.set_cons_zero, List.set_cons_succ]
      refine wpAnyL_one (i := 5) (by kernel_rfl) rfl (by decide) (fun K hK => ?_)
      refine oper_call1k 36 24 (i64 51) _ rfl _ rfl (enters_of Tryz.func36 (by kernel_rfl) rfl) ?_
      refine HFw.out.mono ?_
      rintro e u3 ⟨v3, rfl, hO3, hF3⟩
      refine ⟨v3, rfl, ?_⟩
      have hbu := below_on hH.1 (Nat.le_refl _) hF3
      rw [HG.out] at hO3
      have HO3 := Lib.hid (hO3.mono hH.1.size)
      clear hF3 hO3 HFw
      refine hK.out _ _ (HS.out _ hbu) (fun hH => ?_)
      clear hK K
      try simp only [Act.put, List.getElem_toArray, List.getElem_cons_zero, List.getElem_cons_succ, List.setIfInBounds_toArray, List.set_cons_zero, List.set_cons_succ]
      refine wpAnyL_last (by kernel_rfl) rfl (fun K hK => ?_)
      refine oper_assign (.tmp 25) rfl v3 rfl ?_
      refine hK.out _ _ ?_
      clear hK K
      try simp only [Act.put, List.getElem_toArray, List.getElem_cons_zero, List.getElem_cons_succ, List.setIfInBounds_toArray, List.set_cons_zero, List.set_cons_succ]
      refine wpAnyL_done (by kernel_rfl) ?_ _
      refine NoPanic.normal ?_
      have hbf := hH.1
      clear hH HS
      go_wp2_with fail
      go_meet
      exact ⟨HO3.out, hbf⟩
    refine AllReadyL.cons rfl (fun K hK => ?_) ?_
    · skip
      refine oper_lit_od 22 rfl o rfl ?_
      obtain ⟨gl, hgl0⟩ : ∃ gl, gl = Wd.heap.size := ⟨_, rfl⟩
      have hgl := heap_alloc_new Wd (.cells #[i64 o.client, i64 o.seq, i64 o.kind, .string o.acct, .string o.peer, i64 o.sum, .slice o.la o.legs.length o.lc, i64 o.period, i64 o.hold, .string o.note] 50)
      rw [← hgl0] at hgl
      have hbu := hH.1.alloc hH.1.size (.cells #[i64 o.client, i64 o.seq, i64 o.kind, .string o.acct, .string o.peer, i64 o.sum, .slice o.la o.legs.length o.lc, i64 o.period, i64 o.hold, .string o.note] 50)
      refine hK.out _ _ (HS.out _ hbu) (fun hH => ?_)
      clear hK K
      try simp only [Act.put, List.getElem_toArray, List.getElem_cons_zero, List.getElem_cons_succ, List.setIfInBounds_toArray, List.set_cons_zero, List.set_cons_succ]
      have Hgl0 := Lib.hid hgl0
      clear hgl0
      refine wpAnyL_one (i := 1) (by kernel_rfl) rfl (by decide) (fun K hK => ?_)
      refine oper_append (.const (.slice none 0 0)) (.tmp 20) 22 rfl _ 120 Tryz.underlying22 inf_od rfl (by decide) (by decide) rfl (Own.nil_ _ w2.heap.size 50) AF F.length cF F rfl rfl ((HFs.out _ hH.1).mono (fun b hb => ⟨Nat.lt_of_lt_of_le hb hH.1.size, by intro e; cases e⟩)) Hl1.out hH.1.size ?_
      intro v1 u1 hO1 hg1 hat1
      rw [List.nil_append] at hO1
      have hF := (Own.nil_ (α := Od) _ w2.heap.size 50).below hg1 (Nat.le_refl _) hH.1.size
      have hne1 : some gl ≠ v1.ownBlock := by
        rcases hat1 with h | h
        · have h2 : v1.ownBlock = none := h
          rw [h2]; simp
        · rw [h]; intro e; injection e with e; exact absurd (Array.getElem?_eq_some_iff.1 hgl).1 (by rw [e]; exact Nat.lt_irrefl _)
      have hgl := (hg1.block gl (Array.getElem?_eq_some_iff.1 hgl).1 (by intro e; cases e)).trans hgl
      have hbu := hH.1.trans hF
      have HO1 := Lib.hid hO1
      clear hF hg1 hat1 hO1
      refine hK.out _ _ (HS.out _ hbu) (fun hH => ?_)
      clear hK K
      try simp only [Act.put, List.getElem_toArray, List.getElem_cons_zero, List.getElem_cons_succ, List.setIfInBounds_toArray, List.set_cons_zero, List.set_cons_succ]
      refine wpAnyL_one (i := 4) (by kernel_rfl) rfl (by decide) (fun K hK => ?_)
      refine oper_append_one (.tmp 21) (.tmp 23) 22 rfl _ 120 Tryz.underlying22 inf_od rfl (by decide) (by decide) rfl HO1.out gl o (by first | rfl | (rw [Hgl0.out]; rfl)) _ 50 hgl rfl hne1 (Enc.keep (Hoo.out _ hH.1) (fun _ _ => rfl) (fun b hb => HO1.out.oth (B := w.heap.size) hw2 (Nat.le_trans hw2 hH.1.size) b hb)) Hl2.out hH.1.size ?_
      intro v2 u2 hO2 hg2 hat2
      have hbu := hH.1.trans (HO1.out.below hg2 (Nat.le_refl _) hH.1.size)
      obtain ⟨A2, c2, rfl, hs2⟩ := hO2.sl
      have HFw := Lib.hid (few_12 A2 c2 51 (F ++ [o]) u2 hs2 (by decide))
      clear hg2 hat2 hO2 HO1 hne1 hs2
      refine hK.out _ _ (HS.out _ hbu) (fun hH => ?_)
      clear hK K
      try simp only [Act.put, List.getElem_toArray, List.getElem_cons_zero, List.getElem_cons_succ, List.setIfInBounds_toArray, List.set_cons_zero, List.set_cons_succ]
      refine wpAnyL_one (i := 5) (by kernel_rfl) rfl (by decide) (fun K hK => ?_)
      refine oper_call1k 36 24 (i64 51) _ rfl _ rfl (enters_of Tryz.func36 (by kernel_rfl) rfl) ?_
      refine HFw.out.mono ?_
      rintro e u3 ⟨v3, rfl, hO3, hF3⟩
      refine ⟨v3, rfl, ?_⟩
      have hbu := below_on hH.1 (Nat.le_refl _) hF3
      rw [HG.out] at hO3
      have HO3 := Lib.hid (hO3.mono hH.1.size)
      clear hF3 hO3 HFw
      refine hK.out _ _ (HS.out _ hbu) (fun hH => ?_)
      clear hK K
      try simp only [Act.put, List.getElem_toArray, List.getElem_cons_zero, List.getElem_cons_succ, List.setIfInBounds_toArray, List.set_cons_zero, List.set_cons_succ]
      refine wpAnyL_last (by kernel_rfl) rfl (fun K hK => ?_)
      refine oper_assign (.tmp 25) rfl v3 rfl ?_
      refine hK.out _ _ ?_
      clear hK K
      try simp only [Act.put, List.getElem_toArray, List.getElem_cons_zero, List.getElem_cons_succ, List.setIfInBounds_toArray, List.set_cons_zero, List.set_cons_succ]
      refine wpAnyL_done (by kernel_rfl) ?_ _
      refine NoPanic.normal ?_
      have hbf := hH.1
      clear hH HS
      go_wp2_with fail
      go_meet
      exact ⟨HO3.out, hbf⟩
    exact AllReadyL.nil
  case rest =>
    obtain ⟨hO3, hb3⟩ := hcut
    obtain ⟨w3, rfl⟩ : ∃ w3, w3 = wc := ⟨wc, rfl⟩
    obtain ⟨z, hz⟩ : ∃ z, cut8 o = z := ⟨_, rfl⟩
    have hzl : z.legs.length ≤ 8 := by rw [← hz]; show (o.legs.take 8).length ≤ 8; rw [List.length_take]; omega
    rw [hz] at hO3 Hzo
    have Hod2 := Lib.hid (show ∀ x ∈ F ++ [z], OdB x from fun x hx => by
      rcases List.mem_append.1 hx with hx | hx
      · exact Hod.out x hx
      · rw [List.mem_singleton.1 hx]; exact Hzo.out)
    have Hleg2 := Lib.hid (show ∀ x ∈ F ++ [z], x.legs.length ≤ 10 from fun x hx => by
      rcases List.mem_append.1 hx with hx | hx
      · exact Hleg.out x hx
      · rw [List.mem_singleton.1 hx]; omega)
    have HGl := Lib.hid (show (F ++ [z]).length = F.length + 1 by simp)
    have HGz := Lib.hid (show (F ++ [z])[F.length]? = some z by simp)
    have HIF := Lib.hid (inv_bk0.fold F Hod.out)
    have HTd := Lib.hid (show toldL bk0 (F ++ [z]) = toldL bk0 F ++ [(doL (foldL bk0 F) z).1] from toldL_snoc bk0 F z)
    have HTn := Lib.hid (toldL_len F bk0)
    have HEv := Lib.hid (fun nm => show evL bk0 (F ++ [z]) nm = evL bk0 F nm ++ evD (foldL bk0 F) z nm from evL_snoc bk0 F z nm)
    have HEl := Lib.hid (fun nm => evL_le inv_bk0 nm F Hod.out)
    obtain ⟨G, hG⟩ : ∃ G, F ++ [z] = G := ⟨_, rfl⟩
    rw [hG] at hO3 Hod2 Hleg2 HGl HGz HTd HEv
    obtain ⟨TL, hTL⟩ : ∃ TL, toldL bk0 G = TL := ⟨_, rfl⟩
    rw [hTL] at HTd
    have HTlen := Lib.hid (show TL.length = F.length + 1 by rw [HTd.out, List.length_append, HTn.out]; rfl)
    have HTr := Lib.hid (show TL[F.length]? = some (doL (foldL bk0 F) z).1 by rw [HTd.out, ← HTn.out]; simp)
    obtain ⟨AG, cG, rfl, hsG⟩ := hO3.sl
    have hsF3 := HsF.out.later hb3
    have hb03 := Lib.hid (Hb2.out.trans (hb3.mono hw2))
    have hG51 : G.length ≤ 51 := by rw [HGl.out]; omega
    have hGc : G.length ≤ cG := hsG.1
    clear hO3 hb3 HsF Hb2 HS HG HFs Hoo Hl1 Hl2 HO hG hz
    have HFo := Lib.hid (bfold_c AG cG G w3 hsG Hod2.out (fun x hx => Nat.le_trans (Hleg2.out x hx) (by decide)) (Nat.le_trans hG51 (by decide)))
    rw [hTL] at HFo
    clear hTL HTd HTn
    have HsF3 := Lib.hid hsF3
    have HsG := Lib.hid hsG
    clear hsF3 hsG
    go_wp2_with fail
    refine HFo.out.mono ?_
    rintro e w4 ⟨ba, vT, B0, rfl, hB, hI, hOT, h0, hlo, hF⟩
    obtain ⟨AT, cT, rfl, hsT⟩ := hOT.sl
    have hb4 := hb03.out.trans (hF.mono hb03.out.size)
    have HsF4 := Lib.hid (HsF3.out.later hF)
    have HsG4 := Lib.hid (HsG.out.later hF)
    have HsT4 := Lib.hid hsT
    clear hB hI hOT h0 hlo hF hsT HsF3 HsG HFo hb03
    have hbn := (Below.refl w4.heap.size w4).alloc (Nat.le_refl _) (.cells #[.string tA, .string tB, .string tC, .string tBank, .string tTill] 9)
    have hon := names5_own w4
    have HsF5 := Lib.hid (HsF4.out.later hbn)
    have HsG5 := Lib.hid (HsG4.out.later hbn)
    have HsT5 := Lib.hid (HsT4.out.later hbn)
    have hFG : F.length < G.length := by rw [HGl.out]; exact Nat.lt_succ_self _
    obtain ⟨zb, zo, hAz, -, hokz, z0, z1, z2, z3, z4, z5, z6, z7, z8, z9⟩ := HsG5.out.od hFG
    have hzk : G[F.length] = z := (List.getElem_eq_iff hFG).2 HGz.out
    rw [hzk] at hokz z0 z1 z2 z3 z4 z5 z6 z7 z8 z9
    subst hAz
    have jF0 : (0 : Int) ≤ (F.length : Int) := Int.natCast_nonneg _
    have jF1 : (F.length : Int) < (G.length : Int) := Int.ofNat_lt.2 hFG
    have jF2 : (G.length : Int) - 1 = (F.length : Int) := by rw [HGl.out]; omega
    have HTo := Lib.hid (touches_c z (w4.alloc (.cells #[.string tA, .string tB, .string tC, .string tBank, .string tTill] 9)) hokz (Nat.le_trans hzl (by decide)))
    have hb5 := hb4.trans (hbn.mono hb4.size)
    clear hokz hzk hb4 HsF4 HsG4 HsT4 hbn
    unfold Od.v at HTo
    go_wp2_with fail
    generalize w4.alloc (.cells #[.string tA, .string tB, .string tC, .string tBank, .string tTill] 9) = w5 at *
    generalize w4.heap.size = nb at *
    refine HTo.out.mono ?_
    rintro e wo ⟨vt, rfl, hOt, hF⟩
    obtain ⟨At, ct, rfl, hst⟩ := hOt.sl
    have hbo := hb5.trans (hF.mono hb5.size)
    have Hst := Lib.hid (fun V (hV : Below wo.heap.size wo V) => hst.later hV)
    have Hnam := Lib.hid (fun V (hV : Below wo.heap.size wo V) => (hon.later (below_on hF (Nat.le_refl _) hV)))
    have HsFo := Lib.hid (fun V (hV : Below wo.heap.size wo V) => HsF5.out.later (below_on hF (Nat.le_refl _) hV))
    have HsGo := Lib.hid (fun V (hV : Below wo.heap.size wo V) => HsG5.out.later (below_on hF (Nat.le_refl _) hV))
    have HsTo := Lib.hid (fun V (hV : Below wo.heap.size wo V) => HsT5.out.later (below_on hF (Nat.le_refl _) hV))
    have Hbo := Lib.hid hbo
    have htl := touches_len z (Nat.le_trans hzl (by decide))
    have htc : (touches z).length ≤ ct := hst.1
    have Hnm := Lib.hid (show (touches z).any (fun s => decide (tA = s)) = (touches z).any (fun s => decide (tA = s)) from rfl)
    clear hOt hst hon hF HTo hb5 hbo HsF5 HsG5 HsT5 jF0 jF1 jF2 z0 z1 z2 z3 z4 z5 z6 z7 z8 z9 Hnm
    obtain ⟨bT, oT, hAT, -⟩ := (HsTo.out wo (Below.refl _ _)).rp (k := F.length) (by rw [HTlen.out]; exact Nat.lt_succ_self _)
    subst hAT
    go_wp2_with fail
    go_loopw [10] (fun iv wr => ∃ i : Nat, iv = i64 i ∧ i ≤ 5 ∧ Below wo.heap.size wo wr) (fun iv _ => 5 - (intOf iv).toNat)
    case atStart => exact ⟨0, rfl, Nat.zero_le _, Below.refl _ _⟩
    case round =>
      obtain ⟨i, rfl, hi5, hbr⟩ := hrel
      by_cases hlt : i < 5
      · have g1 : decide ((i : Int) < 5) = true := decide_eq_true (by omega)
        have g2 : decide (i < 5) = true := decide_eq_true hlt
        have i0 : (0 : Int) ≤ (i : Int) := by omega
        have i1 : (i : Int) < 5 := by omega
        obtain ⟨nm, hnm⟩ : ∃ nm, names5[i]'(by exact hlt) = nm := ⟨_, rfl⟩
        have Hcn := Lib.hid (fun V (hV : Below wo.heap.size wo V) => show V.cell? ⟨nb, i, none⟩ = some (.string nm) by rw [← hnm]; exact (Hnam.out V hV).str hlt)
        clear hnm
        have hs1 := Hcn.out wr hbr
        have Htk0 := Lib.hid (show (false : Bool) = ((touches z).take 0).any (fun s => decide (nm = s)) by rw [List.take_zero]; rfl)
        go_wp2_with fail
        go_loopw [11, 12] (fun bv kv wr => ∃ k : Nat, bv = .bool (((touches z).take k).any (fun s => decide (nm = s))) ∧ kv = i64 k ∧ k ≤ (touches z).length ∧ Below wo.heap.size wo wr) (fun _ kv _ => (touches z).length - (intOf kv).toNat)
        case atStart => exact ⟨0, by rw [List.take_zero]; rfl, rfl, Nat.zero_le _, hbr⟩
        case round =>
          clear hbr hs1
          obtain ⟨k, rfl, rfl, hk, hbk⟩ := hrel
          by_cases hkt : k < (touches z).length
          · have g3 : decide ((k : Int) < ((touches z).length : Int)) = true := decide_eq_true (by omega)
            have g4 : decide (k < (touches z).length) = true := decide_eq_true hkt
            have k0 : (0 : Int) ≤ (k : Int) := by omega
            have k1 : (k : Int) < ((touches z).length : Int) := by omega
            have Hnx := Lib.hid (nm_take hkt nm)
            have Hct := Lib.hid (fun V (hV : Below wo.heap.size wo V) => str_at (Hst.out V hV) hkt)
            obtain ⟨bt, ot, hAt, -, -, -⟩ := Hct.out wr hbk
            subst hAt
            obtain ⟨s, hs⟩ : ∃ s, (touches z)[k] = s := ⟨_, rfl⟩
            simp only [hs] at Hnx Hct
            clear hs
            have Hct2 := Lib.hid (fun V (hV : Below wo.heap.size wo V) => show V.cell? ⟨bt, ot + k, none⟩ = some (.string s) by
              obtain ⟨b2, o2, e, -, -, h2⟩ := Hct.out V hV
              injection e with e
              injection e with e1 e2
              subst e1 e2
              exact h2)
            clear Hct
            obtain ⟨fd, hfd⟩ : ∃ fd : Bool, ((touches z).take k).any (fun s => decide (nm = s)) = fd := ⟨_, rfl⟩
            rw [hfd] at Hnx
            rw [hfd]
            clear hfd
            cases fd
            · have HS : Hid (∀ V, Below wo.heap.size wo V → (fun V : World => Below wo.heap.size wo V ∧ V.cell? ⟨bt, ot + k, none⟩ = some (.string s) ∧ V.cell? ⟨nb, i, none⟩ = some (.string nm)) V) := Lib.hid fun V hV => ⟨hV, Hct2.out V hV, Hcn.out V hV⟩
              by_cases hsn : nm = s
              · have e1 : (s.toList == nm.toList) = true := beqS_of_eq hsn.symm
                have Hnx := Lib.hid (show ((touches z).take (k + 1)).any (fun s => decide (nm = s)) = true by rw [Hnx.out, decide_eq_true hsn]; rfl)
                clear hsn
                go_upto_region 15 with fail
                refine wp_region_noPanic ?_
                refine wp_region_l 12 (fun V : World => Below wo.heap.size wo V ∧ V.cell? ⟨bt, ot + k, none⟩ = some (.string s) ∧ V.cell? ⟨nb, i, none⟩ = some (.string nm)) (by kernel_rfl) (HS.out _ (hbk.drew)) (fun hH => ?_)
                refine wpAnyL_take (i := 0) (v := ?v20015) rfl (by kernel_rfl) (by kernel_rfl) (by kernel_rfl) (by kernel_rfl) (fun _ _ _ h => h) (Or.inl ⟨by kernel_rfl, ?hy20015⟩) (by assumption) ?r20015
                case hy20015 => (intro W hSW; obtain ⟨hV0, s0, s1⟩ := hSW; go_simp; try with_reducible rfl)
                try simp only [Act.put, List.getElem_toArray, List.getElem_cons_zero, List.setIfInBounds_toArray, List.set_cons_zero, List.set_cons_succ]
                refine wpAnyL_take (i := 1) (v := ?v20016) rfl (by kernel_rfl) (by kernel_rfl) (by kernel_rfl) (by kernel_rfl) (fun _ _ _ h => h) (Or.inl ⟨by kernel_rfl, ?hy20016⟩) (by assumption) ?r20016
                case hy20016 => (intro W hSW; obtain ⟨hV0, s0, s1⟩ := hSW; go_simp; try with_reducible rfl)
                try simp only [Act.put, List.getElem_toArray, List.getElem_cons_zero, List.getElem_cons_succ, List.setIfInBounds_toArray, List.set_cons_zero, List.set_cons_succ]
                refine wpAnyL_take (i := 2) (v := ?v20017) rfl (by kernel_rfl) (by kernel_rfl) (by kernel_rfl) (by kernel_rfl) (fun _ _ _ h => h) (Or.inl ⟨by kernel_rfl, ?hy20017⟩) (by assumption) ?r20017
                case hy20017 => (intro W hSW; obtain ⟨hV0, s0, s1⟩ := hSW; go_simp; try with_reducible rfl)
                try simp only [Act.put, List.getElem_toArray, List.getElem_cons_zero, List.getElem_cons_succ, List.setIfInBounds_toArray, List.set_cons_zero, List.set_cons_succ]
                refine wpAnyL_take (i := 3) (v := ?v20018) rfl (by kernel_rfl) (by kernel_rfl) (by kernel_rfl) (by kernel_rfl) (fun _ _ _ h => h) (Or.inl ⟨by kernel_rfl, ?hy20018⟩) (by assumption) ?r20018
                case hy20018 => (intro W hSW; obtain ⟨hV0, s0, s1⟩ := hSW; go_simp; try with_reducible rfl)
                try simp only [Act.put, List.getElem_toArray, List.getElem_cons_zero, List.getElem_cons_succ, List.setIfInBounds_toArray, List.set_cons_zero, List.set_cons_succ]
                refine wpAnyL_take (i := 4) (v := ?v20019) rfl (by kernel_rfl) (by kernel_rfl) (by kernel_rfl) (by kernel_rfl) (fun _ _ _ h => h) (Or.inl ⟨by kernel_rfl, ?hy20019⟩) (by assumption) ?r20019
                case hy20019 => (intro W hSW; obtain ⟨hV0, s0, s1⟩ := hSW; go_simp; try with_reducible rfl)
                try simp only [Act.put, List.getElem_toArray, List.getElem_cons_zero, List.getElem_cons_succ, List.setIfInBounds_toArray, List.set_cons_zero, List.set_cons_succ]
                refine wpAnyL_take (i := 5) (v := ?v20020) rfl (by kernel_rfl) (by kernel_rfl) (by kernel_rfl) (by kernel_rfl) (fun _ _ _ h => h) (Or.inl ⟨by kernel_rfl, ?hy20020⟩) (by assumption) ?r20020
                case hy20020 => (intro W hSW; obtain ⟨hV0, s0, s1⟩ := hSW; go_simp; try with_reducible rfl)
                try simp only [Act.put, List.getElem_toArray, List.getElem_cons_zero, List.getElem_cons_succ, List.setIfInBounds_toArray, List.set_cons_zero, List.set_cons_succ]
                refine wpAnyL_take (i := 6) (v := ?v20021) rfl (by kernel_rfl) (by kernel_rfl) (by kernel_rfl) (by kernel_rfl) (fun _ _ _ h => h) (Or.inl ⟨by kernel_rfl, ?hy20021⟩) (by assumption) ?r20021
                case hy20021 => (intro W hSW; obtain ⟨hV0, s0, s1⟩ := hSW; go_simp; try with_reducible rfl)
                try simp only [Act.put, List.getElem_toArray, List.getElem_cons_zero, List.getElem_cons_succ, List.setIfInBounds_toArray, List.set_cons_zero, List.set_cons_succ]
                refine wpAnyL_take (i := 7) (v := ?v20022) rfl (by kernel_rfl) (by kernel_rfl) (by kernel_rfl) (by kernel_rfl) (fun _ _ _ h => h) (Or.inl ⟨by kernel_rfl, ?hy20022⟩) (by assumption) ?r20022
                case hy20022 => (intro W hSW; obtain ⟨hV0, s0, s1⟩ := hSW; go_simp; try with_reducible rfl)
                try simp only [Act.put, List.getElem_toArray, List.getElem_cons_zero, List.getElem_cons_succ, List.setIfInBounds_toArray, List.set_cons_zero, List.set_cons_succ]
                refine wpAnyL_take (i := 8) (v := ?v20023) rfl (by kernel_rfl) (by kernel_rfl) (by kernel_rfl) (by kernel_rfl) (fun _ _ _ h => h) (Or.inl ⟨by kernel_rfl, ?hy20023⟩) (by assumption) ?r20023
                case hy20023 => (intro W hSW; obtain ⟨hV0, s0, s1⟩ := hSW; go_simp; try with_reducible rfl)
                try simp only [Act.put, List.getElem_toArray, List.getElem_cons_zero, List.getElem_cons_succ, List.setIfInBounds_toArray, List.set_cons_zero, List.set_cons_succ]
                refine wpAnyL_take (i := 9) (v := ?v20024) rfl (by kernel_rfl) (by kernel_rfl) (by kernel_rfl) (by kernel_rfl) (fun _ _ _ h => h) (Or.inl ⟨by kernel_rfl, ?hy20024⟩) (by assumption) ?r20024
                case hy20024 => (intro W hSW; obtain ⟨hV0, s0, s1⟩ := hSW; go_simp; try with_reducible rfl)
                try simp only [Act.put, List.getElem_toArray, List.getElem_cons_zero, List.getElem_cons_succ, List.setIfInBounds_toArray, List.set_cons_zero, List.set_cons_succ]
                refine wpAnyL_take (i := 10) (v := ?v20025) rfl (by kernel_rfl) (by kernel_rfl) (by kernel_rfl) (by kernel_rfl) (fun _ _ _ h => h) (Or.inl ⟨by kernel_rfl, ?hy20025⟩) (by assumption) ?r20025
                case hy20025 => (intro W hSW; obtain ⟨hV0, s0, s1⟩ := hSW; go_simp; try with_reducible rfl)
                try simp only [Act.put, List.getElem_toArray, List.getElem_cons_zero, List.getElem_cons_succ, List.setIfInBounds_toArray, List.set_cons_zero, List.set_cons_succ]
                refine wpAnyL_take (i := 11) (v := ?v20026) rfl (by kernel_rfl) (by kernel_rfl) (by kernel_rfl) (by kernel_rfl) (fun _ _ _ h => h) (Or.inl ⟨by kernel_rfl, ?hy20026⟩) (by assumption) ?r20026
                case hy20026 => (intro W hSW; obtain ⟨hV0, s0, s1⟩ := hSW; go_simp; try with_reducible rfl)
                try simp only [Act.put, List.getElem_toArray, List.getElem_cons_zero, List.getElem_cons_succ, List.setIfInBounds_toArray, List.set_cons_zero, List.set_cons_succ]
                refine wpAnyL_last (by kernel_rfl) rfl (fun K hK => ?_)
                go_simp
                refine hK.out _ _ ?_
                clear hK K
                try simp only [Act.put, List.getElem_toArray, List.getElem_cons_zero, List.getElem_cons_succ, List.setIfInBounds_toArray, List.set_cons_zero, List.set_cons_succ]
                refine wpAnyL_done (by kernel_rfl) ?_ _
                refine NoPanic.normal ?_
                have hV := hH.1
                clear hH HS
                go_wp2
                go_roundw
                case rel => exact ⟨k + 1, by rw [Hnx.out], by go_num, by omega, hV⟩
                case measure => simp [intOf]; omega
              · have e1 : (s.toList == nm.toList) = false := beqS_of_ne (fun e => hsn e.symm)
                have Hnx := Lib.hid (show ((touches z).take (k + 1)).any (fun s => decide (nm = s)) = false by rw [Hnx.out, decide_eq_false hsn]; rfl)
                clear hsn
                go_upto_region 15 with fail
                refine wp_region_noPanic ?_
                refine wp_region_l 12 (fun V : World => Below wo.heap.size wo V ∧ V.cell? ⟨bt, ot + k, none⟩ = some (.string s) ∧ V.cell? ⟨nb, i, none⟩ = some (.string nm)) (by kernel_rfl) (HS.out _ (hbk.drew)) (fun hH => ?_)
                refine wpAnyL_take (i := 0) (v := ?v20027) rfl (by kernel_rfl) (by kernel_rfl) (by kernel_rfl) (by kernel_rfl) (fun _ _ _ h => h) (Or.inl ⟨by kernel_rfl, ?hy20027⟩) (by assumption) ?r20027
                case hy20027 => (intro W hSW; obtain ⟨hV0, s0, s1⟩ := hSW; go_simp; try with_reducible rfl)
                try simp only [Act.put, List.getElem_toArray, List.getElem_cons_zero, List.setIfInBounds_toArray, List.set_cons_zero, List.set_cons_succ]
                refine wpAnyL_take (i := 1) (v := ?v20028) rfl (by kernel_rfl) (by kernel_rfl) (by kernel_rfl) (by kernel_rfl) (fun _ _ _ h => h) (Or.inl ⟨by kernel_rfl, ?hy20028⟩) (by assumption) ?r20028
                case hy20028 => (intro W hSW; obtain ⟨hV0, s0, s1⟩ := hSW; go_simp; try with_reducible rfl)
                try simp only [Act.put, List.getElem_toArray, List.getElem_cons_zero, List.getElem_cons_succ, List.setIfInBounds_toArray, List.set_cons_zero, List.set_cons_succ]
                refine wpAnyL_take (i := 2) (v := ?v20029) rfl (by kernel_rfl) (by kernel_rfl) (by kernel_rfl) (by kernel_rfl) (fun _ _ _ h => h) (Or.inl ⟨by kernel_rfl, ?hy20029⟩) (by assumption) ?r20029
                case hy20029 => (intro W hSW; obtain ⟨hV0, s0, s1⟩ := hSW; go_simp; try with_reducible rfl)
                try simp only [Act.put, List.getElem_toArray, List.getElem_cons_zero, List.getElem_cons_succ, List.setIfInBounds_toArray, List.set_cons_zero, List.set_cons_succ]
                refine wpAnyL_take (i := 3) (v := ?v20030) rfl (by kernel_rfl) (by kernel_rfl) (by kernel_rfl) (by kernel_rfl) (fun _ _ _ h => h) (Or.inl ⟨by kernel_rfl, ?hy20030⟩) (by assumption) ?r20030
                case hy20030 => (intro W hSW; obtain ⟨hV0, s0, s1⟩ := hSW; go_simp; try with_reducible rfl)
                try simp only [Act.put, List.getElem_toArray, List.getElem_cons_zero, List.getElem_cons_succ, List.setIfInBounds_toArray, List.set_cons_zero, List.set_cons_succ]
                refine wpAnyL_take (i := 4) (v := ?v20031) rfl (by kernel_rfl) (by kernel_rfl) (by kernel_rfl) (by kernel_rfl) (fun _ _ _ h => h) (Or.inl ⟨by kernel_rfl, ?hy20031⟩) (by assumption) ?r20031
                case hy20031 => (intro W hSW; obtain ⟨hV0, s0, s1⟩ := hSW; go_simp; try with_reducible rfl)
                try simp only [Act.put, List.getElem_toArray, List.getElem_cons_zero, List.getElem_cons_succ, List.setIfInBounds_toArray, List.set_cons_zero, List.set_cons_succ]
                refine wpAnyL_take (i := 5) (v := ?v20032) rfl (by kernel_rfl) (by kernel_rfl) (by kernel_rfl) (by kernel_rfl) (fun _ _ _ h => h) (Or.inl ⟨by kernel_rfl, ?hy20032⟩) (by assumption) ?r20032
                case hy20032 => (intro W hSW; obtain ⟨hV0, s0, s1⟩ := hSW; go_simp; try with_reducible rfl)
                try simp only [Act.put, List.getElem_toArray, List.getElem_cons_zero, List.getElem_cons_succ, List.setIfInBounds_toArray, List.set_cons_zero, List.set_cons_succ]
                refine wpAnyL_take (i := 6) (v := ?v20033) rfl (by kernel_rfl) (by kernel_rfl) (by kernel_rfl) (by kernel_rfl) (fun _ _ _ h => h) (Or.inl ⟨by kernel_rfl, ?hy20033⟩) (by assumption) ?r20033
                case hy20033 => (intro W hSW; obtain ⟨hV0, s0, s1⟩ := hSW; go_simp; try with_reducible rfl)
                try simp only [Act.put, List.getElem_toArray, List.getElem_cons_zero, List.getElem_cons_succ, List.setIfInBounds_toArray, List.set_cons_zero, List.set_cons_succ]
                refine wpAnyL_take (i := 7) (v := ?v20034) rfl (by kernel_rfl) (by kernel_rfl) (by kernel_rfl) (by kernel_rfl) (fun _ _ _ h => h) (Or.inl ⟨by kernel_rfl, ?hy20034⟩) (by assumption) ?r20034
                case hy20034 => (intro W hSW; obtain ⟨hV0, s0, s1⟩ := hSW; go_simp; try with_reducible rfl)
                try simp only [Act.put, List.getElem_toArray, List.getElem_cons_zero, List.getElem_cons_succ, List.setIfInBounds_toArray, List.set_cons_zero, List.set_cons_succ]
                refine wpAnyL_take (i := 8) (v := ?v20035) rfl (by kernel_rfl) (by kernel_rfl) (by kernel_rfl) (by kernel_rfl) (fun _ _ _ h => h) (Or.inl ⟨by kernel_rfl, ?hy20035⟩) (by assumption) ?r20035
                case hy20035 => (intro W hSW; obtain ⟨hV0, s0, s1⟩ := hSW; go_simp; try with_reducible rfl)
                try simp only [Act.put, List.getElem_toArray, List.getElem_cons_zero, List.getElem_cons_succ, List.setIfInBounds_toArray, List.set_cons_zero, List.set_cons_succ]
                refine wpAnyL_take (i := 9) (v := ?v20036) rfl (by kernel_rfl) (by kernel_rfl) (by kernel_rfl) (by kernel_rfl) (fun _ _ _ h => h) (Or.inl ⟨by kernel_rfl, ?hy20036⟩) (by assumption) ?r20036
                case hy20036 => (intro W hSW; obtain ⟨hV0, s0, s1⟩ := hSW; go_simp; try with_reducible rfl)
                try simp only [Act.put, List.getElem_toArray, List.getElem_cons_zero, List.getElem_cons_succ, List.setIfInBounds_toArray, List.set_cons_zero, List.set_cons_succ]
                refine wpAnyL_take (i := 10) (v := ?v20037) rfl (by kernel_rfl) (by kernel_rfl) (by kernel_rfl) (by kernel_rfl) (fun _ _ _ h => h) (Or.inl ⟨by kernel_rfl, ?hy20037⟩) (by assumption) ?r20037
                case hy20037 => (intro W hSW; obtain ⟨hV0, s0, s1⟩ := hSW; go_simp; try with_reducible rfl)
                try simp only [Act.put, List.getElem_toArray, List.getElem_cons_zero, List.getElem_cons_succ, List.setIfInBounds_toArray, List.set_cons_zero, List.set_cons_succ]
                refine wpAnyL_take (i := 11) (v := ?v20038) rfl (by kernel_rfl) (by kernel_rfl) (by kernel_rfl) (by kernel_rfl) (fun _ _ _ h => h) (Or.inl ⟨by kernel_rfl, ?hy20038⟩) (by assumption) ?r20038
                case hy20038 => (intro W hSW; obtain ⟨hV0, s0, s1⟩ := hSW; go_simp; try with_reducible rfl)
                try simp only [Act.put, List.getElem_toArray, List.getElem_cons_zero, List.getElem_cons_succ, List.setIfInBounds_toArray, List.set_cons_zero, List.set_cons_succ]
                refine wpAnyL_last (by kernel_rfl) rfl (fun K hK => ?_)
                go_simp
                refine hK.out _ _ ?_
                clear hK K
                try simp only [Act.put, List.getElem_toArray, List.getElem_cons_zero, List.getElem_cons_succ, List.setIfInBounds_toArray, List.set_cons_zero, List.set_cons_succ]
                refine wpAnyL_done (by kernel_rfl) ?_ _
                refine NoPanic.normal ?_
                have hV := hH.1
                clear hH HS
                go_wp2
                go_roundw
                case rel => exact ⟨k + 1, by rw [Hnx.out], by go_num, by omega, hV⟩
                case measure => simp [intOf]; omega
            · have HS : Hid (∀ V, Below wo.heap.size wo V → (fun V : World => Below wo.heap.size wo V ∧ True) V) := Lib.hid fun V hV => ⟨hV, trivial⟩
              have Hnx := Lib.hid (show ((touches z).take (k + 1)).any (fun s => decide (nm = s)) = true by rw [Hnx.out]; rfl)
              go_upto_region 15 with fail
              refine wp_region_noPanic ?_
              refine wp_region_l 12 (fun V : World => Below wo.heap.size wo V ∧ True) (by kernel_rfl) (HS.out _ (hbk.drew)) (fun hH => ?_)
              refine wpAnyL_take (i := 0) (v := ?v20003) rfl (by kernel_rfl) (by kernel_rfl) (by kernel_rfl) (by kernel_rfl) (fun _ _ _ h => h) (Or.inl ⟨by kernel_rfl, ?hy20003⟩) (by assumption) ?r20003
              case hy20003 => (intro W hSW; obtain ⟨hV0, _⟩ := hSW; go_simp; try with_reducible rfl)
              try simp only [Act.put, List.getElem_toArray, List.getElem_cons_zero, List.setIfInBounds_toArray, List.set_cons_zero, List.set_cons_succ]
              refine wpAnyL_take (i := 1) (v := ?v20004) rfl (by kernel_rfl) (by kernel_rfl) (by kernel_rfl) (by kernel_rfl) (fun _ _ _ h => h) (Or.inl ⟨by kernel_rfl, ?hy20004⟩) (by assumption) ?r20004
              case hy20004 => (intro W hSW; obtain ⟨hV0, _⟩ := hSW; go_simp; try with_reducible rfl)
              try simp only [Act.put, List.getElem_toArray, List.getElem_cons_zero, List.getElem_cons_succ, List.setIfInBounds_toArray, List.set_cons_zero, List.set_cons_succ]
              refine wpAnyL_take (i := 2) (v := undef) rfl (by kernel_rfl) (by kernel_rfl) (by kernel_rfl) (by kernel_rfl) (fun _ _ _ h => h) (Or.inr ⟨by kernel_rfl, rfl⟩) (by assumption) ?r20005
              try simp only [Act.put, List.getElem_toArray, List.getElem_cons_zero, List.getElem_cons_succ, List.setIfInBounds_toArray, List.set_cons_zero, List.set_cons_succ]
              refine wpAnyL_take (i := 3) (v := undef) rfl (by kernel_rfl) (by kernel_rfl) (by kernel_rfl) (by kernel_rfl) (fun _ _ _ h => h) (Or.inr ⟨by kernel_rfl, rfl⟩) (by assumption) ?r20006
              try simp only [Act.put, List.getElem_toArray, List.getElem_cons_zero, List.getElem_cons_succ, List.setIfInBounds_toArray, List.set_cons_zero, List.set_cons_succ]
              refine wpAnyL_take (i := 4) (v := undef) rfl (by kernel_rfl) (by kernel_rfl) (by kernel_rfl) (by kernel_rfl) (fun _ _ _ h => h) (Or.inr ⟨by kernel_rfl, rfl⟩) (by assumption) ?r20007
              try simp only [Act.put, List.getElem_toArray, List.getElem_cons_zero, List.getElem_cons_succ, List.setIfInBounds_toArray, List.set_cons_zero, List.set_cons_succ]
              refine wpAnyL_take (i := 5) (v := undef) rfl (by kernel_rfl) (by kernel_rfl) (by kernel_rfl) (by kernel_rfl) (fun _ _ _ h => h) (Or.inr ⟨by kernel_rfl, rfl⟩) (by assumption) ?r20008
              try simp only [Act.put, List.getElem_toArray, List.getElem_cons_zero, List.getElem_cons_succ, List.setIfInBounds_toArray, List.set_cons_zero, List.set_cons_succ]
              refine wpAnyL_take (i := 6) (v := undef) rfl (by kernel_rfl) (by kernel_rfl) (by kernel_rfl) (by kernel_rfl) (fun _ _ _ h => h) (Or.inr ⟨by kernel_rfl, rfl⟩) (by assumption) ?r20009
              try simp only [Act.put, List.getElem_toArray, List.getElem_cons_zero, List.getElem_cons_succ, List.setIfInBounds_toArray, List.set_cons_zero, List.set_cons_succ]
              refine wpAnyL_take (i := 7) (v := undef) rfl (by kernel_rfl) (by kernel_rfl) (by kernel_rfl) (by kernel_rfl) (fun _ _ _ h => h) (Or.inr ⟨by kernel_rfl, rfl⟩) (by assumption) ?r20010
              try simp only [Act.put, List.getElem_toArray, List.getElem_cons_zero, List.getElem_cons_succ, List.setIfInBounds_toArray, List.set_cons_zero, List.set_cons_succ]
              refine wpAnyL_take (i := 8) (v := undef) rfl (by kernel_rfl) (by kernel_rfl) (by kernel_rfl) (by kernel_rfl) (fun _ _ _ h => h) (Or.inr ⟨by kernel_rfl, rfl⟩) (by assumption) ?r20011
              try simp only [Act.put, List.getElem_toArray, List.getElem_cons_zero, List.getElem_cons_succ, List.setIfInBounds_toArray, List.set_cons_zero, List.set_cons_succ]
              refine wpAnyL_take (i := 9) (v := undef) rfl (by kernel_rfl) (by kernel_rfl) (by kernel_rfl) (by kernel_rfl) (fun _ _ _ h => h) (Or.inr ⟨by kernel_rfl, rfl⟩) (by assumption) ?r20012
              try simp only [Act.put, List.getElem_toArray, List.getElem_cons_zero, List.getElem_cons_succ, List.setIfInBounds_toArray, List.set_cons_zero, List.set_cons_succ]
              refine wpAnyL_take (i := 10) (v := undef) rfl (by kernel_rfl) (by kernel_rfl) (by kernel_rfl) (by kernel_rfl) (fun _ _ _ h => h) (Or.inr ⟨by kernel_rfl, rfl⟩) (by assumption) ?r20013
              try simp only [Act.put, List.getElem_toArray, List.getElem_cons_zero, List.getElem_cons_succ, List.setIfInBounds_toArray, List.set_cons_zero, List.set_cons_succ]
              refine wpAnyL_take (i := 11) (v := ?v20014) rfl (by kernel_rfl) (by kernel_rfl) (by kernel_rfl) (by kernel_rfl) (fun _ _ _ h => h) (Or.inl ⟨by kernel_rfl, ?hy20014⟩) (by assumption) ?r20014
              case hy20014 => (intro W hSW; obtain ⟨hV0, _⟩ := hSW; go_simp; try with_reducible rfl)
              try simp only [Act.put, List.getElem_toArray, List.getElem_cons_zero, List.getElem_cons_succ, List.setIfInBounds_toArray, List.set_cons_zero, List.set_cons_succ]
              refine wpAnyL_last (by kernel_rfl) rfl (fun K hK => ?_)
              go_simp
              refine hK.out _ _ ?_
              clear hK K
              try simp only [Act.put, List.getElem_toArray, List.getElem_cons_zero, List.getElem_cons_succ, List.setIfInBounds_toArray, List.set_cons_zero, List.set_cons_succ]
              refine wpAnyL_done (by kernel_rfl) ?_ _
              refine NoPanic.normal ?_
              have hV := hH.1
              clear hH HS
              go_wp2
              go_roundw
              case rel => exact ⟨k + 1, by rw [Hnx.out], by go_num, by omega, hV⟩
              case measure => simp [intOf]; omega
          · obtain rfl : k = (touches z).length := by omega
            have g3 : decide (((touches z).length : Int) < ((touches z).length : Int)) = false := decide_eq_false (by omega)
            rw [List.take_length]
            obtain ⟨wi, rfl⟩ : ∃ wi, wi = wr := ⟨wr, rfl⟩
            have hwi := hbk.size
            have hbi := hbk
            have HEx := Lib.hid (fun V (hV : Below wi.heap.size wi V) => sevents_c AF cF F nm V (HsFo.out V (hbi.trans (hV.mono hwi))) Hod.out Hleg.out (Nat.le_trans hn (by decide)))
            have HEy := Lib.hid (fun V (hV : Below wi.heap.size wi V) => sevents_c _ cG G nm V (HsGo.out V (hbi.trans (hV.mono hwi))) Hod2.out Hleg2.out (Nat.le_trans hG51 (by decide)))
            have HXl := Lib.hid (HEl.out nm)
            have HYl := Lib.hid (show (evL bk0 G nm).length = (evL bk0 F nm).length + (if (doL (foldL bk0 F) z).1.err = 0 ∧ nmB z nm = true then 1 else 0) by rw [HEv.out, List.length_append, evD_len HIF.out])
            have HYt := Lib.hid (show (evL bk0 G nm).take (evL bk0 F nm).length = evL bk0 F nm by rw [HEv.out, List.take_left])
            have HTl := Lib.hid (fun V (hV : Below wo.heap.size wo V) => (HsTo.out V hV).rp (k := F.length) (by rw [HTlen.out]; exact Nat.lt_succ_self _))
            have HS : Hid (∀ V, Below wi.heap.size wi V → (fun V : World => Below wi.heap.size wi V ∧ V.cell? ⟨nb, i, none⟩ = some (.string nm)) V) := Lib.hid fun V hV => ⟨hV, Hcn.out V (hbi.trans (hV.mono hwi))⟩
            rw [show ((touches z).any fun s => decide (nm = s)) = nmB z nm from rfl]
            clear hbk Htk0
            go_upto_region 16 with fail
            refine wp_region_noPanic ?_
            refine wp_region_l 13 (fun V : World => Below wi.heap.size wi V ∧ V.cell? ⟨nb, i, none⟩ = some (.string nm)) (by kernel_rfl) (HS.out _ (Below.refl _ _).drew) (fun hH => ?_)
            refine wpAnyL_take (i := 0) (v := ?v20039) rfl (by kernel_rfl) (by kernel_rfl) (by kernel_rfl) (by kernel_rfl) (fun _ _ _ h => h) (Or.inl ⟨by kernel_rfl, ?hy20039⟩) (by assumption) ?r20039
            case hy20039 => (intro W hSW; obtain ⟨hV0, s1⟩ := hSW; go_simp; try with_reducible rfl)
            try simp only [Act.put, List.getElem_toArray, List.getElem_cons_zero, List.setIfInBounds_toArray, List.set_cons_zero, List.set_cons_succ]
            refine wpAnyL_take (i := 1) (v := ?v20040) rfl (by kernel_rfl) (by kernel_rfl) (by kernel_rfl) (by kernel_rfl) (fun _ _ _ h => h) (Or.inl ⟨by kernel_rfl, ?hy20040⟩) (by assumption) ?r20040
            case hy20040 => (intro W hSW; obtain ⟨hV0, s1⟩ := hSW; go_simp; try with_reducible rfl)
            try simp only [Act.put, List.getElem_toArray, List.getElem_cons_zero, List.getElem_cons_succ, List.setIfInBounds_toArray, List.set_cons_zero, List.set_cons_succ]
            refine wpAnyL_take (i := 2) (v := ?v20041) rfl (by kernel_rfl) (by kernel_rfl) (by kernel_rfl) (by kernel_rfl) (fun _ _ _ h => h) (Or.inl ⟨by kernel_rfl, ?hy20041⟩) (by assumption) ?r20041
            case hy20041 => (intro W hSW; obtain ⟨hV0, s1⟩ := hSW; go_simp; try with_reducible rfl)
            try simp only [Act.put, List.getElem_toArray, List.getElem_cons_zero, List.getElem_cons_succ, List.setIfInBounds_toArray, List.set_cons_zero, List.set_cons_succ]
            refine wpAnyL_take (i := 3) (v := ?v20042) rfl (by kernel_rfl) (by kernel_rfl) (by kernel_rfl) (by kernel_rfl) (fun _ _ _ h => h) (Or.inl ⟨by kernel_rfl, ?hy20042⟩) (by assumption) ?r20042
            case hy20042 => (intro W hSW; obtain ⟨hV0, s1⟩ := hSW; go_simp; try with_reducible rfl)
            try simp only [Act.put, List.getElem_toArray, List.getElem_cons_zero, List.getElem_cons_succ, List.setIfInBounds_toArray, List.set_cons_zero, List.set_cons_succ]
            refine wpAnyL_take (i := 4) (v := ?v20043) rfl (by kernel_rfl) (by kernel_rfl) (by kernel_rfl) (by kernel_rfl) (fun _ _ _ h => h) (Or.inl ⟨by kernel_rfl, ?hy20043⟩) (by assumption) ?r20043
            case hy20043 => (intro W hSW; obtain ⟨hV0, s1⟩ := hSW; go_simp; try with_reducible rfl)
            try simp only [Act.put, List.getElem_toArray, List.getElem_cons_zero, List.getElem_cons_succ, List.setIfInBounds_toArray, List.set_cons_zero, List.set_cons_succ]
            refine wpAnyL_take (i := 6) (v := ?v20044) rfl (by kernel_rfl) (by kernel_rfl) (by kernel_rfl) (by kernel_rfl) (fun _ _ _ h => h) (Or.inl ⟨by kernel_rfl, ?hy20044⟩) (by assumption) ?r20044
            case hy20044 => (intro W hSW; obtain ⟨hV0, s1⟩ := hSW; go_simp; try with_reducible rfl)
            try simp only [Act.put, List.getElem_toArray, List.getElem_cons_zero, List.getElem_cons_succ, List.setIfInBounds_toArray, List.set_cons_zero, List.set_cons_succ]
            refine wpAnyL_take (i := 7) (v := ?v20045) rfl (by kernel_rfl) (by kernel_rfl) (by kernel_rfl) (by kernel_rfl) (fun _ _ _ h => h) (Or.inl ⟨by kernel_rfl, ?hy20045⟩) (by assumption) ?r20045
            case hy20045 => (intro W hSW; obtain ⟨hV0, s1⟩ := hSW; go_simp; try with_reducible rfl)
            try simp only [Act.put, List.getElem_toArray, List.getElem_cons_zero, List.getElem_cons_succ, List.setIfInBounds_toArray, List.set_cons_zero, List.set_cons_succ]
            refine wpAnyL_take (i := 8) (v := ?v20046) rfl (by kernel_rfl) (by kernel_rfl) (by kernel_rfl) (by kernel_rfl) (fun _ _ _ h => h) (Or.inl ⟨by kernel_rfl, ?hy20046⟩) (by assumption) ?r20046
            case hy20046 => (intro W hSW; obtain ⟨hV0, s1⟩ := hSW; go_simp; try with_reducible rfl)
            try simp only [Act.put, List.getElem_toArray, List.getElem_cons_zero, List.getElem_cons_succ, List.setIfInBounds_toArray, List.set_cons_zero, List.set_cons_succ]
            refine wpAnyL_take (i := 9) (v := ?v20047) rfl (by kernel_rfl) (by kernel_rfl) (by kernel_rfl) (by kernel_rfl) (fun _ _ _ h => h) (Or.inl ⟨by kernel_rfl, ?hy20047⟩) (by assumption) ?r20047
            case hy20047 => (intro W hSW; obtain ⟨hV0, s1⟩ := hSW; go_simp; try with_reducible rfl)
            try simp only [Act.put, List.getElem_toArray, List.getElem_cons_zero, List.getElem_cons_succ, List.setIfInBounds_toArray, List.set_cons_zero, List.set_cons_succ]
            refine wpAnyL_take (i := 10) (v := ?v20048) rfl (by kernel_rfl) (by kernel_rfl) (by kernel_rfl) (by kernel_rfl) (fun _ _ _ h => h) (Or.inl ⟨by kernel_rfl, ?hy20048⟩) (by assumption) ?r20048
            case hy20048 => (intro W hSW; obtain ⟨hV0, s1⟩ := hSW; go_simp; try with_reducible rfl)
            try simp only [Act.put, List.getElem_toArray, List.getElem_cons_zero, List.getElem_cons_succ, List.setIfInBounds_toArray, List.set_cons_zero, List.set_cons_succ]
            refine wpAnyL_one (i := 5) (by kernel_rfl) rfl (by decide) (fun K hK => ?_)
            refine oper_call2 38 63 67 _ rfl _ _ rfl rfl (enters_of Tryz.func38 (by kernel_rfl) rfl) ?_
            refine (HEx.out _ hH.1).mono ?_
            rintro e u1 ⟨vx, rfl, hOx, hFx⟩
            refine ⟨vx, rfl, ?_⟩
            have hbu := below_on hH.1 (Nat.le_refl _) hFx
            have HOx := Lib.hid hOx
            clear hFx hOx
            refine hK.out _ _ (HS.out _ hbu) (fun hH => ?_)
            clear hK K
            try simp only [Act.put, List.getElem_toArray, List.getElem_cons_zero, List.getElem_cons_succ, List.setIfInBounds_toArray, List.set_cons_zero, List.set_cons_succ]
            refine wpAnyL_one (i := 11) (by kernel_rfl) rfl (by decide) (fun K hK => ?_)
            refine oper_call2 38 69 73 _ rfl _ _ rfl rfl (enters_of Tryz.func38 (by kernel_rfl) rfl) ?_
            refine (HEy.out _ hH.1).mono ?_
            rintro e u2 ⟨vy, rfl, hOy, hFy⟩
            refine ⟨vy, rfl, ?_⟩
            have hbu := below_on hH.1 (Nat.le_refl _) hFy
            have HOx := Lib.hid (HOx.out.later hFy)
            have HOy := Lib.hid hOy
            clear hFy hOy
            refine hK.out _ _ (HS.out _ hbu) (fun hH => ?_)
            clear hK K
            try simp only [Act.put, List.getElem_toArray, List.getElem_cons_zero, List.getElem_cons_succ, List.setIfInBounds_toArray, List.set_cons_zero, List.set_cons_succ]
            refine wpAnyL_take (i := 12) (v := ?v20049) rfl (by kernel_rfl) (by kernel_rfl) (by kernel_rfl) (by kernel_rfl) (fun _ _ _ h => h) (Or.inl ⟨by kernel_rfl, ?hy20049⟩) (by assumption) ?r20049
            case hy20049 => (intro W hSW; obtain ⟨hV0, s1⟩ := hSW; go_simp; try with_reducible rfl)
            try simp only [Act.put, List.getElem_toArray, List.getElem_cons_zero, List.getElem_cons_succ, List.setIfInBounds_toArray, List.set_cons_zero, List.set_cons_succ]
            refine wpAnyL_last (by kernel_rfl) rfl (fun K hK => ?_)
            refine oper_assign (.tmp 74) rfl vy rfl ?_
            refine hK.out _ _ ?_
            clear hK K
            try simp only [Act.put, List.getElem_toArray, List.getElem_cons_zero, List.getElem_cons_succ, List.setIfInBounds_toArray, List.set_cons_zero, List.set_cons_succ]
            refine wpAnyL_done (by kernel_rfl) ?_ _
            refine NoPanic.normal ?_
            have hbf := hH.1
            clear hH HS
            obtain ⟨Ax, cx, rfl, hsx⟩ := HOx.out.sl
            obtain ⟨Ay, cy, rfl, hsy⟩ := HOy.out.sl
            have hbg := hbi.trans (hbf.mono hwi)
            have hT := HTl.out u2 hbg
            have hlx : (evL bk0 F nm).length ≤ 60000 := Nat.le_trans HXl.out (by omega)
            have hYl := HYl.out
            have hYt := HYt.out
            have hxc : (evL bk0 F nm).length ≤ cx := hsx.1
            have hyc : (evL bk0 G nm).length ≤ cy := hsy.1
            have HX := Lib.hid hsx
            have HY := Lib.hid hsy
            clear HOx HOy hsx hsy HEx HEy HTl HXl HYl HYt
            generalize evL bk0 F nm = X at *
            generalize evL bk0 G nm = Y at *
            obtain ⟨bT2, oT2, hAT, -, t0, -⟩ := hT
            injection hAT with hAT
            injection hAT with eT1 eT2
            subst eT1 eT2
            have hTe : TL[F.length]'(by rw [HTlen.out]; exact Nat.lt_succ_self _) = (doL (foldL bk0 F) z).1 := (List.getElem_eq_iff _).2 HTr.out
            rw [hTe] at t0
            clear hTe
            have HY2 := Lib.hid (fun V (hV : Below u2.heap.size u2 V) => (HY.out.later hV).take X.length)
            have HYt := Lib.hid hYt
            have x0 : (0 : Int) ≤ (X.length : Int) := by omega
            have HA1 : Hid (∀ V, Below u2.heap.size u2 V → X.length ≤ Y.length → Calls Tryz.prog 40 #[.slice Ay X.length cy] V fun e w' => ∃ v, e = .returned v ∧ Own w' V.heap.size 172 v X ∧ Below V.heap.size V w') := Lib.hid fun V hV hle => by
              have h1 := HY2.out V hV
              have h2 := as12_c Ay cy (Y.take X.length) V h1 (by rw [List.length_take]; omega)
              rw [HYt.out] at h2
              exact h2
            have HA2 := Lib.hid (fun V (hV : Below u2.heap.size u2 V) => as12_c Ax cx X V (HX.out.later hV) (by omega))
            obtain ⟨be, hbe⟩ : ∃ b : Bool, nmB z nm = b := ⟨_, rfl⟩
            rw [hbe] at hYl
            cases be
            · have hy0 : Y.length = X.length := by rw [hYl, if_neg (by simp)]; rfl
              have y1 : (X.length : Int) ≤ (cy : Int) := by omega
              have q1 : ((Y.length : Int) != (X.length : Int)) = false := by rw [hy0]; simp
              have hle : X.length ≤ Y.length := Nat.le_of_eq hy0.symm
              rw [hbe]
              clear hYl hYt hbe t0 hy0
              go_wp2_with fail
              refine (HA1.out _ (Below.refl _ _) hle).mono ?_
              rintro e u3 ⟨v1, rfl, hO1, hF1⟩
              obtain ⟨A1, c1, rfl, h1⟩ := hO1.sl
              clear hO1
              go_wp2_with fail
              refine (HA2.out _ hF1).mono ?_
              rintro e u4 ⟨v2, rfl, hO2, hF2⟩
              obtain ⟨A2, c2, rfl, h2⟩ := hO2.sl
              have hb4 := below_on hF1 (Nat.le_refl _) hF2
              have h1 := h1.later hF2
              clear hO2 hF1 hF2
              go_wp2_with fail
              refine (same12_c _ _ A1 A2 c1 c2 X X u4 h1 h2).mono ?_
              rintro e u5 ⟨rfl, hF3⟩
              rw [decide_eq_true (show X = X from rfl)]
              have hb5 := hbg.trans ((below_on hb4 (Nat.le_refl _) hF3).mono hbg.size)
              clear h1 h2 hF3 hb4 hbf
              go_wp2
              go_roundw
              case rel => exact ⟨i + 1, by go_num, by omega, hb5⟩
              case measure => simp [intOf]; omega
            · obtain ⟨er, her⟩ : ∃ er : Int, (doL (foldL bk0 F) z).1.err = er := ⟨_, rfl⟩
              rw [her] at hYl t0
              rw [hbe]
              clear hbe her
              have j0 : (0 : Int) ≤ (F.length : Int) := by omega
              have j1 : (F.length : Int) < (TL.length : Int) := by have h9 := HTlen.out; omega
              have j2 : (TL.length : Int) - 1 = (F.length : Int) := by have h9 := HTlen.out; omega
              by_cases he : er = 0
              · have hy0 : Y.length = X.length + 1 := by rw [hYl, if_pos ⟨he, rfl⟩]
                have y1 : (X.length : Int) ≤ (cy : Int) := by omega
                have q1 : ((Y.length : Int) != (X.length : Int) + 1) = false := by rw [hy0]; simp
                have e1 : (er == 0) = true := by simpa using he
                have e2 : decide (er = 0) = true := decide_eq_true he
                have hle : X.length ≤ Y.length := by omega
                clear hYl hYt he hy0
                go_wp2_with fail
                refine (HA1.out _ (Below.refl _ _) hle).mono ?_
                rintro e u3 ⟨v1, rfl, hO1, hF1⟩
                obtain ⟨A1, c1, rfl, h1⟩ := hO1.sl
                clear hO1
                go_wp2_with fail
                refine (HA2.out _ hF1).mono ?_
                rintro e u4 ⟨v2, rfl, hO2, hF2⟩
                obtain ⟨A2, c2, rfl, h2⟩ := hO2.sl
                have hb4 := below_on hF1 (Nat.le_refl _) hF2
                have h1 := h1.later hF2
                clear hO2 hF1 hF2
                go_wp2_with fail
                refine (same12_c _ _ A1 A2 c1 c2 X X u4 h1 h2).mono ?_
                rintro e u5 ⟨rfl, hF3⟩
                rw [decide_eq_true (show X = X from rfl)]
                have hb5 := hbg.trans ((below_on hb4 (Nat.le_refl _) hF3).mono hbg.size)
                clear h1 h2 hF3 hb4 hbf
                go_wp2
                go_roundw
                case rel => exact ⟨i + 1, by go_num, by omega, hb5⟩
                case measure => simp [intOf]; omega
              · have hy0 : Y.length = X.length := by rw [hYl, if_neg (fun h => he h.1)]; rfl
                have y1 : (X.length : Int) ≤ (cy : Int) := by omega
                have q1 : ((Y.length : Int) != (X.length : Int)) = false := by rw [hy0]; simp
                have e1 : (er == 0) = false := by simpa using he
                have e2 : decide (er = 0) = false := decide_eq_false he
                have hle : X.length ≤ Y.length := by omega
                clear hYl hYt he hy0
                go_wp2_with fail
                refine (HA1.out _ (Below.refl _ _) hle).mono ?_
                rintro e u3 ⟨v1, rfl, hO1, hF1⟩
                obtain ⟨A1, c1, rfl, h1⟩ := hO1.sl
                clear hO1
                go_wp2_with fail
                refine (HA2.out _ hF1).mono ?_
                rintro e u4 ⟨v2, rfl, hO2, hF2⟩
                obtain ⟨A2, c2, rfl, h2⟩ := hO2.sl
                have hb4 := below_on hF1 (Nat.le_refl _) hF2
                have h1 := h1.later hF2
                clear hO2 hF1 hF2
                go_wp2_with fail
                refine (same12_c _ _ A1 A2 c1 c2 X X u4 h1 h2).mono ?_
                rintro e u5 ⟨rfl, hF3⟩
                rw [decide_eq_true (show X = X from rfl)]
                have hb5 := hbg.trans ((below_on hb4 (Nat.le_refl _) hF3).mono hbg.size)
                clear h1 h2 hF3 hb4 hbf
                go_wp2
                go_roundw
                case rel => exact ⟨i + 1, by go_num, by omega, hb5⟩
                case measure => simp [intOf]; omega
      · obtain rfl : i = 5 := by omega
        have g1 : decide (((5 : Nat) : Int) < 5) = false := decide_eq_false (by omega)
        have hbe := Hbo.out.trans (hbr.mono Hbo.out.size)
        go_wp2
        go_ret
        exact ⟨rfl, hbe⟩
end Go.Proofs.YtdkkblhfjblpkaaGreat
