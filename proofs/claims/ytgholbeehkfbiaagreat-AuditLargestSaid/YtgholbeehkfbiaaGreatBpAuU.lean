/- audit: Between, Notes -/
import Derived.Test.YtgholbeehkfbiaaGreatRows
import Derived.Test.YtgholbeehkfbiaaGreatBpAuT
import Derived.WalkKit
import Derived.WalkSpells
import Derived.WalkLawsBesides
import Derived.Deep.QuietTactic
import Derived.BigQuiet
import Derived.Laws.StructEq
import Derived.Deep.DeepFit
import Derived.StillTailTactics
namespace Go.Proofs.YtgholbeehkfbiaaGreat
open Go.RowKit
theorem oper_lit_sv2 {o : Oper} {a : Act} {w : World} {K : Act → World → Prop} {Q : Exit → Act → World → Prop} (n m : Nat) (ho : o.op = .buildSlice 229 2 #[(0, .tmp n), (1, .tmp m)]) (A B : Option Addr) (p c q d : Nat) (hx : a.tmps[n]?.getD undef = .slice A p c) (hy : a.tmps[m]?.getD undef = .slice B q d)
    (hK : K (a.put o.dst (.slice (some ⟨w.heap.size, 0, none⟩) 2 2)) (w.alloc (.cells #[.slice A p c, .slice B q d] 187))) : Oper.wp Tryz.prog o a w K Q := by
  obtain ⟨dd, op, t, ps, af, gd⟩ := o
  dsimp only at ho hK
  subst ho
  go_simp
  exact hK
theorem idInfo : (Tryz.prog.info? 34).map (fun i => (i.zero, i.size, i.bytes)) = some (some (.agg #[i64 0, i64 0]), Enc.size Id, 16) := by kernel_rfl
theorem bytes_ext {a b : ByteArray} (h : a.toList = b.toList) : a = b := by
  rw [ByteArray.toList_eq, ByteArray.toList_eq] at h
  exact ByteArray.ext (Array.toList_inj.1 h)
theorem sl_two {w : World} {g : Nat} {A B : Option Addr} {c d : Nat} {l m : List Int} {T : TypeId} (h : (w.alloc (.cells #[.slice A l.length c, .slice B m.length d] T)).heap[g]? = some (.cells #[.slice A l.length c, .slice B m.length d] T (0, 0))) (hl : Sl (w.alloc (.cells #[.slice A l.length c, .slice B m.length d] T)) (w.alloc (.cells #[.slice A l.length c, .slice B m.length d] T)).heap.size A c l) (hm : Sl (w.alloc (.cells #[.slice A l.length c, .slice B m.length d] T)) (w.alloc (.cells #[.slice A l.length c, .slice B m.length d] T)).heap.size B d m) :
    Sl (w.alloc (.cells #[.slice A l.length c, .slice B m.length d] T)) (w.alloc (.cells #[.slice A l.length c, .slice B m.length d] T)).heap.size (some ⟨g, 0, none⟩) 2 [(⟨A, c, l⟩ : SV Int), ⟨B, d, m⟩] := by
  refine ⟨Nat.le_refl _, by simp [maxLen], fun _ => ⟨g, 0, rfl, (Array.getElem?_eq_some_iff.1 h).1, fun j u hu => ?_⟩, fun x hx => ?_⟩
  · rw [cell_of_row _ g (0 + j) _ T (0, 0) h, Nat.zero_add]
    have e : [(⟨A, c, l⟩ : SV Int), ⟨B, d, m⟩].flatMap Enc.cells = [.slice A l.length c, .slice B m.length d] := rfl
    rw [e] at hu
    simpa using hu
  · rcases List.mem_cons.1 hx with rfl | hx
    · exact hl
    · rw [List.mem_singleton.1 hx]; exact hm
theorem sumL_inout (ls : List Leg) (k : ByteArray) : sumL (inK ls k ++ outK ls k) = sumL (allK ls k) := by rw [sumL_app, in_out]
theorem betw_none {ls : List Leg} {k : ByteArray} (h : k ∉ namesL ls) : betwL ls k = (0, 0) := by
  have : allK ls k = [] := by
    unfold allK
    rw [List.filter_eq_nil_iff.2 fun x hx => by simpa using fun e => h (namesL_mem.2 ⟨x, hx, e⟩)]; rfl
  unfold betwL
  rw [this]; rfl
set_option maxRecDepth 100000 in
set_option maxHeartbeats 8000000 in
theorem abetw_c (A : Option Addr) (c : Nat) (l : List Od) (k : ByteArray) (fa fb : Int) (w : World) (h : Sl w w.heap.size A c l) (hx : ∀ x ∈ l, OdB x) (hl : ∀ x ∈ l, x.legs.length ≤ 65536) (hn : l.length ≤ 5000) :
    Calls Tryz.prog 55 #[.slice A l.length c, .string k, i64 fa, i64 fb] w fun e w' => e = .returned (.tuple #[i64 (betwL (legsR (movedL l) fa fb) k).1, i64 (betwL (legsR (movedL l) fa fb) k).2]) ∧ Below w.heap.size w w' := by
  have hN := Lib.hid (aflows_c A c l fa fb w h hx hl (by omega))
  have Hsum := Lib.hid (legsR_sums hx fa fb)
  have hlen := legsR_len hx fa fb
  have hlc : l.length ≤ c := h.1
  clear h hx hl
  generalize legsR (movedL l) fa fb = ls at *
  have Hnone := Lib.hid (betw_none (ls := ls) (k := k))
  have HR := Lib.hid (show betwL ls k = sumR (sumL (inK ls k ++ outK ls k)) by unfold betwL; rw [sumL_inout])
  generalize betwL ls k = R at *
  go_enter Tryz.func55, Tryz.ntmps55
  go_wp2_with fail
  refine hN.out.mono ?_
  rintro e w1 ⟨b, T, rfl, hK, hR, hbz, hF⟩
  have hlk := hK.look k
  have hw1 := hF.size
  cases hg : getF T k with
  | none =>
    rw [hg] at hlk
    simp only [Option.map_none, Option.getD_none] at hlk
    have H0 := Lib.hid (Hnone.out ((hR.none_ k).1 hg))
    clear hg hK hR HR Hnone hN
    go_wp2
    go_ret2
    exact ⟨by rw [H0.out]; rfl, hF⟩
  | some X =>
    rw [hg] at hlk
    simp only [Option.map_some, Option.getD_some] at hlk
    obtain ⟨hX, hXn⟩ := getF_mem hg
    have hli := hR.inn X hX
    have hlo := hR.out X hX
    rw [hXn] at hli hlo
    obtain ⟨Ai, ci, hvi, hsi⟩ := (hK.inn X hX).sl
    obtain ⟨Ao, co, hvo, hso⟩ := (hK.out X hX).sl
    have hxc := hK.cell X hX
    have hxp : X.p < w1.heap.size := (Array.getElem?_eq_some_iff.1 hxc).1
    rw [hvi, hvo] at hxc
    rw [hli] at hsi hxc
    rw [hlo] at hso hxc
    have hil : (inK ls k).length ≤ 30000 := by have := inK_len ls k; omega
    have hol : (outK ls k).length ≤ 30000 := by have := outK_len ls k; omega
    have Hin := Lib.hid (show ∀ a ∈ inK ls k ++ outK ls k, R64 a from fun a ha => by
      rcases List.mem_append.1 ha with ha | ha
      · obtain ⟨y, hy, rfl⟩ := inK_sub ls k a ha; exact Hsum.out y hy
      · obtain ⟨y, hy, rfl⟩ := outK_sub ls k a ha; exact Hsum.out y hy)
    have Hsi := Lib.hid (fun V (hV : Below w1.heap.size w1 V) => hsi.later hV)
    have Hso := Lib.hid (fun V (hV : Below w1.heap.size w1 V) => hso.later hV)
    have HF := Lib.hid hF
    generalize inK ls k = Li at *
    generalize outK ls k = Lo at *
    have HS : Hid (∀ V, Below w1.heap.size w1 V → (fun V : World => Below w1.heap.size w1 V ∧ V.cell? ⟨X.p, 0, none⟩ = some (.slice Ai Li.length ci) ∧ V.cell? ⟨X.p, 1, none⟩ = some (.slice Ao Lo.length co)) V) := Lib.hid fun V hV => by
      have h1 := (hV.block X.p hxp).trans hxc
      exact ⟨hV, cell_of_row _ X.p 0 _ _ (0, 0) h1, cell_of_row _ X.p 1 _ _ (0, 0) h1⟩
    clear hvi hvo hsi hso hg hX hK hR hXn Hnone hli hlo hN hF hxc
    go_upto_region 4 with fail
    refine wp_region_noPanic ?_
    refine wp_region_l 14 (fun V : World => Below w1.heap.size w1 V ∧ V.cell? ⟨X.p, 0, none⟩ = some (.slice Ai Li.length ci) ∧ V.cell? ⟨X.p, 1, none⟩ = some (.slice Ao Lo.length co)) (by kernel_rfl) (HS.out _ (Below.refl _ _).drew) (fun hH => ?_)
    have hbd := (Below.refl w1.heap.size w1).drew
    generalize w1.drew = Wd at *
    refine tkY 0 (v := ?v20001) ?y20001 ?r20001
    case y20001 => (intro W hW; go_simp; try with_reducible rfl)
    try simp only [List.set]
    refine tkY 1 (v := ?v20002) ?y20002 ?r20002
    case y20002 => (intro W hW; go_simp; try with_reducible rfl)
    try simp only [List.set]
    refine tkY 2 (v := ?v20003) ?y20003 ?r20003
    case y20003 => (intro W hW; go_simp; try with_reducible rfl)
    try simp only [List.set]
    refine tkY 3 (v := ?v20004) ?y20004 ?r20004
    case y20004 => (intro W hW; go_simp; try with_reducible rfl)
    try simp only [List.set]
    refine tkY 4 (v := ?v20005) ?y20005 ?r20005
    case y20005 => (intro W hW; go_simp; try with_reducible rfl)
    try simp only [List.set]
    refine tkY 5 (v := ?v20006) ?y20006 ?r20006
    case y20006 => (intro W hW; go_simp; try with_reducible rfl)
    try simp only [List.set]
    refine tkY 6 (v := ?v20007) ?y20007 ?r20007
    case y20007 => (intro W hW; go_simp; try with_reducible rfl)
    try simp only [List.set]
    refine tkY 7 (v := ?v20008) ?y20008 ?r20008
    case y20008 => (intro W hW; go_simp; try with_reducible rfl)
    try simp only [List.set]
    refine wpAnyL_one (i := 8) (by kernel_rfl) rfl (by decide) (fun K hK => ?_)
    refine oper_lit_sv2 22 26 rfl Ai Ao Li.length ci Lo.length co rfl rfl ?_
    have hbu := hbd.alloc hbd.size (.cells #[.slice Ai Li.length ci, .slice Ao Lo.length co] 187)
    have hal := heap_alloc_new Wd (.cells #[.slice Ai Li.length ci, .slice Ao Lo.length co] 187)
    have HSl := Lib.hid (sl_two hal (Hsi.out _ hbu) (Hso.out _ hbu))
    have HBu := Lib.hid hbu
    clear hal
    refine hK.out _ _ (HS.out _ hbu) (fun hH => ?_)
    clear hK K
    try simp only [Act.put, List.getElem_toArray, List.getElem_cons_zero, List.getElem_cons_succ, List.setIfInBounds_toArray, List.set_cons_zero, List.set_cons_succ]
    clear hbu
    refine wpAnyL_one (i := 9) (by kernel_rfl) rfl (by decide) (fun K hK => ?_)
    refine oper_call1 103 27 _ rfl _ rfl (enters_of Tryz.func103 (by kernel_rfl) rfl) ?_
    refine (concat_i64 _ 2 [⟨Ai, ci, Li⟩, ⟨Ao, co, Lo⟩] _ HSl.out (by simp) (by simp; omega)).mono ?_
    rintro e u1 ⟨vc, rfl, hOc, hFc⟩
    refine ⟨_, rfl, ?_⟩
    have hbu2 := below_on HBu.out (Nat.le_refl _) hFc
    have HB2 := Lib.hid hbu2
    have hOc : Own u1 (Wd.alloc (.cells #[.slice Ai Li.length ci, .slice Ao Lo.length co] 187)).heap.size 2 vc (Li ++ Lo) := by simpa using hOc
    obtain ⟨Ac, cc, rfl, hsc⟩ := hOc.sl
    have HT := Lib.hid (total_c Ac cc _ u1 hsc (by rw [List.length_append]; omega) Hin.out)
    clear hFc hOc hsc HSl
    refine hK.out _ _ (HS.out _ hbu2) (fun hH => ?_)
    clear hK K
    try simp only [Act.put, List.getElem_toArray, List.getElem_cons_zero, List.getElem_cons_succ, List.setIfInBounds_toArray, List.set_cons_zero, List.set_cons_succ]
    clear hbu2
    refine wpAnyL_one (i := 10) (by kernel_rfl) rfl (by decide) (fun K hK => ?_)
    refine oper_call1 96 28 _ rfl _ rfl (enters_of Tryz.func96 (by kernel_rfl) rfl) ?_
    refine HT.out.mono ?_
    rintro e u2 ⟨rfl, hFt⟩
    refine ⟨_, rfl, ?_⟩
    have hbu3 := below_on HB2.out (Nat.le_refl _) hFt
    rw [← HR.out] at *
    clear hFt HT
    refine hK.out _ _ (HS.out _ hbu3) (fun hH => ?_)
    clear hK K
    try simp only [Act.put, List.getElem_toArray, List.getElem_cons_zero, List.getElem_cons_succ, List.setIfInBounds_toArray, List.set_cons_zero, List.set_cons_succ]
    refine tkY 11 (v := ?v20009) ?y20009 ?r20009
    case y20009 => (intro W hW; go_simp; try with_reducible rfl)
    try simp only [List.set]
    refine tkY 12 (v := ?v20010) ?y20010 ?r20010
    case y20010 => (intro W hW; go_simp; try with_reducible rfl)
    try simp only [List.set]
    refine tkY 13 (v := ?v20011) ?y20011 ?r20011
    case y20011 => (intro W hW; go_simp; try with_reducible rfl)
    try simp only [List.set]
    refine wpAnyL_last (by kernel_rfl) rfl (fun K hK => ?_)
    go_simp
    refine hK.out _ _ ?_
    clear hK K
    try simp only [Act.put, List.getElem_toArray, List.getElem_cons_zero, List.getElem_cons_succ, List.setIfInBounds_toArray, List.set_cons_zero, List.set_cons_succ]
    refine wpAnyL_done (by kernel_rfl) ?_ _
    refine NoPanic.normal ?_
    have hbf := hH.1
    clear hH HS
    go_wp2
    go_ret2
    exact ⟨rfl, HF.out.trans (hbf.mono hw1)⟩
set_option maxRecDepth 100000 in
set_option maxHeartbeats 8000000 in
theorem anotes_c (A : Option Addr) (c : Nat) (l : List Od) (note : ByteArray) (w : World) (h : Sl w w.heap.size A c l) (hx : ∀ x ∈ l, OdB x) (hl : ∀ x ∈ l, x.legs.length ≤ 65536) (hn : l.length ≤ 60000) :
    Calls Tryz.prog 49 #[.slice A l.length c, .string note] w fun e w' => ∃ v, e = .returned v ∧ Own w' w.heap.size 34 v (((movedL l).filter fun x => decide (x.note = note)).map Od.id) ∧ Below w.heap.size w w' := by
  have hN := Lib.hid (amoved_c A c l w h hx hl hn)
  have hlc : l.length ≤ c := h.1
  have hLn : (movedL l).length ≤ 60000 := Nat.le_trans (movedL_len l) hn
  clear h hx hl
  generalize movedL l = L at *
  go_enter Tryz.func49, Tryz.ntmps49
  go_wp2_with fail
  refine hN.out.mono ?_
  rintro e w1 ⟨vm, rfl, hOm, hF⟩
  obtain ⟨Am, cm, rfl, hsm⟩ := hOm.sl
  have hcm : L.length ≤ cm := hsm.1
  have hw1 := hF.size
  have HL := Lib.hid (fun V (hV : Below w1.heap.size w1 V) => hsm.later hV)
  have HF1 := Lib.hid hF
  clear hN hOm hsm hF
  go_wp2_with fail
  go_loopw [5, 11] (fun v i wr => ∃ (k : Nat), i = i64 k ∧ k ≤ L.length ∧ Own wr w1.heap.size 34 v (((L.take k).filter fun x => decide (x.note = note)).map Od.id) ∧ Below w1.heap.size w1 wr) (fun _ i _ => L.length - (intOf i).toNat)
  case atStart => exact ⟨0, rfl, Nat.zero_le _, Own.nil_ _ _ _, Below.refl _ _⟩
  case round =>
    obtain ⟨k, rfl, hk, hO, hb⟩ := hrel
    obtain ⟨wo, rfl⟩ : ∃ wo, wo = wr := ⟨wr, rfl⟩
    by_cases hlt : k < L.length
    · have g1 : decide ((k : Int) < (L.length : Int)) = true := decide_eq_true (by omega)
      have g2 : decide (k < L.length) = true := decide_eq_true hlt
      have i0 : (0 : Int) ≤ (k : Int) := by omega
      have i1 : (k : Int) < (L.length : Int) := by omega
      obtain ⟨b, o, rfl, hbb, hok, c0, c1, c2, c3, c4, c5, c6, c7, c8, c9⟩ := (HL.out _ hb).od hlt
      have Hlen := Lib.hid (show (((L.take k).filter fun x => decide (x.note = note)).map Od.id).length + 1 ≤ 4294967296 by
        rw [List.length_map]
        have := List.length_filter_le (fun x : Od => decide (x.note = note)) (L.take k)
        rw [List.length_take] at this
        omega)
      have Htk := Lib.hid (show ((L.take (k + 1)).filter fun x => decide (x.note = note)).map Od.id = ((L.take k).filter fun x => decide (x.note = note)).map Od.id ++ (if L[k].note = note then [L[k].id] else []) by
        rw [List.take_succ_eq_append_getElem hlt, List.filter_append, List.map_append]
        congr 1
        by_cases hq : L[k].note = note
        · rw [if_pos hq, List.filter_cons_of_pos (by simpa using hq)]; rfl
        · rw [if_neg hq, List.filter_cons_of_neg (by simpa using hq)]; rfl)
      generalize ((L.take k).filter fun x => decide (x.note = note)).map Od.id = out at *
      obtain ⟨x, hxk⟩ : ∃ x, L[k] = x := ⟨_, rfl⟩
      simp only [hxk] at c0 c1 c2 c3 c4 c5 c6 c7 c8 c9 hok Htk
      have hba := (Below.refl wo.heap.size wo).alloc (Nat.le_refl _) (.cells #[i64 x.client, i64 x.seq, i64 x.kind, .string x.acct, .string x.peer, i64 x.sum, .slice x.la x.legs.length x.lc, i64 x.period, i64 x.hold, .string x.note] 37)
      have hO1 := hO.later hba
      have hb1 := hb.alloc hb.size (.cells #[i64 x.client, i64 x.seq, i64 x.kind, .string x.acct, .string x.peer, i64 x.sum, .slice x.la x.legs.length x.lc, i64 x.period, i64 x.hold, .string x.note] 37)
      by_cases hq : x.note = note
      · have q1 : (x.note.toList == note.toList) = true := by rw [hq]; simp
        rw [if_pos hq] at Htk
        have hba2 := (Below.refl _ (wo.alloc (.cells #[i64 x.client, i64 x.seq, i64 x.kind, .string x.acct, .string x.peer, i64 x.sum, .slice x.la x.legs.length x.lc, i64 x.period, i64 x.hold, .string x.note] 37))).alloc (Nat.le_refl _) (.cells #[i64 x.client, i64 x.seq] 34)
        have HO2 := Lib.hid (hO1.later hba2)
        have Hne := Lib.hid (hO1.new_ne (Nat.le_refl _))
        have HH := Lib.hid (heap_alloc_new (wo.alloc (.cells #[i64 x.client, i64 x.seq, i64 x.kind, .string x.acct, .string x.peer, i64 x.sum, .slice x.la x.legs.length x.lc, i64 x.period, i64 x.hold, .string x.note] 37)) (.cells #[i64 x.client, i64 x.seq] 34))
        have Hb2 := Lib.hid (hb1.alloc hb1.size (.cells #[i64 x.client, i64 x.seq] 34))
        have hzz : (wo.alloc (.cells #[i64 x.client, i64 x.seq, i64 x.kind, .string x.acct, .string x.peer, i64 x.sum, .slice x.la x.legs.length x.lc, i64 x.period, i64 x.hold, .string x.note] 37)).heap.size = wo.heap.size + 1 := by simp
        rw [hzz] at HH Hne
        clear hxk hok hba hO hO1 hb hb1 hba2 hbb hq
        go_wp2_with (at_builtin; refine wpList_append_one rfl (some 23) (.tmp 19) (.tmp 22) 90 rfl rfl _ 16 Tryz.underlying90 idInfo rfl (by decide) (by decide) rfl HO2.out (wo.heap.size + 1) x.id rfl _ 34 HH.out rfl Hne.out trivial Hlen.out Hb2.out.size ?_; intro v4 w4 hO5 hg5 hat5)
        go_roundw
        case rel => exact ⟨k + 1, by go_num, by omega, by rw [Htk.out]; exact hO5, Hb2.out.trans (HO2.out.below hg5 (Nat.le_refl _) Hb2.out.size)⟩
        case measure => simp [intOf]; omega
      · have q1 : (x.note.toList == note.toList) = false := by
          rw [beq_eq_false_iff_ne]
          exact fun e => hq (bytes_ext e)
        rw [if_neg hq, List.append_nil] at Htk
        have HO1 := Lib.hid hO1
        have Hb1 := Lib.hid hb1
        clear hxk hok hba hO hO1 hb hb1 hbb hq
        go_wp2
        go_roundw
        case rel => exact ⟨k + 1, by go_num, by omega, by rw [Htk.out]; exact HO1.out, Hb1.out⟩
        case measure => simp [intOf]; omega
    · obtain rfl : k = L.length := by omega
      have g1 : decide ((L.length : Int) < (L.length : Int)) = false := decide_eq_false (by omega)
      rw [List.take_length] at hO
      have HO := Lib.hid hO
      clear hO
      go_wp2
      go_ret
      exact ⟨_, rfl, HO.out.mono hw1, HF1.out.trans (hb.mono hw1)⟩
end Go.Proofs.YtgholbeehkfbiaaGreat
