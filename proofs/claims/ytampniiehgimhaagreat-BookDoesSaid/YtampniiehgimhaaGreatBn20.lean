/- Texts of this claim, laid together: RfOpen, Rf09A. -/
import Derived.Test.YtampniiehgimhaaGreatRows
import Derived.Test.YtampniiehgimhaaGreatBn15
import Derived.Test.YtampniiehgimhaaGreatBn14
import Derived.Test.YtampniiehgimhaaGreatBn4
import Derived.Test.YtampniiehgimhaaGreatBn9
import Derived.WalkKit
import Derived.WalkSpells
import Derived.WalkLawsBesides
import Derived.Deep.QuietTactic
import Derived.BigQuiet
import Derived.Laws.StructEq
import Derived.Deep.DeepFit
import Derived.StillTailTactics
import Derived.Test.YtampniiehgimhaaGreatBn16
import Derived.Test.YtampniiehgimhaaGreatBn18
import Derived.Test.YtampniiehgimhaaGreatBn19

/- ref05: Open -/
namespace Go.Proofs.YtampniiehgimhaaGreat
open Go.RowKit
theorem add_none_ (b o n : Nat) : (⟨b, o, none⟩ : Addr).add n = ⟨b, o + n, none⟩ := by
 unfold Addr.add
 split
 ·rename_i h
  subst h
  rfl
 ·rfl
theorem ins_lo {L : List Ac} (hS : SrtL ltA L) {k : ByteArray} {lim : Int} {q : Nat} (hq : q - 1 < L.length) (hnl : bless k L[q - 1].name = false) (hno : ∀ a ∈ L, a.name ≠ k) : ∀ j (h : j < L.length), j < q → ltA L[j] ⟨k, 0, 0, lim⟩ = true := by
 have h1 : ltA L[q - 1] ⟨k, 0, 0, lim⟩ = true := by
  rcases keyA.co L[q - 1] ⟨k, 0, 0, lim⟩ (hno _ (List.getElem_mem hq)) with h | h
  ·exact h
  ·exact absurd h (by show ¬ bless k L[q - 1].name = true; rw [hnl]; decide)
 intro j hj hjq
 rcases Nat.lt_or_ge j (q - 1) with h | h
 ·exact keyA.strict.trans _ _ _ (List.pairwise_iff_getElem.1 hS j (q - 1) hj hq h) h1
 ·obtain rfl : j = q - 1 := by omega
  exact h1
/-- a list of the call's own, put into the chart of block g -/
theorem rc_put {w u : World} {T : Nat → Prop} {g base : Nat} {L' : List Ac} {v V0 : Value} (hb0 : w.heap.size ≤ base) (HB : Below w.heap.size w u) (hlg : g < w.heap.size) (hT : ∀ k, w.heap.size ≤ k → T k)
  (hg : u.heap[g]? = some (.cells #[V0] 121 (0, 0))) (hO : Own u base 140 v L') (hok : ∀ x ∈ L', x.name.size ≤ maxLen) : RcIs (u.setCell ⟨g, 0, none⟩ v) T g L' ∧ w.grownBy (u.setCell ⟨g, 0, none⟩ v) (some g) := by
 have hg3 := heap_setCell_same u g 0 _ _ v hg
 have hgr := grown_setCell (World.grownBy.refl u (some g)) (p := ⟨g, 0, none⟩) (.inl rfl) v
 have hO3 := hO.grown hgr (by
  cases hv : v.ownBlock with
  | none => exact .inl rfl
  | some b =>
   right
   intro e
   injection e with e
   have := (hO.1.lt b hv).1
   omega) (fun x hx => hok x hx)
 obtain ⟨A, c, hv, hs, hf⟩ := hO3.slT (T := T) (fun k hk => hT k (Nat.le_trans hb0 hk)) hok
 refine ⟨⟨A, c, ?_, hs, hf⟩, grown_setCell (grown_of_below HB (some g)) (p := ⟨g, 0, none⟩) (.inl rfl) v⟩
 have e5 : (#[V0] : Array Value).setIfInBounds 0 v = #[.slice A L'.length c] := by rw [← hv]; rfl
 rw [e5] at hg3
 exact hg3
theorem ins_names {w : World} {S : Nat → Prop} {A : Option Addr} {c : Nat} {L : List Ac} (h : SlS w S A c L) {k : ByteArray} (hk : k.size ≤ maxLen) {lim : Int} {q : Nat} : ∀ x ∈ L.take q ++ [⟨k, 0, 0, lim⟩] ++ L.drop q, x.name.size ≤ maxLen := by
 intro x hx
 rcases List.mem_append.1 hx with hx | hx
 ·rcases List.mem_append.1 hx with hx | hx
  ·exact h.2.2.2 x (List.mem_of_mem_take hx)
  ·simp only [List.mem_singleton] at hx; subst hx; exact hk
 ·exact h.2.2.2 x (List.mem_of_mem_drop hx)
set_option maxRecDepth 100000 in
set_option maxHeartbeats 8000000 in
theorem ropen_c (T : Nat → Prop) (g : Nat) (L : List Ac) (k : ByteArray) (lim : Int) (w : World) (h : RcIs w T g L) (hL : L.length ≤ 65536) (hkl : k.size ≤ maxLen) (hS : SrtL ltA L) (hTn : ∀ k, w.heap.size ≤ k → T k) (hTg : ¬ T g) (h12 : L.length ≤ 12) :
  Calls Tryz.prog 62 #[.pointer (some ⟨g, 0, none⟩), .string k, i64 lim] w fun e w' => e = .returned (i64 (openL L k lim).1) ∧ RcIs w' T g (openL L k lim).2 ∧ w.grownBy w' (some g) := by
 have hlg := h.lt
 have hNm := Lib.hid fun W => rname_c k hkl W
 have HTn := Lib.hid hTn
 have HTg := Lib.hid hTg
 have HS := Lib.hid hS
 have Hkl := Lib.hid hkl
 obtain ⟨R, hR⟩ : ∃ R, openL L k lim = R := ⟨_, rfl⟩
 rw [hR]
 unfold openL at hR
 have HR := Lib.hid hR.symm
 clear hR hTn hTg hS hkl
 go_enter Tryz.func62, Tryz.ntmps62
 go_wp2_with fail
 refine (hNm.out _).mono ?_
 rintro e w1 ⟨rfl, hF⟩
 have h1 := h.later hF
 have HB1 := Lib.hid hF
 have hlg1 := Nat.lt_of_lt_of_le hlg hF.size
 have hs1 := hF.size
 clear hF hNm h
 by_cases hn : nameB k = false ∨ lim < 0
 ·have HR1 := Lib.hid (show R = (1, L) by rw [HR.out, if_pos hn])
  have H1 := Lib.hid h1
  clear HR
  cases hnb : nameB k with
  | false =>
   clear hn hnb
   go_wp2
   go_ret
   exact ⟨by rw [HR1.out]; rfl, by rw [HR1.out]; exact H1.out, grown_of_below HB1.out _⟩
  | true =>
   have g1 : decide (lim < 0) = true := decide_eq_true (hn.resolve_left (by rw [hnb]; decide))
   clear hn hnb
   go_wp2
   go_ret
   exact ⟨by rw [HR1.out]; rfl, by rw [HR1.out]; exact H1.out, grown_of_below HB1.out _⟩
 ·have HR1 := Lib.hid (show R = (if (getK Ac.name L k).isSome = true then (7, L) else if L.length = 12 then (5, L) else (0, insB ltA ⟨k, 0, 0, lim⟩ L)) by rw [HR.out, if_neg hn])
  have hnb : nameB k = true := by
   cases hb : nameB k with
   | true => rfl
   | false => exact absurd (.inl hb) hn
  have g1 : decide (lim < 0) = false := decide_eq_false (fun e => hn (.inr e))
  rw [hnb]
  have hA := Lib.hid (rat_c T g L k w1 h1 hL)
  have H1 := Lib.hid h1
  clear HR hn hnb
  rcases idxA_get (L := L) (k := k) with ⟨i1, i2⟩ | ⟨n, hn, i1, i2, i3⟩
  ·have HR2 := Lib.hid (show R = (if L.length = 12 then (5, L) else (0, insB ltA ⟨k, 0, 0, lim⟩ L)) by rw [HR1.out, i2, if_neg (by decide)])
   have g2 : decide ((0 : Int) ≤ idxA L k) = false := decide_eq_false (by omega)
   have Hno := Lib.hid (getK_none.1 i2)
   generalize idxA L k = ix at *
   clear HR1 i1 i2
   obtain ⟨A, c, hc, hs, hf⟩ := h1
   have c0 := cell_of_row _ g 0 _ _ (0, 0) hc
   simp only [List.getElem?_toArray, List.getElem?_cons_zero] at c0
   have Hc := Lib.hid hc
   have Hs := Lib.hid hs
   have hlc := hs.1
   clear hc hs
   go_wp2_with fail
   refine hA.out.mono ?_
   rintro e w2 ⟨rfl, rfl⟩
   clear hA
   by_cases h13 : L.length = 12
   ·have g3 : decide ((12 : Int) ≤ (L.length : Int)) = true := decide_eq_true (by omega)
    have HR3 := Lib.hid (show R = (5, L) by rw [HR2.out, if_pos h13])
    clear HR2
    go_wp2
    go_ret
    exact ⟨by rw [HR3.out]; rfl, by rw [HR3.out]; exact H1.out, grown_of_below HB1.out _⟩
   ·have g3 : decide ((12 : Int) ≤ (L.length : Int)) = false := decide_eq_false (by omega)
    have HR3 := Lib.hid (show R = (0, insB ltA ⟨k, 0, 0, lim⟩ L) by rw [HR2.out, if_neg h13])
    clear HR2 h13
    go_wp2_with fail
    go_loopw [7] (fun i wr => ∃ q : Nat, i = i64 q ∧ q ≤ L.length ∧ (∀ j (h : j < L.length), q ≤ j → bless k L[j].name = true) ∧ Below w1.heap.size w1 wr) (fun i _ => (intOf i).toNat)
    case atStart => exact ⟨L.length, rfl, Nat.le_refl _, fun j h1 h2 => by omega, Below.refl _ _⟩
    case round =>
     obtain ⟨q, rfl, hq, hup, hB⟩ := hrel
     have Hup := Lib.hid hup
     clear hup
     have c0r := (hB.cell (p := ⟨g, 0, none⟩) hlg1).trans c0
     rcases Nat.eq_zero_or_pos q with hq0 | hq0
     ·have g4 : decide ((0 : Int) < (q : Int)) = false := decide_eq_false (by omega)
      have g5 : decide (0 < q) = false := decide_eq_false (by omega)
      obtain ⟨wq, rfl⟩ : ∃ wq, wq = wr := ⟨_, rfl⟩
      rcases hf with ⟨rfl, rfl⟩ | ⟨b, o, rfl⟩
      ·have hL0 : L = [] := by
        rcases L with _ | ⟨a, r⟩
        ·rfl
        ·simp at hlc
       subst hL0
       subst hq0
       go_wp2_with fail
       have HI := Lib.hid (insB_at keyA.strict ⟨k, 0, 0, lim⟩ ([] : List Ac) 0 HS.out (by omega) (fun j h _ => absurd h (by simp)) (fun j h _ => absurd h (by simp)))
       have HBq := Lib.hid (below_on HB1.out (Nat.le_refl _) hB)
       have hcq := Lib.hid ((hB.block _ hlg1).trans Hc.out)
       have hlgq := Nat.lt_of_lt_of_le hlg1 hB.size
       have c0q := (hB.cell (p := ⟨g, 0, none⟩) hlg1).trans c0
       have hsq := Lib.hid (Hs.out.below_ hB)
       have hTk := Lib.hid (fun (V : World) (h : Below wq.heap.size wq V) => (show SlS V (Oth V (.slice none 0 0)) none 0 (([] : List Ac).take 0) from ((hsq.out.below_ h).take 0).keep (fun _ _ => rfl) (fun b hb => ⟨hb.1, by simp [Value.ownBlock]⟩)))
       have hDr := Lib.hid (fun (V : World) (h : Below wq.heap.size wq V) => (show Sl V wq.heap.size none (0 - 0) (([] : List Ac).drop 0) from ((hsq.out.mono (fun b hb => hb.1)).drop (by omega)).below h))
       have Hql := Lib.hid (show 0 = (([] : List Ac).take 0).length by rw [List.length_take]; omega)
       have q1 : ((0 : Nat) : Int) ≤ (0 : Int) := by omega
       have q2 : ((0 : Nat) : Int) ≤ (([] : List Ac).length : Int) := by omega
       have q3 : (([] : List Ac).length : Int) ≤ (0 : Int) := by omega
       have q0 : (0 : Int) ≤ ((0 : Nat) : Int) := by omega
       clear hB c0
       have hb : Below wq.heap.size wq wq.drew := (Below.refl _ _).drew
       refine wp_region_noPanic ?_
       refine wp_region_l 22 (fun V => V.cell? ⟨g, 0, none⟩ = some (.slice none 0 0)) (by kernel_rfl) ((hb.cell (p := ⟨g, 0, none⟩) hlgq).trans c0q) (fun hH => ?_)
       refine tkY 0 (v := ?v1) ?y1 ?r1
       case y1 => (intro W hW; go_simp; try with_reducible rfl)
       try simp only [List.set]
       refine tkY 1 (v := ?v2) ?y2 ?r2
       case y2 => (intro W hW; go_simp; try with_reducible rfl)
       try simp only [List.set]
       refine tkY 2 (v := ?v3) ?y3 ?r3
       case y3 => (intro W hW; go_simp; try with_reducible rfl)
       try simp only [List.set]
       refine tkY 3 (v := ?v4) ?y4 ?r4
       case y4 => (intro W hW; go_simp; try with_reducible rfl)
       try simp only [List.set]
       refine tkY 4 (v := ?v5) ?y5 ?r5
       case y5 => (intro W hW; go_simp; try with_reducible rfl)
       try simp only [List.set]
       refine tkY 5 (v := ?v6) ?y6 ?r6
       case y6 => (intro W hW; go_simp; try with_reducible rfl)
       try simp only [List.set]
       refine tkY 6 (v := ?v7) ?y7 ?r7
       case y7 => (intro W hW; go_simp; try with_reducible rfl)
       try simp only [List.set]
       refine tkY 8 (v := ?v8) ?y8 ?r8
       case y8 => (intro W hW; go_simp; try with_reducible rfl)
       try simp only [List.set]
       refine tkY 9 (v := ?v9) ?y9 ?r9
       case y9 => (intro W hW; go_simp; try with_reducible rfl)
       try simp only [List.set]
       refine tkY 10 (v := ?v10) ?y10 ?r10
       case y10 => (intro W hW; go_simp; try with_reducible rfl)
       try simp only [List.set]
       refine tkY 13 (v := ?v11) ?y11 ?r11
       case y11 => (intro W hW; go_simp; try with_reducible rfl)
       try simp only [List.set]
       refine tkY 14 (v := ?v12) ?y12 ?r12
       case y12 => (intro W hW; go_simp; try with_reducible rfl)
       try simp only [List.set]
       refine tkY 15 (v := ?v13) ?y13 ?r13
       case y13 => (intro W hW; go_simp; try with_reducible rfl)
       try simp only [List.set]
       refine tkY 16 (v := ?v14) ?y14 ?r14
       case y14 => (intro W hW; go_simp; try with_reducible rfl)
       try simp only [List.set]
       refine tkY 17 (v := ?v15) ?y15 ?r15
       case y15 => (intro W hW; go_simp; try with_reducible rfl)
       try simp only [List.set]
       refine tkY 18 (v := ?v16) ?y16 ?r16
       case y16 => (intro W hW; go_simp; try with_reducible rfl)
       try simp only [List.set]
       refine wpAnyL_ready (rs := [7, 11]) (by kernel_rfl) (by simp) ?_
       refine AllReadyL.cons rfl (fun K hK => ?_) ?_
       ·skip
        rw [if_pos (by rfl)]
        refine oper_append (.const (.slice none 0 0)) (.tmp 53) 109 rfl (.agg #[.string ByteArray.empty, i64 0, i64 0, i64 0]) 40 Tryz.underlying109 acInfo rfl (by decide) (by decide) rfl (Own.nil_ _ wq.heap.size 140) none 0 0 (([] : List Ac).take 0) rfl Hql.out (hTk.out _ hb) (by simp <;> omega) hb.size ?_
        intro v1 u1 hO1 hg1 hat1
        rw [List.nil_append] at hO1
        have hF := (Own.nil_ (α := Ac) _ _ 140).below hg1 (Nat.le_refl _) (Nat.le_refl _)
        have hb := below_on hb (Nat.le_refl _) hF
        have HO1 := Lib.hid hO1
        clear hF hg1 hat1 hO1
        refine hK.out _ _ ((hb.cell (p := ⟨g, 0, none⟩) hlgq).trans c0q) (fun hH => ?_)
        clear hK K
        try simp only [Act.put, List.getElem_toArray, List.getElem_cons_zero, List.getElem_cons_succ, List.setIfInBounds_toArray, List.set_cons_zero, List.set_cons_succ]
        refine wpAnyL_one (i := 11) (by kernel_rfl) rfl (by decide) (fun K hK => ?_)
        go_simp
        have hgl : (u1.alloc (.cells #[.string k, i64 0, i64 0, i64 lim] 140)).heap[u1.heap.size]? = some (.cells #[.string k, i64 0, i64 0, i64 lim] 140 (0, 0)) := heap_alloc_new u1 _
        have hne1 := HO1.out.new_ne (Nat.le_refl u1.heap.size)
        have HO1 := Lib.hid (HO1.out.later ((Below.refl _ _).alloc (Nat.le_refl _) (.cells #[.string k, i64 0, i64 0, i64 lim] 140)))
        have hb := hb.alloc hb.size (.cells #[.string k, i64 0, i64 0, i64 lim] 140)
        refine hK.out _ _ ((hb.cell (p := ⟨g, 0, none⟩) hlgq).trans c0q) (fun hH => ?_)
        clear hK K
        try simp only [Act.put, List.getElem_toArray, List.getElem_cons_zero, List.getElem_cons_succ, List.setIfInBounds_toArray, List.set_cons_zero, List.set_cons_succ]
        refine wpAnyL_one (i := 12) (by kernel_rfl) rfl (by decide) (fun K hK => ?_)
        rw [if_pos (by rfl)]
        refine oper_append_one (.tmp 54) (.tmp 58) 109 rfl (.agg #[.string ByteArray.empty, i64 0, i64 0, i64 0]) 40 Tryz.underlying109 acInfo rfl (by decide) (by decide) rfl HO1.out u1.heap.size (⟨k, 0, 0, lim⟩ : Ac) (by rfl) _ 140 hgl rfl hne1 Hkl.out (by rw [← Hql.out]; omega) hb.size ?_
        intro v2 u2 hO2 hg2 hat2
        have hb := hb.trans (HO1.out.below hg2 (Nat.le_refl _) hb.size)
        have HO2 := Lib.hid hO2
        clear hg2 hat2 hO2 HO1 hgl hne1
        refine hK.out _ _ ((hb.cell (p := ⟨g, 0, none⟩) hlgq).trans c0q) (fun hH => ?_)
        clear hK K
        try simp only [Act.put, List.getElem_toArray, List.getElem_cons_zero, List.getElem_cons_succ, List.setIfInBounds_toArray, List.set_cons_zero, List.set_cons_succ]
        refine wpAnyL_one (i := 19) (by kernel_rfl) rfl (by decide) (fun K hK => ?_)
        rw [if_pos (by rfl)]
        refine oper_append (.tmp 59) (.tmp 65) 109 rfl (.agg #[.string ByteArray.empty, i64 0, i64 0, i64 0]) 40 Tryz.underlying109 acInfo rfl (by decide) (by decide) rfl HO2.out _ _ _ (([] : List Ac).drop 0) rfl (by simp) ((hDr.out _ hb).mono (HO2.out.oth (Nat.le_refl _) hb.size)) (by simp <;> omega) hb.size ?_
        intro v3 u3 hO3 hg3 hat3
        obtain ⟨A3, cap3, hv3, -⟩ := hO3.sl
        generalize List.length _ = n3 at hv3
        subst hv3
        have hb := hb.trans (HO2.out.below hg3 (Nat.le_refl _) hb.size)
        have HO3 := Lib.hid hO3
        clear hg3 hat3 hO3 HO2
        refine hK.out _ _ ((hb.cell (p := ⟨g, 0, none⟩) hlgq).trans c0q) (fun hH => ?_)
        clear hK K
        try simp only [Act.put, List.getElem_toArray, List.getElem_cons_zero, List.getElem_cons_succ, List.setIfInBounds_toArray, List.set_cons_zero, List.set_cons_succ]
        refine tkY 20 (v := ?v17) ?y17 ?r17
        case y17 => (intro W hW; go_simp; try with_reducible rfl)
        try simp only [List.set]
        refine tkY 21 (v := ?v18) ?y18 ?r18
        case y18 => (intro W hW; go_simp; try with_reducible rfl)
        try simp only [List.set]
        refine wpAnyL_last (by kernel_rfl) rfl (fun K hK => ?_)
        have c3 := (hb.cell (p := ⟨g, 0, none⟩) hlgq).trans c0q
        have hg3 := Lib.hid ((hb.block _ hlgq).trans hcq.out)
        have f3 := frozen_of_row _ g 0 _ _ hg3.out
        go_simp
        refine hK.out _ _ ?_
        clear hK K
        try simp only [Act.put, List.getElem_toArray, List.getElem_cons_zero, List.getElem_cons_succ, List.setIfInBounds_toArray, List.set_cons_zero, List.set_cons_succ]
        refine wpAnyL_done (by kernel_rfl) ?_ _
        refine NoPanic.normal ?_
        have hD := rc_put HBq.out.size (HBq.out.trans (hb.mono HBq.out.size)) hlg HTn.out hg3.out HO3.out (ins_names Hs.out Hkl.out)
        have HD := Lib.hid hD
        clear hD
        go_wp2
        all_goals (go_ret; exact ⟨by rw [HR3.out]; rfl, by rw [HR3.out, HI.out, List.append_cons]; exact HD.out.1, HD.out.2⟩)
       refine AllReadyL.cons rfl (fun K hK => ?_) ?_
       ·skip
        go_simp
        obtain ⟨gl, hgl, hgl2⟩ : ∃ gl, gl = wq.heap.size ∧ (wq.drew.alloc (.cells #[.string k, i64 0, i64 0, i64 lim] 140)).heap[gl]? = some (.cells #[.string k, i64 0, i64 0, i64 lim] 140 (0, 0)) := ⟨_, rfl, heap_alloc_new wq.drew _⟩
        have Hgl := Lib.hid hgl
        clear hgl
        have hgl := hgl2
        clear hgl2
        have hb := hb.alloc hb.size (.cells #[.string k, i64 0, i64 0, i64 lim] 140)
        refine hK.out _ _ ((hb.cell (p := ⟨g, 0, none⟩) hlgq).trans c0q) (fun hH => ?_)
        clear hK K
        try simp only [Act.put, List.getElem_toArray, List.getElem_cons_zero, List.getElem_cons_succ, List.setIfInBounds_toArray, List.set_cons_zero, List.set_cons_succ]
        refine wpAnyL_one (i := 7) (by kernel_rfl) rfl (by decide) (fun K hK => ?_)
        rw [if_pos (by rfl)]
        refine oper_append (.const (.slice none 0 0)) (.tmp 53) 109 rfl (.agg #[.string ByteArray.empty, i64 0, i64 0, i64 0]) 40 Tryz.underlying109 acInfo rfl (by decide) (by decide) rfl (Own.nil_ _ wq.heap.size 140) none 0 0 (([] : List Ac).take 0) rfl Hql.out (hTk.out _ hb) (by simp <;> omega) hb.size ?_
        intro v1 u1 hO1 hg1 hat1
        rw [List.nil_append] at hO1
        have hF := (Own.nil_ (α := Ac) _ _ 140).below hg1 (Nat.le_refl _) (Nat.le_refl _)
        have hne1 : some gl ≠ v1.ownBlock := by
         rcases hat1 with h | h
         ·have h2 : v1.ownBlock = none := h
          rw [h2]; simp
         ·have h2 : v1.ownBlock = some (wq.heap.size + 1) := by rw [h]; simp
          rw [h2, Hgl.out]; intro e; injection e with e; omega
        have hgl := (hF.block _ (Array.getElem?_eq_some_iff.1 hgl).1).trans hgl
        have hb := below_on hb (Nat.le_refl _) hF
        have HO1 := Lib.hid hO1
        clear hF hg1 hat1 hO1
        refine hK.out _ _ ((hb.cell (p := ⟨g, 0, none⟩) hlgq).trans c0q) (fun hH => ?_)
        clear hK K
        try simp only [Act.put, List.getElem_toArray, List.getElem_cons_zero, List.getElem_cons_succ, List.setIfInBounds_toArray, List.set_cons_zero, List.set_cons_succ]
        refine wpAnyL_one (i := 12) (by kernel_rfl) rfl (by decide) (fun K hK => ?_)
        rw [if_pos (by rfl)]
        refine oper_append_one (.tmp 54) (.tmp 58) 109 rfl (.agg #[.string ByteArray.empty, i64 0, i64 0, i64 0]) 40 Tryz.underlying109 acInfo rfl (by decide) (by decide) rfl HO1.out gl (⟨k, 0, 0, lim⟩ : Ac) (by rw [Hgl.out]; rfl) _ 140 hgl rfl hne1 Hkl.out (by rw [← Hql.out]; omega) hb.size ?_
        intro v2 u2 hO2 hg2 hat2
        have hb := hb.trans (HO1.out.below hg2 (Nat.le_refl _) hb.size)
        have HO2 := Lib.hid hO2
        clear hg2 hat2 hO2 HO1 hgl hne1
        refine hK.out _ _ ((hb.cell (p := ⟨g, 0, none⟩) hlgq).trans c0q) (fun hH => ?_)
        clear hK K
        try simp only [Act.put, List.getElem_toArray, List.getElem_cons_zero, List.getElem_cons_succ, List.setIfInBounds_toArray, List.set_cons_zero, List.set_cons_succ]
        refine wpAnyL_one (i := 19) (by kernel_rfl) rfl (by decide) (fun K hK => ?_)
        rw [if_pos (by rfl)]
        refine oper_append (.tmp 59) (.tmp 65) 109 rfl (.agg #[.string ByteArray.empty, i64 0, i64 0, i64 0]) 40 Tryz.underlying109 acInfo rfl (by decide) (by decide) rfl HO2.out _ _ _ (([] : List Ac).drop 0) rfl (by simp) ((hDr.out _ hb).mono (HO2.out.oth (Nat.le_refl _) hb.size)) (by simp <;> omega) hb.size ?_
        intro v3 u3 hO3 hg3 hat3
        obtain ⟨A3, cap3, hv3, -⟩ := hO3.sl
        generalize List.length _ = n3 at hv3
        subst hv3
        have hb := hb.trans (HO2.out.below hg3 (Nat.le_refl _) hb.size)
        have HO3 := Lib.hid hO3
        clear hg3 hat3 hO3 HO2
        refine hK.out _ _ ((hb.cell (p := ⟨g, 0, none⟩) hlgq).trans c0q) (fun hH => ?_)
        clear hK K
        try simp only [Act.put, List.getElem_toArray, List.getElem_cons_zero, List.getElem_cons_succ, List.setIfInBounds_toArray, List.set_cons_zero, List.set_cons_succ]
        refine tkY 20 (v := ?v19) ?y19 ?r19
        case y19 => (intro W hW; go_simp; try with_reducible rfl)
        try simp only [List.set]
        refine tkY 21 (v := ?v20) ?y20 ?r20
        case y20 => (intro W hW; go_simp; try with_reducible rfl)
        try simp only [List.set]
        refine wpAnyL_last (by kernel_rfl) rfl (fun K hK => ?_)
        have c3 := (hb.cell (p := ⟨g, 0, none⟩) hlgq).trans c0q
        have hg3 := Lib.hid ((hb.block _ hlgq).trans hcq.out)
        have f3 := frozen_of_row _ g 0 _ _ hg3.out
        go_simp
        refine hK.out _ _ ?_
        clear hK K
        try simp only [Act.put, List.getElem_toArray, List.getElem_cons_zero, List.getElem_cons_succ, List.setIfInBounds_toArray, List.set_cons_zero, List.set_cons_succ]
        refine wpAnyL_done (by kernel_rfl) ?_ _
        refine NoPanic.normal ?_
        have hD := rc_put HBq.out.size (HBq.out.trans (hb.mono HBq.out.size)) hlg HTn.out hg3.out HO3.out (ins_names Hs.out Hkl.out)
        have HD := Lib.hid hD
        clear hD
        go_wp2
        all_goals (go_ret; exact ⟨by rw [HR3.out]; rfl, by rw [HR3.out, HI.out, List.append_cons]; exact HD.out.1, HD.out.2⟩)
       exact AllReadyL.nil
      ·have Hq0 := Lib.hid hq0
       clear hq0
       go_wp2_with fail
       have HI := Lib.hid (insB_at keyA.strict ⟨k, 0, 0, lim⟩ L q HS.out (by omega) (fun j h hj => absurd hj (by have := Hq0.out; omega)) (fun j h hj => keyA.strict.asymm (show ltA ⟨k, 0, 0, lim⟩ L[j] = true from Hup.out j h hj)))
       have HBq := Lib.hid (below_on HB1.out (Nat.le_refl _) hB)
       have hcq := Lib.hid ((hB.block _ hlg1).trans Hc.out)
       have hlgq := Nat.lt_of_lt_of_le hlg1 hB.size
       have c0q := (hB.cell (p := ⟨g, 0, none⟩) hlg1).trans c0
       have hsq := Lib.hid (Hs.out.below_ hB)
       have hTk := Lib.hid (fun (V : World) (h : Below wq.heap.size wq V) => (show SlS V (Oth V (.slice none 0 0)) (some ⟨b, o, none⟩) c (L.take q) from ((hsq.out.below_ h).take q).keep (fun _ _ => rfl) (fun b hb => ⟨hb.1, by simp [Value.ownBlock]⟩)))
       have hDr := Lib.hid (fun (V : World) (h : Below wq.heap.size wq V) => (show Sl V wq.heap.size (if c = q then some ⟨b, o, none⟩ else some ⟨b, o + q * 4, none⟩) (c - q) (L.drop q) from by
          have := ((hsq.out.mono (fun b hb => hb.1)).drop (k := q) (by omega)).below h
          rwa [Option.map_some, show (⟨b, o, none⟩ : Addr).add (q * Enc.size Ac) = ⟨b, o + q * 4, none⟩ from add_none_ ..] at this))
       have Hql := Lib.hid (show q = (L.take q).length by rw [List.length_take]; omega)
       have q1 : ((q : Nat) : Int) ≤ (c : Int) := by omega
       have q2 : ((q : Nat) : Int) ≤ (@L.length : Int) := by omega
       have q3 : (@L.length : Int) ≤ (c : Int) := by omega
       have q0 : (0 : Int) ≤ ((q : Nat) : Int) := by omega
       clear hB c0
       have hb : Below wq.heap.size wq wq.drew := (Below.refl _ _).drew
       refine wp_region_noPanic ?_
       refine wp_region_l 22 (fun V => V.cell? ⟨g, 0, none⟩ = some (.slice (some ⟨b, o, none⟩) L.length c)) (by kernel_rfl) ((hb.cell (p := ⟨g, 0, none⟩) hlgq).trans c0q) (fun hH => ?_)
       refine tkY 0 (v := ?v21) ?y21 ?r21
       case y21 => (intro W hW; go_simp; try with_reducible rfl)
       try simp only [List.set]
       refine tkY 1 (v := ?v22) ?y22 ?r22
       case y22 => (intro W hW; go_simp; try with_reducible rfl)
       try simp only [List.set]
       refine tkY 2 (v := ?v23) ?y23 ?r23
       case y23 => (intro W hW; go_simp; try with_reducible rfl)
       try simp only [List.set]
       refine tkY 3 (v := ?v24) ?y24 ?r24
       case y24 => (intro W hW; go_simp; try with_reducible rfl)
       try simp only [List.set]
       refine tkY 4 (v := ?v25) ?y25 ?r25
       case y25 => (intro W hW; go_simp; try with_reducible rfl)
       try simp only [List.set]
       refine tkY 5 (v := ?v26) ?y26 ?r26
       case y26 => (intro W hW; go_simp; try with_reducible rfl)
       try simp only [List.set]
       refine tkY 6 (v := ?v27) ?y27 ?r27
       case y27 => (intro W hW; go_simp; try with_reducible rfl)
       try simp only [List.set]
       refine tkY 8 (v := ?v28) ?y28 ?r28
       case y28 => (intro W hW; go_simp; try with_reducible rfl)
       try simp only [List.set]
       refine tkY 9 (v := ?v29) ?y29 ?r29
       case y29 => (intro W hW; go_simp; try with_reducible rfl)
       try simp only [List.set]
       refine tkY 10 (v := ?v30) ?y30 ?r30
       case y30 => (intro W hW; go_simp; try with_reducible rfl)
       try simp only [List.set]
       refine tkY 13 (v := ?v31) ?y31 ?r31
       case y31 => (intro W hW; go_simp; try with_reducible rfl)
       try simp only [List.set]
       refine tkY 14 (v := ?v32) ?y32 ?r32
       case y32 => (intro W hW; go_simp; try with_reducible rfl)
       try simp only [List.set]
       refine tkY 15 (v := ?v33) ?y33 ?r33
       case y33 => (intro W hW; go_simp; try with_reducible rfl)
       try simp only [List.set]
       refine tkY 16 (v := ?v34) ?y34 ?r34
       case y34 => (intro W hW; go_simp; try with_reducible rfl)
       try simp only [List.set]
       refine tkY 17 (v := ?v35) ?y35 ?r35
       case y35 => (intro W hW; go_simp; try with_reducible rfl)
       try simp only [List.set]
       refine tkY 18 (v := ?v36) ?y36 ?r36
       case y36 => (intro W hW; go_simp; try with_reducible rfl)
       try simp only [List.set]
       refine wpAnyL_ready (rs := [7, 11]) (by kernel_rfl) (by simp) ?_
       refine AllReadyL.cons rfl (fun K hK => ?_) ?_
       ·skip
        rw [if_pos (by rfl)]
        refine oper_append (.const (.slice none 0 0)) (.tmp 53) 109 rfl (.agg #[.string ByteArray.empty, i64 0, i64 0, i64 0]) 40 Tryz.underlying109 acInfo rfl (by decide) (by decide) rfl (Own.nil_ _ wq.heap.size 140) (some ⟨b, o, none⟩) q c (L.take q) rfl Hql.out (hTk.out _ hb) (by simp <;> omega) hb.size ?_
        intro v1 u1 hO1 hg1 hat1
        rw [List.nil_append] at hO1
        have hF := (Own.nil_ (α := Ac) _ _ 140).below hg1 (Nat.le_refl _) (Nat.le_refl _)
        have hb := below_on hb (Nat.le_refl _) hF
        have HO1 := Lib.hid hO1
        clear hF hg1 hat1 hO1
        refine hK.out _ _ ((hb.cell (p := ⟨g, 0, none⟩) hlgq).trans c0q) (fun hH => ?_)
        clear hK K
        try simp only [Act.put, List.getElem_toArray, List.getElem_cons_zero, List.getElem_cons_succ, List.setIfInBounds_toArray, List.set_cons_zero, List.set_cons_succ]
        refine wpAnyL_one (i := 11) (by kernel_rfl) rfl (by decide) (fun K hK => ?_)
        go_simp
        have hgl : (u1.alloc (.cells #[.string k, i64 0, i64 0, i64 lim] 140)).heap[u1.heap.size]? = some (.cells #[.string k, i64 0, i64 0, i64 lim] 140 (0, 0)) := heap_alloc_new u1 _
        have hne1 := HO1.out.new_ne (Nat.le_refl u1.heap.size)
        have HO1 := Lib.hid (HO1.out.later ((Below.refl _ _).alloc (Nat.le_refl _) (.cells #[.string k, i64 0, i64 0, i64 lim] 140)))
        have hb := hb.alloc hb.size (.cells #[.string k, i64 0, i64 0, i64 lim] 140)
        refine hK.out _ _ ((hb.cell (p := ⟨g, 0, none⟩) hlgq).trans c0q) (fun hH => ?_)
        clear hK K
        try simp only [Act.put, List.getElem_toArray, List.getElem_cons_zero, List.getElem_cons_succ, List.setIfInBounds_toArray, List.set_cons_zero, List.set_cons_succ]
        refine wpAnyL_one (i := 12) (by kernel_rfl) rfl (by decide) (fun K hK => ?_)
        rw [if_pos (by rfl)]
        refine oper_append_one (.tmp 54) (.tmp 58) 109 rfl (.agg #[.string ByteArray.empty, i64 0, i64 0, i64 0]) 40 Tryz.underlying109 acInfo rfl (by decide) (by decide) rfl HO1.out u1.heap.size (⟨k, 0, 0, lim⟩ : Ac) (by rfl) _ 140 hgl rfl hne1 Hkl.out (by rw [← Hql.out]; omega) hb.size ?_
        intro v2 u2 hO2 hg2 hat2
        have hb := hb.trans (HO1.out.below hg2 (Nat.le_refl _) hb.size)
        have HO2 := Lib.hid hO2
        clear hg2 hat2 hO2 HO1 hgl hne1
        refine hK.out _ _ ((hb.cell (p := ⟨g, 0, none⟩) hlgq).trans c0q) (fun hH => ?_)
        clear hK K
        try simp only [Act.put, List.getElem_toArray, List.getElem_cons_zero, List.getElem_cons_succ, List.setIfInBounds_toArray, List.set_cons_zero, List.set_cons_succ]
        refine wpAnyL_one (i := 19) (by kernel_rfl) rfl (by decide) (fun K hK => ?_)
        rw [if_pos (by rfl)]
        refine oper_append (.tmp 59) (.tmp 65) 109 rfl (.agg #[.string ByteArray.empty, i64 0, i64 0, i64 0]) 40 Tryz.underlying109 acInfo rfl (by decide) (by decide) rfl HO2.out _ _ _ (L.drop q) rfl (by simp) ((hDr.out _ hb).mono (HO2.out.oth (Nat.le_refl _) hb.size)) (by simp <;> omega) hb.size ?_
        intro v3 u3 hO3 hg3 hat3
        obtain ⟨A3, cap3, hv3, -⟩ := hO3.sl
        generalize List.length _ = n3 at hv3
        subst hv3
        have hb := hb.trans (HO2.out.below hg3 (Nat.le_refl _) hb.size)
        have HO3 := Lib.hid hO3
        clear hg3 hat3 hO3 HO2
        refine hK.out _ _ ((hb.cell (p := ⟨g, 0, none⟩) hlgq).trans c0q) (fun hH => ?_)
        clear hK K
        try simp only [Act.put, List.getElem_toArray, List.getElem_cons_zero, List.getElem_cons_succ, List.setIfInBounds_toArray, List.set_cons_zero, List.set_cons_succ]
        refine tkY 20 (v := ?v37) ?y37 ?r37
        case y37 => (intro W hW; go_simp; try with_reducible rfl)
        try simp only [List.set]
        refine tkY 21 (v := ?v38) ?y38 ?r38
        case y38 => (intro W hW; go_simp; try with_reducible rfl)
        try simp only [List.set]
        refine wpAnyL_last (by kernel_rfl) rfl (fun K hK => ?_)
        have c3 := (hb.cell (p := ⟨g, 0, none⟩) hlgq).trans c0q
        have hg3 := Lib.hid ((hb.block _ hlgq).trans hcq.out)
        have f3 := frozen_of_row _ g 0 _ _ hg3.out
        go_simp
        refine hK.out _ _ ?_
        clear hK K
        try simp only [Act.put, List.getElem_toArray, List.getElem_cons_zero, List.getElem_cons_succ, List.setIfInBounds_toArray, List.set_cons_zero, List.set_cons_succ]
        refine wpAnyL_done (by kernel_rfl) ?_ _
        refine NoPanic.normal ?_
        have hD := rc_put HBq.out.size (HBq.out.trans (hb.mono HBq.out.size)) hlg HTn.out hg3.out HO3.out (ins_names Hs.out Hkl.out)
        have HD := Lib.hid hD
        clear hD
        go_wp2
        all_goals (go_ret; exact ⟨by rw [HR3.out]; rfl, by rw [HR3.out, HI.out, List.append_cons]; exact HD.out.1, HD.out.2⟩)
       refine AllReadyL.cons rfl (fun K hK => ?_) ?_
       ·skip
        go_simp
        obtain ⟨gl, hgl, hgl2⟩ : ∃ gl, gl = wq.heap.size ∧ (wq.drew.alloc (.cells #[.string k, i64 0, i64 0, i64 lim] 140)).heap[gl]? = some (.cells #[.string k, i64 0, i64 0, i64 lim] 140 (0, 0)) := ⟨_, rfl, heap_alloc_new wq.drew _⟩
        have Hgl := Lib.hid hgl
        clear hgl
        have hgl := hgl2
        clear hgl2
        have hb := hb.alloc hb.size (.cells #[.string k, i64 0, i64 0, i64 lim] 140)
        refine hK.out _ _ ((hb.cell (p := ⟨g, 0, none⟩) hlgq).trans c0q) (fun hH => ?_)
        clear hK K
        try simp only [Act.put, List.getElem_toArray, List.getElem_cons_zero, List.getElem_cons_succ, List.setIfInBounds_toArray, List.set_cons_zero, List.set_cons_succ]
        refine wpAnyL_one (i := 7) (by kernel_rfl) rfl (by decide) (fun K hK => ?_)
        rw [if_pos (by rfl)]
        refine oper_append (.const (.slice none 0 0)) (.tmp 53) 109 rfl (.agg #[.string ByteArray.empty, i64 0, i64 0, i64 0]) 40 Tryz.underlying109 acInfo rfl (by decide) (by decide) rfl (Own.nil_ _ wq.heap.size 140) (some ⟨b, o, none⟩) q c (L.take q) rfl Hql.out (hTk.out _ hb) (by simp <;> omega) hb.size ?_
        intro v1 u1 hO1 hg1 hat1
        rw [List.nil_append] at hO1
        have hF := (Own.nil_ (α := Ac) _ _ 140).below hg1 (Nat.le_refl _) (Nat.le_refl _)
        have hne1 : some gl ≠ v1.ownBlock := by
         rcases hat1 with h | h
         ·have h2 : v1.ownBlock = none := h
          rw [h2]; simp
         ·have h2 : v1.ownBlock = some (wq.heap.size + 1) := by rw [h]; simp
          rw [h2, Hgl.out]; intro e; injection e with e; omega
        have hgl := (hF.block _ (Array.getElem?_eq_some_iff.1 hgl).1).trans hgl
        have hb := below_on hb (Nat.le_refl _) hF
        have HO1 := Lib.hid hO1
        clear hF hg1 hat1 hO1
        refine hK.out _ _ ((hb.cell (p := ⟨g, 0, none⟩) hlgq).trans c0q) (fun hH => ?_)
        clear hK K
        try simp only [Act.put, List.getElem_toArray, List.getElem_cons_zero, List.getElem_cons_succ, List.setIfInBounds_toArray, List.set_cons_zero, List.set_cons_succ]
        refine wpAnyL_one (i := 12) (by kernel_rfl) rfl (by decide) (fun K hK => ?_)
        rw [if_pos (by rfl)]
        refine oper_append_one (.tmp 54) (.tmp 58) 109 rfl (.agg #[.string ByteArray.empty, i64 0, i64 0, i64 0]) 40 Tryz.underlying109 acInfo rfl (by decide) (by decide) rfl HO1.out gl (⟨k, 0, 0, lim⟩ : Ac) (by rw [Hgl.out]; rfl) _ 140 hgl rfl hne1 Hkl.out (by rw [← Hql.out]; omega) hb.size ?_
        intro v2 u2 hO2 hg2 hat2
        have hb := hb.trans (HO1.out.below hg2 (Nat.le_refl _) hb.size)
        have HO2 := Lib.hid hO2
        clear hg2 hat2 hO2 HO1 hgl hne1
        refine hK.out _ _ ((hb.cell (p := ⟨g, 0, none⟩) hlgq).trans c0q) (fun hH => ?_)
        clear hK K
        try simp only [Act.put, List.getElem_toArray, List.getElem_cons_zero, List.getElem_cons_succ, List.setIfInBounds_toArray, List.set_cons_zero, List.set_cons_succ]
        refine wpAnyL_one (i := 19) (by kernel_rfl) rfl (by decide) (fun K hK => ?_)
        rw [if_pos (by rfl)]
        refine oper_append (.tmp 59) (.tmp 65) 109 rfl (.agg #[.string ByteArray.empty, i64 0, i64 0, i64 0]) 40 Tryz.underlying109 acInfo rfl (by decide) (by decide) rfl HO2.out _ _ _ (L.drop q) rfl (by simp) ((hDr.out _ hb).mono (HO2.out.oth (Nat.le_refl _) hb.size)) (by simp <;> omega) hb.size ?_
        intro v3 u3 hO3 hg3 hat3
        obtain ⟨A3, cap3, hv3, -⟩ := hO3.sl
        generalize List.length _ = n3 at hv3
        subst hv3
        have hb := hb.trans (HO2.out.below hg3 (Nat.le_refl _) hb.size)
        have HO3 := Lib.hid hO3
        clear hg3 hat3 hO3 HO2
        refine hK.out _ _ ((hb.cell (p := ⟨g, 0, none⟩) hlgq).trans c0q) (fun hH => ?_)
        clear hK K
        try simp only [Act.put, List.getElem_toArray, List.getElem_cons_zero, List.getElem_cons_succ, List.setIfInBounds_toArray, List.set_cons_zero, List.set_cons_succ]
        refine tkY 20 (v := ?v39) ?y39 ?r39
        case y39 => (intro W hW; go_simp; try with_reducible rfl)
        try simp only [List.set]
        refine tkY 21 (v := ?v40) ?y40 ?r40
        case y40 => (intro W hW; go_simp; try with_reducible rfl)
        try simp only [List.set]
        refine wpAnyL_last (by kernel_rfl) rfl (fun K hK => ?_)
        have c3 := (hb.cell (p := ⟨g, 0, none⟩) hlgq).trans c0q
        have hg3 := Lib.hid ((hb.block _ hlgq).trans hcq.out)
        have f3 := frozen_of_row _ g 0 _ _ hg3.out
        go_simp
        refine hK.out _ _ ?_
        clear hK K
        try simp only [Act.put, List.getElem_toArray, List.getElem_cons_zero, List.getElem_cons_succ, List.setIfInBounds_toArray, List.set_cons_zero, List.set_cons_succ]
        refine wpAnyL_done (by kernel_rfl) ?_ _
        refine NoPanic.normal ?_
        have hD := rc_put HBq.out.size (HBq.out.trans (hb.mono HBq.out.size)) hlg HTn.out hg3.out HO3.out (ins_names Hs.out Hkl.out)
        have HD := Lib.hid hD
        clear hD
        go_wp2
        all_goals (go_ret; exact ⟨by rw [HR3.out]; rfl, by rw [HR3.out, HI.out, List.append_cons]; exact HD.out.1, HD.out.2⟩)
       exact AllReadyL.nil
     ·have g4 : decide ((0 : Int) < (q : Int)) = true := decide_eq_true (by omega)
      have hq1 : q - 1 < L.length := by omega
      obtain ⟨b, o, rfl, hb, hsz, d0, _⟩ := (Hs.out.below_ hB).ac hq1
      have hRa := Lib.hid fun W => rahead_c k L[q - 1].name Hkl.out hsz W
      have e1 : IntKind.i64.wrap ((q : Int) - 1) = ((q - 1 : Nat) : Int) := by rw [IntKind.wrap_i64]; omega
      have i0 : (0 : Int) ≤ ((q - 1 : Nat) : Int) := by omega
      have i1 : ((q - 1 : Nat) : Int) < (L.length : Int) := by omega
      clear hsz hf
      go_wp2_with fail
      refine (hRa.out _).mono ?_
      rintro e wq ⟨rfl, hF⟩
      have hB := below_on hB (Nat.le_refl _) hF
      clear hF hRa d0 hb c0r
      cases hbl : bless k L[q - 1].name with
      | true =>
       have Hbl := Lib.hid hbl
       clear hbl
       go_wp2
       go_roundw
       case rel => exact ⟨q - 1, by go_num, by omega, fun j h1 h2 => by
         rcases Nat.eq_or_lt_of_le h2 with rfl | h2
         ·exact Hbl.out
         ·exact Hup.out j h1 (by omega), hB⟩
       case measure => simp [intOf]; omega
      | false =>
       have Hbl := Lib.hid hbl
       clear hbl e1 i0 i1
       go_wp2_with fail
       have HI := Lib.hid (insB_at keyA.strict ⟨k, 0, 0, lim⟩ L q HS.out (by omega) (ins_lo HS.out hq1 Hbl.out Hno.out) (fun j h hj => keyA.strict.asymm (show ltA ⟨k, 0, 0, lim⟩ L[j] = true from Hup.out j h hj)))
       have HBq := Lib.hid (below_on HB1.out (Nat.le_refl _) hB)
       have hcq := Lib.hid ((hB.block _ hlg1).trans Hc.out)
       have hlgq := Nat.lt_of_lt_of_le hlg1 hB.size
       have c0q := (hB.cell (p := ⟨g, 0, none⟩) hlg1).trans c0
       have hsq := Lib.hid (Hs.out.below_ hB)
       have hTk := Lib.hid (fun (V : World) (h : Below wq.heap.size wq V) => (show SlS V (Oth V (.slice none 0 0)) (some ⟨b, o, none⟩) c (L.take q) from ((hsq.out.below_ h).take q).keep (fun _ _ => rfl) (fun b hb => ⟨hb.1, by simp [Value.ownBlock]⟩)))
       have hDr := Lib.hid (fun (V : World) (h : Below wq.heap.size wq V) => (show Sl V wq.heap.size (if c = q then some ⟨b, o, none⟩ else some ⟨b, o + q * 4, none⟩) (c - q) (L.drop q) from by
          have := ((hsq.out.mono (fun b hb => hb.1)).drop (k := q) (by omega)).below h
          rwa [Option.map_some, show (⟨b, o, none⟩ : Addr).add (q * Enc.size Ac) = ⟨b, o + q * 4, none⟩ from add_none_ ..] at this))
       have Hql := Lib.hid (show q = (L.take q).length by rw [List.length_take]; omega)
       have q1 : ((q : Nat) : Int) ≤ (c : Int) := by omega
       have q2 : ((q : Nat) : Int) ≤ (@L.length : Int) := by omega
       have q3 : (@L.length : Int) ≤ (c : Int) := by omega
       have q0 : (0 : Int) ≤ ((q : Nat) : Int) := by omega
       clear hB c0
       have hb : Below wq.heap.size wq wq.drew := (Below.refl _ _).drew
       refine wp_region_noPanic ?_
       refine wp_region_l 22 (fun V => V.cell? ⟨g, 0, none⟩ = some (.slice (some ⟨b, o, none⟩) L.length c)) (by kernel_rfl) ((hb.cell (p := ⟨g, 0, none⟩) hlgq).trans c0q) (fun hH => ?_)
       refine tkY 0 (v := ?v41) ?y41 ?r41
       case y41 => (intro W hW; go_simp; try with_reducible rfl)
       try simp only [List.set]
       refine tkY 1 (v := ?v42) ?y42 ?r42
       case y42 => (intro W hW; go_simp; try with_reducible rfl)
       try simp only [List.set]
       refine tkY 2 (v := ?v43) ?y43 ?r43
       case y43 => (intro W hW; go_simp; try with_reducible rfl)
       try simp only [List.set]
       refine tkY 3 (v := ?v44) ?y44 ?r44
       case y44 => (intro W hW; go_simp; try with_reducible rfl)
       try simp only [List.set]
       refine tkY 4 (v := ?v45) ?y45 ?r45
       case y45 => (intro W hW; go_simp; try with_reducible rfl)
       try simp only [List.set]
       refine tkY 5 (v := ?v46) ?y46 ?r46
       case y46 => (intro W hW; go_simp; try with_reducible rfl)
       try simp only [List.set]
       refine tkY 6 (v := ?v47) ?y47 ?r47
       case y47 => (intro W hW; go_simp; try with_reducible rfl)
       try simp only [List.set]
       refine tkY 8 (v := ?v48) ?y48 ?r48
       case y48 => (intro W hW; go_simp; try with_reducible rfl)
       try simp only [List.set]
       refine tkY 9 (v := ?v49) ?y49 ?r49
       case y49 => (intro W hW; go_simp; try with_reducible rfl)
       try simp only [List.set]
       refine tkY 10 (v := ?v50) ?y50 ?r50
       case y50 => (intro W hW; go_simp; try with_reducible rfl)
       try simp only [List.set]
       refine tkY 13 (v := ?v51) ?y51 ?r51
       case y51 => (intro W hW; go_simp; try with_reducible rfl)
       try simp only [List.set]
       refine tkY 14 (v := ?v52) ?y52 ?r52
       case y52 => (intro W hW; go_simp; try with_reducible rfl)
       try simp only [List.set]
       refine tkY 15 (v := ?v53) ?y53 ?r53
       case y53 => (intro W hW; go_simp; try with_reducible rfl)
       try simp only [List.set]
       refine tkY 16 (v := ?v54) ?y54 ?r54
       case y54 => (intro W hW; go_simp; try with_reducible rfl)
       try simp only [List.set]
       refine tkY 17 (v := ?v55) ?y55 ?r55
       case y55 => (intro W hW; go_simp; try with_reducible rfl)
       try simp only [List.set]
       refine tkY 18 (v := ?v56) ?y56 ?r56
       case y56 => (intro W hW; go_simp; try with_reducible rfl)
       try simp only [List.set]
       refine wpAnyL_ready (rs := [7, 11]) (by kernel_rfl) (by simp) ?_
       refine AllReadyL.cons rfl (fun K hK => ?_) ?_
       ·skip
        rw [if_pos (by rfl)]
        refine oper_append (.const (.slice none 0 0)) (.tmp 53) 109 rfl (.agg #[.string ByteArray.empty, i64 0, i64 0, i64 0]) 40 Tryz.underlying109 acInfo rfl (by decide) (by decide) rfl (Own.nil_ _ wq.heap.size 140) (some ⟨b, o, none⟩) q c (L.take q) rfl Hql.out (hTk.out _ hb) (by simp <;> omega) hb.size ?_
        intro v1 u1 hO1 hg1 hat1
        rw [List.nil_append] at hO1
        have hF := (Own.nil_ (α := Ac) _ _ 140).below hg1 (Nat.le_refl _) (Nat.le_refl _)
        have hb := below_on hb (Nat.le_refl _) hF
        have HO1 := Lib.hid hO1
        clear hF hg1 hat1 hO1
        refine hK.out _ _ ((hb.cell (p := ⟨g, 0, none⟩) hlgq).trans c0q) (fun hH => ?_)
        clear hK K
        try simp only [Act.put, List.getElem_toArray, List.getElem_cons_zero, List.getElem_cons_succ, List.setIfInBounds_toArray, List.set_cons_zero, List.set_cons_succ]
        refine wpAnyL_one (i := 11) (by kernel_rfl) rfl (by decide) (fun K hK => ?_)
        go_simp
        have hgl : (u1.alloc (.cells #[.string k, i64 0, i64 0, i64 lim] 140)).heap[u1.heap.size]? = some (.cells #[.string k, i64 0, i64 0, i64 lim] 140 (0, 0)) := heap_alloc_new u1 _
        have hne1 := HO1.out.new_ne (Nat.le_refl u1.heap.size)
        have HO1 := Lib.hid (HO1.out.later ((Below.refl _ _).alloc (Nat.le_refl _) (.cells #[.string k, i64 0, i64 0, i64 lim] 140)))
        have hb := hb.alloc hb.size (.cells #[.string k, i64 0, i64 0, i64 lim] 140)
        refine hK.out _ _ ((hb.cell (p := ⟨g, 0, none⟩) hlgq).trans c0q) (fun hH => ?_)
        clear hK K
        try simp only [Act.put, List.getElem_toArray, List.getElem_cons_zero, List.getElem_cons_succ, List.setIfInBounds_toArray, List.set_cons_zero, List.set_cons_succ]
        refine wpAnyL_one (i := 12) (by kernel_rfl) rfl (by decide) (fun K hK => ?_)
        rw [if_pos (by rfl)]
        refine oper_append_one (.tmp 54) (.tmp 58) 109 rfl (.agg #[.string ByteArray.empty, i64 0, i64 0, i64 0]) 40 Tryz.underlying109 acInfo rfl (by decide) (by decide) rfl HO1.out u1.heap.size (⟨k, 0, 0, lim⟩ : Ac) (by rfl) _ 140 hgl rfl hne1 Hkl.out (by rw [← Hql.out]; omega) hb.size ?_
        intro v2 u2 hO2 hg2 hat2
        have hb := hb.trans (HO1.out.below hg2 (Nat.le_refl _) hb.size)
        have HO2 := Lib.hid hO2
        clear hg2 hat2 hO2 HO1 hgl hne1
        refine hK.out _ _ ((hb.cell (p := ⟨g, 0, none⟩) hlgq).trans c0q) (fun hH => ?_)
        clear hK K
        try simp only [Act.put, List.getElem_toArray, List.getElem_cons_zero, List.getElem_cons_succ, List.setIfInBounds_toArray, List.set_cons_zero, List.set_cons_succ]
        refine wpAnyL_one (i := 19) (by kernel_rfl) rfl (by decide) (fun K hK => ?_)
        rw [if_pos (by rfl)]
        refine oper_append (.tmp 59) (.tmp 65) 109 rfl (.agg #[.string ByteArray.empty, i64 0, i64 0, i64 0]) 40 Tryz.underlying109 acInfo rfl (by decide) (by decide) rfl HO2.out _ _ _ (L.drop q) rfl (by simp) ((hDr.out _ hb).mono (HO2.out.oth (Nat.le_refl _) hb.size)) (by simp <;> omega) hb.size ?_
        intro v3 u3 hO3 hg3 hat3
        obtain ⟨A3, cap3, hv3, -⟩ := hO3.sl
        generalize List.length _ = n3 at hv3
        subst hv3
        have hb := hb.trans (HO2.out.below hg3 (Nat.le_refl _) hb.size)
        have HO3 := Lib.hid hO3
        clear hg3 hat3 hO3 HO2
        refine hK.out _ _ ((hb.cell (p := ⟨g, 0, none⟩) hlgq).trans c0q) (fun hH => ?_)
        clear hK K
        try simp only [Act.put, List.getElem_toArray, List.getElem_cons_zero, List.getElem_cons_succ, List.setIfInBounds_toArray, List.set_cons_zero, List.set_cons_succ]
        refine tkY 20 (v := ?v57) ?y57 ?r57
        case y57 => (intro W hW; go_simp; try with_reducible rfl)
        try simp only [List.set]
        refine tkY 21 (v := ?v58) ?y58 ?r58
        case y58 => (intro W hW; go_simp; try with_reducible rfl)
        try simp only [List.set]
        refine wpAnyL_last (by kernel_rfl) rfl (fun K hK => ?_)
        have c3 := (hb.cell (p := ⟨g, 0, none⟩) hlgq).trans c0q
        have hg3 := Lib.hid ((hb.block _ hlgq).trans hcq.out)
        have f3 := frozen_of_row _ g 0 _ _ hg3.out
        go_simp
        refine hK.out _ _ ?_
        clear hK K
        try simp only [Act.put, List.getElem_toArray, List.getElem_cons_zero, List.getElem_cons_succ, List.setIfInBounds_toArray, List.set_cons_zero, List.set_cons_succ]
        refine wpAnyL_done (by kernel_rfl) ?_ _
        refine NoPanic.normal ?_
        have hD := rc_put HBq.out.size (HBq.out.trans (hb.mono HBq.out.size)) hlg HTn.out hg3.out HO3.out (ins_names Hs.out Hkl.out)
        have HD := Lib.hid hD
        clear hD
        go_wp2
        all_goals (go_ret; exact ⟨by rw [HR3.out]; rfl, by rw [HR3.out, HI.out, List.append_cons]; exact HD.out.1, HD.out.2⟩)
       refine AllReadyL.cons rfl (fun K hK => ?_) ?_
       ·skip
        go_simp
        obtain ⟨gl, hgl, hgl2⟩ : ∃ gl, gl = wq.heap.size ∧ (wq.drew.alloc (.cells #[.string k, i64 0, i64 0, i64 lim] 140)).heap[gl]? = some (.cells #[.string k, i64 0, i64 0, i64 lim] 140 (0, 0)) := ⟨_, rfl, heap_alloc_new wq.drew _⟩
        have Hgl := Lib.hid hgl
        clear hgl
        have hgl := hgl2
        clear hgl2
        have hb := hb.alloc hb.size (.cells #[.string k, i64 0, i64 0, i64 lim] 140)
        refine hK.out _ _ ((hb.cell (p := ⟨g, 0, none⟩) hlgq).trans c0q) (fun hH => ?_)
        clear hK K
        try simp only [Act.put, List.getElem_toArray, List.getElem_cons_zero, List.getElem_cons_succ, List.setIfInBounds_toArray, List.set_cons_zero, List.set_cons_succ]
        refine wpAnyL_one (i := 7) (by kernel_rfl) rfl (by decide) (fun K hK => ?_)
        rw [if_pos (by rfl)]
        refine oper_append (.const (.slice none 0 0)) (.tmp 53) 109 rfl (.agg #[.string ByteArray.empty, i64 0, i64 0, i64 0]) 40 Tryz.underlying109 acInfo rfl (by decide) (by decide) rfl (Own.nil_ _ wq.heap.size 140) (some ⟨b, o, none⟩) q c (L.take q) rfl Hql.out (hTk.out _ hb) (by simp <;> omega) hb.size ?_
        intro v1 u1 hO1 hg1 hat1
        rw [List.nil_append] at hO1
        have hF := (Own.nil_ (α := Ac) _ _ 140).below hg1 (Nat.le_refl _) (Nat.le_refl _)
        have hne1 : some gl ≠ v1.ownBlock := by
         rcases hat1 with h | h
         ·have h2 : v1.ownBlock = none := h
          rw [h2]; simp
         ·have h2 : v1.ownBlock = some (wq.heap.size + 1) := by rw [h]; simp
          rw [h2, Hgl.out]; intro e; injection e with e; omega
        have hgl := (hF.block _ (Array.getElem?_eq_some_iff.1 hgl).1).trans hgl
        have hb := below_on hb (Nat.le_refl _) hF
        have HO1 := Lib.hid hO1
        clear hF hg1 hat1 hO1
        refine hK.out _ _ ((hb.cell (p := ⟨g, 0, none⟩) hlgq).trans c0q) (fun hH => ?_)
        clear hK K
        try simp only [Act.put, List.getElem_toArray, List.getElem_cons_zero, List.getElem_cons_succ, List.setIfInBounds_toArray, List.set_cons_zero, List.set_cons_succ]
        refine wpAnyL_one (i := 12) (by kernel_rfl) rfl (by decide) (fun K hK => ?_)
        rw [if_pos (by rfl)]
        refine oper_append_one (.tmp 54) (.tmp 58) 109 rfl (.agg #[.string ByteArray.empty, i64 0, i64 0, i64 0]) 40 Tryz.underlying109 acInfo rfl (by decide) (by decide) rfl HO1.out gl (⟨k, 0, 0, lim⟩ : Ac) (by rw [Hgl.out]; rfl) _ 140 hgl rfl hne1 Hkl.out (by rw [← Hql.out]; omega) hb.size ?_
        intro v2 u2 hO2 hg2 hat2
        have hb := hb.trans (HO1.out.below hg2 (Nat.le_refl _) hb.size)
        have HO2 := Lib.hid hO2
        clear hg2 hat2 hO2 HO1 hgl hne1
        refine hK.out _ _ ((hb.cell (p := ⟨g, 0, none⟩) hlgq).trans c0q) (fun hH => ?_)
        clear hK K
        try simp only [Act.put, List.getElem_toArray, List.getElem_cons_zero, List.getElem_cons_succ, List.setIfInBounds_toArray, List.set_cons_zero, List.set_cons_succ]
        refine wpAnyL_one (i := 19) (by kernel_rfl) rfl (by decide) (fun K hK => ?_)
        rw [if_pos (by rfl)]
        refine oper_append (.tmp 59) (.tmp 65) 109 rfl (.agg #[.string ByteArray.empty, i64 0, i64 0, i64 0]) 40 Tryz.underlying109 acInfo rfl (by decide) (by decide) rfl HO2.out _ _ _ (L.drop q) rfl (by simp) ((hDr.out _ hb).mono (HO2.out.oth (Nat.le_refl _) hb.size)) (by simp <;> omega) hb.size ?_
        intro v3 u3 hO3 hg3 hat3
        obtain ⟨A3, cap3, hv3, -⟩ := hO3.sl
        generalize List.length _ = n3 at hv3
        subst hv3
        have hb := hb.trans (HO2.out.below hg3 (Nat.le_refl _) hb.size)
        have HO3 := Lib.hid hO3
        clear hg3 hat3 hO3 HO2
        refine hK.out _ _ ((hb.cell (p := ⟨g, 0, none⟩) hlgq).trans c0q) (fun hH => ?_)
        clear hK K
        try simp only [Act.put, List.getElem_toArray, List.getElem_cons_zero, List.getElem_cons_succ, List.setIfInBounds_toArray, List.set_cons_zero, List.set_cons_succ]
        refine tkY 20 (v := ?v59) ?y59 ?r59
        case y59 => (intro W hW; go_simp; try with_reducible rfl)
        try simp only [List.set]
        refine tkY 21 (v := ?v60) ?y60 ?r60
        case y60 => (intro W hW; go_simp; try with_reducible rfl)
        try simp only [List.set]
        refine wpAnyL_last (by kernel_rfl) rfl (fun K hK => ?_)
        have c3 := (hb.cell (p := ⟨g, 0, none⟩) hlgq).trans c0q
        have hg3 := Lib.hid ((hb.block _ hlgq).trans hcq.out)
        have f3 := frozen_of_row _ g 0 _ _ hg3.out
        go_simp
        refine hK.out _ _ ?_
        clear hK K
        try simp only [Act.put, List.getElem_toArray, List.getElem_cons_zero, List.getElem_cons_succ, List.setIfInBounds_toArray, List.set_cons_zero, List.set_cons_succ]
        refine wpAnyL_done (by kernel_rfl) ?_ _
        refine NoPanic.normal ?_
        have hD := rc_put HBq.out.size (HBq.out.trans (hb.mono HBq.out.size)) hlg HTn.out hg3.out HO3.out (ins_names Hs.out Hkl.out)
        have HD := Lib.hid hD
        clear hD
        go_wp2
        all_goals (go_ret; exact ⟨by rw [HR3.out]; rfl, by rw [HR3.out, HI.out, List.append_cons]; exact HD.out.1, HD.out.2⟩)
       exact AllReadyL.nil
  ·have HR2 := Lib.hid (show R = (7, L) by rw [HR1.out, i2]; rfl)
   have g2 : decide ((0 : Int) ≤ idxA L k) = true := decide_eq_true (by omega)
   generalize idxA L k = ix at *
   clear HR1 i2 i3
   go_wp2_with fail
   refine hA.out.mono ?_
   rintro e w2 ⟨rfl, rfl⟩
   go_wp2
   go_ret
   exact ⟨by rw [HR2.out]; rfl, by rw [HR2.out]; exact H1.out, grown_of_below HB1.out _⟩
end Go.Proofs.YtampniiehgimhaaGreat

/- ref09: a book in memory -/
namespace Go.Proofs.YtampniiehgimhaaGreat
open Go.RowKit
/-- where a reference's book lies: itself, its chart, its holds; all behind base -/
structure RA where
 base : Nat
 r : Nat
 gc : Nat
 gh : Nat
abbrev RA.ptr (a : RA) : Value := .pointer (some ⟨a.r, 0, none⟩)
def RA.own (a : RA) (k : Nat) : Prop := k = a.r ∨ k = a.gc ∨ k = a.gh
def RA.T (a : RA) (k : Nat) : Prop := a.base ≤ k ∧ ¬ a.own k
/-- the reference's book; its rows lie in blocks of T -/
structure RkIs (w : World) (a : RA) (T : Nat → Prop) (B : Bk) : Prop where
 cell : w.heap[a.r]? = some (.cells #[.pointer (some ⟨a.gc, 0, none⟩), .pointer (some ⟨a.gh, 0, none⟩), i64 B.cl] 127 (0, 0))
 c : RcIs w T a.gc B.L
 h : RhIs w T a.gh B.H
 ne : a.r ≠ a.gc ∧ a.r ≠ a.gh ∧ a.gc ≠ a.gh
 lo : ∀ k, a.own k → a.base ≤ k
 tn : ∀ k, a.own k → ¬ T k
section
variable {w w' : World} {a : RA} {T : Nat → Prop} {B : Bk}
theorem RkIs.lt (h : RkIs w a T B) : ∀ k, a.own k → k < w.heap.size := by
 intro k hk
 rcases hk with rfl | rfl | rfl
 ·exact (Array.getElem?_eq_some_iff.1 h.cell).1
 ·exact h.c.lt
 ·exact h.h.lt
theorem RkIs.kept {S : Nat → Prop} (h : RkIs w a T B) (hk : Gr w w' S) (hS : ∀ k, a.own k → ¬ S k) (hT : ∀ k, T k → ¬ S k) : RkIs w' a T B :=
 ⟨(hk.block a.r (h.lt _ (.inl rfl)) (hS _ (.inl rfl))).trans h.cell, h.c.kept hk (hS _ (.inr (.inl rfl))) hT, h.h.kept hk (hS _ (.inr (.inr rfl))) hT, h.ne, h.lo, h.tn⟩
theorem RkIs.later (h : RkIs w a T B) (hb : Below w.heap.size w w') : RkIs w' a T B := h.kept (Gr.of_below hb (fun _ => False)) (fun _ _ => id) (fun _ _ => id)
theorem RkIs.room {T' : Nat → Prop} (h : RkIs w a T B) (ht : ∀ k, k < w.heap.size → T k → T' k) (hn : ∀ k, a.own k → ¬ T' k) : RkIs w a T' B := by
 obtain ⟨h0, ⟨A, c, h1, h2, h3⟩, ⟨A', c', k1, k2, k3⟩, h4, h5, _⟩ := h
 exact ⟨h0, ⟨A, c, h1, h2.mono fun k hk => ⟨hk.1, ht k hk.1 hk.2⟩, h3⟩, ⟨A', c', k1, k2.mono fun k hk => ⟨hk.1, ht k hk.1 hk.2⟩, k3⟩, h4, h5, hn⟩
theorem RA.T_own {k : Nat} (h : a.own k) : ¬ a.T k := fun e => e.2 h
/-- kept, where what changes lies ahead of the book -/
theorem RkIs.far {S : Nat → Prop} (h : RkIs w a a.T B) (hk : Gr w w' S) (hS : ∀ k, a.base ≤ k → ¬ S k) : RkIs w' a a.T B := h.kept hk (fun k e => hS k (h.lo k e)) (fun k e => hS k e.1)
theorem RkIs.new (h : RkIs w a T B) : ∀ k, w.heap.size ≤ k → a.T k := fun k hk => ⟨by have := h.lo _ (.inl rfl); have := h.lt _ (.inl rfl); omega, fun e => by have := h.lt k e; omega⟩
theorem RkIs.chart {L : List Ac} (h : RkIs w a T B) (hc : RcIs w' T a.gc L) (hg : w.grownBy w' (some a.gc)) : RkIs w' a T ⟨L, B.H, B.cl⟩ ∧ Gr w w' (GH a.gh a.gc) :=
 ⟨⟨((Gr.of_grown hg).block a.r (h.lt _ (.inl rfl)) (fun e => h.ne.1 (by injection e with e; exact e.symm))).trans h.cell, hc, h.h.kept (Gr.of_grown hg) (fun e => h.ne.2.2 (by injection e)) (fun k hk e => h.tn _ (.inr (.inl rfl)) (by injection e with e; rw [e]; exact hk)), h.ne, h.lo, h.tn⟩,
  (Gr.of_grown hg).mono fun k _ e => .inr (by injection e with e; exact e.symm)⟩
theorem RkIs.both {L : List Ac} {H : List Held} (h : RkIs w a T B) (hc : RcIs w' T a.gc L) (hh : RhIs w' T a.gh H) (hg : Gr w w' (GH a.gh a.gc)) : RkIs w' a T ⟨L, H, B.cl⟩ :=
 ⟨(hg.block a.r (h.lt _ (.inl rfl)) (fun e => e.elim h.ne.2.1 h.ne.1)).trans h.cell, hc, hh, h.ne, h.lo, h.tn⟩
theorem RkIs.shut (h : RkIs w a T B) (p : Int) : RkIs (w.setCell ⟨a.r, 2, none⟩ (i64 p)) a T ⟨B.L, B.H, p⟩ ∧ Gr w (w.setCell ⟨a.r, 2, none⟩ (i64 p)) (fun k => k = a.r) := by
 have hs := heap_setCell_same w a.r 2 _ _ (i64 p) h.cell
 have hg := Gr.of_grown (grown_setCell (World.grownBy.refl w (some a.r)) (p := ⟨a.r, 2, none⟩) (.inl rfl) (i64 p))
 exact ⟨⟨hs, h.c.kept hg (fun e => h.ne.1 (by injection e)) (fun k hk e => h.tn _ (.inl rfl) (by injection e with e; rw [e]; exact hk)), h.h.kept hg (fun e => h.ne.2.1 (by injection e)) (fun k hk e => h.tn _ (.inl rfl) (by injection e with e; rw [e]; exact hk)), h.ne, h.lo, h.tn⟩,
  hg.mono fun k _ e => by injection e with e; exact e.symm⟩
theorem RA.gh_own {k : Nat} (h : GH a.gh a.gc k) : a.own k := h.elim (fun e => .inr (.inr e)) (fun e => .inr (.inl e))
theorem RkIs.own_below {n : Nat} (h : RkIs w a T B) (hg : Gr w w' a.own) (hn : n ≤ w.heap.size) (ha : n ≤ a.base) : Below n w w' := hg.below hn fun k hk => Nat.le_trans ha (h.lo k hk)
end
/-- an order as the reference's book takes it: its legs lie apart from the book -/
def RdIn (w : World) (a : RA) (x : Od) : Prop := Od.Ok w (fun k => k < w.heap.size ∧ ¬ a.own k) x ∧ x.legs.length ≤ 65536
theorem RdIn.of_sl {w : World} {n : Nat} {A : Option Addr} {c : Nat} {l : List Od} (h : Sl w n A c l) {a : RA} (ha : ∀ k, a.own k → n ≤ k) (hB : n ≤ w.heap.size) (hl : ∀ x ∈ l, x.legs.length ≤ 65536) : ∀ x ∈ l, RdIn w a x := fun x hx =>
 ⟨Enc.keep (α := Od) (h.2.2.2 x hx) (fun _ _ => rfl) (fun k hk => ⟨Nat.lt_of_lt_of_le hk hB, fun e => by have := ha k e; omega⟩), hl x hx⟩
theorem RdIn.later {w w' : World} {a : RA} {x : Od} (h : RdIn w a x) (hb : Below w.heap.size w w') : RdIn w' a x :=
 ⟨Enc.keep (α := Od) h.1 (fun _ hp => hb.cell hp.1) (fun _ hk => ⟨Nat.lt_of_lt_of_le hk.1 hb.size, hk.2⟩), h.2⟩
theorem RdIn.okb {w : World} {a : RA} {x : Od} (h : RdIn w a x) : Okb w w.heap.size x := Enc.keep (α := Od) h.1 (fun _ _ => rfl) (fun _ h => h.1)
end Go.Proofs.YtampniiehgimhaaGreat
