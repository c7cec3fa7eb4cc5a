/- Texts of this claim, laid together: RfOpen. -/
import Derived.Test.YtmljlkjomjflpaaGreatRows
import Derived.Test.YtmljlkjomjflpaaGreatBb7
import Derived.Test.YtmljlkjomjflpaaGreatBb6
import Derived.Test.YtmljlkjomjflpaaGreatBb5
import Derived.WalkKit
import Derived.WalkSpells
import Derived.WalkLawsBesides
import Derived.Deep.QuietTactic
import Derived.BigQuiet
import Derived.Laws.StructEq
import Derived.Deep.DeepFit
import Derived.StillTailTactics

/- ref05: Open -/
namespace Go.Proofs.YtmljlkjomjflpaaGreat
open Go.RowKit
theorem add_none_ (b o n : Nat) : (⟨b, o, none⟩ : Addr).add n = ⟨b, o + n, none⟩ := by
  unfold Addr.add
  split
  · rename_i h
    subst h
    rfl
  · rfl
theorem ins_lo {L : List Ac} (hS : SrtL ltA L) {k : ByteArray} {lim : Int} {q : Nat} (hq : q - 1 < L.length) (hnl : bless k L[q - 1].name = false) (hno : ∀ a ∈ L, a.name ≠ k) : ∀ j (h : j < L.length), j < q → ltA L[j] ⟨k, 0, 0, lim⟩ = true := by
  have h1 : ltA L[q - 1] ⟨k, 0, 0, lim⟩ = true := by
    rcases keyA.co L[q - 1] ⟨k, 0, 0, lim⟩ (hno _ (List.getElem_mem hq)) with h | h
    · exact h
    · exact absurd h (by show ¬ bless k L[q - 1].name = true; rw [hnl]; decide)
  intro j hj hjq
  rcases Nat.lt_or_ge j (q - 1) with h | h
  · exact keyA.strict.trans _ _ _ (List.pairwise_iff_getElem.1 hS j (q - 1) hj hq h) h1
  · obtain rfl : j = q - 1 := by omega
    exact h1
/-- a list of the call's own, put into the chart of block g -/
theorem rc_put {w u : World} {T : Nat → Prop} {g base : Nat} {L' : List Ac} {v V0 : Value} (hb0 : w.heap.size ≤ base) (HB : Below w.heap.size w u) (hlg : g < w.heap.size) (hT : ∀ k, w.heap.size ≤ k → T k)
    (hg : u.heap[g]? = some (.cells #[V0] 49 (0, 0))) (hO : Own u base 70 v L') (hok : ∀ x ∈ L', x.name.size ≤ maxLen) : RcIs (u.setCell ⟨g, 0, none⟩ v) T g L' ∧ w.grownBy (u.setCell ⟨g, 0, none⟩ v) (some g) := by
  have hg3 := heap_setCell_same u g 0 _ _ v hg
  have hgr := grown_setCell (World.grownBy.refl u (some g)) (p := ⟨g, 0, none⟩) (.inl rfl) v
  have hO3 := hO.grown hgr (by
    cases hv : v.ownBlock with
    | none => exact .inl rfl
    | some b =>
      right
      intro e
      injection e with e
      have := (hO.1.lt b hv).1
      omega) (fun x hx => hok x hx)
  obtain ⟨A, c, hv, hs, hf⟩ := hO3.slT (T := T) (fun k hk => hT k (Nat.le_trans hb0 hk)) hok
  refine ⟨⟨A, c, ?_, hs, hf⟩, grown_setCell (grown_of_below HB (some g)) (p := ⟨g, 0, none⟩) (.inl rfl) v⟩
  have e5 : (#[V0] : Array Value).setIfInBounds 0 v = #[.slice A L'.length c] := by rw [← hv]; rfl
  rw [e5] at hg3
  exact hg3
theorem ins_names {w : World} {S : Nat → Prop} {A : Option Addr} {c : Nat} {L : List Ac} (h : SlS w S A c L) {k : ByteArray} (hk : k.size ≤ maxLen) {lim : Int} {q : Nat} : ∀ x ∈ L.take q ++ [⟨k, 0, 0, lim⟩] ++ L.drop q, x.name.size ≤ maxLen := by
  intro x hx
  rcases List.mem_append.1 hx with hx | hx
  · rcases List.mem_append.1 hx with hx | hx
    · exact h.2.2.2 x (List.mem_of_mem_take hx)
    · simp only [List.mem_singleton] at hx; subst hx; exact hk
  · exact h.2.2.2 x (List.mem_of_mem_drop hx)
set_option maxRecDepth 100000 in
set_option maxHeartbeats 8000000 in
theorem ropen_c (T : Nat → Prop) (g : Nat) (L : List Ac) (k : ByteArray) (lim : Int) (w : World) (h : RcIs w T g L) (hL : L.length ≤ 65536) (hkl : k.size ≤ maxLen) (hS : SrtL ltA L) (hTn : ∀ k, w.heap.size ≤ k → T k) (hTg : ¬ T g) (h12 : L.length ≤ 12) :
    Calls Tryz.prog 53 #[.pointer (some ⟨g, 0, none⟩), .string k, i64 lim] w fun e w' => e = .returned (i64 (openL L k lim).1) ∧ RcIs w' T g (openL L k lim).2 ∧ w.grownBy w' (some g) := by
  have hlg := h.lt
  have hNm := Lib.hid fun W => rname_c k hkl W
  have HTn := Lib.hid hTn
  have HTg := Lib.hid hTg
  have HS := Lib.hid hS
  have Hkl := Lib.hid hkl
  obtain ⟨R, hR⟩ : ∃ R, openL L k lim = R := ⟨_, rfl⟩
  rw [hR]
  unfold openL at hR
  have HR := Lib.hid hR.symm
  clear hR hTn hTg hS hkl
  go_enter Tryz.func53, Tryz.ntmps53
  go_wp2_with fail
  refine (hNm.out _).mono ?_
  rintro e w1 ⟨rfl, hF⟩
  have h1 := h.later hF
  have HB1 := Lib.hid hF
  have hlg1 := Nat.lt_of_lt_of_le hlg hF.size
  have hs1 := hF.size
  clear hF hNm h
  by_cases hn : nameB k = false ∨ lim < 0
  · have HR1 := Lib.hid (show R = (1, L) by rw [HR.out, if_pos hn])
    have H1 := Lib.hid h1
    clear HR
    cases hnb : nameB k with
    | false =>
      clear hn hnb
      go_wp2
      go_ret
      exact ⟨by rw [HR1.out]; rfl, by rw [HR1.out]; exact H1.out, grown_of_below HB1.out _⟩
    | true =>
      have g1 : decide (lim < 0) = true := decide_eq_true (hn.resolve_left (by rw [hnb]; decide))
      clear hn hnb
      go_wp2
      go_ret
      exact ⟨by rw [HR1.out]; rfl, by rw [HR1.out]; exact H1.out, grown_of_below HB1.out _⟩
  · have HR1 := Lib.hid (show R = (if (getK Ac.name L k).isSome = true then (7, L) else if L.length = 12 then (5, L) else (0, insB ltA ⟨k, 0, 0, lim⟩ L)) by rw [HR.out, if_neg hn])
    have hnb : nameB k = true := by
      cases hb : nameB k with
      | true => rfl
      | false => exact absurd (.inl hb) hn
    have g1 : decide (lim < 0) = false := decide_eq_false (fun e => hn (.inr e))
    rw [hnb]
    have hA := Lib.hid (rat_c T g L k w1 h1 hL)
    have H1 := Lib.hid h1
    clear HR hn hnb
    rcases idxA_get (L := L) (k := k) with ⟨i1, i2⟩ | ⟨n, hn, i1, i2, i3⟩
    · have HR2 := Lib.hid (show R = (if L.length = 12 then (5, L) else (0, insB ltA ⟨k, 0, 0, lim⟩ L)) by rw [HR1.out, i2, if_neg (by decide)])
      have g2 : decide ((0 : Int) ≤ idxA L k) = false := decide_eq_false (by omega)
      have Hno := Lib.hid (getK_none.1 i2)
      generalize idxA L k = ix at *
      clear HR1 i1 i2
      obtain ⟨A, c, hc, hs, hf⟩ := h1
      have c0 := cell_of_row _ g 0 _ _ (0, 0) hc
      simp only [List.getElem?_toArray, List.getElem?_cons_zero] at c0
      have Hc := Lib.hid hc
      have Hs := Lib.hid hs
      have hlc := hs.1
      clear hc hs
      go_wp2_with fail
      refine hA.out.mono ?_
      rintro e w2 ⟨rfl, rfl⟩
      clear hA
      by_cases h13 : L.length = 12
      · have g3 : decide ((12 : Int) ≤ (L.length : Int)) = true := decide_eq_true (by omega)
        have HR3 := Lib.hid (show R = (5, L) by rw [HR2.out, if_pos h13])
        clear HR2
        go_wp2
        go_ret
        exact ⟨by rw [HR3.out]; rfl, by rw [HR3.out]; exact H1.out, grown_of_below HB1.out _⟩
      · have g3 : decide ((12 : Int) ≤ (L.length : Int)) = false := decide_eq_false (by omega)
        have HR3 := Lib.hid (show R = (0, insB ltA ⟨k, 0, 0, lim⟩ L) by rw [HR2.out, if_neg h13])
        clear HR2 h13
        go_wp2_with fail
        go_loopw [7] (fun i wr => ∃ q : Nat, i = i64 q ∧ q ≤ L.length ∧ (∀ j (h : j < L.length), q ≤ j → bless k L[j].name = true) ∧ Below w1.heap.size w1 wr) (fun i _ => (intOf i).toNat)
        case atStart => exact ⟨L.length, rfl, Nat.le_refl _, fun j h1 h2 => by omega, Below.refl _ _⟩
        case round =>
          obtain ⟨q, rfl, hq, hup, hB⟩ := hrel
          have Hup := Lib.hid hup
          clear hup
          have c0r := (hB.cell (p := ⟨g, 0, none⟩) hlg1).trans c0
          rcases Nat.eq_zero_or_pos q with hq0 | hq0
          · have g4 : decide ((0 : Int) < (q : Int)) = false := decide_eq_false (by omega)
            have g5 : decide (0 < q) = false := decide_eq_false (by omega)
            obtain ⟨wq, rfl⟩ : ∃ wq, wq = wr := ⟨_, rfl⟩
            rcases hf with ⟨rfl, rfl⟩ | ⟨b, o, rfl⟩
            · have hL0 : L = [] := by
                rcases L with _ | ⟨a, r⟩
                · rfl
                · simp at hlc
              subst hL0
              subst hq0
              go_wp2_with fail
              have HI := Lib.hid (insB_at keyA.strict ⟨k, 0, 0, lim⟩ ([] : List Ac) 0 HS.out (by omega) (fun j h _ => absurd h (by simp)) (fun j h _ => absurd h (by simp)))
              have HBq := Lib.hid (below_on HB1.out (Nat.le_refl _) hB)
              have hcq := Lib.hid ((hB.block _ hlg1).trans Hc.out)
              have hlgq := Nat.lt_of_lt_of_le hlg1 hB.size
              have c0q := (hB.cell (p := ⟨g, 0, none⟩) hlg1).trans c0
              have hsq := Lib.hid (Hs.out.below_ hB)
              have hTk := Lib.hid (fun (V : World) (h : Below wq.heap.size wq V) => (show SlS V (Oth V (.slice none 0 0)) none 0 (([] : List Ac).take 0) from ((hsq.out.below_ h).take 0).keep (fun _ _ => rfl) (fun b hb => ⟨hb.1, by simp [Value.ownBlock]⟩)))
              have hDr := Lib.hid (fun (V : World) (h : Below wq.heap.size wq V) => (show Sl V wq.heap.size none (0 - 0) (([] : List Ac).drop 0) from ((hsq.out.mono (fun b hb => hb.1)).drop (by omega)).below h))
              have Hql := Lib.hid (show 0 = (([] : List Ac).take 0).length by rw [List.length_take]; omega)
              have q1 : ((0 : Nat) : Int) ≤ (0 : Int) := by omega
              have q2 : ((0 : Nat) : Int) ≤ (([] : List Ac).length : Int) := by omega
              have q3 : (([] : List Ac).length : Int) ≤ (0 : Int) := by omega
              have q0 : (0 : Int) ≤ ((0 : Nat) : Int) := by omega
              clear hB c0
              have hb : Below wq.heap.size wq wq.drew := (Below.refl _ _).drew
              refine wp_region_noPanic ?_
              refine wp_region_l 22 (fun V => V.cell? ⟨g, 0, none⟩ = some (.slice none 0 0)) (by kernel_rfl) ((hb.cell (p := ⟨g, 0, none⟩) hlgq).trans c0q) (fun hH => ?_)
              refine wpAnyL_take (i := 0) (v := ?v1) rfl (by kernel_rfl) (by kernel_rfl) (by kernel_rfl) (by kernel_rfl) (fun _ _ _ h => h) (Or.inl ⟨by kernel_rfl, ?hy1⟩) (by assumption) ?r1
              case hy1 => (intro W s0; go_simp; try with_reducible rfl)
              try simp only [Act.put, List.getElem_toArray, List.getElem_cons_zero, List.setIfInBounds_toArray, List.set_cons_zero, List.set_cons_succ]
              refine wpAnyL_take (i := 1) (v := ?v2) rfl (by kernel_rfl) (by kernel_rfl) (by kernel_rfl) (by kernel_rfl) (fun _ _ _ h => h) (Or.inl ⟨by kernel_rfl, ?hy2⟩) (by assumption) ?r2
              case hy2 => (intro W s0; go_simp; try with_reducible rfl)
              try simp only [Act.put, List.getElem_toArray, List.getElem_cons_zero, List.getElem_cons_succ, List.setIfInBounds_toArray, List.set_cons_zero, List.set_cons_succ]
              refine wpAnyL_take (i := 2) (v := ?v3) rfl (by kernel_rfl) (by kernel_rfl) (by kernel_rfl) (by kernel_rfl) (fun _ _ _ h => h) (Or.inl ⟨by kernel_rfl, ?hy3⟩) (by assumption) ?r3
              case hy3 => (intro W s0; go_simp; try with_reducible rfl)
              try simp only [Act.put, List.getElem_toArray, List.getElem_cons_zero, List.getElem_cons_succ, List.setIfInBounds_toArray, List.set_cons_zero, List.set_cons_succ]
              refine wpAnyL_take (i := 3) (v := ?v4) rfl (by kernel_rfl) (by kernel_rfl) (by kernel_rfl) (by kernel_rfl) (fun _ _ _ h => h) (Or.inl ⟨by kernel_rfl, ?hy4⟩) (by assumption) ?r4
              case hy4 => (intro W s0; go_simp; try with_reducible rfl)
              try simp only [Act.put, List.getElem_toArray, List.getElem_cons_zero, List.getElem_cons_succ, List.setIfInBounds_toArray, List.set_cons_zero, List.set_cons_succ]
              refine wpAnyL_take (i := 4) (v := ?v5) rfl (by kernel_rfl) (by kernel_rfl) (by kernel_rfl) (by kernel_rfl) (fun _ _ _ h => h) (Or.inl ⟨by kernel_rfl, ?hy5⟩) (by assumption) ?r5
              case hy5 => (intro W s0; go_simp; try with_reducible rfl)
              try simp only [Act.put, List.getElem_toArray, List.getElem_cons_zero, List.getElem_cons_succ, List.setIfInBounds_toArray, List.set_cons_zero, List.set_cons_succ]
              refine wpAnyL_take (i := 5) (v := ?v6) rfl (by kernel_rfl) (by kernel_rfl) (by kernel_rfl) (by kernel_rfl) (fun _ _ _ h => h) (Or.inl ⟨by kernel_rfl, ?hy6⟩) (by assumption) ?r6
              case hy6 => (intro W s0; go_simp; try with_reducible rfl)
              try simp only [Act.put, List.getElem_toArray, List.getElem_cons_zero, List.getElem_cons_succ, List.setIfInBounds_toArray, List.set_cons_zero, List.set_cons_succ]
              refine wpAnyL_take (i := 6) (v := ?v7) rfl (by kernel_rfl) (by kernel_rfl) (by kernel_rfl) (by kernel_rfl) (fun _ _ _ h => h) (Or.inl ⟨by kernel_rfl, ?hy7⟩) (by assumption) ?r7
              case hy7 => (intro W s0; go_simp; try with_reducible rfl)
              try simp only [Act.put, List.getElem_toArray, List.getElem_cons_zero, List.getElem_cons_succ, List.setIfInBounds_toArray, List.set_cons_zero, List.set_cons_succ]
              refine wpAnyL_take (i := 8) (v := ?v8) rfl (by kernel_rfl) (by kernel_rfl) (by kernel_rfl) (by kernel_rfl) (fun _ _ _ h => h) (Or.inl ⟨by kernel_rfl, ?hy8⟩) (by assumption) ?r8
              case hy8 => (intro W s0; go_simp; try with_reducible rfl)
              try simp only [Act.put, List.getElem_toArray, List.getElem_cons_zero, List.getElem_cons_succ, List.setIfInBounds_toArray, List.set_cons_zero, List.set_cons_succ]
              refine wpAnyL_take (i := 9) (v := ?v9) rfl (by kernel_rfl) (by kernel_rfl) (by kernel_rfl) (by kernel_rfl) (fun _ _ _ h => h) (Or.inl ⟨by kernel_rfl, ?hy9⟩) (by assumption) ?r9
              case hy9 => (intro W s0; go_simp; try with_reducible rfl)
              try simp only [Act.put, List.getElem_toArray, List.getElem_cons_zero, List.getElem_cons_succ, List.setIfInBounds_toArray, List.set_cons_zero, List.set_cons_succ]
              refine wpAnyL_take (i := 10) (v := ?v10) rfl (by kernel_rfl) (by kernel_rfl) (by kernel_rfl) (by kernel_rfl) (fun _ _ _ h => h) (Or.inl ⟨by kernel_rfl, ?hy10⟩) (by assumption) ?r10
              case hy10 => (intro W s0; go_simp; try with_reducible rfl)
              try simp only [Act.put, List.getElem_toArray, List.getElem_cons_zero, List.getElem_cons_succ, List.setIfInBounds_toArray, List.set_cons_zero, List.set_cons_succ]
              refine wpAnyL_take (i := 13) (v := ?v11) rfl (by kernel_rfl) (by kernel_rfl) (by kernel_rfl) (by kernel_rfl) (fun _ _ _ h => h) (Or.inl ⟨by kernel_rfl, ?hy11⟩) (by assumption) ?r11
              case hy11 => (intro W s0; go_simp; try with_reducible rfl)
              try simp only [Act.put, List.getElem_toArray, List.getElem_cons_zero, List.getElem_cons_succ, List.setIfInBounds_toArray, List.set_cons_zero, List.set_cons_succ]
              refine wpAnyL_take (i := 14) (v := ?v12) rfl (by kernel_rfl) (by kernel_rfl) (by kernel_rfl) (by kernel_rfl) (fun _ _ _ h => h) (Or.inl ⟨by kernel_rfl, ?hy12⟩) (by assumption) ?r12
              case hy12 => (intro W s0; go_simp; try with_reducible rfl)
              try simp only [Act.put, List.getElem_toArray, List.getElem_cons_zero, List.getElem_cons_succ, List.setIfInBounds_toArray, List.set_cons_zero, List.set_cons_succ]
              refine wpAnyL_take (i := 15) (v := ?v13) rfl (by kernel_rfl) (by kernel_rfl) (by kernel_rfl) (by kernel_rfl) (fun _ _ _ h => h) (Or.inl ⟨by kernel_rfl, ?hy13⟩) (by assumption) ?r13
              case hy13 => (intro W s0; go_simp; try with_reducible rfl)
              try simp only [Act.put, List.getElem_toArray, List.getElem_cons_zero, List.getElem_cons_succ, List.setIfInBounds_toArray, List.set_cons_zero, List.set_cons_succ]
              refine wpAnyL_take (i := 16) (v := ?v14) rfl (by kernel_rfl) (by kernel_rfl) (by kernel_rfl) (by kernel_rfl) (fun _ _ _ h => h) (Or.inl ⟨by kernel_rfl, ?hy14⟩) (by assumption) ?r14
              case hy14 => (intro W s0; go_simp; try with_reducible rfl)
              try simp only [Act.put, List.getElem_toArray, List.getElem_cons_zero, List.getElem_cons_succ, List.setIfInBounds_toArray, List.set_cons_zero, List.set_cons_succ]
              refine wpAnyL_take (i := 17) (v := ?v15) rfl (by kernel_rfl) (by kernel_rfl) (by kernel_rfl) (by kernel_rfl) (fun _ _ _ h => h) (Or.inl ⟨by kernel_rfl, ?hy15⟩) (by assumption) ?r15
              case hy15 => (intro W s0; go_simp; try with_reducible rfl)
              try simp only [Act.put, List.getElem_toArray, List.getElem_cons_zero, List.getElem_cons_succ, List.setIfInBounds_toArray, List.set_cons_zero, List.set_cons_succ]
              refine wpAnyL_take (i := 18) (v := ?v16) rfl (by kernel_rfl) (by kernel_rfl) (by kernel_rfl) (by kernel_rfl) (fun _ _ _ h => h) (Or.inl ⟨by kernel_rfl, ?hy16⟩) (by assumption) ?r16
              case hy16 => (intro W s0; go_simp; try with_reducible rfl)
              try simp only [Act.put, List.getElem_toArray, List.getElem_cons_zero, List.getElem_cons_succ, List.setIfInBounds_toArray, List.set_cons_zero, List.set_cons_succ]
              refine wpAnyL_ready (rs := [7, 11]) (by kernel_rfl) (by simp) ?_
              refine AllReadyL.cons rfl (fun K hK => ?_) ?_
              · skip
                rw [if_pos (by rfl)]
                refine oper_append (.const (.slice none 0 0)) (.tmp 53) 46 rfl (.agg #[.string ByteArray.empty, i64 0, i64 0, i64 0]) 40 Tryz.underlying46 acInfo rfl (by decide) (by decide) rfl (Own.nil_ _ wq.heap.size 70) none 0 0 (([] : List Ac).take 0) rfl Hql.out (hTk.out _ hb) (by simp <;> omega) hb.size ?_
                intro v1 u1 hO1 hg1 hat1
                rw [List.nil_append] at hO1
                have hF := (Own.nil_ (α := Ac) _ _ 70).below hg1 (Nat.le_refl _) (Nat.le_refl _)
                have hb := below_on hb (Nat.le_refl _) hF
                have HO1 := Lib.hid hO1
                clear hF hg1 hat1 hO1
                refine hK.out _ _ ((hb.cell (p := ⟨g, 0, none⟩) hlgq).trans c0q) (fun hH => ?_)
                clear hK K
                try simp only [Act.put, List.getElem_toArray, List.getElem_cons_zero, List.getElem_cons_succ, List.setIfInBounds_toArray, List.set_cons_zero, List.set_cons_succ]
                refine wpAnyL_one (i := 11) (by kernel_rfl) rfl (by decide) (fun K hK => ?_)
                go_simp
                have hgl : (u1.alloc (.cells #[.string k, i64 0, i64 0, i64 lim] 70)).heap[u1.heap.size]? = some (.cells #[.string k, i64 0, i64 0, i64 lim] 70 (0, 0)) := heap_alloc_new u1 _
                have hne1 := HO1.out.new_ne (Nat.le_refl u1.heap.size)
                have HO1 := Lib.hid (HO1.out.later ((Below.refl _ _).alloc (Nat.le_refl _) (.cells #[.string k, i64 0, i64 0, i64 lim] 70)))
                have hb := hb.alloc hb.size (.cells #[.string k, i64 0, i64 0, i64 lim] 70)
                refine hK.out _ _ ((hb.cell (p := ⟨g, 0, none⟩) hlgq).trans c0q) (fun hH => ?_)
                clear hK K
                try simp only [Act.put, List.getElem_toArray, List.getElem_cons_zero, List.getElem_cons_succ, List.setIfInBounds_toArray, List.set_cons_zero, List.set_cons_succ]
                refine wpAnyL_one (i := 12) (by kernel_rfl) rfl (by decide) (fun K hK => ?_)
                rw [if_pos (by rfl)]
                refine oper_append_one (.tmp 54) (.tmp 58) 46 rfl (.agg #[.string ByteArray.empty, i64 0, i64 0, i64 0]) 40 Tryz.underlying46 acInfo rfl (by decide) (by decide) rfl HO1.out u1.heap.size (⟨k, 0, 0, lim⟩ : Ac) (by rfl) _ 70 hgl rfl hne1 Hkl.out (by rw [← Hql.out]; omega) hb.size ?_
                intro v2 u2 hO2 hg2 hat2
                have hb := hb.trans (HO1.out.below hg2 (Nat.le_refl _) hb.size)
                have HO2 := Lib.hid hO2
                clear hg2 hat2 hO2 HO1 hgl hne1
                refine hK.out _ _ ((hb.cell (p := ⟨g, 0, none⟩) hlgq).trans c0q) (fun hH => ?_)
                clear hK K
                try simp only [Act.put, List.getElem_toArray, List.getElem_cons_zero, List.getElem_cons_succ, List.setIfInBounds_toArray, List.set_cons_zero, List.set_cons_succ]
                refine wpAnyL_one (i := 19) (by kernel_rfl) rfl (by decide) (fun K hK => ?_)
                rw [if_pos (by rfl)]
                refine oper_append (.tmp 59) (.tmp 65) 46 rfl (.agg #[.string ByteArray.empty, i64 0, i64 0, i64 0]) 40 Tryz.underlying46 acInfo rfl (by decide) (by decide) rfl HO2.out _ _ _ (([] : List Ac).drop 0) rfl (by simp) ((hDr.out _ hb).mono (HO2.out.oth (Nat.le_refl _) hb.size)) (by simp <;> omega) hb.size ?_
                intro v3 u3 hO3 hg3 hat3
                obtain ⟨A3, cap3, hv3, -⟩ := hO3.sl
                generalize List.length _ = n3 at hv3
                subst hv3
                have hb := hb.trans (HO2.out.below hg3 (Nat.le_refl _) hb.size)
                have HO3 := Lib.hid hO3
                clear hg3 hat3 hO3 HO2
                refine hK.out _ _ ((hb.cell (p := ⟨g, 0, none⟩) hlgq).trans c0q) (fun hH => ?_)
                clear hK K
                try simp only [Act.put, List.getElem_toArray, List.getElem_cons_zero, List.getElem_cons_succ, List.setIfInBounds_toArray, List.set_cons_zero, List.set_cons_succ]
                refine wpAnyL_take (i := 20) (v := ?v17) rfl (by kernel_rfl) (by kernel_rfl) (by kernel_rfl) (by kernel_rfl) (fun _ _ _ h => h) (Or.inl ⟨by kernel_rfl, ?hy17⟩) (by assumption) ?r17
                case hy17 => (intro W s0; go_simp; try with_reducible rfl)
                try simp only [Act.put, List.getElem_toArray, List.getElem_cons_zero, List.getElem_cons_succ, List.setIfInBounds_toArray, List.set_cons_zero, List.set_cons_succ]
                refine wpAnyL_take (i := 21) (v := ?v18) rfl (by kernel_rfl) (by kernel_rfl) (by kernel_rfl) (by kernel_rfl) (fun _ _ _ h => h) (Or.inl ⟨by kernel_rfl, ?hy18⟩) (by assumption) ?r18
                case hy18 => (intro W s0; go_simp; try with_reducible rfl)
                try simp only [Act.put, List.getElem_toArray, List.getElem_cons_zero, List.getElem_cons_succ, List.setIfInBounds_toArray, List.set_cons_zero, List.set_cons_succ]
                refine wpAnyL_last (by kernel_rfl) rfl (fun K hK => ?_)
                have c3 := (hb.cell (p := ⟨g, 0, none⟩) hlgq).trans c0q
                have hg3 := Lib.hid ((hb.block _ hlgq).trans hcq.out)
                have f3 := frozen_of_row _ g 0 _ _ hg3.out
                go_simp
                refine hK.out _ _ ?_
                clear hK K
                try simp only [Act.put, List.getElem_toArray, List.getElem_cons_zero, List.getElem_cons_succ, List.setIfInBounds_toArray, List.set_cons_zero, List.set_cons_succ]
                refine wpAnyL_done (by kernel_rfl) ?_ _
                refine NoPanic.normal ?_
                have hD := rc_put HBq.out.size (HBq.out.trans (hb.mono HBq.out.size)) hlg HTn.out hg3.out HO3.out (ins_names Hs.out Hkl.out)
                have HD := Lib.hid hD
                clear hD
                go_wp2
                all_goals (go_ret; exact ⟨by rw [HR3.out]; rfl, by rw [HR3.out, HI.out, List.append_cons]; exact HD.out.1, HD.out.2⟩)
              refine AllReadyL.cons rfl (fun K hK => ?_) ?_
              · skip
                go_simp
                obtain ⟨gl, hgl, hgl2⟩ : ∃ gl, gl = wq.heap.size ∧ (wq.drew.alloc (.cells #[.string k, i64 0, i64 0, i64 lim] 70)).heap[gl]? = some (.cells #[.string k, i64 0, i64 0, i64 lim] 70 (0, 0)) := ⟨_, rfl, heap_alloc_new wq.drew _⟩
                have Hgl := Lib.hid hgl
                clear hgl
                have hgl := hgl2
                clear hgl2
                have hb := hb.alloc hb.size (.cells #[.string k, i64 0, i64 0, i64 lim] 70)
                refine hK.out _ _ ((hb.cell (p := ⟨g, 0, none⟩) hlgq).trans c0q) (fun hH => ?_)
                clear hK K
                try simp only [Act.put, List.getElem_toArray, List.getElem_cons_zero, List.getElem_cons_succ, List.setIfInBounds_toArray, List.set_cons_zero, List.set_cons_succ]
                refine wpAnyL_one (i := 7) (by kernel_rfl) rfl (by decide) (fun K hK => ?_)
                rw [if_pos (by rfl)]
                refine oper_append (.const (.slice none 0 0)) (.tmp 53) 46 rfl (.agg #[.string ByteArray.empty, i64 0, i64 0, i64 0]) 40 Tryz.underlying46 acInfo rfl (by decide) (by decide) rfl (Own.nil_ _ wq.heap.size 70) none 0 0 (([] : List Ac).take 0) rfl Hql.out (hTk.out _ hb) (by simp <;> omega) hb.size ?_
                intro v1 u1 hO1 hg1 hat1
                rw [List.nil_append] at hO1
                have hF := (Own.nil_ (α := Ac) _ _ 70).below hg1 (Nat.le_refl _) (Nat.le_refl _)
                have hne1 : some gl ≠ v1.ownBlock := by
                  rcases hat1 with h | h
                  · have h2 : v1.ownBlock = none := h
                    rw [h2]; simp
                  · have h2 : v1.ownBlock = some (wq.heap.size + 1) := by rw [h]; simp
                    rw [h2, Hgl.out]; intro e; injection e with e; omega
                have hgl := (hF.block _ (Array.getElem?_eq_some_iff.1 hgl).1).trans hgl
                have hb := below_on hb (Nat.le_refl _) hF
                have HO1 := Lib.hid hO1
                clear hF hg1 hat1 hO1
                refine hK.out _ _ ((hb.cell (p := ⟨g, 0, none⟩) hlgq).trans c0q) (fun hH => ?_)
                clear hK K
                try simp only [Act.put, List.getElem_toArray, List.getElem_cons_zero, List.getElem_cons_succ, List.setIfInBounds_toArray, List.set_cons_zero, List.set_cons_succ]
                refine wpAnyL_one (i := 12) (by kernel_rfl) rfl (by decide) (fun K hK => ?_)
                rw [if_pos (by rfl)]
                refine oper_append_one (.tmp 54) (.tmp 58) 46 rfl (.agg #[.string ByteArray.empty, i64 0, i64 0, i64 0]) 40 Tryz.underlying46 acInfo rfl (by decide) (by decide) rfl HO1.out gl (⟨k, 0, 0, lim⟩ : Ac) (by rw [Hgl.out]; rfl) _ 70 hgl rfl hne1 Hkl.out (by rw [← Hql.out]; omega) hb.size ?_
                intro v2 u2 hO2 hg2 hat2
                have hb := hb.trans (HO1.out.below hg2 (Nat.le_refl _) hb.size)
                have HO2 := Lib.hid hO2
                clear hg2 hat2 hO2 HO1 hgl hne1
                refine hK.out _ _ ((hb.cell (p := ⟨g, 0, none⟩) hlgq).trans c0q) (fun hH => ?_)
                clear hK K
                try simp only [Act.put, List.getElem_toArray, List.getElem_cons_zero, List.getElem_cons_succ, List.setIfInBounds_toArray, List.set_cons_zero, List.set_cons_succ]
                refine wpAnyL_one (i := 19) (by kernel_rfl) rfl (by decide) (fun K hK => ?_)
                rw [if_pos (by rfl)]
                refine oper_append (.tmp 59) (.tmp 65) 46 rfl (.agg #[.string ByteArray.empty, i64 0, i64 0, i64 0]) 40 Tryz.underlying46 acInfo rfl (by decide) (by decide) rfl HO2.out _ _ _ (([] : List Ac).drop 0) rfl (by simp) ((hDr.out _ hb).mono (HO2.out.oth (Nat.le_refl _) hb.size)) (by simp <;> omega) hb.size ?_
                intro v3 u3 hO3 hg3 hat3
                obtain ⟨A3, cap3, hv3, -⟩ := hO3.sl
                generalize List.length _ = n3 at hv3
                subst hv3
                have hb := hb.trans (HO2.out.below hg3 (Nat.le_refl _) hb.size)
                have HO3 := Lib.hid hO3
                clear hg3 hat3 hO3 HO2
                refine hK.out _ _ ((hb.cell (p := ⟨g, 0, none⟩) hlgq).trans c0q) (fun hH => ?_)
                clear hK K
                try simp only [Act.put, List.getElem_toArray, List.getElem_cons_zero, List.getElem_cons_succ, List.setIfInBounds_toArray, List.set_cons_zero, List.set_cons_succ]
                refine wpAnyL_take (i := 20) (v := ?v19) rfl (by kernel_rfl) (by kernel_rfl) (by kernel_rfl) (by kernel_rfl) (fun _ _ _ h => h) (Or.inl ⟨by kernel_rfl, ?hy19⟩) (by assumption) ?r19
                case hy19 => (intro W s0; go_simp; try with_reducible rfl)
                try simp only [Act.put, List.getElem_toArray, List.getElem_cons_zero, List.getElem_cons_succ, List.setIfInBounds_toArray, List.set_cons_zero, List.set_cons_succ]
                refine wpAnyL_take (i := 21) (v := ?v20) rfl (by kernel_rfl) (by kernel_rfl) (by kernel_rfl) (by kernel_rfl) (fun _ _ _ h => h) (Or.inl ⟨by kernel_rfl, ?hy20⟩) (by assumption) ?r20
                case hy20 => (intro W s0; go_simp; try with_reducible rfl)
                try simp only [Act.put, List.getElem_toArray, List.getElem_cons_zero, List.getElem_cons_succ, List.setIfInBounds_toArray, List.set_cons_zero, List.set_cons_succ]
                refine wpAnyL_last (by kernel_rfl) rfl (fun K hK => ?_)
                have c3 := (hb.cell (p := ⟨g, 0, none⟩) hlgq).trans c0q
                have hg3 := Lib.hid ((hb.block _ hlgq).trans hcq.out)
                have f3 := frozen_of_row _ g 0 _ _ hg3.out
                go_simp
                refine hK.out _ _ ?_
                clear hK K
                try simp only [Act.put, List.getElem_toArray, List.getElem_cons_zero, List.getElem_cons_succ, List.setIfInBounds_toArray, List.set_cons_zero, List.set_cons_succ]
                refine wpAnyL_done (by kernel_rfl) ?_ _
                refine NoPanic.normal ?_
                have hD := rc_put HBq.out.size (HBq.out.trans (hb.mono HBq.out.size)) hlg HTn.out hg3.out HO3.out (ins_names Hs.out Hkl.out)
                have HD := Lib.hid hD
                clear hD
                go_wp2
                all_goals (go_ret; exact ⟨by rw [HR3.out]; rfl, by rw [HR3.out, HI.out, List.append_cons]; exact HD.out.1, HD.out.2⟩)
              exact AllReadyL.nil
            · have Hq0 := Lib.hid hq0
              clear hq0
              go_wp2_with fail
              have HI := Lib.hid (insB_at keyA.strict ⟨k, 0, 0, lim⟩ L q HS.out (by omega) (fun j h hj => absurd hj (by have := Hq0.out; omega)) (fun j h hj => keyA.strict.asymm (show ltA ⟨k, 0, 0, lim⟩ L[j] = true from Hup.out j h hj)))
              have HBq := Lib.hid (below_on HB1.out (Nat.le_refl _) hB)
              have hcq := Lib.hid ((hB.block _ hlg1).trans Hc.out)
              have hlgq := Nat.lt_of_lt_of_le hlg1 hB.size
              have c0q := (hB.cell (p := ⟨g, 0, none⟩) hlg1).trans c0
              have hsq := Lib.hid (Hs.out.below_ hB)
              have hTk := Lib.hid (fun (V : World) (h : Below wq.heap.size wq V) => (show SlS V (Oth V (.slice none 0 0)) (some ⟨b, o, none⟩) c (L.take q) from ((hsq.out.below_ h).take q).keep (fun _ _ => rfl) (fun b hb => ⟨hb.1, by simp [Value.ownBlock]⟩)))
              have hDr := Lib.hid (fun (V : World) (h : Below wq.heap.size wq V) => (show Sl V wq.heap.size (if c = q then some ⟨b, o, none⟩ else some ⟨b, o + q * 4, none⟩) (c - q) (L.drop q) from by
                    have := ((hsq.out.mono (fun b hb => hb.1)).drop (k := q) (by omega)).below h
                    rwa [Option.map_some, show (⟨b, o, none⟩ : Addr).add (q * Enc.size Ac) = ⟨b, o + q * 4, none⟩ from add_none_ ..] at this))
              have Hql := Lib.hid (show q = (L.take q).length by rw [List.length_take]; omega)
              have q1 : ((q : Nat) : Int) ≤ (c : Int) := by omega
              have q2 : ((q : Nat) : Int) ≤ (@L.length : Int) := by omega
              have q3 : (@L.length : Int) ≤ (c : Int) := by omega
              have q0 : (0 : Int) ≤ ((q : Nat) : Int) := by omega
              clear hB c0
              have hb : Below wq.heap.size wq wq.drew := (Below.refl _ _).drew
              refine wp_region_noPanic ?_
              refine wp_region_l 22 (fun V => V.cell? ⟨g, 0, none⟩ = some (.slice (some ⟨b, o, none⟩) L.length c)) (by kernel_rfl) ((hb.cell (p := ⟨g, 0, none⟩) hlgq).trans c0q) (fun hH => ?_)
              refine wpAnyL_take (i := 0) (v := ?v21) rfl (by kernel_rfl) (by kernel_rfl) (by kernel_rfl) (by kernel_rfl) (fun _ _ _ h => h) (Or.inl ⟨by kernel_rfl, ?hy21⟩) (by assumption) ?r21
              case hy21 => (intro W s0; go_simp; try with_reducible rfl)
              try simp only [Act.put, List.getElem_toArray, List.getElem_cons_zero, List.setIfInBounds_toArray, List.set_cons_zero, List.set_cons_succ]
              refine wpAnyL_take (i := 1) (v := ?v22) rfl (by kernel_rfl) (by kernel_rfl) (by kernel_rfl) (by kernel_rfl) (fun _ _ _ h => h) (Or.inl ⟨by kernel_rfl, ?hy22⟩) (by assumption) ?r22
              case hy22 => (intro W s0; go_simp; try with_reducible rfl)
              try simp only [Act.put, List.getElem_toArray, List.getElem_cons_zero, List.getElem_cons_succ, List.setIfInBounds_toArray, List.set_cons_zero, List.set_cons_succ]
              refine wpAnyL_take (i := 2) (v := ?v23) rfl (by kernel_rfl) (by kernel_rfl) (by kernel_rfl) (by kernel_rfl) (fun _ _ _ h => h) (Or.inl ⟨by kernel_rfl, ?hy23⟩) (by assumption) ?r23
              case hy23 => (intro W s0; go_simp; try with_reducible rfl)
              try simp only [Act.put, List.getElem_toArray, List.getElem_cons_zero, List.getElem_cons_succ, List.setIfInBounds_toArray, List.set_cons_zero, List.set_cons_succ]
              refine wpAnyL_take (i := 3) (v := ?v24) rfl (by kernel_rfl) (by kernel_rfl) (by kernel_rfl) (by kernel_rfl) (fun _ _ _ h => h) (Or.inl ⟨by kernel_rfl, ?hy24⟩) (by assumption) ?r24
              case hy24 => (intro W s0; go_simp; try with_reducible rfl)
              try simp only [Act.put, List.getElem_toArray, List.getElem_cons_zero, List.getElem_cons_succ, List.setIfInBounds_toArray, List.set_cons_zero, List.set_cons_succ]
              refine wpAnyL_take (i := 4) (v := ?v25) rfl (by kernel_rfl) (by kernel_rfl) (by kernel_rfl) (by kernel_rfl) (fun _ _ _ h => h) (Or.inl ⟨by kernel_rfl, ?hy25⟩) (by assumption) ?r25
              case hy25 => (intro W s0; go_simp; try with_reducible rfl)
              try simp only [Act.put, List.getElem_toArray, List.getElem_cons_zero, List.getElem_cons_succ, List.setIfInBounds_toArray, List.set_cons_zero, List.set_cons_succ]
              refine wpAnyL_take (i := 5) (v := ?v26) rfl (by kernel_rfl) (by kernel_rfl) (by kernel_rfl) (by kernel_rfl) (fun _ _ _ h => h) (Or.inl ⟨by kernel_rfl, ?hy26⟩) (by assumption) ?r26
              case hy26 => (intro W s0; go_simp; try with_reducible rfl)
              try simp only [Act.put, List.getElem_toArray, List.getElem_cons_zero, List.getElem_cons_succ, List.setIfInBounds_toArray, List.set_cons_zero, List.set_cons_succ]
              refine wpAnyL_take (i := 6) (v := ?v27) rfl (by kernel_rfl) (by kernel_rfl) (by kernel_rfl) (by kernel_rfl) (fun _ _ _ h => h) (Or.inl ⟨by kernel_rfl, ?hy27⟩) (by assumption) ?r27
              case hy27 => (intro W s0; go_simp; try with_reducible rfl)
              try simp only [Act.put, List.getElem_toArray, List.getElem_cons_zero, List.getElem_cons_succ, List.setIfInBounds_toArray, List.set_cons_zero, List.set_cons_succ]
              refine wpAnyL_take (i := 8) (v := ?v28) rfl (by kernel_rfl) (by kernel_rfl) (by kernel_rfl) (by kernel_rfl) (fun _ _ _ h => h) (Or.inl ⟨by kernel_rfl, ?hy28⟩) (by assumption) ?r28
              case hy28 => (intro W s0; go_simp; try with_reducible rfl)
              try simp only [Act.put, List.getElem_toArray, List.getElem_cons_zero, List.getElem_cons_succ, List.setIfInBounds_toArray, List.set_cons_zero, List.set_cons_succ]
              refine wpAnyL_take (i := 9) (v := ?v29) rfl (by kernel_rfl) (by kernel_rfl) (by kernel_rfl) (by kernel_rfl) (fun _ _ _ h => h) (Or.inl ⟨by kernel_rfl, ?hy29⟩) (by assumption) ?r29
              case hy29 => (intro W s0; go_simp; try with_reducible rfl)
              try simp only [Act.put, List.getElem_toArray, List.getElem_cons_zero, List.getElem_cons_succ, List.setIfInBounds_toArray, List.set_cons_zero, List.set_cons_succ]
              refine wpAnyL_take (i := 10) (v := ?v30) rfl (by kernel_rfl) (by kernel_rfl) (by kernel_rfl) (by kernel_rfl) (fun _ _ _ h => h) (Or.inl ⟨by kernel_rfl, ?hy30⟩) (by assumption) ?r30
              case hy30 => (intro W s0; go_simp; try with_reducible rfl)
              try simp only [Act.put, List.getElem_toArray, List.getElem_cons_zero, List.getElem_cons_succ, List.setIfInBounds_toArray, List.set_cons_zero, List.set_cons_succ]
              refine wpAnyL_take (i := 13) (v := ?v31) rfl (by kernel_rfl) (by kernel_rfl) (by kernel_rfl) (by kernel_rfl) (fun _ _ _ h => h) (Or.inl ⟨by kernel_rfl, ?hy31⟩) (by assumption) ?r31
              case hy31 => (intro W s0; go_simp; try with_reducible rfl)
              try simp only [Act.put, List.getElem_toArray, List.getElem_cons_zero, List.getElem_cons_succ, List.setIfInBounds_toArray, List.set_cons_zero, List.set_cons_succ]
              refine wpAnyL_take (i := 14) (v := ?v32) rfl (by kernel_rfl) (by kernel_rfl) (by kernel_rfl) (by kernel_rfl) (fun _ _ _ h => h) (Or.inl ⟨by kernel_rfl, ?hy32⟩) (by assumption) ?r32
              case hy32 => (intro W s0; go_simp; try with_reducible rfl)
              try simp only [Act.put, List.getElem_toArray, List.getElem_cons_zero, List.getElem_cons_succ, List.setIfInBounds_toArray, List.set_cons_zero, List.set_cons_succ]
              refine wpAnyL_take (i := 15) (v := ?v33) rfl (by kernel_rfl) (by kernel_rfl) (by kernel_rfl) (by kernel_rfl) (fun _ _ _ h => h) (Or.inl ⟨by kernel_rfl, ?hy33⟩) (by assumption) ?r33
              case hy33 => (intro W s0; go_simp; try with_reducible rfl)
              try simp only [Act.put, List.getElem_toArray, List.getElem_cons_zero, List.getElem_cons_succ, List.setIfInBounds_toArray, List.set_cons_zero, List.set_cons_succ]
              refine wpAnyL_take (i := 16) (v := ?v34) rfl (by kernel_rfl) (by kernel_rfl) (by kernel_rfl) (by kernel_rfl) (fun _ _ _ h => h) (Or.inl ⟨by kernel_rfl, ?hy34⟩) (by assumption) ?r34
              case hy34 => (intro W s0; go_simp; try with_reducible rfl)
              try simp only [Act.put, List.getElem_toArray, List.getElem_cons_zero, List.getElem_cons_succ, List.setIfInBounds_toArray, List.set_cons_zero, List.set_cons_succ]
              refine wpAnyL_take (i := 17) (v := ?v35) rfl (by kernel_rfl) (by kernel_rfl) (by kernel_rfl) (by kernel_rfl) (fun _ _ _ h => h) (Or.inl ⟨by kernel_rfl, ?hy35⟩) (by assumption) ?r35
              case hy35 => (intro W s0; go_simp; try with_reducible rfl)
              try simp only [Act.put, List.getElem_toArray, List.getElem_cons_zero, List.getElem_cons_succ, List.setIfInBounds_toArray, List.set_cons_zero, List.set_cons_succ]
              refine wpAnyL_take (i := 18) (v := ?v36) rfl (by kernel_rfl) (by kernel_rfl) (by kernel_rfl) (by kernel_rfl) (fun _ _ _ h => h) (Or.inl ⟨by kernel_rfl, ?hy36⟩) (by assumption) ?r36
              case hy36 => (intro W s0; go_simp; try with_reducible rfl)
              try simp only [Act.put, List.getElem_toArray, List.getElem_cons_zero, List.getElem_cons_succ, List.setIfInBounds_toArray, List.set_cons_zero, List.set_cons_succ]
              refine wpAnyL_ready (rs := [7, 11]) (by kernel_rfl) (by simp) ?_
              refine AllReadyL.cons rfl (fun K hK => ?_) ?_
              · skip
                rw [if_pos (by rfl)]
                refine oper_append (.const (.slice none 0 0)) (.tmp 53) 46 rfl (.agg #[.string ByteArray.empty, i64 0, i64 0, i64 0]) 40 Tryz.underlying46 acInfo rfl (by decide) (by decide) rfl (Own.nil_ _ wq.heap.size 70) (some ⟨b, o, none⟩) q c (L.take q) rfl Hql.out (hTk.out _ hb) (by simp <;> omega) hb.size ?_
                intro v1 u1 hO1 hg1 hat1
                rw [List.nil_append] at hO1
                have hF := (Own.nil_ (α := Ac) _ _ 70).below hg1 (Nat.le_refl _) (Nat.le_refl _)
                have hb := below_on hb (Nat.le_refl _) hF
                have HO1 := Lib.hid hO1
                clear hF hg1 hat1 hO1
                refine hK.out _ _ ((hb.cell (p := ⟨g, 0, none⟩) hlgq).trans c0q) (fun hH => ?_)
                clear hK K
                try simp only [Act.put, List.getElem_toArray, List.getElem_cons_zero, List.getElem_cons_succ, List.setIfInBounds_toArray, List.set_cons_zero, List.set_cons_succ]
                refine wpAnyL_one (i := 11) (by kernel_rfl) rfl (by decide) (fun K hK => ?_)
                go_simp
                have hgl : (u1.alloc (.cells #[.string k, i64 0, i64 0, i64 lim] 70)).heap[u1.heap.size]? = some (.cells #[.string k, i64 0, i64 0, i64 lim] 70 (0, 0)) := heap_alloc_new u1 _
                have hne1 := HO1.out.new_ne (Nat.le_refl u1.heap.size)
                have HO1 := Lib.hid (HO1.out.later ((Below.refl _ _).alloc (Nat.le_refl _) (.cells #[.string k, i64 0, i64 0, i64 lim] 70)))
                have hb := hb.alloc hb.size (.cells #[.string k, i64 0, i64 0, i64 lim] 70)
                refine hK.out _ _ ((hb.cell (p := ⟨g, 0, none⟩) hlgq).trans c0q) (fun hH => ?_)
                clear hK K
                try simp only [Act.put, List.getElem_toArray, List.getElem_cons_zero, List.getElem_cons_succ, List.setIfInBounds_toArray, List.set_cons_zero, List.set_cons_succ]
                refine wpAnyL_one (i := 12) (by kernel_rfl) rfl (by decide) (fun K hK => ?_)
                rw [if_pos (by rfl)]
                refine oper_append_one (.tmp 54) (.tmp 58) 46 rfl (.agg #[.string ByteArray.empty, i64 0, i64 0, i64 0]) 40 Tryz.underlying46 acInfo rfl (by decide) (by decide) rfl HO1.out u1.heap.size (⟨k, 0, 0, lim⟩ : Ac) (by rfl) _ 70 hgl rfl hne1 Hkl.out (by rw [← Hql.out]; omega) hb.size ?_
                intro v2 u2 hO2 hg2 hat2
                have hb := hb.trans (HO1.out.below hg2 (Nat.le_refl _) hb.size)
                have HO2 := Lib.hid hO2
                clear hg2 hat2 hO2 HO1 hgl hne1
                refine hK.out _ _ ((hb.cell (p := ⟨g, 0, none⟩) hlgq).trans c0q) (fun hH => ?_)
                clear hK K
                try simp only [Act.put, List.getElem_toArray, List.getElem_cons_zero, List.getElem_cons_succ, List.setIfInBounds_toArray, List.set_cons_zero, List.set_cons_succ]
                refine wpAnyL_one (i := 19) (by kernel_rfl) rfl (by decide) (fun K hK => ?_)
                rw [if_pos (by rfl)]
                refine oper_append (.tmp 59) (.tmp 65) 46 rfl (.agg #[.string ByteArray.empty, i64 0, i64 0, i64 0]) 40 Tryz.underlying46 acInfo rfl (by decide) (by decide) rfl HO2.out _ _ _ (L.drop q) rfl (by simp) ((hDr.out _ hb).mono (HO2.out.oth (Nat.le_refl _) hb.size)) (by simp <;> omega) hb.size ?_
                intro v3 u3 hO3 hg3 hat3
                obtain ⟨A3, cap3, hv3, -⟩ := hO3.sl
                generalize List.length _ = n3 at hv3
                subst hv3
                have hb := hb.trans (HO2.out.below hg3 (Nat.le_refl _) hb.size)
                have HO3 := Lib.hid hO3
                clear hg3 hat3 hO3 HO2
                refine hK.out _ _ ((hb.cell (p := ⟨g, 0, none⟩) hlgq).trans c0q) (fun hH => ?_)
                clear hK K
                try simp only [Act.put, List.getElem_toArray, List.getElem_cons_zero, List.getElem_cons_succ, List.setIfInBounds_toArray, List.set_cons_zero, List.set_cons_succ]
                refine wpAnyL_take (i := 20) (v := ?v37) rfl (by kernel_rfl) (by kernel_rfl) (by kernel_rfl) (by kernel_rfl) (fun _ _ _ h => h) (Or.inl ⟨by kernel_rfl, ?hy37⟩) (by assumption) ?r37
                case hy37 => (intro W s0; go_simp; try with_reducible rfl)
                try simp only [Act.put, List.getElem_toArray, List.getElem_cons_zero, List.getElem_cons_succ, List.setIfInBounds_toArray, List.set_cons_zero, List.set_cons_succ]
                refine wpAnyL_take (i := 21) (v := ?v38) rfl (by kernel_rfl) (by kernel_rfl) (by kernel_rfl) (by kernel_rfl) (fun _ _ _ h => h) (Or.inl ⟨by kernel_rfl, ?hy38⟩) (by assumption) ?r38
                case hy38 => (intro W s0; go_simp; try with_reducible rfl)
                try simp only [Act.put, List.getElem_toArray, List.getElem_cons_zero, List.getElem_cons_succ, List.setIfInBounds_toArray, List.set_cons_zero, List.set_cons_succ]
                refine wpAnyL_last (by kernel_rfl) rfl (fun K hK => ?_)
                have c3 := (hb.cell (p := ⟨g, 0, none⟩) hlgq).trans c0q
                have hg3 := Lib.hid ((hb.block _ hlgq).trans hcq.out)
                have f3 := frozen_of_row _ g 0 _ _ hg3.out
                go_simp
                refine hK.out _ _ ?_
                clear hK K
                try simp only [Act.put, List.getElem_toArray, List.getElem_cons_zero, List.getElem_cons_succ, List.setIfInBounds_toArray, List.set_cons_zero, List.set_cons_succ]
                refine wpAnyL_done (by kernel_rfl) ?_ _
                refine NoPanic.normal ?_
                have hD := rc_put HBq.out.size (HBq.out.trans (hb.mono HBq.out.size)) hlg HTn.out hg3.out HO3.out (ins_names Hs.out Hkl.out)
                have HD := Lib.hid hD
                clear hD
                go_wp2
                all_goals (go_ret; exact ⟨by rw [HR3.out]; rfl, by rw [HR3.out, HI.out, List.append_cons]; exact HD.out.1, HD.out.2⟩)
              refine AllReadyL.cons rfl (fun K hK => ?_) ?_
              · skip
                go_simp
                obtain ⟨gl, hgl, hgl2⟩ : ∃ gl, gl = wq.heap.size ∧ (wq.drew.alloc (.cells #[.string k, i64 0, i64 0, i64 lim] 70)).heap[gl]? = some (.cells #[.string k, i64 0, i64 0, i64 lim] 70 (0, 0)) := ⟨_, rfl, heap_alloc_new wq.drew _⟩
                have Hgl := Lib.hid hgl
                clear hgl
                have hgl := hgl2
                clear hgl2
                have hb := hb.alloc hb.size (.cells #[.string k, i64 0, i64 0, i64 lim] 70)
                refine hK.out _ _ ((hb.cell (p := ⟨g, 0, none⟩) hlgq).trans c0q) (fun hH => ?_)
                clear hK K
                try simp only [Act.put, List.getElem_toArray, List.getElem_cons_zero, List.getElem_cons_succ, List.setIfInBounds_toArray, List.set_cons_zero, List.set_cons_succ]
                refine wpAnyL_one (i := 7) (by kernel_rfl) rfl (by decide) (fun K hK => ?_)
                rw [if_pos (by rfl)]
                refine oper_append (.const (.slice none 0 0)) (.tmp 53) 46 rfl (.agg #[.string ByteArray.empty, i64 0, i64 0, i64 0]) 40 Tryz.underlying46 acInfo rfl (by decide) (by decide) rfl (Own.nil_ _ wq.heap.size 70) (some ⟨b, o, none⟩) q c (L.take q) rfl Hql.out (hTk.out _ hb) (by simp <;> omega) hb.size ?_
                intro v1 u1 hO1 hg1 hat1
                rw [List.nil_append] at hO1
                have hF := (Own.nil_ (α := Ac) _ _ 70).below hg1 (Nat.le_refl _) (Nat.le_refl _)
                have hne1 : some gl ≠ v1.ownBlock := by
                  rcases hat1 with h | h
                  · have h2 : v1.ownBlock = none := h
                    rw [h2]; simp
                  · have h2 : v1.ownBlock = some (wq.heap.size + 1) := by rw [h]; simp
                    rw [h2, Hgl.out]; intro e; injection e with e; omega
                have hgl := (hF.block _ (Array.getElem?_eq_some_iff.1 hgl).1).trans hgl
                have hb := below_on hb (Nat.le_refl _) hF
                have HO1 := Lib.hid hO1
                clear hF hg1 hat1 hO1
                refine hK.out _ _ ((hb.cell (p := ⟨g, 0, none⟩) hlgq).trans c0q) (fun hH => ?_)
                clear hK K
                try simp only [Act.put, List.getElem_toArray, List.getElem_cons_zero, List.getElem_cons_succ, List.setIfInBounds_toArray, List.set_cons_zero, List.set_cons_succ]
                refine wpAnyL_one (i := 12) (by kernel_rfl) rfl (by decide) (fun K hK => ?_)
                rw [if_pos (by rfl)]
                refine oper_append_one (.tmp 54) (.tmp 58) 46 rfl (.agg #[.string ByteArray.empty, i64 0, i64 0, i64 0]) 40 Tryz.underlying46 acInfo rfl (by decide) (by decide) rfl HO1.out gl (⟨k, 0, 0, lim⟩ : Ac) (by rw [Hgl.out]; rfl) _ 70 hgl rfl hne1 Hkl.out (by rw [← Hql.out]; omega) hb.size ?_
                intro v2 u2 hO2 hg2 hat2
                have hb := hb.trans (HO1.out.below hg2 (Nat.le_refl _) hb.size)
                have HO2 := Lib.hid hO2
                clear hg2 hat2 hO2 HO1 hgl hne1
                refine hK.out _ _ ((hb.cell (p := ⟨g, 0, none⟩) hlgq).trans c0q) (fun hH => ?_)
                clear hK K
                try simp only [Act.put, List.getElem_toArray, List.getElem_cons_zero, List.getElem_cons_succ, List.setIfInBounds_toArray, List.set_cons_zero, List.set_cons_succ]
                refine wpAnyL_one (i := 19) (by kernel_rfl) rfl (by decide) (fun K hK => ?_)
                rw [if_pos (by rfl)]
                refine oper_append (.tmp 59) (.tmp 65) 46 rfl (.agg #[.string ByteArray.empty, i64 0, i64 0, i64 0]) 40 Tryz.underlying46 acInfo rfl (by decide) (by decide) rfl HO2.out _ _ _ (L.drop q) rfl (by simp) ((hDr.out _ hb).mono (HO2.out.oth (Nat.le_refl _) hb.size)) (by simp <;> omega) hb.size ?_
                intro v3 u3 hO3 hg3 hat3
                obtain ⟨A3, cap3, hv3, -⟩ := hO3.sl
                generalize List.length _ = n3 at hv3
                subst hv3
                have hb := hb.trans (HO2.out.below hg3 (Nat.le_refl _) hb.size)
                have HO3 := Lib.hid hO3
                clear hg3 hat3 hO3 HO2
                refine hK.out _ _ ((hb.cell (p := ⟨g, 0, none⟩) hlgq).trans c0q) (fun hH => ?_)
                clear hK K
                try simp only [Act.put, List.getElem_toArray, List.getElem_cons_zero, List.getElem_cons_succ, List.setIfInBounds_toArray, List.set_cons_zero, List.set_cons_succ]
                refine wpAnyL_take (i := 20) (v := ?v39) rfl (by kernel_rfl) (by kernel_rfl) (by kernel_rfl) (by kernel_rfl) (fun _ _ _ h => h) (Or.inl ⟨by kernel_rfl, ?hy39⟩) (by assumption) ?r39
                case hy39 => (intro W s0; go_simp; try with_reducible rfl)
                try simp only [Act.put, List.getElem_toArray, List.getElem_cons_zero, List.getElem_cons_succ, List.setIfInBounds_toArray, List.set_cons_zero, List.set_cons_succ]
                refine wpAnyL_take (i := 21) (v := ?v40) rfl (by kernel_rfl) (by kernel_rfl) (by kernel_rfl) (by kernel_rfl) (fun _ _ _ h => h) (Or.inl ⟨by kernel_rfl, ?hy40⟩) (by assumption) ?r40
                case hy40 => (intro W s0; go_simp; try with_reducible rfl)
                try simp only [Act.put, List.getElem_toArray, List.getElem_cons_zero, List.getElem_cons_succ, List.setIfInBounds_toArray, List.set_cons_zero, List.set_cons_succ]
                refine wpAnyL_last (by kernel_rfl) rfl (fun K hK => ?_)
                have c3 := (hb.cell (p := ⟨g, 0, none⟩) hlgq).trans c0q
                have hg3 := Lib.hid ((hb.block _ hlgq).trans hcq.out)
                have f3 := frozen_of_row _ g 0 _ _ hg3.out
                go_simp
                refine hK.out _ _ ?_
                clear hK K
                try simp only [Act.put, List.getElem_toArray, List.getElem_cons_zero, List.getElem_cons_succ, List.setIfInBounds_toArray, List.set_cons_zero, List.set_cons_succ]
                refine wpAnyL_done (by kernel_rfl) ?_ _
                refine NoPanic.normal ?_
                have hD := rc_put HBq.out.size (HBq.out.trans (hb.mono HBq.out.size)) hlg HTn.out hg3.out HO3.out (ins_names Hs.out Hkl.out)
                have HD := Lib.hid hD
                clear hD
                go_wp2
                all_goals (go_ret; exact ⟨by rw [HR3.out]; rfl, by rw [HR3.out, HI.out, List.append_cons]; exact HD.out.1, HD.out.2⟩)
              exact AllReadyL.nil
          · have g4 : decide ((0 : Int) < (q : Int)) = true := decide_eq_true (by omega)
            have hq1 : q - 1 < L.length := by omega
            obtain ⟨b, o, rfl, hb, hsz, d0, _⟩ := (Hs.out.below_ hB).ac hq1
            have hRa := Lib.hid fun W => rahead_c k L[q - 1].name Hkl.out hsz W
            have e1 : IntKind.i64.wrap ((q : Int) - 1) = ((q - 1 : Nat) : Int) := by rw [IntKind.wrap_i64]; omega
            have i0 : (0 : Int) ≤ ((q - 1 : Nat) : Int) := by omega
            have i1 : ((q - 1 : Nat) : Int) < (L.length : Int) := by omega
            clear hsz hf
            go_wp2_with fail
            refine (hRa.out _).mono ?_
            rintro e wq ⟨rfl, hF⟩
            have hB := below_on hB (Nat.le_refl _) hF
            clear hF hRa d0 hb c0r
            cases hbl : bless k L[q - 1].name with
            | true =>
              have Hbl := Lib.hid hbl
              clear hbl
              go_wp2
              go_roundw
              case rel => exact ⟨q - 1, by go_num, by omega, fun j h1 h2 => by
                  rcases Nat.eq_or_lt_of_le h2 with rfl | h2
                  · exact Hbl.out
                  · exact Hup.out j h1 (by omega), hB⟩
              case measure => simp [intOf]; omega
            | false =>
              have Hbl := Lib.hid hbl
              clear hbl e1 i0 i1
              go_wp2_with fail
              have HI := Lib.hid (insB_at keyA.strict ⟨k, 0, 0, lim⟩ L q HS.out (by omega) (ins_lo HS.out hq1 Hbl.out Hno.out) (fun j h hj => keyA.strict.asymm (show ltA ⟨k, 0, 0, lim⟩ L[j] = true from Hup.out j h hj)))
              have HBq := Lib.hid (below_on HB1.out (Nat.le_refl _) hB)
              have hcq := Lib.hid ((hB.block _ hlg1).trans Hc.out)
              have hlgq := Nat.lt_of_lt_of_le hlg1 hB.size
              have c0q := (hB.cell (p := ⟨g, 0, none⟩) hlg1).trans c0
              have hsq := Lib.hid (Hs.out.below_ hB)
              have hTk := Lib.hid (fun (V : World) (h : Below wq.heap.size wq V) => (show SlS V (Oth V (.slice none 0 0)) (some ⟨b, o, none⟩) c (L.take q) from ((hsq.out.below_ h).take q).keep (fun _ _ => rfl) (fun b hb => ⟨hb.1, by simp [Value.ownBlock]⟩)))
              have hDr := Lib.hid (fun (V : World) (h : Below wq.heap.size wq V) => (show Sl V wq.heap.size (if c = q then some ⟨b, o, none⟩ else some ⟨b, o + q * 4, none⟩) (c - q) (L.drop q) from by
                    have := ((hsq.out.mono (fun b hb => hb.1)).drop (k := q) (by omega)).below h
                    rwa [Option.map_some, show (⟨b, o, none⟩ : Addr).add (q * Enc.size Ac) = ⟨b, o + q * 4, none⟩ from add_none_ ..] at this))
              have Hql := Lib.hid (show q = (L.take q).length by rw [List.length_take]; omega)
              have q1 : ((q : Nat) : Int) ≤ (c : Int) := by omega
              have q2 : ((q : Nat) : Int) ≤ (@L.length : Int) := by omega
              have q3 : (@L.length : Int) ≤ (c : Int) := by omega
              have q0 : (0 : Int) ≤ ((q : Nat) : Int) := by omega
              clear hB c0
              have hb : Below wq.heap.size wq wq.drew := (Below.refl _ _).drew
              refine wp_region_noPanic ?_
              refine wp_region_l 22 (fun V => V.cell? ⟨g, 0, none⟩ = some (.slice (some ⟨b, o, none⟩) L.length c)) (by kernel_rfl) ((hb.cell (p := ⟨g, 0, none⟩) hlgq).trans c0q) (fun hH => ?_)
              refine wpAnyL_take (i := 0) (v := ?v41) rfl (by kernel_rfl) (by kernel_rfl) (by kernel_rfl) (by kernel_rfl) (fun _ _ _ h => h) (Or.inl ⟨by kernel_rfl, ?hy41⟩) (by assumption) ?r41
              case hy41 => (intro W s0; go_simp; try with_reducible rfl)
              try simp only [Act.put, List.getElem_toArray, List.getElem_cons_zero, List.setIfInBounds_toArray, List.set_cons_zero, List.set_cons_succ]
              refine wpAnyL_take (i := 1) (v := ?v42) rfl (by kernel_rfl) (by kernel_rfl) (by kernel_rfl) (by kernel_rfl) (fun _ _ _ h => h) (Or.inl ⟨by kernel_rfl, ?hy42⟩) (by assumption) ?r42
              case hy42 => (intro W s0; go_simp; try with_reducible rfl)
              try simp only [Act.put, List.getElem_toArray, List.getElem_cons_zero, List.getElem_cons_succ, List.setIfInBounds_toArray, List.set_cons_zero, List.set_cons_succ]
              refine wpAnyL_take (i := 2) (v := ?v43) rfl (by kernel_rfl) (by kernel_rfl) (by kernel_rfl) (by kernel_rfl) (fun _ _ _ h => h) (Or.inl ⟨by kernel_rfl, ?hy43⟩) (by assumption) ?r43
              case hy43 => (intro W s0; go_simp; try with_reducible rfl)
              try simp only [Act.put, List.getElem_toArray, List.getElem_cons_zero, List.getElem_cons_succ, List.setIfInBounds_toArray, List.set_cons_zero, List.set_cons_succ]
              refine wpAnyL_take (i := 3) (v := ?v44) rfl (by kernel_rfl) (by kernel_rfl) (by kernel_rfl) (by kernel_rfl) (fun _ _ _ h => h) (Or.inl ⟨by kernel_rfl, ?hy44⟩) (by assumption) ?r44
              case hy44 => (intro W s0; go_simp; try with_reducible rfl)
              try simp only [Act.put, List.getElem_toArray, List.getElem_cons_zero, List.getElem_cons_succ, List.setIfInBounds_toArray, List.set_cons_zero, List.set_cons_succ]
              refine wpAnyL_take (i := 4) (v := ?v45) rfl (by kernel_rfl) (by kernel_rfl) (by kernel_rfl) (by kernel_rfl) (fun _ _ _ h => h) (Or.inl ⟨by kernel_rfl, ?hy45⟩) (by assumption) ?r45
              case hy45 => (intro W s0; go_simp; try with_reducible rfl)
              try simp only [Act.put, List.getElem_toArray, List.getElem_cons_zero, List.getElem_cons_succ, List.setIfInBounds_toArray, List.set_cons_zero, List.set_cons_succ]
              refine wpAnyL_take (i := 5) (v := ?v46) rfl (by kernel_rfl) (by kernel_rfl) (by kernel_rfl) (by kernel_rfl) (fun _ _ _ h => h) (Or.inl ⟨by kernel_rfl, ?hy46⟩) (by assumption) ?r46
              case hy46 => (intro W s0; go_simp; try with_reducible rfl)
              try simp only [Act.put, List.getElem_toArray, List.getElem_cons_zero, List.getElem_cons_succ, List.setIfInBounds_toArray, List.set_cons_zero, List.set_cons_succ]
              refine wpAnyL_take (i := 6) (v := ?v47) rfl (by kernel_rfl) (by kernel_rfl) (by kernel_rfl) (by kernel_rfl) (fun _ _ _ h => h) (Or.inl ⟨by kernel_rfl, ?hy47⟩) (by assumption) ?r47
              case hy47 => (intro W s0; go_simp; try with_reducible rfl)
              try simp only [Act.put, List.getElem_toArray, List.getElem_cons_zero, List.getElem_cons_succ, List.setIfInBounds_toArray, List.set_cons_zero, List.set_cons_succ]
              refine wpAnyL_take (i := 8) (v := ?v48) rfl (by kernel_rfl) (by kernel_rfl) (by kernel_rfl) (by kernel_rfl) (fun _ _ _ h => h) (Or.inl ⟨by kernel_rfl, ?hy48⟩) (by assumption) ?r48
              case hy48 => (intro W s0; go_simp; try with_reducible rfl)
              try simp only [Act.put, List.getElem_toArray, List.getElem_cons_zero, List.getElem_cons_succ, List.setIfInBounds_toArray, List.set_cons_zero, List.set_cons_succ]
              refine wpAnyL_take (i := 9) (v := ?v49) rfl (by kernel_rfl) (by kernel_rfl) (by kernel_rfl) (by kernel_rfl) (fun _ _ _ h => h) (Or.inl ⟨by kernel_rfl, ?hy49⟩) (by assumption) ?r49
              case hy49 => (intro W s0; go_simp; try with_reducible rfl)
              try simp only [Act.put, List.getElem_toArray, List.getElem_cons_zero, List.getElem_cons_succ, List.setIfInBounds_toArray, List.set_cons_zero, List.set_cons_succ]
              refine wpAnyL_take (i := 10) (v := ?v50) rfl (by kernel_rfl) (by kernel_rfl) (by kernel_rfl) (by kernel_rfl) (fun _ _ _ h => h) (Or.inl ⟨by kernel_rfl, ?hy50⟩) (by assumption) ?r50
              case hy50 => (intro W s0; go_simp; try with_reducible rfl)
              try simp only [Act.put, List.getElem_toArray, List.getElem_cons_zero, List.getElem_cons_succ, List.setIfInBounds_toArray, List.set_cons_zero, List.set_cons_succ]
              refine wpAnyL_take (i := 13) (v := ?v51) rfl (by kernel_rfl) (by kernel_rfl) (by kernel_rfl) (by kernel_rfl) (fun _ _ _ h => h) (Or.inl ⟨by kernel_rfl, ?hy51⟩) (by assumption) ?r51
              case hy51 => (intro W s0; go_simp; try with_reducible rfl)
              try simp only [Act.put, List.getElem_toArray, List.getElem_cons_zero, List.getElem_cons_succ, List.setIfInBounds_toArray, List.set_cons_zero, List.set_cons_succ]
              refine wpAnyL_take (i := 14) (v := ?v52) rfl (by kernel_rfl) (by kernel_rfl) (by kernel_rfl) (by kernel_rfl) (fun _ _ _ h => h) (Or.inl ⟨by kernel_rfl, ?hy52⟩) (by assumption) ?r52
              case hy52 => (intro W s0; go_simp; try with_reducible rfl)
              try simp only [Act.put, List.getElem_toArray, List.getElem_cons_zero, List.getElem_cons_succ, List.setIfInBounds_toArray, List.set_cons_zero, List.set_cons_succ]
              refine wpAnyL_take (i := 15) (v := ?v53) rfl (by kernel_rfl) (by kernel_rfl) (by kernel_rfl) (by kernel_rfl) (fun _ _ _ h => h) (Or.inl ⟨by kernel_rfl, ?hy53⟩) (by assumption) ?r53
              case hy53 => (intro W s0; go_simp; try with_reducible rfl)
              try simp only [Act.put, List.getElem_toArray, List.getElem_cons_zero, List.getElem_cons_succ, List.setIfInBounds_toArray, List.set_cons_zero, List.set_cons_succ]
              refine wpAnyL_take (i := 16) (v := ?v54) rfl (by kernel_rfl) (by kernel_rfl) (by kernel_rfl) (by kernel_rfl) (fun _ _ _ h => h) (Or.inl ⟨by kernel_rfl, ?hy54⟩) (by assumption) ?r54
              case hy54 => (intro W s0; go_simp; try with_reducible rfl)
              try simp only [Act.put, List.getElem_toArray, List.getElem_cons_zero, List.getElem_cons_succ, List.setIfInBounds_toArray, List.set_cons_zero, List.set_cons_succ]
              refine wpAnyL_take (i := 17) (v := ?v55) rfl (by kernel_rfl) (by kernel_rfl) (by kernel_rfl) (by kernel_rfl) (fun _ _ _ h => h) (Or.inl ⟨by kernel_rfl, ?hy55⟩) (by assumption) ?r55
              case hy55 => (intro W s0; go_simp; try with_reducible rfl)
              try simp only [Act.put, List.getElem_toArray, List.getElem_cons_zero, List.getElem_cons_succ, List.setIfInBounds_toArray, List.set_cons_zero, List.set_cons_succ]
              refine wpAnyL_take (i := 18) (v := ?v56) rfl (by kernel_rfl) (by kernel_rfl) (by kernel_rfl) (by kernel_rfl) (fun _ _ _ h => h) (Or.inl ⟨by kernel_rfl, ?hy56⟩) (by assumption) ?r56
              case hy56 => (intro W s0; go_simp; try with_reducible rfl)
              try simp only [Act.put, List.getElem_toArray, List.getElem_cons_zero, List.getElem_cons_succ, List.setIfInBounds_toArray, List.set_cons_zero, List.set_cons_succ]
              refine wpAnyL_ready (rs := [7, 11]) (by kernel_rfl) (by simp) ?_
              refine AllReadyL.cons rfl (fun K hK => ?_) ?_
              · skip
                rw [if_pos (by rfl)]
                refine oper_append (.const (.slice none 0 0)) (.tmp 53) 46 rfl (.agg #[.string ByteArray.empty, i64 0, i64 0, i64 0]) 40 Tryz.underlying46 acInfo rfl (by decide) (by decide) rfl (Own.nil_ _ wq.heap.size 70) (some ⟨b, o, none⟩) q c (L.take q) rfl Hql.out (hTk.out _ hb) (by simp <;> omega) hb.size ?_
                intro v1 u1 hO1 hg1 hat1
                rw [List.nil_append] at hO1
                have hF := (Own.nil_ (α := Ac) _ _ 70).below hg1 (Nat.le_refl _) (Nat.le_refl _)
                have hb := below_on hb (Nat.le_refl _) hF
                have HO1 := Lib.hid hO1
                clear hF hg1 hat1 hO1
                refine hK.out _ _ ((hb.cell (p := ⟨g, 0, none⟩) hlgq).trans c0q) (fun hH => ?_)
                clear hK K
                try simp only [Act.put, List.getElem_toArray, List.getElem_cons_zero, List.getElem_cons_succ, List.setIfInBounds_toArray, List.set_cons_zero, List.set_cons_succ]
                refine wpAnyL_one (i := 11) (by kernel_rfl) rfl (by decide) (fun K hK => ?_)
                go_simp
                have hgl : (u1.alloc (.cells #[.string k, i64 0, i64 0, i64 lim] 70)).heap[u1.heap.size]? = some (.cells #[.string k, i64 0, i64 0, i64 lim] 70 (0, 0)) := heap_alloc_new u1 _
                have hne1 := HO1.out.new_ne (Nat.le_refl u1.heap.size)
                have HO1 := Lib.hid (HO1.out.later ((Below.refl _ _).alloc (Nat.le_refl _) (.cells #[.string k, i64 0, i64 0, i64 lim] 70)))
                have hb := hb.alloc hb.size (.cells #[.string k, i64 0, i64 0, i64 lim] 70)
                refine hK.out _ _ ((hb.cell (p := ⟨g, 0, none⟩) hlgq).trans c0q) (fun hH => ?_)
                clear hK K
                try simp only [Act.put, List.getElem_toArray, List.getElem_cons_zero, List.getElem_cons_succ, List.setIfInBounds_toArray, List.set_cons_zero, List.set_cons_succ]
                refine wpAnyL_one (i := 12) (by kernel_rfl) rfl (by decide) (fun K hK => ?_)
                rw [if_pos (by rfl)]
                refine oper_append_one (.tmp 54) (.tmp 58) 46 rfl (.agg #[.string ByteArray.empty, i64 0, i64 0, i64 0]) 40 Tryz.underlying46 acInfo rfl (by decide) (by decide) rfl HO1.out u1.heap.size (⟨k, 0, 0, lim⟩ : Ac) (by rfl) _ 70 hgl rfl hne1 Hkl.out (by rw [← Hql.out]; omega) hb.size ?_
                intro v2 u2 hO2 hg2 hat2
                have hb := hb.trans (HO1.out.below hg2 (Nat.le_refl _) hb.size)
                have HO2 := Lib.hid hO2
                clear hg2 hat2 hO2 HO1 hgl hne1
                refine hK.out _ _ ((hb.cell (p := ⟨g, 0, none⟩) hlgq).trans c0q) (fun hH => ?_)
                clear hK K
                try simp only [Act.put, List.getElem_toArray, List.getElem_cons_zero, List.getElem_cons_succ, List.setIfInBounds_toArray, List.set_cons_zero, List.set_cons_succ]
                refine wpAnyL_one (i := 19) (by kernel_rfl) rfl (by decide) (fun K hK => ?_)
                rw [if_pos (by rfl)]
                refine oper_append (.tmp 59) (.tmp 65) 46 rfl (.agg #[.string ByteArray.empty, i64 0, i64 0, i64 0]) 40 Tryz.underlying46 acInfo rfl (by decide) (by decide) rfl HO2.out _ _ _ (L.drop q) rfl (by simp) ((hDr.out _ hb).mono (HO2.out.oth (Nat.le_refl _) hb.size)) (by simp <;> omega) hb.size ?_
                intro v3 u3 hO3 hg3 hat3
                obtain ⟨A3, cap3, hv3, -⟩ := hO3.sl
                generalize List.length _ = n3 at hv3
                subst hv3
                have hb := hb.trans (HO2.out.below hg3 (Nat.le_refl _) hb.size)
                have HO3 := Lib.hid hO3
                clear hg3 hat3 hO3 HO2
                refine hK.out _ _ ((hb.cell (p := ⟨g, 0, none⟩) hlgq).trans c0q) (fun hH => ?_)
                clear hK K
                try simp only [Act.put, List.getElem_toArray, List.getElem_cons_zero, List.getElem_cons_succ, List.setIfInBounds_toArray, List.set_cons_zero, List.set_cons_succ]
                refine wpAnyL_take (i := 20) (v := ?v57) rfl (by kernel_rfl) (by kernel_rfl) (by kernel_rfl) (by kernel_rfl) (fun _ _ _ h => h) (Or.inl ⟨by kernel_rfl, ?hy57⟩) (by assumption) ?r57
                case hy57 => (intro W s0; go_simp; try with_reducible rfl)
                try simp only [Act.put, List.getElem_toArray, List.getElem_cons_zero, List.getElem_cons_succ, List.setIfInBounds_toArray, List.set_cons_zero, List.set_cons_succ]
                refine wpAnyL_take (i := 21) (v := ?v58) rfl (by kernel_rfl) (by kernel_rfl) (by kernel_rfl) (by kernel_rfl) (fun _ _ _ h => h) (Or.inl ⟨by kernel_rfl, ?hy58⟩) (by assumption) ?r58
                case hy58 => (intro W s0; go_simp; try with_reducible rfl)
                try simp only [Act.put, List.getElem_toArray, List.getElem_cons_zero, List.getElem_cons_succ, List.setIfInBounds_toArray, List.set_cons_zero, List.set_cons_succ]
                refine wpAnyL_last (by kernel_rfl) rfl (fun K hK => ?_)
                have c3 := (hb.cell (p := ⟨g, 0, none⟩) hlgq).trans c0q
                have hg3 := Lib.hid ((hb.block _ hlgq).trans hcq.out)
                have f3 := frozen_of_row _ g 0 _ _ hg3.out
                go_simp
                refine hK.out _ _ ?_
                clear hK K
                try simp only [Act.put, List.getElem_toArray, List.getElem_cons_zero, List.getElem_cons_succ, List.setIfInBounds_toArray, List.set_cons_zero, List.set_cons_succ]
                refine wpAnyL_done (by kernel_rfl) ?_ _
                refine NoPanic.normal ?_
                have hD := rc_put HBq.out.size (HBq.out.trans (hb.mono HBq.out.size)) hlg HTn.out hg3.out HO3.out (ins_names Hs.out Hkl.out)
                have HD := Lib.hid hD
                clear hD
                go_wp2
                all_goals (go_ret; exact ⟨by rw [HR3.out]; rfl, by rw [HR3.out, HI.out, List.append_cons]; exact HD.out.1, HD.out.2⟩)
              refine AllReadyL.cons rfl (fun K hK => ?_) ?_
              · skip
                go_simp
                obtain ⟨gl, hgl, hgl2⟩ : ∃ gl, gl = wq.heap.size ∧ (wq.drew.alloc (.cells #[.string k, i64 0, i64 0, i64 lim] 70)).heap[gl]? = some (.cells #[.string k, i64 0, i64 0, i64 lim] 70 (0, 0)) := ⟨_, rfl, heap_alloc_new wq.drew _⟩
                have Hgl := Lib.hid hgl
                clear hgl
                have hgl := hgl2
                clear hgl2
                have hb := hb.alloc hb.size (.cells #[.string k, i64 0, i64 0, i64 lim] 70)
                refine hK.out _ _ ((hb.cell (p := ⟨g, 0, none⟩) hlgq).trans c0q) (fun hH => ?_)
                clear hK K
                try simp only [Act.put, List.getElem_toArray, List.getElem_cons_zero, List.getElem_cons_succ, List.setIfInBounds_toArray, List.set_cons_zero, List.set_cons_succ]
                refine wpAnyL_one (i := 7) (by kernel_rfl) rfl (by decide) (fun K hK => ?_)
                rw [if_pos (by rfl)]
                refine oper_append (.const (.slice none 0 0)) (.tmp 53) 46 rfl (.agg #[.string ByteArray.empty, i64 0, i64 0, i64 0]) 40 Tryz.underlying46 acInfo rfl (by decide) (by decide) rfl (Own.nil_ _ wq.heap.size 70) (some ⟨b, o, none⟩) q c (L.take q) rfl Hql.out (hTk.out _ hb) (by simp <;> omega) hb.size ?_
                intro v1 u1 hO1 hg1 hat1
                rw [List.nil_append] at hO1
                have hF := (Own.nil_ (α := Ac) _ _ 70).below hg1 (Nat.le_refl _) (Nat.le_refl _)
                have hne1 : some gl ≠ v1.ownBlock := by
                  rcases hat1 with h | h
                  · have h2 : v1.ownBlock = none := h
                    rw [h2]; simp
                  · have h2 : v1.ownBlock = some (wq.heap.size + 1) := by rw [h]; simp
                    rw [h2, Hgl.out]; intro e; injection e with e; omega
                have hgl := (hF.block _ (Array.getElem?_eq_some_iff.1 hgl).1).trans hgl
                have hb := below_on hb (Nat.le_refl _) hF
                have HO1 := Lib.hid hO1
                clear hF hg1 hat1 hO1
                refine hK.out _ _ ((hb.cell (p := ⟨g, 0, none⟩) hlgq).trans c0q) (fun hH => ?_)
                clear hK K
                try simp only [Act.put, List.getElem_toArray, List.getElem_cons_zero, List.getElem_cons_succ, List.setIfInBounds_toArray, List.set_cons_zero, List.set_cons_succ]
                refine wpAnyL_one (i := 12) (by kernel_rfl) rfl (by decide) (fun K hK => ?_)
                rw [if_pos (by rfl)]
                refine oper_append_one (.tmp 54) (.tmp 58) 46 rfl (.agg #[.string ByteArray.empty, i64 0, i64 0, i64 0]) 40 Tryz.underlying46 acInfo rfl (by decide) (by decide) rfl HO1.out gl (⟨k, 0, 0, lim⟩ : Ac) (by rw [Hgl.out]; rfl) _ 70 hgl rfl hne1 Hkl.out (by rw [← Hql.out]; omega) hb.size ?_
                intro v2 u2 hO2 hg2 hat2
                have hb := hb.trans (HO1.out.below hg2 (Nat.le_refl _) hb.size)
                have HO2 := Lib.hid hO2
                clear hg2 hat2 hO2 HO1 hgl hne1
                refine hK.out _ _ ((hb.cell (p := ⟨g, 0, none⟩) hlgq).trans c0q) (fun hH => ?_)
                clear hK K
                try simp only [Act.put, List.getElem_toArray, List.getElem_cons_zero, List.getElem_cons_succ, List.setIfInBounds_toArray, List.set_cons_zero, List.set_cons_succ]
                refine wpAnyL_one (i := 19) (by kernel_rfl) rfl (by decide) (fun K hK => ?_)
                rw [if_pos (by rfl)]
                refine oper_append (.tmp 59) (.tmp 65) 46 rfl (.agg #[.string ByteArray.empty, i64 0, i64 0, i64 0]) 40 Tryz.underlying46 acInfo rfl (by decide) (by decide) rfl HO2.out _ _ _ (L.drop q) rfl (by simp) ((hDr.out _ hb).mono (HO2.out.oth (Nat.le_refl _) hb.size)) (by simp <;> omega) hb.size ?_
                intro v3 u3 hO3 hg3 hat3
                obtain ⟨A3, cap3, hv3, -⟩ := hO3.sl
                generalize List.length _ = n3 at hv3
                subst hv3
                have hb := hb.trans (HO2.out.below hg3 (Nat.le_refl _) hb.size)
                have HO3 := Lib.hid hO3
                clear hg3 hat3 hO3 HO2
                refine hK.out _ _ ((hb.cell (p := ⟨g, 0, none⟩) hlgq).trans c0q) (fun hH => ?_)
                clear hK K
                try simp only [Act.put, List.getElem_toArray, List.getElem_cons_zero, List.getElem_cons_succ, List.setIfInBounds_toArray, List.set_cons_zero, List.set_cons_succ]
                refine wpAnyL_take (i := 20) (v := ?v59) rfl (by kernel_rfl) (by kernel_rfl) (by kernel_rfl) (by kernel_rfl) (fun _ _ _ h => h) (Or.inl ⟨by kernel_rfl, ?hy59⟩) (by assumption) ?r59
                case hy59 => (intro W s0; go_simp; try with_reducible rfl)
                try simp only [Act.put, List.getElem_toArray, List.getElem_cons_zero, List.getElem_cons_succ, List.setIfInBounds_toArray, List.set_cons_zero, List.set_cons_succ]
                refine wpAnyL_take (i := 21) (v := ?v60) rfl (by kernel_rfl) (by kernel_rfl) (by kernel_rfl) (by kernel_rfl) (fun _ _ _ h => h) (Or.inl ⟨by kernel_rfl, ?hy60⟩) (by assumption) ?r60
                case hy60 => (intro W s0; go_simp; try with_reducible rfl)
                try simp only [Act.put, List.getElem_toArray, List.getElem_cons_zero, List.getElem_cons_succ, List.setIfInBounds_toArray, List.set_cons_zero, List.set_cons_succ]
                refine wpAnyL_last (by kernel_rfl) rfl (fun K hK => ?_)
                have c3 := (hb.cell (p := ⟨g, 0, none⟩) hlgq).trans c0q
                have hg3 := Lib.hid ((hb.block _ hlgq).trans hcq.out)
                have f3 := frozen_of_row _ g 0 _ _ hg3.out
                go_simp
                refine hK.out _ _ ?_
                clear hK K
                try simp only [Act.put, List.getElem_toArray, List.getElem_cons_zero, List.getElem_cons_succ, List.setIfInBounds_toArray, List.set_cons_zero, List.set_cons_succ]
                refine wpAnyL_done (by kernel_rfl) ?_ _
                refine NoPanic.normal ?_
                have hD := rc_put HBq.out.size (HBq.out.trans (hb.mono HBq.out.size)) hlg HTn.out hg3.out HO3.out (ins_names Hs.out Hkl.out)
                have HD := Lib.hid hD
                clear hD
                go_wp2
                all_goals (go_ret; exact ⟨by rw [HR3.out]; rfl, by rw [HR3.out, HI.out, List.append_cons]; exact HD.out.1, HD.out.2⟩)
              exact AllReadyL.nil
    · have HR2 := Lib.hid (show R = (7, L) by rw [HR1.out, i2]; rfl)
      have g2 : decide ((0 : Int) ≤ idxA L k) = true := decide_eq_true (by omega)
      generalize idxA L k = ix at *
      clear HR1 i2 i3
      go_wp2_with fail
      refine hA.out.mono ?_
      rintro e w2 ⟨rfl, rfl⟩
      go_wp2
      go_ret
      exact ⟨by rw [HR2.out]; rfl, by rw [HR2.out]; exact H1.out, grown_of_below HB1.out _⟩
end Go.Proofs.YtmljlkjomjflpaaGreat
