/- Texts of this claim, laid together: RfTurn. -/
import Derived.Test.YtmljlkjomjflpaaGreatRows
import Derived.Test.YtmljlkjomjflpaaGreatHp9
import Derived.Test.YtmljlkjomjflpaaGreatHp2
import Derived.Deep.Cut
import Derived.WalkKit
import Derived.WalkSpells
import Derived.WalkLawsBesides
import Derived.Deep.QuietTactic
import Derived.BigQuiet
import Derived.Laws.StructEq
import Derived.Deep.DeepFit
import Derived.StillTailTactics

/- ref05: Give, Aside -/
namespace Go.Proofs.YtmljlkjomjflpaaGreat
open Go.RowKit
theorem acInfo : (Tryz.prog.info? 70).map (fun i => (i.zero, i.size, i.bytes)) = some (some (.agg #[.string ByteArray.empty, i64 0, i64 0, i64 0]), Enc.size Ac, 40) := by kernel_rfl
/-- the copied accounts, one of them turned, stand in the chart of block g -/
theorem rc_done {w w1 w2 : World} {T : Nat → Prop} {g gb cap : Nat} {L : List Ac} {V0 : Value} (HB2 : Below w.heap.size w w2) (hB1 : w.heap.size ≤ w1.heap.size) (hlg : g < w.heap.size) (hT : ∀ k, w.heap.size ≤ k → T k) (hok : ∀ x ∈ L, x.name.size ≤ maxLen)
    (hcg : w2.heap[g]? = some (.cells #[V0] 49 (0, 0))) (hO : Own w2 w1.heap.size 70 (.slice (some ⟨gb, 0, none⟩) L.length cap) L)
    {n : Nat} (hn : n < L.length) (j : Nat) (hj : j < 4) (u : Value) (a : Ac) (ha : Enc.cells a = (Enc.cells L[n]).set j u) (hao : a.name.size ≤ maxLen) :
    RcIs ((w2.setCell ⟨g, 0, none⟩ (.slice (some ⟨gb, 0, none⟩) L.length cap)).setCell ⟨gb, n * 4 + j, none⟩ u) T g (L.set n a) ∧ w.grownBy ((w2.setCell ⟨g, 0, none⟩ (.slice (some ⟨gb, 0, none⟩) L.length cap)).setCell ⟨gb, n * 4 + j, none⟩ u) (some g) := by
  have hgb := (hO.1.lt gb rfl).1
  have hne : gb ≠ g := by omega
  have hg3 := heap_setCell_same w2 g 0 _ _ (.slice (some ⟨gb, 0, none⟩) L.length cap) hcg
  have hgr := grown_setCell (World.grownBy.refl w2 (some g)) (p := ⟨g, 0, none⟩) (.inl rfl) (.slice (some ⟨gb, 0, none⟩) L.length cap)
  have hO3 := hO.grown hgr (.inr (fun e => hne (by injection e))) (fun x hx => hok x hx)
  obtain ⟨hO4, hgr4⟩ := hO3.set_cell hn j hj u a ha hao
  refine ⟨?_, grown_setCell (grown_setCell (grown_of_below HB2 (some g)) (p := ⟨g, 0, none⟩) (.inl rfl) _) (p := ⟨gb, n * 4 + j, none⟩) (.inr (Nat.le_trans hB1 hgb)) u⟩
  obtain ⟨A, c, hv, hs, hf⟩ := hO4.slT (T := T) (fun k hk => hT k (Nat.le_trans hB1 hk)) (fun x hx => by
    rcases List.mem_or_eq_of_mem_set hx with hx | rfl
    · exact hok x hx
    · exact hao)
  refine ⟨A, c, ?_, hs, hf⟩
  have h2 := (hgr4.block g (Array.getElem?_eq_some_iff.1 hg3).1 (fun e => hne (by injection e with e; exact e.symm))).trans hg3
  have e5 : (#[V0] : Array Value).setIfInBounds 0 (.slice (some ⟨gb, 0, none⟩) L.length cap) = #[.slice A (L.set n a).length c] := by rw [← hv]; rfl
  rw [e5] at h2
  exact h2
set_option maxRecDepth 100000 in
set_option maxHeartbeats 8000000 in
theorem rgive_c (T : Nat → Prop) (g : Nat) (L : List Ac) (k : ByteArray) (x : Int) (w : World) (h : RcIs w T g L) (hL : L.length ≤ 65536) (hk : OkA L) (hS : SrtL ltA L) (hx : R64 x) (hTn : ∀ k, w.heap.size ≤ k → T k) (hTg : ¬ T g) :
    Calls Tryz.prog 55 #[.pointer (some ⟨g, 0, none⟩), .string k, i64 x] w fun e w' => e = .returned (i64 (turnL (givD x) L k x).1) ∧ RcIs w' T g (turnL (givD x) L k x).2 ∧ w.grownBy w' (some g) := by
  have hA := Lib.hid (rat_c T g L k w h hL)
  have H := Lib.hid h
  have hlg := h.lt
  obtain ⟨A, c, hc, hs, hf⟩ := h
  have c0 := cell_of_row _ g 0 _ _ (0, 0) hc
  simp only [List.getElem?_toArray, List.getElem?_cons_zero] at c0
  obtain ⟨R, hR⟩ : ∃ R, turnL (givD x) L k x = R := ⟨_, rfl⟩
  rw [hR]
  rcases idxA_get (L := L) (k := k) with ⟨h1, h2⟩ | ⟨n, hn, h1, h2, h3⟩
  · have HR := Lib.hid (show R = (6, L) by rw [← hR]; unfold turnL; rw [h2])
    clear h2 hc hR hf
    generalize idxA L k = i at *
    have g1 : decide (i < 0) = true := decide_eq_true h1
    go_enter Tryz.func55, Tryz.ntmps55
    go_wp2_with fail
    refine hA.out.mono ?_
    rintro e w1 ⟨rfl, rfl⟩
    go_wp2
    go_ret
    exact ⟨by rw [HR.out]; rfl, by rw [HR.out]; exact H.out, World.grownBy.refl _ _⟩
  · rw [h1] at hA
    have hLn := Lib.hid (show turnL (givD x) L k x = if (givD x L[n]).2 ≠ 0 then ((givD x L[n]).2, L) else if 0 < x ∧ freeA L[n] x = false then (9, L) else if (givD x L[n]).1.set_ < 0 then (13, L) else (0, L.set n (givD x L[n]).1) by
      unfold turnL
      rw [h2, ← setK_set keyA hS hn (show L[n].name = (givD x L[n]).1.name from rfl)])
    have hka := hk _ (List.getElem_mem hn)
    obtain ⟨hIn, hs0, hnm⟩ := hka
    have hok := Lib.hid (fun y hy => hs.2.2.2 y hy)
    have hmem := Lib.hid (List.getElem_mem hn)
    obtain ⟨b, o, rfl, hb, _, d0, d1, d2, d3⟩ := hs.ac hn
    have g1 : decide ((n : Int) < 0) = false := decide_eq_false (by omega)
    have i0 : (0 : Int) ≤ (n : Int) := by omega
    have i1 : (n : Int) < (L.length : Int) := by omega
    have hlc : L.length ≤ c := hs.1
    have hHs := Lib.hid hs
    have HT := Lib.hid hTn
    have HG := Lib.hid hTg
    have L1 := Lib.hid fun W => rless_c L[n].hav x W hIn.1 hx
    have L2 := Lib.hid fun W => rfree_c L[n] x W hIn hs0 hx
    have hcg := Lib.hid hc
    have HU := Lib.hid (show R = _ from hR.symm.trans hLn.out)
    have HD := Lib.hid (show givD x L[n] = ({ L[n] with hav := (sumR (L[n].hav - x)).1 }, (sumR (L[n].hav - x)).2) from rfl)
    obtain ⟨a, ha⟩ : ∃ a, L[n] = a := ⟨_, rfl⟩
    rw [ha] at HU HD L1 L2 d0 d1 d2 d3 hs0 hnm hmem
    have Ha := Lib.hid ha
    have hfz := frozen_of_row _ g 0 _ _ hc
    clear hf h2 h1 hs h3 ha hLn hR hk hS hTn hTg hc hIn
    generalize givD x a = d at *
    generalize sumR (a.hav - x) = r at *
    obtain rfl := HD.out
    clear HD
    generalize freeA a x = f at *
    have HB := Lib.hid (Below.refl w.heap.size w)
    go_enter Tryz.func55, Tryz.ntmps55
    go_wp2_with fail
    refine hA.out.mono ?_
    rintro e w1 ⟨rfl, rfl⟩
    clear hA
    go_wp2_with fail
    refine (L1.out _).mono ?_
    rintro e w1 ⟨rfl, hF⟩
    have HB1 := Lib.hid hF
    have H1 := Lib.hid (H.out.later hF)
    have c0' := (hF.cell (p := ⟨g, 0, none⟩) hlg).trans c0
    have d0' := (hF.cell (p := ⟨b, o + n * 4, none⟩) hb.1).trans d0
    have d1' := (hF.cell (p := ⟨b, o + n * 4 + 1, none⟩) hb.1).trans d1
    have d2' := (hF.cell (p := ⟨b, o + n * 4 + 2, none⟩) hb.1).trans d2
    have d3' := (hF.cell (p := ⟨b, o + n * 4 + 3, none⟩) hb.1).trans d3
    clear hF L1 c0 d0 d1 d2 d3
    by_cases hr : r.2 = 0
    · have g2 : (r.2 != 0) = false := by rw [hr]; rfl
      have HU2 := Lib.hid (show R = (if 0 < x ∧ f = false then (9, L) else if ({ a with hav := r.1 } : Ac).set_ < 0 then (13, L) else (0, L.set n { a with hav := r.1 })) by rw [HU.out, if_neg (by simpa using hr)])
      clear hr HU
      by_cases hx0 : 0 < x
      · have g3 : decide ((0 : Int) < x) = true := decide_eq_true hx0
        have HX := Lib.hid hx0
        clear hx0
        go_wp2_with fail
        refine (L2.out _).mono ?_
        rintro e w2 ⟨rfl, hF⟩
        have HB2 := Lib.hid (below_on HB1.out (Nat.le_refl _) hF)
        have H2 := Lib.hid (H1.out.later hF)
        have c0' := (hF.cell (p := ⟨g, 0, none⟩) (Nat.lt_of_lt_of_le hlg HB1.out.size)).trans c0'
        clear hF L2 d0' d1' d2' d3' H1
        cases f with
        | false =>
          have HR := Lib.hid (show R = (9, L) by rw [HU2.out, if_pos ⟨HX.out, rfl⟩])
          clear HU2
          go_wp2
          go_ret
          exact ⟨by rw [HR.out]; rfl, by rw [HR.out]; exact H2.out, grown_of_below HB2.out _⟩
        | true =>
          have HU3 := Lib.hid (show R = (if ({ a with hav := r.1 } : Ac).set_ < 0 then (13, L) else (0, L.set n { a with hav := r.1 })) by rw [HU2.out, if_neg (fun h => absurd h.2 (by decide))])
          clear HU2
          have HB1 := HB2
          have H1 := H2
          clear HB2 H2
          have HR := Lib.hid (show R = (0, L.set n { a with hav := r.1 }) by rw [HU3.out, if_neg (by show ¬ a.set_ < 0; omega)])
          clear HU3
          have hcg1 := Lib.hid ((HB1.out.block _ hlg).trans hcg.out)
          have hfz1 := frozen_of_row _ g 0 _ _ hcg1.out
          have hsl := Lib.hid (show SlS _ (Oth _ (.slice none 0 0)) (some ⟨b, o, none⟩) c L from (hHs.out.keep (fun p hp => HB1.out.cell hp.1) (fun b hb => ⟨Nat.lt_of_lt_of_le hb.1 HB1.out.size, by simp [Value.ownBlock]⟩)))
          have hBs := HB1.out.size
          clear hfz
          go_wp2_with (at_builtin; refine wpList_append_slice rfl (some 50) (.const (.slice none 0 0)) (.tmp 49) 46 rfl rfl (.agg #[.string ByteArray.empty, i64 0, i64 0, i64 0]) 40 Tryz.underlying46 acInfo rfl (by decide) (by decide) rfl (Own.nil_ _ _ 70) (some ⟨b, o, none⟩) L.length c L rfl rfl hsl.out (by simp <;> omega) (Nat.le_refl _) ?_; intro v2 w2 hO2 hg2 hat2; rw [List.nil_append] at hO2; have hF2 := (Own.nil_ (α := Ac) _ _ 70).below hg2 (Nat.le_refl _) (Nat.le_refl _); obtain ⟨gb, cap, cur, hv2, hgb, hrow, hcap, -, hcs, -⟩ := hO2.form (by omega); subst hv2; have hO3 := Lib.hid hO2; have hcg2 := Lib.hid ((hF2.block g (Nat.lt_of_lt_of_le hlg HB1.out.size)).trans hcg1.out); have hfz2 := frozen_of_row _ g 0 _ _ hcg2.out; have c02 := (hF2.cell (p := ⟨g, 0, none⟩) (Nat.lt_of_lt_of_le hlg HB1.out.size)).trans c0'; have hat : w2.cell? ⟨gb, n * 4 + 1, none⟩ = some (i64 L[n].hav) := hO2.at_ hn 1 _ rfl;  have hfr := hO2.free (n * 4 + 1); have hHB2 := Lib.hid (below_on HB1.out (Nat.le_refl _) hF2); have hlr := Lib.hid (Array.getElem?_eq_some_iff.1 hrow).1; have hne : gb ≠ g := (by omega); clear hO2 hg2 hat2 hF2 hrow hcs)
          have hDone := Lib.hid (rc_done hHB2.out hBs hlg HT.out hok.out hcg2.out hO3.out hn 1 (by decide) (i64 r.1) { L[n] with hav := r.1 } rfl (hok.out L[n] (List.getElem_mem hn)))
          go_wp2
          go_ret
          exact ⟨by rw [HR.out]; rfl, by rw [HR.out]; rw [Ha.out] at hDone; exact hDone.out.1, hDone.out.2⟩
      · have g3 : decide ((0 : Int) < x) = false := decide_eq_false hx0
        have HU3 := Lib.hid (show R = (if ({ a with hav := r.1 } : Ac).set_ < 0 then (13, L) else (0, L.set n { a with hav := r.1 })) by rw [HU2.out, if_neg (fun h => hx0 h.1)])
        clear hx0 HU2 d0' d1' d2' d3' L2
        have HR := Lib.hid (show R = (0, L.set n { a with hav := r.1 }) by rw [HU3.out, if_neg (by show ¬ a.set_ < 0; omega)])
        clear HU3
        have hcg1 := Lib.hid ((HB1.out.block _ hlg).trans hcg.out)
        have hfz1 := frozen_of_row _ g 0 _ _ hcg1.out
        have hsl := Lib.hid (show SlS _ (Oth _ (.slice none 0 0)) (some ⟨b, o, none⟩) c L from (hHs.out.keep (fun p hp => HB1.out.cell hp.1) (fun b hb => ⟨Nat.lt_of_lt_of_le hb.1 HB1.out.size, by simp [Value.ownBlock]⟩)))
        have hBs := HB1.out.size
        clear hfz
        go_wp2_with (at_builtin; refine wpList_append_slice rfl (some 50) (.const (.slice none 0 0)) (.tmp 49) 46 rfl rfl (.agg #[.string ByteArray.empty, i64 0, i64 0, i64 0]) 40 Tryz.underlying46 acInfo rfl (by decide) (by decide) rfl (Own.nil_ _ _ 70) (some ⟨b, o, none⟩) L.length c L rfl rfl hsl.out (by simp <;> omega) (Nat.le_refl _) ?_; intro v2 w2 hO2 hg2 hat2; rw [List.nil_append] at hO2; have hF2 := (Own.nil_ (α := Ac) _ _ 70).below hg2 (Nat.le_refl _) (Nat.le_refl _); obtain ⟨gb, cap, cur, hv2, hgb, hrow, hcap, -, hcs, -⟩ := hO2.form (by omega); subst hv2; have hO3 := Lib.hid hO2; have hcg2 := Lib.hid ((hF2.block g (Nat.lt_of_lt_of_le hlg HB1.out.size)).trans hcg1.out); have hfz2 := frozen_of_row _ g 0 _ _ hcg2.out; have c02 := (hF2.cell (p := ⟨g, 0, none⟩) (Nat.lt_of_lt_of_le hlg HB1.out.size)).trans c0'; have hat : w2.cell? ⟨gb, n * 4 + 1, none⟩ = some (i64 L[n].hav) := hO2.at_ hn 1 _ rfl;  have hfr := hO2.free (n * 4 + 1); have hHB2 := Lib.hid (below_on HB1.out (Nat.le_refl _) hF2); have hlr := Lib.hid (Array.getElem?_eq_some_iff.1 hrow).1; have hne : gb ≠ g := (by omega); clear hO2 hg2 hat2 hF2 hrow hcs)
        have hDone := Lib.hid (rc_done hHB2.out hBs hlg HT.out hok.out hcg2.out hO3.out hn 1 (by decide) (i64 r.1) { L[n] with hav := r.1 } rfl (hok.out L[n] (List.getElem_mem hn)))
        go_wp2
        go_ret
        exact ⟨by rw [HR.out]; rfl, by rw [HR.out]; rw [Ha.out] at hDone; exact hDone.out.1, hDone.out.2⟩
    · have g2 : (r.2 != 0) = true := by simpa using hr
      have HR := Lib.hid (show R = (r.2, L) by rw [HU.out, if_pos hr])
      clear hr HU
      go_wp2
      go_ret
      exact ⟨by rw [HR.out]; rfl, by rw [HR.out]; exact H1.out, grown_of_below HB1.out _⟩
end Go.Proofs.YtmljlkjomjflpaaGreat
