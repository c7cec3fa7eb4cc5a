/- Texts of this claim, laid together: RfAside, Rf08F. -/
import Derived.Test.YtampniiehgimhaaGreatRows
import Derived.Test.YtampniiehgimhaaGreatBn15
import Derived.Test.YtampniiehgimhaaGreatBn14
import Derived.WalkKit
import Derived.WalkSpells
import Derived.WalkLawsBesides
import Derived.Deep.QuietTactic
import Derived.BigQuiet
import Derived.Laws.StructEq
import Derived.Deep.DeepFit
import Derived.StillTailTactics
import Derived.Test.YtampniiehgimhaaGreatBn16

/- ref05: Aside -/
namespace Go.Proofs.YtampniiehgimhaaGreat
open Go.RowKit
set_option maxRecDepth 100000 in
set_option maxHeartbeats 8000000 in
theorem raside_c (T : Nat → Prop) (g : Nat) (L : List Ac) (k : ByteArray) (x : Int) (w : World) (h : RcIs w T g L) (hL : L.length ≤ 65536) (hk : OkA L) (hS : SrtL ltA L) (hx : R64 x) (hTn : ∀ k, w.heap.size ≤ k → T k) (hTg : ¬ T g) :
  Calls Tryz.prog 117 #[.pointer (some ⟨g, 0, none⟩), .string k, i64 x] w fun e w' => e = .returned (i64 (turnL (asiD x) L k x).1) ∧ RcIs w' T g (turnL (asiD x) L k x).2 ∧ w.grownBy w' (some g) := by
 have hA := Lib.hid (rat_c T g L k w h hL)
 have H := Lib.hid h
 have hlg := h.lt
 obtain ⟨A, c, hc, hs, hf⟩ := h
 have c0 := cell_of_row _ g 0 _ _ (0, 0) hc
 simp only [List.getElem?_toArray, List.getElem?_cons_zero] at c0
 obtain ⟨R, hR⟩ : ∃ R, turnL (asiD x) L k x = R := ⟨_, rfl⟩
 rw [hR]
 rcases idxA_get (L := L) (k := k) with ⟨h1, h2⟩ | ⟨n, hn, h1, h2, h3⟩
 ·have HR := Lib.hid (show R = (6, L) by rw [← hR]; unfold turnL; rw [h2])
  clear h2 hc hR hf
  generalize idxA L k = i at *
  have g1 : decide (i < 0) = true := decide_eq_true h1
  go_enter Tryz.func117, Tryz.ntmps117
  go_wp2_with fail
  refine hA.out.mono ?_
  rintro e w1 ⟨rfl, rfl⟩
  go_wp2
  go_ret
  exact ⟨by rw [HR.out]; rfl, by rw [HR.out]; exact H.out, World.grownBy.refl _ _⟩
 ·rw [h1] at hA
  have hLn := Lib.hid (show turnL (asiD x) L k x = if (asiD x L[n]).2 ≠ 0 then ((asiD x L[n]).2, L) else if 0 < x ∧ freeA L[n] x = false then (9, L) else if (asiD x L[n]).1.set_ < 0 then (13, L) else (0, L.set n (asiD x L[n]).1) by
   unfold turnL
   rw [h2, ← setK_set keyA hS hn (show L[n].name = (asiD x L[n]).1.name from rfl)])
  have hka := hk _ (List.getElem_mem hn)
  obtain ⟨hIn, hs0, hnm⟩ := hka
  have hok := Lib.hid (fun y hy => hs.2.2.2 y hy)
  have hmem := Lib.hid (List.getElem_mem hn)
  obtain ⟨b, o, rfl, hb, _, d0, d1, d2, d3⟩ := hs.ac hn
  have g1 : decide ((n : Int) < 0) = false := decide_eq_false (by omega)
  have i0 : (0 : Int) ≤ (n : Int) := by omega
  have i1 : (n : Int) < (L.length : Int) := by omega
  have hlc : L.length ≤ c := hs.1
  have hHs := Lib.hid hs
  have HT := Lib.hid hTn
  have HG := Lib.hid hTg
  have L1 := Lib.hid fun W => radd_c L[n].set_ x W hIn.2.1 hx
  have L2 := Lib.hid fun W => rfree_c L[n] x W hIn hs0 hx
  have hcg := Lib.hid hc
  have HU := Lib.hid (show R = _ from hR.symm.trans hLn.out)
  have HD := Lib.hid (show asiD x L[n] = ({ L[n] with set_ := (sumR (L[n].set_ + x)).1 }, (sumR (L[n].set_ + x)).2) from rfl)
  obtain ⟨a, ha⟩ : ∃ a, L[n] = a := ⟨_, rfl⟩
  rw [ha] at HU HD L1 L2 d0 d1 d2 d3 hs0 hnm hmem
  have Ha := Lib.hid ha
  have hfz := frozen_of_row _ g 0 _ _ hc
  clear hf h2 h1 hs h3 ha hLn hR hk hS hTn hTg hc hIn
  generalize asiD x a = d at *
  generalize sumR (a.set_ + x) = r at *
  obtain rfl := HD.out
  clear HD
  generalize freeA a x = f at *
  have HB := Lib.hid (Below.refl w.heap.size w)
  go_enter Tryz.func117, Tryz.ntmps117
  go_wp2_with fail
  refine hA.out.mono ?_
  rintro e w1 ⟨rfl, rfl⟩
  clear hA
  go_wp2_with fail
  refine (L1.out _).mono ?_
  rintro e w1 ⟨rfl, hF⟩
  have HB1 := Lib.hid hF
  have H1 := Lib.hid (H.out.later hF)
  have c0' := (hF.cell (p := ⟨g, 0, none⟩) hlg).trans c0
  have d0' := (hF.cell (p := ⟨b, o + n * 4, none⟩) hb.1).trans d0
  have d1' := (hF.cell (p := ⟨b, o + n * 4 + 1, none⟩) hb.1).trans d1
  have d2' := (hF.cell (p := ⟨b, o + n * 4 + 2, none⟩) hb.1).trans d2
  have d3' := (hF.cell (p := ⟨b, o + n * 4 + 3, none⟩) hb.1).trans d3
  clear hF L1 c0 d0 d1 d2 d3
  by_cases hr : r.2 = 0
  ·have g2 : (r.2 != 0) = false := by rw [hr]; rfl
   have HU2 := Lib.hid (show R = (if 0 < x ∧ f = false then (9, L) else if ({ a with set_ := r.1 } : Ac).set_ < 0 then (13, L) else (0, L.set n { a with set_ := r.1 })) by rw [HU.out, if_neg (by simpa using hr)])
   clear hr HU
   by_cases hx0 : 0 < x
   ·have g3 : decide ((0 : Int) < x) = true := decide_eq_true hx0
    have HX := Lib.hid hx0
    clear hx0
    go_wp2_with fail
    refine (L2.out _).mono ?_
    rintro e w2 ⟨rfl, hF⟩
    have HB2 := Lib.hid (below_on HB1.out (Nat.le_refl _) hF)
    have H2 := Lib.hid (H1.out.later hF)
    have c0' := (hF.cell (p := ⟨g, 0, none⟩) (Nat.lt_of_lt_of_le hlg HB1.out.size)).trans c0'
    clear hF L2 d0' d1' d2' d3' H1
    cases f with
    | false =>
     have HR := Lib.hid (show R = (9, L) by rw [HU2.out, if_pos ⟨HX.out, rfl⟩])
     clear HU2
     go_wp2
     go_ret
     exact ⟨by rw [HR.out]; rfl, by rw [HR.out]; exact H2.out, grown_of_below HB2.out _⟩
    | true =>
     have HU3 := Lib.hid (show R = (if ({ a with set_ := r.1 } : Ac).set_ < 0 then (13, L) else (0, L.set n { a with set_ := r.1 })) by rw [HU2.out, if_neg (fun h => absurd h.2 (by decide))])
     clear HU2
     have HB1 := HB2
     have H1 := H2
     clear HB2 H2
     have HS : True := trivial
     by_cases hz : r.1 < 0
     ·have g4 : decide (r.1 < 0) = true := decide_eq_true hz
      have HR := Lib.hid (show R = (13, L) by rw [HU3.out, if_pos hz])
      clear hz HU3
      go_wp2
      go_ret
      exact ⟨by rw [HR.out]; rfl, by rw [HR.out]; exact H1.out, grown_of_below HB1.out _⟩
     ·have g4 : decide (r.1 < 0) = false := decide_eq_false hz
      have HR := Lib.hid (show R = (0, L.set n { a with set_ := r.1 }) by rw [HU3.out, if_neg hz])
      clear HU3
      have hcg1 := Lib.hid ((HB1.out.block _ hlg).trans hcg.out)
      have hfz1 := frozen_of_row _ g 0 _ _ hcg1.out
      have hsl := Lib.hid (show SlS _ (Oth _ (.slice none 0 0)) (some ⟨b, o, none⟩) c L from (hHs.out.keep (fun p hp => HB1.out.cell hp.1) (fun b hb => ⟨Nat.lt_of_lt_of_le hb.1 HB1.out.size, by simp [Value.ownBlock]⟩)))
      have hBs := HB1.out.size
      clear hfz
      go_wp2_with (at_builtin; refine wpList_append_slice rfl (some 52) (.const (.slice none 0 0)) (.tmp 51) 109 rfl rfl (.agg #[.string ByteArray.empty, i64 0, i64 0, i64 0]) 40 Tryz.underlying109 acInfo rfl (by decide) (by decide) rfl (Own.nil_ _ _ 140) (some ⟨b, o, none⟩) L.length c L rfl rfl hsl.out (by simp <;> omega) (Nat.le_refl _) ?_; intro v2 w2 hO2 hg2 hat2; rw [List.nil_append] at hO2; have hF2 := (Own.nil_ (α := Ac) _ _ 140).below hg2 (Nat.le_refl _) (Nat.le_refl _); obtain ⟨gb, cap, cur, hv2, hgb, hrow, hcap, -, hcs, -⟩ := hO2.form (by omega); subst hv2; have hO3 := Lib.hid hO2; have hcg2 := Lib.hid ((hF2.block g (Nat.lt_of_lt_of_le hlg HB1.out.size)).trans hcg1.out); have hfz2 := frozen_of_row _ g 0 _ _ hcg2.out; have c02 := (hF2.cell (p := ⟨g, 0, none⟩) (Nat.lt_of_lt_of_le hlg HB1.out.size)).trans c0'; have hat : w2.cell? ⟨gb, n * 4 + 2, none⟩ = some (i64 L[n].set_) := hO2.at_ hn 2 _ rfl;  have hfr := hO2.free (n * 4 + 2); have hHB2 := Lib.hid (below_on HB1.out (Nat.le_refl _) hF2); have hlr := Lib.hid (Array.getElem?_eq_some_iff.1 hrow).1; have hne : gb ≠ g := (by omega); clear hO2 hg2 hat2 hF2 hrow hcs)
      have hDone := Lib.hid (rc_done hHB2.out hBs hlg HT.out hok.out hcg2.out hO3.out hn 2 (by decide) (i64 r.1) { L[n] with set_ := r.1 } rfl (hok.out L[n] (List.getElem_mem hn)))
      go_wp2
      go_ret
      exact ⟨by rw [HR.out]; rfl, by rw [HR.out]; rw [Ha.out] at hDone; exact hDone.out.1, hDone.out.2⟩
   ·have g3 : decide ((0 : Int) < x) = false := decide_eq_false hx0
    have HU3 := Lib.hid (show R = (if ({ a with set_ := r.1 } : Ac).set_ < 0 then (13, L) else (0, L.set n { a with set_ := r.1 })) by rw [HU2.out, if_neg (fun h => hx0 h.1)])
    clear hx0 HU2 d0' d1' d2' d3' L2
    have HS : True := trivial
    by_cases hz : r.1 < 0
    ·have g4 : decide (r.1 < 0) = true := decide_eq_true hz
     have HR := Lib.hid (show R = (13, L) by rw [HU3.out, if_pos hz])
     clear hz HU3
     go_wp2
     go_ret
     exact ⟨by rw [HR.out]; rfl, by rw [HR.out]; exact H1.out, grown_of_below HB1.out _⟩
    ·have g4 : decide (r.1 < 0) = false := decide_eq_false hz
     have HR := Lib.hid (show R = (0, L.set n { a with set_ := r.1 }) by rw [HU3.out, if_neg hz])
     clear HU3
     have hcg1 := Lib.hid ((HB1.out.block _ hlg).trans hcg.out)
     have hfz1 := frozen_of_row _ g 0 _ _ hcg1.out
     have hsl := Lib.hid (show SlS _ (Oth _ (.slice none 0 0)) (some ⟨b, o, none⟩) c L from (hHs.out.keep (fun p hp => HB1.out.cell hp.1) (fun b hb => ⟨Nat.lt_of_lt_of_le hb.1 HB1.out.size, by simp [Value.ownBlock]⟩)))
     have hBs := HB1.out.size
     clear hfz
     go_wp2_with (at_builtin; refine wpList_append_slice rfl (some 52) (.const (.slice none 0 0)) (.tmp 51) 109 rfl rfl (.agg #[.string ByteArray.empty, i64 0, i64 0, i64 0]) 40 Tryz.underlying109 acInfo rfl (by decide) (by decide) rfl (Own.nil_ _ _ 140) (some ⟨b, o, none⟩) L.length c L rfl rfl hsl.out (by simp <;> omega) (Nat.le_refl _) ?_; intro v2 w2 hO2 hg2 hat2; rw [List.nil_append] at hO2; have hF2 := (Own.nil_ (α := Ac) _ _ 140).below hg2 (Nat.le_refl _) (Nat.le_refl _); obtain ⟨gb, cap, cur, hv2, hgb, hrow, hcap, -, hcs, -⟩ := hO2.form (by omega); subst hv2; have hO3 := Lib.hid hO2; have hcg2 := Lib.hid ((hF2.block g (Nat.lt_of_lt_of_le hlg HB1.out.size)).trans hcg1.out); have hfz2 := frozen_of_row _ g 0 _ _ hcg2.out; have c02 := (hF2.cell (p := ⟨g, 0, none⟩) (Nat.lt_of_lt_of_le hlg HB1.out.size)).trans c0'; have hat : w2.cell? ⟨gb, n * 4 + 2, none⟩ = some (i64 L[n].set_) := hO2.at_ hn 2 _ rfl;  have hfr := hO2.free (n * 4 + 2); have hHB2 := Lib.hid (below_on HB1.out (Nat.le_refl _) hF2); have hlr := Lib.hid (Array.getElem?_eq_some_iff.1 hrow).1; have hne : gb ≠ g := (by omega); clear hO2 hg2 hat2 hF2 hrow hcs)
     have hDone := Lib.hid (rc_done hHB2.out hBs hlg HT.out hok.out hcg2.out hO3.out hn 2 (by decide) (i64 r.1) { L[n] with set_ := r.1 } rfl (hok.out L[n] (List.getElem_mem hn)))
     go_wp2
     go_ret
     exact ⟨by rw [HR.out]; rfl, by rw [HR.out]; rw [Ha.out] at hDone; exact hDone.out.1, hDone.out.2⟩
  ·have g2 : (r.2 != 0) = true := by simpa using hr
   have HR := Lib.hid (show R = (r.2, L) by rw [HU.out, if_pos hr])
   clear hr HU
   go_wp2
   go_ret
   exact ⟨by rw [HR.out]; rfl, by rw [HR.out]; exact H1.out, grown_of_below HB1.out _⟩
end Go.Proofs.YtampniiehgimhaaGreat

/- ref08.Free -/
namespace Go.Proofs.YtampniiehgimhaaGreat
open Go.RowKit
theorem RhIs.ne {w : World} {T : Nat → Prop} {g gc : Nat} {H : List Held} {L : List Ac} (h : RhIs w T g H) (hc : RcIs w T gc L) : g ≠ gc := fun e => by
 obtain ⟨_, _, h1, _⟩ := h
 obtain ⟨_, _, h2, _⟩ := hc
 rw [e, h2] at h1
 injection h1 with h1
 injection h1 with _ h3 _
 cases h3
set_option maxRecDepth 100000 in
set_option maxHeartbeats 8000000 in
theorem rhfree_c (T : Nat → Prop) (g gc : Nat) (H : List Held) (L : List Ac) (k : ByteArray) (n : Int) (w : World) (h : RhIs w T g H) (hc : RcIs w T gc L) (hL : OkA L) (hS : SrtL ltA L) (hl : L.length ≤ 65536) (hH : OkH H) (hSH : SrtL ltH H) (hn : H.length ≤ 65536) (hTn : ∀ k, w.heap.size ≤ k → T k) (hTg : ¬ T g) (hTc : ¬ T gc) :
  Calls Tryz.prog 66 #[.pointer (some ⟨g, 0, none⟩), .pointer (some ⟨gc, 0, none⟩), .string k, i64 n] w fun e w' => e = .returned (i64 (freeHL L H k n).1) ∧ RcIs w' T gc (freeHL L H k n).2.1 ∧ RhIs w' T g (freeHL L H k n).2.2 ∧ Gr w w' (GH g gc) := by
 have hne := h.ne hc
 have H1 := Lib.hid h
 have H2 := Lib.hid hc
 have hA := Lib.hid (rhat_c T g H k n w h hn)
 have HTn := Lib.hid hTn
 have HTg := Lib.hid hTg
 have HTc := Lib.hid hTc
 have HH := Lib.hid hH
 have HSH := Lib.hid hSH
 obtain ⟨R, hR⟩ : ∃ R, freeHL L H k n = R := ⟨_, rfl⟩
 rw [hR]
 unfold freeHL at hR
 have HR := Lib.hid hR.symm
 have hrs := Lib.hid (fun (x : Int) (hx : R64 x) => raside_c T gc L k x w hc hl hL hS hx hTn hTc)
 obtain ⟨A, c, hcell, hs, hf⟩ := h
 have c0 := cell_of_row _ g 0 _ _ (0, 0) hcell
 simp only [List.getElem?_toArray, List.getElem?_cons_zero] at c0
 clear hcell hf hc hL hS hH hSH hTn hTg hTc hR
 rcases idxH_get (H := H) (k := k) (n := n) with ⟨h1, h2⟩ | ⟨i, hi, h1, h2, h3⟩
 ·have HR2 := Lib.hid (show R = (6, L, H) by rw [HR.out, h2])
  clear h2 HR hs
  generalize idxH H k n = ix at *
  have g1 : decide (ix < 0) = true := decide_eq_true h1
  go_enter Tryz.func66, Tryz.ntmps66
  go_wp2_with fail
  refine hA.out.mono ?_
  rintro e w1 ⟨rfl, rfl⟩
  go_wp2
  go_ret
  exact ⟨by rw [HR2.out]; rfl, by rw [HR2.out]; exact H2.out, by rw [HR2.out]; exact H1.out, Gr.refl _ _⟩
 ·obtain ⟨b, o, rfl, hb, _, d0, d1, d2⟩ := hs.held hi
  have hlc : H.length ≤ c := hs.1
  have g1 : decide ((i : Int) < 0) = false := decide_eq_false (by omega)
  have i0 : (0 : Int) ≤ (i : Int) := by omega
  have i1 : (i : Int) < (H.length : Int) := by omega
  have hx := HH.out H[i] (List.getElem_mem hi)
  have hr : R64 (-H[i].sum) := by unfold R64; omega
  have hw : IntKind.i64.wrap (-H[i].sum) = -H[i].sum := by rw [IntKind.wrap_i64]; omega
  have hAs := Lib.hid (hrs.out (-H[i].sum) hr)
  have HR2 := Lib.hid (show R = ((turnL (asiD (-H[i].sum)) L k (-H[i].sum)).1, (turnL (asiD (-H[i].sum)) L k (-H[i].sum)).2, if (turnL (asiD (-H[i].sum)) L k (-H[i].sum)).1 = 0 then delK Held.key H ⟨k, n⟩ else H) by rw [HR.out, h2])
  have HD := Lib.hid (show delK Held.key H ⟨k, n⟩ = H.take i ++ H.drop (i + 1) by rw [← h3]; exact delK_at keyH HSH.out hi)
  rw [h1] at hA
  clear h1 h2 h3 HR hs hx hr hrs
  generalize turnL (asiD (-H[i].sum)) L k (-H[i].sum) = tt at *
  generalize H[i].sum = su at *
  obtain ⟨er, L2⟩ := tt
  dsimp only at hAs HR2
  go_enter Tryz.func66, Tryz.ntmps66
  go_wp2_with fail
  refine hA.out.mono ?_
  rintro e w1 ⟨rfl, rfl⟩
  go_wp2_with fail
  refine hAs.out.mono ?_
  rintro e w2 ⟨rfl, q1, q2⟩
  have hG : Gr w w2 (GH g gc) := (Gr.of_grown q2).mono (fun k _ e => .inr (by injection e with e; exact e.symm))
  have hh2 := H1.out.kept (Gr.of_grown q2) (fun e => hne (by injection e with e; exact e.symm)) (fun k hk e => HTc.out (by injection e with e; rw [e]; exact hk))
  have hsz := q2.size
  clear hA hAs q2 d0 d1 d2 c0
  by_cases h0 : er = 0
  ·have g2 : (er == 0) = true := by rw [h0]; rfl
   have hC := Lib.hid (rhcut_c T g H i w2 hh2 hn hi (fun k hk => HTn.out k (Nat.le_trans hsz hk)))
   have HR3 := Lib.hid (show R = (er, L2, H.take i ++ H.drop (i + 1)) by rw [HR2.out, if_pos h0, HD.out])
   clear h0 HR2 HD hh2
   go_wp2_with fail
   refine hC.out.mono ?_
   rintro e w3 ⟨rfl, q3, q4⟩
   have hc3 := q1.kept (Gr.of_grown q4) (fun e => hne (by injection e)) (fun k hk e => HTg.out (by injection e with e; rw [e]; exact hk))
   have hG2 := hG.trans ((Gr.of_grown q4).mono (fun k _ e => (show GH g gc k from .inl (by injection e with e; exact e.symm)))) (fun _ e => .inl e)
   go_wp2
   go_ret
   exact ⟨by rw [HR3.out]; rfl, by rw [HR3.out]; exact hc3, by rw [HR3.out]; exact q3, hG2⟩
  ·have g2 : (er == 0) = false := beq_eq_false_iff_ne.2 h0
   have HR3 := Lib.hid (show R = (er, L2, H) by rw [HR2.out, if_neg h0])
   clear h0 HR2 HD
   go_wp2
   go_ret
   exact ⟨by rw [HR3.out]; rfl, by rw [HR3.out]; exact q1, by rw [HR3.out]; exact hh2, hG⟩
end Go.Proofs.YtampniiehgimhaaGreat
