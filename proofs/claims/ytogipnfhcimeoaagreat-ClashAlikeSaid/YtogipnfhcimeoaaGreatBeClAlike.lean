/- ClashAlike -/
import Derived.Test.YtogipnfhcimeoaaGreatRows
import Derived.Test.YtogipnfhcimeoaaGreatBd11
import Derived.WalkKit
import Derived.WalkSpells
import Derived.WalkLawsBesides
import Derived.Deep.QuietTactic
import Derived.BigQuiet
import Derived.Laws.StructEq
import Derived.Deep.DeepFit
import Derived.StillTailTactics
namespace Go.Proofs.YtogipnfhcimeoaaGreat
open Go.RowKit
theorem bub_fold {a b l : List Od} (h : Bub a b l b.length) (hl : a.length = b.length) (ho : ∀ x ∈ a, OdB x) : foldL bk0 a = foldL bk0 b ∧ sameL l b = true := by
  have hk := h.done hl
  refine ⟨?_, sameL_core.2 hk⟩
  rw [(mix_told inv_bk0 h.mix ho).1, ← foldL_core l, hk, foldL_core]
theorem alike_len {a b : List Od} (h : alikeB a b = true) : a.length = b.length ∧ Beg (K a) (K b) := by
  unfold alikeB at h
  simp only [Bool.and_eq_true, decide_eq_true_eq] at h
  exact ⟨h.1, beginsB_K.1 h.2⟩
theorem alike_comm {a b : List Od} : alikeB a b = alikeB b a := by
  have one : ∀ {a b : List Od}, alikeB a b = true → alikeB b a = true := fun {a b} h => by
    obtain ⟨h1, h2⟩ := alike_len h
    unfold alikeB
    rw [beginsB_K.2 (h2.symm (by rw [List.length_map, List.length_map]; omega)), decide_eq_true h1.symm]
    rfl
  rw [Bool.eq_iff_iff]
  exact ⟨one, one⟩
set_option maxRecDepth 100000 in
set_option maxHeartbeats 8000000 in
theorem clashAlike_c (A B : Option Addr) (c d : Nat) (a b : List Od) (w : World) (ha : Sl w w.heap.size A c a) (hra : ∀ x ∈ a, InR x) (hb : Sl w w.heap.size B d b) (hrb : ∀ x ∈ b, InR x) :
    Calls Tryz.prog 14 #[.slice A a.length c, .slice B b.length d] w fun e w' => e = .returned (.bool true) ∧ Below w.heap.size w w' := by
  have HFA := Lib.hid (fewL_odB (n := 20) ha hra)
  have HFB := Lib.hid (fewL_odB (n := 20) hb hrb)
  go_enter Tryz.func14, Tryz.ntmps14
  go_wp2_with fail
  refine (lives_10 _).mono ?_
  rintro e w1 ⟨rfl, hB⟩
  have ha := ha.later hB
  have hb := hb.later hB
  clear hra hrb
  go_wp2_with fail
  refine (few_10 A c 20 a _ ha (by decide)).mono ?_
  rintro e wfFA ⟨v, rfl, hO, hF⟩
  have hB := below_on hB (by omega) hF
  have hb := hb.later hF
  have nFA := fewL_le 20 a
  have lFA : fewLegs (fewL 20 a) := fun x hx => Nat.le_trans (fewL_legs 20 a x hx) (by decide)
  clear hF ha
  generalize fewL 20 a = FA at hO nFA lFA HFA
  obtain ⟨AFA, cFA, rfl, hFA⟩ := hO.sl
  clear hO
  go_wp2_with fail
  refine (own_10 AFA cFA FA _ hFA (Nat.le_trans nFA (by decide))).mono ?_
  rintro e woA ⟨v, rfl, hO, hF⟩
  have hB := below_on hB (by omega) hF
  have hb := hb.later hF
  have vA := Lib.hid (val_own FA)
  have nA : (ownL FA).length ≤ 20 := Nat.le_trans (ownK_len FA FA.length) nFA
  have lA : fewLegs (ownL FA) := fun x hx => lFA x (ownK_sub FA _ x hx)
  have OA := Lib.hid (show ∀ x ∈ ownL FA, OdB x from fun x hx => HFA.out x (ownK_sub FA _ x hx))
  clear hF hFA HFA
  generalize ownL FA = A1 at hO vA nA lA OA
  obtain ⟨AA, cA, rfl, hA⟩ := hO.sl
  clear hO lFA nFA
  go_wp2_with fail
  refine (few_10 B d 20 b _ hb (by decide)).mono ?_
  rintro e wfFB ⟨v, rfl, hO, hF⟩
  have hB := below_on hB (by omega) hF
  have hA := hA.later hF
  have nFB := fewL_le 20 b
  have lFB : fewLegs (fewL 20 b) := fun x hx => Nat.le_trans (fewL_legs 20 b x hx) (by decide)
  clear hF hb
  generalize fewL 20 b = FB at hO nFB lFB HFB
  obtain ⟨AFB, cFB, rfl, hFB⟩ := hO.sl
  clear hO
  go_wp2_with fail
  refine (own_10 AFB cFB FB _ hFB (Nat.le_trans nFB (by decide))).mono ?_
  rintro e woB ⟨v, rfl, hO, hF⟩
  have hB := below_on hB (by omega) hF
  have hA := hA.later hF
  have vB := Lib.hid (val_own FB)
  have nB : (ownL FB).length ≤ 20 := Nat.le_trans (ownK_len FB FB.length) nFB
  have lB : fewLegs (ownL FB) := fun x hx => lFB x (ownK_sub FB _ x hx)
  have OB := Lib.hid (show ∀ x ∈ ownL FB, OdB x from fun x hx => HFB.out x (ownK_sub FB _ x hx))
  clear hF hFB HFB
  generalize ownL FB = B1 at hO vB nB lB OB
  obtain ⟨AB, cB, rfl, hB1⟩ := hO.sl
  clear hO lFB nFB
  have HA1 := Lib.hid (fun (W : World) (h1 : Sl W W.heap.size AA cA A1) (h2 : Sl W W.heap.size AB cB B1) => alike_c AA AB cA cB A1 B1 W h1 h2 (by omega) (by omega) lA lB)
  have HA2 := Lib.hid (fun (W : World) (h1 : Sl W W.heap.size AA cA A1) (h2 : Sl W W.heap.size AB cB B1) => alike_c AB AA cB cA B1 A1 W h2 h1 (by omega) (by omega) lB lA)
  rw [← alike_comm] at HA2
  go_wp2_with fail
  refine (HA1.out _ hA hB1).mono ?_
  rintro e w7 ⟨rfl, hF⟩
  have hB := below_on hB (by omega) hF
  have hA := hA.later hF
  have hB1 := hB1.later hF
  clear hF HA1
  cases hal : alikeB A1 B1
  · rw [hal] at HA2
    clear hal
    go_wp2_with fail
    refine (HA2.out _ hA hB1).mono ?_
    rintro e w8 ⟨rfl, hF⟩
    have hB := below_on hB (by omega) hF
    clear hF HA2
    go_wp2
    go_ret
    exact ⟨rfl, hB⟩
  · rw [hal] at HA2
    obtain ⟨hlen, hbeg⟩ := alike_len hal
    have Hbeg := Lib.hid hbeg
    have Hlen := Lib.hid hlen
    clear hal hbeg hlen
    have hcB : B1.length ≤ cB := hB1.1
    go_wp2_with fail
    go_loopw [5, 6] (fun v i wr => ∃ (l : List Od) (AL : Option Addr) (cL k : Nat), v = .slice AL l.length cL ∧ i = i64 k ∧ k ≤ B1.length ∧ Bub A1 B1 l k ∧ Sl wr wr.heap.size AL cL l ∧ Below w7.heap.size w7 wr) (fun _ i _ => B1.length - (intOf i).toNat)
    case atStart => exact ⟨A1, AA, cA, 0, rfl, rfl, Nat.zero_le _, Bub.start _ _, hA, Below.refl _ _⟩
    case round =>
      obtain ⟨l, AL, cL, k, rfl, rfl, hk, hbub, hL, hb⟩ := hrel
      by_cases hlt : k < B1.length
      · have g1 : decide ((k : Int) < (B1.length : Int)) = true := decide_eq_true (by omega)
        have g2 : decide (k < B1.length) = true := decide_eq_true hlt
        have i0 : (0 : Int) ≤ (k : Int) := by omega
        have i1 : (k : Int) < (B1.length : Int) := by omega
        obtain ⟨bb, o, hbA, _, _, c0, c1, _⟩ := (hB1.later hb).od hlt
        have Hll := Lib.hid (show l.length = B1.length from hbub.len.trans Hlen.out)
        obtain ⟨j, hj1, hj2, hj3, hj4⟩ := hbub.at_ Hbeg.out Hlen.out vA.out vB.out hlt
        have HC := Lib.hid (at_any AL cL l B1[k].id wr hL (by have := Hll.out; omega))
        rw [hj1] at HC
        unfold Od.id at HC
        have Hb := Lib.hid hbub
        have H4 := Lib.hid hj4
        clear hj1 hbub hj4
        subst hbA
        go_wp2_with fail
        refine HC.out.mono ?_
        rintro e w10 ⟨rfl, hF⟩
        have hb := hb.trans (hF.mono hb.size)
        have hL := hL.later hF
        clear HC hF c0 c1
        go_wp2_with fail
        go_loopw [5, 7] (fun v i wr => ∃ (l : List Od) (AL : Option Addr) (cL j : Nat), v = .slice AL l.length cL ∧ i = i64 j ∧ k ≤ j ∧ j < l.length ∧ Hid (l.length = B1.length) ∧ Hid (Bub A1 B1 l k) ∧ Hid ((K l)[j]? = (K B1)[k]?) ∧ Sl wr wr.heap.size AL cL l ∧ Below w7.heap.size w7 wr) (fun _ i _ => (intOf i).toNat)
        case atStart => exact ⟨l, AL, cL, j, rfl, rfl, hj2, hj3, Hll, Hb, H4, hL, hb⟩
        case round =>
          clear hL hb Hll hj2 hj3 Hb H4
          obtain ⟨l, AL, cL, j, rfl, rfl, hkj, hjl, Hll, Hb, H4, hL, hb⟩ := hrel
          by_cases hgt : k < j
          · obtain ⟨q, hq⟩ : ∃ q, j = q + 1 := ⟨j - 1, by omega⟩
            have Hq := Lib.hid hq
            have g3 : decide ((j : Int) > (k : Int)) = true := decide_eq_true (by omega)
            have g4 : decide (k < j) = true := decide_eq_true (by omega)
            have ew : IntKind.i64.wrap ((j : Int) - 1) = (q : Int) := by have := Hll.out; rw [IntKind.wrap_i64]; omega
            have ew2 : wrap64 ((j : Int) - 1) = (q : Int) := by rw [← IntWalk.i64_left]; exact ew
            obtain ⟨h1, h2, h3, h4⟩ := Hb.out.swap Hbeg.out Hlen.out vA.out (i := k) (k := q) hlt (by omega) (by omega) (by rw [← hq]; exact H4.out)
            clear hq
            have lL : fewLegs l := fun x hx => lA x (Hb.out.mix.perm.mem_iff.2 hx)
            have HC := Lib.hid (swap_c AL cL l (q : Int) wr hL (by have := Hll.out; omega) lL)
            rw [h1] at HC
            have H2 := Lib.hid h2
            have H3 := Lib.hid h3
            have H5 := Lib.hid h4
            clear h1 h2 h3 h4 lL
            generalize swapR l (q : Int) = l2 at *
            go_wp2_with fail
            refine HC.out.mono ?_
            rintro e w11 ⟨v, rfl, hO, hF⟩
            obtain ⟨A2, c2, rfl, s2⟩ := hO.sl
            have hb := hb.trans (hF.mono hb.size)
            clear HC hO hF
            go_wp2
            go_roundw
            case rel => exact ⟨l2, A2, c2, q, rfl, rfl, by have := Hq.out; omega, by have := H5.out; have := Hq.out; omega, Lib.hid (H5.out.trans Hll.out), H2, H3, s2, hb⟩
            case measure => have := Hq.out; simp [intOf]; omega
          · obtain rfl : j = k := by omega
            have g3 : decide ((j : Int) > (j : Int)) = false := decide_eq_false (by omega)
            have g4 : decide ((j : Int) < (j : Int)) = false := decide_eq_false (by omega)
            have Hn := Lib.hid (Hb.out.next H4.out)
            go_wp2
            go_roundw
            case rel => exact ⟨l, AL, cL, j + 1, rfl, by go_num, by omega, Hn.out, hL, hb⟩
            case measure => simp [intOf]; omega
      · obtain rfl : k = B1.length := by omega
        have g1 : decide ((B1.length : Int) < (B1.length : Int)) = false := decide_eq_false (by omega)
        obtain ⟨hf, hsl⟩ := bub_fold hbub Hlen.out OA.out
        have Hll := Lib.hid (show l.length = B1.length from hbub.len.trans Hlen.out)
        have lL : fewLegs l := fun x hx => lA x (hbub.mix.perm.mem_iff.2 hx)
        have hA := hA.later hb
        have hB1 := hB1.later hb
        have hB := hB.trans (hb.mono hB.size)
        have HF1 := Lib.hid (bfold_c AA cA A1 wr hA OA.out (fun x hx => Nat.le_trans (lA x hx) (by decide)) (by omega))
        have HSL := Lib.hid (fun (W : World) (h1 : Sl W W.heap.size AL cL l) (h2 : Sl W W.heap.size AB cB B1) => sameL_c AL AB cL cB l B1 W h1 h2 (by have := Hll.out; omega) (by omega) (fun x hx => Nat.le_trans (lL x hx) (by decide)) (fun x hx => Nat.le_trans (lB x hx) (by decide)))
        rw [hsl] at HSL
        have HF2 := Lib.hid (fun (W : World) (hW : Sl W W.heap.size AB cB B1) => bfold_c AB cB B1 W hW OB.out (fun x hx => Nat.le_trans (lB x hx) (by decide)) (by omega))
        rw [← hf] at HF2
        clear hbub hb hsl hf
        go_wp2_with fail
        refine HF1.out.mono ?_
        rintro e w12 ⟨p, v5, B5, rfl, hK5, hI5, -, -, -, hF⟩
        have hB := below_on hB (by omega) hF
        have hL := hL.later hF
        have hA := hA.later hF
        have hB1 := hB1.later hF
        clear hF HF1
        go_wp2_with fail
        refine (HF2.out _ hB1).mono ?_
        rintro e w13 ⟨q, v6, B6, rfl, hK6, hI6, -, -, -, hF⟩
        have hB := below_on hB (by omega) hF
        have hL := hL.later hF
        have hA := hA.later hF
        have hB1 := hB1.later hF
        have hK5 := hK5.later hF
        have HS := Lib.hid (fun (W : World) (h1 : BkA W p (foldL bk0 A1)) (h2 : BkA W q (foldL bk0 A1)) => bsame_c p q (foldL bk0 A1) (foldL bk0 A1) W h1 h2 hI5 hI5)
        rw [sameBk_refl] at HS
        clear hF HF2 hI5 hI6
        generalize foldL bk0 A1 = Bk1 at *
        go_wp2_with fail
        refine (HSL.out _ hL hB1).mono ?_
        rintro e w14 ⟨rfl, hF⟩
        have hB := below_on hB (by omega) hF
        have hA := hA.later hF
        have hB1 := hB1.later hF
        have hK5 := hK5.later hF
        have hK6 := hK6.later hF
        clear hF HSL hL
        go_wp2_with fail
        refine (HA2.out _ hA hB1).mono ?_
        rintro e w15 ⟨rfl, hF⟩
        have hB := below_on hB (by omega) hF
        have hK5 := hK5.later hF
        have hK6 := hK6.later hF
        clear hF HA2 hA hB1
        go_wp2_with fail
        refine (HS.out _ hK5 hK6).mono ?_
        rintro e w16 ⟨rfl, hF⟩
        have hB := below_on hB (by omega) hF
        go_wp2
        go_ret
        exact ⟨rfl, hB⟩
end Go.Proofs.YtogipnfhcimeoaaGreat
