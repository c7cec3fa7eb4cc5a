/- FoataAlike -/
import Derived.Test.YtmbfalokkabmnaaGreatRows
import Derived.Test.YtmbfalokkabmnaaGreatBh17
import Derived.Test.YtmbfalokkabmnaaGreatBh5
import Derived.WalkKit
import Derived.WalkSpells
import Derived.WalkLawsBesides
import Derived.Deep.QuietTactic
import Derived.BigQuiet
import Derived.Laws.StructEq
import Derived.Deep.DeepFit
import Derived.StillTailTactics
namespace Go.Proofs.YtmbfalokkabmnaaGreat
open Go.RowKit
theorem cut8_in {x : Od} (h : InR x) : InR (cut8 x) := ⟨h.1, h.2.1, h.2.2.1, h.2.2.2.1, h.2.2.2.2.1, h.2.2.2.2.2.1, fun l hl => h.2.2.2.2.2.2 l (List.mem_of_mem_take hl)⟩
theorem fewL_in {n : Nat} {l : List Od} (hr : ∀ x ∈ l, InR x) : ∀ x ∈ fewL n l, InR x := fun x hx => by
  obtain ⟨y, hy, rfl⟩ := List.mem_map.1 hx
  exact cut8_in (hr y (List.mem_of_mem_take hy))
theorem errX_iff {l : List Od} : errX l = 0 ↔ okX l = true ∧ okW (stepsL l) = true := by
  constructor
  · intro h
    cases hx : okX l with
    | false => rw [errX_no hx] at h; cases h
    | true =>
      rw [errX_ok hx] at h
      cases hw : okW (stepsL l) with
      | false => rw [errW_no hw] at h; cases h
      | true => exact ⟨rfl, rfl⟩
  · rintro ⟨h1, h2⟩
    rw [errX_ok h1, errW_ok h2]
theorem outX_err {l : List Od} (h : errX l ≠ 0) : outX l = [] := by
  cases hx : okX l with
  | false => exact outX_no hx
  | true =>
    rw [outX_ok hx]
    refine outW_no ?_
    cases hw : okW (stepsL l) with
    | false => rfl
    | true => exact absurd (errX_iff.2 ⟨hx, hw⟩) h
theorem okX_val {l : List Od} (h : okX l = true) : Val l := by
  unfold okX at h
  simp only [Bool.and_eq_true] at h
  exact validL_iff.1 h.2
theorem stepsL_val {l : List Od} (h : Val l) : stepsL l = stepsV l := by unfold stepsL; rw [if_pos (validL_iff.2 h)]
/-- the same bytes just if they are alike -/
theorem alike_law {a b : List Od} (ra : ∀ x ∈ a, InR x) (rb : ∀ x ∈ b, InR x) (ha : errX a = 0) (hb : errX b = 0) (na : a.length ≤ 60000) (nb : b.length ≤ 60000) : (outX a == outX b) = alikeB a b := by
  obtain ⟨xa, wa⟩ := errX_iff.1 ha
  obtain ⟨xb, wb⟩ := errX_iff.1 hb
  have va := okX_val xa
  have vb := okX_val xb
  rw [outX_ok xa, outX_ok xb, outW_ok wa, outW_ok wb]
  rw [stepsL_val va] at *
  rw [stepsL_val vb] at *
  have h1 := okW_all wa
  have h2 := okW_all wb
  rw [Bool.eq_iff_iff, beq_iff_eq]
  exact ⟨fun h => writes_alike va vb (fun x hx => ⟨h1 x hx, ra x hx⟩) (fun x hx => ⟨h2 x hx, rb x hx⟩) na nb h, fun h => alike_writes va vb h⟩
set_option maxRecDepth 100000 in
set_option maxHeartbeats 8000000 in
theorem foataAlike_c (A B : Option Addr) (c d : Nat) (a b : List Od) (w : World) (ha : Sl w w.heap.size A c a) (hra : ∀ x ∈ a, InR x) (hb : Sl w w.heap.size B d b) (hrb : ∀ x ∈ b, InR x) :
    Calls Tryz.prog 5 #[.slice A a.length c, .slice B b.length d] w fun e w' => e = .returned (.bool true) ∧ Below w.heap.size w w' := by
  have RFA := Lib.hid (fewL_in (n := 40) hra)
  have RFB := Lib.hid (fewL_in (n := 40) hrb)
  clear hra hrb
  go_enter Tryz.func5, Tryz.ntmps5
  have hB : Below w.heap.size w w := Below.refl _ _
  go_wp2_with fail
  refine (lives_11 _).mono ?_
  rintro e wk1 ⟨rfl, hF⟩
  have hB := below_on hB (by omega) hF
  have ha := ha.later hF
  have hb := hb.later hF
  clear hF
  go_wp2_with fail
  refine (few_11 A c 40 a _ ha (by decide)).mono ?_
  rintro e wk2 ⟨v, rfl, hO, hF⟩
  have hB := below_on hB (by omega) hF
  have hb := hb.later hF
  clear hF ha
  have nFA := fewL_le 40 a
  have lFA : fewLegs (fewL 40 a) := fun x hx => Nat.le_trans (fewL_legs 40 a x hx) (by decide)
  generalize fewL 40 a = FA at *
  obtain ⟨AFA, cFA, rfl, hFA⟩ := hO.sl
  clear hO
  go_wp2_with fail
  refine (own_11 AFA cFA FA _ hFA (Nat.le_trans nFA (by decide))).mono ?_
  rintro e wk3 ⟨v, rfl, hO, hF⟩
  have hB := below_on hB (by omega) hF
  have hb := hb.later hF
  clear hF hFA
  have vLA := Lib.hid (val_own FA)
  have nLA : (ownL FA).length ≤ 40 := Nat.le_trans (ownK_len FA FA.length) nFA
  have lLA : fewLegs (ownL FA) := fun x hx => lFA x (ownK_sub FA _ x hx)
  have RA := Lib.hid (show ∀ x ∈ ownL FA, InR x from fun x hx => RFA.out x (ownK_sub FA _ x hx))
  clear RFA
  clear nFA lFA
  generalize ownL FA = LA at *
  obtain ⟨ALA, cLA, rfl, hLA⟩ := hO.sl
  clear hO
  go_wp2_with fail
  refine (few_11 B d 40 b _ hb (by decide)).mono ?_
  rintro e wk4 ⟨v, rfl, hO, hF⟩
  have hB := below_on hB (by omega) hF
  have hLA := hLA.later hF
  clear hF hb
  have nFB := fewL_le 40 b
  have lFB : fewLegs (fewL 40 b) := fun x hx => Nat.le_trans (fewL_legs 40 b x hx) (by decide)
  generalize fewL 40 b = FB at *
  obtain ⟨AFB, cFB, rfl, hFB⟩ := hO.sl
  clear hO
  go_wp2_with fail
  refine (own_11 AFB cFB FB _ hFB (Nat.le_trans nFB (by decide))).mono ?_
  rintro e wk5 ⟨v, rfl, hO, hF⟩
  have hB := below_on hB (by omega) hF
  have hLA := hLA.later hF
  clear hF hFB
  have vLB := Lib.hid (val_own FB)
  have nLB : (ownL FB).length ≤ 40 := Nat.le_trans (ownK_len FB FB.length) nFB
  have lLB : fewLegs (ownL FB) := fun x hx => lFB x (ownK_sub FB _ x hx)
  have RB := Lib.hid (show ∀ x ∈ ownL FB, InR x from fun x hx => RFB.out x (ownK_sub FB _ x hx))
  clear RFB
  clear nFB lFB
  generalize ownL FB = LB at *
  obtain ⟨ALB, cLB, rfl, hLB⟩ := hO.sl
  clear hO
  have HA := Lib.hid (fun (W : World) (h : Sl W W.heap.size ALA cLA LA) => export_c ALA cLA LA W h (by omega) lLA RA.out)
  have HBx := Lib.hid (fun (W : World) (h : Sl W W.heap.size ALB cLB LB) => export_c ALB cLB LB W h (by omega) lLB RB.out)
  have HAl := Lib.hid (fun (W : World) (h1 : Sl W W.heap.size ALA cLA LA) (h2 : Sl W W.heap.size ALB cLB LB) => alike_c ALA ALB cLA cLB LA LB W h1 h2 (by omega) (by omega) lLA lLB)
  have Hlaw := Lib.hid (fun (ea : errX LA = 0) (eb : errX LB = 0) => alike_law RA.out RB.out ea eb (by omega) (by omega))
  have Hna := Lib.hid (outX_err (l := LA))
  have Hnb := Lib.hid (outX_err (l := LB))
  clear lLA lLB RA RB vLA vLB nLA nLB
  generalize hea : errX LA = ea at *
  generalize heb : errX LB = eb at *
  generalize hua : outX LA = ua at *
  generalize hub : outX LB = ub at *
  generalize hal : alikeB LA LB = al at *
  clear hea heb hua hub hal
  go_wp2_with fail
  refine (HA.out _ hLA).mono ?_
  rintro e wk6 ⟨v, rfl, hO, hF⟩
  have hB := below_on hB (by omega) hF
  have hLA := hLA.later hF
  have hLB := hLB.later hF
  clear hF
  obtain ⟨AX, cX, rfl, hX⟩ := hO.sl
  clear hO
  go_wp2_with fail
  refine (HBx.out _ hLB).mono ?_
  rintro e wk7 ⟨v, rfl, hO, hF⟩
  have hB := below_on hB (by omega) hF
  have hLA := hLA.later hF
  have hLB := hLB.later hF
  have hX := hX.later hF
  clear hF
  obtain ⟨AY, cY, rfl, hY⟩ := hO.sl
  clear hO
  have HS := Lib.hid (fun (W : World) (h1 : Sl W W.heap.size AX cX ua) (h2 : Sl W W.heap.size AY cY ub) => same2_c AX AY cX cY ua ub W h1 h2)
  clear HA HBx
  by_cases h1 : ea = 0
  · by_cases h2 : eb = 0
    · subst h1 h2
      have hl := Hlaw.out rfl rfl
      rw [hl] at HS
      clear hl Hlaw Hna Hnb
      go_wp2_with fail
      refine (HS.out _ hX hY).mono ?_
      rintro e wk51 ⟨rfl, hF⟩
      have hB := below_on hB (by omega) hF
      have hLA := hLA.later hF
      have hLB := hLB.later hF
      clear hF HS hX hY
      go_wp2_with fail
      refine (HAl.out _ hLA hLB).mono ?_
      rintro e wk52 ⟨rfl, hF⟩
      have hB := below_on hB (by omega) hF
      clear hF HAl hLA hLB
      have hal : (al == al) = true := by cases al <;> rfl
      go_wp2
      go_ret
      exact ⟨rfl, hB⟩
    · have e2 : (eb == 0) = false := by simpa using h2
      obtain rfl := Hnb.out h2
      clear HS HAl Hlaw Hna Hnb hX hY hLA hLB
      subst h1
      go_wp2
      all_goals
        go_ret
        exact ⟨rfl, hB⟩
  · have e1 : (ea == 0) = false := by simpa using h1
    obtain rfl := Hna.out h1
    clear HS HAl Hlaw Hna Hnb hX hY hLA hLB
    go_wp2
    all_goals
      go_ret
      exact ⟨rfl, hB⟩
end Go.Proofs.YtmbfalokkabmnaaGreat
