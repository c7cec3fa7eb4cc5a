/- FoataSteps -/
import Derived.Test.YtdkkblhfjblpkaaGreatRows
import Derived.Test.YtdkkblhfjblpkaaGreatBfRf11E
import Derived.Test.YtdkkblhfjblpkaaGreatBfRf11A
import Derived.Test.YtdkkblhfjblpkaaGreatBi19
import Derived.Test.YtdkkblhfjblpkaaGreatBi13
import Derived.Test.YtdkkblhfjblpkaaGreatBfFoAlike
import Derived.Test.YtdkkblhfjblpkaaGreatBfFoRdP
import Derived.WalkKit
import Derived.WalkSpells
import Derived.WalkLawsBesides
import Derived.Deep.QuietTactic
import Derived.BigQuiet
import Derived.Laws.StructEq
import Derived.Deep.DeepFit
import Derived.StillTailTactics
namespace Go.Proofs.YtdkkblhfjblpkaaGreat
open Go.RowKit
theorem sameS_refl (S : List (List Od)) : sameS S S = true := sameS_K.2 rfl
theorem steps_lay_le {l : List Od} {L : List (SV Od)} (h : L.map SV.l = stepsL l) : (layL (L.map SV.l)).length ≤ l.length := by
  rw [h]
  cases hv : validL l with
  | true =>
    rw [stepsL_val (validL_iff.1 hv), (lay_perm l).length_eq]
    exact Nat.le_refl _
  | false =>
    unfold stepsL
    rw [hv]
    exact Nat.zero_le _
theorem steps_lay_legs {l : List Od} {L : List (SV Od)} (h : L.map SV.l = stepsL l) (hl : ∀ x ∈ l, x.legs.length ≤ 10) : ∀ x ∈ layL (L.map SV.l), x.legs.length ≤ 10 := by
  intro x hx
  unfold layL at hx
  obtain ⟨s, hs, hx⟩ := List.mem_flatten.1 hx
  obtain ⟨y, hy, rfl⟩ := List.mem_map.1 hs
  exact hl x (((stepsL_in h).2 y hy).2 x hx)
set_option maxRecDepth 100000 in
set_option maxHeartbeats 8000000 in
theorem foataSteps_c (A : Option Addr) (c : Nat) (a : List Od) (w : World) (ha : Sl w w.heap.size A c a) (hra : ∀ x ∈ a, InR x) :
    Calls Tryz.prog 3 #[.slice A a.length c] w fun e w' => e = .returned (.bool true) ∧ Below w.heap.size w w' := by
  have RFA := Lib.hid (fewL_in (n := 60) hra)
  clear hra
  go_enter Tryz.func3, Tryz.ntmps3
  have hB : Below w.heap.size w w := Below.refl _ _
  go_wp2_with fail
  refine (lives_11 _).mono ?_
  rintro e wk1 ⟨rfl, hF⟩
  have hB := below_on hB (by omega) hF
  have ha := ha.later hF
  clear hF
  go_wp2_with fail
  refine (few_11 A c 60 a _ ha (by decide)).mono ?_
  rintro e wk2 ⟨v, rfl, hO, hF⟩
  have hB := below_on hB (by omega) hF
  clear hF ha
  have nLA := fewL_le 60 a
  have lLA : fewLegs (fewL 60 a) := fun x hx => Nat.le_trans (fewL_legs 60 a x hx) (by decide)
  generalize fewL 60 a = LA at *
  obtain ⟨ALA, cLA, rfl, hLA⟩ := hO.sl
  clear hO
  have HA := Lib.hid (fun (W : World) (h : Sl W W.heap.size ALA cLA LA) => export_c ALA cLA LA W h (by omega) lLA RFA.out)
  have HB2 := Lib.hid (fun (W : World) (h : Sl W W.heap.size ALA cLA LA) => rexport_c ALA cLA LA W h (by omega) lLA RFA.out)
  have HS := Lib.hid (fun (W : World) (h : Sl W W.heap.size ALA cLA LA) => steps_c ALA cLA LA W h (by omega) lLA)
  have HS2 := Lib.hid (fun (W : World) (h : Sl W W.heap.size ALA cLA LA) => rsteps_c ALA cLA LA W h (by omega) lLA)
  have Hsm := Lib.hid (fun (L : List (SV Od)) (h : L.map SV.l = stepsL LA) => stepsL_small h (by omega) lLA)
  have Hll := Lib.hid (fun (L : List (SV Od)) (h : L.map SV.l = stepsL LA) => Nat.le_trans (steps_lay_le h) nLA)
  have Hlg := Lib.hid (fun (L : List (SV Od)) (h : L.map SV.l = stepsL LA) => steps_lay_legs h lLA)
  clear lLA RFA nLA
  generalize errX LA = ea at *
  generalize outX LA = ua at *
  generalize stepsL LA = SS at *
  go_wp2_with fail
  refine (HA.out _ hLA).mono ?_
  rintro e wk3 ⟨v, rfl, hO, hF⟩
  have hB := below_on hB (by omega) hF
  have hLA := hLA.later hF
  clear hF HA
  obtain ⟨AX, cX, rfl, hX⟩ := hO.sl
  clear hO
  go_wp2_with fail
  refine (HB2.out _ hLA).mono ?_
  rintro e wk4 ⟨v, rfl, hO, hF⟩
  have hB := below_on hB (by omega) hF
  have hLA := hLA.later hF
  have hX := hX.later hF
  clear hF HB2
  obtain ⟨AY, cY, rfl, hY⟩ := hO.sl
  clear hO
  go_wp2_with fail
  refine (HS.out _ hLA).mono ?_
  rintro e wk5 ⟨v, L1, rfl, hO, hL1, hF⟩
  have hB := below_on hB (by omega) hF
  have hLA := hLA.later hF
  have hX := hX.later hF
  have hY := hY.later hF
  clear hF HS
  obtain ⟨AS, cS, rfl, hS⟩ := hO.sl
  clear hO
  go_wp2_with fail
  refine (HS2.out _ hLA).mono ?_
  rintro e wk6 ⟨v, L2, rfl, hO, hL2, hF⟩
  have hB := below_on hB (by omega) hF
  have hX := hX.later hF
  have hY := hY.later hF
  have hS := hS.later hF
  clear hF HS2 hLA
  obtain ⟨AT, cT, rfl, hT⟩ := hO.sl
  clear hO
  have HC := Lib.hid (rsame11_c AS AT cS cT L1 L2 _ hS hT (Hsm.out L1 hL1) (Hsm.out L2 hL2))
  rw [hL1, hL2, sameS_refl] at HC
  have HL := Lib.hid (fun (W : World) (h : Sl W W.heap.size AS cS L1) => lay_c AS cS L1 W h (Nat.le_trans (Hsm.out L1 hL1).1 (by decide)) (Nat.le_trans (Hll.out L1 hL1) (by decide)))
  have HL2 := Lib.hid (fun (W : World) (h : Sl W W.heap.size AS cS L1) => rlay11_c AS cS L1 W h (Nat.le_trans (Hsm.out L1 hL1).1 (by decide)) (Nat.le_trans (Hll.out L1 hL1) (by decide)))
  have hlg := Hlg.out L1 hL1
  have hll := Hll.out L1 hL1
  generalize layL (L1.map SV.l) = M at *
  have Hsl := Lib.hid (fun (A1 A2 : Option Addr) (c1 c2 : Nat) (W : World) (h1 : Sl W W.heap.size A1 c1 M) (h2 : Sl W W.heap.size A2 c2 M) => sameL_c A1 A2 c1 c2 M M W h1 h2 (by omega) (by omega) (fun x hx => Nat.le_trans (hlg x hx) (by decide)) (fun x hx => Nat.le_trans (hlg x hx) (by decide)))
  rw [sameL_self] at Hsl
  have HXY := Lib.hid (fun (W : World) (h1 : Sl W W.heap.size AX cX ua) (h2 : Sl W W.heap.size AY cY ua) => same2_c AX AY cX cY ua ua W h1 h2)
  have hr : (ua == ua) = true := by simp
  rw [hr] at HXY
  have he : (ea == ea) = true := by simp
  clear hr hL1 hL2 Hsm Hll Hlg hlg hll
  go_wp2_with fail
  refine (HC.out).mono ?_
  rintro e wk7 ⟨rfl, hF⟩
  have hB := below_on hB (by omega) hF
  have hX := hX.later hF
  have hY := hY.later hF
  have hS := hS.later hF
  clear hF HC hT
  go_wp2_with fail
  refine (HXY.out _ hX hY).mono ?_
  rintro e wk8 ⟨rfl, hF⟩
  have hB := below_on hB (by omega) hF
  have hS := hS.later hF
  clear hF HXY hX hY
  go_wp2_with fail
  refine (HL.out _ hS).mono ?_
  rintro e wk9 ⟨v, rfl, hO, hF⟩
  have hB := below_on hB (by omega) hF
  have hS := hS.later hF
  clear hF HL
  obtain ⟨AP, cP, rfl, hP⟩ := hO.sl
  clear hO
  go_wp2_with fail
  refine (HL2.out _ hS).mono ?_
  rintro e wk10 ⟨v, rfl, hO, hF⟩
  have hB := below_on hB (by omega) hF
  have hP := hP.later hF
  clear hF HL2 hS
  obtain ⟨AQ, cQ, rfl, hQ⟩ := hO.sl
  clear hO
  go_wp2_with fail
  refine (Hsl.out _ _ _ _ _ hP hQ).mono ?_
  rintro e wk11 ⟨rfl, hF⟩
  have hB := below_on hB (by omega) hF
  clear hF Hsl hP hQ
  go_wp2
  go_ret
  exact ⟨rfl, hB⟩
end Go.Proofs.YtdkkblhfjblpkaaGreat
