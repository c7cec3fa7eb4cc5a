/- FoataBack -/
import Derived.Test.YtmbfalokkabmnaaGreatRows
import Derived.Test.YtmbfalokkabmnaaGreatBfFoIm
import Derived.WalkKit
import Derived.WalkSpells
import Derived.WalkLawsBesides
import Derived.Deep.QuietTactic
import Derived.BigQuiet
import Derived.Laws.StructEq
import Derived.Deep.DeepFit
import Derived.StillTailTactics
namespace Go.Proofs.YtmbfalokkabmnaaGreat
open Go.RowKit
theorem okW_K (S : List (List Od)) : okW (S.map K) = okW S := by
  unfold okW
  rw [List.all_map]
  refine List.all_congr rfl fun s => ?_
  show (K s).all rightB = _
  unfold K
  rw [List.all_map]
  exact List.all_congr rfl fun x => rightB_la x none 0
theorem stepsL_K (l : List Od) : stepsL (K l) = (stepsL l).map K := by
  cases h : validL l with
  | true => rw [stepsL_val (valK (validL_iff.1 h)), stepsL_val (validL_iff.1 h), stepsV_K (validL_iff.1 h)]
  | false => unfold stepsL; rw [validL_core, h]; rfl
theorem okX_K (l : List Od) : okX (K l) = okX l := by unfold okX; rw [validL_core, List.length_map]
theorem errX_K (l : List Od) : errX (K l) = errX l := by unfold errX errW; rw [okX_K, stepsL_K, okW_K]
theorem outX_K (l : List Od) : outX (K l) = outX l := by unfold outX outW; rw [okX_K, stepsL_K, okW_K, wrL_K]
theorem alikeB_Kr (a b : List Od) {b' : List Od} (h : K b = b') : alikeB a b' = alikeB a b := by rw [← h, ← alikeB_core a b, ← alikeB_core a (K b), KK]
theorem flatO_le {l : List Od} (h : ∀ x ∈ l, rightB x = true ∧ InR x) : (l.flatMap wrO).length ≤ l.length * 410 := by
  induction l with
  | nil => simp
  | cons x r ih =>
    have h1 := ih fun y hy => h y (List.mem_cons_of_mem _ hy)
    have h2 := bytesB_400 (h x (List.mem_cons_self ..)).1 (h x (List.mem_cons_self ..)).2
    have h3 := textB_le2 (s := ⟨(bytesB x).toArray⟩) (n := 400) (by show (bytesB x).toArray.size ≤ 400; rw [List.size_toArray]; exact h2) (by decide)
    rw [List.flatMap_cons, List.length_append, List.length_cons]
    unfold wrO at h1 ⊢
    omega
theorem flatS_le {S : List (List Od)} (h : ∀ s ∈ S, s.length ≤ 60000 ∧ ∀ x ∈ s, rightB x = true ∧ InR x) : (S.flatMap wrS).length ≤ S.length * 10 + (layL S).length * 410 := by
  induction S with
  | nil => simp
  | cons s r ih =>
    have h1 := ih fun y hy => h y (List.mem_cons_of_mem _ hy)
    obtain ⟨h0, h4⟩ := h s (List.mem_cons_self ..)
    have h2 := flatO_le h4
    have h3 := numB_le (n := (s.length : Int)) ⟨by omega, by omega⟩
    rw [List.flatMap_cons, List.length_append, List.length_cons]
    unfold layL at h1 ⊢
    rw [List.flatten_cons, List.length_append]
    unfold wrS at h1 ⊢
    rw [List.length_append]
    omega
theorem outX_le {l : List Od} (hr : ∀ x ∈ l, InR x) (h : errX l = 0) (hn : l.length ≤ 60) : (outX l).length ≤ 60000 := by
  obtain ⟨hx, hw⟩ := errX_iff.1 h
  have hv := okX_val hx
  rw [stepsL_val hv] at hw
  have hright := okW_all hw
  have hp := lay_perm l
  rw [(out_of hv (by omega) hright).2]
  unfold wrL
  rw [List.length_append]
  have h1 : (stepsV l).length ≤ 60 := by
    rw [stepsV_len]
    have := (most_small l).2
    omega
  have h2 := numB_le (n := ((stepsV l).length : Int)) ⟨by omega, by omega⟩
  have h3 := flatS_le (S := stepsV l) fun s hs => by
    have h4 : s.length ≤ (layL (stepsV l)).length := by
      unfold layL
      exact (List.sublist_flatten_of_mem hs).length_le
    rw [hp.length_eq] at h4
    refine ⟨by omega, fun x hx => ?_⟩
    have hm : x ∈ l := hp.mem_iff.1 (by unfold layL; exact List.mem_flatten.2 ⟨s, hs, hx⟩)
    exact ⟨hright x hm, hr x hm⟩
  rw [hp.length_eq] at h3
  omega
/-- what is told of the orders that are imported -/
structure Lays (L : List (SV Od)) (S : List (List Od)) : Prop where
  small : smallS L
  len : (layL (L.map SV.l)).length ≤ 40000
  legs : ∀ x ∈ layL (L.map SV.l), x.legs.length ≤ 10
  inr : ∀ x ∈ layL (L.map SV.l), InR x
  err : errX (layL (L.map SV.l)) = errX (layL S)
  out : outX (layL (L.map SV.l)) = outX (layL S)
  nor : normalB (L.map SV.l) = normalB S
  alk : ∀ l, alikeB l (layL (L.map SV.l)) = alikeB l (layL S)
theorem lays_of {b : List UInt8} {S : List (List Od)} (h : importB b = some S) {L : List (SV Od)} (hL : (L.map SV.l).map K = S) : Lays L S := by
  obtain ⟨h1, h2, h3⟩ := import_dec h
  obtain ⟨g1, g2⟩ := good_small h1 hL
  obtain ⟨_, hg, _⟩ := rdF_dec h1
  have hk : K (layL (L.map SV.l)) = layL S := by rw [← hL, lay_K]
  have hx : ∀ x ∈ layL (L.map SV.l), goodO x.core := fun x hx => good_lay hg _ (by rw [← hk]; exact List.mem_map.2 ⟨x, hx, rfl⟩)
  refine ⟨g1, g2, fun x hm => ?_, fun x hm => (hx x hm).2.1, ?_, ?_, ?_, fun l => ?_⟩
  · have := (hx x hm).2.2.1
    have e : x.core.legs = x.legs := rfl
    rw [e] at this
    omega
  · rw [← hk, errX_K]
  · rw [← hk, outX_K]
  · rw [← hL, normalB_K]
  · exact (alikeB_Kr l (layL (L.map SV.l)) hk).symm
theorem impE_some {b : List UInt8} {S : List (List Od)} (h : importB b = some S) : impE b = 0 := by unfold impE; rw [h]; rfl
theorem impE_none {b : List UInt8} (h : importB b = none) : impE b = 3 := by unfold impE; rw [h]; rfl
set_option maxRecDepth 100000 in
set_option maxHeartbeats 8000000 in
theorem foataBack_c (A B : Option Addr) (c d : Nat) (a : List Od) (b : List UInt8) (w : World) (ha : Sl w w.heap.size A c a) (hra : ∀ x ∈ a, InR x) (hb : Sl w w.heap.size B d b) :
    Calls Tryz.prog 6 #[.slice A a.length c, .slice B b.length d] w fun e w' => e = .returned (.bool true) ∧ Below w.heap.size w w' := by
  have RFA := Lib.hid (fewL_in (n := 60) hra)
  clear hra
  have hlc : b.length ≤ d := hb.1
  have hlm : b.length ≤ 9223372036854775807 := hb.len_le
  have hn : (min (b.length : Int) 3000).toNat = (b.take 3000).length := by simp only [List.length_take]; omega
  have hL : (b.take 3000).length ≤ 3000 := by simp only [List.length_take]; omega
  have hb := hb.take 3000
  generalize b.take 3000 = bt at *
  have HI2 := Lib.hid fun W (hW : Sl W W.heap.size B d bt) => (show Calls Tryz.prog 19 #[.slice B (min (b.length : Int) 3000).toNat d] W fun e w' => ∃ (v : Value) (L : List (SV Od)), e = .returned (.tuple #[v, i64 (impE bt)]) ∧ Own w' W.heap.size 22 v L ∧ (L.map SV.l).map K = (importB bt).getD [] ∧ Below W.heap.size W w' by rw [hn]; exact import_c B d bt W hW (by omega))
  have HS2 := Lib.hid fun (A2 : Option Addr) (c2 : Nat) (l : List UInt8) W (h1 : Sl W W.heap.size A2 c2 l) (hW : Sl W W.heap.size B d bt) => (show Calls Tryz.prog 15 #[.slice A2 l.length c2, .slice B (min (b.length : Int) 3000).toNat d] W fun e w' => e = .returned (.bool (l == bt)) ∧ Below W.heap.size W w' by rw [hn]; exact same2_c A2 B c2 d l bt W h1 hW)
  have Hbb := Lib.hid (fun (S : List (List Od)) (h : importB bt = some S) => back_b h)
  have Hly := Lib.hid (fun (S : List (List Od)) (h : importB bt = some S) (L : List (SV Od)) (hL : (L.map SV.l).map K = S) => lays_of h hL)
  clear hn hL
  go_enter Tryz.func6, Tryz.ntmps6
  have hB : Below w.heap.size w w := Below.refl _ _
  go_wp2_with fail
  refine (lives_11 _).mono ?_
  rintro e wk1 ⟨rfl, hF⟩
  have hB := below_on hB (by omega) hF
  have ha := ha.later hF
  have hb := hb.later hF
  clear hF
  go_wp2_with fail
  refine (few_11 A c 60 a _ ha (by decide)).mono ?_
  rintro e wk2 ⟨v, rfl, hO, hF⟩
  have hB := below_on hB (by omega) hF
  have hb := hb.later hF
  clear hF ha
  have nFA := fewL_le 60 a
  have lFA : fewLegs (fewL 60 a) := fun x hx => Nat.le_trans (fewL_legs 60 a x hx) (by decide)
  generalize fewL 60 a = FA at *
  obtain ⟨AFA, cFA, rfl, hFA⟩ := hO.sl
  clear hO
  go_wp2_with fail
  refine (own_11 AFA cFA FA _ hFA (Nat.le_trans nFA (by decide))).mono ?_
  rintro e wk3 ⟨v, rfl, hO, hF⟩
  have hB := below_on hB (by omega) hF
  have hb := hb.later hF
  clear hF hFA
  have vLA := Lib.hid (val_own FA)
  have nLA : (ownL FA).length ≤ 60 := Nat.le_trans (ownK_len FA FA.length) nFA
  have lLA : fewLegs (ownL FA) := fun x hx => lFA x (ownK_sub FA _ x hx)
  have RA := Lib.hid (show ∀ x ∈ ownL FA, InR x from fun x hx => RFA.out x (ownK_sub FA _ x hx))
  clear RFA
  clear nFA lFA
  generalize ownL FA = LA at *
  obtain ⟨ALA, cLA, rfl, hLA⟩ := hO.sl
  clear hO
  have HA := Lib.hid (export_c ALA cLA LA _ hLA (by omega) lLA RA.out)
  have HAl := Lib.hid (fun (A2 : Option Addr) (c2 : Nat) (M : List Od) (W : World) (h1 : Sl W W.heap.size ALA cLA LA) (h2 : Sl W W.heap.size A2 c2 M) (hm : M.length ≤ 40000) (hl : ∀ x ∈ M, x.legs.length ≤ 10) => alike_c ALA A2 cLA c2 LA M W h1 h2 (by omega) (by omega) lLA hl)
  have Hlaw := Lib.hid (back_l (l := LA) RA.out)
  have Hxl := Lib.hid (show errX LA = 0 → (outX LA).length ≤ 60000 from fun e => outX_le RA.out e nLA)
  clear lLA RA vLA nLA
  go_wp2_with fail
  refine (HA.out).mono ?_
  rintro e wk4 ⟨v, rfl, hO, hF⟩
  have hB := below_on hB (by omega) hF
  have hb := hb.later hF
  have hLA := hLA.later hF
  clear hF HA
  obtain ⟨AX, cX, rfl, hX⟩ := hO.sl
  clear hO
  by_cases h0 : errX LA = 0
  · obtain ⟨i1, i2, i3, i4, i5⟩ := Hlaw.out h0
    have hxl := Hxl.out h0
    rw [h0]
    generalize (stepsV LA).map K = S1 at *
    have HIm := Lib.hid (fun (W : World) (h : Sl W W.heap.size AX cX (outX LA)) => import_c AX cX (outX LA) W h hxl)
    have HlyX := Lib.hid (fun (L : List (SV Od)) (hL : (L.map SV.l).map K = S1) => lays_of i1 hL)
    rw [i1, impE_some i1] at HIm
    rw [Option.getD_some] at HIm
    rw [← i3] at i1
    have I2 := Lib.hid i2
    have I3 := Lib.hid i3
    have I4 := Lib.hid i4
    have I5 := Lib.hid i5
    clear i1 i2 i3 i4 i5 Hlaw Hxl hxl h0
    generalize outX LA = ux at *
    go_wp2_with fail
    refine (HIm.out _ hX).mono ?_
    rintro e wk5 ⟨v, L1, rfl, hO, hL1, hF⟩
    have hB := below_on hB (by omega) hF
    have hb := hb.later hF
    have hLA := hLA.later hF
    have hX := hX.later hF
    clear hF HIm
    obtain ⟨AS, cS, rfl, hS⟩ := hO.sl
    clear hO
    have LY := HlyX.out L1 hL1
    have HEx := Lib.hid (fun (A3 : Option Addr) (c3 : Nat) (W : World) (h : Sl W W.heap.size A3 c3 (layL (L1.map SV.l))) => export_c A3 c3 _ W h (Nat.le_trans LY.len (by decide)) LY.legs LY.inr)
    rw [LY.err, LY.out, I2.out, I3.out] at HEx
    have HL := Lib.hid (fun (W : World) (h : Sl W W.heap.size AS cS L1) => lay_c AS cS L1 W h (Nat.le_trans LY.small.1 (by decide)) (Nat.le_trans LY.len (by decide)))
    have HAk := Lib.hid (fun (A2 : Option Addr) (c2 : Nat) (W : World) (h1 : Sl W W.heap.size ALA cLA LA) (h2 : Sl W W.heap.size A2 c2 (layL (L1.map SV.l))) => HAl.out A2 c2 _ W h1 h2 LY.len LY.legs)
    rw [LY.alk LA, I4.out] at HAk
    have HNo := Lib.hid (fun (W : World) (h : Sl W W.heap.size AS cS L1) => normal_c AS cS L1 W h LY.small (Nat.le_trans LY.len (by decide)))
    rw [LY.nor, I5.out] at HNo
    clear HlyX hL1 LY HAl I2 I3 I4 I5
    generalize layL (L1.map SV.l) = M1 at *
    go_wp2_with fail
    refine (HL.out _ hS).mono ?_
    rintro e wk6 ⟨v, rfl, hO, hF⟩
    have hB := below_on hB (by omega) hF
    have hb := hb.later hF
    have hLA := hLA.later hF
    have hX := hX.later hF
    have hS := hS.later hF
    clear hF
    obtain ⟨AM, cM, rfl, hM⟩ := hO.sl
    clear hO
    go_wp2_with fail
    refine (HEx.out _ _ _ hM).mono ?_
    rintro e wk7 ⟨v, rfl, hO, hF⟩
    have hB := below_on hB (by omega) hF
    have hb := hb.later hF
    have hLA := hLA.later hF
    have hX := hX.later hF
    have hS := hS.later hF
    clear hF HEx hM
    obtain ⟨AY, cY, rfl, hY⟩ := hO.sl
    clear hO
    have HSa := Lib.hid (fun (W : World) (h1 : Sl W W.heap.size AX cX ux) (h2 : Sl W W.heap.size AY cY ux) => same2_c AX AY cX cY ux ux W h1 h2)
    have hr : (ux == ux) = true := by simp
    rw [hr] at HSa
    clear hr
    go_wp2_with fail
    refine (HSa.out _ hX hY).mono ?_
    rintro e wk8 ⟨rfl, hF⟩
    have hB := below_on hB (by omega) hF
    have hb := hb.later hF
    have hLA := hLA.later hF
    have hS := hS.later hF
    clear hF HSa hX hY
    go_wp2_with fail
    refine (HL.out _ hS).mono ?_
    rintro e wk9 ⟨v, rfl, hO, hF⟩
    have hB := below_on hB (by omega) hF
    have hb := hb.later hF
    have hLA := hLA.later hF
    have hS := hS.later hF
    clear hF HL
    obtain ⟨AN, cN, rfl, hN⟩ := hO.sl
    clear hO
    go_wp2_with fail
    refine (HAk.out _ _ _ hLA hN).mono ?_
    rintro e wk10 ⟨rfl, hF⟩
    have hB := below_on hB (by omega) hF
    have hb := hb.later hF
    have hS := hS.later hF
    clear hF HAk hLA hN
    go_wp2_with fail
    refine (HNo.out _ hS).mono ?_
    rintro e wk11 ⟨rfl, hF⟩
    have hB := below_on hB (by omega) hF
    have hb := hb.later hF
    clear hF HNo hS
    go_wp2_with fail
    refine (HI2.out _ hb).mono ?_
    rintro e wk42 ⟨v, L2, rfl, hO, hL2, hF⟩
    have hB := below_on hB (by omega) hF
    have hb := hb.later hF
    clear hF HI2
    obtain ⟨AZ, cZ, rfl, hZ⟩ := hO.sl
    clear hO
    cases hi : importB bt with
    | none =>
      rw [hi] at hL2
      obtain rfl : L2 = [] := List.map_eq_nil_iff.1 (List.map_eq_nil_iff.1 hL2)
      rw [impE_none hi]
      clear hi hL2 Hbb Hly
      go_wp2
      go_ret
      exact ⟨rfl, hB⟩
    | some S =>
      rw [hi] at hL2
      have LYZ := Hly.out S hi L2 hL2
      obtain ⟨b1, b2⟩ := Hbb.out S hi
      rw [impE_some hi]
      have HEx := Lib.hid (fun (A3 : Option Addr) (c3 : Nat) (W : World) (h : Sl W W.heap.size A3 c3 (layL (L2.map SV.l))) => export_c A3 c3 _ W h (Nat.le_trans LYZ.len (by decide)) LYZ.legs LYZ.inr)
      rw [LYZ.err, LYZ.out, b1, b2] at HEx
      have HL := Lib.hid (fun (W : World) (h : Sl W W.heap.size AZ cZ L2) => lay_c AZ cZ L2 W h (Nat.le_trans LYZ.small.1 (by decide)) (Nat.le_trans LYZ.len (by decide)))
      clear hi hL2 Hbb Hly LYZ b1 b2
      generalize layL (L2.map SV.l) = M2 at *
      go_wp2_with fail
      refine (HL.out _ hZ).mono ?_
      rintro e wk43 ⟨v, rfl, hO, hF⟩
      have hB := below_on hB (by omega) hF
      have hb := hb.later hF
      clear hF HL hZ
      obtain ⟨AM, cM, rfl, hM⟩ := hO.sl
      clear hO
      go_wp2_with fail
      refine (HEx.out _ _ _ hM).mono ?_
      rintro e wk44 ⟨v, rfl, hO, hF⟩
      have hB := below_on hB (by omega) hF
      have hb := hb.later hF
      clear hF HEx hM
      obtain ⟨AY2, cY2, rfl, hY2⟩ := hO.sl
      clear hO
      go_wp2_with fail
      refine (HS2.out _ _ _ _ hY2 hb).mono ?_
      rintro e wk45 ⟨rfl, hF⟩
      have hB := below_on hB (by omega) hF
      clear hF HS2 hY2 hb
      go_wp2
      go_ret
      exact ⟨by simp, hB⟩
  · have e1 : (errX LA == 0) = false := by simpa using h0
    generalize errX LA = ex at *
    clear HAl Hlaw Hxl hX hLA h0
    go_wp2_with fail
    refine (HI2.out _ hb).mono ?_
    rintro e wk135 ⟨v, L2, rfl, hO, hL2, hF⟩
    have hB := below_on hB (by omega) hF
    have hb := hb.later hF
    clear hF HI2
    obtain ⟨AZ, cZ, rfl, hZ⟩ := hO.sl
    clear hO
    cases hi : importB bt with
    | none =>
      rw [hi] at hL2
      obtain rfl : L2 = [] := List.map_eq_nil_iff.1 (List.map_eq_nil_iff.1 hL2)
      rw [impE_none hi]
      clear hi hL2 Hbb Hly
      go_wp2
      go_ret
      exact ⟨rfl, hB⟩
    | some S =>
      rw [hi] at hL2
      have LYZ := Hly.out S hi L2 hL2
      obtain ⟨b1, b2⟩ := Hbb.out S hi
      rw [impE_some hi]
      have HEx := Lib.hid (fun (A3 : Option Addr) (c3 : Nat) (W : World) (h : Sl W W.heap.size A3 c3 (layL (L2.map SV.l))) => export_c A3 c3 _ W h (Nat.le_trans LYZ.len (by decide)) LYZ.legs LYZ.inr)
      rw [LYZ.err, LYZ.out, b1, b2] at HEx
      have HL := Lib.hid (fun (W : World) (h : Sl W W.heap.size AZ cZ L2) => lay_c AZ cZ L2 W h (Nat.le_trans LYZ.small.1 (by decide)) (Nat.le_trans LYZ.len (by decide)))
      clear hi hL2 Hbb Hly LYZ b1 b2
      generalize layL (L2.map SV.l) = M2 at *
      go_wp2_with fail
      refine (HL.out _ hZ).mono ?_
      rintro e wk136 ⟨v, rfl, hO, hF⟩
      have hB := below_on hB (by omega) hF
      have hb := hb.later hF
      clear hF HL hZ
      obtain ⟨AM, cM, rfl, hM⟩ := hO.sl
      clear hO
      go_wp2_with fail
      refine (HEx.out _ _ _ hM).mono ?_
      rintro e wk137 ⟨v, rfl, hO, hF⟩
      have hB := below_on hB (by omega) hF
      have hb := hb.later hF
      clear hF HEx hM
      obtain ⟨AY2, cY2, rfl, hY2⟩ := hO.sl
      clear hO
      go_wp2_with fail
      refine (HS2.out _ _ _ _ hY2 hb).mono ?_
      rintro e wk138 ⟨rfl, hF⟩
      have hB := below_on hB (by omega) hF
      clear hF HS2 hY2 hb
      go_wp2
      go_ret
      exact ⟨by simp, hB⟩
end Go.Proofs.YtmbfalokkabmnaaGreat
