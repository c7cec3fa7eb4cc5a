/- FoataBack -/
import Derived.Test.YtdkkblhfjblpkaaGreatRows
import Derived.Test.YtdkkblhfjblpkaaGreatBfFoIm
import Derived.WalkKit
import Derived.WalkSpells
import Derived.WalkLawsBesides
import Derived.Deep.QuietTactic
import Derived.BigQuiet
import Derived.Laws.StructEq
import Derived.Deep.DeepFit
import Derived.StillTailTactics
namespace Go.Proofs.YtdkkblhfjblpkaaGreat
open Go.RowKit
theorem okW_K (S : List (List Od)) : okW (S.map K) = okW S := by
  unfold okW
  rw [List.all_map]
  refine List.all_congr rfl fun s => ?_
  show (K s).all rightB = _
  unfold K
  rw [List.all_map]
  exact List.all_congr rfl fun x => rightB_la x none 0
theorem stepsL_K (l : List Od) : stepsL (K l) = (stepsL l).map K := by
  cases h : validL l with
  | true => rw [stepsL_val (valK (validL_iff.1 h)), stepsL_val (validL_iff.1 h), stepsV_K (validL_iff.1 h)]
  | false => unfold stepsL; rw [validL_core, h]; rfl
theorem okX_K (l : List Od) : okX (K l) = okX l := by unfold okX; rw [validL_core, List.length_map]
theorem errX_K (l : List Od) : errX (K l) = errX l := by unfold errX errW; rw [okX_K, stepsL_K, okW_K]
theorem outX_K (l : List Od) : outX (K l) = outX l := by unfold outX outW; rw [okX_K, stepsL_K, okW_K, wrL_K]
theorem alikeB_Kr (a b : List Od) {b' : List Od} (h : K b = b') : alikeB a b' = alikeB a b := by rw [← h, ← alikeB_core a b, ← alikeB_core a (K b), KK]
theorem flatO_le {l : List Od} (h : ∀ x ∈ l, rightB x = true ∧ InR x) : (l.flatMap wrO).length ≤ l.length * 410 := by
  induction l with
  | nil => simp
  | cons x r ih =>
    have h1 := ih fun y hy => h y (List.mem_cons_of_mem _ hy)
    have h2 := bytesB_400 (h x (List.mem_cons_self ..)).1 (h x (List.mem_cons_self ..)).2
    have h3 := textB_le2 (s := ⟨(bytesB x).toArray⟩) (n := 400) (by show (bytesB x).toArray.size ≤ 400; rw [List.size_toArray]; exact h2) (by decide)
    rw [List.flatMap_cons, List.length_append, List.length_cons]
    unfold wrO at h1 ⊢
    omega
theorem flatS_le {S : List (List Od)} (h : ∀ s ∈ S, s.length ≤ 60000 ∧ ∀ x ∈ s, rightB x = true ∧ InR x) : (S.flatMap wrS).length ≤ S.length * 10 + (layL S).length * 410 := by
  induction S with
  | nil => simp
  | cons s r ih =>
    have h1 := ih fun y hy => h y (List.mem_cons_of_mem _ hy)
    obtain ⟨h0, h4⟩ := h s (List.mem_cons_self ..)
    have h2 := flatO_le h4
    have h3 := numB_le (n := (s.length : Int)) ⟨by omega, by omega⟩
    rw [List.flatMap_cons, List.length_append, List.length_cons]
    unfold layL at h1 ⊢
    rw [List.flatten_cons, List.length_append]
    unfold wrS at h1 ⊢
    rw [List.length_append]
    omega
theorem outX_le {l : List Od} (hr : ∀ x ∈ l, InR x) (h : errX l = 0) (hn : l.length ≤ 60) : (outX l).length ≤ 60000 := by
  obtain ⟨hx, hw⟩ := errX_iff.1 h
  have hv := okX_val hx
  rw [stepsL_val hv] at hw
  have hright := okW_all hw
  have hp := lay_perm l
  rw [(out_of hv (by omega) hright).2]
  unfold wrL
  rw [List.length_append]
  have h1 : (stepsV l).length ≤ 60 := by
    rw [stepsV_len]
    have := (most_small l).2
    omega
  have h2 := numB_le (n := ((stepsV l).length : Int)) ⟨by omega, by omega⟩
  have h3 := flatS_le (S := stepsV l) fun s hs => by
    have h4 : s.length ≤ (layL (stepsV l)).length := by
      unfold layL
      exact (List.sublist_flatten_of_mem hs).length_le
    rw [hp.length_eq] at h4
    refine ⟨by omega, fun x hx => ?_⟩
    have hm : x ∈ l := hp.mem_iff.1 (by unfold layL; exact List.mem_flatten.2 ⟨s, hs, hx⟩)
    exact ⟨hright x hm, hr x hm⟩
  rw [hp.length_eq] at h3
  omega
/-- what is told of the orders that are imported -/
structure Lays (L : List (SV Od)) (S : List (List Od)) : Prop where
  small : smallS L
  len : (layL (L.map SV.l)).length ≤ 40000
  legs : ∀ x ∈ layL (L.map SV.l), x.legs.length ≤ 10
  inr : ∀ x ∈ layL (L.map SV.l), InR x
  err : errX (layL (L.map SV.l)) = errX (layL S)
  out : outX (layL (L.map SV.l)) = outX (layL S)
  nor : normalB (L.map SV.l) = normalB S
  alk : ∀ l, alikeB l (layL (L.map SV.l)) = alikeB l (layL S)
theorem lays_of {b : List UInt8} {S : List (List Od)} (h : importB b = some S) {L : List (SV Od)} (hL : (L.map SV.l).map K = S) : Lays L S := by
  obtain ⟨h1, h2, h3⟩ := import_dec h
  obtain ⟨g1, g2⟩ := good_small h1 hL
  obtain ⟨_, hg, _⟩ := rdF_dec h1
  have hk : K (layL (L.map SV.l)) = layL S := by rw [← hL, lay_K]
  have hx : ∀ x ∈ layL (L.map SV.l), goodO x.core := fun x hx => good_lay hg _ (by rw [← hk]; exact List.mem_map.2 ⟨x, hx, rfl⟩)
  refine ⟨g1, g2, fun x hm => ?_, fun x hm => (hx x hm).2.1, ?_, ?_, ?_, fun l => ?_⟩
  · have := (hx x hm).2.2.1
    have e : x.core.legs = x.legs := rfl
    rw [e] at this
    omega
  · rw [← hk, errX_K]
  · rw [← hk, outX_K]
  · rw [← hL, normalB_K]
  · exact (alikeB_Kr l (layL (L.map SV.l)) hk).symm
theorem impE_some {b : List UInt8} {S : List (List Od)} (h : importB b = some S) : impE b = 0 := by unfold impE; rw [h]; rfl
theorem impE_none {b : List UInt8} (h : importB b = none) : impE b = 3 := by unfold impE; rw [h]; rfl
end Go.Proofs.YtdkkblhfjblpkaaGreat
