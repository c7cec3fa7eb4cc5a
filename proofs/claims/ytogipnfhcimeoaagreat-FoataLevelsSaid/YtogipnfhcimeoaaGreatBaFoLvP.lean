/- FoataLevels: the plain law -/
import Derived.Test.YtogipnfhcimeoaaGreatRows
import Derived.Test.YtogipnfhcimeoaaGreatBaFoSt
import Derived.WalkKit
import Derived.WalkSpells
import Derived.WalkLawsBesides
import Derived.Deep.QuietTactic
import Derived.BigQuiet
import Derived.Laws.StructEq
import Derived.Deep.DeepFit
import Derived.StillTailTactics
namespace Go.Proofs.YtogipnfhcimeoaaGreat
open Go.RowKit
theorem steps_at {L : List Od} (hv : Val L) {S : List (SV Od)} (h : S.map SV.l = stepsL L) : S.length = (stepsV L).length ∧ ∀ i (hi : i < S.length), S[i].l = stepP (levP L) i := by
  have e2 : stepsL L = stepsV L := by unfold stepsL; rw [if_pos (validL_iff.2 hv)]
  rw [e2] at h
  have l2 : S.length = (stepsV L).length := by rw [← h, List.length_map]
  refine ⟨l2, fun i hi => ?_⟩
  have hs := stepsV_get (l := L) (s := i) (by omega)
  have h1 : (S.map SV.l)[i]? = (stepsV L)[i]? := by rw [h]
  rw [List.getElem?_eq_getElem (by rw [List.length_map]; exact hi), List.getElem?_eq_getElem (by omega), List.getElem_map, hs] at h1
  exact Option.some.inj h1
theorem steps_sum {L : List Od} (hv : Val L) {S : List (SV Od)} (h : S.map SV.l = stepsL L) : (S.map fun x => x.l.length).sum = L.length := by
  have e2 : stepsL L = stepsV L := by unfold stepsL; rw [if_pos (validL_iff.2 hv)]
  rw [e2] at h
  have hp := (lay_perm L).length_eq
  unfold layL at hp
  rw [List.length_flatten, ← h, List.map_map] at hp
  exact hp
theorem steps_held {L : List Od} (hv : Val L) {S : List (SV Od)} (h : S.map SV.l = stepsL L) {i : Nat} (hi : i + 1 < S.length) : ∀ y ∈ S[i + 1].l, (S[i]'(by omega)).l.any (fun x => clashB x y) = true := fun y hy => by
  obtain ⟨_, hs⟩ := steps_at hv h
  rw [hs _ hi, mem_step] at hy
  obtain ⟨q, hq, hc, e⟩ := levP_step hy (by show (1 : Int) < ((i + 1 : Nat) : Int) + 1; omega)
  rw [hs i (by omega), List.any_eq_true]
  refine ⟨q.1, mem_step.2 ?_, hc⟩
  have : q.2 = (i : Int) + 1 := by
    have e : q.2 + 1 = ((i + 1 : Nat) : Int) + 1 := e
    omega
  rw [← this]
  exact hq
theorem steps_pair {L : List Od} (hv : Val L) {S : List (SV Od)} (h : S.map SV.l = stepsL L) {i : Nat} (hi : i < S.length) {j k : Nat} (hjk : j < k) (hk : k < S[i].l.length) : clashB (S[i].l[j]'(by omega)) S[i].l[k] = false ∧ ltO (S[i].l[j]'(by omega)) S[i].l[k] = true := by
  obtain ⟨_, hs⟩ := steps_at hv h
  have hsrt := step_srt (P := levP L) (by rw [levP_fst]; exact hv) i
  rw [← hs i hi] at hsrt
  have hlt := List.pairwise_iff_getElem.1 hsrt j k (by omega) hk hjk
  refine ⟨?_, hlt⟩
  have m : ∀ z, z ∈ S[i].l → (z, (i : Int) + 1) ∈ levP L := fun z hz => mem_step.1 (by rw [← hs i hi]; exact hz)
  exact levP_same hv (m _ (List.getElem_mem _)) (m _ (List.getElem_mem _)) rfl (fun e => ltO_irr_id hlt (by rw [show S[i].l[j]'(by omega) = S[i].l[k] from e]))
theorem ltO_walk {x y : Od} (h : ltO x y = true) : ¬ x.client > y.client ∧ (x.client = y.client → ¬ x.seq ≥ y.seq) := by
  unfold ltO at h
  simp only [Bool.or_eq_true, Bool.and_eq_true, decide_eq_true_eq] at h
  exact ⟨by omega, by omega⟩
/-- how many orders steps have -/
def lenS (S : List (SV Od)) : Nat := (S.map fun x => x.l.length).sum
theorem lenS_take {S : List (SV Od)} {i : Nat} (hi : i < S.length) : lenS (S.take (i + 1)) = lenS (S.take i) + S[i].l.length := by
  unfold lenS
  rw [List.take_succ_eq_append_getElem hi, List.map_append, List.sum_append]
  simp
theorem lenS_le (S : List (SV Od)) (i : Nat) : lenS (S.take i) ≤ lenS S := by
  have h : lenS S = lenS (S.take i) + lenS (S.drop i) := by
    unfold lenS
    rw [← List.sum_append, ← List.map_append, List.take_append_drop]
  omega
theorem any_take {l : List Od} {y : Od} {p : Nat} (hp : p < l.length) : (l.take (p + 1)).any (fun x => clashB x y) = ((l.take p).any (fun x => clashB x y) || clashB l[p] y) := by
  rw [List.take_succ_eq_append_getElem hp, List.any_append]
  simp
end Go.Proofs.YtogipnfhcimeoaaGreat
