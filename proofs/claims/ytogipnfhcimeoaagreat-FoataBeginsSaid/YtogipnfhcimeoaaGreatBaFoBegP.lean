/- FoataBegins: the plain law -/
import Derived.Test.YtogipnfhcimeoaaGreatRows
import Derived.Test.YtogipnfhcimeoaaGreatBaFoSt
import Derived.WalkKit
import Derived.WalkSpells
import Derived.WalkLawsBesides
import Derived.Deep.QuietTactic
import Derived.BigQuiet
import Derived.Laws.StructEq
import Derived.Deep.DeepFit
import Derived.StillTailTactics
namespace Go.Proofs.YtogipnfhcimeoaaGreat
open Go.RowKit
theorem most_take (l : List Od) (k : Nat) (hk : k ≤ l.length) : mostP (levP (l.take k)) ≤ mostP (levP l) := by
  rcases most_ex (levP (l.take k)) with e | ⟨p, hp, e⟩
  · rw [e]; exact most_pos _
  · rw [← e]
    rw [levP_take l k hk] at hp
    exact most_le (List.mem_of_mem_take hp)
theorem begins_plain {l : List Od} (hv : Val l) {k : Nat} (hk : k ≤ l.length) {La Lb : List (SV Od)} (ha : La.map SV.l = stepsL (l.take k)) (hb : Lb.map SV.l = stepsL l) :
    La.length ≤ Lb.length ∧ ∀ i (hi : i < La.length) (hj : i < Lb.length), ∀ y ∈ La[i].l, y ∈ Lb[i].l := by
  have e1 : stepsL (l.take k) = stepsV (l.take k) := by unfold stepsL; rw [if_pos (validL_iff.2 (hv.sub (List.take_sublist _ _)))]
  have e2 : stepsL l = stepsV l := by unfold stepsL; rw [if_pos (validL_iff.2 hv)]
  rw [e1] at ha
  rw [e2] at hb
  have l1 : La.length = (stepsV (l.take k)).length := by rw [← ha, List.length_map]
  have l2 : Lb.length = (stepsV l).length := by rw [← hb, List.length_map]
  refine ⟨?_, fun i hi hj y hy => ?_⟩
  · rw [l1, l2, stepsV_len, stepsV_len]
    have := most_take l k hk
    omega
  · have g1 : La[i].l = stepP (levP (l.take k)) i := by
      have h := stepsV_get (l := l.take k) (s := i) (by omega)
      have h1 : (La.map SV.l)[i]? = (stepsV (l.take k))[i]? := by rw [ha]
      rw [List.getElem?_eq_getElem (by rw [List.length_map]; exact hi), List.getElem?_eq_getElem (by omega), List.getElem_map, h] at h1
      exact Option.some.inj h1
    have g2 : Lb[i].l = stepP (levP l) i := by
      have h := stepsV_get (l := l) (s := i) (by omega)
      have h1 : (Lb.map SV.l)[i]? = (stepsV l)[i]? := by rw [hb]
      rw [List.getElem?_eq_getElem (by rw [List.length_map]; exact hj), List.getElem?_eq_getElem (by omega), List.getElem_map, h] at h1
      exact Option.some.inj h1
    rw [g1, mem_step, levP_take l k hk] at hy
    rw [g2, mem_step]
    exact List.mem_of_mem_take hy
end Go.Proofs.YtogipnfhcimeoaaGreat
