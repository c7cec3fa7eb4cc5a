/- FoataAlike -/
import Derived.Test.YtdkkblhfjblpkaaGreatRows
import Derived.Test.YtdkkblhfjblpkaaGreatBi19
import Derived.Test.YtdkkblhfjblpkaaGreatBi4
import Derived.Test.YtdkkblhfjblpkaaGreatBi13
import Derived.WalkKit
import Derived.WalkSpells
import Derived.WalkLawsBesides
import Derived.Deep.QuietTactic
import Derived.BigQuiet
import Derived.Laws.StructEq
import Derived.Deep.DeepFit
import Derived.StillTailTactics
namespace Go.Proofs.YtdkkblhfjblpkaaGreat
open Go.RowKit
theorem cut8_in {x : Od} (h : InR x) : InR (cut8 x) := ⟨h.1, h.2.1, h.2.2.1, h.2.2.2.1, h.2.2.2.2.1, h.2.2.2.2.2.1, fun l hl => h.2.2.2.2.2.2 l (List.mem_of_mem_take hl)⟩
theorem fewL_in {n : Nat} {l : List Od} (hr : ∀ x ∈ l, InR x) : ∀ x ∈ fewL n l, InR x := fun x hx => by
  obtain ⟨y, hy, rfl⟩ := List.mem_map.1 hx
  exact cut8_in (hr y (List.mem_of_mem_take hy))
theorem errX_iff {l : List Od} : errX l = 0 ↔ okX l = true ∧ okW (stepsL l) = true := by
  constructor
  · intro h
    cases hx : okX l with
    | false => rw [errX_no hx] at h; cases h
    | true =>
      rw [errX_ok hx] at h
      cases hw : okW (stepsL l) with
      | false => rw [errW_no hw] at h; cases h
      | true => exact ⟨rfl, rfl⟩
  · rintro ⟨h1, h2⟩
    rw [errX_ok h1, errW_ok h2]
theorem outX_err {l : List Od} (h : errX l ≠ 0) : outX l = [] := by
  cases hx : okX l with
  | false => exact outX_no hx
  | true =>
    rw [outX_ok hx]
    refine outW_no ?_
    cases hw : okW (stepsL l) with
    | false => rfl
    | true => exact absurd (errX_iff.2 ⟨hx, hw⟩) h
theorem okX_val {l : List Od} (h : okX l = true) : Val l := by
  unfold okX at h
  simp only [Bool.and_eq_true] at h
  exact validL_iff.1 h.2
theorem stepsL_val {l : List Od} (h : Val l) : stepsL l = stepsV l := by unfold stepsL; rw [if_pos (validL_iff.2 h)]
/-- the same bytes just if they are alike -/
theorem alike_law {a b : List Od} (ra : ∀ x ∈ a, InR x) (rb : ∀ x ∈ b, InR x) (ha : errX a = 0) (hb : errX b = 0) (na : a.length ≤ 60000) (nb : b.length ≤ 60000) : (outX a == outX b) = alikeB a b := by
  obtain ⟨xa, wa⟩ := errX_iff.1 ha
  obtain ⟨xb, wb⟩ := errX_iff.1 hb
  have va := okX_val xa
  have vb := okX_val xb
  rw [outX_ok xa, outX_ok xb, outW_ok wa, outW_ok wb]
  rw [stepsL_val va] at *
  rw [stepsL_val vb] at *
  have h1 := okW_all wa
  have h2 := okW_all wb
  rw [Bool.eq_iff_iff, beq_iff_eq]
  exact ⟨fun h => writes_alike va vb (fun x hx => ⟨h1 x hx, ra x hx⟩) (fun x hx => ⟨h2 x hx, rb x hx⟩) na nb h, fun h => alike_writes va vb h⟩
end Go.Proofs.YtdkkblhfjblpkaaGreat
