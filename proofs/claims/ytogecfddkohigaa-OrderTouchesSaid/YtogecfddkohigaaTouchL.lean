/- accounts that are named: the plain law -/
import Derived.Test.YtogecfddkohigaaRows
import Derived.Test.YtogecfddkohigaaRTouchP
import Derived.Test.YtogecfddkohigaaBytesO
import Derived.Test.YtogecfddkohigaaHas6
import Derived.WalkKit
import Derived.WalkSpells
import Derived.WalkLawsBesides
import Derived.Deep.QuietTactic
import Derived.BigQuiet
import Derived.Laws.StructEq
import Derived.Deep.DeepFit
import Derived.StillTailTactics
namespace Go.Proofs.Ytogecfddkohigaa
open Go.RowKit
theorem rt_all (x : Od) : ∀ s, s ∈ touches x ↔ s ∈ (x.acct :: x.peer :: x.legs.map Leg.acct) ∧ nonE s = true := fun s => by
  unfold touches
  rw [mem_compactL, (sortB_perm _).mem_iff, List.mem_filter]
theorem nonE_empty : nonE ⟨#[]⟩ = false := by unfold nonE; rw [ByteArray.toList_eq]; rfl
theorem nonE_name {s : ByteArray} (h : nameB s = true) : nonE s = true := by
  unfold nameB at h
  simp only [Bool.and_eq_true] at h
  exact h.2.1
theorem touches_close {x : Od} (h : rightB x = true) : ((touches x).length = 0) ↔ x.kind = 6 := by
  unfold rightB at h
  simp only [Bool.and_eq_true] at h
  obtain ⟨hk, _, hs, hf⟩ := h
  have emp : (∀ s, s ∉ touches x) → (touches x).length = 0 := fun h => by rw [List.eq_nil_iff_forall_not_mem.2 h]; rfl
  have non : ∀ s, s ∈ touches x → ¬ (touches x).length = 0 := fun s hs h => by rw [List.length_eq_zero_iff.1 h] at hs; simp at hs
  have hac : nameB x.acct = true → ¬ (touches x).length = 0 := fun h => non x.acct ((rt_all x _).2 ⟨by simp, nonE_name h⟩)
  by_cases h1 : x.kind = 1
  · have e1 : bareO x = bare1 x := by unfold bareO; rw [if_pos h1]
    have e2 : fitsO x = fits1 x := by unfold fitsO; rw [if_pos h1]
    rw [e1] at hs
    rw [e2] at hf
    simp only [fits1, Bool.and_eq_true] at hf
    exact ⟨fun h => absurd h (hac hf.1), fun h => by omega⟩
  by_cases h2 : x.kind = 2
  · have e1 : bareO x = bare2 x := by unfold bareO; rw [if_neg h1, if_pos h2]
    have e2 : fitsO x = fits2 x := by unfold fitsO; rw [if_neg h1, if_pos h2]
    rw [e1] at hs
    rw [e2] at hf
    simp only [fits2, Bool.and_eq_true] at hf
    have hl := hf.1.1
    unfold legsB at hl
    simp only [Bool.and_eq_true, decide_eq_true_eq, List.all_eq_true] at hl
    refine ⟨fun h => ?_, fun h => by omega⟩
    obtain ⟨y, hy⟩ : ∃ y, y ∈ x.legs := ⟨x.legs[0]'(by omega), List.getElem_mem _⟩
    have hb := hl.1.2 y hy
    unfold legB at hb
    simp only [Bool.and_eq_true] at hb
    exact absurd h (non y.acct ((rt_all x _).2 ⟨by simp only [List.mem_cons, List.mem_map]; exact .inr (.inr ⟨y, hy, rfl⟩), nonE_name hb.1⟩))
  by_cases h3 : x.kind = 3
  · have e1 : bareO x = bare3 x := by unfold bareO; rw [if_neg h1, if_neg h2, if_pos h3]
    have e2 : fitsO x = fits3 x := by unfold fitsO; rw [if_neg h1, if_neg h2, if_pos h3]
    rw [e1] at hs
    rw [e2] at hf
    simp only [fits3, Bool.and_eq_true] at hf
    exact ⟨fun h => absurd h (hac hf.1), fun h => by omega⟩
  by_cases h4 : x.kind = 4
  · have e1 : bareO x = bare4 x := by unfold bareO; rw [if_neg h1, if_neg h2, if_neg h3, if_pos h4]
    have e2 : fitsO x = fits4 x := by unfold fitsO; rw [if_neg h1, if_neg h2, if_neg h3, if_pos h4]
    rw [e1] at hs
    rw [e2] at hf
    simp only [fits4, Bool.and_eq_true] at hf
    exact ⟨fun h => absurd h (hac hf.1.1.1.1.1), fun h => by omega⟩
  by_cases h5 : x.kind = 5
  · have e1 : bareO x = bare5 x := by unfold bareO; rw [if_neg h1, if_neg h2, if_neg h3, if_neg h4, if_pos h5]
    have e2 : fitsO x = fits5 x := by unfold fitsO; rw [if_neg h1, if_neg h2, if_neg h3, if_neg h4, if_pos h5]
    rw [e1] at hs
    rw [e2] at hf
    simp only [fits5, Bool.and_eq_true] at hf
    exact ⟨fun h => absurd h (hac hf.1), fun h => by omega⟩
  by_cases h6 : x.kind = 6
  · have e1 : bareO x = bare6 x := by unfold bareO; rw [if_neg h1, if_neg h2, if_neg h3, if_neg h4, if_neg h5, if_pos h6]
    have e2 : fitsO x = fits6 x := by unfold fitsO; rw [if_neg h1, if_neg h2, if_neg h3, if_neg h4, if_neg h5, if_pos h6]
    rw [e1] at hs
    rw [e2] at hf
    obtain ⟨ea, ep, en, -, -, -, -, -, el⟩ := of_decide_eq_true hs
    refine ⟨fun _ => h6, fun _ => emp fun s hs => ?_⟩
    have := (rt_all x s).1 hs
    rw [show x.acct = ⟨#[]⟩ from ea, show x.peer = ⟨#[]⟩ from ep, show x.legs = [] from el] at this
    simp only [List.map_nil, List.mem_cons, List.not_mem_nil, or_false] at this
    obtain ⟨h, hne⟩ := this
    rcases h with rfl | rfl <;> (rw [nonE_empty] at hne; cases hne)
  by_cases h7 : x.kind = 7
  · have e1 : bareO x = bare7 x := by unfold bareO; rw [if_neg h1, if_neg h2, if_neg h3, if_neg h4, if_neg h5, if_neg h6]
    have e2 : fitsO x = nameB x.acct := by unfold fitsO; rw [if_neg h1, if_neg h2, if_neg h3, if_neg h4, if_neg h5, if_neg h6]
    rw [e1] at hs
    rw [e2] at hf
    exact ⟨fun h => absurd h (hac hf), fun h => by omega⟩
  have := of_decide_eq_true hk
  omega
theorem touches_srt (x : Od) {i j : Nat} (hi : i < (touches x).length) (hj : j < (touches x).length) (h : i < j) : bless (touches x)[i] (touches x)[j] = true :=
  List.pairwise_iff_getElem.1 (compactL_strict (sortB_sorted bless_strict _)) i j hi hj h
theorem anyS_of {l : List ByteArray} {s : ByteArray} (h : s ∈ l) : anyS l s = true := by
  unfold anyS; rw [List.any_eq_true]; exact ⟨s, h, decide_eq_true rfl⟩
end Go.Proofs.Ytogecfddkohigaa
