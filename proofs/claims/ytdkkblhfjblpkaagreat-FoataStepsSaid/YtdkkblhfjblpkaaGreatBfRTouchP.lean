/- Texts in order, none twice: what order.Touches and its reference make. No program -/
import Derived.Test.YtdkkblhfjblpkaaGreatRows
import Derived.Test.YtdkkblhfjblpkaaGreatBi2
import Derived.Test.YtdkkblhfjblpkaaGreatBi1
import Derived.WalkKit
import Derived.WalkSpells
import Derived.WalkLawsBesides
import Derived.Deep.QuietTactic
import Derived.BigQuiet
import Derived.Laws.StructEq
import Derived.Deep.DeepFit
import Derived.StillTailTactics
namespace Go.Proofs.YtdkkblhfjblpkaaGreat
open Go.RowKit
def StrictB (l : List ByteArray) : Prop := l.Pairwise fun x y => bless x y = true
theorem mem_compactL {s : ByteArray} {l : List ByteArray} : s ∈ compactL l ↔ s ∈ l := by
  induction l using compactL.induct with
  | case1 => simp [compactL]
  | case2 x => simp [compactL]
  | case3 y r ih => rw [compactL, if_pos rfl, ih]; simp
  | case4 x y r hne ih => rw [compactL, if_neg hne, List.mem_cons, ih]; simp
theorem bless_asymm {a b : ByteArray} (h : bless a b = true) : bless b a = false := by
  cases hb : bless b a with
  | false => rfl
  | true =>
    have := bless_strict.trans _ _ _ h hb
    rw [bless_strict.irr] at this
    cases this
theorem compactL_strict {l : List ByteArray} (h : SortedB bless l) : StrictB (compactL l) := by
  induction l using compactL.induct with
  | case1 => exact List.Pairwise.nil
  | case2 x => exact List.pairwise_singleton _ _
  | case3 y r ih => rw [compactL, if_pos rfl]; exact ih (List.pairwise_cons.1 h).2
  | case4 x y r hne ih =>
    rw [compactL, if_neg hne]
    have h1 := List.pairwise_cons.1 h
    refine List.pairwise_cons.2 ⟨fun z hz => ?_, ih h1.2⟩
    have hz := mem_compactL.1 hz
    have hxy : bless x y = true := by
      cases hb : bless x y with
      | true => rfl
      | false => exact absurd (bless_tri hb (h1.1 y (by simp))) hne
    rcases List.mem_cons.1 hz with rfl | hzr
    · exact hxy
    · cases hb : bless x z with
      | true => rfl
      | false =>
        have := bless_tri hb (h1.1 z hz)
        subst this
        rw [(List.pairwise_cons.1 h1.2).1 x hzr] at hxy
        cases hxy
theorem strict_unique : ∀ {l m : List ByteArray}, StrictB l → StrictB m → (∀ s, s ∈ l ↔ s ∈ m) → l = m
  | [], [], _, _, _ => rfl
  | [], y :: s, _, _, h => absurd ((h y).2 (by simp)) (by simp)
  | x :: r, [], _, _, h => absurd ((h x).1 (by simp)) (by simp)
  | x :: r, y :: s, hl, hm, h => by
    have h1 := List.pairwise_cons.1 hl
    have h2 := List.pairwise_cons.1 hm
    have hxy : x = y := by
      rcases List.mem_cons.1 ((h x).1 (by simp)) with e | e
      · exact e
      · rcases List.mem_cons.1 ((h y).2 (by simp)) with e' | e'
        · exact e'.symm
        · have g1 := h2.1 x e
          have g2 := h1.1 y e'
          rw [bless_asymm g1] at g2
          cases g2
    subst hxy
    have hx : ∀ {t : List ByteArray}, (∀ z ∈ t, bless x z = true) → x ∉ t := fun ht hx => by
      have := ht x hx
      rw [bless_strict.irr] at this
      cases this
    rw [strict_unique h1.2 h2.2 fun z => ?_]
    have hz := h z
    simp only [List.mem_cons] at hz
    by_cases e : z = x
    · subst e
      exact ⟨fun hr => absurd hr (hx h1.1), fun hs => absurd hs (hx h2.1)⟩
    · simpa [e] using hz
/-- out holds the texts of done that are not empty, in order, none twice -/
def GoodT (out done : List ByteArray) : Prop := StrictB out ∧ ∀ s, s ∈ out ↔ s ∈ done ∧ nonE s = true
theorem GoodT.nil : GoodT [] [] := ⟨List.Pairwise.nil, fun s => by simp⟩
theorem GoodT.skip {out done : List ByteArray} {a : ByteArray} (h : GoodT out done) (ha : nonE a = false ∨ a ∈ out) : GoodT out (done ++ [a]) := by
  refine ⟨h.1, fun s => ?_⟩
  rw [h.2 s]
  simp only [List.mem_append, List.mem_singleton]
  constructor
  · rintro ⟨h1, h2⟩; exact ⟨.inl h1, h2⟩
  · rintro ⟨h1 | rfl, h2⟩
    · exact ⟨h1, h2⟩
    · rcases ha with ha | ha
      · rw [ha] at h2; cases h2
      · exact (h.2 s).1 ha
theorem GoodT.ins {out done : List ByteArray} {a : ByteArray} {k : Nat} (h : GoodT out done) (hk : k ≤ out.length) (hup : ∀ j (hj : j < out.length), k ≤ j → bless a out[j] = true) (hlo : ∀ (hk0 : 0 < k), bless a (out[k - 1]'(by omega)) = false ∧ out[k - 1]'(by omega) ≠ a) (hne : nonE a = true) :
    GoodT (out.take k ++ [a] ++ out.drop k) (done ++ [a]) := by
  have hlow : ∀ z ∈ out.take k, bless z a = true := fun z hz => by
    obtain ⟨j, hj, rfl⟩ := List.getElem_of_mem hz
    rw [List.length_take] at hj
    rw [List.getElem_take]
    obtain ⟨h1, h2⟩ := hlo (by omega)
    have h3 : bless (out[k - 1]'(by omega)) a = true := by
      cases hb : bless (out[k - 1]'(by omega)) a with
      | true => rfl
      | false => exact absurd (bless_tri hb h1) h2
    by_cases e : j = k - 1
    · subst e; exact h3
    · exact bless_strict.trans _ _ _ (List.pairwise_iff_getElem.1 h.1 j (k - 1) (by omega) (by omega) (by omega)) h3
  have hhigh : ∀ z ∈ out.drop k, bless a z = true := fun z hz => by
    obtain ⟨j, hj, rfl⟩ := List.getElem_of_mem hz
    rw [List.length_drop] at hj
    rw [List.getElem_drop]
    exact hup (k + j) (by omega) (by omega)
  refine ⟨?_, fun s => ?_⟩
  · refine List.pairwise_append.2 ⟨List.pairwise_append.2 ⟨List.Pairwise.sublist (List.take_sublist _ _) h.1, List.pairwise_singleton _ _, fun z hz y hy => ?_⟩, List.Pairwise.sublist (List.drop_sublist _ _) h.1, fun z hz y hy => ?_⟩
    · rw [List.mem_singleton.1 hy]; exact hlow z hz
    · rcases List.mem_append.1 hz with hz | hz
      · exact bless_strict.trans _ _ _ (hlow z hz) (hhigh y hy)
      · rw [List.mem_singleton.1 hz]; exact hhigh y hy
  · have hmem : s ∈ out ↔ s ∈ out.take k ∨ s ∈ out.drop k := by rw [← List.mem_append, List.take_append_drop]
    simp only [List.mem_append, List.mem_singleton]
    constructor
    · rintro ((h1 | rfl) | h1)
      · have := (h.2 s).1 (hmem.2 (.inl h1)); exact ⟨.inl this.1, this.2⟩
      · exact ⟨.inr rfl, hne⟩
      · have := (h.2 s).1 (hmem.2 (.inr h1)); exact ⟨.inl this.1, this.2⟩
    · rintro ⟨h1 | rfl, h2⟩
      · rcases hmem.1 ((h.2 s).2 ⟨h1, h2⟩) with h3 | h3
        · exact .inl (.inl h3)
        · exact .inr h3
      · exact .inl (.inr rfl)
theorem GoodT.touches {x : Od} {out : List ByteArray} (h : GoodT out (x.acct :: x.peer :: x.legs.map Leg.acct)) : out = touches x := by
  refine strict_unique h.1 (compactL_strict (sortB_sorted bless_strict _)) fun s => ?_
  rw [h.2 s]
  show _ ↔ s ∈ compactL (sortS _)
  rw [mem_compactL, (sortB_perm (lt := bless) _).mem_iff, List.mem_filter]
end Go.Proofs.YtdkkblhfjblpkaaGreat
