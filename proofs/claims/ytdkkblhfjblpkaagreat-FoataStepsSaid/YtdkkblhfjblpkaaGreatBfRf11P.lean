/- ref11.Steps: the plain part -/
import Derived.Test.YtdkkblhfjblpkaaGreatRows
import Derived.Test.YtdkkblhfjblpkaaGreatBi19
import Derived.Test.YtdkkblhfjblpkaaGreatBi18
import Derived.Test.YtdkkblhfjblpkaaGreatBi14
import Derived.WalkKit
import Derived.WalkSpells
import Derived.WalkLawsBesides
import Derived.Deep.QuietTactic
import Derived.BigQuiet
import Derived.Laws.StructEq
import Derived.Deep.DeepFit
import Derived.StillTailTactics
namespace Go.Proofs.YtdkkblhfjblpkaaGreat
open Go.RowKit
theorem ahead_lt (x y : Od) : aheadB x y = ltO x y := by
  unfold aheadB ltO
  by_cases h : x.client = y.client
  · rw [if_neg (by simpa using h), h]
    simp
  · rw [if_pos h]
    simp [h]
theorem ins_srt {T : List Od} {o : Od} {q : Nat} (hs : SrtL ltO T) (h1 : ∀ t ∈ T.drop q, ltO o t = true) (h2 : ∀ t ∈ T.take q, ltO t o = true) : SrtL ltO (T.take q ++ [o] ++ T.drop q) := by
  unfold SrtL at hs ⊢
  rw [← List.take_append_drop q T, List.pairwise_append] at hs
  obtain ⟨a, b, c⟩ := hs
  rw [List.pairwise_append, List.pairwise_append]
  refine ⟨⟨a, List.pairwise_singleton _ _, fun x hx y hy => by rw [List.mem_singleton.1 hy]; exact h2 x hx⟩, b, fun x hx y hy => ?_⟩
  rcases List.mem_append.1 hx with h | h
  · exact c x h y hy
  · rw [List.mem_singleton.1 h]; exact h1 y hy
theorem ins_stop {T : List Od} {o : Od} {q : Nat} (hs : SrtL ltO T) (hq : q < T.length) (hd : T[q].id ≠ o.id) (h : ltO o T[q] = false) : ∀ t ∈ T.take (q + 1), ltO t o = true := by
  have h1 : ltO T[q] o = true := by
    cases h2 : ltO T[q] o with
    | true => rfl
    | false => exact absurd (ltO_tri h2 h) hd
  intro t ht
  obtain ⟨n, hn, e⟩ := mem_take_get.1 ht
  obtain ⟨hl, rfl⟩ := List.getElem?_eq_some_iff.1 e
  rcases Nat.lt_succ_iff_lt_or_eq.1 hn with h2 | h2
  · exact strictO.trans _ _ _ ((List.pairwise_iff_getElem.1 hs) n q hl hq h2) h1
  · subst h2; exact h1
/-- the free ones, and the others, of the first so many -/
structure SI (M : List Od) (i : Nat) (T R : List Od) : Prop where
  srt : SrtL ltO T
  perm : T.Perm (freeS (M.take i))
  rest : R = restS (M.take i) 1
theorem SI.zero (M : List Od) : SI M 0 [] [] := ⟨List.Pairwise.nil, by rw [List.take_zero]; exact List.Perm.refl _, by rw [List.take_zero]; rfl⟩
def freeAt (M : List Od) (i k : Nat) (o : Od) : Bool := ((M.take i).take k).all fun x => !clashB x o
theorem freeAt_next {M : List Od} {i k : Nat} {o : Od} (hk : k < i) (hi : i ≤ M.length) : freeAt M i (k + 1) o = (freeAt M i k o && !clashB (M[k]'(by omega)) o) := by
  unfold freeAt
  have h : k < (M.take i).length := by rw [List.length_take]; omega
  rw [List.take_succ_eq_append_getElem h, List.all_append, List.getElem_take]
  simp
theorem freeAt_all {M : List Od} {i : Nat} {o : Od} (hi : i ≤ M.length) : freeAt M i i o = true ↔ ∀ x ∈ M.take i, clashB x o = false := by
  unfold freeAt
  rw [List.take_of_length_le (by rw [List.length_take]; omega), List.all_eq_true]
  simp
theorem mem_free {l : List Od} {x : Od} (h : x ∈ freeS l) : x ∈ l := by
  unfold freeS at h
  obtain ⟨p, hp, rfl⟩ := List.mem_map.1 h
  have h2 : p.1 ∈ (levP l).map (·.1) := List.mem_map.2 ⟨p, (List.mem_filter.1 hp).1, rfl⟩
  rwa [levP_fst] at h2
theorem mem_restS {l : List Od} {x : Od} {s : Nat} (h : x ∈ restS l s) : x ∈ l := by
  unfold restS at h
  obtain ⟨p, hp, rfl⟩ := List.mem_map.1 h
  have h2 : p.1 ∈ (levP l).map (·.1) := List.mem_map.2 ⟨p, (List.mem_filter.1 hp).1, rfl⟩
  rwa [levP_fst] at h2
theorem restS_le (l : List Od) (s : Nat) : (restS l s).length ≤ l.length := by
  unfold restS
  rw [List.length_map]
  have := List.length_filter_le (fun p : Od × Int => decide ((s : Int) < p.2)) (levP l)
  rw [levP_len] at this
  exact this
theorem freeS_le (l : List Od) : (freeS l).length ≤ l.length := by
  unfold freeS
  rw [List.length_map]
  have := List.length_filter_le (fun p : Od × Int => decide (p.2 = ((0 : Nat) : Int) + 1)) (levP l)
  rw [levP_len] at this
  exact this
section
variable {M T R : List Od} {i : Nat}
theorem SI.mem_T (h : SI M i T R) {x : Od} (hx : x ∈ T) : x ∈ M.take i := mem_free (h.perm.mem_iff.1 hx)
theorem SI.mem_R (h : SI M i T R) {x : Od} (hx : x ∈ R) : x ∈ M.take i := by rw [h.rest] at hx; exact mem_restS hx
theorem SI.len (h : SI M i T R) : T.length ≤ M.length ∧ R.length ≤ M.length := by
  have h1 := h.perm.length_eq
  have h2 := freeS_le (M.take i)
  have h3 := restS_le (M.take i) 1
  rw [← h.rest] at h3
  rw [List.length_take] at h2 h3
  omega
theorem SI.free (h : SI M i T R) (hi : i < M.length) (hf : freeAt M i i M[i] = true) {q : Nat} (h1 : ∀ t ∈ T.drop q, ltO M[i] t = true) (h2 : ∀ t ∈ T.take q, ltO t M[i] = true) : SI M (i + 1) (T.take q ++ [M[i]] ++ T.drop q) R := by
  have hc := (freeAt_all (by omega)).1 hf
  refine ⟨ins_srt h.srt h1 h2, ?_, ?_⟩
  · rw [List.take_succ_eq_append_getElem hi, freeS_snoc, if_pos hc]
    refine List.Perm.trans ?_ (h.perm.append_right [M[i]])
    have h3 : (T.take q ++ [M[i]] ++ T.drop q).Perm (T.take q ++ T.drop q ++ [M[i]]) := by
      rw [List.append_assoc, List.append_assoc]
      exact List.Perm.append_left _ List.perm_append_comm
    rw [List.take_append_drop] at h3
    exact h3
  · rw [List.take_succ_eq_append_getElem hi, rest1_snoc, if_pos hc]; exact h.rest
theorem SI.held (h : SI M i T R) (hi : i < M.length) (hf : freeAt M i i M[i] = false) : SI M (i + 1) T (R ++ [M[i]]) := by
  have hc : ¬ ∀ x ∈ M.take i, clashB x M[i] = false := fun hc => by rw [(freeAt_all (by omega)).2 hc] at hf; cases hf
  refine ⟨h.srt, ?_, ?_⟩
  · rw [List.take_succ_eq_append_getElem hi, freeS_snoc, if_neg hc]; exact h.perm
  · rw [List.take_succ_eq_append_getElem hi, rest1_snoc, if_neg hc, h.rest]
theorem SI.fin (h : SI M M.length T R) (hv : Val M) : T = stepP (levP M) 0 ∧ R = restS M 1 := by
  have h1 := h.perm
  have h2 := h.rest
  rw [List.take_length] at h1 h2
  refine ⟨?_, h2⟩
  have hvt : Val T := h.srt.imp fun h => ltO_irr_id h
  refine sort_unique_val (h1.trans (sortB_perm _).symm) hvt (SrtL.sorted strictO h.srt) (sortB_sorted strictO _)
end
/-- step by step -/
theorem peel {l : List Od} (hv : Val l) {s : Nat} {T R : List Od} (h : SI (restS l s) (restS l s).length T R) : T = stepP (levP l) s ∧ R = restS l (s + 1) := by
  have hvr : Val (restS l s) := by
    unfold restS
    exact val_filter (by rw [levP_fst]; exact hv) _
  obtain ⟨h1, h2⟩ := h.fin hvr
  rw [step_rest] at h1
  rw [rest_rest] at h2
  exact ⟨h1, h2⟩
theorem peel_take {l : List Od} {s : Nat} (h : (restS l s).length ≠ 0) : (stepsV l).take (s + 1) = (stepsV l).take s ++ [stepP (levP l) s] := by
  have hs : s < (stepsV l).length := by
    rcases Nat.lt_or_ge s (stepsV l).length with h1 | h1
    · exact h1
    · exact absurd ((restS_len l s).2 h1) h
  rw [List.take_succ_eq_append_getElem hs, stepsV_get hs]
theorem peel_end {l : List Od} {s : Nat} (h : (restS l s).length = 0) : (stepsV l).take s = stepsV l := List.take_of_length_le ((restS_len l s).1 h)
theorem peel_lt {l : List Od} {s : Nat} (h : (restS l s).length ≠ 0) : s < (stepsV l).length := by
  rcases Nat.lt_or_ge s (stepsV l).length with h1 | h1
  · exact h1
  · exact absurd ((restS_len l s).2 h1) h
end Go.Proofs.YtdkkblhfjblpkaaGreat
