/- legs that may be: the plain law -/
import Derived.Test.YthmgchohbdlonaaGreatRows
import Derived.Test.YthmgchohbdlonaaGreatName
import Derived.Test.YthmgchohbdlonaaGreatKeys
import Derived.WalkKit
import Derived.WalkSpells
import Derived.WalkLawsBesides
import Derived.Deep.QuietTactic
import Derived.BigQuiet
import Derived.Laws.StructEq
import Derived.Deep.DeepFit
import Derived.StillTailTactics
namespace Go.Proofs.YthmgchohbdlonaaGreat
open Go.RowKit
/-- accounts that were seen -/
def seenM (l : List Leg) : List (ByteArray × Value) := l.foldl (fun M x => putM M x.acct (.bool true)) []
theorem seenM_snoc (l : List Leg) (x : Leg) : seenM (l ++ [x]) = putM (seenM l) x.acct (.bool true) := by unfold seenM; rw [List.foldl_append]; rfl
theorem getM_fold : ∀ (l : List Leg) (M : List (ByteArray × Value)) (s : ByteArray), (s ∈ l.map Leg.acct → getM (l.foldl (fun M x => putM M x.acct (.bool true)) M) s = some (.bool true)) ∧ (s ∉ l.map Leg.acct → getM (l.foldl (fun M x => putM M x.acct (.bool true)) M) s = getM M s)
  | [], M, s => ⟨fun h => by simp at h, fun _ => rfl⟩
  | x :: r, M, s => by
    have ih := getM_fold r (putM M x.acct (.bool true)) s
    rw [List.foldl_cons]
    constructor
    · intro h
      by_cases hr : s ∈ r.map Leg.acct
      · exact ih.1 hr
      · have hx : x.acct = s := by
          rw [List.map_cons] at h
          rcases List.mem_cons.1 h with h | h
          · exact h.symm
          · exact absurd h hr
        rw [ih.2 hr, getM_put, if_pos hx]
    · intro h
      rw [List.map_cons] at h
      have h1 : s ≠ x.acct := fun e => h (by rw [e]; exact List.mem_cons_self ..)
      have h2 : s ∉ r.map Leg.acct := fun e => h (List.mem_cons_of_mem _ e)
      rw [ih.2 h2, getM_put, if_neg (fun e => h1 e.symm)]
theorem getM_seen {l : List Leg} {s : ByteArray} (h : s ∈ l.map Leg.acct) : getM (seenM l) s = some (.bool true) := (getM_fold l [] s).1 h
theorem getM_unseen {l : List Leg} {s : ByteArray} (h : s ∉ l.map Leg.acct) : getM (seenM l) s = none := (getM_fold l [] s).2 h
def legB (x : Leg) : Bool := nameB x.acct && decide (x.sum ≠ 0)
/-- order.legs -/
def legsB (l : List Leg) : Bool := decide ((l.map Leg.acct).Nodup) && l.all legB && (decide (2 ≤ l.length) && decide (l.length ≤ 6))
def legsTo (l : List Leg) (k : Nat) : Prop := ((l.take k).map Leg.acct).Nodup ∧ ∀ x ∈ l.take k, legB x = true
theorem legsTo.next {l : List Leg} {k : Nat} (h : legsTo l k) (hk : k < l.length) (h1 : l[k].acct ∉ (l.take k).map Leg.acct) (h2 : legB l[k] = true) : legsTo l (k + 1) := by
  obtain ⟨a, b⟩ := h
  unfold legsTo
  rw [List.take_succ_eq_append_getElem hk]
  refine ⟨?_, fun x hx => ?_⟩
  · rw [List.map_append, List.nodup_append]
    refine ⟨a, by simp, fun s hs t ht e => ?_⟩
    simp only [List.map_cons, List.map_nil, List.mem_singleton] at ht
    subst ht e
    exact h1 hs
  · rcases List.mem_append.1 hx with hx | hx
    · exact b x hx
    · simp only [List.mem_singleton] at hx
      subst hx; exact h2
theorem legsB_seen {l : List Leg} {k : Nat} (hk : k < l.length) (h1 : l[k].acct ∈ (l.take k).map Leg.acct) : legsB l = false := by
  unfold legsB
  have : ¬ (l.map Leg.acct).Nodup := fun hn => by
    rw [← List.take_append_drop k l, List.map_append, List.nodup_append] at hn
    exact hn.2.2 _ h1 _ (List.mem_map_of_mem (by rw [List.drop_eq_getElem_cons hk]; exact List.mem_cons_self ..)) rfl
  rw [decide_eq_false this]; rfl
theorem legsB_bad {l : List Leg} {k : Nat} (hk : k < l.length) (h1 : legB l[k] = false) : legsB l = false := by
  unfold legsB
  have : l.all legB = false := by rw [List.all_eq_false]; exact ⟨l[k], List.getElem_mem hk, by rw [h1]; simp⟩
  rw [this, Bool.and_false]; rfl
theorem legsB_all {l : List Leg} (h : legsTo l l.length) : legsB l = (decide (2 ≤ l.length) && decide (l.length ≤ 6)) := by
  obtain ⟨a, b⟩ := h
  rw [List.take_length] at a b
  unfold legsB
  rw [decide_eq_true a, List.all_eq_true.2 b]; rfl
theorem snocInd {α : Type} {motive : List α → Prop} (l : List α) (nil : motive []) (snoc : ∀ l x, motive l → motive (l ++ [x])) : motive l := by
  have h : ∀ m : List α, motive m.reverse := fun m => by
    induction m with
    | nil => exact nil
    | cons x r ih => rw [List.reverse_cons]; exact snoc _ _ ih
  have := h l.reverse
  rwa [List.reverse_reverse] at this
open Classical in
theorem seenM_len (l : List Leg) : (seenM l).length ≤ l.length ∧ ((seenM l).length = l.length ↔ (l.map Leg.acct).Nodup) := by
  induction l using snocInd with
  | nil => simp [seenM]
  | snoc l x ih =>
    rw [seenM_snoc]
    have hl : (putM (seenM l) x.acct (.bool true)).length = if x.acct ∈ l.map Leg.acct then (seenM l).length else (seenM l).length + 1 := by
      unfold putM
      by_cases hm : x.acct ∈ l.map Leg.acct
      · have h1 := getM_seen hm
        unfold getM at h1
        rw [Option.map_eq_some_iff] at h1
        obtain ⟨p, hp, _⟩ := h1
        rw [if_pos hm, if_pos (List.any_eq_true.2 ⟨p, List.mem_of_find?_eq_some hp, by simpa using List.find?_some hp⟩), List.length_map]
      · have h1 := getM_unseen hm
        unfold getM at h1
        rw [Option.map_eq_none_iff, List.find?_eq_none] at h1
        rw [if_neg hm, if_neg (fun e => by obtain ⟨p, hp, he⟩ := List.any_eq_true.1 e; exact h1 p hp he), List.length_append, List.length_singleton]
    rw [hl, List.map_append, List.nodup_append, List.length_append, List.length_singleton]
    by_cases hm : x.acct ∈ l.map Leg.acct
    · rw [if_pos hm]
      refine ⟨by omega, fun e => by omega, fun h => absurd rfl (h.2.2 _ hm _ (by simp))⟩
    · rw [if_neg hm]
      refine ⟨by omega, fun e => ⟨ih.2.1 (by omega), by simp, fun s hs t ht e => ?_⟩, fun h => by rw [ih.2.2 h.1]⟩
      simp only [List.map_cons, List.map_nil, List.mem_singleton] at ht
      subst ht e
      exact hm hs
end Go.Proofs.YthmgchohbdlonaaGreat
