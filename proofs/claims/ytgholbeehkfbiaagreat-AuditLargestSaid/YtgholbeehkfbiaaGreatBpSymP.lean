/- sorting moves: where two runs part (plain) -/
import Derived.Test.YtgholbeehkfbiaaGreatRows
import Derived.Test.YtgholbeehkfbiaaGreatBpAuS1
import Derived.WalkKit
import Derived.WalkSpells
import Derived.WalkLawsBesides
import Derived.Deep.QuietTactic
import Derived.BigQuiet
import Derived.Laws.StructEq
import Derived.Deep.DeepFit
import Derived.StillTailTactics
namespace Go.Proofs.YtgholbeehkfbiaaGreat
open Go.RowKit
theorem sb_get {U : List Mv} (h : SortedB ltM U) {i j : Nat} (hi : i < U.length) (hj : j < U.length) (hij : i ≤ j) : ltM U[j] U[i] = false := by
  rcases Nat.lt_or_eq_of_le hij with hlt | rfl
  · exact List.pairwise_iff_getElem.1 h i j hi hj hlt
  · exact ltM_strict.irr _
theorem take_get {U : List Mv} {s : Nat} {x : Mv} (h : x ∈ U.take s) : ∃ (i : Nat) (hi : i < U.length), i < s ∧ U[i] = x := by
  obtain ⟨i, hi, rfl⟩ := List.getElem_of_mem h
  rw [List.length_take] at hi
  exact ⟨i, by omega, by omega, by rw [List.getElem_take]⟩
theorem drop_get {U : List Mv} {s : Nat} {x : Mv} (h : x ∈ U.drop s) : ∃ (i : Nat) (hi : i < U.length), s ≤ i ∧ U[i] = x := by
  obtain ⟨i, hi, rfl⟩ := List.getElem_of_mem h
  rw [List.length_drop] at hi
  exact ⟨s + i, by omega, by omega, by rw [List.getElem_drop]⟩
theorem sym_plain {U V : List Mv} (hU : SortedB ltM U) (hV : SortedB ltM V) {s e : Nat} (hs : s ≤ U.length) (he : e ≤ V.length)
    (hA : s = 0 ∨ e = V.length ∨ ∃ (i : Nat) (hi : i < U.length) (hj : e < V.length), i + 1 = s ∧ ltM V[e] U[i] = false)
    (hB : s = U.length ∨ e = 0 ∨ ∃ (j : Nat) (hi : s < U.length) (hj : j < V.length), j + 1 = e ∧ ltM V[j] U[s] = true) :
    mrg ltM U V = mrg ltM (U.take s) (V.take e) ++ mrg ltM (U.drop s) (V.drop e) := by
  have h := mrg_split (lt := ltM) (U.take s) (V.take e) (U.drop s) (V.drop e) (fun x hx y hy => ?_) (fun v hv u hu => ?_)
  · rwa [List.take_append_drop, List.take_append_drop] at h
  · obtain ⟨i, hi, his, rfl⟩ := take_get hx
    obtain ⟨j, hj, hjs, rfl⟩ := drop_get hy
    rcases hA with h0 | h0 | ⟨i', hi', hj', h1, h2⟩
    · omega
    · omega
    · exact ltM_strict.co _ _ _ (ltM_strict.co _ _ _ (sb_get hV hj' hj hjs) h2) (sb_get hU hi hi' (by omega))
  · obtain ⟨i, hi, his, rfl⟩ := drop_get hu
    obtain ⟨j, hj, hjs, rfl⟩ := take_get hv
    rcases hB with h0 | h0 | ⟨j', hi', hj', h1, h2⟩
    · omega
    · omega
    · cases hq : ltM V[j] U[i] with
      | true => rfl
      | false =>
        have := ltM_strict.co _ _ _ (ltM_strict.co _ _ _ (sb_get hV hj hj' (by omega)) hq) (sb_get hU hi' hi his)
        rw [this] at h2; cases h2
/-- the one ahead of a run: its place -/
theorem sym_one {V : List Mv} (hV : SortedB ltM V) {u : Mv} {i : Nat} (h1 : i = 0 ∨ ∃ (j : Nat) (hj : j < V.length), j + 1 = i ∧ ltM V[j] u = true) (h2 : i = V.length ∨ ∃ hi : i < V.length, ltM V[i] u = false) (hi : i ≤ V.length) : mrg ltM [u] V = V.take i ++ u :: V.drop i := by
  have h := mrg_left (lt := ltM) (V1 := V.take i) (V2 := V.drop i) (x := u) (fun y hy => ?_) (fun y hy => ?_)
  · rwa [List.take_append_drop] at h
  · obtain ⟨k, hk, hki, rfl⟩ := take_get hy
    rcases h1 with h1 | ⟨j, hj, h3, h4⟩
    · omega
    · cases hq : ltM V[k] u with
      | true => rfl
      | false =>
        have := ltM_strict.co _ _ _ (sb_get hV hk hj (by omega)) hq
        rw [this] at h4; cases h4
  · rcases h2 with h2 | ⟨hi2, h3⟩
    · rw [List.drop_of_length_le (by omega)] at hy; cases hy
    · rw [List.drop_eq_getElem_cons hi2] at hy
      injection hy with hy
      rw [← hy]; exact h3
/-- the one behind a run: its place -/
theorem sym_last {U : List Mv} (hU : SortedB ltM U) {v : Mv} {i : Nat} (h1 : i = 0 ∨ ∃ (j : Nat) (hj : j < U.length), j + 1 = i ∧ ltM v U[j] = false) (h2 : i = U.length ∨ ∃ hi : i < U.length, ltM v U[i] = true) (hi : i ≤ U.length) : mrg ltM U [v] = U.take i ++ v :: U.drop i := by
  have h := mrg_right (lt := ltM) (U1 := U.take i) (U2 := U.drop i) (x := v) (fun y hy => ?_) (fun y hy => ?_)
  · rwa [List.take_append_drop] at h
  · obtain ⟨k, hk, hki, rfl⟩ := take_get hy
    rcases h1 with h1 | ⟨j, hj, h3, h4⟩
    · omega
    · exact ltM_strict.co _ _ _ h4 (sb_get hU hk hj (by omega))
  · obtain ⟨k, hk, hki, rfl⟩ := drop_get hy
    rcases h2 with h2 | ⟨hi2, h3⟩
    · omega
    · cases hq : ltM v U[k] with
      | true => rfl
      | false =>
        have := ltM_strict.co _ _ _ hq (sb_get hU hi2 hk hki)
        rw [this] at h3; cases h3
theorem sorted_fix : ∀ {U : List Mv}, SortedB ltM U → sortB ltM U = U
  | [], _ => rfl
  | x :: U, h => by
    obtain ⟨h1, h2⟩ := List.pairwise_cons.1 h
    show insB ltM x (sortB ltM U) = _
    rw [sorted_fix h2]
    cases U with
    | nil => rfl
    | cons y U =>
      unfold insB
      rw [if_neg (by rw [h1 y (List.mem_cons_self ..)]; decide)]
theorem mrg_sorted {U V : List Mv} (hU : SortedB ltM U) (hV : SortedB ltM V) : SortedB ltM (mrg ltM U V) := by
  have eU : sortB ltM U = U := sorted_fix hU
  have eV : sortB ltM V = V := sorted_fix hV
  have := sortB_sorted ltM_strict (U ++ V)
  rwa [sortB_app ltM_strict, eU, eV] at this
end Go.Proofs.YtgholbeehkfbiaaGreat
