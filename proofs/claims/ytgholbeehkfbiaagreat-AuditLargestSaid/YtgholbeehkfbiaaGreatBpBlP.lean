/- audit: sorting moves: blocks, plain -/
import Derived.Test.YtgholbeehkfbiaaGreatRows
import Derived.Test.YtgholbeehkfbiaaGreatBpAuS0
import Derived.Test.YtgholbeehkfbiaaGreatBpSymP
import Derived.WalkKit
import Derived.WalkSpells
import Derived.WalkLawsBesides
import Derived.Deep.QuietTactic
import Derived.BigQuiet
import Derived.Laws.StructEq
import Derived.Deep.DeepFit
import Derived.StillTailTactics
namespace Go.Proofs.YtgholbeehkfbiaaGreat
open Go.RowKit
/-- Runs of `d` sorted, each by itself. -/
def blL (d : Nat) : Nat → List Mv → List Mv
  | 0, M => sortB ltM M
  | f + 1, M => if M.length ≤ d then sortB ltM M else sortB ltM (M.take d) ++ blL d f (M.drop d)
def BL (d : Nat) (M : List Mv) : List Mv := blL d M.length M
theorem BL_le {d : Nat} {M : List Mv} (h : M.length ≤ d) : BL d M = sortB ltM M := by
  unfold BL
  cases M.length with
  | zero => rfl
  | succ f => unfold blL; rw [if_pos h]
theorem blL_fuel {d : Nat} (hd : 0 < d) : ∀ (f g : Nat) (M : List Mv), M.length ≤ f → M.length ≤ g → blL d f M = blL d g M
  | 0, 0, M, _, _ => rfl
  | 0, g + 1, M, h, _ => by
    unfold blL
    rw [if_pos (by omega)]
  | f + 1, 0, M, _, h => by
    unfold blL
    rw [if_pos (by omega)]
  | f + 1, g + 1, M, h1, h2 => by
    unfold blL
    by_cases h : M.length ≤ d
    · rw [if_pos h, if_pos h]
    · rw [if_neg h, if_neg h, blL_fuel hd f g (M.drop d) (by rw [List.length_drop]; omega) (by rw [List.length_drop]; omega)]
theorem BL_app {d : Nat} (hd : 0 < d) {S : List Mv} (hS : S.length = d) (M : List Mv) : BL d (S ++ M) = sortB ltM S ++ BL d M := by
  by_cases h : M = []
  · subst h
    rw [List.append_nil, BL_le (Nat.le_of_eq hS), BL_le (Nat.zero_le _), show sortB ltM ([] : List Mv) = [] from rfl, List.append_nil]
  · have h1 : 0 < M.length := List.length_pos_iff.2 h
    have e : blL d (S ++ M).length (S ++ M) = blL d ((S ++ M).length + 1) (S ++ M) := blL_fuel hd _ _ _ (Nat.le_refl _) (by omega)
    unfold BL
    rw [e]
    rw [blL, if_neg (by rw [List.length_append]; omega), List.take_append_of_le_length (by omega), List.take_of_length_le (by omega), List.drop_append_of_le_length (by omega), List.drop_of_length_le (by omega), List.nil_append]
    rw [blL_fuel hd (S ++ M).length M.length M (by rw [List.length_append]; omega) (Nat.le_refl _)]
theorem blL_perm (d : Nat) : ∀ (f : Nat) (M : List Mv), (blL d f M).Perm M
  | 0, M => sortB_perm M
  | f + 1, M => by
    unfold blL
    split
    · exact sortB_perm M
    · exact ((sortB_perm _).append (blL_perm d f _)).trans (by rw [List.take_append_drop])
theorem BL_perm (d : Nat) (M : List Mv) : (BL d M).Perm M := blL_perm d _ M
theorem BL_len (d : Nat) (M : List Mv) : (BL d M).length = M.length := (BL_perm d M).length_eq
/-- One merge: two runs of `d` make one run of `2 d`. -/
theorem BL_two {d : Nat} (hd : 0 < d) {S T : List Mv} (hS : S.length = d) (hT : T.length = d) (M : List Mv) : BL d (S ++ T ++ M) = sortB ltM S ++ sortB ltM T ++ BL d M ∧ BL (2 * d) (S ++ T ++ M) = mrg ltM (sortB ltM S) (sortB ltM T) ++ BL (2 * d) M := by
  constructor
  · rw [List.append_assoc, BL_app hd hS, BL_app hd hT, List.append_assoc]
  · rw [BL_app (by omega) (by rw [List.length_append]; omega), sortB_app ltM_strict]
theorem BL_last {d : Nat} (hd : 0 < d) {S T : List Mv} (hS : S.length = d) (hT : T.length ≤ d) : BL d (S ++ T) = sortB ltM S ++ sortB ltM T ∧ BL (2 * d) (S ++ T) = mrg ltM (sortB ltM S) (sortB ltM T) := by
  constructor
  · rw [BL_app hd hS, BL_le hT]
  · rw [BL_le (by rw [List.length_append]; omega), sortB_app ltM_strict]
end Go.Proofs.YtgholbeehkfbiaaGreat
