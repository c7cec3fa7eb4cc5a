/- audit: how many orders are told which error (plain) -/
import Derived.Test.YtgholbeehkfbiaaGreatRows
import Derived.Test.YtgholbeehkfbiaaGreatBpAuP
import Derived.WalkKit
import Derived.WalkSpells
import Derived.WalkLawsBesides
import Derived.Deep.QuietTactic
import Derived.BigQuiet
import Derived.Laws.StructEq
import Derived.Deep.DeepFit
import Derived.StillTailTactics
namespace Go.Proofs.YtgholbeehkfbiaaGreat
open Go.RowKit
/-- the errors' numbers -/
def ErrN (n : Int) : Prop := 0 ≤ n ∧ n ≤ 14
theorem sumR_errN (n : Int) : ErrN (sumR n).2 := by unfold sumR ErrN; split <;> (dsimp only; omega)
theorem getLR_errN (L : List Ac) (k : ByteArray) : ErrN (getLR L k).2 := by unfold getLR ErrN; split <;> (dsimp only; omega)
theorem turn_errN {D : Ac → Ac × Int} (hD : ∀ a, ErrN (D a).2) (L : List Ac) (k : ByteArray) (x : Int) : ErrN (turnL D L k x).1 := by
  unfold turnL
  split
  · unfold ErrN; dsimp only; omega
  · rename_i a _
    have := hD a
    split
    · exact this
    · split
      · unfold ErrN; dsimp only; omega
      · split
        · unfold ErrN; dsimp only; omega
        · unfold ErrN; dsimp only; omega
theorem giv_errN (x : Int) : ∀ a, ErrN (givD x a).2 := fun _ => sumR_errN _
theorem asi_errN (x : Int) : ∀ a, ErrN (asiD x a).2 := fun _ => sumR_errN _
theorem open_errN (L : List Ac) (k : ByteArray) (lim : Int) : ErrN (openL L k lim).1 := by
  unfold openL ErrN
  split
  · dsimp only; omega
  · split
    · dsimp only; omega
    · split <;> (dsimp only; omega)
theorem post_errN (L : List Ac) (x : Leg) : ErrN (postL L x).1 := by
  unfold postL
  split
  · exact getLR_errN _ _
  · split
    · exact sumR_errN _
    · exact turn_errN (giv_errN _) _ _ _
theorem all_errN : ∀ (l : List Leg) (L : List Ac), ErrN (allL L l).1
  | [], _ => by unfold allL ErrN; dsimp only; omega
  | x :: r, L => by
    unfold allL
    split
    · exact post_errN _ _
    · exact all_errN r _
theorem check_errN (L : List Ac) (l : List Leg) : ErrN (checkL L l) := by
  unfold checkL
  split
  · unfold ErrN; omega
  · split
    · unfold ErrN; omega
    · exact all_errN _ _
theorem make_errN (L : List Ac) (l : List Leg) : ErrN (makeL L l).1 := by
  unfold makeL
  split
  · exact check_errN _ _
  · exact all_errN _ _
theorem free_errN (L : List Ac) (H : List Held) (k : ByteArray) (n : Int) : ErrN (freeHL L H k n).1 := by
  unfold freeHL
  split
  · unfold ErrN; dsimp only; omega
  · exact turn_errN (asi_errN _) _ _ _
theorem put_errN (L : List Ac) (H : List Held) (x : Held) : ErrN (putH L H x).1 := by
  unfold putH
  split
  · unfold ErrN; dsimp only; omega
  · split
    · unfold ErrN; dsimp only; omega
    · split
      · unfold ErrN; dsimp only; omega
      · exact turn_errN (asi_errN _) _ _ _
theorem take_errN (L : List Ac) (H : List Held) (k : ByteArray) (n : Int) (p : ByteArray) (s : Int) : ErrN (takeH L H k n p s).1 := by
  unfold takeH
  split
  · unfold ErrN; dsimp only; omega
  · split
    · unfold ErrN; dsimp only; omega
    · split
      · exact turn_errN (asi_errN _) _ _ _
      · split
        · exact check_errN _ _
        · exact make_errN _ _
theorem tells_errN (L : List Ac) (k : ByteArray) {e : Int} (h : ErrN e) : ErrN (tellsL L k e).err := by
  unfold tellsL
  split
  · exact h
  · split
    · exact getLR_errN _ _
    · unfold ErrN; dsimp only; omega
theorem do_errN (B : Bk) (x : Od) : ErrN (doL B x).1.err := by
  unfold doL
  split
  · unfold ErrN rpE; dsimp only; omega
  · unfold kindD
    split
    · exact tells_errN _ _ (open_errN _ _ _)
    · split
      · unfold postD
        split
        · unfold ErrN rpE; dsimp only; omega
        · exact make_errN _ _
      · split
        · unfold holdD
          dsimp only
          have := tells_errN (putH B.L B.H ⟨numO x, x.acct, x.sum⟩).2.1 x.acct (put_errN B.L B.H ⟨numO x, x.acct, x.sum⟩)
          unfold withN
          split
          · exact this
          · exact this
        · split
          · unfold capD
            split
            · unfold ErrN rpE; dsimp only; omega
            · exact tells_errN _ _ (take_errN _ _ _ _ _ _)
          · split
            · exact tells_errN _ _ (free_errN _ _ _ _)
            · split
              · unfold shutD
                split
                · unfold ErrN rpE; dsimp only; omega
                · unfold ErrN; dsimp only; omega
              · exact tells_errN _ _ (by unfold ErrN; omega)
theorem toldL_errN : ∀ (l : List Od) (B : Bk), ∀ r ∈ toldL B l, ErrN r.err
  | [], _ => fun _ h => by cases h
  | x :: l, B => fun r h => by
    rcases List.mem_cons.1 h with rfl | h
    · exact do_errN B x
    · exact toldL_errN l _ r h
/-- how many are told e -/
def cntE (R : List Rp) (e : Nat) : Int := (R.countP fun r => decide (r.err = (e : Int)) : Nat)
def errsL (R : List Rp) : List Int := (List.range 15).map (cntE R)
theorem errsL_len (R : List Rp) : (errsL R).length = 15 := by unfold errsL; rw [List.length_map, List.length_range]
theorem errsL_nil : errsL [] = List.replicate 15 0 := by decide
theorem errsL_perm {R S : List Rp} (h : R.Perm S) : errsL R = errsL S := by
  unfold errsL
  refine List.map_congr_left fun e _ => ?_
  unfold cntE
  rw [h.countP_eq]
theorem errsL_get (R : List Rp) {e : Nat} (he : e < 15) : (errsL R)[e]'(by rw [errsL_len]; exact he) = cntE R e := by
  unfold errsL
  rw [List.getElem_map, List.getElem_range]
/-- one more -/
theorem errsL_snoc (R : List Rp) (r : Rp) {e : Nat} (he : e < 15) (hr : r.err = (e : Int)) : errsL (R ++ [r]) = (errsL R).set e (cntE R e + 1) := by
  apply List.ext_getElem
  · rw [List.length_set, errsL_len, errsL_len]
  · intro j h1 h2
    rw [errsL_len] at h1
    rw [List.getElem_set, errsL_get _ h1]
    have h3 : cntE (R ++ [r]) j = cntE R j + if e = j then 1 else 0 := by
      unfold cntE
      rw [List.countP_append, List.countP_cons, List.countP_nil, hr]
      by_cases h : e = j
      · subst h; simp
      · rw [if_neg h, if_neg (by simpa using fun q => h (by omega))]; simp
    rw [h3]
    by_cases h : e = j
    · subst h; rw [if_pos rfl, if_pos rfl]
    · rw [if_neg h, if_neg h, errsL_get _ h1, Int.add_zero]
theorem cntE_range (R : List Rp) (e : Nat) : 0 ≤ cntE R e ∧ cntE R e ≤ R.length := by
  unfold cntE
  have := List.countP_le_length (p := fun r : Rp => decide (r.err = (e : Int))) (l := R)
  omega
/-- all errors together are all orders -/
theorem errsL_sum : ∀ R : List Rp, (∀ r ∈ R, ErrN r.err) → sumL (errsL R) = (R.length : Int)
  | [], _ => by rw [errsL_nil]; rfl
  | r :: R, h => by
    have ih := errsL_sum R fun s hs => h s (List.mem_cons_of_mem _ hs)
    have hr := h r (List.mem_cons_self ..)
    have hp : (r :: R).Perm (R ++ [r]) := by simpa using List.perm_append_comm (l₁ := [r]) (l₂ := R)
    rw [errsL_perm hp]
    obtain ⟨e, he⟩ : ∃ e : Nat, r.err = (e : Int) := ⟨r.err.toNat, by have := hr.1; omega⟩
    have he15 : e < 15 := by have := hr.2; omega
    rw [errsL_snoc R r he15 he]
    have : ∀ (l : List Int) (e : Nat) (h : e < l.length), sumL (l.set e (l[e] + 1)) = sumL l + 1 := fun l => by
      induction l with
      | nil => intro e h; simp at h
      | cons a l ih =>
        intro e h
        cases e with
        | zero => simp only [List.set_cons_zero, List.getElem_cons_zero, sumL]; omega
        | succ e => simp only [List.set_cons_succ, List.getElem_cons_succ, sumL]; rw [ih e (by simpa using h)]; omega
    have h2 := this (errsL R) e (by rw [errsL_len]; exact he15)
    rw [errsL_get _ he15] at h2
    rw [h2, ih, List.length_cons]
    omega
end Go.Proofs.YtgholbeehkfbiaaGreat
