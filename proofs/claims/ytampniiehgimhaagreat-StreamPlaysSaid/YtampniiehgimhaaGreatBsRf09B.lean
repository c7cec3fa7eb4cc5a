/- ref09: Fold, SameReplies -/
import Derived.Test.YtampniiehgimhaaGreatRows
import Derived.Test.YtampniiehgimhaaGreatBsRf09
import Derived.Test.YtampniiehgimhaaGreatBs11
import Derived.Test.YtampniiehgimhaaGreatBs12
import Derived.WalkKit
import Derived.WalkSpells
import Derived.WalkLawsBesides
import Derived.Deep.QuietTactic
import Derived.BigQuiet
import Derived.Laws.StructEq
import Derived.Deep.DeepFit
import Derived.StillTailTactics

namespace Go.Proofs.YtampniiehgimhaaGreat
open Go.RowKit
theorem Own.slW9 {α : Type} [Enc α] {w : World} {base : Nat} {e : TypeId} {v : Value} {l : List α} {S : Nat → Prop} (h : Own w base e v l) (hb : ∀ b, v.ownBlock = some b → S b) (hx : ∀ x ∈ l, Enc.ok w S x) : ∃ A c, v = .slice A l.length c ∧ SlS w S A c l := by
 obtain ⟨⟨h1, h2⟩, h3⟩ := h
 rcases h2 with ⟨rfl, h0⟩ | ⟨g, cap, cur, rfl, hg, hh, hn, hm, hz, ht⟩
 ·have : l = [] := List.length_eq_zero_iff.1 h0
  subst this
  exact ⟨none, 0, rfl, SlS.nil_ _ _⟩
 ·refine ⟨_, _, rfl, hn, hm, fun _ => ⟨g, 0, rfl, hb g rfl, fun j u hu => ?_⟩, hx⟩
  rw [cell_of_row w g (0 + j) cur e (0, 0) hh, Nat.zero_add]
  rw [← ht, List.getElem?_take] at hu
  split at hu
  ·rw [← hu]; simp
  ·cases hu
theorem RdIn.kept {w w' : World} {a : RA} {x : Od} (h : RdIn w a x) (hg : Gr w w' a.own) : RdIn w' a x :=
 ⟨Enc.keep (α := Od) h.1 (fun _ hp => World.cell?_of_block (hg.block _ hp.1 hp.2)) (fun _ hb => ⟨Nat.lt_of_lt_of_le hb.1 hg.size, hb.2⟩), h.2⟩
end Go.Proofs.YtampniiehgimhaaGreat
