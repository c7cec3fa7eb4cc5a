/- Rows of the call's own whose elements lie from a block on -/
import Derived.Test.YtdkkblhfjblpkaaGreatRows
import Derived.Test.YtdkkblhfjblpkaaGreatBi11
import Derived.Test.YtdkkblhfjblpkaaGreatBi17
import Derived.Test.YtdkkblhfjblpkaaGreatBi1
import Derived.WalkKit
import Derived.WalkSpells
import Derived.WalkLawsBesides
import Derived.Deep.QuietTactic
import Derived.BigQuiet
import Derived.Laws.StructEq
import Derived.Deep.DeepFit
import Derived.StillTailTactics
namespace Go.Proofs.YtdkkblhfjblpkaaGreat
open Go.RowKit
/-- a row of the call's own; what its elements point to lies from block B on, and in other blocks -/
structure OwnN {α : Type} [Enc α] (w : World) (B : Nat) (e : TypeId) (v : Value) (l : List α) : Prop where
  own : Own w B e v l
  hi : ∀ x ∈ l, Enc.ok w (fun b => B ≤ b ∧ b < w.heap.size ∧ some b ≠ v.ownBlock) x
section
variable {α : Type} [Enc α] {w w' : World} {B : Nat} {e : TypeId} {v : Value} {l : List α}
theorem OwnN.nil_ (w : World) (B : Nat) (e : TypeId) : OwnN w B e (.slice none 0 0) ([] : List α) := ⟨Own.nil_ _ _ _, by simp⟩
theorem OwnN.lt (h : OwnN w B e v l) : ∀ b, v.ownBlock = some b → B ≤ b ∧ b < w.heap.size := h.own.1.lt
/-- behind a change of one block below B -/
theorem OwnN.off {g : Nat} (h : OwnN w B e v l) (hg : w.grownBy w' (some g)) (hb : g < B) : OwnN w' B e v l := by
  have hk : ∀ p : Addr, (B ≤ p.block ∧ p.block < w.heap.size ∧ some p.block ≠ v.ownBlock) → w'.cell? p = w.cell? p := fun p hp => World.cell?_of_block (hg.block _ hp.2.1 (fun e => by injection e with e; omega))
  refine ⟨h.own.grown (row := some g) hg ?_ (fun x hx => Enc.keep (h.hi x hx) (fun _ _ => rfl) (fun b hb' => ⟨hb'.2.1, hb'.2.2, fun e => by injection e with e; omega⟩)), fun x hx => Enc.keep (h.hi x hx) hk (fun b hb' => ⟨hb'.1, Nat.lt_of_lt_of_le hb'.2.1 hg.size, hb'.2.2⟩)⟩
  cases hv : v.ownBlock with
  | none => exact .inl rfl
  | some b => exact .inr fun e => by injection e with e; have := (h.lt b hv).1; omega
theorem OwnN.later (h : OwnN w B e v l) (hb : Below w.heap.size w w') : OwnN w' B e v l :=
  ⟨h.own.later hb, fun x hx => Enc.keep (h.hi x hx) (fun p hp => hb.cell hp.2.1) (fun b hb' => ⟨hb'.1, Nat.lt_of_lt_of_le hb'.2.1 hb.size, hb'.2.2⟩)⟩
/-- behind an append -/
theorem OwnN.push {v' : Value} {x : α} (h : OwnN w B e v l) (hx : Enc.ok w (fun b => B ≤ b ∧ b < w.heap.size ∧ some b ≠ v.ownBlock) x) (ho : Own w' B e v' (l ++ [x])) (hg : w.grownBy w' v.ownBlock) (hat : v'.ownBlock = v.ownBlock ∨ v'.ownBlock = some w.heap.size) : OwnN w' B e v' (l ++ [x]) := by
  refine ⟨ho, fun y hy => ?_⟩
  have hy' : Enc.ok w (fun b => B ≤ b ∧ b < w.heap.size ∧ some b ≠ v.ownBlock) y := by
    rcases List.mem_append.1 hy with h1 | h1
    · exact h.hi y h1
    · rw [List.mem_singleton.1 h1]; exact hx
  refine Enc.keep hy' (fun p hp => World.cell?_of_block (hg.block _ hp.2.1 hp.2.2)) (fun b hb => ⟨hb.1, Nat.lt_of_lt_of_le hb.2.1 hg.size, ?_⟩)
  rcases hat with h2 | h2
  · rw [h2]; exact hb.2.2
  · rw [h2]; intro e; injection e with e; omega
theorem OwnN.oth (h : OwnN w B e v l) {x : α} (hx : Enc.ok w (fun b => B ≤ b ∧ b < w.heap.size ∧ some b ≠ v.ownBlock) x) : Enc.ok w (Oth w v) x := by
  have := h.own
  exact Enc.keep hx (fun _ _ => rfl) (fun b hb => ⟨hb.2.1, hb.2.2⟩)
/-- the row as an element of another row that lies below it -/
theorem OwnN.sv (h : OwnN w B e v l) {B2 : Nat} {u : Value} (hB : B2 ≤ B) (hu : ∀ b, u.ownBlock = some b → b < B) : ∃ A c, v = .slice A l.length c ∧ SlS w (fun b => B2 ≤ b ∧ b < w.heap.size ∧ some b ≠ u.ownBlock) A c l := by
  have hne : ∀ b, B ≤ b → some b ≠ u.ownBlock := fun b hb e => by have := hu b e.symm; omega
  refine h.own.sl_in (fun b hb => ?_) (fun x hx => Enc.keep (h.hi x hx) (fun _ _ => rfl) (fun b hb => ⟨by omega, hb.2.1, hne b hb.1⟩))
  have := h.lt b hb
  exact ⟨by omega, this.2, hne b this.1⟩
theorem OwnN.sl (h : OwnN w B e v l) : ∃ A c, v = .slice A l.length c ∧ Sl w w.heap.size A c l := h.own.sl
end
end Go.Proofs.YtdkkblhfjblpkaaGreat
