/- Small things -/
import Derived.Test.YtogecfddkohigaaRows
import Derived.Test.YtogecfddkohigaaAppend
import Derived.WalkKit
import Derived.WalkSpells
import Derived.WalkLawsBesides
import Derived.Deep.QuietTactic
import Derived.BigQuiet
import Derived.Laws.StructEq
import Derived.Deep.DeepFit
import Derived.StillTailTactics
namespace Go.Proofs.Ytogecfddkohigaa
open Go.RowKit
theorem below_on {n : Nat} {a b c : World} (h : Below n a b) (hn : n ≤ a.heap.size) (k : Below b.heap.size b c) : Below n a c := h.trans (k.mono (Nat.le_trans hn h.size))
theorem Own.sl_of {α : Type} [Enc α] {w : World} {base : Nat} {e : TypeId} {A : Option Addr} {n c : Nat} {l : List α} (h : Own w base e (.slice A n c) l) : Sl w w.heap.size A c l := by
  obtain ⟨A', c', hv, hs⟩ := h.sl
  injection hv with h1 h2 h3
  subst h1 h3
  exact hs
end Go.Proofs.Ytogecfddkohigaa
