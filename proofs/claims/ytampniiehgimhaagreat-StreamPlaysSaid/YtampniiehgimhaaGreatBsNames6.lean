/- six names -/
import Derived.Test.YtampniiehgimhaaGreatRows
import Derived.Test.YtampniiehgimhaaGreatBs28
import Derived.WalkKit
import Derived.WalkSpells
import Derived.WalkLawsBesides
import Derived.Deep.QuietTactic
import Derived.BigQuiet
import Derived.Laws.StructEq
import Derived.Deep.DeepFit
import Derived.StillTailTactics

namespace Go.Proofs.YtampniiehgimhaaGreat
open Go.RowKit
abbrev tZz : ByteArray := ⟨#[122, 122]⟩
def names6 : List ByteArray := [tA, tB, tC, tBank, tTill, tZz]
theorem names6_own (W : World) : Own (W.alloc (.cells #[.string tA, .string tB, .string tC, .string tBank, .string tTill, .string tZz] 9)) W.heap.size 9 (.slice (some ⟨W.heap.size, 0, none⟩) 6 6) names6 :=
 own_lit (w := W) (base := W.heap.size) 9 #[.string tA, .string tB, .string tC, .string tBank, .string tTill, .string tZz] names6 (Nat.le_refl _) rfl (by decide) (fun x hx => by
  simp only [names6, List.mem_cons, List.not_mem_nil, or_false] at hx
  rcases hx with rfl | rfl | rfl | rfl | rfl | rfl
  ·show 1 ≤ maxLen; decide
  ·show 1 ≤ maxLen; decide
  ·show 1 ≤ maxLen; decide
  ·show 4 ≤ maxLen; decide
  ·show 4 ≤ maxLen; decide
  ·show 2 ≤ maxLen; decide)
end Go.Proofs.YtampniiehgimhaaGreat
