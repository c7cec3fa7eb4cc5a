/- law09: ask -/
import Derived.Test.YtampniiehgimhaaGreatRows
import Derived.Test.YtampniiehgimhaaGreatBs12
import Derived.Test.YtampniiehgimhaaGreatBs11
import Derived.Test.YtampniiehgimhaaGreatBs21
import Derived.WalkKit
import Derived.WalkSpells
import Derived.WalkLawsBesides
import Derived.Deep.QuietTactic
import Derived.BigQuiet
import Derived.Laws.StructEq
import Derived.Deep.DeepFit
import Derived.StillTailTactics

namespace Go.Proofs.YtampniiehgimhaaGreat
open Go.RowKit
def askK (seq kind : Int) (acct : ByteArray) (sum : Int) : Od := ⟨0, seq, kind, acct, ⟨#[]⟩, sum, none, 0, [], 0, 0, ⟨#[]⟩⟩
theorem askK_ok (seq kind : Int) (acct : ByteArray) (sum : Int) (h : acct.size ≤ maxLen) (w : World) (S : Nat → Prop) : Od.Ok w S (askK seq kind acct sum) := ⟨h, Nat.zero_le _, Nat.zero_le _, SlS.nil_ _ _⟩
theorem askK_odB {seq kind sum : Int} {acct : ByteArray} (h : acct.size ≤ maxLen) (h1 : R64 seq) (h2 : R64 kind) (h3 : R64 sum) : OdB (askK seq kind acct sum) := ⟨h, Nat.zero_le _, R64_0, h1, h2, h3, R64_0, R64_0, fun _ h => by cases h⟩
end Go.Proofs.YtampniiehgimhaaGreat
