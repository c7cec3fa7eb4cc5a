/- five names -/
import Derived.Test.YtdkkblhfjblpkaaGreatRows
import Derived.Test.YtdkkblhfjblpkaaGreatBk16
import Derived.Test.YtdkkblhfjblpkaaGreatBi4
import Derived.WalkKit
import Derived.WalkSpells
import Derived.WalkLawsBesides
import Derived.Deep.QuietTactic
import Derived.BigQuiet
import Derived.Laws.StructEq
import Derived.Deep.DeepFit
import Derived.StillTailTactics
namespace Go.Proofs.YtdkkblhfjblpkaaGreat
open Go.RowKit
abbrev tB : ByteArray := ⟨#[98]⟩
abbrev tC : ByteArray := ⟨#[99]⟩
abbrev tBank : ByteArray := ⟨#[98, 97, 110, 107]⟩
abbrev tTill : ByteArray := ⟨#[116, 105, 108, 108]⟩
def names5 : List ByteArray := [tA, tB, tC, tBank, tTill]
theorem names5_own (W : World) : Own (W.alloc (.cells #[.string tA, .string tB, .string tC, .string tBank, .string tTill] 9)) W.heap.size 9 (.slice (some ⟨W.heap.size, 0, none⟩) 5 5) names5 :=
  own_lit (w := W) (base := W.heap.size) 9 #[.string tA, .string tB, .string tC, .string tBank, .string tTill] names5 (Nat.le_refl _) rfl (by decide) (fun x hx => by
    simp only [names5, List.mem_cons, List.not_mem_nil, or_false] at hx
    rcases hx with rfl | rfl | rfl | rfl | rfl
    · show 1 ≤ maxLen; decide
    · show 1 ≤ maxLen; decide
    · show 1 ≤ maxLen; decide
    · show 4 ≤ maxLen; decide
    · show 4 ≤ maxLen; decide)
theorem str_at {w : World} {S : Nat → Prop} {c : Nat} {A : Option Addr} {l : List ByteArray} (h : SlS w S A c l) {k : Nat} (hk : k < l.length) : ∃ b o, A = some ⟨b, o, none⟩ ∧ S b ∧ l[k].size ≤ maxLen ∧ w.cell? ⟨b, o + k, none⟩ = some (.string l[k]) := by
  obtain ⟨b, o, hA, hb, hok, hc⟩ := h.at_ hk
  refine ⟨b, o, hA, hb, hok, ?_⟩
  have := hc 0 _ rfl
  rwa [show o + (k * Enc.size ByteArray + 0) = o + k by show o + (k * 1 + 0) = o + k; omega] at this
theorem ev_mix {B : Bk} (hI : InvB B) {l m : List Od} (h : Mix l m) (hl : ∀ z ∈ l, OdB z) (k : ByteArray) : evL B l k = evL B m k := by
  induction h with
  | refl => rfl
  | step hm hn ih => exact ih.trans (ev_swap hI (fun z hz => hl z (hm.perm.mem_iff.2 hz)) hn k)
end Go.Proofs.YtdkkblhfjblpkaaGreat
