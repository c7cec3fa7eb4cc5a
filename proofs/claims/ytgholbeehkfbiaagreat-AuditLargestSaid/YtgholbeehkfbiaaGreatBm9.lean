/- Texts of this claim, laid together: OpenB, ShutB. -/
import Derived.Test.YtgholbeehkfbiaaGreatRows
import Derived.Test.YtgholbeehkfbiaaGreatBm1
import Derived.Deep.Slices
import Derived.ProofKit
import Derived.OpenShut
import Derived.ChangeOld
import Derived.WalkKit
import Derived.WalkSpells
import Derived.WalkLawsBesides
import Derived.Deep.QuietTactic
import Derived.BigQuiet
import Derived.Laws.StructEq
import Derived.Deep.DeepFit
import Derived.StillTailTactics
import Derived.ShutString
import Derived.Below

/- Arguments as data: an int, a text, a slice, as the statement reads them -/
namespace Go.Proofs.YtgholbeehkfbiaaGreat
open Go.RowKit
open Go.ChangeShapes Go.WideShapes Go.Deep
/-- whatever reads as a datum of type t is one of α's -/
def Reads (α : Type) [Enc α] (P : Program) (t : TypeId) : Prop :=
  ∀ (H : Type) (enc : TypeId × Value → H) (w : World) (base : Nat) (spare : Nat → Bool) (held : Bool) (fuel : Nat) (cs : List Value) (x : DataW H × List MemPlace), DataW.trod enc P w base spare held fuel t cs = some x → ∃ a : α, cs = Enc.cells a ∧ Okb w w.heap.size a
set_option maxRecDepth 100000 in
set_option maxHeartbeats 1000000 in
theorem list_choose {α : Type} {Q : Nat → α → Prop} : ∀ n, (∀ i, i < n → ∃ y, Q i y) → ∃ l : List α, l.length = n ∧ ∀ i (h : i < l.length), Q i l[i]
  | 0, _ => ⟨[], rfl, fun i h => absurd h (by simp)⟩
  | n + 1, h => by
    obtain ⟨l, hl, hq⟩ := list_choose n (fun i hi => h i (by omega))
    obtain ⟨y, hy⟩ := h n (by omega)
    refine ⟨l ++ [y], by simp [hl], fun i hi => ?_⟩
    rw [List.getElem_append]
    by_cases h1 : i < l.length
    · rw [dif_pos h1]; exact hq i h1
    · have : i = n := by simp only [List.length_append, List.length_singleton] at hi; omega
      subst this
      rw [dif_neg h1]
      simpa [hl] using hy
set_option maxRecDepth 100000 in
set_option maxHeartbeats 1000000 in
theorem add_none (b o n : Nat) : (⟨b, o, none⟩ : Addr).add n = ⟨b, o + n, none⟩ := by
  unfold Addr.add
  split
  · rename_i h
    subst h
    rfl
  · rfl
set_option maxRecDepth 100000 in
set_option maxHeartbeats 1000000 in
theorem add_zero_ (a : Addr) : a.add 0 = a := by unfold Addr.add; rw [if_pos rfl]
section
variable {α : Type} [Enc α] {P : Program}
set_option maxRecDepth 100000 in
set_option maxHeartbeats 1000000 in
theorem reads_slice {t e : TypeId} (ht : P.underlying t = some (.slice e)) (hC : P.cellsOf e = Enc.size α) (hsz : 0 < Enc.size α) (hr : Reads α P e) {H : Type} {enc : TypeId × Value → H} {w : World} {base : Nat} {spare : Nat → Bool} {held : Bool} {fuel : Nat} {cs : List Value} {x : DataW H × List MemPlace}
    (h : DataW.trod enc P w base spare held fuel t cs = some x) : ∃ A c, ∃ l : List α, cs = [.slice A l.length c] ∧ Sl w w.heap.size A c l := by
  rcases open_slice ht h with ⟨rfl, _⟩ | ⟨a, len, cap, m, n, D, Pl, rfl, hb, hl, hm, hmm, _, hi⟩
  · exact ⟨none, 0, [], rfl, SlS.nil_ _ _⟩
  · have hlm : len ≤ m := by rw [hmm]; split <;> omega
    obtain ⟨l, hll, hq⟩ := list_choose (Q := fun i (y : α) => (∀ j, j < Enc.size α → w.cell? ((a.add (i * Enc.size α)).add j) = (Enc.cells y)[j]?) ∧ Okb w w.heap.size y) len (fun i hil => by
      obtain ⟨cs', hc, ht'⟩ := hi i (by omega)
      rw [hC] at hc
      obtain ⟨y, rfl, hy⟩ := hr _ _ _ _ _ _ _ _ _ ht'
      exact ⟨y, (World.cells?_some hc).2.2, hy⟩)
    subst hll
    refine ⟨some a, cap, l, rfl, hl, hm, fun hn => ?_, fun y hy => ?_⟩
    · obtain ⟨b, o, s⟩ := a
      have hc := fun i (hi : i < l.length) j (hj : j < Enc.size α) => (hq i hi).1 j hj
      have h0 := hc 0 hn 0 hsz
      rw [List.getElem?_eq_getElem (by rw [Enc.len]; exact hsz)] at h0
      rw [Nat.zero_mul, add_zero_, add_zero_] at h0
      have hs : s = none := World.cell?_spot h0
      subst hs
      have hlt := World.block_lt_of_cell? w _ h0
      refine ⟨b, o, rfl, hlt, fun j u hu => ?_⟩
      have hj := (List.getElem?_eq_some_iff.1 hu).1
      rw [flat_len] at hj
      have hjk : j / Enc.size α < l.length := by rw [Nat.div_lt_iff_lt_mul hsz]; exact hj
      have hjm : j % Enc.size α < Enc.size α := Nat.mod_lt _ hsz
      have e1 : j / Enc.size α * Enc.size α + j % Enc.size α = j := by rw [Nat.mul_comm]; exact Nat.div_add_mod _ _
      have h1 := hc _ hjk _ hjm
      rw [← flat_get l _ _ hjk hjm, e1, hu] at h1
      rw [add_none, add_none, Nat.add_assoc, e1] at h1
      exact h1
    · obtain ⟨i, hi, rfl⟩ := List.getElem_of_mem hy
      exact (hq i hi).2
set_option maxRecDepth 100000 in
set_option maxHeartbeats 1000000 in
theorem reads_int {t : TypeId} (ht : P.underlying t = some (.int .i64)) : Reads Int P t := fun _ _ _ _ _ _ _ _ _ h => by
  obtain ⟨n, rfl, _, _⟩ := DataW.trod_int ht h
  exact ⟨n, rfl, trivial⟩
set_option maxRecDepth 100000 in
set_option maxHeartbeats 1000000 in
theorem reads_str {t : TypeId} (ht : P.underlying t = some .string) : Reads ByteArray P t := fun _ _ _ _ _ _ _ _ _ h => by
  obtain ⟨s, rfl, _, hs⟩ := DataW.trod_string ht h
  exact ⟨s, rfl, hs⟩
end
end Go.Proofs.YtgholbeehkfbiaaGreat

/- What the frames of the statements use -/
namespace Go.Proofs.YtgholbeehkfbiaaGreat
open Go.RowKit
open Go.ChangeShapes Go.WideShapes Go.Deep
set_option maxRecDepth 100000 in
set_option maxHeartbeats 1000000 in
theorem ownKnob_none : ownKnob Tryz.prog.godebug = none := by kernel_rfl
set_option maxRecDepth 100000 in
set_option maxHeartbeats 1000000 in
theorem laidOut : laidOutB Tryz.prog = true := by kernel_rfl
end Go.Proofs.YtgholbeehkfbiaaGreat
