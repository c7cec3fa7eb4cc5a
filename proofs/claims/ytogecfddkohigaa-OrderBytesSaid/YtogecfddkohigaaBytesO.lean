/- order.Bytes -/
import Derived.Test.YtogecfddkohigaaRows
import Derived.Test.YtogecfddkohigaaRightC
import Derived.Test.YtogecfddkohigaaText
import Derived.Deep.RegionHeld3
import Derived.WalkKit
import Derived.WalkSpells
import Derived.WalkLawsBesides
import Derived.Deep.QuietTactic
import Derived.BigQuiet
import Derived.Laws.StructEq
import Derived.Deep.DeepFit
import Derived.StillTailTactics
namespace Go.Proofs.Ytogecfddkohigaa
open Go.RowKit
def R64 (n : Int) : Prop := -9223372036854775808 ≤ n ∧ n ≤ 9223372036854775807
/-- all numbers are int64 -/
def InR (x : Od) : Prop := R64 x.client ∧ R64 x.seq ∧ R64 x.kind ∧ R64 x.sum ∧ R64 x.period ∧ R64 x.hold ∧ ∀ l ∈ x.legs, R64 l.sum
def legBs (l : Leg) : List UInt8 := textB l.acct ++ numB l.sum
def headBs (x : Od) : List UInt8 := numB x.client ++ numB x.seq ++ numB x.kind ++ textB x.acct ++ textB x.peer ++ numB x.sum ++ numB x.legs.length
/-- an order's bytes -/
def bytesB (x : Od) : List UInt8 := (headBs x ++ x.legs.flatMap legBs) ++ numB x.period ++ numB x.hold ++ textB x.note
theorem numB_le {n : Int} (h : R64 n) : (numB n).length ≤ 10 := uvarint_le (Lib.zigzag_lt h.1 h.2)
theorem textB_le {s : ByteArray} (h : s.size ≤ 100) : (textB s).length ≤ 110 := by
  unfold textB
  rw [List.length_append]
  have := numB_le (n := s.size) ⟨by omega, by omega⟩
  simp; omega
/-- what a right order's parts are like -/
structure Fine (x : Od) : Prop where
  acct : x.acct.size ≤ 100
  peer : x.peer.size ≤ 100
  note : x.note.size ≤ 100
  legs : x.legs.length ≤ 10
  each : ∀ l ∈ x.legs, l.acct.size ≤ 100
theorem nameB_size {s : ByteArray} (h : nameB s = true) : s.size ≤ 8 := by
  unfold nameB at h
  simp only [Bool.and_eq_true, decide_eq_true_eq] at h
  exact h.2.2
theorem legsB_fine {l : List Leg} (h : legsB l = true) : l.length ≤ 6 ∧ ∀ y ∈ l, nameB y.acct = true := by
  unfold legsB at h
  simp only [Bool.and_eq_true, decide_eq_true_eq, List.all_eq_true] at h
  exact ⟨h.2.2, fun y hy => by have := h.1.2 y hy; unfold legB at this; simp only [Bool.and_eq_true] at this; exact this.1⟩
theorem fine_of {x : Od} (h : rightB x = true) : Fine x := by
  unfold rightB at h
  simp only [Bool.and_eq_true] at h
  obtain ⟨hk, _, hs, hf⟩ := h
  by_cases h1 : x.kind = 1
  · have e1 : bareO x = bare1 x := by unfold bareO; rw [if_pos h1]
    have e2 : fitsO x = fits1 x := by unfold fitsO; rw [if_pos h1]
    rw [e1] at hs
    rw [e2] at hf
    obtain ⟨ea, ep, en, -, -, -, -, -, el⟩ := of_decide_eq_true hs
    simp only [fits1, Bool.and_eq_true, decide_eq_true_eq] at hf
    exact ⟨Nat.le_trans (nameB_size (hf.1)) (by decide), by rw [show x.peer = ⟨#[]⟩ from ep]; decide, by rw [show x.note = ⟨#[]⟩ from en]; decide, by rw [show x.legs = [] from el]; decide, fun l hl => by rw [show x.legs = [] from el] at hl; simp at hl⟩
  by_cases h2 : x.kind = 2
  · have e1 : bareO x = bare2 x := by unfold bareO; rw [if_neg h1, if_pos h2]
    have e2 : fitsO x = fits2 x := by unfold fitsO; rw [if_neg h1, if_pos h2]
    rw [e1] at hs
    rw [e2] at hf
    obtain ⟨ea, ep, en, -, -, -, -, -, el⟩ := of_decide_eq_true hs
    simp only [fits2, Bool.and_eq_true, decide_eq_true_eq] at hf
    exact ⟨by rw [show x.acct = ⟨#[]⟩ from ea]; decide, by rw [show x.peer = ⟨#[]⟩ from ep]; decide, by have := hf.2; omega, Nat.le_trans (legsB_fine hf.1.1).1 (by decide), fun l hl => Nat.le_trans (nameB_size ((legsB_fine hf.1.1).2 l hl)) (by decide)⟩
  by_cases h3 : x.kind = 3
  · have e1 : bareO x = bare3 x := by unfold bareO; rw [if_neg h1, if_neg h2, if_pos h3]
    have e2 : fitsO x = fits3 x := by unfold fitsO; rw [if_neg h1, if_neg h2, if_pos h3]
    rw [e1] at hs
    rw [e2] at hf
    obtain ⟨ea, ep, en, -, -, -, -, -, el⟩ := of_decide_eq_true hs
    simp only [fits3, Bool.and_eq_true, decide_eq_true_eq] at hf
    exact ⟨Nat.le_trans (nameB_size (hf.1)) (by decide), by rw [show x.peer = ⟨#[]⟩ from ep]; decide, by rw [show x.note = ⟨#[]⟩ from en]; decide, by rw [show x.legs = [] from el]; decide, fun l hl => by rw [show x.legs = [] from el] at hl; simp at hl⟩
  by_cases h4 : x.kind = 4
  · have e1 : bareO x = bare4 x := by unfold bareO; rw [if_neg h1, if_neg h2, if_neg h3, if_pos h4]
    have e2 : fitsO x = fits4 x := by unfold fitsO; rw [if_neg h1, if_neg h2, if_neg h3, if_pos h4]
    rw [e1] at hs
    rw [e2] at hf
    obtain ⟨ea, ep, en, -, -, -, -, -, el⟩ := of_decide_eq_true hs
    simp only [fits4, Bool.and_eq_true, decide_eq_true_eq] at hf
    exact ⟨Nat.le_trans (nameB_size (hf.1.1.1.1.1)) (by decide), Nat.le_trans (nameB_size (hf.1.1.1.1.2)) (by decide), by rw [show x.note = ⟨#[]⟩ from en]; decide, by rw [show x.legs = [] from el]; decide, fun l hl => by rw [show x.legs = [] from el] at hl; simp at hl⟩
  by_cases h5 : x.kind = 5
  · have e1 : bareO x = bare5 x := by unfold bareO; rw [if_neg h1, if_neg h2, if_neg h3, if_neg h4, if_pos h5]
    have e2 : fitsO x = fits5 x := by unfold fitsO; rw [if_neg h1, if_neg h2, if_neg h3, if_neg h4, if_pos h5]
    rw [e1] at hs
    rw [e2] at hf
    obtain ⟨ea, ep, en, -, -, -, -, -, el⟩ := of_decide_eq_true hs
    simp only [fits5, Bool.and_eq_true] at hf
    exact ⟨Nat.le_trans (nameB_size (hf.1)) (by decide), by rw [show x.peer = ⟨#[]⟩ from ep]; decide, by rw [show x.note = ⟨#[]⟩ from en]; decide, by rw [show x.legs = [] from el]; decide, fun l hl => by rw [show x.legs = [] from el] at hl; simp at hl⟩
  by_cases h6 : x.kind = 6
  · have e1 : bareO x = bare6 x := by unfold bareO; rw [if_neg h1, if_neg h2, if_neg h3, if_neg h4, if_neg h5, if_pos h6]
    have e2 : fitsO x = fits6 x := by unfold fitsO; rw [if_neg h1, if_neg h2, if_neg h3, if_neg h4, if_neg h5, if_pos h6]
    rw [e1] at hs
    rw [e2] at hf
    obtain ⟨ea, ep, en, -, -, -, -, -, el⟩ := of_decide_eq_true hs
    exact ⟨by rw [show x.acct = ⟨#[]⟩ from ea]; decide, by rw [show x.peer = ⟨#[]⟩ from ep]; decide, by rw [show x.note = ⟨#[]⟩ from en]; decide, by rw [show x.legs = [] from el]; decide, fun l hl => by rw [show x.legs = [] from el] at hl; simp at hl⟩
  by_cases h7 : x.kind = 7
  · have e1 : bareO x = bare7 x := by unfold bareO; rw [if_neg h1, if_neg h2, if_neg h3, if_neg h4, if_neg h5, if_neg h6]
    have e2 : fitsO x = nameB x.acct := by unfold fitsO; rw [if_neg h1, if_neg h2, if_neg h3, if_neg h4, if_neg h5, if_neg h6]
    rw [e1] at hs
    rw [e2] at hf
    obtain ⟨ea, ep, en, -, -, -, -, -, el⟩ := of_decide_eq_true hs
    exact ⟨Nat.le_trans (nameB_size (hf)) (by decide), by rw [show x.peer = ⟨#[]⟩ from ep]; decide, by rw [show x.note = ⟨#[]⟩ from en]; decide, by rw [show x.legs = [] from el]; decide, fun l hl => by rw [show x.legs = [] from el] at hl; simp at hl⟩
  have := of_decide_eq_true hk
  omega
theorem flat_step {l : List Leg} {k : Nat} (hk : k < l.length) : (l.take (k + 1)).flatMap legBs = (l.take k).flatMap legBs ++ legBs l[k] := by
  rw [List.take_succ_eq_append_getElem hk, List.flatMap_append]; simp
theorem legs_le {x : Od} (he : ∀ l ∈ x.legs, l.acct.size ≤ 100) (k : Nat) (hr : ∀ l ∈ x.legs, R64 l.sum) (hn : x.legs.length ≤ 10) : ((x.legs.take k).flatMap legBs).length ≤ 1200 := by
  have h : ∀ l : List Leg, (∀ y ∈ l, (legBs y).length ≤ 120) → (l.flatMap legBs).length ≤ l.length * 120 := by
    intro l hl
    induction l with
    | nil => simp
    | cons y r ih =>
      rw [List.flatMap_cons, List.length_append, List.length_cons]
      have h1 := hl y (by simp)
      have h2 := ih fun z hz => hl z (by simp [hz])
      omega
  have h1 := h (x.legs.take k) fun y hy => by
    have hm := List.mem_of_mem_take hy
    unfold legBs
    rw [List.length_append]
    have := textB_le (he y hm)
    have := numB_le (hr y hm)
    omega
  have h2 := List.length_take_le k x.legs
  have h3 : (x.legs.take k).length ≤ 10 := by rw [List.length_take]; omega
  omega
theorem rightB_la (x : Od) (a : Option Addr) (c : Nat) : rightB { x with la := a, lc := c } = rightB x := by
  have key : ∀ B B' : Od, B.core = B'.core → sameB { x with la := a, lc := c } (dress { x with la := a, lc := c } B) = sameB x (dress x B') := fun B B' e => by
    rw [Bool.eq_iff_iff, sameB_core, sameB_core]
    have e2 : (dress { x with la := a, lc := c } B).core = (dress x B').core := by
      have := congrArg (fun z : Od => ({ z with client := x.client, seq := x.seq, kind := x.kind } : Od)) e
      exact this
    rw [e2]
    exact Iff.rfl
  unfold rightB
  have e : (bareO { x with la := a, lc := c }).core = (bareO x).core := by
    unfold bareO
    by_cases h1 : x.kind = 1
    · rw [if_pos h1, if_pos h1] <;> rfl
    rw [if_neg h1, if_neg h1]
    by_cases h2 : x.kind = 2
    · rw [if_pos h2, if_pos h2] <;> rfl
    rw [if_neg h2, if_neg h2]
  rw [key _ _ e] <;> rfl
end Go.Proofs.Ytogecfddkohigaa
