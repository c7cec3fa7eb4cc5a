/- what order.Read reads -/
import Derived.Test.YtogecfddkohigaaRows
import Derived.Test.YtogecfddkohigaaBytesO
import Derived.Test.YtogecfddkohigaaRdrB
import Derived.WalkKit
import Derived.WalkSpells
import Derived.WalkLawsBesides
import Derived.Deep.QuietTactic
import Derived.BigQuiet
import Derived.Laws.StructEq
import Derived.Deep.DeepFit
import Derived.StillTailTactics
namespace Go.Proofs.Ytogecfddkohigaa
open Go.RowKit
/-- a reader's state: its error, what is left -/
abbrev St := Int × List UInt8
abbrev smR (most : Int) (s : St) : (Int × Int) × St := rangeRd 0 most s.1 s.2
abbrev txR (most : Int) (s : St) : (ByteArray × Int) × St := textRd most s.1 s.2
abbrev nuR (s : St) : (Int × Int) × St := numRd s.1 s.2
def legsR : Nat → St → List Leg × St
  | 0, s => ([], s)
  | n + 1, s => ((⟨(txR 8 s).1.1, (nuR (txR 8 s).2).1.1⟩ : Leg) :: (legsR n (nuR (txR 8 s).2).2).1, (legsR n (nuR (txR 8 s).2).2).2)
def s1 (l : List UInt8) : St := (smR 9 (0, l)).2
def s2 (l : List UInt8) : St := (smR 999 (s1 l)).2
def s3 (l : List UInt8) : St := (smR 7 (s2 l)).2
def s4 (l : List UInt8) : St := (txR 8 (s3 l)).2
def s5 (l : List UInt8) : St := (txR 8 (s4 l)).2
def s6 (l : List UInt8) : St := (nuR (s5 l)).2
def s7 (l : List UInt8) : St := (smR 6 (s6 l)).2
def nLegs (l : List UInt8) : Nat := (smR 6 (s6 l)).1.1.toNat
def s8 (l : List UInt8) : St := (legsR (nLegs l) (s7 l)).2
def s9 (l : List UInt8) : St := (smR 1000 (s8 l)).2
def s10 (l : List UInt8) : St := (smR 9999 (s9 l)).2
def s11 (l : List UInt8) : St := (txR 20 (s10 l)).2
/-- the order that is read, whether it may be or not -/
def rawO (l : List UInt8) : Od := ⟨(smR 9 (0, l)).1.1, (smR 999 (s1 l)).1.1, (smR 7 (s2 l)).1.1, (txR 8 (s3 l)).1.1, (txR 8 (s4 l)).1.1, (nuR (s5 l)).1.1, none, 0, (legsR (nLegs l) (s7 l)).1, (smR 1000 (s8 l)).1.1, (smR 9999 (s9 l)).1.1, (txR 20 (s10 l)).1.1⟩
def readOk (l : List UInt8) : Bool := decide ((doneRd (s11 l).1 (s11 l).2).1 = 0) && rightB (rawO l)
/-- the error that order.Read tells -/
def readE (l : List UInt8) : Int := if readOk l then 0 else 3
/-- order.Read -/
def readO (l : List UInt8) : Od := if readOk l then rawO l else od0
theorem smR_len (m : Int) (s : St) : (smR m s).2.2.length ≤ s.2.length := (rangeRd_left 0 m s.1 s.2).1
theorem txR_len (m : Int) (s : St) : (txR m s).2.2.length ≤ s.2.length := (textRd_left m s.1 s.2).1
theorem txR_size (m : Int) (s : St) : (txR m s).1.1.size ≤ s.2.length := (textRd_left m s.1 s.2).2.2
theorem nuR_len (s : St) : (nuR s).2.2.length ≤ s.2.length := (numRd_left s.1 s.2).1
/-- a number of some is one of them, or nought -/
theorem smR_in {m : Int} (h0 : 0 ≤ m) (s : St) : 0 ≤ (smR m s).1.1 ∧ (smR m s).1.1 ≤ m := by
  by_cases h : (rangeRd 0 m s.1 s.2).1.2 = 0
  · exact rangeRd_in h
  · unfold smR rangeRd at *
    split
    · exact ⟨by simp, h0⟩
    · split
      · exact ⟨by simp, h0⟩
      · rename_i h1 h2
        rw [if_neg h1, if_neg h2] at h
        exact absurd rfl h
theorem legsR_len : ∀ (n : Nat) (s : St), (legsR n s).2.2.length ≤ s.2.length ∧ (legsR n s).1.length = n ∧ ∀ y ∈ (legsR n s).1, y.acct.size ≤ s.2.length
  | 0, s => ⟨Nat.le_refl _, rfl, by simp [legsR]⟩
  | n + 1, s => by
    obtain ⟨h1, h2, h3⟩ := legsR_len n (nuR (txR 8 s).2).2
    have a := txR_len 8 s
    have b := nuR_len (txR 8 s).2
    refine ⟨by simp only [legsR]; omega, by simp only [legsR, List.length_cons, h2], fun y hy => ?_⟩
    simp only [legsR, List.mem_cons] at hy
    rcases hy with rfl | hy
    · exact txR_size 8 s
    · have := h3 y hy; omega
theorem legsR_step {n k : Nat} {s0 S : St} {L : List Leg} {a1 : (ByteArray × Int) × St} {a2 : (Int × Int) × St} (hk : k < n) (h : legsR n s0 = (L ++ (legsR (n - k) S).1, (legsR (n - k) S).2)) (h1 : textRd 8 S.1 S.2 = a1) (h2 : numRd a1.2.1 a1.2.2 = a2) :
    legsR n s0 = ((L ++ [(⟨a1.1.1, a2.1.1⟩ : Leg)]) ++ (legsR (n - (k + 1)) a2.2).1, (legsR (n - (k + 1)) a2.2).2) := by
  rw [h, show n - k = (n - (k + 1)) + 1 from by omega]
  simp only [legsR, txR, nuR, h1, h2, List.append_assoc, List.singleton_append]
end Go.Proofs.Ytogecfddkohigaa
