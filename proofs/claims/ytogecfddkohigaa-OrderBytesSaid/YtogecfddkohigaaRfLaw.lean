/- what the reference's Num reads is what pack.Reader.Num reads -/
import Derived.Test.YtogecfddkohigaaRows
import Derived.Test.YtogecfddkohigaaCodec
import Derived.WalkKit
import Derived.WalkSpells
import Derived.WalkLawsBesides
import Derived.Deep.QuietTactic
import Derived.BigQuiet
import Derived.Laws.StructEq
import Derived.Deep.DeepFit
import Derived.StillTailTactics
namespace Go.Proofs.Ytogecfddkohigaa
open Go.RowKit
/-- what a number's bytes spell, seven bits each -/
def val7 : List UInt8 → Nat
  | [] => 0
  | b :: t => b.toNat % 128 + 128 * val7 t
theorem uvR_torn : ∀ (l : List UInt8) (i acc : Nat), i + l.length ≤ 10 → (∀ b ∈ l, 128 ≤ b.toNat) → uvR i acc l = .error 4
  | [], _, _, _, _ => by simp [uvR]
  | b :: t, i, acc, hl, h => by
    have hb := h b (by simp)
    simp only [List.length_cons] at hl
    rw [uvR]
    by_cases hi : i = 10 ∨ (i = 9 ∧ 1 < b.toNat)
    · rw [if_pos hi]
      have ht : t = [] := List.length_eq_zero_iff.1 (by omega)
      rw [if_pos ⟨ht, hb, by omega⟩]
    · rw [if_neg hi, if_neg (by omega), if_neg (by omega)]
      exact uvR_torn t (i + 1) _ (by omega) fun c hc => h c (by simp [hc])
theorem uvR_over : ∀ (l : List UInt8) (i acc : Nat), i ≤ 9 → 10 < i + l.length → (∀ (j : Nat) (hj : j < l.length), j < 10 - i → 128 ≤ l[j].toNat) → uvR i acc l = .error 3
  | [], _, _, h, hl, _ => absurd hl (by simp; omega)
  | b :: t, i, acc, h9, hl, h => by
    have hb : 128 ≤ b.toNat := h 0 (by simp) (by omega)
    simp only [List.length_cons] at hl
    rw [uvR]
    by_cases hi : i = 10 ∨ (i = 9 ∧ 1 < b.toNat)
    · rw [if_pos hi, if_neg]
      rintro ⟨ht, _⟩
      rw [ht] at hl
      simp at hl
      omega
    · rw [if_neg hi, if_neg (by omega), if_neg (by omega)]
      exact uvR_over t (i + 1) _ (by omega) (by omega) fun j hj hk => h (j + 1) (by simp; omega) (by omega)
theorem uvR_ended : ∀ (l : List UInt8) (i acc n : Nat) (hn : n < l.length), i + n ≤ 9 → (∀ (j : Nat) (hj : j < n), 128 ≤ l[j].toNat) → l[n].toNat < 128 → ∀ {e : Int}, uvR i acc l = .error e → e = 3
  | [], _, _, _, hn, _, _, _, _, _ => absurd hn (by simp)
  | b :: t, i, acc, 0, hn, hi, _, hb, e, he => by
    have hb : b.toNat < 128 := hb
    rw [uvR] at he
    by_cases h1 : i = 10 ∨ (i = 9 ∧ 1 < b.toNat)
    · rw [if_pos h1, if_neg (by omega)] at he
      simp only [Except.error.injEq] at he
      exact he.symm
    · rw [if_neg h1] at he
      by_cases h2 : b.toNat = 0 ∧ 0 < i
      · rw [if_pos h2] at he
        simp only [Except.error.injEq] at he
        exact he.symm
      · rw [if_neg h2, if_pos hb] at he
        simp at he
  | b :: t, i, acc, n + 1, hn, hi, h, hb, e, he => by
    have h0 : 128 ≤ b.toNat := h 0 (by omega)
    simp only [List.length_cons] at hn
    rw [uvR, if_neg (by omega), if_neg (by omega), if_neg (by omega)] at he
    exact uvR_ended t (i + 1) _ n (by omega) (by omega) (fun j hj => h (j + 1) (by omega)) hb he
theorem uvarint_ends (f : Nat) : ∀ m < f, (∀ (j : Nat) (hj : j + 1 < (Lib.uvarint m).length), 128 ≤ (Lib.uvarint m)[j].toNat) ∧ ∃ h : 0 < (Lib.uvarint m).length, ((Lib.uvarint m)[(Lib.uvarint m).length - 1]'(by omega)).toNat < 128 := by
  induction f with
  | zero => intro m h; omega
  | succ f ih =>
    intro m hm
    by_cases hs : m < 128
    · have e := Lib.uvarint_small hs
      have hb : (m.toUInt8).toNat = m := Lib.toUInt8_toNat (by omega)
      refine ⟨fun j hj => ?_, ?_⟩
      · rw [e] at hj; simp at hj
      · refine ⟨by rw [e]; simp, ?_⟩
        simp only [e, List.length_singleton, Nat.sub_self, List.getElem_cons_zero, hb]
        exact hs
    · have e := Lib.uvarint_big (x := m) (by omega)
      obtain ⟨a, h0, b⟩ := ih (m / 128) (by omega)
      have hb : ((m % 128 + 128).toUInt8).toNat = m % 128 + 128 := Lib.toUInt8_toNat (by omega)
      refine ⟨fun j hj => ?_, ?_⟩
      · simp only [e, List.length_cons] at hj ⊢
        cases j with
        | zero => simp only [List.getElem_cons_zero, hb]; omega
        | succ j => simp only [List.getElem_cons_succ]; exact a j (by omega)
      · refine ⟨by rw [e]; simp, ?_⟩
        simp only [e, List.length_cons, Nat.add_sub_cancel]
        have e2 : (Lib.uvarint (m / 128)).length = ((Lib.uvarint (m / 128)).length - 1) + 1 := by omega
        simp only [List.getElem_cons]
        rw [dif_neg (by omega)]
        exact b
theorem val7_uvarint (f : Nat) : ∀ m < f, val7 (Lib.uvarint m) = m := by
  induction f with
  | zero => intro m h; omega
  | succ f ih =>
    intro m hm
    by_cases hs : m < 128
    · rw [Lib.uvarint_small hs, val7, val7, Lib.toUInt8_toNat (by omega)]
      omega
    · rw [Lib.uvarint_big (by omega), val7, ih (m / 128) (by omega), Lib.toUInt8_toNat (by omega)]
      omega
/-- the reference's Num at bytes of which n go on and the next one ends -/
theorem rf_num {l : List UInt8} {n : Nat} (hn : n < l.length) (h9 : n < 10) (hc : ∀ (j : Nat) (hj : j < n), 128 ≤ l[j].toNat) (he : l[n].toNat < 128) :
    numRd 0 l = if numB (Lib.unzigzag (val7 (l.take (n + 1)) % 18446744073709551616)) = l.take (n + 1) then ((Lib.unzigzag (val7 (l.take (n + 1)) % 18446744073709551616), 0), (0, l.drop (n + 1))) else ((0, 3), (3, [])) := by
  have enc : ∀ m, numB (Lib.unzigzag m) = Lib.uvarint m := fun m => by unfold numB; rw [unzig_zig]
  rw [enc]
  generalize hm : val7 (l.take (n + 1)) % 18446744073709551616 = m
  have hm2 : m < 18446744073709551616 := by rw [← hm]; exact Nat.mod_lt _ (by decide)
  by_cases h : Lib.uvarint m = l.take (n + 1)
  · rw [if_pos h]
    have h1 := uvR_enc (m + 1) m 0 0 (l.drop (n + 1)) (Nat.lt_succ_self _) (by decide) hm2 (fun h => absurd h (by decide))
    rw [h, List.take_append_drop] at h1
    rw [numRd_ok h1]
    simp only [Nat.zero_add, Nat.mul_zero, Nat.pow_zero, Nat.mul_one]
  · rw [if_neg h]
    cases hu : uvR 0 0 l with
    | error e =>
      rw [numRd_bad hu, uvR_ended l 0 0 n hn (by omega) hc he hu]
    | ok p =>
      exfalso
      obtain ⟨M, t⟩ := p
      obtain ⟨k, hl, hM, hk, _⟩ := uvR_dec l 0 0 M t (by decide) hu
      have hk2 : k < 18446744073709551616 := hk
      obtain ⟨a, h0, b⟩ := uvarint_ends (k + 1) k (Nat.lt_succ_self _)
      have hlen : (Lib.uvarint k).length = n + 1 := by
        rcases Nat.lt_trichotomy (Lib.uvarint k).length (n + 1) with h1 | h1 | h1
        · exfalso
          have h2 := hc ((Lib.uvarint k).length - 1) (by omega)
          simp only [hl] at h2
          rw [List.getElem_append_left (by omega)] at h2
          omega
        · exact h1
        · exfalso
          have h2 := a n h1
          simp only [hl] at he
          rw [List.getElem_append_left (by omega)] at he
          omega
      have ht : l.take (n + 1) = Lib.uvarint k := by
        rw [hl, ← hlen, List.take_left']
        rfl
      rw [ht, val7_uvarint (k + 1) k (Nat.lt_succ_self _), Nat.mod_eq_of_lt hk2] at hm
      exact h (by rw [ht, hm])
theorem rf_torn {l : List UInt8} (hl : l.length ≤ 10) (h : ∀ b ∈ l, 128 ≤ b.toNat) : numRd 0 l = ((0, 4), (4, [])) := numRd_bad (uvR_torn l 0 0 (by omega) h)
theorem rf_over {l : List UInt8} (hl : 10 < l.length) (h : ∀ (j : Nat) (hj : j < l.length), j < 10 → 128 ≤ l[j].toNat) : numRd 0 l = ((0, 3), (3, [])) := numRd_bad (uvR_over l 0 0 (by omega) (by omega) fun j hj hk => h j hj (by omega))
theorem val7_app (a : List UInt8) (b : UInt8) : val7 (b :: a) = val7 a * 128 + b.toNat % 128 := by rw [val7]; omega
end Go.Proofs.Ytogecfddkohigaa
