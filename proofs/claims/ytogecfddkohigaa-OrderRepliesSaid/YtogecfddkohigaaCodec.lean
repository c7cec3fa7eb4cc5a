/- numbers, texts, replies: what is written is read again, what is read was written -/
import Derived.Test.YtogecfddkohigaaRows
import Derived.Test.YtogecfddkohigaaTRead
import Derived.Test.YtogecfddkohigaaRNum
import Derived.WalkKit
import Derived.WalkSpells
import Derived.WalkLawsBesides
import Derived.Deep.QuietTactic
import Derived.BigQuiet
import Derived.Laws.StructEq
import Derived.Deep.DeepFit
import Derived.StillTailTactics
namespace Go.Proofs.Ytogecfddkohigaa
open Go.RowKit
theorem two_pow_step (i : Nat) (hi : i ≤ 8) : 2 ^ (64 - 7 * i) = 128 * 2 ^ (64 - 7 * (i + 1)) := by
  rw [show 64 - 7 * i = 7 + (64 - 7 * (i + 1)) from by omega, Nat.pow_add]
theorem seven_step (i : Nat) : 2 ^ (7 * (i + 1)) = 128 * 2 ^ (7 * i) := by
  rw [show 7 * (i + 1) = 7 + 7 * i from by omega, Nat.pow_add]
theorem uvR_enc : ∀ (f m i acc : Nat) (t : List UInt8), m < f → i ≤ 9 → m < 2 ^ (64 - 7 * i) → (0 < i → 0 < m) → uvR i acc (Lib.uvarint m ++ t) = .ok (acc + m * 2 ^ (7 * i), t)
  | 0, _, _, _, _, h, _, _, _ => absurd h (by omega)
  | f + 1, m, i, acc, t, hf, hi, hm, hp => by
    by_cases hs : m < 128
    · rw [Lib.uvarint_small hs, List.singleton_append, uvR]
      have hb : (m.toUInt8).toNat = m := Lib.toUInt8_toNat (by omega)
      rw [hb, if_neg (by
        rintro (h | ⟨h, h1⟩)
        · omega
        · subst h
          have : m < 2 ^ 1 := hm
          omega), if_neg (by rintro ⟨h, h1⟩; have := hp h1; omega), if_pos hs]
    · rw [Lib.uvarint_big (by omega), List.cons_append, uvR]
      have hb : ((m % 128 + 128).toUInt8).toNat = m % 128 + 128 := Lib.toUInt8_toNat (by omega)
      have hi8 : i ≤ 8 := by
        rcases Nat.lt_or_ge i 9 with h | h
        · omega
        · obtain rfl : i = 9 := by omega
          have : m < 2 ^ 1 := hm
          omega
      rw [two_pow_step i hi8] at hm
      rw [hb, if_neg (by omega), if_neg (by omega), if_neg (by omega), uvR_enc f (m / 128) (i + 1) _ t (by omega) (by omega) (Nat.div_lt_of_lt_mul hm) (fun _ => by omega)]
      congr 2
      rw [seven_step, show (m % 128 + 128) % 128 = m % 128 from by omega, Nat.add_assoc, Nat.mul_left_comm, ← Nat.mul_assoc, ← Nat.add_mul]
      congr 2
      omega
theorem uvR_dec : ∀ (l : List UInt8) (i acc M : Nat) (t : List UInt8), i ≤ 9 → uvR i acc l = .ok (M, t) → ∃ m, l = Lib.uvarint m ++ t ∧ M = acc + m * 2 ^ (7 * i) ∧ m < 2 ^ (64 - 7 * i) ∧ (0 < i → 0 < m)
  | [], _, _, _, _, _, h => by simp [uvR] at h
  | b :: r, i, acc, M, t, hi, h => by
    have hbl := b.toNat_lt
    rw [uvR] at h
    split at h
    · simp at h
    · rename_i h1
      split at h
      · simp at h
      · rename_i h2
        split at h
        · rename_i h3
          simp only [Except.ok.injEq, Prod.mk.injEq] at h
          obtain ⟨rfl, rfl⟩ := h
          refine ⟨b.toNat, ?_, rfl, ?_, fun hp => by omega⟩
          · rw [Lib.uvarint_small h3, List.singleton_append]
            congr 1
            simp
          · rcases Nat.lt_or_ge i 9 with h9 | h9
            · exact Nat.lt_of_lt_of_le h3 (Nat.pow_le_pow_right (n := 2) (by decide) (show 7 ≤ 64 - 7 * i by omega))
            · obtain rfl : i = 9 := by omega
              show b.toNat < 2
              omega
        · rename_i h3
          have hi8 : i ≤ 8 := by omega
          obtain ⟨m, rfl, rfl, hm, hp⟩ := uvR_dec r (i + 1) _ M t (by omega) h
          have hm0 := hp (Nat.succ_pos i)
          refine ⟨m * 128 + b.toNat % 128, ?_, ?_, ?_, fun _ => by omega⟩
          · rw [Lib.uvarint_big (show 128 ≤ m * 128 + b.toNat % 128 by omega), List.cons_append, show (m * 128 + b.toNat % 128) / 128 = m from by omega]
            congr 1
            rw [show (m * 128 + b.toNat % 128) % 128 + 128 = b.toNat from by omega]
            simp
          · rw [seven_step, Nat.add_mul, Nat.add_assoc, Nat.add_comm (b.toNat % 128 * 2 ^ (7 * i)), Nat.mul_assoc]
          · rw [two_pow_step i hi8]
            omega
theorem zig_unzig {n : Int} (h0 : -9223372036854775808 ≤ n) (h1 : n ≤ 9223372036854775807) : Lib.unzigzag (Lib.zigzag n) = n := by
  unfold Lib.unzigzag Lib.zigzag
  split <;> split <;> omega
theorem unzig_zig (m : Nat) : Lib.zigzag (Lib.unzigzag m) = m := by
  unfold Lib.unzigzag Lib.zigzag
  split <;> split <;> omega
theorem unzig_in {m : Nat} (h : m < 18446744073709551616) : -9223372036854775808 ≤ Lib.unzigzag m ∧ Lib.unzigzag m ≤ 9223372036854775807 := by
  unfold Lib.unzigzag
  split <;> omega
/-- what is written is read again -/
theorem numRd_enc {n : Int} (h0 : -9223372036854775808 ≤ n) (h1 : n ≤ 9223372036854775807) (t : List UInt8) : numRd 0 (numB n ++ t) = ((n, 0), (0, t)) := by
  have h := uvR_enc (Lib.zigzag n + 1) (Lib.zigzag n) 0 0 t (Nat.lt_succ_self _) (by decide) (by have := Lib.zigzag_lt h0 h1; exact this) (fun h => absurd h (by decide))
  rw [numRd_ok h]
  simp only [Nat.zero_add, Nat.mul_zero, Nat.pow_zero, Nat.mul_one, zig_unzig h0 h1]
theorem uvR_e : ∀ (l : List UInt8) (i acc : Nat) {e : Int}, uvR i acc l = .error e → e = 3 ∨ e = 4
  | [], _, _, _, h => by simp [uvR] at h; exact .inr h.symm
  | b :: r, i, acc, e, h => by
    rw [uvR] at h
    split at h
    · simp only [Except.error.injEq] at h
      split at h <;> omega
    · split at h
      · simp only [Except.error.injEq] at h; omega
      · split at h
        · simp at h
        · exact uvR_e r _ _ h
/-- what is read is written as just these bytes -/
theorem numRd_dec {l : List UInt8} (h : (numRd 0 l).1.2 = 0) : l = numB (numRd 0 l).1.1 ++ (numRd 0 l).2.2 ∧ -9223372036854775808 ≤ (numRd 0 l).1.1 ∧ (numRd 0 l).1.1 ≤ 9223372036854775807 := by
  cases hu : uvR 0 0 l with
  | error e =>
    rw [numRd_bad hu] at h
    have := uvR_e l 0 0 hu
    simp only at h
    omega
  | ok p =>
    obtain ⟨M, t⟩ := p
    rw [numRd_ok hu]
    obtain ⟨m, rfl, rfl, hm, _⟩ := uvR_dec l 0 0 M t (by decide) hu
    simp only [Nat.zero_add, Nat.mul_zero, Nat.pow_zero, Nat.mul_one]
    refine ⟨by unfold numB; rw [unzig_zig], unzig_in hm⟩
theorem nuR_enc {n : Int} (h : R64 n) (t : List UInt8) : nuR (0, numB n ++ t) = ((n, 0), (0, t)) := numRd_enc h.1 h.2 t
theorem smR_enc {n m : Int} (h0 : 0 ≤ n) (h1 : n ≤ m) (hr : R64 n) (t : List UInt8) : smR m (0, numB n ++ t) = ((n, 0), (0, t)) := by
  unfold smR rangeRd
  simp only [numRd_enc hr.1 hr.2 t]
  rw [if_neg (by simp), if_neg (by omega)]
theorem smR_out {n m : Int} (h : n < 0 ∨ m < n) (hr : R64 n) (t : List UInt8) : smR m (0, numB n ++ t) = ((0, 3), (3, [])) := by
  unfold smR rangeRd
  simp only [numRd_enc hr.1 hr.2 t]
  rw [if_neg (by simp), if_pos h]
theorem txR_enc {s : ByteArray} {m : Int} (h : (s.size : Int) ≤ m) (hs : s.size ≤ 100) (t : List UInt8) : txR m (0, textB s ++ t) = ((s, 0), (0, t)) := by
  have h1 := smR_enc (n := s.size) (m := m) (by omega) h ⟨by omega, by omega⟩ (s.data.toList ++ t)
  unfold smR at h1
  unfold txR textRd
  have e : textB s ++ t = numB s.size ++ (s.data.toList ++ t) := by unfold textB; rw [List.append_assoc]
  have hl : s.data.toList.length = s.size := by simp
  rw [e]
  simp only [h1]
  rw [if_neg (by simp), if_neg (by rw [List.length_append, hl]; omega)]
  simp only [Int.toNat_natCast]
  rw [← hl, List.take_left', List.drop_left']
  · rfl
  · rfl
theorem nuR_stay {e : Int} (h : e ≠ 0) (t : List UInt8) : nuR (e, t) = ((0, e), (e, t)) := numRd_err h t
theorem nuR_dec {s : St} (h : (nuR s).2.1 = 0) : s.1 = 0 ∧ s.2 = numB (nuR s).1.1 ++ (nuR s).2.2 ∧ R64 (nuR s).1.1 := by
  obtain ⟨e, l⟩ := s
  by_cases he : e = 0
  · subst he
    unfold nuR at *
    have h2 := (numRd_left 0 l).2
    obtain ⟨a, b, c⟩ := numRd_dec (l := l) (by rw [← h2]; exact h)
    exact ⟨rfl, a, b, c⟩
  · rw [nuR_stay he] at h
    exact absurd h he
theorem smR_dec {m : Int} {s : St} (h : (smR m s).2.1 = 0) : s.1 = 0 ∧ s.2 = numB (smR m s).1.1 ++ (smR m s).2.2 ∧ 0 ≤ (smR m s).1.1 ∧ (smR m s).1.1 ≤ m ∧ R64 (smR m s).1.1 := by
  obtain ⟨e, l⟩ := s
  have h2 := (rangeRd_left 0 m e l).2
  have h3 : (rangeRd 0 m e l).1.2 = 0 := by rw [← h2]; exact h
  have hin := rangeRd_in h3
  have hq : rangeRd 0 m e l = (((numRd e l).1.1, 0), (numRd e l).2) := by
    unfold rangeRd at h3 ⊢
    split
    · rename_i h4; rw [if_pos h4] at h3; exact absurd h3 h4
    · rename_i h4
      rw [if_neg h4] at h3
      split
      · rename_i h5; rw [if_pos h5] at h3; exact absurd h3 (by decide)
      · rfl
  unfold smR at *
  simp only [hq] at *
  obtain ⟨a, b, c⟩ := nuR_dec (s := (e, l)) h
  exact ⟨a, b, hin.1, hin.2, c⟩
theorem txR_dec {m : Int} {s : St} (h : (txR m s).2.1 = 0) : s.1 = 0 ∧ s.2 = textB (txR m s).1.1 ++ (txR m s).2.2 ∧ ((txR m s).1.1.size : Int) ≤ m := by
  obtain ⟨e, l⟩ := s
  by_cases h3 : (rangeRd 0 m e l).1.2 = 0
  · by_cases h4 : ((rangeRd 0 m e l).2.2.length : Int) < (rangeRd 0 m e l).1.1
    · unfold txR textRd at h
      rw [if_neg (by simpa using h3), if_pos h4] at h
      exact absurd h (by decide)
    · have h5 : (smR m (e, l)).2.1 = 0 := by rw [← h3]; exact (rangeRd_left 0 m e l).2
      obtain ⟨a, b, c, d, _⟩ := smR_dec h5
      simp only [smR] at a b c d
      have hq : txR m (e, l) = ((⟨((rangeRd 0 m e l).2.2.take (rangeRd 0 m e l).1.1.toNat).toArray⟩, 0), (0, (rangeRd 0 m e l).2.2.drop (rangeRd 0 m e l).1.1.toNat)) := by
        unfold txR textRd
        rw [if_neg (by simpa using h3), if_neg h4]
      rw [hq]
      generalize rangeRd 0 m e l = Q at *
      obtain ⟨⟨n, e1⟩, e2, t⟩ := Q
      simp only at *
      have hz : (t.take n.toNat).length = n.toNat := by rw [List.length_take]; omega
      have hz2 : (⟨(t.take n.toNat).toArray⟩ : ByteArray).size = n.toNat := by show (t.take n.toNat).toArray.size = n.toNat; rw [List.size_toArray, hz]
      refine ⟨a, ?_, by rw [hz2]; omega⟩
      unfold textB
      rw [hz2, Int.toNat_of_nonneg c, b, List.append_assoc]
      simp
  · unfold txR textRd at h
    rw [if_pos h3] at h
    exact absurd (((rangeRd_left 0 m e l).2).symm.trans h) h3
theorem doneRd_nil {e : Int} {t : List UInt8} (h : (doneRd e t).1 = 0) : e = 0 ∧ t = [] := by
  unfold doneRd at h
  split at h
  · rename_i h1; exact absurd h h1
  · rename_i h1
    split at h
    · exact absurd h (by decide)
    · rename_i h2
      exact ⟨by simpa using h1, by simpa using h2⟩
/-- replies -/
theorem told_law1 {x : Rp} (h : InP x) (hin : 0 ≤ x.err ∧ x.err ≤ 14) : toldOk (toldB x) = true ∧ readT (toldB x) = x := by
  obtain ⟨a, b, c, d⟩ := h
  have e1 : tq1 (toldB x) = ((x.err, 0), (0, numB x.hav ++ (numB x.set_ ++ (numB x.num ++ [])))) := by
    unfold tq1
    rw [show toldB x = numB x.err ++ (numB x.hav ++ (numB x.set_ ++ (numB x.num ++ []))) by simp [toldB]]
    exact smR_enc hin.1 hin.2 a _
  have e2 : tq2 (toldB x) = ((x.hav, 0), (0, numB x.set_ ++ (numB x.num ++ []))) := by unfold tq2; rw [e1]; exact nuR_enc b _
  have e3 : tq3 (toldB x) = ((x.set_, 0), (0, numB x.num ++ [])) := by unfold tq3; rw [e2]; exact nuR_enc c _
  have e4 : tq4 (toldB x) = ((x.num, 0), (0, [])) := by unfold tq4; rw [e3]; exact nuR_enc d _
  have h1 : toldOk (toldB x) = true := by unfold toldOk; rw [e4]; rfl
  refine ⟨h1, ?_⟩
  unfold readT rawT
  rw [h1, e1, e2, e3, e4]
  rfl
theorem told_law0 {x : Rp} (h : InP x) (hout : x.err < 0 ∨ 14 < x.err) : toldOk (toldB x) = false := by
  obtain ⟨a, b, c, d⟩ := h
  have e1 : tq1 (toldB x) = ((0, 3), (3, [])) := by
    unfold tq1 toldB
    rw [List.append_assoc, List.append_assoc]
    exact smR_out hout a _
  have e2 : tq2 (toldB x) = ((0, 3), (3, [])) := by unfold tq2; rw [e1]; exact nuR_stay (by decide) _
  have e3 : tq3 (toldB x) = ((0, 3), (3, [])) := by unfold tq3; rw [e2]; exact nuR_stay (by decide) _
  have e4 : tq4 (toldB x) = ((0, 3), (3, [])) := by unfold tq4; rw [e3]; exact nuR_stay (by decide) _
  unfold toldOk
  rw [e4]
  rfl
theorem told_law2 {l : List UInt8} (h : toldOk l = true) : toldB (readT l) = l ∧ InP (readT l) := by
  have e : readT l = rawT l := by unfold readT; rw [if_pos h]
  rw [e]
  unfold toldOk at h
  obtain ⟨h4, ht⟩ := doneRd_nil (of_decide_eq_true h)
  obtain ⟨h3, b4, r4⟩ := nuR_dec (s := (tq3 l).2) h4
  obtain ⟨h2, b3, r3⟩ := nuR_dec (s := (tq2 l).2) h3
  obtain ⟨h1, b2, r2⟩ := nuR_dec (s := (tq1 l).2) h2
  obtain ⟨_, b1, _, _, r1⟩ := smR_dec (m := 14) (s := ((0, l) : St)) h1
  refine ⟨?_, r1, r2, r3, r4⟩
  have b4 : (tq3 l).2.2 = numB (tq4 l).1.1 ++ (tq4 l).2.2 := b4
  have b3 : (tq2 l).2.2 = numB (tq3 l).1.1 ++ (tq3 l).2.2 := b3
  have b2 : (tq1 l).2.2 = numB (tq2 l).1.1 ++ (tq2 l).2.2 := b2
  have b1 : l = numB (tq1 l).1.1 ++ (tq1 l).2.2 := b1
  unfold toldB rawT
  rw [ht, List.append_nil] at b4
  conv => rhs; rw [b1, b2, b3, b4]
  simp only [List.append_assoc]
end Go.Proofs.Ytogecfddkohigaa
