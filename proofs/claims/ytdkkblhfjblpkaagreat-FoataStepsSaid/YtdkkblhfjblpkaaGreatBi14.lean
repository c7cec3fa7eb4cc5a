/- Texts of this claim, laid together: Codec, CmpI. -/
import Derived.Test.YtdkkblhfjblpkaaGreatRows
import Derived.Test.YtdkkblhfjblpkaaGreatBi13
import Derived.Test.YtdkkblhfjblpkaaGreatBi12
import Derived.WalkKit
import Derived.WalkSpells
import Derived.WalkLawsBesides
import Derived.Deep.QuietTactic
import Derived.BigQuiet
import Derived.Laws.StructEq
import Derived.Deep.DeepFit
import Derived.StillTailTactics
import Derived.Test.YtdkkblhfjblpkaaGreatBi1
import Derived.Test.YtdkkblhfjblpkaaGreatBi8
import Derived.Deep.RegionHeld3

/- numbers, texts, replies: what is written is read again, what is read was written; an order's bytes are read again; what is read was written; orders are the same just if their bytes are; order.Ahead, the reference's Ahead -/
namespace Go.Proofs.YtdkkblhfjblpkaaGreat
open Go.RowKit
theorem two_pow_step (i : Nat) (hi : i ≤ 8) : 2 ^ (64 - 7 * i) = 128 * 2 ^ (64 - 7 * (i + 1)) := by
  rw [show 64 - 7 * i = 7 + (64 - 7 * (i + 1)) from by omega, Nat.pow_add]
theorem seven_step (i : Nat) : 2 ^ (7 * (i + 1)) = 128 * 2 ^ (7 * i) := by
  rw [show 7 * (i + 1) = 7 + 7 * i from by omega, Nat.pow_add]
theorem uvR_enc : ∀ (f m i acc : Nat) (t : List UInt8), m < f → i ≤ 9 → m < 2 ^ (64 - 7 * i) → (0 < i → 0 < m) → uvR i acc (Lib.uvarint m ++ t) = .ok (acc + m * 2 ^ (7 * i), t)
  | 0, _, _, _, _, h, _, _, _ => absurd h (by omega)
  | f + 1, m, i, acc, t, hf, hi, hm, hp => by
    by_cases hs : m < 128
    · rw [Lib.uvarint_small hs, List.singleton_append, uvR]
      have hb : (m.toUInt8).toNat = m := Lib.toUInt8_toNat (by omega)
      rw [hb, if_neg (by
        rintro (h | ⟨h, h1⟩)
        · omega
        · subst h
          have : m < 2 ^ 1 := hm
          omega), if_neg (by rintro ⟨h, h1⟩; have := hp h1; omega), if_pos hs]
    · rw [Lib.uvarint_big (by omega), List.cons_append, uvR]
      have hb : ((m % 128 + 128).toUInt8).toNat = m % 128 + 128 := Lib.toUInt8_toNat (by omega)
      have hi8 : i ≤ 8 := by
        rcases Nat.lt_or_ge i 9 with h | h
        · omega
        · obtain rfl : i = 9 := by omega
          have : m < 2 ^ 1 := hm
          omega
      rw [two_pow_step i hi8] at hm
      rw [hb, if_neg (by omega), if_neg (by omega), if_neg (by omega), uvR_enc f (m / 128) (i + 1) _ t (by omega) (by omega) (Nat.div_lt_of_lt_mul hm) (fun _ => by omega)]
      congr 2
      rw [seven_step, show (m % 128 + 128) % 128 = m % 128 from by omega, Nat.add_assoc, Nat.mul_left_comm, ← Nat.mul_assoc, ← Nat.add_mul]
      congr 2
      omega
theorem uvR_dec : ∀ (l : List UInt8) (i acc M : Nat) (t : List UInt8), i ≤ 9 → uvR i acc l = .ok (M, t) → ∃ m, l = Lib.uvarint m ++ t ∧ M = acc + m * 2 ^ (7 * i) ∧ m < 2 ^ (64 - 7 * i) ∧ (0 < i → 0 < m)
  | [], _, _, _, _, _, h => by simp [uvR] at h
  | b :: r, i, acc, M, t, hi, h => by
    have hbl := b.toNat_lt
    rw [uvR] at h
    split at h
    · simp at h
    · rename_i h1
      split at h
      · simp at h
      · rename_i h2
        split at h
        · rename_i h3
          simp only [Except.ok.injEq, Prod.mk.injEq] at h
          obtain ⟨rfl, rfl⟩ := h
          refine ⟨b.toNat, ?_, rfl, ?_, fun hp => by omega⟩
          · rw [Lib.uvarint_small h3, List.singleton_append]
            congr 1
            simp
          · rcases Nat.lt_or_ge i 9 with h9 | h9
            · exact Nat.lt_of_lt_of_le h3 (Nat.pow_le_pow_right (n := 2) (by decide) (show 7 ≤ 64 - 7 * i by omega))
            · obtain rfl : i = 9 := by omega
              show b.toNat < 2
              omega
        · rename_i h3
          have hi8 : i ≤ 8 := by omega
          obtain ⟨m, rfl, rfl, hm, hp⟩ := uvR_dec r (i + 1) _ M t (by omega) h
          have hm0 := hp (Nat.succ_pos i)
          refine ⟨m * 128 + b.toNat % 128, ?_, ?_, ?_, fun _ => by omega⟩
          · rw [Lib.uvarint_big (show 128 ≤ m * 128 + b.toNat % 128 by omega), List.cons_append, show (m * 128 + b.toNat % 128) / 128 = m from by omega]
            congr 1
            rw [show (m * 128 + b.toNat % 128) % 128 + 128 = b.toNat from by omega]
            simp
          · rw [seven_step, Nat.add_mul, Nat.add_assoc, Nat.add_comm (b.toNat % 128 * 2 ^ (7 * i)), Nat.mul_assoc]
          · rw [two_pow_step i hi8]
            omega
theorem zig_unzig {n : Int} (h0 : -9223372036854775808 ≤ n) (h1 : n ≤ 9223372036854775807) : Lib.unzigzag (Lib.zigzag n) = n := by
  unfold Lib.unzigzag Lib.zigzag
  split <;> split <;> omega
theorem unzig_zig (m : Nat) : Lib.zigzag (Lib.unzigzag m) = m := by
  unfold Lib.unzigzag Lib.zigzag
  split <;> split <;> omega
theorem unzig_in {m : Nat} (h : m < 18446744073709551616) : -9223372036854775808 ≤ Lib.unzigzag m ∧ Lib.unzigzag m ≤ 9223372036854775807 := by
  unfold Lib.unzigzag
  split <;> omega
/-- what is written is read again -/
theorem numRd_enc {n : Int} (h0 : -9223372036854775808 ≤ n) (h1 : n ≤ 9223372036854775807) (t : List UInt8) : numRd 0 (numB n ++ t) = ((n, 0), (0, t)) := by
  have h := uvR_enc (Lib.zigzag n + 1) (Lib.zigzag n) 0 0 t (Nat.lt_succ_self _) (by decide) (by have := Lib.zigzag_lt h0 h1; exact this) (fun h => absurd h (by decide))
  rw [numRd_ok h]
  simp only [Nat.zero_add, Nat.mul_zero, Nat.pow_zero, Nat.mul_one, zig_unzig h0 h1]
theorem uvR_e : ∀ (l : List UInt8) (i acc : Nat) {e : Int}, uvR i acc l = .error e → e = 3 ∨ e = 4
  | [], _, _, _, h => by simp [uvR] at h; exact .inr h.symm
  | b :: r, i, acc, e, h => by
    rw [uvR] at h
    split at h
    · simp only [Except.error.injEq] at h
      split at h <;> omega
    · split at h
      · simp only [Except.error.injEq] at h; omega
      · split at h
        · simp at h
        · exact uvR_e r _ _ h
/-- what is read is written as just these bytes -/
theorem numRd_dec {l : List UInt8} (h : (numRd 0 l).1.2 = 0) : l = numB (numRd 0 l).1.1 ++ (numRd 0 l).2.2 ∧ -9223372036854775808 ≤ (numRd 0 l).1.1 ∧ (numRd 0 l).1.1 ≤ 9223372036854775807 := by
  cases hu : uvR 0 0 l with
  | error e =>
    rw [numRd_bad hu] at h
    have := uvR_e l 0 0 hu
    simp only at h
    omega
  | ok p =>
    obtain ⟨M, t⟩ := p
    rw [numRd_ok hu]
    obtain ⟨m, rfl, rfl, hm, _⟩ := uvR_dec l 0 0 M t (by decide) hu
    simp only [Nat.zero_add, Nat.mul_zero, Nat.pow_zero, Nat.mul_one]
    refine ⟨by unfold numB; rw [unzig_zig], unzig_in hm⟩
theorem nuR_enc {n : Int} (h : R64 n) (t : List UInt8) : nuR (0, numB n ++ t) = ((n, 0), (0, t)) := numRd_enc h.1 h.2 t
theorem smR_enc {n m : Int} (h0 : 0 ≤ n) (h1 : n ≤ m) (hr : R64 n) (t : List UInt8) : smR m (0, numB n ++ t) = ((n, 0), (0, t)) := by
  unfold smR rangeRd
  simp only [numRd_enc hr.1 hr.2 t]
  rw [if_neg (by simp), if_neg (by omega)]
theorem smR_out {n m : Int} (h : n < 0 ∨ m < n) (hr : R64 n) (t : List UInt8) : smR m (0, numB n ++ t) = ((0, 3), (3, [])) := by
  unfold smR rangeRd
  simp only [numRd_enc hr.1 hr.2 t]
  rw [if_neg (by simp), if_pos h]
theorem txR_enc {s : ByteArray} {m : Int} (h : (s.size : Int) ≤ m) (hs : s.size ≤ 100) (t : List UInt8) : txR m (0, textB s ++ t) = ((s, 0), (0, t)) := by
  have h1 := smR_enc (n := s.size) (m := m) (by omega) h ⟨by omega, by omega⟩ (s.data.toList ++ t)
  unfold smR at h1
  unfold txR textRd
  have e : textB s ++ t = numB s.size ++ (s.data.toList ++ t) := by unfold textB; rw [List.append_assoc]
  have hl : s.data.toList.length = s.size := by simp
  rw [e]
  simp only [h1]
  rw [if_neg (by simp), if_neg (by rw [List.length_append, hl]; omega)]
  simp only [Int.toNat_natCast]
  rw [← hl, List.take_left', List.drop_left']
  · rfl
  · rfl
theorem nuR_stay {e : Int} (h : e ≠ 0) (t : List UInt8) : nuR (e, t) = ((0, e), (e, t)) := numRd_err h t
theorem nuR_dec {s : St} (h : (nuR s).2.1 = 0) : s.1 = 0 ∧ s.2 = numB (nuR s).1.1 ++ (nuR s).2.2 ∧ R64 (nuR s).1.1 := by
  obtain ⟨e, l⟩ := s
  by_cases he : e = 0
  · subst he
    unfold nuR at *
    have h2 := (numRd_left 0 l).2
    obtain ⟨a, b, c⟩ := numRd_dec (l := l) (by rw [← h2]; exact h)
    exact ⟨rfl, a, b, c⟩
  · rw [nuR_stay he] at h
    exact absurd h he
theorem smR_dec {m : Int} {s : St} (h : (smR m s).2.1 = 0) : s.1 = 0 ∧ s.2 = numB (smR m s).1.1 ++ (smR m s).2.2 ∧ 0 ≤ (smR m s).1.1 ∧ (smR m s).1.1 ≤ m ∧ R64 (smR m s).1.1 := by
  obtain ⟨e, l⟩ := s
  have h2 := (rangeRd_left 0 m e l).2
  have h3 : (rangeRd 0 m e l).1.2 = 0 := by rw [← h2]; exact h
  have hin := rangeRd_in h3
  have hq : rangeRd 0 m e l = (((numRd e l).1.1, 0), (numRd e l).2) := by
    unfold rangeRd at h3 ⊢
    split
    · rename_i h4; rw [if_pos h4] at h3; exact absurd h3 h4
    · rename_i h4
      rw [if_neg h4] at h3
      split
      · rename_i h5; rw [if_pos h5] at h3; exact absurd h3 (by decide)
      · rfl
  unfold smR at *
  simp only [hq] at *
  obtain ⟨a, b, c⟩ := nuR_dec (s := (e, l)) h
  exact ⟨a, b, hin.1, hin.2, c⟩
theorem txR_dec {m : Int} {s : St} (h : (txR m s).2.1 = 0) : s.1 = 0 ∧ s.2 = textB (txR m s).1.1 ++ (txR m s).2.2 ∧ ((txR m s).1.1.size : Int) ≤ m := by
  obtain ⟨e, l⟩ := s
  by_cases h3 : (rangeRd 0 m e l).1.2 = 0
  · by_cases h4 : ((rangeRd 0 m e l).2.2.length : Int) < (rangeRd 0 m e l).1.1
    · unfold txR textRd at h
      rw [if_neg (by simpa using h3), if_pos h4] at h
      exact absurd h (by decide)
    · have h5 : (smR m (e, l)).2.1 = 0 := by rw [← h3]; exact (rangeRd_left 0 m e l).2
      obtain ⟨a, b, c, d, _⟩ := smR_dec h5
      simp only [smR] at a b c d
      have hq : txR m (e, l) = ((⟨((rangeRd 0 m e l).2.2.take (rangeRd 0 m e l).1.1.toNat).toArray⟩, 0), (0, (rangeRd 0 m e l).2.2.drop (rangeRd 0 m e l).1.1.toNat)) := by
        unfold txR textRd
        rw [if_neg (by simpa using h3), if_neg h4]
      rw [hq]
      generalize rangeRd 0 m e l = Q at *
      obtain ⟨⟨n, e1⟩, e2, t⟩ := Q
      simp only at *
      have hz : (t.take n.toNat).length = n.toNat := by rw [List.length_take]; omega
      have hz2 : (⟨(t.take n.toNat).toArray⟩ : ByteArray).size = n.toNat := by show (t.take n.toNat).toArray.size = n.toNat; rw [List.size_toArray, hz]
      refine ⟨a, ?_, by rw [hz2]; omega⟩
      unfold textB
      rw [hz2, Int.toNat_of_nonneg c, b, List.append_assoc]
      simp
  · unfold txR textRd at h
    rw [if_pos h3] at h
    exact absurd (((rangeRd_left 0 m e l).2).symm.trans h) h3
theorem doneRd_nil {e : Int} {t : List UInt8} (h : (doneRd e t).1 = 0) : e = 0 ∧ t = [] := by
  unfold doneRd at h
  split at h
  · rename_i h1; exact absurd h h1
  · rename_i h1
    split at h
    · exact absurd h (by decide)
    · rename_i h2
      exact ⟨by simpa using h1, by simpa using h2⟩
/-- replies -/
theorem told_law1 {x : Rp} (h : InP x) (hin : 0 ≤ x.err ∧ x.err ≤ 14) : toldOk (toldB x) = true ∧ readT (toldB x) = x := by
  obtain ⟨a, b, c, d⟩ := h
  have e1 : tq1 (toldB x) = ((x.err, 0), (0, numB x.hav ++ (numB x.set_ ++ (numB x.num ++ [])))) := by
    unfold tq1
    rw [show toldB x = numB x.err ++ (numB x.hav ++ (numB x.set_ ++ (numB x.num ++ []))) by simp [toldB]]
    exact smR_enc hin.1 hin.2 a _
  have e2 : tq2 (toldB x) = ((x.hav, 0), (0, numB x.set_ ++ (numB x.num ++ []))) := by unfold tq2; rw [e1]; exact nuR_enc b _
  have e3 : tq3 (toldB x) = ((x.set_, 0), (0, numB x.num ++ [])) := by unfold tq3; rw [e2]; exact nuR_enc c _
  have e4 : tq4 (toldB x) = ((x.num, 0), (0, [])) := by unfold tq4; rw [e3]; exact nuR_enc d _
  have h1 : toldOk (toldB x) = true := by unfold toldOk; rw [e4]; rfl
  refine ⟨h1, ?_⟩
  unfold readT rawT
  rw [h1, e1, e2, e3, e4]
  rfl
theorem told_law0 {x : Rp} (h : InP x) (hout : x.err < 0 ∨ 14 < x.err) : toldOk (toldB x) = false := by
  obtain ⟨a, b, c, d⟩ := h
  have e1 : tq1 (toldB x) = ((0, 3), (3, [])) := by
    unfold tq1 toldB
    rw [List.append_assoc, List.append_assoc]
    exact smR_out hout a _
  have e2 : tq2 (toldB x) = ((0, 3), (3, [])) := by unfold tq2; rw [e1]; exact nuR_stay (by decide) _
  have e3 : tq3 (toldB x) = ((0, 3), (3, [])) := by unfold tq3; rw [e2]; exact nuR_stay (by decide) _
  have e4 : tq4 (toldB x) = ((0, 3), (3, [])) := by unfold tq4; rw [e3]; exact nuR_stay (by decide) _
  unfold toldOk
  rw [e4]
  rfl
theorem told_law2 {l : List UInt8} (h : toldOk l = true) : toldB (readT l) = l ∧ InP (readT l) := by
  have e : readT l = rawT l := by unfold readT; rw [if_pos h]
  rw [e]
  unfold toldOk at h
  obtain ⟨h4, ht⟩ := doneRd_nil (of_decide_eq_true h)
  obtain ⟨h3, b4, r4⟩ := nuR_dec (s := (tq3 l).2) h4
  obtain ⟨h2, b3, r3⟩ := nuR_dec (s := (tq2 l).2) h3
  obtain ⟨h1, b2, r2⟩ := nuR_dec (s := (tq1 l).2) h2
  obtain ⟨_, b1, _, _, r1⟩ := smR_dec (m := 14) (s := ((0, l) : St)) h1
  refine ⟨?_, r1, r2, r3, r4⟩
  have b4 : (tq3 l).2.2 = numB (tq4 l).1.1 ++ (tq4 l).2.2 := b4
  have b3 : (tq2 l).2.2 = numB (tq3 l).1.1 ++ (tq3 l).2.2 := b3
  have b2 : (tq1 l).2.2 = numB (tq2 l).1.1 ++ (tq2 l).2.2 := b2
  have b1 : l = numB (tq1 l).1.1 ++ (tq1 l).2.2 := b1
  unfold toldB rawT
  rw [ht, List.append_nil] at b4
  conv => rhs; rw [b1, b2, b3, b4]
  simp only [List.append_assoc]
theorem periodB_in {n : Int} (h : periodB n = true) : 1 ≤ n ∧ n ≤ 1000 := by
  unfold periodB at h
  simpa only [Bool.and_eq_true, decide_eq_true_eq] using h
theorem heldB_in {n : Int} (h : heldB n = true) : 1 ≤ n ∧ n ≤ 9999 := by
  unfold heldB at h
  simpa only [Bool.and_eq_true, decide_eq_true_eq] using h
/-- what a right order's parts are like, sharply -/
structure Fit (x : Od) : Prop where
  cl : 0 ≤ x.client ∧ x.client ≤ 9
  sq : 1 ≤ x.seq ∧ x.seq ≤ 999
  kd : 1 ≤ x.kind ∧ x.kind ≤ 7
  acct : x.acct.size ≤ 8
  peer : x.peer.size ≤ 8
  note : x.note.size ≤ 20
  legs : x.legs.length ≤ 6 ∧ ∀ l ∈ x.legs, l.acct.size ≤ 8
  per : 0 ≤ x.period ∧ x.period ≤ 1000
  hld : 0 ≤ x.hold ∧ x.hold ≤ 9999
theorem fit_of {x : Od} (h : rightB x = true) : Fit x := by
  unfold rightB at h
  simp only [Bool.and_eq_true, decide_eq_true_eq] at h
  obtain ⟨hk, ⟨hc, hq⟩, hs, hf⟩ := h
  by_cases h1 : x.kind = 1
  · have e1 : bareO x = bare1 x := by unfold bareO; rw [if_pos h1]
    have e2 : fitsO x = fits1 x := by unfold fitsO; rw [if_pos h1]
    rw [e1] at hs
    rw [e2] at hf
    obtain ⟨ea, ep, en, -, -, -, epd, eh, el⟩ := hs
    simp only [fits1, Bool.and_eq_true, decide_eq_true_eq] at hf
    exact ⟨hc, hq, hk, nameB_size (hf.1), by rw [show x.peer = ⟨#[]⟩ from ep]; decide, by rw [show x.note = ⟨#[]⟩ from en]; decide, by rw [show x.legs = [] from el]; exact ⟨by decide, fun l hl => by simp at hl⟩, by rw [show x.period = 0 from epd]; decide, by rw [show x.hold = 0 from eh]; decide⟩
  by_cases h2 : x.kind = 2
  · have e1 : bareO x = bare2 x := by unfold bareO; rw [if_neg h1, if_pos h2]
    have e2 : fitsO x = fits2 x := by unfold fitsO; rw [if_neg h1, if_pos h2]
    rw [e1] at hs
    rw [e2] at hf
    obtain ⟨ea, ep, en, -, -, -, epd, eh, el⟩ := hs
    simp only [fits2, Bool.and_eq_true, decide_eq_true_eq] at hf
    exact ⟨hc, hq, hk, by rw [show x.acct = ⟨#[]⟩ from ea]; decide, by rw [show x.peer = ⟨#[]⟩ from ep]; decide, by have := hf.2; omega, ⟨(legsB_fine hf.1.1).1, fun l hl => nameB_size ((legsB_fine hf.1.1).2 l hl)⟩, by have := periodB_in (hf.1.2); omega, by rw [show x.hold = 0 from eh]; decide⟩
  by_cases h3 : x.kind = 3
  · have e1 : bareO x = bare3 x := by unfold bareO; rw [if_neg h1, if_neg h2, if_pos h3]
    have e2 : fitsO x = fits3 x := by unfold fitsO; rw [if_neg h1, if_neg h2, if_pos h3]
    rw [e1] at hs
    rw [e2] at hf
    obtain ⟨ea, ep, en, -, -, -, epd, eh, el⟩ := hs
    simp only [fits3, Bool.and_eq_true, decide_eq_true_eq] at hf
    exact ⟨hc, hq, hk, nameB_size (hf.1), by rw [show x.peer = ⟨#[]⟩ from ep]; decide, by rw [show x.note = ⟨#[]⟩ from en]; decide, by rw [show x.legs = [] from el]; exact ⟨by decide, fun l hl => by simp at hl⟩, by rw [show x.period = 0 from epd]; decide, by rw [show x.hold = 0 from eh]; decide⟩
  by_cases h4 : x.kind = 4
  · have e1 : bareO x = bare4 x := by unfold bareO; rw [if_neg h1, if_neg h2, if_neg h3, if_pos h4]
    have e2 : fitsO x = fits4 x := by unfold fitsO; rw [if_neg h1, if_neg h2, if_neg h3, if_pos h4]
    rw [e1] at hs
    rw [e2] at hf
    obtain ⟨ea, ep, en, -, -, -, epd, eh, el⟩ := hs
    simp only [fits4, Bool.and_eq_true, decide_eq_true_eq] at hf
    exact ⟨hc, hq, hk, nameB_size (hf.1.1.1.1.1), nameB_size (hf.1.1.1.1.2), by rw [show x.note = ⟨#[]⟩ from en]; decide, by rw [show x.legs = [] from el]; exact ⟨by decide, fun l hl => by simp at hl⟩, by have := periodB_in (hf.2); omega, by have := heldB_in (hf.1.2); omega⟩
  by_cases h5 : x.kind = 5
  · have e1 : bareO x = bare5 x := by unfold bareO; rw [if_neg h1, if_neg h2, if_neg h3, if_neg h4, if_pos h5]
    have e2 : fitsO x = fits5 x := by unfold fitsO; rw [if_neg h1, if_neg h2, if_neg h3, if_neg h4, if_pos h5]
    rw [e1] at hs
    rw [e2] at hf
    obtain ⟨ea, ep, en, -, -, -, epd, eh, el⟩ := hs
    simp only [fits5, Bool.and_eq_true] at hf
    exact ⟨hc, hq, hk, nameB_size (hf.1), by rw [show x.peer = ⟨#[]⟩ from ep]; decide, by rw [show x.note = ⟨#[]⟩ from en]; decide, by rw [show x.legs = [] from el]; exact ⟨by decide, fun l hl => by simp at hl⟩, by rw [show x.period = 0 from epd]; decide, by have := heldB_in (hf.2); omega⟩
  by_cases h6 : x.kind = 6
  · have e1 : bareO x = bare6 x := by unfold bareO; rw [if_neg h1, if_neg h2, if_neg h3, if_neg h4, if_neg h5, if_pos h6]
    have e2 : fitsO x = fits6 x := by unfold fitsO; rw [if_neg h1, if_neg h2, if_neg h3, if_neg h4, if_neg h5, if_pos h6]
    rw [e1] at hs
    rw [e2] at hf
    obtain ⟨ea, ep, en, -, -, -, epd, eh, el⟩ := hs
    unfold fits6 at hf
    exact ⟨hc, hq, hk, by rw [show x.acct = ⟨#[]⟩ from ea]; decide, by rw [show x.peer = ⟨#[]⟩ from ep]; decide, by rw [show x.note = ⟨#[]⟩ from en]; decide, by rw [show x.legs = [] from el]; exact ⟨by decide, fun l hl => by simp at hl⟩, by have := periodB_in (hf); omega, by rw [show x.hold = 0 from eh]; decide⟩
  by_cases h7 : x.kind = 7
  · have e1 : bareO x = bare7 x := by unfold bareO; rw [if_neg h1, if_neg h2, if_neg h3, if_neg h4, if_neg h5, if_neg h6]
    have e2 : fitsO x = nameB x.acct := by unfold fitsO; rw [if_neg h1, if_neg h2, if_neg h3, if_neg h4, if_neg h5, if_neg h6]
    rw [e1] at hs
    rw [e2] at hf
    obtain ⟨ea, ep, en, -, -, -, epd, eh, el⟩ := hs
    exact ⟨hc, hq, hk, nameB_size (hf), by rw [show x.peer = ⟨#[]⟩ from ep]; decide, by rw [show x.note = ⟨#[]⟩ from en]; decide, by rw [show x.legs = [] from el]; exact ⟨by decide, fun l hl => by simp at hl⟩, by rw [show x.period = 0 from epd]; decide, by rw [show x.hold = 0 from eh]; decide⟩
  omega
theorem legsR_enc : ∀ (L : List Leg) (t : List UInt8), (∀ y ∈ L, y.acct.size ≤ 8 ∧ R64 y.sum) → legsR L.length (0, L.flatMap legBs ++ t) = (L, (0, t))
  | [], _, _ => rfl
  | y :: r, t, h => by
    have h0 := h y (by simp)
    have e : (y :: r).flatMap legBs ++ t = textB y.acct ++ (numB y.sum ++ (r.flatMap legBs ++ t)) := by
      rw [List.flatMap_cons]
      unfold legBs
      simp only [List.append_assoc]
    have e1 := txR_enc (s := y.acct) (m := 8) (by have := h0.1; omega) (by have := h0.1; omega) (numB y.sum ++ (r.flatMap legBs ++ t))
    have e2 := nuR_enc h0.2 (r.flatMap legBs ++ t)
    rw [e, List.length_cons]
    simp only [legsR, e1, e2, legsR_enc r t fun z hz => h z (by simp [hz])]
theorem legsR_dec : ∀ (n : Nat) (s : St), (legsR n s).2.1 = 0 → s.1 = 0 ∧ s.2 = (legsR n s).1.flatMap legBs ++ (legsR n s).2.2 ∧ ∀ y ∈ (legsR n s).1, R64 y.sum
  | 0, s, h => ⟨h, by simp [legsR], by simp [legsR]⟩
  | n + 1, s, h => by
    simp only [legsR] at h ⊢
    obtain ⟨a3, b3, c3⟩ := legsR_dec n (nuR (txR 8 s).2).2 h
    obtain ⟨a2, b2, c2⟩ := nuR_dec (s := (txR 8 s).2) a3
    obtain ⟨a1, b1, _⟩ := txR_dec (m := 8) (s := s) a2
    refine ⟨a1, ?_, fun y hy => ?_⟩
    · conv => lhs; rw [b1, b2, b3]
      simp only [List.flatMap_cons, legBs, List.append_assoc]
    · simp only [List.mem_cons] at hy
      rcases hy with rfl | hy
      · exact c2
      · exact c3 y hy
def tl11 (x : Od) : List UInt8 := textB x.note ++ []
def tl10 (x : Od) : List UInt8 := numB x.hold ++ tl11 x
def tl9 (x : Od) : List UInt8 := numB x.period ++ tl10 x
def tl8 (x : Od) : List UInt8 := x.legs.flatMap legBs ++ tl9 x
def tl7 (x : Od) : List UInt8 := numB x.legs.length ++ tl8 x
def tl6 (x : Od) : List UInt8 := numB x.sum ++ tl7 x
def tl5 (x : Od) : List UInt8 := textB x.peer ++ tl6 x
def tl4 (x : Od) : List UInt8 := textB x.acct ++ tl5 x
def tl3 (x : Od) : List UInt8 := numB x.kind ++ tl4 x
def tl2 (x : Od) : List UInt8 := numB x.seq ++ tl3 x
def tl1 (x : Od) : List UInt8 := numB x.client ++ tl2 x
theorem bytesB_tl (x : Od) : bytesB x = tl1 x := by
  unfold bytesB headBs tl1 tl2 tl3 tl4 tl5 tl6 tl7 tl8 tl9 tl10 tl11
  simp only [List.append_assoc, List.append_nil]
/-- what is written is read again -/
theorem back_law1 {x : Od} (h : rightB x = true) (hr : InR x) : readOk (bytesB x) = true ∧ rawO (bytesB x) = x.core := by
  obtain ⟨fc, fq, fk, fa, fp, fn, fl, fd, fh⟩ := fit_of h
  obtain ⟨rc, rq, rk, rs, rd, rh, rl⟩ := hr
  have r1 : smR 9 (0, bytesB x) = ((x.client, 0), (0, tl2 x)) := by rw [bytesB_tl]; exact smR_enc fc.1 fc.2 rc _
  have r2 : smR 999 (s1 (bytesB x)) = ((x.seq, 0), (0, tl3 x)) := by unfold s1; rw [r1]; exact smR_enc (by omega) fq.2 rq _
  have r3 : smR 7 (s2 (bytesB x)) = ((x.kind, 0), (0, tl4 x)) := by unfold s2; rw [r2]; exact smR_enc (by omega) fk.2 rk _
  have r4 : txR 8 (s3 (bytesB x)) = ((x.acct, 0), (0, tl5 x)) := by unfold s3; rw [r3]; exact txR_enc (by omega) (by omega) _
  have r5 : txR 8 (s4 (bytesB x)) = ((x.peer, 0), (0, tl6 x)) := by unfold s4; rw [r4]; exact txR_enc (by omega) (by omega) _
  have r6 : nuR (s5 (bytesB x)) = ((x.sum, 0), (0, tl7 x)) := by unfold s5; rw [r5]; exact nuR_enc rs _
  have r7 : smR 6 (s6 (bytesB x)) = (((x.legs.length : Int), 0), (0, tl8 x)) := by unfold s6; rw [r6]; exact smR_enc (by omega) (by omega) ⟨by omega, by omega⟩ _
  have n7 : nLegs (bytesB x) = x.legs.length := by unfold nLegs; rw [r7]; simp
  have r8 : legsR (nLegs (bytesB x)) (s7 (bytesB x)) = (x.legs, (0, tl9 x)) := by unfold s7; rw [n7, r7]; exact legsR_enc _ _ fun y hy => ⟨fl.2 y hy, rl y hy⟩
  have r9 : smR 1000 (s8 (bytesB x)) = ((x.period, 0), (0, tl10 x)) := by unfold s8; rw [r8]; exact smR_enc fd.1 fd.2 rd _
  have r10 : smR 9999 (s9 (bytesB x)) = ((x.hold, 0), (0, tl11 x)) := by unfold s9; rw [r9]; exact smR_enc fh.1 fh.2 rh _
  have r11 : txR 20 (s10 (bytesB x)) = ((x.note, 0), (0, [])) := by unfold s10; rw [r10]; exact txR_enc (by omega) (by omega) _
  have hw : rawO (bytesB x) = x.core := by
    unfold rawO Od.core
    rw [r1, r2, r3, r4, r5, r6, r8, r9, r10, r11]
  refine ⟨?_, hw⟩
  unfold readOk
  rw [hw]
  unfold s11
  rw [r11, Bool.and_eq_true]
  exact ⟨rfl, (rightB_la x none 0).trans h⟩
/-- what is read was written -/
theorem back_law2 {l : List UInt8} (h : readOk l = true) : bytesB (rawO l) = l ∧ InR (rawO l) ∧ rightB (rawO l) = true := by
  unfold readOk at h
  rw [Bool.and_eq_true] at h
  obtain ⟨h, hR⟩ := h
  obtain ⟨h11, ht⟩ := doneRd_nil (of_decide_eq_true h)
  obtain ⟨h10, b11, _⟩ := txR_dec (m := 20) (s := s10 l) h11
  obtain ⟨h9, b10, _, _, q10⟩ := smR_dec (m := 9999) (s := s9 l) h10
  obtain ⟨h8, b9, _, _, q9⟩ := smR_dec (m := 1000) (s := s8 l) h9
  obtain ⟨h7, b8, q8⟩ := legsR_dec (nLegs l) (s7 l) h8
  obtain ⟨h6, b7, n0, _, _⟩ := smR_dec (m := 6) (s := s6 l) h7
  obtain ⟨h5, b6, q6⟩ := nuR_dec (s := s5 l) h6
  obtain ⟨h4, b5, _⟩ := txR_dec (m := 8) (s := s4 l) h5
  obtain ⟨h3, b4, _⟩ := txR_dec (m := 8) (s := s3 l) h4
  obtain ⟨h2, b3, _, _, q3⟩ := smR_dec (m := 7) (s := s2 l) h3
  obtain ⟨h1, b2, _, _, q2⟩ := smR_dec (m := 999) (s := s1 l) h2
  obtain ⟨_, b1, _, _, q1⟩ := smR_dec (m := 9) (s := ((0, l) : St)) h1
  have hlen : ((legsR (nLegs l) (s7 l)).1.length : Int) = (smR 6 (s6 l)).1.1 := by
    rw [(legsR_len (nLegs l) (s7 l)).2.1]
    unfold nLegs
    omega
  refine ⟨?_, ⟨q1, q2, q3, q6, q9, q10, q8⟩, hR⟩
  have b11 : (s10 l).2 = textB (txR 20 (s10 l)).1.1 ++ [] := by rw [← ht]; exact b11
  have b10 : (s9 l).2 = numB (smR 9999 (s9 l)).1.1 ++ (s10 l).2 := b10
  have b9 : (s8 l).2 = numB (smR 1000 (s8 l)).1.1 ++ (s9 l).2 := b9
  have b8 : (s7 l).2 = (legsR (nLegs l) (s7 l)).1.flatMap legBs ++ (s8 l).2 := b8
  have b7 : (s6 l).2 = numB (smR 6 (s6 l)).1.1 ++ (s7 l).2 := b7
  have b6 : (s5 l).2 = numB (nuR (s5 l)).1.1 ++ (s6 l).2 := b6
  have b5 : (s4 l).2 = textB (txR 8 (s4 l)).1.1 ++ (s5 l).2 := b5
  have b4 : (s3 l).2 = textB (txR 8 (s3 l)).1.1 ++ (s4 l).2 := b4
  have b3 : (s2 l).2 = numB (smR 7 (s2 l)).1.1 ++ (s3 l).2 := b3
  have b2 : (s1 l).2 = numB (smR 999 (s1 l)).1.1 ++ (s2 l).2 := b2
  have b1 : l = numB (smR 9 (0, l)).1.1 ++ (s1 l).2 := b1
  rw [bytesB_tl]
  unfold tl1 tl2 tl3 tl4 tl5 tl6 tl7 tl8 tl9 tl10 tl11
  have w1 : (rawO l).client = (smR 9 (0, l)).1.1 := rfl
  have w2 : (rawO l).seq = (smR 999 (s1 l)).1.1 := rfl
  have w3 : (rawO l).kind = (smR 7 (s2 l)).1.1 := rfl
  have w4 : (rawO l).acct = (txR 8 (s3 l)).1.1 := rfl
  have w5 : (rawO l).peer = (txR 8 (s4 l)).1.1 := rfl
  have w6 : (rawO l).sum = (nuR (s5 l)).1.1 := rfl
  have w7 : ((rawO l).legs.length : Int) = (smR 6 (s6 l)).1.1 := hlen
  have w8 : (rawO l).legs = (legsR (nLegs l) (s7 l)).1 := rfl
  have w9 : (rawO l).period = (smR 1000 (s8 l)).1.1 := rfl
  have w10 : (rawO l).hold = (smR 9999 (s9 l)).1.1 := rfl
  have w11 : (rawO l).note = (txR 20 (s10 l)).1.1 := rfl
  rw [w7, w1, w2, w3, w4, w5, w6, w8, w9, w10, w11, ← b11, ← b10, ← b9, ← b8, ← b7, ← b6, ← b5, ← b4, ← b3, ← b2, ← b1]
/-- orders that may be are the same just if their bytes are -/
theorem same_bytes {x y : Od} (hx : rightB x = true) (hy : rightB y = true) (rx : InR x) (ry : InR y) : sameB x y = (bytesB x == bytesB y) := by
  rw [Bool.eq_iff_iff, sameB_core, beq_iff_eq]
  constructor
  · intro e
    have : bytesB x.core = bytesB y.core := by rw [e]
    exact this
  · intro e
    rw [← (back_law1 hx rx).2, ← (back_law1 hy ry).2, e]
theorem sameB_refl (x : Od) : sameB x x = true := sameB_core.2 rfl
theorem sameB_symm (x y : Od) : sameB x y = sameB y x := by
  rw [Bool.eq_iff_iff, sameB_core, sameB_core]
  exact eq_comm
/-- of two Ids one is ahead, or they are the same -/
def aheadB (x y : Od) : Bool := if x.client ≠ y.client then decide (x.client < y.client) else decide (x.seq < y.seq)
theorem number_ahead {x y : Od} (hx : rightB x = true) (hy : rightB y = true) : decide (1000 * x.client + x.seq < 1000 * y.client + y.seq) = aheadB x y := by
  obtain ⟨fc, fq, _⟩ := fit_of hx
  obtain ⟨gc, gq, _⟩ := fit_of hy
  unfold aheadB
  rw [Bool.eq_iff_iff]
  split <;> simp only [decide_eq_true_eq] <;> omega
theorem bytesB_le {x : Od} (h : rightB x = true) (hr : InR x) : (bytesB x).length ≤ 60000 := by
  have hf := fine_of h
  obtain ⟨a, b, c, d, e, f, g⟩ := hr
  have l0 := legs_le hf.each x.legs.length g hf.legs
  rw [List.take_length] at l0
  have hl := hf.legs
  have n1 := numB_le a
  have n2 := numB_le b
  have n3 := numB_le c
  have n4 := numB_le d
  have n5 := numB_le e
  have n6 := numB_le f
  have n7 := numB_le (n := (x.legs.length : Int)) ⟨by omega, by omega⟩
  have m1 := textB_le hf.acct
  have m2 := textB_le hf.peer
  have m3 := textB_le hf.note
  unfold bytesB headBs
  generalize textB x.acct = t1 at *
  generalize textB x.peer = t2 at *
  generalize textB x.note = t3 at *
  simp only [List.length_append]
  omega
theorem cut10_in {x : Od} (h : InR x) : InR (cut10 x) := by
  obtain ⟨a, b, c, d, e, f, g⟩ := h
  exact ⟨a, b, c, d, e, f, fun l hl => g l (List.mem_of_mem_take hl)⟩
theorem rahead6_c (x y : Od) (w : World) : Calls Tryz.prog 72 #[.agg #[i64 x.client, i64 x.seq], .agg #[i64 y.client, i64 y.seq]] w fun e w' => e = .returned (.bool (aheadB x y)) ∧ Below w.heap.size w w' := by
  obtain ⟨v, hv⟩ : ∃ v, aheadB x y = v := ⟨_, rfl⟩
  rw [hv]
  unfold aheadB at hv
  generalize x.client = a at *
  generalize x.seq = b at *
  generalize y.client = c at *
  generalize y.seq = d at *
  have hb := ((Below.refl w.heap.size w).alloc (Nat.le_refl _) (.cells #[i64 a, i64 b] 47)).alloc (by simp) (.cells #[i64 c, i64 d] 47)
  by_cases h1 : a = c
  · rw [if_neg (by simpa using h1)] at hv
    have g1 : (a != c) = false := by simpa using h1
    have g2 : (a == c) = true := by simpa using h1
    have g3 : decide (a < c) = false := decide_eq_false (by omega)
    by_cases h2 : b < d
    · have g4 : decide (b < d) = true := decide_eq_true h2
      rw [g4] at hv
      subst hv
      clear h1 h2
      go_enter Tryz.func72, Tryz.ntmps72
      go_wp2
      go_ret
      exact ⟨rfl, hb⟩
    · have g4 : decide (b < d) = false := decide_eq_false h2
      rw [g4] at hv
      subst hv
      clear h1 h2
      go_enter Tryz.func72, Tryz.ntmps72
      go_wp2
      go_ret
      exact ⟨rfl, hb⟩
  · rw [if_pos (by simpa using h1)] at hv
    have g1 : (a != c) = true := by simpa using h1
    have g2 : (a == c) = false := by simpa using h1
    by_cases h2 : a < c
    · have g4 : decide (a < c) = true := decide_eq_true h2
      rw [g4] at hv
      subst hv
      clear h1 h2
      go_enter Tryz.func72, Tryz.ntmps72
      go_wp2
      go_ret
      exact ⟨rfl, hb⟩
    · have g4 : decide (a < c) = false := decide_eq_false h2
      rw [g4] at hv
      subst hv
      clear h1 h2
      go_enter Tryz.func72, Tryz.ntmps72
      go_wp2
      go_ret
      exact ⟨rfl, hb⟩
end Go.Proofs.YtdkkblhfjblpkaaGreat

/- cmp.Compare, cmp.Or of ints -/
namespace Go.Proofs.YtdkkblhfjblpkaaGreat
open Go.RowKit
def cmpI (s t : Int) : Int := if s < t then -1 else if t < s then 1 else 0
set_option maxRecDepth 100000 in
set_option maxHeartbeats 400000 in
theorem isNaNi_c (s : Int) (w : World) : Calls Tryz.prog 121 #[i64 s] w fun e w' => e = .returned (.bool false) ∧ w = w' := by
  go_enter Tryz.func121, Tryz.ntmps121
  go_wp2
  go_ret
  exact ⟨rfl, rfl⟩
set_option maxRecDepth 100000 in
set_option maxHeartbeats 2000000 in
theorem cmpI_c (s t : Int) (w : World) : Calls Tryz.prog 70 #[i64 s, i64 t] w fun e w' => e = .returned (i64 (cmpI s t)) ∧ w = w' := by
  have HC := Lib.hid (show cmpI s t = if s < t then -1 else if t < s then 1 else 0 from rfl)
  generalize cmpI s t = r at *
  go_enter Tryz.func70, Tryz.ntmps70
  go_wp2_with fail
  refine (isNaNi_c _ _).mono ?_
  rintro e w1 ⟨rfl, rfl⟩
  go_wp2_with fail
  refine (isNaNi_c _ _).mono ?_
  rintro e w1 ⟨rfl, rfl⟩
  by_cases h1 : s < t
  · have g1 : decide (s < t) = true := decide_eq_true h1
    have HR := Lib.hid (show r = -1 by rw [HC.out, if_pos h1])
    clear h1
    go_wp2
    go_ret
    exact ⟨by rw [HR.out]; rfl, rfl⟩
  · have g1 : decide (s < t) = false := decide_eq_false h1
    by_cases h2 : t < s
    · have g2 : decide (t < s) = true := decide_eq_true h2
      have HR := Lib.hid (show r = 1 by rw [HC.out, if_neg h1, if_pos h2])
      clear h1 h2
      go_wp2
      go_ret
      exact ⟨by rw [HR.out]; rfl, rfl⟩
    · have g2 : decide (t < s) = false := decide_eq_false h2
      have HR := Lib.hid (show r = 0 by rw [HC.out, if_neg h1, if_neg h2])
      clear h1 h2
      go_wp2
      go_ret
      exact ⟨by rw [HR.out]; rfl, rfl⟩
def orI (a b : Int) : Int := if a ≠ 0 then a else b
set_option maxRecDepth 100000 in
set_option maxHeartbeats 4000000 in
theorem orI_c (a b : Int) (g : Nat) (w : World) (h0 : w.cell? ⟨g, 0, none⟩ = some (i64 a)) (h1 : w.cell? ⟨g, 1, none⟩ = some (i64 b)) :
    Calls Tryz.prog 69 #[.slice (some ⟨g, 0, none⟩) 2 2] w fun e w' => e = .returned (i64 (orI a b)) ∧ w = w' := by
  have HC := Lib.hid (show orI a b = if a ≠ 0 then a else b from rfl)
  generalize orI a b = r at *
  go_enter Tryz.func69, Tryz.ntmps69
  go_wp2
  by_cases ha : a = 0
  · have HR := Lib.hid (show r = b by rw [HC.out, if_neg (by simpa using ha)])
    subst ha
    refine wp_loop_rounds 3 ?_
    rw [rounds_succ]
    by_cases hb : b = 0
    · have HR := Lib.hid (show r = 0 by rw [HR.out, hb])
      subst hb
      go_wp2
      rw [rounds_succ]
      go_wp2
      rw [rounds_succ]
      go_wp2
      go_ret
      exact ⟨by rw [HR.out]; rfl, rfl⟩
    · have g2 : (b != 0) = true := by simpa using hb
      clear hb
      go_wp2
      rw [rounds_succ]
      go_wp2
      go_ret
      exact ⟨by rw [HR.out]; rfl, rfl⟩
  · have g1 : (a != 0) = true := by simpa using ha
    have HR := Lib.hid (show r = a by rw [HC.out, if_pos ha])
    clear ha
    refine wp_loop_rounds 1 ?_
    rw [rounds_succ]
    go_wp2
    go_ret
    exact ⟨by rw [HR.out]; rfl, rfl⟩
end Go.Proofs.YtdkkblhfjblpkaaGreat
