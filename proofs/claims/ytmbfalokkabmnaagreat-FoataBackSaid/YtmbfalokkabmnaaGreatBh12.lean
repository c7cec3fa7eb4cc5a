/- Texts of this claim, laid together: Codec, RegL, RegM, CmpI, OrdK. -/
import Derived.Test.YtmbfalokkabmnaaGreatRows
import Derived.Test.YtmbfalokkabmnaaGreatBh11
import Derived.Test.YtmbfalokkabmnaaGreatBh6
import Derived.Test.YtmbfalokkabmnaaGreatBh5
import Derived.WalkKit
import Derived.WalkSpells
import Derived.WalkLawsBesides
import Derived.Deep.QuietTactic
import Derived.BigQuiet
import Derived.Laws.StructEq
import Derived.Deep.DeepFit
import Derived.StillTailTactics
import Derived.Deep.RegionHeld3
import Derived.Test.YtmbfalokkabmnaaGreatBh1
import Derived.Test.YtmbfalokkabmnaaGreatBh3

/- numbers, texts, replies: what is written is read again, what is read was written; an order's bytes are read again; what is read was written; orders are the same just if their bytes are; order.Ahead, the reference's Ahead -/
namespace Go.Proofs.YtmbfalokkabmnaaGreat
open Go.RowKit
theorem two_pow_step (i : Nat) (hi : i ≤ 8) : 2 ^ (64 - 7 * i) = 128 * 2 ^ (64 - 7 * (i + 1)) := by
  rw [show 64 - 7 * i = 7 + (64 - 7 * (i + 1)) from by omega, Nat.pow_add]
theorem seven_step (i : Nat) : 2 ^ (7 * (i + 1)) = 128 * 2 ^ (7 * i) := by
  rw [show 7 * (i + 1) = 7 + 7 * i from by omega, Nat.pow_add]
theorem uvR_enc : ∀ (f m i acc : Nat) (t : List UInt8), m < f → i ≤ 9 → m < 2 ^ (64 - 7 * i) → (0 < i → 0 < m) → uvR i acc (Lib.uvarint m ++ t) = .ok (acc + m * 2 ^ (7 * i), t)
  | 0, _, _, _, _, h, _, _, _ => absurd h (by omega)
  | f + 1, m, i, acc, t, hf, hi, hm, hp => by
    by_cases hs : m < 128
    · rw [Lib.uvarint_small hs, List.singleton_append, uvR]
      have hb : (m.toUInt8).toNat = m := Lib.toUInt8_toNat (by omega)
      rw [hb, if_neg (by
        rintro (h | ⟨h, h1⟩)
        · omega
        · subst h
          have : m < 2 ^ 1 := hm
          omega), if_neg (by rintro ⟨h, h1⟩; have := hp h1; omega), if_pos hs]
    · rw [Lib.uvarint_big (by omega), List.cons_append, uvR]
      have hb : ((m % 128 + 128).toUInt8).toNat = m % 128 + 128 := Lib.toUInt8_toNat (by omega)
      have hi8 : i ≤ 8 := by
        rcases Nat.lt_or_ge i 9 with h | h
        · omega
        · obtain rfl : i = 9 := by omega
          have : m < 2 ^ 1 := hm
          omega
      rw [two_pow_step i hi8] at hm
      rw [hb, if_neg (by omega), if_neg (by omega), if_neg (by omega), uvR_enc f (m / 128) (i + 1) _ t (by omega) (by omega) (Nat.div_lt_of_lt_mul hm) (fun _ => by omega)]
      congr 2
      rw [seven_step, show (m % 128 + 128) % 128 = m % 128 from by omega, Nat.add_assoc, Nat.mul_left_comm, ← Nat.mul_assoc, ← Nat.add_mul]
      congr 2
      omega
theorem uvR_dec : ∀ (l : List UInt8) (i acc M : Nat) (t : List UInt8), i ≤ 9 → uvR i acc l = .ok (M, t) → ∃ m, l = Lib.uvarint m ++ t ∧ M = acc + m * 2 ^ (7 * i) ∧ m < 2 ^ (64 - 7 * i) ∧ (0 < i → 0 < m)
  | [], _, _, _, _, _, h => by simp [uvR] at h
  | b :: r, i, acc, M, t, hi, h => by
    have hbl := b.toNat_lt
    rw [uvR] at h
    split at h
    · simp at h
    · rename_i h1
      split at h
      · simp at h
      · rename_i h2
        split at h
        · rename_i h3
          simp only [Except.ok.injEq, Prod.mk.injEq] at h
          obtain ⟨rfl, rfl⟩ := h
          refine ⟨b.toNat, ?_, rfl, ?_, fun hp => by omega⟩
          · rw [Lib.uvarint_small h3, List.singleton_append]
            congr 1
            simp
          · rcases Nat.lt_or_ge i 9 with h9 | h9
            · exact Nat.lt_of_lt_of_le h3 (Nat.pow_le_pow_right (n := 2) (by decide) (show 7 ≤ 64 - 7 * i by omega))
            · obtain rfl : i = 9 := by omega
              show b.toNat < 2
              omega
        · rename_i h3
          have hi8 : i ≤ 8 := by omega
          obtain ⟨m, rfl, rfl, hm, hp⟩ := uvR_dec r (i + 1) _ M t (by omega) h
          have hm0 := hp (Nat.succ_pos i)
          refine ⟨m * 128 + b.toNat % 128, ?_, ?_, ?_, fun _ => by omega⟩
          · rw [Lib.uvarint_big (show 128 ≤ m * 128 + b.toNat % 128 by omega), List.cons_append, show (m * 128 + b.toNat % 128) / 128 = m from by omega]
            congr 1
            rw [show (m * 128 + b.toNat % 128) % 128 + 128 = b.toNat from by omega]
            simp
          · rw [seven_step, Nat.add_mul, Nat.add_assoc, Nat.add_comm (b.toNat % 128 * 2 ^ (7 * i)), Nat.mul_assoc]
          · rw [two_pow_step i hi8]
            omega
theorem zig_unzig {n : Int} (h0 : -9223372036854775808 ≤ n) (h1 : n ≤ 9223372036854775807) : Lib.unzigzag (Lib.zigzag n) = n := by
  unfold Lib.unzigzag Lib.zigzag
  split <;> split <;> omega
theorem unzig_zig (m : Nat) : Lib.zigzag (Lib.unzigzag m) = m := by
  unfold Lib.unzigzag Lib.zigzag
  split <;> split <;> omega
theorem unzig_in {m : Nat} (h : m < 18446744073709551616) : -9223372036854775808 ≤ Lib.unzigzag m ∧ Lib.unzigzag m ≤ 9223372036854775807 := by
  unfold Lib.unzigzag
  split <;> omega
/-- what is written is read again -/
theorem numRd_enc {n : Int} (h0 : -9223372036854775808 ≤ n) (h1 : n ≤ 9223372036854775807) (t : List UInt8) : numRd 0 (numB n ++ t) = ((n, 0), (0, t)) := by
  have h := uvR_enc (Lib.zigzag n + 1) (Lib.zigzag n) 0 0 t (Nat.lt_succ_self _) (by decide) (by have := Lib.zigzag_lt h0 h1; exact this) (fun h => absurd h (by decide))
  rw [numRd_ok h]
  simp only [Nat.zero_add, Nat.mul_zero, Nat.pow_zero, Nat.mul_one, zig_unzig h0 h1]
theorem uvR_e : ∀ (l : List UInt8) (i acc : Nat) {e : Int}, uvR i acc l = .error e → e = 3 ∨ e = 4
  | [], _, _, _, h => by simp [uvR] at h; exact .inr h.symm
  | b :: r, i, acc, e, h => by
    rw [uvR] at h
    split at h
    · simp only [Except.error.injEq] at h
      split at h <;> omega
    · split at h
      · simp only [Except.error.injEq] at h; omega
      · split at h
        · simp at h
        · exact uvR_e r _ _ h
/-- what is read is written as just these bytes -/
theorem numRd_dec {l : List UInt8} (h : (numRd 0 l).1.2 = 0) : l = numB (numRd 0 l).1.1 ++ (numRd 0 l).2.2 ∧ -9223372036854775808 ≤ (numRd 0 l).1.1 ∧ (numRd 0 l).1.1 ≤ 9223372036854775807 := by
  cases hu : uvR 0 0 l with
  | error e =>
    rw [numRd_bad hu] at h
    have := uvR_e l 0 0 hu
    simp only at h
    omega
  | ok p =>
    obtain ⟨M, t⟩ := p
    rw [numRd_ok hu]
    obtain ⟨m, rfl, rfl, hm, _⟩ := uvR_dec l 0 0 M t (by decide) hu
    simp only [Nat.zero_add, Nat.mul_zero, Nat.pow_zero, Nat.mul_one]
    refine ⟨by unfold numB; rw [unzig_zig], unzig_in hm⟩
theorem nuR_enc {n : Int} (h : R64 n) (t : List UInt8) : nuR (0, numB n ++ t) = ((n, 0), (0, t)) := numRd_enc h.1 h.2 t
theorem smR_enc {n m : Int} (h0 : 0 ≤ n) (h1 : n ≤ m) (hr : R64 n) (t : List UInt8) : smR m (0, numB n ++ t) = ((n, 0), (0, t)) := by
  unfold smR rangeRd
  simp only [numRd_enc hr.1 hr.2 t]
  rw [if_neg (by simp), if_neg (by omega)]
theorem smR_out {n m : Int} (h : n < 0 ∨ m < n) (hr : R64 n) (t : List UInt8) : smR m (0, numB n ++ t) = ((0, 3), (3, [])) := by
  unfold smR rangeRd
  simp only [numRd_enc hr.1 hr.2 t]
  rw [if_neg (by simp), if_pos h]
theorem txR_enc {s : ByteArray} {m : Int} (h : (s.size : Int) ≤ m) (hs : s.size ≤ 100) (t : List UInt8) : txR m (0, textB s ++ t) = ((s, 0), (0, t)) := by
  have h1 := smR_enc (n := s.size) (m := m) (by omega) h ⟨by omega, by omega⟩ (s.data.toList ++ t)
  unfold smR at h1
  unfold txR textRd
  have e : textB s ++ t = numB s.size ++ (s.data.toList ++ t) := by unfold textB; rw [List.append_assoc]
  have hl : s.data.toList.length = s.size := by simp
  rw [e]
  simp only [h1]
  rw [if_neg (by simp), if_neg (by rw [List.length_append, hl]; omega)]
  simp only [Int.toNat_natCast]
  rw [← hl, List.take_left', List.drop_left']
  · rfl
  · rfl
theorem nuR_stay {e : Int} (h : e ≠ 0) (t : List UInt8) : nuR (e, t) = ((0, e), (e, t)) := numRd_err h t
theorem nuR_dec {s : St} (h : (nuR s).2.1 = 0) : s.1 = 0 ∧ s.2 = numB (nuR s).1.1 ++ (nuR s).2.2 ∧ R64 (nuR s).1.1 := by
  obtain ⟨e, l⟩ := s
  by_cases he : e = 0
  · subst he
    unfold nuR at *
    have h2 := (numRd_left 0 l).2
    obtain ⟨a, b, c⟩ := numRd_dec (l := l) (by rw [← h2]; exact h)
    exact ⟨rfl, a, b, c⟩
  · rw [nuR_stay he] at h
    exact absurd h he
theorem smR_dec {m : Int} {s : St} (h : (smR m s).2.1 = 0) : s.1 = 0 ∧ s.2 = numB (smR m s).1.1 ++ (smR m s).2.2 ∧ 0 ≤ (smR m s).1.1 ∧ (smR m s).1.1 ≤ m ∧ R64 (smR m s).1.1 := by
  obtain ⟨e, l⟩ := s
  have h2 := (rangeRd_left 0 m e l).2
  have h3 : (rangeRd 0 m e l).1.2 = 0 := by rw [← h2]; exact h
  have hin := rangeRd_in h3
  have hq : rangeRd 0 m e l = (((numRd e l).1.1, 0), (numRd e l).2) := by
    unfold rangeRd at h3 ⊢
    split
    · rename_i h4; rw [if_pos h4] at h3; exact absurd h3 h4
    · rename_i h4
      rw [if_neg h4] at h3
      split
      · rename_i h5; rw [if_pos h5] at h3; exact absurd h3 (by decide)
      · rfl
  unfold smR at *
  simp only [hq] at *
  obtain ⟨a, b, c⟩ := nuR_dec (s := (e, l)) h
  exact ⟨a, b, hin.1, hin.2, c⟩
theorem txR_dec {m : Int} {s : St} (h : (txR m s).2.1 = 0) : s.1 = 0 ∧ s.2 = textB (txR m s).1.1 ++ (txR m s).2.2 ∧ ((txR m s).1.1.size : Int) ≤ m := by
  obtain ⟨e, l⟩ := s
  by_cases h3 : (rangeRd 0 m e l).1.2 = 0
  · by_cases h4 : ((rangeRd 0 m e l).2.2.length : Int) < (rangeRd 0 m e l).1.1
    · unfold txR textRd at h
      rw [if_neg (by simpa using h3), if_pos h4] at h
      exact absurd h (by decide)
    · have h5 : (smR m (e, l)).2.1 = 0 := by rw [← h3]; exact (rangeRd_left 0 m e l).2
      obtain ⟨a, b, c, d, _⟩ := smR_dec h5
      simp only [smR] at a b c d
      have hq : txR m (e, l) = ((⟨((rangeRd 0 m e l).2.2.take (rangeRd 0 m e l).1.1.toNat).toArray⟩, 0), (0, (rangeRd 0 m e l).2.2.drop (rangeRd 0 m e l).1.1.toNat)) := by
        unfold txR textRd
        rw [if_neg (by simpa using h3), if_neg h4]
      rw [hq]
      generalize rangeRd 0 m e l = Q at *
      obtain ⟨⟨n, e1⟩, e2, t⟩ := Q
      simp only at *
      have hz : (t.take n.toNat).length = n.toNat := by rw [List.length_take]; omega
      have hz2 : (⟨(t.take n.toNat).toArray⟩ : ByteArray).size = n.toNat := by show (t.take n.toNat).toArray.size = n.toNat; rw [List.size_toArray, hz]
      refine ⟨a, ?_, by rw [hz2]; omega⟩
      unfold textB
      rw [hz2, Int.toNat_of_nonneg c, b, List.append_assoc]
      simp
  · unfold txR textRd at h
    rw [if_pos h3] at h
    exact absurd (((rangeRd_left 0 m e l).2).symm.trans h) h3
theorem doneRd_nil {e : Int} {t : List UInt8} (h : (doneRd e t).1 = 0) : e = 0 ∧ t = [] := by
  unfold doneRd at h
  split at h
  · rename_i h1; exact absurd h h1
  · rename_i h1
    split at h
    · exact absurd h (by decide)
    · rename_i h2
      exact ⟨by simpa using h1, by simpa using h2⟩
/-- replies -/
theorem told_law1 {x : Rp} (h : InP x) (hin : 0 ≤ x.err ∧ x.err ≤ 14) : toldOk (toldB x) = true ∧ readT (toldB x) = x := by
  obtain ⟨a, b, c, d⟩ := h
  have e1 : tq1 (toldB x) = ((x.err, 0), (0, numB x.hav ++ (numB x.set_ ++ (numB x.num ++ [])))) := by
    unfold tq1
    rw [show toldB x = numB x.err ++ (numB x.hav ++ (numB x.set_ ++ (numB x.num ++ []))) by simp [toldB]]
    exact smR_enc hin.1 hin.2 a _
  have e2 : tq2 (toldB x) = ((x.hav, 0), (0, numB x.set_ ++ (numB x.num ++ []))) := by unfold tq2; rw [e1]; exact nuR_enc b _
  have e3 : tq3 (toldB x) = ((x.set_, 0), (0, numB x.num ++ [])) := by unfold tq3; rw [e2]; exact nuR_enc c _
  have e4 : tq4 (toldB x) = ((x.num, 0), (0, [])) := by unfold tq4; rw [e3]; exact nuR_enc d _
  have h1 : toldOk (toldB x) = true := by unfold toldOk; rw [e4]; rfl
  refine ⟨h1, ?_⟩
  unfold readT rawT
  rw [h1, e1, e2, e3, e4]
  rfl
theorem told_law0 {x : Rp} (h : InP x) (hout : x.err < 0 ∨ 14 < x.err) : toldOk (toldB x) = false := by
  obtain ⟨a, b, c, d⟩ := h
  have e1 : tq1 (toldB x) = ((0, 3), (3, [])) := by
    unfold tq1 toldB
    rw [List.append_assoc, List.append_assoc]
    exact smR_out hout a _
  have e2 : tq2 (toldB x) = ((0, 3), (3, [])) := by unfold tq2; rw [e1]; exact nuR_stay (by decide) _
  have e3 : tq3 (toldB x) = ((0, 3), (3, [])) := by unfold tq3; rw [e2]; exact nuR_stay (by decide) _
  have e4 : tq4 (toldB x) = ((0, 3), (3, [])) := by unfold tq4; rw [e3]; exact nuR_stay (by decide) _
  unfold toldOk
  rw [e4]
  rfl
theorem told_law2 {l : List UInt8} (h : toldOk l = true) : toldB (readT l) = l ∧ InP (readT l) := by
  have e : readT l = rawT l := by unfold readT; rw [if_pos h]
  rw [e]
  unfold toldOk at h
  obtain ⟨h4, ht⟩ := doneRd_nil (of_decide_eq_true h)
  obtain ⟨h3, b4, r4⟩ := nuR_dec (s := (tq3 l).2) h4
  obtain ⟨h2, b3, r3⟩ := nuR_dec (s := (tq2 l).2) h3
  obtain ⟨h1, b2, r2⟩ := nuR_dec (s := (tq1 l).2) h2
  obtain ⟨_, b1, _, _, r1⟩ := smR_dec (m := 14) (s := ((0, l) : St)) h1
  refine ⟨?_, r1, r2, r3, r4⟩
  have b4 : (tq3 l).2.2 = numB (tq4 l).1.1 ++ (tq4 l).2.2 := b4
  have b3 : (tq2 l).2.2 = numB (tq3 l).1.1 ++ (tq3 l).2.2 := b3
  have b2 : (tq1 l).2.2 = numB (tq2 l).1.1 ++ (tq2 l).2.2 := b2
  have b1 : l = numB (tq1 l).1.1 ++ (tq1 l).2.2 := b1
  unfold toldB rawT
  rw [ht, List.append_nil] at b4
  conv => rhs; rw [b1, b2, b3, b4]
  simp only [List.append_assoc]
theorem periodB_in {n : Int} (h : periodB n = true) : 1 ≤ n ∧ n ≤ 1000 := by
  unfold periodB at h
  simpa only [Bool.and_eq_true, decide_eq_true_eq] using h
theorem heldB_in {n : Int} (h : heldB n = true) : 1 ≤ n ∧ n ≤ 9999 := by
  unfold heldB at h
  simpa only [Bool.and_eq_true, decide_eq_true_eq] using h
/-- what a right order's parts are like, sharply -/
structure Fit (x : Od) : Prop where
  cl : 0 ≤ x.client ∧ x.client ≤ 9
  sq : 1 ≤ x.seq ∧ x.seq ≤ 999
  kd : 1 ≤ x.kind ∧ x.kind ≤ 7
  acct : x.acct.size ≤ 8
  peer : x.peer.size ≤ 8
  note : x.note.size ≤ 20
  legs : x.legs.length ≤ 6 ∧ ∀ l ∈ x.legs, l.acct.size ≤ 8
  per : 0 ≤ x.period ∧ x.period ≤ 1000
  hld : 0 ≤ x.hold ∧ x.hold ≤ 9999
theorem fit_of {x : Od} (h : rightB x = true) : Fit x := by
  unfold rightB at h
  simp only [Bool.and_eq_true, decide_eq_true_eq] at h
  obtain ⟨hk, ⟨hc, hq⟩, hs, hf⟩ := h
  by_cases h1 : x.kind = 1
  · have e1 : bareO x = bare1 x := by unfold bareO; rw [if_pos h1]
    have e2 : fitsO x = fits1 x := by unfold fitsO; rw [if_pos h1]
    rw [e1] at hs
    rw [e2] at hf
    obtain ⟨ea, ep, en, -, -, -, epd, eh, el⟩ := hs
    simp only [fits1, Bool.and_eq_true, decide_eq_true_eq] at hf
    exact ⟨hc, hq, hk, nameB_size (hf.1), by rw [show x.peer = ⟨#[]⟩ from ep]; decide, by rw [show x.note = ⟨#[]⟩ from en]; decide, by rw [show x.legs = [] from el]; exact ⟨by decide, fun l hl => by simp at hl⟩, by rw [show x.period = 0 from epd]; decide, by rw [show x.hold = 0 from eh]; decide⟩
  by_cases h2 : x.kind = 2
  · have e1 : bareO x = bare2 x := by unfold bareO; rw [if_neg h1, if_pos h2]
    have e2 : fitsO x = fits2 x := by unfold fitsO; rw [if_neg h1, if_pos h2]
    rw [e1] at hs
    rw [e2] at hf
    obtain ⟨ea, ep, en, -, -, -, epd, eh, el⟩ := hs
    simp only [fits2, Bool.and_eq_true, decide_eq_true_eq] at hf
    exact ⟨hc, hq, hk, by rw [show x.acct = ⟨#[]⟩ from ea]; decide, by rw [show x.peer = ⟨#[]⟩ from ep]; decide, by have := hf.2; omega, ⟨(legsB_fine hf.1.1).1, fun l hl => nameB_size ((legsB_fine hf.1.1).2 l hl)⟩, by have := periodB_in (hf.1.2); omega, by rw [show x.hold = 0 from eh]; decide⟩
  by_cases h3 : x.kind = 3
  · have e1 : bareO x = bare3 x := by unfold bareO; rw [if_neg h1, if_neg h2, if_pos h3]
    have e2 : fitsO x = fits3 x := by unfold fitsO; rw [if_neg h1, if_neg h2, if_pos h3]
    rw [e1] at hs
    rw [e2] at hf
    obtain ⟨ea, ep, en, -, -, -, epd, eh, el⟩ := hs
    simp only [fits3, Bool.and_eq_true, decide_eq_true_eq] at hf
    exact ⟨hc, hq, hk, nameB_size (hf.1), by rw [show x.peer = ⟨#[]⟩ from ep]; decide, by rw [show x.note = ⟨#[]⟩ from en]; decide, by rw [show x.legs = [] from el]; exact ⟨by decide, fun l hl => by simp at hl⟩, by rw [show x.period = 0 from epd]; decide, by rw [show x.hold = 0 from eh]; decide⟩
  by_cases h4 : x.kind = 4
  · have e1 : bareO x = bare4 x := by unfold bareO; rw [if_neg h1, if_neg h2, if_neg h3, if_pos h4]
    have e2 : fitsO x = fits4 x := by unfold fitsO; rw [if_neg h1, if_neg h2, if_neg h3, if_pos h4]
    rw [e1] at hs
    rw [e2] at hf
    obtain ⟨ea, ep, en, -, -, -, epd, eh, el⟩ := hs
    simp only [fits4, Bool.and_eq_true, decide_eq_true_eq] at hf
    exact ⟨hc, hq, hk, nameB_size (hf.1.1.1.1.1), nameB_size (hf.1.1.1.1.2), by rw [show x.note = ⟨#[]⟩ from en]; decide, by rw [show x.legs = [] from el]; exact ⟨by decide, fun l hl => by simp at hl⟩, by have := periodB_in (hf.2); omega, by have := heldB_in (hf.1.2); omega⟩
  by_cases h5 : x.kind = 5
  · have e1 : bareO x = bare5 x := by unfold bareO; rw [if_neg h1, if_neg h2, if_neg h3, if_neg h4, if_pos h5]
    have e2 : fitsO x = fits5 x := by unfold fitsO; rw [if_neg h1, if_neg h2, if_neg h3, if_neg h4, if_pos h5]
    rw [e1] at hs
    rw [e2] at hf
    obtain ⟨ea, ep, en, -, -, -, epd, eh, el⟩ := hs
    simp only [fits5, Bool.and_eq_true] at hf
    exact ⟨hc, hq, hk, nameB_size (hf.1), by rw [show x.peer = ⟨#[]⟩ from ep]; decide, by rw [show x.note = ⟨#[]⟩ from en]; decide, by rw [show x.legs = [] from el]; exact ⟨by decide, fun l hl => by simp at hl⟩, by rw [show x.period = 0 from epd]; decide, by have := heldB_in (hf.2); omega⟩
  by_cases h6 : x.kind = 6
  · have e1 : bareO x = bare6 x := by unfold bareO; rw [if_neg h1, if_neg h2, if_neg h3, if_neg h4, if_neg h5, if_pos h6]
    have e2 : fitsO x = fits6 x := by unfold fitsO; rw [if_neg h1, if_neg h2, if_neg h3, if_neg h4, if_neg h5, if_pos h6]
    rw [e1] at hs
    rw [e2] at hf
    obtain ⟨ea, ep, en, -, -, -, epd, eh, el⟩ := hs
    unfold fits6 at hf
    exact ⟨hc, hq, hk, by rw [show x.acct = ⟨#[]⟩ from ea]; decide, by rw [show x.peer = ⟨#[]⟩ from ep]; decide, by rw [show x.note = ⟨#[]⟩ from en]; decide, by rw [show x.legs = [] from el]; exact ⟨by decide, fun l hl => by simp at hl⟩, by have := periodB_in (hf); omega, by rw [show x.hold = 0 from eh]; decide⟩
  by_cases h7 : x.kind = 7
  · have e1 : bareO x = bare7 x := by unfold bareO; rw [if_neg h1, if_neg h2, if_neg h3, if_neg h4, if_neg h5, if_neg h6]
    have e2 : fitsO x = nameB x.acct := by unfold fitsO; rw [if_neg h1, if_neg h2, if_neg h3, if_neg h4, if_neg h5, if_neg h6]
    rw [e1] at hs
    rw [e2] at hf
    obtain ⟨ea, ep, en, -, -, -, epd, eh, el⟩ := hs
    exact ⟨hc, hq, hk, nameB_size (hf), by rw [show x.peer = ⟨#[]⟩ from ep]; decide, by rw [show x.note = ⟨#[]⟩ from en]; decide, by rw [show x.legs = [] from el]; exact ⟨by decide, fun l hl => by simp at hl⟩, by rw [show x.period = 0 from epd]; decide, by rw [show x.hold = 0 from eh]; decide⟩
  omega
theorem legsR_enc : ∀ (L : List Leg) (t : List UInt8), (∀ y ∈ L, y.acct.size ≤ 8 ∧ R64 y.sum) → legsR L.length (0, L.flatMap legBs ++ t) = (L, (0, t))
  | [], _, _ => rfl
  | y :: r, t, h => by
    have h0 := h y (by simp)
    have e : (y :: r).flatMap legBs ++ t = textB y.acct ++ (numB y.sum ++ (r.flatMap legBs ++ t)) := by
      rw [List.flatMap_cons]
      unfold legBs
      simp only [List.append_assoc]
    have e1 := txR_enc (s := y.acct) (m := 8) (by have := h0.1; omega) (by have := h0.1; omega) (numB y.sum ++ (r.flatMap legBs ++ t))
    have e2 := nuR_enc h0.2 (r.flatMap legBs ++ t)
    rw [e, List.length_cons]
    simp only [legsR, e1, e2, legsR_enc r t fun z hz => h z (by simp [hz])]
theorem legsR_dec : ∀ (n : Nat) (s : St), (legsR n s).2.1 = 0 → s.1 = 0 ∧ s.2 = (legsR n s).1.flatMap legBs ++ (legsR n s).2.2 ∧ ∀ y ∈ (legsR n s).1, R64 y.sum
  | 0, s, h => ⟨h, by simp [legsR], by simp [legsR]⟩
  | n + 1, s, h => by
    simp only [legsR] at h ⊢
    obtain ⟨a3, b3, c3⟩ := legsR_dec n (nuR (txR 8 s).2).2 h
    obtain ⟨a2, b2, c2⟩ := nuR_dec (s := (txR 8 s).2) a3
    obtain ⟨a1, b1, _⟩ := txR_dec (m := 8) (s := s) a2
    refine ⟨a1, ?_, fun y hy => ?_⟩
    · conv => lhs; rw [b1, b2, b3]
      simp only [List.flatMap_cons, legBs, List.append_assoc]
    · simp only [List.mem_cons] at hy
      rcases hy with rfl | hy
      · exact c2
      · exact c3 y hy
def tl11 (x : Od) : List UInt8 := textB x.note ++ []
def tl10 (x : Od) : List UInt8 := numB x.hold ++ tl11 x
def tl9 (x : Od) : List UInt8 := numB x.period ++ tl10 x
def tl8 (x : Od) : List UInt8 := x.legs.flatMap legBs ++ tl9 x
def tl7 (x : Od) : List UInt8 := numB x.legs.length ++ tl8 x
def tl6 (x : Od) : List UInt8 := numB x.sum ++ tl7 x
def tl5 (x : Od) : List UInt8 := textB x.peer ++ tl6 x
def tl4 (x : Od) : List UInt8 := textB x.acct ++ tl5 x
def tl3 (x : Od) : List UInt8 := numB x.kind ++ tl4 x
def tl2 (x : Od) : List UInt8 := numB x.seq ++ tl3 x
def tl1 (x : Od) : List UInt8 := numB x.client ++ tl2 x
theorem bytesB_tl (x : Od) : bytesB x = tl1 x := by
  unfold bytesB headBs tl1 tl2 tl3 tl4 tl5 tl6 tl7 tl8 tl9 tl10 tl11
  simp only [List.append_assoc, List.append_nil]
/-- what is written is read again -/
theorem back_law1 {x : Od} (h : rightB x = true) (hr : InR x) : readOk (bytesB x) = true ∧ rawO (bytesB x) = x.core := by
  obtain ⟨fc, fq, fk, fa, fp, fn, fl, fd, fh⟩ := fit_of h
  obtain ⟨rc, rq, rk, rs, rd, rh, rl⟩ := hr
  have r1 : smR 9 (0, bytesB x) = ((x.client, 0), (0, tl2 x)) := by rw [bytesB_tl]; exact smR_enc fc.1 fc.2 rc _
  have r2 : smR 999 (s1 (bytesB x)) = ((x.seq, 0), (0, tl3 x)) := by unfold s1; rw [r1]; exact smR_enc (by omega) fq.2 rq _
  have r3 : smR 7 (s2 (bytesB x)) = ((x.kind, 0), (0, tl4 x)) := by unfold s2; rw [r2]; exact smR_enc (by omega) fk.2 rk _
  have r4 : txR 8 (s3 (bytesB x)) = ((x.acct, 0), (0, tl5 x)) := by unfold s3; rw [r3]; exact txR_enc (by omega) (by omega) _
  have r5 : txR 8 (s4 (bytesB x)) = ((x.peer, 0), (0, tl6 x)) := by unfold s4; rw [r4]; exact txR_enc (by omega) (by omega) _
  have r6 : nuR (s5 (bytesB x)) = ((x.sum, 0), (0, tl7 x)) := by unfold s5; rw [r5]; exact nuR_enc rs _
  have r7 : smR 6 (s6 (bytesB x)) = (((x.legs.length : Int), 0), (0, tl8 x)) := by unfold s6; rw [r6]; exact smR_enc (by omega) (by omega) ⟨by omega, by omega⟩ _
  have n7 : nLegs (bytesB x) = x.legs.length := by unfold nLegs; rw [r7]; simp
  have r8 : legsR (nLegs (bytesB x)) (s7 (bytesB x)) = (x.legs, (0, tl9 x)) := by unfold s7; rw [n7, r7]; exact legsR_enc _ _ fun y hy => ⟨fl.2 y hy, rl y hy⟩
  have r9 : smR 1000 (s8 (bytesB x)) = ((x.period, 0), (0, tl10 x)) := by unfold s8; rw [r8]; exact smR_enc fd.1 fd.2 rd _
  have r10 : smR 9999 (s9 (bytesB x)) = ((x.hold, 0), (0, tl11 x)) := by unfold s9; rw [r9]; exact smR_enc fh.1 fh.2 rh _
  have r11 : txR 20 (s10 (bytesB x)) = ((x.note, 0), (0, [])) := by unfold s10; rw [r10]; exact txR_enc (by omega) (by omega) _
  have hw : rawO (bytesB x) = x.core := by
    unfold rawO Od.core
    rw [r1, r2, r3, r4, r5, r6, r8, r9, r10, r11]
  refine ⟨?_, hw⟩
  unfold readOk
  rw [hw]
  unfold s11
  rw [r11, Bool.and_eq_true]
  exact ⟨rfl, (rightB_la x none 0).trans h⟩
/-- what is read was written -/
theorem back_law2 {l : List UInt8} (h : readOk l = true) : bytesB (rawO l) = l ∧ InR (rawO l) ∧ rightB (rawO l) = true := by
  unfold readOk at h
  rw [Bool.and_eq_true] at h
  obtain ⟨h, hR⟩ := h
  obtain ⟨h11, ht⟩ := doneRd_nil (of_decide_eq_true h)
  obtain ⟨h10, b11, _⟩ := txR_dec (m := 20) (s := s10 l) h11
  obtain ⟨h9, b10, _, _, q10⟩ := smR_dec (m := 9999) (s := s9 l) h10
  obtain ⟨h8, b9, _, _, q9⟩ := smR_dec (m := 1000) (s := s8 l) h9
  obtain ⟨h7, b8, q8⟩ := legsR_dec (nLegs l) (s7 l) h8
  obtain ⟨h6, b7, n0, _, _⟩ := smR_dec (m := 6) (s := s6 l) h7
  obtain ⟨h5, b6, q6⟩ := nuR_dec (s := s5 l) h6
  obtain ⟨h4, b5, _⟩ := txR_dec (m := 8) (s := s4 l) h5
  obtain ⟨h3, b4, _⟩ := txR_dec (m := 8) (s := s3 l) h4
  obtain ⟨h2, b3, _, _, q3⟩ := smR_dec (m := 7) (s := s2 l) h3
  obtain ⟨h1, b2, _, _, q2⟩ := smR_dec (m := 999) (s := s1 l) h2
  obtain ⟨_, b1, _, _, q1⟩ := smR_dec (m := 9) (s := ((0, l) : St)) h1
  have hlen : ((legsR (nLegs l) (s7 l)).1.length : Int) = (smR 6 (s6 l)).1.1 := by
    rw [(legsR_len (nLegs l) (s7 l)).2.1]
    unfold nLegs
    omega
  refine ⟨?_, ⟨q1, q2, q3, q6, q9, q10, q8⟩, hR⟩
  have b11 : (s10 l).2 = textB (txR 20 (s10 l)).1.1 ++ [] := by rw [← ht]; exact b11
  have b10 : (s9 l).2 = numB (smR 9999 (s9 l)).1.1 ++ (s10 l).2 := b10
  have b9 : (s8 l).2 = numB (smR 1000 (s8 l)).1.1 ++ (s9 l).2 := b9
  have b8 : (s7 l).2 = (legsR (nLegs l) (s7 l)).1.flatMap legBs ++ (s8 l).2 := b8
  have b7 : (s6 l).2 = numB (smR 6 (s6 l)).1.1 ++ (s7 l).2 := b7
  have b6 : (s5 l).2 = numB (nuR (s5 l)).1.1 ++ (s6 l).2 := b6
  have b5 : (s4 l).2 = textB (txR 8 (s4 l)).1.1 ++ (s5 l).2 := b5
  have b4 : (s3 l).2 = textB (txR 8 (s3 l)).1.1 ++ (s4 l).2 := b4
  have b3 : (s2 l).2 = numB (smR 7 (s2 l)).1.1 ++ (s3 l).2 := b3
  have b2 : (s1 l).2 = numB (smR 999 (s1 l)).1.1 ++ (s2 l).2 := b2
  have b1 : l = numB (smR 9 (0, l)).1.1 ++ (s1 l).2 := b1
  rw [bytesB_tl]
  unfold tl1 tl2 tl3 tl4 tl5 tl6 tl7 tl8 tl9 tl10 tl11
  have w1 : (rawO l).client = (smR 9 (0, l)).1.1 := rfl
  have w2 : (rawO l).seq = (smR 999 (s1 l)).1.1 := rfl
  have w3 : (rawO l).kind = (smR 7 (s2 l)).1.1 := rfl
  have w4 : (rawO l).acct = (txR 8 (s3 l)).1.1 := rfl
  have w5 : (rawO l).peer = (txR 8 (s4 l)).1.1 := rfl
  have w6 : (rawO l).sum = (nuR (s5 l)).1.1 := rfl
  have w7 : ((rawO l).legs.length : Int) = (smR 6 (s6 l)).1.1 := hlen
  have w8 : (rawO l).legs = (legsR (nLegs l) (s7 l)).1 := rfl
  have w9 : (rawO l).period = (smR 1000 (s8 l)).1.1 := rfl
  have w10 : (rawO l).hold = (smR 9999 (s9 l)).1.1 := rfl
  have w11 : (rawO l).note = (txR 20 (s10 l)).1.1 := rfl
  rw [w7, w1, w2, w3, w4, w5, w6, w8, w9, w10, w11, ← b11, ← b10, ← b9, ← b8, ← b7, ← b6, ← b5, ← b4, ← b3, ← b2, ← b1]
/-- orders that may be are the same just if their bytes are -/
theorem same_bytes {x y : Od} (hx : rightB x = true) (hy : rightB y = true) (rx : InR x) (ry : InR y) : sameB x y = (bytesB x == bytesB y) := by
  rw [Bool.eq_iff_iff, sameB_core, beq_iff_eq]
  constructor
  · intro e
    have : bytesB x.core = bytesB y.core := by rw [e]
    exact this
  · intro e
    rw [← (back_law1 hx rx).2, ← (back_law1 hy ry).2, e]
theorem sameB_refl (x : Od) : sameB x x = true := sameB_core.2 rfl
theorem sameB_symm (x y : Od) : sameB x y = sameB y x := by
  rw [Bool.eq_iff_iff, sameB_core, sameB_core]
  exact eq_comm
/-- of two Ids one is ahead, or they are the same -/
def aheadB (x y : Od) : Bool := if x.client ≠ y.client then decide (x.client < y.client) else decide (x.seq < y.seq)
theorem number_ahead {x y : Od} (hx : rightB x = true) (hy : rightB y = true) : decide (1000 * x.client + x.seq < 1000 * y.client + y.seq) = aheadB x y := by
  obtain ⟨fc, fq, _⟩ := fit_of hx
  obtain ⟨gc, gq, _⟩ := fit_of hy
  unfold aheadB
  rw [Bool.eq_iff_iff]
  split <;> simp only [decide_eq_true_eq] <;> omega
theorem bytesB_le {x : Od} (h : rightB x = true) (hr : InR x) : (bytesB x).length ≤ 60000 := by
  have hf := fine_of h
  obtain ⟨a, b, c, d, e, f, g⟩ := hr
  have l0 := legs_le hf.each x.legs.length g hf.legs
  rw [List.take_length] at l0
  have hl := hf.legs
  have n1 := numB_le a
  have n2 := numB_le b
  have n3 := numB_le c
  have n4 := numB_le d
  have n5 := numB_le e
  have n6 := numB_le f
  have n7 := numB_le (n := (x.legs.length : Int)) ⟨by omega, by omega⟩
  have m1 := textB_le hf.acct
  have m2 := textB_le hf.peer
  have m3 := textB_le hf.note
  unfold bytesB headBs
  generalize textB x.acct = t1 at *
  generalize textB x.peer = t2 at *
  generalize textB x.note = t3 at *
  simp only [List.length_append]
  omega
theorem cut10_in {x : Od} (h : InR x) : InR (cut10 x) := by
  obtain ⟨a, b, c, d, e, f, g⟩ := h
  exact ⟨a, b, c, d, e, f, fun l hl => g l (List.mem_of_mem_take hl)⟩
theorem rahead6_c (x y : Od) (w : World) : Calls Tryz.prog 49 #[.agg #[i64 x.client, i64 x.seq], .agg #[i64 y.client, i64 y.seq]] w fun e w' => e = .returned (.bool (aheadB x y)) ∧ Below w.heap.size w w' := by
  obtain ⟨v, hv⟩ : ∃ v, aheadB x y = v := ⟨_, rfl⟩
  rw [hv]
  unfold aheadB at hv
  generalize x.client = a at *
  generalize x.seq = b at *
  generalize y.client = c at *
  generalize y.seq = d at *
  have hb := ((Below.refl w.heap.size w).alloc (Nat.le_refl _) (.cells #[i64 a, i64 b] 43)).alloc (by simp) (.cells #[i64 c, i64 d] 43)
  by_cases h1 : a = c
  · rw [if_neg (by simpa using h1)] at hv
    have g1 : (a != c) = false := by simpa using h1
    have g2 : (a == c) = true := by simpa using h1
    have g3 : decide (a < c) = false := decide_eq_false (by omega)
    by_cases h2 : b < d
    · have g4 : decide (b < d) = true := decide_eq_true h2
      rw [g4] at hv
      subst hv
      clear h1 h2
      go_enter Tryz.func49, Tryz.ntmps49
      go_wp2
      go_ret
      exact ⟨rfl, hb⟩
    · have g4 : decide (b < d) = false := decide_eq_false h2
      rw [g4] at hv
      subst hv
      clear h1 h2
      go_enter Tryz.func49, Tryz.ntmps49
      go_wp2
      go_ret
      exact ⟨rfl, hb⟩
  · rw [if_pos (by simpa using h1)] at hv
    have g1 : (a != c) = true := by simpa using h1
    have g2 : (a == c) = false := by simpa using h1
    by_cases h2 : a < c
    · have g4 : decide (a < c) = true := decide_eq_true h2
      rw [g4] at hv
      subst hv
      clear h1 h2
      go_enter Tryz.func49, Tryz.ntmps49
      go_wp2
      go_ret
      exact ⟨rfl, hb⟩
    · have g4 : decide (a < c) = false := decide_eq_false h2
      rw [g4] at hv
      subst hv
      clear h1 h2
      go_enter Tryz.func49, Tryz.ntmps49
      go_wp2
      go_ret
      exact ⟨rfl, hb⟩
end Go.Proofs.YtmbfalokkabmnaaGreat

/- A region that draws its order, its last operation one that waits for all others: S need not hold behind that one. No program. -/
namespace Go.Proofs.YtmbfalokkabmnaaGreat
open Go.RowKit

section
variable {P : Program} {ops : Array Oper} {Q : Exit → Act → World → Prop} {md : Region.Mode} {S : World → Prop} {d : Nat}
def wpAnyL (P : Program) (md : Region.Mode) (ops : Array Oper) (Q : Exit → Act → World → Prop) (S : World → Prop) (d : Nat) : Nat → Array Bool → Act → World → Prop
  | 0, listed, a, w => Region.ready md ops listed = [] ∧ Q .normal a w
  | fuel + 1, listed, a, w =>
    (Region.ready md ops listed = [] → Q .normal a w) ∧
    ∀ i ∈ Region.ready md ops listed, wpOp P ops Q i (fun a' w' => (i ≠ d → S w') ∧ wpAnyL P md ops Q S d fuel (listed.setIfInBounds i true) a' w') a w
theorem wpAny_of_l : ∀ (fuel : Nat) (listed : Array Bool) (a : Act) (w : World), wpAnyL P md ops Q S d fuel listed a w → wpAny P md ops Q fuel listed a w
  | 0, _, _, _, h => h
  | fuel + 1, _, _, _, h => ⟨h.1, fun i hi => wpOp_mono (fun a' w' h' => wpAny_of_l fuel _ a' w' h'.2) (h.2 i hi)⟩
/-- which operations wait for operation i, straight or through others -/
def depGo (md : Region.Mode) (i : Nat) : List Oper → Array Bool → Array Bool
  | [], acc => acc
  | o :: r, acc => depGo md i r (acc.push (o.after.any fun e => Region.binds md e && (e.on == i || acc.getD e.on false)))
def waits (md : Region.Mode) (ops : Array Oper) (d i : Nat) : Bool := (depGo md i ops.toList #[]).getD d false
/-- what is listed, all that it waits for is listed -/
def Closed (md : Region.Mode) (ops : Array Oper) (listed : Array Bool) : Prop := ∀ j oj, ops[j]? = some oj → listed.getD j true = true → ∀ e ∈ oj.after, Region.binds md e = true → listed.getD e.on true = true
theorem getD_up {listed : Array Bool} {k : Nat} (h : listed.getD k false = true) : listed.getD k true = true := by
  rw [Array.getD_eq_getD_getElem?] at h ⊢
  cases hk : listed[k]? with
  | none => rfl
  | some v => rw [hk] at h; exact h
def Good (md : Region.Mode) (ops : Array Oper) (listed : Array Bool) (i : Nat) (acc : Array Bool) : Prop := ∀ j, acc.getD j false = true → ∀ oj, ops[j]? = some oj → (∀ e ∈ oj.after, Region.binds md e = true → listed.getD e.on true = true) → listed.getD i true = true
theorem depGo_good {listed : Array Bool} (hc : Closed md ops listed) {i : Nat} : ∀ (r : List Oper) (pre : List Oper) (acc : Array Bool), ops.toList = pre ++ r → acc.size = pre.length → Good md ops listed i acc → Good md ops listed i (depGo md i r acc)
  | [], _, _, _, _, hg => hg
  | o :: r, pre, acc, he, hs, hg => by
    unfold depGo
    refine depGo_good hc r (pre ++ [o]) _ (by rw [he]; simp) (by simp [hs]) fun j hj oj hoj hall => ?_
    rw [Array.getD_eq_getD_getElem?, Array.getElem?_push] at hj
    by_cases hje : j = acc.size
    · rw [if_pos hje] at hj
      have ho : oj = o := by
        have h1 : ops.toList[j]? = some oj := by rw [Array.getElem?_toList]; exact hoj
        rw [he, hje, hs, List.getElem?_append_right (Nat.le_refl _), Nat.sub_self] at h1
        simpa using h1.symm
      subst ho
      obtain ⟨e, hem, hb⟩ := Array.any_eq_true'.1 (show (oj.after.any fun e => Region.binds md e && (e.on == i || acc.getD e.on false)) = true from hj)
      rw [Bool.and_eq_true, Bool.or_eq_true, beq_iff_eq] at hb
      have hl := hall e hem hb.1
      rcases hb.2 with h1 | h1
      · rw [← h1]; exact hl
      · cases ho : ops[e.on]? with
        | none =>
          have h2 : acc.getD e.on false = false := by
            have hsz : acc.size ≤ ops.size := by
              have := congrArg List.length he
              simp at this
              omega
            rw [Array.getElem?_eq_none_iff] at ho
            rw [Array.getD_eq_getD_getElem?, Array.getElem?_eq_none (by omega)]
            rfl
          rw [h2] at h1; cases h1
        | some oe => exact hg e.on h1 oe ho fun e' he' hb' => hc e.on oe ho hl e' he' hb'
    · rw [if_neg hje] at hj
      exact hg j (by rw [Array.getD_eq_getD_getElem?]; exact hj) oj hoj hall
theorem waits_listed {listed : Array Bool} (hc : Closed md ops listed) {i d : Nat} (od : Oper) (hd : ops[d]? = some od) (hall : ∀ e ∈ od.after, Region.binds md e = true → listed.getD e.on true = true) (h : waits md ops d i = true) : listed.getD i true = true :=
  depGo_good hc ops.toList [] #[] (by simp) rfl (fun j hj => by simp [Array.getD] at hj) d h od hd hall
theorem Closed.set {listed : Array Bool} (hc : Closed md ops listed) {j : Nat} {oj : Oper} (hoj : ops[j]? = some oj) (hall : ∀ e ∈ oj.after, Region.binds md e = true → listed.getD e.on true = true) : Closed md ops (listed.setIfInBounds j true) := fun k ok hk hl e he hb => by
  have up : ∀ m, listed.getD m true = true → (listed.setIfInBounds j true).getD m true = true := fun m hm => by
    by_cases hjm : j = m
    · subst hjm
      rw [Array.getD_eq_getD_getElem?, Array.getElem?_setIfInBounds]
      split <;> (try split) <;> simp_all
    · rw [getD_set_ne true hjm]; exact hm
  by_cases hjk : j = k
  · subst hjk
    rw [hoj] at hk
    injection hk with hk
    subst hk
    exact up _ (hall e he hb)
  · rw [getD_set_ne true hjk] at hl
    exact up _ (hc k ok hk hl e he hb)
theorem wpAnyL_first {i : Nat} {oi : Oper} {v : Value} (hi : ops[i]? = some oi) (hd : waits md ops d i = true) (hsel : ∀ (j : Nat) (o : Oper) cs b, ops[j]? = some o → o.op ≠ .select cs b)
    (hQ : ∀ c a w, Q (.panic c) (a.put oi.dst v) w → Q (.panic c) a w) :
    ∀ (fuel : Nat) (listed : Array Bool) (a : Act) (w : World),
      (∀ j oj, ops[j]? = some oj → j ≠ i → listed.getD j true = false → (∀ e ∈ oj.after, Region.binds md e = true → e.on ≠ i) → oi.apart ops oj = true) →
      Closed md ops listed → i ∈ Region.ready md ops listed → YieldsIf P ops S oi v a → S w →
      wpAnyL P md ops Q S d fuel (listed.setIfInBounds i true) (a.put oi.dst v) w → wpAnyL P md ops Q S d (fuel + 1) listed a w := by
  intro fuel
  induction fuel with
  | zero =>
    intro listed a w _ _ hr hy hS H
    refine ⟨fun h => (by rw [h] at hr; cases hr), fun j hj => ?_⟩
    by_cases hji : j = i
    · subst hji; exact hy.wpOp hi hS ⟨fun _ => hS, H⟩
    · have := ready_mono hj hji
      rw [H.1] at this
      cases this
  | succ fuel ih =>
    intro listed a w hfree hcl hr hy hS H
    refine ⟨fun h => (by rw [h] at hr; cases hr), fun j hj => ?_⟩
    by_cases hji : j = i
    · subst hji; exact hy.wpOp hi hS ⟨fun _ => hS, H⟩
    · have h1 := H.2 j (ready_mono hj hji)
      obtain ⟨hjun, oj, hoj, hall⟩ := mem_ready.1 hj
      have hnot : ∀ e ∈ oj.after, Region.binds md e = true → e.on ≠ i := fun e he hb heq => by
        have h1 := hall e he hb
        have h0 := (mem_ready.1 hr).1
        rw [heq] at h1
        rcases Nat.lt_or_ge i listed.size with h' | h'
        · simp [h'] at h0 h1; rw [h0] at h1; cases h1
        · simp [Array.getElem?_eq_none h'] at h1
      have hall' : ∀ e ∈ oj.after, Region.binds md e = true → listed.getD e.on true = true := fun e he hb => getD_up (hall e he hb)
      have hjd : j ≠ d := fun e => by
        subst e
        have h5 := waits_listed hcl _ hoj hall' hd
        have h6 := (mem_ready.1 hr).1
        rw [h5] at h6
        cases h6
      have h2 := wpOp_putIf hoj (hfree j oj hoj hji hjun hnot) (fun cs b => hsel i oi cs b hi) (fun cs b => hsel j oj cs b hoj) hQ hy h1
      have hfree' : ∀ k ok, ops[k]? = some ok → k ≠ i → (listed.setIfInBounds j true).getD k true = false →
          (∀ e ∈ ok.after, Region.binds md e = true → e.on ≠ i) → oi.apart ops ok = true := fun k ok hk hki hun hno => by
        refine hfree k ok hk hki ?_ hno
        by_cases hjk : j = k
        · subst hjk; exact hjun
        · rw [getD_set_ne true hjk] at hun; exact hun
      refine wpOp_mono (fun a' w' h3 => ⟨h3.2.1, ih (listed.setIfInBounds j true) a' w' hfree' (hcl.set hoj hall') (ready_mono hr (Ne.symm hji)) h3.1 (h3.2.1 hjd) ?_⟩) h2
      rw [Array.setIfInBounds_comm _ _ hji]
      exact h3.2.2
/-- .. where what is listed is closed -/
def wpAnyC (P : Program) (md : Region.Mode) (ops : Array Oper) (Q : Exit → Act → World → Prop) (S : World → Prop) (d fuel : Nat) (listed : Array Bool) (a : Act) (w : World) : Prop := Closed md ops listed → wpAnyL P md ops Q S d fuel listed a w
theorem ready_closed {listed : Array Bool} (hcl : Closed md ops listed) {j : Nat} (hj : j ∈ Region.ready md ops listed) : Closed md ops (listed.setIfInBounds j true) := by
  obtain ⟨_, oj, hoj, hall⟩ := mem_ready.1 hj
  exact hcl.set hoj fun e he hb => getD_up (hall e he hb)
theorem wpAnyL_take {i : Nat} {oi : Oper} {v : Value} {fuel : Nat} {listed : Array Bool} {a : Act} {w : World} (hi : ops[i]? = some oi) (hd : waits md ops d i = true)
    (hs : Region.noSelect ops = true) (hf : Region.free md ops listed i = true) (hr : (Region.ready md ops listed).contains i = true)
    (hQ : ∀ c a w, Q (.panic c) (a.put oi.dst v) w → Q (.panic c) a w) (hy : YieldsIf P ops S oi v a) (hS : S w)
    (h : wpAnyC P md ops Q S d fuel (listed.setIfInBounds i true) (a.put oi.dst v) w) : wpAnyC P md ops Q S d (fuel + 1) listed a w := fun hcl =>
  have hr' : i ∈ Region.ready md ops listed := by simpa using hr
  wpAnyL_first hi hd (Region.noSelect_spec hs) hQ fuel listed a w (Region.free_spec hi hf) hcl hr' hy hS (h (ready_closed hcl hr'))
theorem wpAnyL_done {listed : Array Bool} {a : Act} {w : World} (hr : Region.ready md ops listed = []) (h : Q .normal a w) :
    ∀ fuel, wpAnyC P md ops Q S d fuel listed a w
  | 0 => fun _ => ⟨hr, h⟩
  | _ + 1 => fun _ => ⟨fun _ => h, by rw [hr]; simp⟩
/-- one operation alone may come up -/
theorem wpAnyL_one {i : Nat} {o : Oper} {fuel : Nat} {listed : Array Bool} {a : Act} {w : World} (hr : Region.ready md ops listed = [i]) (ho : ops[i]? = some o) (_hid : i ≠ d)
    (h : ∀ K' : Act → World → Prop, Shut (∀ a w, S w → (S w → wpAnyC P md ops Q S d fuel (listed.setIfInBounds i true) a w) → K' a w) → if Region.wanted o (yielded ops a.tmps) = true then Oper.wp P o a w K' Q else K' (a.put o.dst undef) w) :
    wpAnyC P md ops Q S d (fuel + 1) listed a w := fun hcl =>
  ⟨fun h0 => absurd (hr ▸ h0) (by simp), hr ▸ fun j hj => by
    have hj' : j ∈ Region.ready md ops listed := by rw [hr]; exact hj
    simp only [List.mem_singleton] at hj
    subst hj
    exact wpOp_step ho fun K' hK => h K' fun a w hS hW => hK a w ⟨fun _ => hS, hW hS (ready_closed hcl hj')⟩⟩
/-- each of some may come up -/
def AllReadyL (P : Program) (md : Region.Mode) (ops : Array Oper) (Q : Exit → Act → World → Prop) (S : World → Prop) (d : Nat) (fuel : Nat) (listed : Array Bool) (a : Act) (w : World) (rs : List Nat) : Prop :=
  ∀ i ∈ rs, wpOp P ops Q i (fun a' w' => (i ≠ d → S w') ∧ (i ∈ Region.ready md ops listed → Closed md ops listed → wpAnyL P md ops Q S d fuel (listed.setIfInBounds i true) a' w')) a w
theorem AllReadyL.nil {fuel : Nat} {listed : Array Bool} {a : Act} {w : World} : AllReadyL P md ops Q S d fuel listed a w [] := fun _ h => by cases h
theorem AllReadyL.cons {fuel : Nat} {listed : Array Bool} {a : Act} {w : World} {i : Nat} {o : Oper} {rs : List Nat} (ho : ops[i]? = some o)
    (h : ∀ K' : Act → World → Prop, Shut (∀ a w, S w → (S w → wpAnyC P md ops Q S d fuel (listed.setIfInBounds i true) a w) → K' a w) → if Region.wanted o (yielded ops a.tmps) = true then Oper.wp P o a w K' Q else K' (a.put o.dst undef) w)
    (hs : AllReadyL P md ops Q S d fuel listed a w rs) : AllReadyL P md ops Q S d fuel listed a w (i :: rs) := fun j hj => by
  rcases List.mem_cons.1 hj with rfl | hj
  · exact wpOp_step ho (fun K' hK => h K' (fun a w hS hW => hK a w ⟨fun _ => hS, fun hr hcl => hW hS (ready_closed hcl hr)⟩))
  · exact hs j hj
theorem wpAnyL_ready {rs : List Nat} {fuel : Nat} {listed : Array Bool} {a : Act} {w : World} (hr : Region.ready md ops listed = rs) (hne : rs ≠ [])
    (h : AllReadyL P md ops Q S d fuel listed a w rs) : wpAnyC P md ops Q S d (fuel + 1) listed a w := fun hcl =>
  ⟨fun h0 => absurd (hr ▸ h0) hne, fun i hi => wpOp_mono (fun _ _ hh => ⟨hh.1, hh.2 hi hcl⟩) (h i (hr ▸ hi))⟩
/-- the last one -/
theorem wpAnyL_last {o : Oper} {fuel : Nat} {listed : Array Bool} {a : Act} {w : World} (hr : Region.ready md ops listed = [d]) (ho : ops[d]? = some o)
    (h : ∀ K' : Act → World → Prop, Shut (∀ a w, wpAnyC P md ops Q S d fuel (listed.setIfInBounds d true) a w → K' a w) → if Region.wanted o (yielded ops a.tmps) = true then Oper.wp P o a w K' Q else K' (a.put o.dst undef) w) :
    wpAnyC P md ops Q S d (fuel + 1) listed a w := fun hcl =>
  ⟨fun h0 => absurd (hr ▸ h0) (by simp), hr ▸ fun j hj => by
    have hj' : j ∈ Region.ready md ops listed := by rw [hr]; exact hj
    simp only [List.mem_singleton] at hj
    subst hj
    exact wpOp_step ho fun K' hK => h K' fun a w hW => hK a w ⟨fun e => absurd rfl e, hW (ready_closed hcl hj')⟩⟩
theorem wp_region_l {id : Nat} {a : Act} {w : World} (d : Nat) (S : World → Prop) (hm : P.follows .mixedOrders = true) (hS : S w.drew)
    (h : S w.drew → wpAnyC P .any ops Q S d ops.size (Array.replicate ops.size false) a w.drew) : (Code.region id ops true).wp P Q a w :=
  wp_region_any hm (wpAny_of_l _ _ _ _ (h hS fun j oj hj hl => by
    have hlt := (Array.getElem?_eq_some_iff.1 hj).1
    rw [Array.getD_eq_getD_getElem?, Array.getElem?_replicate, if_pos hlt] at hl
    cases hl))
end
end Go.Proofs.YtmbfalokkabmnaaGreat

/- A region that draws its order: what it keeps may grow on the way. No program. -/
namespace Go.Proofs.YtmbfalokkabmnaaGreat
open Go.RowKit

section
variable {P : Program} {ops : Array Oper} {Q : Exit → Act → World → Prop} {md : Region.Mode} {S S' : World → Prop} {d : Nat}
theorem wpAnyL_mono (h : ∀ w, S' w → S w) : ∀ (fuel : Nat) (listed : Array Bool) (a : Act) (w : World), wpAnyL P md ops Q S' d fuel listed a w → wpAnyL P md ops Q S d fuel listed a w
  | 0, _, _, _, k => k
  | fuel + 1, _, _, _, k => ⟨k.1, fun i hi => wpOp_mono (fun a' w' k' => ⟨fun e => h _ (k'.1 e), wpAnyL_mono h fuel _ a' w' k'.2⟩) (k.2 i hi)⟩
theorem wpAnyC_mono (S' : World → Prop) {fuel : Nat} {listed : Array Bool} {a : Act} {w : World} (h : ∀ w, S' w → S w) (hS : S' w) (k : S' w → wpAnyC P md ops Q S' d fuel listed a w) : wpAnyC P md ops Q S d fuel listed a w :=
  fun hcl => wpAnyL_mono h _ _ _ _ (k hS hcl)
end
end Go.Proofs.YtmbfalokkabmnaaGreat

/- cmp.Compare, cmp.Or of ints -/
namespace Go.Proofs.YtmbfalokkabmnaaGreat
open Go.RowKit
def cmpI (s t : Int) : Int := if s < t then -1 else if t < s then 1 else 0
set_option maxRecDepth 100000 in
set_option maxHeartbeats 400000 in
theorem isNaNi_c (s : Int) (w : World) : Calls Tryz.prog 78 #[i64 s] w fun e w' => e = .returned (.bool false) ∧ w = w' := by
  go_enter Tryz.func78, Tryz.ntmps78
  go_wp2
  go_ret
  exact ⟨rfl, rfl⟩
set_option maxRecDepth 100000 in
set_option maxHeartbeats 2000000 in
theorem cmpI_c (s t : Int) (w : World) : Calls Tryz.prog 47 #[i64 s, i64 t] w fun e w' => e = .returned (i64 (cmpI s t)) ∧ w = w' := by
  have HC := Lib.hid (show cmpI s t = if s < t then -1 else if t < s then 1 else 0 from rfl)
  generalize cmpI s t = r at *
  go_enter Tryz.func47, Tryz.ntmps47
  go_wp2_with fail
  refine (isNaNi_c _ _).mono ?_
  rintro e w1 ⟨rfl, rfl⟩
  go_wp2_with fail
  refine (isNaNi_c _ _).mono ?_
  rintro e w1 ⟨rfl, rfl⟩
  by_cases h1 : s < t
  · have g1 : decide (s < t) = true := decide_eq_true h1
    have HR := Lib.hid (show r = -1 by rw [HC.out, if_pos h1])
    clear h1
    go_wp2
    go_ret
    exact ⟨by rw [HR.out]; rfl, rfl⟩
  · have g1 : decide (s < t) = false := decide_eq_false h1
    by_cases h2 : t < s
    · have g2 : decide (t < s) = true := decide_eq_true h2
      have HR := Lib.hid (show r = 1 by rw [HC.out, if_neg h1, if_pos h2])
      clear h1 h2
      go_wp2
      go_ret
      exact ⟨by rw [HR.out]; rfl, rfl⟩
    · have g2 : decide (t < s) = false := decide_eq_false h2
      have HR := Lib.hid (show r = 0 by rw [HC.out, if_neg h1, if_neg h2])
      clear h1 h2
      go_wp2
      go_ret
      exact ⟨by rw [HR.out]; rfl, rfl⟩
def orI (a b : Int) : Int := if a ≠ 0 then a else b
set_option maxRecDepth 100000 in
set_option maxHeartbeats 4000000 in
theorem orI_c (a b : Int) (g : Nat) (w : World) (h0 : w.cell? ⟨g, 0, none⟩ = some (i64 a)) (h1 : w.cell? ⟨g, 1, none⟩ = some (i64 b)) :
    Calls Tryz.prog 46 #[.slice (some ⟨g, 0, none⟩) 2 2] w fun e w' => e = .returned (i64 (orI a b)) ∧ w = w' := by
  have HC := Lib.hid (show orI a b = if a ≠ 0 then a else b from rfl)
  generalize orI a b = r at *
  go_enter Tryz.func46, Tryz.ntmps46
  go_wp2
  by_cases ha : a = 0
  · have HR := Lib.hid (show r = b by rw [HC.out, if_neg (by simpa using ha)])
    subst ha
    refine wp_loop_rounds 3 ?_
    rw [rounds_succ]
    by_cases hb : b = 0
    · have HR := Lib.hid (show r = 0 by rw [HR.out, hb])
      subst hb
      go_wp2
      rw [rounds_succ]
      go_wp2
      rw [rounds_succ]
      go_wp2
      go_ret
      exact ⟨by rw [HR.out]; rfl, rfl⟩
    · have g2 : (b != 0) = true := by simpa using hb
      clear hb
      go_wp2
      rw [rounds_succ]
      go_wp2
      go_ret
      exact ⟨by rw [HR.out]; rfl, rfl⟩
  · have g1 : (a != 0) = true := by simpa using ha
    have HR := Lib.hid (show r = a by rw [HC.out, if_pos ha])
    clear ha
    refine wp_loop_rounds 1 ?_
    rw [rounds_succ]
    go_wp2
    go_ret
    exact ⟨by rw [HR.out]; rfl, rfl⟩
end Go.Proofs.YtmbfalokkabmnaaGreat

/- A map, and its entries in order. No program. -/
namespace Go.Proofs.YtmbfalokkabmnaaGreat

section
variable {α κ ν : Type} [DecidableEq κ] {lt : α → α → Bool}
/-- in order, none twice -/
def SrtL (lt : α → α → Bool) (L : List α) : Prop := L.Pairwise fun a b => lt a b = true
theorem SrtL.sorted (S : Strict lt) {L : List α} (h : SrtL lt L) : SortedB lt L := h.imp fun h => S.asymm h
theorem insB_srt (S : Strict lt) (x : α) : ∀ (L : List α), SrtL lt L → (∀ y ∈ L, lt x y = true ∨ lt y x = true) → SrtL lt (insB lt x L)
  | [], _, _ => List.pairwise_singleton _ _
  | y :: r, h, hx => by
    obtain ⟨h1, h2⟩ := List.pairwise_cons.1 h
    unfold insB
    by_cases hy : lt y x = true
    · rw [if_pos hy]
      refine List.pairwise_cons.2 ⟨fun z hz => ?_, insB_srt S x r h2 fun z hz => hx z (by simp [hz])⟩
      rcases List.mem_cons.1 ((insB_perm x r).mem_iff.1 hz) with rfl | hz
      · exact hy
      · exact h1 z hz
    · rw [if_neg hy]
      have hxy : lt x y = true := (hx y (by simp)).resolve_right hy
      refine List.pairwise_cons.2 ⟨fun z hz => ?_, h⟩
      rcases List.mem_cons.1 hz with rfl | hz
      · exact hxy
      · exact S.trans _ _ _ hxy (h1 z hz)
/-- the place of x in a list in order -/
theorem insB_at (S : Strict lt) (x : α) : ∀ (L : List α) (k : Nat), SrtL lt L → k ≤ L.length → (∀ j (h : j < L.length), j < k → lt L[j] x = true) → (∀ j (h : j < L.length), k ≤ j → lt L[j] x = false) → insB lt x L = L.take k ++ x :: L.drop k
  | [], k, _, _, _, _ => by simp [insB]
  | y :: r, k, h, hk, h1, h2 => by
    obtain ⟨g1, g2⟩ := List.pairwise_cons.1 h
    unfold insB
    cases k with
    | zero =>
      rw [if_neg (by rw [h2 0 (by simp) (Nat.le_refl _) |> fun e => (show lt y x = false from e)]; decide)]
      rfl
    | succ k =>
      rw [if_pos (show lt y x = true from h1 0 (by simp) (by omega)), insB_at S x r k g2 (by simpa using hk) (fun j hj hjk => h1 (j + 1) (by simpa using hj) (by omega)) (fun j hj hjk => h2 (j + 1) (by simpa using hj) (by omega))]
      simp
variable (kf : α → κ)
def getK (L : List α) (k : κ) : Option α := L.find? fun a => decide (kf a = k)
def setK (L : List α) (a : α) : List α := L.map fun x => if kf x = kf a then a else x
def delK (L : List α) (k : κ) : List α := L.filter fun x => !decide (kf x = k)
variable {kf}
theorem getK_mem {L : List α} {k : κ} {a : α} (h : getK kf L k = some a) : a ∈ L ∧ kf a = k := by
  unfold getK at h
  exact ⟨List.mem_of_find?_eq_some h, by simpa using List.find?_some h⟩
theorem getK_none {L : List α} {k : κ} : getK kf L k = none ↔ ∀ a ∈ L, kf a ≠ k := by
  unfold getK
  rw [List.find?_eq_none]
  simp
/-- keys part what is in order -/
structure KeyOrd (lt : α → α → Bool) (kf : α → κ) : Prop where
  strict : Strict lt
  ne : ∀ a b, lt a b = true → kf a ≠ kf b
  co : ∀ a b, kf a ≠ kf b → lt a b = true ∨ lt b a = true
  eq : ∀ a b, kf a = kf b → ∀ c, lt a c = lt b c ∧ lt c a = lt c b
omit [DecidableEq κ] in
theorem SrtL.one (O : KeyOrd lt kf) {L : List α} (h : SrtL lt L) : ∀ {a b : α}, a ∈ L → b ∈ L → kf a = kf b → a = b := by
  intro a b ha hb he
  obtain ⟨i, hi, rfl⟩ := List.getElem_of_mem ha
  obtain ⟨j, hj, rfl⟩ := List.getElem_of_mem hb
  rcases Nat.lt_trichotomy i j with hij | rfl | hij
  · exact absurd he (O.ne _ _ (List.pairwise_iff_getElem.1 h i j hi hj hij))
  · rfl
  · exact absurd he.symm (O.ne _ _ (List.pairwise_iff_getElem.1 h j i hj hi hij))
theorem getK_of (O : KeyOrd lt kf) {L : List α} (h : SrtL lt L) {a : α} (ha : a ∈ L) : getK kf L (kf a) = some a := by
  cases hg : getK kf L (kf a) with
  | none => exact absurd rfl (getK_none.1 hg a ha)
  | some b =>
    obtain ⟨h1, h2⟩ := getK_mem hg
    rw [h.one O h1 ha h2]
theorem setK_srt (O : KeyOrd lt kf) {L : List α} (h : SrtL lt L) (a : α) : SrtL lt (setK kf L a) := by
  unfold setK SrtL
  rw [List.pairwise_map]
  refine h.imp fun {x y} hxy => ?_
  have hne := O.ne _ _ hxy
  by_cases hx : kf x = kf a
  · rw [if_pos hx, if_neg (fun e => hne (by rw [hx, e])), ← (O.eq _ _ hx y).1]
    exact hxy
  · rw [if_neg hx]
    by_cases hy : kf y = kf a
    · rw [if_pos hy, ← (O.eq _ _ hy x).2]
      exact hxy
    · rw [if_neg hy]
      exact hxy
theorem delK_srt {L : List α} (h : SrtL lt L) (k : κ) : SrtL lt (delK kf L k) := List.Pairwise.sublist List.filter_sublist h
theorem setK_len (L : List α) (a : α) : (setK kf L a).length = L.length := List.length_map ..
theorem setK_mem {L : List α} {a x : α} (h : x ∈ setK kf L a) : x = a ∨ (x ∈ L ∧ kf x ≠ kf a) := by
  obtain ⟨y, hy, he⟩ := List.mem_map.1 h
  by_cases hk : kf y = kf a
  · rw [if_pos hk] at he; exact .inl he.symm
  · rw [if_neg hk] at he; subst he; exact .inr ⟨hy, hk⟩
theorem setK_set (O : KeyOrd lt kf) {L : List α} (h : SrtL lt L) {k : Nat} (hk : k < L.length) {a : α} (ha : kf L[k] = kf a) : setK kf L a = L.set k a := by
  apply List.ext_getElem
  · simp [setK]
  · intro j h1 h2
    have hj : j < L.length := by simpa [setK] using h1
    simp only [setK, List.getElem_map, List.getElem_set]
    by_cases hjk : k = j
    · subst hjk; simp [ha]
    · rw [if_neg hjk, if_neg]
      intro e
      exact hjk (by
        rcases Nat.lt_trichotomy j k with hlt | rfl | hlt
        · exact absurd (e.trans ha.symm) (O.ne _ _ (List.pairwise_iff_getElem.1 h j k hj hk hlt))
        · rfl
        · exact absurd (ha.trans e.symm) (O.ne _ _ (List.pairwise_iff_getElem.1 h k j hk hj hlt)))
theorem delK_at (O : KeyOrd lt kf) {L : List α} (h : SrtL lt L) {k : Nat} (hk : k < L.length) : delK kf L (kf L[k]) = L.take k ++ L.drop (k + 1) := by
  unfold delK
  have e : L = L.take k ++ L[k] :: L.drop (k + 1) := by rw [← List.drop_eq_getElem_cons hk, List.take_append_drop]
  have hp := h
  unfold SrtL at hp
  rw [e, List.pairwise_append] at hp
  obtain ⟨p1, p2, p3⟩ := hp
  obtain ⟨p4, p5⟩ := List.pairwise_cons.1 p2
  conv => lhs; arg 2; rw [e]
  rw [List.filter_append, List.filter_cons_of_neg (by simp), List.filter_eq_self.2, List.filter_eq_self.2]
  · intro x hx
    simpa using fun e => O.ne _ _ (p4 x hx) e.symm
  · intro x hx
    simpa using O.ne _ _ (p3 x hx _ (List.mem_cons_self ..))
variable (lt kf) in
/-- a map's entries, in order -/
structure RK (g : κ × ν → α) (M : List (κ × ν)) (L : List α) : Prop where
  perm : (M.map g).Perm L
  srt : SrtL lt L
  key : ∀ p ∈ M, kf (g p) = p.1
variable {g : κ × ν → α} {M : List (κ × ν)} {L : List α}
omit [DecidableEq κ] in
theorem RK.len (h : RK lt kf g M L) : M.length = L.length := by have := h.perm.length_eq; simpa using this
omit [DecidableEq κ] in
theorem RK.uniq (S : Strict lt) {L' : List α} (h : RK lt kf g M L) (h' : RK lt kf g M L') : L = L' :=
  sorted_unique (h.perm.symm.trans h'.perm) (h.srt.sorted S) (h'.srt.sorted S) fun a ha b hb e1 e2 => by
    obtain ⟨i, hi, rfl⟩ := List.getElem_of_mem ha
    obtain ⟨j, hj, rfl⟩ := List.getElem_of_mem hb
    rcases Nat.lt_trichotomy i j with hij | rfl | hij
    · rw [List.pairwise_iff_getElem.1 h.srt i j hi hj hij] at e1; cases e1
    · rfl
    · rw [List.pairwise_iff_getElem.1 h.srt j i hj hi hij] at e2; cases e2
theorem RK.get (O : KeyOrd lt kf) (h : RK lt kf g M L) (k : κ) : (getM M k).map (fun v => g (k, v)) = getK kf L k := by
  unfold getM
  cases hf : M.find? (fun p => decide (p.1 = k)) with
  | none =>
    refine (getK_none.2 fun a ha e => ?_).symm
    obtain ⟨p, hp, rfl⟩ := List.mem_map.1 (h.perm.mem_iff.2 ha)
    rw [List.find?_eq_none] at hf
    exact hf p hp (by simpa [h.key p hp] using e)
  | some p =>
    have hp := List.mem_of_find?_eq_some hf
    have hk : p.1 = k := by simpa using List.find?_some hf
    subst hk
    have hm : g p ∈ L := h.perm.mem_iff.1 (List.mem_map.2 ⟨p, hp, rfl⟩)
    have := getK_of O h.srt hm
    rw [h.key p hp] at this
    exact this.symm
theorem RK.put (O : KeyOrd lt kf) (h : RK lt kf g M L) {k : κ} {v : ν} (hk : kf (g (k, v)) = k) (hs : (getK kf L k).isSome = true) : RK lt kf g (putM M k v) (setK kf L (g (k, v))) := by
  have hany : M.any (fun p => decide (p.1 = k)) = true := by
    cases hg : getK kf L k with
    | none => rw [hg] at hs; cases hs
    | some a =>
      obtain ⟨ha, hka⟩ := getK_mem hg
      obtain ⟨p, hp, rfl⟩ := List.mem_map.1 (h.perm.mem_iff.2 ha)
      exact List.any_eq_true.2 ⟨p, hp, by rw [← hka, h.key p hp]; simp⟩
  unfold putM
  rw [if_pos hany]
  refine ⟨?_, setK_srt O h.srt _, ?_⟩
  · rw [List.map_map]
    have := h.perm.map (fun x => if kf x = kf (g (k, v)) then g (k, v) else x)
    rw [List.map_map] at this
    refine (List.Perm.of_eq (List.map_congr_left fun p hp => ?_)).trans this
    simp only [Function.comp_def]
    rw [h.key p hp, hk]
    split <;> rfl
  · intro p hp
    obtain ⟨q, hq, rfl⟩ := List.mem_map.1 hp
    split
    · exact hk
    · exact h.key q hq
theorem RK.add (O : KeyOrd lt kf) (h : RK lt kf g M L) {k : κ} {v : ν} (hk : kf (g (k, v)) = k) (hs : getK kf L k = none) : RK lt kf g (putM M k v) (insB lt (g (k, v)) L) := by
  have hno := getK_none.1 hs
  have hany : ¬ M.any (fun p => decide (p.1 = k)) = true := by
    rw [List.any_eq_true]
    rintro ⟨p, hp, e⟩
    exact hno (g p) (h.perm.mem_iff.1 (List.mem_map.2 ⟨p, hp, rfl⟩)) (by rw [h.key p hp]; simpa using e)
  unfold putM
  rw [if_neg hany]
  refine ⟨?_, insB_srt O.strict _ _ h.srt fun y hy => O.co _ _ (by rw [hk]; exact fun e => hno y hy e.symm), ?_⟩
  · rw [List.map_append, List.map_singleton]
    exact (List.perm_append_comm.trans (by simpa using h.perm.cons (g (k, v)))).trans (insB_perm _ _).symm
  · intro p hp
    rcases List.mem_append.1 hp with hp | hp
    · exact h.key p hp
    · simp only [List.mem_singleton] at hp; subst hp; exact hk
theorem RK.del (h : RK lt kf g M L) (k : κ) : RK lt kf g (delM M k) (delK kf L k) := by
  refine ⟨?_, delK_srt h.srt k, fun p hp => h.key p (List.mem_filter.1 hp).1⟩
  have := h.perm.filter (fun x => !decide (kf x = k))
  rw [List.filter_map] at this
  refine (List.Perm.of_eq ?_).trans this
  unfold delM
  congr 1
  refine List.filter_congr fun p hp => ?_
  simp only [Function.comp_def]
  rw [h.key p hp]
omit [DecidableEq κ] in
theorem RK.nil : RK lt kf g ([] : List (κ × ν)) [] := ⟨.refl _, List.Pairwise.nil, by simp⟩
end
end Go.Proofs.YtmbfalokkabmnaaGreat
