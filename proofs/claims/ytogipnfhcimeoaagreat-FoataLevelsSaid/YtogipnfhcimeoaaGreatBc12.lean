/- Texts of this claim, laid together: Codec, BytesW, OrdC, RDefs. -/
import Derived.Test.YtogipnfhcimeoaaGreatRows
import Derived.Test.YtogipnfhcimeoaaGreatBc11
import Derived.Test.YtogipnfhcimeoaaGreatBc7
import Derived.Test.YtogipnfhcimeoaaGreatBc6
import Derived.WalkKit
import Derived.WalkSpells
import Derived.WalkLawsBesides
import Derived.Deep.QuietTactic
import Derived.BigQuiet
import Derived.Laws.StructEq
import Derived.Deep.DeepFit
import Derived.StillTailTactics
import Derived.Test.YtogipnfhcimeoaaGreatBc10
import Derived.Test.YtogipnfhcimeoaaGreatBc1
import Derived.Test.YtogipnfhcimeoaaGreatBc4
import Derived.Test.YtogipnfhcimeoaaGreatBc2

/- numbers, texts, replies: what is written is read again, what is read was written; an order's bytes are read again; what is read was written; orders are the same just if their bytes are; order.Ahead, the reference's Ahead -/
namespace Go.Proofs.YtogipnfhcimeoaaGreat
open Go.RowKit
theorem two_pow_step (i : Nat) (hi : i ≤ 8) : 2 ^ (64 - 7 * i) = 128 * 2 ^ (64 - 7 * (i + 1)) := by
  rw [show 64 - 7 * i = 7 + (64 - 7 * (i + 1)) from by omega, Nat.pow_add]
theorem seven_step (i : Nat) : 2 ^ (7 * (i + 1)) = 128 * 2 ^ (7 * i) := by
  rw [show 7 * (i + 1) = 7 + 7 * i from by omega, Nat.pow_add]
theorem uvR_enc : ∀ (f m i acc : Nat) (t : List UInt8), m < f → i ≤ 9 → m < 2 ^ (64 - 7 * i) → (0 < i → 0 < m) → uvR i acc (Lib.uvarint m ++ t) = .ok (acc + m * 2 ^ (7 * i), t)
  | 0, _, _, _, _, h, _, _, _ => absurd h (by omega)
  | f + 1, m, i, acc, t, hf, hi, hm, hp => by
    by_cases hs : m < 128
    · rw [Lib.uvarint_small hs, List.singleton_append, uvR]
      have hb : (m.toUInt8).toNat = m := Lib.toUInt8_toNat (by omega)
      rw [hb, if_neg (by
        rintro (h | ⟨h, h1⟩)
        · omega
        · subst h
          have : m < 2 ^ 1 := hm
          omega), if_neg (by rintro ⟨h, h1⟩; have := hp h1; omega), if_pos hs]
    · rw [Lib.uvarint_big (by omega), List.cons_append, uvR]
      have hb : ((m % 128 + 128).toUInt8).toNat = m % 128 + 128 := Lib.toUInt8_toNat (by omega)
      have hi8 : i ≤ 8 := by
        rcases Nat.lt_or_ge i 9 with h | h
        · omega
        · obtain rfl : i = 9 := by omega
          have : m < 2 ^ 1 := hm
          omega
      rw [two_pow_step i hi8] at hm
      rw [hb, if_neg (by omega), if_neg (by omega), if_neg (by omega), uvR_enc f (m / 128) (i + 1) _ t (by omega) (by omega) (Nat.div_lt_of_lt_mul hm) (fun _ => by omega)]
      congr 2
      rw [seven_step, show (m % 128 + 128) % 128 = m % 128 from by omega, Nat.add_assoc, Nat.mul_left_comm, ← Nat.mul_assoc, ← Nat.add_mul]
      congr 2
      omega
theorem uvR_dec : ∀ (l : List UInt8) (i acc M : Nat) (t : List UInt8), i ≤ 9 → uvR i acc l = .ok (M, t) → ∃ m, l = Lib.uvarint m ++ t ∧ M = acc + m * 2 ^ (7 * i) ∧ m < 2 ^ (64 - 7 * i) ∧ (0 < i → 0 < m)
  | [], _, _, _, _, _, h => by simp [uvR] at h
  | b :: r, i, acc, M, t, hi, h => by
    have hbl := b.toNat_lt
    rw [uvR] at h
    split at h
    · simp at h
    · rename_i h1
      split at h
      · simp at h
      · rename_i h2
        split at h
        · rename_i h3
          simp only [Except.ok.injEq, Prod.mk.injEq] at h
          obtain ⟨rfl, rfl⟩ := h
          refine ⟨b.toNat, ?_, rfl, ?_, fun hp => by omega⟩
          · rw [Lib.uvarint_small h3, List.singleton_append]
            congr 1
            simp
          · rcases Nat.lt_or_ge i 9 with h9 | h9
            · exact Nat.lt_of_lt_of_le h3 (Nat.pow_le_pow_right (n := 2) (by decide) (show 7 ≤ 64 - 7 * i by omega))
            · obtain rfl : i = 9 := by omega
              show b.toNat < 2
              omega
        · rename_i h3
          have hi8 : i ≤ 8 := by omega
          obtain ⟨m, rfl, rfl, hm, hp⟩ := uvR_dec r (i + 1) _ M t (by omega) h
          have hm0 := hp (Nat.succ_pos i)
          refine ⟨m * 128 + b.toNat % 128, ?_, ?_, ?_, fun _ => by omega⟩
          · rw [Lib.uvarint_big (show 128 ≤ m * 128 + b.toNat % 128 by omega), List.cons_append, show (m * 128 + b.toNat % 128) / 128 = m from by omega]
            congr 1
            rw [show (m * 128 + b.toNat % 128) % 128 + 128 = b.toNat from by omega]
            simp
          · rw [seven_step, Nat.add_mul, Nat.add_assoc, Nat.add_comm (b.toNat % 128 * 2 ^ (7 * i)), Nat.mul_assoc]
          · rw [two_pow_step i hi8]
            omega
theorem zig_unzig {n : Int} (h0 : -9223372036854775808 ≤ n) (h1 : n ≤ 9223372036854775807) : Lib.unzigzag (Lib.zigzag n) = n := by
  unfold Lib.unzigzag Lib.zigzag
  split <;> split <;> omega
theorem unzig_zig (m : Nat) : Lib.zigzag (Lib.unzigzag m) = m := by
  unfold Lib.unzigzag Lib.zigzag
  split <;> split <;> omega
theorem unzig_in {m : Nat} (h : m < 18446744073709551616) : -9223372036854775808 ≤ Lib.unzigzag m ∧ Lib.unzigzag m ≤ 9223372036854775807 := by
  unfold Lib.unzigzag
  split <;> omega
/-- what is written is read again -/
theorem numRd_enc {n : Int} (h0 : -9223372036854775808 ≤ n) (h1 : n ≤ 9223372036854775807) (t : List UInt8) : numRd 0 (numB n ++ t) = ((n, 0), (0, t)) := by
  have h := uvR_enc (Lib.zigzag n + 1) (Lib.zigzag n) 0 0 t (Nat.lt_succ_self _) (by decide) (by have := Lib.zigzag_lt h0 h1; exact this) (fun h => absurd h (by decide))
  rw [numRd_ok h]
  simp only [Nat.zero_add, Nat.mul_zero, Nat.pow_zero, Nat.mul_one, zig_unzig h0 h1]
theorem uvR_e : ∀ (l : List UInt8) (i acc : Nat) {e : Int}, uvR i acc l = .error e → e = 3 ∨ e = 4
  | [], _, _, _, h => by simp [uvR] at h; exact .inr h.symm
  | b :: r, i, acc, e, h => by
    rw [uvR] at h
    split at h
    · simp only [Except.error.injEq] at h
      split at h <;> omega
    · split at h
      · simp only [Except.error.injEq] at h; omega
      · split at h
        · simp at h
        · exact uvR_e r _ _ h
/-- what is read is written as just these bytes -/
theorem numRd_dec {l : List UInt8} (h : (numRd 0 l).1.2 = 0) : l = numB (numRd 0 l).1.1 ++ (numRd 0 l).2.2 ∧ -9223372036854775808 ≤ (numRd 0 l).1.1 ∧ (numRd 0 l).1.1 ≤ 9223372036854775807 := by
  cases hu : uvR 0 0 l with
  | error e =>
    rw [numRd_bad hu] at h
    have := uvR_e l 0 0 hu
    simp only at h
    omega
  | ok p =>
    obtain ⟨M, t⟩ := p
    rw [numRd_ok hu]
    obtain ⟨m, rfl, rfl, hm, _⟩ := uvR_dec l 0 0 M t (by decide) hu
    simp only [Nat.zero_add, Nat.mul_zero, Nat.pow_zero, Nat.mul_one]
    refine ⟨by unfold numB; rw [unzig_zig], unzig_in hm⟩
theorem nuR_enc {n : Int} (h : R64 n) (t : List UInt8) : nuR (0, numB n ++ t) = ((n, 0), (0, t)) := numRd_enc h.1 h.2 t
theorem smR_enc {n m : Int} (h0 : 0 ≤ n) (h1 : n ≤ m) (hr : R64 n) (t : List UInt8) : smR m (0, numB n ++ t) = ((n, 0), (0, t)) := by
  unfold smR rangeRd
  simp only [numRd_enc hr.1 hr.2 t]
  rw [if_neg (by simp), if_neg (by omega)]
theorem smR_out {n m : Int} (h : n < 0 ∨ m < n) (hr : R64 n) (t : List UInt8) : smR m (0, numB n ++ t) = ((0, 3), (3, [])) := by
  unfold smR rangeRd
  simp only [numRd_enc hr.1 hr.2 t]
  rw [if_neg (by simp), if_pos h]
theorem txR_enc {s : ByteArray} {m : Int} (h : (s.size : Int) ≤ m) (hs : s.size ≤ 100) (t : List UInt8) : txR m (0, textB s ++ t) = ((s, 0), (0, t)) := by
  have h1 := smR_enc (n := s.size) (m := m) (by omega) h ⟨by omega, by omega⟩ (s.data.toList ++ t)
  unfold smR at h1
  unfold txR textRd
  have e : textB s ++ t = numB s.size ++ (s.data.toList ++ t) := by unfold textB; rw [List.append_assoc]
  have hl : s.data.toList.length = s.size := by simp
  rw [e]
  simp only [h1]
  rw [if_neg (by simp), if_neg (by rw [List.length_append, hl]; omega)]
  simp only [Int.toNat_natCast]
  rw [← hl, List.take_left', List.drop_left']
  · rfl
  · rfl
theorem nuR_stay {e : Int} (h : e ≠ 0) (t : List UInt8) : nuR (e, t) = ((0, e), (e, t)) := numRd_err h t
theorem nuR_dec {s : St} (h : (nuR s).2.1 = 0) : s.1 = 0 ∧ s.2 = numB (nuR s).1.1 ++ (nuR s).2.2 ∧ R64 (nuR s).1.1 := by
  obtain ⟨e, l⟩ := s
  by_cases he : e = 0
  · subst he
    unfold nuR at *
    have h2 := (numRd_left 0 l).2
    obtain ⟨a, b, c⟩ := numRd_dec (l := l) (by rw [← h2]; exact h)
    exact ⟨rfl, a, b, c⟩
  · rw [nuR_stay he] at h
    exact absurd h he
theorem smR_dec {m : Int} {s : St} (h : (smR m s).2.1 = 0) : s.1 = 0 ∧ s.2 = numB (smR m s).1.1 ++ (smR m s).2.2 ∧ 0 ≤ (smR m s).1.1 ∧ (smR m s).1.1 ≤ m ∧ R64 (smR m s).1.1 := by
  obtain ⟨e, l⟩ := s
  have h2 := (rangeRd_left 0 m e l).2
  have h3 : (rangeRd 0 m e l).1.2 = 0 := by rw [← h2]; exact h
  have hin := rangeRd_in h3
  have hq : rangeRd 0 m e l = (((numRd e l).1.1, 0), (numRd e l).2) := by
    unfold rangeRd at h3 ⊢
    split
    · rename_i h4; rw [if_pos h4] at h3; exact absurd h3 h4
    · rename_i h4
      rw [if_neg h4] at h3
      split
      · rename_i h5; rw [if_pos h5] at h3; exact absurd h3 (by decide)
      · rfl
  unfold smR at *
  simp only [hq] at *
  obtain ⟨a, b, c⟩ := nuR_dec (s := (e, l)) h
  exact ⟨a, b, hin.1, hin.2, c⟩
theorem txR_dec {m : Int} {s : St} (h : (txR m s).2.1 = 0) : s.1 = 0 ∧ s.2 = textB (txR m s).1.1 ++ (txR m s).2.2 ∧ ((txR m s).1.1.size : Int) ≤ m := by
  obtain ⟨e, l⟩ := s
  by_cases h3 : (rangeRd 0 m e l).1.2 = 0
  · by_cases h4 : ((rangeRd 0 m e l).2.2.length : Int) < (rangeRd 0 m e l).1.1
    · unfold txR textRd at h
      rw [if_neg (by simpa using h3), if_pos h4] at h
      exact absurd h (by decide)
    · have h5 : (smR m (e, l)).2.1 = 0 := by rw [← h3]; exact (rangeRd_left 0 m e l).2
      obtain ⟨a, b, c, d, _⟩ := smR_dec h5
      simp only [smR] at a b c d
      have hq : txR m (e, l) = ((⟨((rangeRd 0 m e l).2.2.take (rangeRd 0 m e l).1.1.toNat).toArray⟩, 0), (0, (rangeRd 0 m e l).2.2.drop (rangeRd 0 m e l).1.1.toNat)) := by
        unfold txR textRd
        rw [if_neg (by simpa using h3), if_neg h4]
      rw [hq]
      generalize rangeRd 0 m e l = Q at *
      obtain ⟨⟨n, e1⟩, e2, t⟩ := Q
      simp only at *
      have hz : (t.take n.toNat).length = n.toNat := by rw [List.length_take]; omega
      have hz2 : (⟨(t.take n.toNat).toArray⟩ : ByteArray).size = n.toNat := by show (t.take n.toNat).toArray.size = n.toNat; rw [List.size_toArray, hz]
      refine ⟨a, ?_, by rw [hz2]; omega⟩
      unfold textB
      rw [hz2, Int.toNat_of_nonneg c, b, List.append_assoc]
      simp
  · unfold txR textRd at h
    rw [if_pos h3] at h
    exact absurd (((rangeRd_left 0 m e l).2).symm.trans h) h3
theorem doneRd_nil {e : Int} {t : List UInt8} (h : (doneRd e t).1 = 0) : e = 0 ∧ t = [] := by
  unfold doneRd at h
  split at h
  · rename_i h1; exact absurd h h1
  · rename_i h1
    split at h
    · exact absurd h (by decide)
    · rename_i h2
      exact ⟨by simpa using h1, by simpa using h2⟩
/-- replies -/
theorem told_law1 {x : Rp} (h : InP x) (hin : 0 ≤ x.err ∧ x.err ≤ 14) : toldOk (toldB x) = true ∧ readT (toldB x) = x := by
  obtain ⟨a, b, c, d⟩ := h
  have e1 : tq1 (toldB x) = ((x.err, 0), (0, numB x.hav ++ (numB x.set_ ++ (numB x.num ++ [])))) := by
    unfold tq1
    rw [show toldB x = numB x.err ++ (numB x.hav ++ (numB x.set_ ++ (numB x.num ++ []))) by simp [toldB]]
    exact smR_enc hin.1 hin.2 a _
  have e2 : tq2 (toldB x) = ((x.hav, 0), (0, numB x.set_ ++ (numB x.num ++ []))) := by unfold tq2; rw [e1]; exact nuR_enc b _
  have e3 : tq3 (toldB x) = ((x.set_, 0), (0, numB x.num ++ [])) := by unfold tq3; rw [e2]; exact nuR_enc c _
  have e4 : tq4 (toldB x) = ((x.num, 0), (0, [])) := by unfold tq4; rw [e3]; exact nuR_enc d _
  have h1 : toldOk (toldB x) = true := by unfold toldOk; rw [e4]; rfl
  refine ⟨h1, ?_⟩
  unfold readT rawT
  rw [h1, e1, e2, e3, e4]
  rfl
theorem told_law0 {x : Rp} (h : InP x) (hout : x.err < 0 ∨ 14 < x.err) : toldOk (toldB x) = false := by
  obtain ⟨a, b, c, d⟩ := h
  have e1 : tq1 (toldB x) = ((0, 3), (3, [])) := by
    unfold tq1 toldB
    rw [List.append_assoc, List.append_assoc]
    exact smR_out hout a _
  have e2 : tq2 (toldB x) = ((0, 3), (3, [])) := by unfold tq2; rw [e1]; exact nuR_stay (by decide) _
  have e3 : tq3 (toldB x) = ((0, 3), (3, [])) := by unfold tq3; rw [e2]; exact nuR_stay (by decide) _
  have e4 : tq4 (toldB x) = ((0, 3), (3, [])) := by unfold tq4; rw [e3]; exact nuR_stay (by decide) _
  unfold toldOk
  rw [e4]
  rfl
theorem told_law2 {l : List UInt8} (h : toldOk l = true) : toldB (readT l) = l ∧ InP (readT l) := by
  have e : readT l = rawT l := by unfold readT; rw [if_pos h]
  rw [e]
  unfold toldOk at h
  obtain ⟨h4, ht⟩ := doneRd_nil (of_decide_eq_true h)
  obtain ⟨h3, b4, r4⟩ := nuR_dec (s := (tq3 l).2) h4
  obtain ⟨h2, b3, r3⟩ := nuR_dec (s := (tq2 l).2) h3
  obtain ⟨h1, b2, r2⟩ := nuR_dec (s := (tq1 l).2) h2
  obtain ⟨_, b1, _, _, r1⟩ := smR_dec (m := 14) (s := ((0, l) : St)) h1
  refine ⟨?_, r1, r2, r3, r4⟩
  have b4 : (tq3 l).2.2 = numB (tq4 l).1.1 ++ (tq4 l).2.2 := b4
  have b3 : (tq2 l).2.2 = numB (tq3 l).1.1 ++ (tq3 l).2.2 := b3
  have b2 : (tq1 l).2.2 = numB (tq2 l).1.1 ++ (tq2 l).2.2 := b2
  have b1 : l = numB (tq1 l).1.1 ++ (tq1 l).2.2 := b1
  unfold toldB rawT
  rw [ht, List.append_nil] at b4
  conv => rhs; rw [b1, b2, b3, b4]
  simp only [List.append_assoc]
theorem periodB_in {n : Int} (h : periodB n = true) : 1 ≤ n ∧ n ≤ 1000 := by
  unfold periodB at h
  simpa only [Bool.and_eq_true, decide_eq_true_eq] using h
theorem heldB_in {n : Int} (h : heldB n = true) : 1 ≤ n ∧ n ≤ 9999 := by
  unfold heldB at h
  simpa only [Bool.and_eq_true, decide_eq_true_eq] using h
/-- what a right order's parts are like, sharply -/
structure Fit (x : Od) : Prop where
  cl : 0 ≤ x.client ∧ x.client ≤ 9
  sq : 1 ≤ x.seq ∧ x.seq ≤ 999
  kd : 1 ≤ x.kind ∧ x.kind ≤ 7
  acct : x.acct.size ≤ 8
  peer : x.peer.size ≤ 8
  note : x.note.size ≤ 20
  legs : x.legs.length ≤ 6 ∧ ∀ l ∈ x.legs, l.acct.size ≤ 8
  per : 0 ≤ x.period ∧ x.period ≤ 1000
  hld : 0 ≤ x.hold ∧ x.hold ≤ 9999
theorem fit_of {x : Od} (h : rightB x = true) : Fit x := by
  unfold rightB at h
  simp only [Bool.and_eq_true, decide_eq_true_eq] at h
  obtain ⟨hk, ⟨hc, hq⟩, hs, hf⟩ := h
  by_cases h1 : x.kind = 1
  · have e1 : bareO x = bare1 x := by unfold bareO; rw [if_pos h1]
    have e2 : fitsO x = fits1 x := by unfold fitsO; rw [if_pos h1]
    rw [e1] at hs
    rw [e2] at hf
    obtain ⟨ea, ep, en, -, -, -, epd, eh, el⟩ := hs
    simp only [fits1, Bool.and_eq_true, decide_eq_true_eq] at hf
    exact ⟨hc, hq, hk, nameB_size (hf.1), by rw [show x.peer = ⟨#[]⟩ from ep]; decide, by rw [show x.note = ⟨#[]⟩ from en]; decide, by rw [show x.legs = [] from el]; exact ⟨by decide, fun l hl => by simp at hl⟩, by rw [show x.period = 0 from epd]; decide, by rw [show x.hold = 0 from eh]; decide⟩
  by_cases h2 : x.kind = 2
  · have e1 : bareO x = bare2 x := by unfold bareO; rw [if_neg h1, if_pos h2]
    have e2 : fitsO x = fits2 x := by unfold fitsO; rw [if_neg h1, if_pos h2]
    rw [e1] at hs
    rw [e2] at hf
    obtain ⟨ea, ep, en, -, -, -, epd, eh, el⟩ := hs
    simp only [fits2, Bool.and_eq_true, decide_eq_true_eq] at hf
    exact ⟨hc, hq, hk, by rw [show x.acct = ⟨#[]⟩ from ea]; decide, by rw [show x.peer = ⟨#[]⟩ from ep]; decide, by have := hf.2; omega, ⟨(legsB_fine hf.1.1).1, fun l hl => nameB_size ((legsB_fine hf.1.1).2 l hl)⟩, by have := periodB_in (hf.1.2); omega, by rw [show x.hold = 0 from eh]; decide⟩
  by_cases h3 : x.kind = 3
  · have e1 : bareO x = bare3 x := by unfold bareO; rw [if_neg h1, if_neg h2, if_pos h3]
    have e2 : fitsO x = fits3 x := by unfold fitsO; rw [if_neg h1, if_neg h2, if_pos h3]
    rw [e1] at hs
    rw [e2] at hf
    obtain ⟨ea, ep, en, -, -, -, epd, eh, el⟩ := hs
    simp only [fits3, Bool.and_eq_true, decide_eq_true_eq] at hf
    exact ⟨hc, hq, hk, nameB_size (hf.1), by rw [show x.peer = ⟨#[]⟩ from ep]; decide, by rw [show x.note = ⟨#[]⟩ from en]; decide, by rw [show x.legs = [] from el]; exact ⟨by decide, fun l hl => by simp at hl⟩, by rw [show x.period = 0 from epd]; decide, by rw [show x.hold = 0 from eh]; decide⟩
  by_cases h4 : x.kind = 4
  · have e1 : bareO x = bare4 x := by unfold bareO; rw [if_neg h1, if_neg h2, if_neg h3, if_pos h4]
    have e2 : fitsO x = fits4 x := by unfold fitsO; rw [if_neg h1, if_neg h2, if_neg h3, if_pos h4]
    rw [e1] at hs
    rw [e2] at hf
    obtain ⟨ea, ep, en, -, -, -, epd, eh, el⟩ := hs
    simp only [fits4, Bool.and_eq_true, decide_eq_true_eq] at hf
    exact ⟨hc, hq, hk, nameB_size (hf.1.1.1.1.1), nameB_size (hf.1.1.1.1.2), by rw [show x.note = ⟨#[]⟩ from en]; decide, by rw [show x.legs = [] from el]; exact ⟨by decide, fun l hl => by simp at hl⟩, by have := periodB_in (hf.2); omega, by have := heldB_in (hf.1.2); omega⟩
  by_cases h5 : x.kind = 5
  · have e1 : bareO x = bare5 x := by unfold bareO; rw [if_neg h1, if_neg h2, if_neg h3, if_neg h4, if_pos h5]
    have e2 : fitsO x = fits5 x := by unfold fitsO; rw [if_neg h1, if_neg h2, if_neg h3, if_neg h4, if_pos h5]
    rw [e1] at hs
    rw [e2] at hf
    obtain ⟨ea, ep, en, -, -, -, epd, eh, el⟩ := hs
    simp only [fits5, Bool.and_eq_true] at hf
    exact ⟨hc, hq, hk, nameB_size (hf.1), by rw [show x.peer = ⟨#[]⟩ from ep]; decide, by rw [show x.note = ⟨#[]⟩ from en]; decide, by rw [show x.legs = [] from el]; exact ⟨by decide, fun l hl => by simp at hl⟩, by rw [show x.period = 0 from epd]; decide, by have := heldB_in (hf.2); omega⟩
  by_cases h6 : x.kind = 6
  · have e1 : bareO x = bare6 x := by unfold bareO; rw [if_neg h1, if_neg h2, if_neg h3, if_neg h4, if_neg h5, if_pos h6]
    have e2 : fitsO x = fits6 x := by unfold fitsO; rw [if_neg h1, if_neg h2, if_neg h3, if_neg h4, if_neg h5, if_pos h6]
    rw [e1] at hs
    rw [e2] at hf
    obtain ⟨ea, ep, en, -, -, -, epd, eh, el⟩ := hs
    unfold fits6 at hf
    exact ⟨hc, hq, hk, by rw [show x.acct = ⟨#[]⟩ from ea]; decide, by rw [show x.peer = ⟨#[]⟩ from ep]; decide, by rw [show x.note = ⟨#[]⟩ from en]; decide, by rw [show x.legs = [] from el]; exact ⟨by decide, fun l hl => by simp at hl⟩, by have := periodB_in (hf); omega, by rw [show x.hold = 0 from eh]; decide⟩
  by_cases h7 : x.kind = 7
  · have e1 : bareO x = bare7 x := by unfold bareO; rw [if_neg h1, if_neg h2, if_neg h3, if_neg h4, if_neg h5, if_neg h6]
    have e2 : fitsO x = nameB x.acct := by unfold fitsO; rw [if_neg h1, if_neg h2, if_neg h3, if_neg h4, if_neg h5, if_neg h6]
    rw [e1] at hs
    rw [e2] at hf
    obtain ⟨ea, ep, en, -, -, -, epd, eh, el⟩ := hs
    exact ⟨hc, hq, hk, nameB_size (hf), by rw [show x.peer = ⟨#[]⟩ from ep]; decide, by rw [show x.note = ⟨#[]⟩ from en]; decide, by rw [show x.legs = [] from el]; exact ⟨by decide, fun l hl => by simp at hl⟩, by rw [show x.period = 0 from epd]; decide, by rw [show x.hold = 0 from eh]; decide⟩
  omega
theorem legsR_enc : ∀ (L : List Leg) (t : List UInt8), (∀ y ∈ L, y.acct.size ≤ 8 ∧ R64 y.sum) → legsR L.length (0, L.flatMap legBs ++ t) = (L, (0, t))
  | [], _, _ => rfl
  | y :: r, t, h => by
    have h0 := h y (by simp)
    have e : (y :: r).flatMap legBs ++ t = textB y.acct ++ (numB y.sum ++ (r.flatMap legBs ++ t)) := by
      rw [List.flatMap_cons]
      unfold legBs
      simp only [List.append_assoc]
    have e1 := txR_enc (s := y.acct) (m := 8) (by have := h0.1; omega) (by have := h0.1; omega) (numB y.sum ++ (r.flatMap legBs ++ t))
    have e2 := nuR_enc h0.2 (r.flatMap legBs ++ t)
    rw [e, List.length_cons]
    simp only [legsR, e1, e2, legsR_enc r t fun z hz => h z (by simp [hz])]
theorem legsR_dec : ∀ (n : Nat) (s : St), (legsR n s).2.1 = 0 → s.1 = 0 ∧ s.2 = (legsR n s).1.flatMap legBs ++ (legsR n s).2.2 ∧ ∀ y ∈ (legsR n s).1, R64 y.sum
  | 0, s, h => ⟨h, by simp [legsR], by simp [legsR]⟩
  | n + 1, s, h => by
    simp only [legsR] at h ⊢
    obtain ⟨a3, b3, c3⟩ := legsR_dec n (nuR (txR 8 s).2).2 h
    obtain ⟨a2, b2, c2⟩ := nuR_dec (s := (txR 8 s).2) a3
    obtain ⟨a1, b1, _⟩ := txR_dec (m := 8) (s := s) a2
    refine ⟨a1, ?_, fun y hy => ?_⟩
    · conv => lhs; rw [b1, b2, b3]
      simp only [List.flatMap_cons, legBs, List.append_assoc]
    · simp only [List.mem_cons] at hy
      rcases hy with rfl | hy
      · exact c2
      · exact c3 y hy
def tl11 (x : Od) : List UInt8 := textB x.note ++ []
def tl10 (x : Od) : List UInt8 := numB x.hold ++ tl11 x
def tl9 (x : Od) : List UInt8 := numB x.period ++ tl10 x
def tl8 (x : Od) : List UInt8 := x.legs.flatMap legBs ++ tl9 x
def tl7 (x : Od) : List UInt8 := numB x.legs.length ++ tl8 x
def tl6 (x : Od) : List UInt8 := numB x.sum ++ tl7 x
def tl5 (x : Od) : List UInt8 := textB x.peer ++ tl6 x
def tl4 (x : Od) : List UInt8 := textB x.acct ++ tl5 x
def tl3 (x : Od) : List UInt8 := numB x.kind ++ tl4 x
def tl2 (x : Od) : List UInt8 := numB x.seq ++ tl3 x
def tl1 (x : Od) : List UInt8 := numB x.client ++ tl2 x
theorem bytesB_tl (x : Od) : bytesB x = tl1 x := by
  unfold bytesB headBs tl1 tl2 tl3 tl4 tl5 tl6 tl7 tl8 tl9 tl10 tl11
  simp only [List.append_assoc, List.append_nil]
/-- what is written is read again -/
theorem back_law1 {x : Od} (h : rightB x = true) (hr : InR x) : readOk (bytesB x) = true ∧ rawO (bytesB x) = x.core := by
  obtain ⟨fc, fq, fk, fa, fp, fn, fl, fd, fh⟩ := fit_of h
  obtain ⟨rc, rq, rk, rs, rd, rh, rl⟩ := hr
  have r1 : smR 9 (0, bytesB x) = ((x.client, 0), (0, tl2 x)) := by rw [bytesB_tl]; exact smR_enc fc.1 fc.2 rc _
  have r2 : smR 999 (s1 (bytesB x)) = ((x.seq, 0), (0, tl3 x)) := by unfold s1; rw [r1]; exact smR_enc (by omega) fq.2 rq _
  have r3 : smR 7 (s2 (bytesB x)) = ((x.kind, 0), (0, tl4 x)) := by unfold s2; rw [r2]; exact smR_enc (by omega) fk.2 rk _
  have r4 : txR 8 (s3 (bytesB x)) = ((x.acct, 0), (0, tl5 x)) := by unfold s3; rw [r3]; exact txR_enc (by omega) (by omega) _
  have r5 : txR 8 (s4 (bytesB x)) = ((x.peer, 0), (0, tl6 x)) := by unfold s4; rw [r4]; exact txR_enc (by omega) (by omega) _
  have r6 : nuR (s5 (bytesB x)) = ((x.sum, 0), (0, tl7 x)) := by unfold s5; rw [r5]; exact nuR_enc rs _
  have r7 : smR 6 (s6 (bytesB x)) = (((x.legs.length : Int), 0), (0, tl8 x)) := by unfold s6; rw [r6]; exact smR_enc (by omega) (by omega) ⟨by omega, by omega⟩ _
  have n7 : nLegs (bytesB x) = x.legs.length := by unfold nLegs; rw [r7]; simp
  have r8 : legsR (nLegs (bytesB x)) (s7 (bytesB x)) = (x.legs, (0, tl9 x)) := by unfold s7; rw [n7, r7]; exact legsR_enc _ _ fun y hy => ⟨fl.2 y hy, rl y hy⟩
  have r9 : smR 1000 (s8 (bytesB x)) = ((x.period, 0), (0, tl10 x)) := by unfold s8; rw [r8]; exact smR_enc fd.1 fd.2 rd _
  have r10 : smR 9999 (s9 (bytesB x)) = ((x.hold, 0), (0, tl11 x)) := by unfold s9; rw [r9]; exact smR_enc fh.1 fh.2 rh _
  have r11 : txR 20 (s10 (bytesB x)) = ((x.note, 0), (0, [])) := by unfold s10; rw [r10]; exact txR_enc (by omega) (by omega) _
  have hw : rawO (bytesB x) = x.core := by
    unfold rawO Od.core
    rw [r1, r2, r3, r4, r5, r6, r8, r9, r10, r11]
  refine ⟨?_, hw⟩
  unfold readOk
  rw [hw]
  unfold s11
  rw [r11, Bool.and_eq_true]
  exact ⟨rfl, (rightB_la x none 0).trans h⟩
/-- what is read was written -/
theorem back_law2 {l : List UInt8} (h : readOk l = true) : bytesB (rawO l) = l ∧ InR (rawO l) ∧ rightB (rawO l) = true := by
  unfold readOk at h
  rw [Bool.and_eq_true] at h
  obtain ⟨h, hR⟩ := h
  obtain ⟨h11, ht⟩ := doneRd_nil (of_decide_eq_true h)
  obtain ⟨h10, b11, _⟩ := txR_dec (m := 20) (s := s10 l) h11
  obtain ⟨h9, b10, _, _, q10⟩ := smR_dec (m := 9999) (s := s9 l) h10
  obtain ⟨h8, b9, _, _, q9⟩ := smR_dec (m := 1000) (s := s8 l) h9
  obtain ⟨h7, b8, q8⟩ := legsR_dec (nLegs l) (s7 l) h8
  obtain ⟨h6, b7, n0, _, _⟩ := smR_dec (m := 6) (s := s6 l) h7
  obtain ⟨h5, b6, q6⟩ := nuR_dec (s := s5 l) h6
  obtain ⟨h4, b5, _⟩ := txR_dec (m := 8) (s := s4 l) h5
  obtain ⟨h3, b4, _⟩ := txR_dec (m := 8) (s := s3 l) h4
  obtain ⟨h2, b3, _, _, q3⟩ := smR_dec (m := 7) (s := s2 l) h3
  obtain ⟨h1, b2, _, _, q2⟩ := smR_dec (m := 999) (s := s1 l) h2
  obtain ⟨_, b1, _, _, q1⟩ := smR_dec (m := 9) (s := ((0, l) : St)) h1
  have hlen : ((legsR (nLegs l) (s7 l)).1.length : Int) = (smR 6 (s6 l)).1.1 := by
    rw [(legsR_len (nLegs l) (s7 l)).2.1]
    unfold nLegs
    omega
  refine ⟨?_, ⟨q1, q2, q3, q6, q9, q10, q8⟩, hR⟩
  have b11 : (s10 l).2 = textB (txR 20 (s10 l)).1.1 ++ [] := by rw [← ht]; exact b11
  have b10 : (s9 l).2 = numB (smR 9999 (s9 l)).1.1 ++ (s10 l).2 := b10
  have b9 : (s8 l).2 = numB (smR 1000 (s8 l)).1.1 ++ (s9 l).2 := b9
  have b8 : (s7 l).2 = (legsR (nLegs l) (s7 l)).1.flatMap legBs ++ (s8 l).2 := b8
  have b7 : (s6 l).2 = numB (smR 6 (s6 l)).1.1 ++ (s7 l).2 := b7
  have b6 : (s5 l).2 = numB (nuR (s5 l)).1.1 ++ (s6 l).2 := b6
  have b5 : (s4 l).2 = textB (txR 8 (s4 l)).1.1 ++ (s5 l).2 := b5
  have b4 : (s3 l).2 = textB (txR 8 (s3 l)).1.1 ++ (s4 l).2 := b4
  have b3 : (s2 l).2 = numB (smR 7 (s2 l)).1.1 ++ (s3 l).2 := b3
  have b2 : (s1 l).2 = numB (smR 999 (s1 l)).1.1 ++ (s2 l).2 := b2
  have b1 : l = numB (smR 9 (0, l)).1.1 ++ (s1 l).2 := b1
  rw [bytesB_tl]
  unfold tl1 tl2 tl3 tl4 tl5 tl6 tl7 tl8 tl9 tl10 tl11
  have w1 : (rawO l).client = (smR 9 (0, l)).1.1 := rfl
  have w2 : (rawO l).seq = (smR 999 (s1 l)).1.1 := rfl
  have w3 : (rawO l).kind = (smR 7 (s2 l)).1.1 := rfl
  have w4 : (rawO l).acct = (txR 8 (s3 l)).1.1 := rfl
  have w5 : (rawO l).peer = (txR 8 (s4 l)).1.1 := rfl
  have w6 : (rawO l).sum = (nuR (s5 l)).1.1 := rfl
  have w7 : ((rawO l).legs.length : Int) = (smR 6 (s6 l)).1.1 := hlen
  have w8 : (rawO l).legs = (legsR (nLegs l) (s7 l)).1 := rfl
  have w9 : (rawO l).period = (smR 1000 (s8 l)).1.1 := rfl
  have w10 : (rawO l).hold = (smR 9999 (s9 l)).1.1 := rfl
  have w11 : (rawO l).note = (txR 20 (s10 l)).1.1 := rfl
  rw [w7, w1, w2, w3, w4, w5, w6, w8, w9, w10, w11, ← b11, ← b10, ← b9, ← b8, ← b7, ← b6, ← b5, ← b4, ← b3, ← b2, ← b1]
/-- orders that may be are the same just if their bytes are -/
theorem same_bytes {x y : Od} (hx : rightB x = true) (hy : rightB y = true) (rx : InR x) (ry : InR y) : sameB x y = (bytesB x == bytesB y) := by
  rw [Bool.eq_iff_iff, sameB_core, beq_iff_eq]
  constructor
  · intro e
    have : bytesB x.core = bytesB y.core := by rw [e]
    exact this
  · intro e
    rw [← (back_law1 hx rx).2, ← (back_law1 hy ry).2, e]
theorem sameB_refl (x : Od) : sameB x x = true := sameB_core.2 rfl
theorem sameB_symm (x y : Od) : sameB x y = sameB y x := by
  rw [Bool.eq_iff_iff, sameB_core, sameB_core]
  exact eq_comm
/-- of two Ids one is ahead, or they are the same -/
def aheadB (x y : Od) : Bool := if x.client ≠ y.client then decide (x.client < y.client) else decide (x.seq < y.seq)
theorem number_ahead {x y : Od} (hx : rightB x = true) (hy : rightB y = true) : decide (1000 * x.client + x.seq < 1000 * y.client + y.seq) = aheadB x y := by
  obtain ⟨fc, fq, _⟩ := fit_of hx
  obtain ⟨gc, gq, _⟩ := fit_of hy
  unfold aheadB
  rw [Bool.eq_iff_iff]
  split <;> simp only [decide_eq_true_eq] <;> omega
theorem bytesB_le {x : Od} (h : rightB x = true) (hr : InR x) : (bytesB x).length ≤ 60000 := by
  have hf := fine_of h
  obtain ⟨a, b, c, d, e, f, g⟩ := hr
  have l0 := legs_le hf.each x.legs.length g hf.legs
  rw [List.take_length] at l0
  have hl := hf.legs
  have n1 := numB_le a
  have n2 := numB_le b
  have n3 := numB_le c
  have n4 := numB_le d
  have n5 := numB_le e
  have n6 := numB_le f
  have n7 := numB_le (n := (x.legs.length : Int)) ⟨by omega, by omega⟩
  have m1 := textB_le hf.acct
  have m2 := textB_le hf.peer
  have m3 := textB_le hf.note
  unfold bytesB headBs
  generalize textB x.acct = t1 at *
  generalize textB x.peer = t2 at *
  generalize textB x.note = t3 at *
  simp only [List.length_append]
  omega
theorem cut10_in {x : Od} (h : InR x) : InR (cut10 x) := by
  obtain ⟨a, b, c, d, e, f, g⟩ := h
  exact ⟨a, b, c, d, e, f, fun l hl => g l (List.mem_of_mem_take hl)⟩
theorem rahead6_c (x y : Od) (w : World) : Calls Tryz.prog 67 #[.agg #[i64 x.client, i64 x.seq], .agg #[i64 y.client, i64 y.seq]] w fun e w' => e = .returned (.bool (aheadB x y)) ∧ Below w.heap.size w w' := by
  obtain ⟨v, hv⟩ : ∃ v, aheadB x y = v := ⟨_, rfl⟩
  rw [hv]
  unfold aheadB at hv
  generalize x.client = a at *
  generalize x.seq = b at *
  generalize y.client = c at *
  generalize y.seq = d at *
  have hb := ((Below.refl w.heap.size w).alloc (Nat.le_refl _) (.cells #[i64 a, i64 b] 42)).alloc (by simp) (.cells #[i64 c, i64 d] 42)
  by_cases h1 : a = c
  · rw [if_neg (by simpa using h1)] at hv
    have g1 : (a != c) = false := by simpa using h1
    have g2 : (a == c) = true := by simpa using h1
    have g3 : decide (a < c) = false := decide_eq_false (by omega)
    by_cases h2 : b < d
    · have g4 : decide (b < d) = true := decide_eq_true h2
      rw [g4] at hv
      subst hv
      clear h1 h2
      go_enter Tryz.func67, Tryz.ntmps67
      go_wp2
      go_ret
      exact ⟨rfl, hb⟩
    · have g4 : decide (b < d) = false := decide_eq_false h2
      rw [g4] at hv
      subst hv
      clear h1 h2
      go_enter Tryz.func67, Tryz.ntmps67
      go_wp2
      go_ret
      exact ⟨rfl, hb⟩
  · rw [if_pos (by simpa using h1)] at hv
    have g1 : (a != c) = true := by simpa using h1
    have g2 : (a == c) = false := by simpa using h1
    by_cases h2 : a < c
    · have g4 : decide (a < c) = true := decide_eq_true h2
      rw [g4] at hv
      subst hv
      clear h1 h2
      go_enter Tryz.func67, Tryz.ntmps67
      go_wp2
      go_ret
      exact ⟨rfl, hb⟩
    · have g4 : decide (a < c) = false := decide_eq_false h2
      rw [g4] at hv
      subst hv
      clear h1 h2
      go_enter Tryz.func67, Tryz.ntmps67
      go_wp2
      go_ret
      exact ⟨rfl, hb⟩
end Go.Proofs.YtogipnfhcimeoaaGreat

/- order.Bytes: the walk -/
namespace Go.Proofs.YtogipnfhcimeoaaGreat
open Go.RowKit
set_option maxRecDepth 100000 in
set_option maxHeartbeats 8000000 in
theorem bytes_c (x : Od) (w : World) (hx : Okb w w.heap.size x) (hl : x.legs.length ≤ 65536) (hin : InR x) :
    Calls Tryz.prog 105 #[x.v] w fun e w' => ∃ v, e = .returned (.tuple #[v, i64 (if rightB x then 0 else 1)]) ∧ Own w' w.heap.size 5 v (if rightB x then bytesB x else []) ∧ Below w.heap.size w w' := by
  have hb1 := (Below.refl w.heap.size w).alloc (Nat.le_refl _) (.cells #[i64 x.client, i64 x.seq, i64 x.kind, .string x.acct, .string x.peer, i64 x.sum, .slice x.la x.legs.length x.lc, i64 x.period, i64 x.hold, .string x.note] 45)
  have hz1 : w.heap.size < (w.alloc (.cells #[i64 x.client, i64 x.seq, i64 x.kind, .string x.acct, .string x.peer, i64 x.sum, .slice x.la x.legs.length x.lc, i64 x.period, i64 x.hold, .string x.note] 45)).heap.size := by simp
  have k0 : (w.alloc (.cells #[i64 x.client, i64 x.seq, i64 x.kind, .string x.acct, .string x.peer, i64 x.sum, .slice x.la x.legs.length x.lc, i64 x.period, i64 x.hold, .string x.note] 45)).cell? ⟨w.heap.size, 0, none⟩ = some (i64 x.client) := cell_of_row _ w.heap.size 0 _ _ (0, 0) (heap_alloc_new w _)
  have k1 : (w.alloc (.cells #[i64 x.client, i64 x.seq, i64 x.kind, .string x.acct, .string x.peer, i64 x.sum, .slice x.la x.legs.length x.lc, i64 x.period, i64 x.hold, .string x.note] 45)).cell? ⟨w.heap.size, 1, none⟩ = some (i64 x.seq) := cell_of_row _ w.heap.size 1 _ _ (0, 0) (heap_alloc_new w _)
  have k2 : (w.alloc (.cells #[i64 x.client, i64 x.seq, i64 x.kind, .string x.acct, .string x.peer, i64 x.sum, .slice x.la x.legs.length x.lc, i64 x.period, i64 x.hold, .string x.note] 45)).cell? ⟨w.heap.size, 2, none⟩ = some (i64 x.kind) := cell_of_row _ w.heap.size 2 _ _ (0, 0) (heap_alloc_new w _)
  have k3 : (w.alloc (.cells #[i64 x.client, i64 x.seq, i64 x.kind, .string x.acct, .string x.peer, i64 x.sum, .slice x.la x.legs.length x.lc, i64 x.period, i64 x.hold, .string x.note] 45)).cell? ⟨w.heap.size, 3, none⟩ = some (.string x.acct) := cell_of_row _ w.heap.size 3 _ _ (0, 0) (heap_alloc_new w _)
  have k4 : (w.alloc (.cells #[i64 x.client, i64 x.seq, i64 x.kind, .string x.acct, .string x.peer, i64 x.sum, .slice x.la x.legs.length x.lc, i64 x.period, i64 x.hold, .string x.note] 45)).cell? ⟨w.heap.size, 4, none⟩ = some (.string x.peer) := cell_of_row _ w.heap.size 4 _ _ (0, 0) (heap_alloc_new w _)
  have k5 : (w.alloc (.cells #[i64 x.client, i64 x.seq, i64 x.kind, .string x.acct, .string x.peer, i64 x.sum, .slice x.la x.legs.length x.lc, i64 x.period, i64 x.hold, .string x.note] 45)).cell? ⟨w.heap.size, 5, none⟩ = some (i64 x.sum) := cell_of_row _ w.heap.size 5 _ _ (0, 0) (heap_alloc_new w _)
  have k6 : (w.alloc (.cells #[i64 x.client, i64 x.seq, i64 x.kind, .string x.acct, .string x.peer, i64 x.sum, .slice x.la x.legs.length x.lc, i64 x.period, i64 x.hold, .string x.note] 45)).cell? ⟨w.heap.size, 6, none⟩ = some (.slice x.la x.legs.length x.lc) := cell_of_row _ w.heap.size 6 _ _ (0, 0) (heap_alloc_new w _)
  have k7 : (w.alloc (.cells #[i64 x.client, i64 x.seq, i64 x.kind, .string x.acct, .string x.peer, i64 x.sum, .slice x.la x.legs.length x.lc, i64 x.period, i64 x.hold, .string x.note] 45)).cell? ⟨w.heap.size, 7, none⟩ = some (i64 x.period) := cell_of_row _ w.heap.size 7 _ _ (0, 0) (heap_alloc_new w _)
  have k8 : (w.alloc (.cells #[i64 x.client, i64 x.seq, i64 x.kind, .string x.acct, .string x.peer, i64 x.sum, .slice x.la x.legs.length x.lc, i64 x.period, i64 x.hold, .string x.note] 45)).cell? ⟨w.heap.size, 8, none⟩ = some (i64 x.hold) := cell_of_row _ w.heap.size 8 _ _ (0, 0) (heap_alloc_new w _)
  have k9 : (w.alloc (.cells #[i64 x.client, i64 x.seq, i64 x.kind, .string x.acct, .string x.peer, i64 x.sum, .slice x.la x.legs.length x.lc, i64 x.period, i64 x.hold, .string x.note] 45)).cell? ⟨w.heap.size, 9, none⟩ = some (.string x.note) := cell_of_row _ w.heap.size 9 _ _ (0, 0) (heap_alloc_new w _)
  have hR := Lib.hid (right_c0 x _ (Okb.later hx hb1) hl)
  unfold Od.v at hR ⊢
  go_enter Tryz.func105, Tryz.ntmps105
  go_wp2_with fail
  refine hR.out.mono ?_
  rintro e w1 ⟨rfl, hF⟩
  have k0 := (hF.cell (p := ⟨w.heap.size, 0, none⟩) hz1).trans k0
  have k1 := (hF.cell (p := ⟨w.heap.size, 1, none⟩) hz1).trans k1
  have k2 := (hF.cell (p := ⟨w.heap.size, 2, none⟩) hz1).trans k2
  have k3 := (hF.cell (p := ⟨w.heap.size, 3, none⟩) hz1).trans k3
  have k4 := (hF.cell (p := ⟨w.heap.size, 4, none⟩) hz1).trans k4
  have k5 := (hF.cell (p := ⟨w.heap.size, 5, none⟩) hz1).trans k5
  have k6 := (hF.cell (p := ⟨w.heap.size, 6, none⟩) hz1).trans k6
  have k7 := (hF.cell (p := ⟨w.heap.size, 7, none⟩) hz1).trans k7
  have k8 := (hF.cell (p := ⟨w.heap.size, 8, none⟩) hz1).trans k8
  have k9 := (hF.cell (p := ⟨w.heap.size, 9, none⟩) hz1).trans k9
  have hb2w := below_on hb1 (Nat.le_refl _) hF
  have hz1 := Nat.lt_of_lt_of_le hz1 hF.size
  clear hF hR
  by_cases hr : rightB x = true
  · rw [hr]
    have hx1 := Okb.later hx hb2w
    have f := fine_of hr
    obtain ⟨r1, r2, r3, r4, r5, r6, r7⟩ := hin
    have hfa := f.acct
    have hfp := f.peer
    have hfn := f.note
    have hfl := f.legs
    have hfe := f.each
    have HE : Hid (bytesB x = (headBs x ++ x.legs.flatMap legBs) ++ numB x.period ++ numB x.hold ++ textB x.note) := Lib.hid rfl
    have HH : Hid (headBs x = numB x.client ++ numB x.seq ++ numB x.kind ++ textB x.acct ++ textB x.peer ++ numB x.sum ++ numB x.legs.length) := Lib.hid rfl
    have l1 := numB_le r1
    have l2 := numB_le r2
    have l3 := numB_le r3
    have l4 := textB_le hfa
    have l5 := textB_le hfp
    have l6 := numB_le r4
    have l7 := numB_le (n := x.legs.length) ⟨by omega, by omega⟩
    have l8 := numB_le r5
    have l9 := numB_le r6
    have l10 := textB_le hfn
    have x1 : ∀ W, Calls Tryz.prog 153 #[i64 x.client] W fun e w' => ∃ v, e = .returned v ∧ Own w' W.heap.size 5 v (numB x.client) ∧ Below W.heap.size W w' := fun W => onum_c x.client W r1.1 r1.2
    have x2 : ∀ W, Calls Tryz.prog 153 #[i64 x.seq] W fun e w' => ∃ v, e = .returned v ∧ Own w' W.heap.size 5 v (numB x.seq) ∧ Below W.heap.size W w' := fun W => onum_c x.seq W r2.1 r2.2
    have x3 : ∀ W, Calls Tryz.prog 153 #[i64 x.kind] W fun e w' => ∃ v, e = .returned v ∧ Own w' W.heap.size 5 v (numB x.kind) ∧ Below W.heap.size W w' := fun W => onum_c x.kind W r3.1 r3.2
    have x4 : ∀ W, Calls Tryz.prog 106 #[.string x.acct] W fun e w' => ∃ v, e = .returned v ∧ Own w' W.heap.size 5 v (textB x.acct) ∧ Below W.heap.size W w' := fun W => text_c x.acct W (by omega)
    have x5 : ∀ W, Calls Tryz.prog 106 #[.string x.peer] W fun e w' => ∃ v, e = .returned v ∧ Own w' W.heap.size 5 v (textB x.peer) ∧ Below W.heap.size W w' := fun W => text_c x.peer W (by omega)
    have x6 : ∀ W, Calls Tryz.prog 104 #[i64 x.sum] W fun e w' => ∃ v, e = .returned v ∧ Own w' W.heap.size 5 v (numB x.sum) ∧ Below W.heap.size W w' := fun W => num_c x.sum W r4.1 r4.2
    have x7 : ∀ W, Calls Tryz.prog 153 #[i64 x.legs.length] W fun e w' => ∃ v, e = .returned v ∧ Own w' W.heap.size 5 v (numB x.legs.length) ∧ Below W.heap.size W w' := fun W => onum_c x.legs.length W (by omega) (by omega)
    have x8 : ∀ W, Calls Tryz.prog 153 #[i64 x.period] W fun e w' => ∃ v, e = .returned v ∧ Own w' W.heap.size 5 v (numB x.period) ∧ Below W.heap.size W w' := fun W => onum_c x.period W r5.1 r5.2
    have x9 : ∀ W, Calls Tryz.prog 153 #[i64 x.hold] W fun e w' => ∃ v, e = .returned v ∧ Own w' W.heap.size 5 v (numB x.hold) ∧ Below W.heap.size W w' := fun W => onum_c x.hold W r6.1 r6.2
    have x10 : ∀ W, Calls Tryz.prog 106 #[.string x.note] W fun e w' => ∃ v, e = .returned v ∧ Own w' W.heap.size 5 v (textB x.note) ∧ Below W.heap.size W w' := fun W => text_c x.note W (by omega)
    clear r1 r2 r3 r4 r5 r6 hfa hfp hfn f
    generalize numB x.client = n1 at *
    generalize numB x.seq = n2 at *
    generalize numB x.kind = n3 at *
    generalize textB x.acct = n4 at *
    generalize textB x.peer = n5 at *
    generalize numB x.sum = n6 at *
    generalize numB x.legs.length = n7 at *
    generalize numB x.period = n8 at *
    generalize numB x.hold = n9 at *
    generalize textB x.note = n10 at *
    have h0 := (Below.refl w1.heap.size w1).drew
    have hSS : ∀ V, Below w1.heap.size w1 V → (fun V : World => Below w1.heap.size w1 V ∧ V.cell? ⟨w.heap.size, 0, none⟩ = some (i64 x.client) ∧ V.cell? ⟨w.heap.size, 1, none⟩ = some (i64 x.seq) ∧ V.cell? ⟨w.heap.size, 2, none⟩ = some (i64 x.kind) ∧ V.cell? ⟨w.heap.size, 3, none⟩ = some (.string x.acct) ∧ V.cell? ⟨w.heap.size, 4, none⟩ = some (.string x.peer) ∧ V.cell? ⟨w.heap.size, 5, none⟩ = some (i64 x.sum) ∧ V.cell? ⟨w.heap.size, 6, none⟩ = some (.slice x.la x.legs.length x.lc)) V := fun V h => ⟨h, (h.cell (p := ⟨w.heap.size, 0, none⟩) hz1).trans k0, (h.cell (p := ⟨w.heap.size, 1, none⟩) hz1).trans k1, (h.cell (p := ⟨w.heap.size, 2, none⟩) hz1).trans k2, (h.cell (p := ⟨w.heap.size, 3, none⟩) hz1).trans k3, (h.cell (p := ⟨w.heap.size, 4, none⟩) hz1).trans k4, (h.cell (p := ⟨w.heap.size, 5, none⟩) hz1).trans k5, (h.cell (p := ⟨w.heap.size, 6, none⟩) hz1).trans k6⟩
    go_wp2_with fail
    go_region_held3 (fun V => Below w1.heap.size w1 V ∧ V.cell? ⟨w.heap.size, 0, none⟩ = some (i64 x.client) ∧ V.cell? ⟨w.heap.size, 1, none⟩ = some (i64 x.seq) ∧ V.cell? ⟨w.heap.size, 2, none⟩ = some (i64 x.kind) ∧ V.cell? ⟨w.heap.size, 3, none⟩ = some (.string x.acct) ∧ V.cell? ⟨w.heap.size, 4, none⟩ = some (.string x.peer) ∧ V.cell? ⟨w.heap.size, 5, none⟩ = some (i64 x.sum) ∧ V.cell? ⟨w.heap.size, 6, none⟩ = some (.slice x.la x.legs.length x.lc)) (first | exact hSS _ h0 | exact hSS _ (by assumption) | exact hSS _ (hb7.alloc hb7.size _))
      (first
        | (go_at_call 153; with_reducible refine (x1 _).mono ?_; rintro e u1 ⟨v, rfl, hO, hF⟩; obtain ⟨A1, c1, rfl, hs1⟩ := hO.sl; have hb1 := below_on h0 (Nat.le_refl _) hF; clear hO hF)
        | (go_at_call 153; with_reducible refine (x2 _).mono ?_; rintro e u2 ⟨v, rfl, hO, hF⟩; obtain ⟨A2, c2, rfl, hs2⟩ := hO.sl; have hb2 := below_on hb1 (Nat.le_refl _) hF; have hs1 := hs1.later hF; clear hO hF)
        | (go_at_call 153; with_reducible refine (x3 _).mono ?_; rintro e u3 ⟨v, rfl, hO, hF⟩; obtain ⟨A3, c3, rfl, hs3⟩ := hO.sl; have hb3 := below_on hb2 (Nat.le_refl _) hF; have hs1 := hs1.later hF; have hs2 := hs2.later hF; clear hO hF)
        | (go_at_call 106; with_reducible refine (x4 _).mono ?_; rintro e u4 ⟨v, rfl, hO, hF⟩; obtain ⟨A4, c4, rfl, hs4⟩ := hO.sl; have hb4 := below_on hb3 (Nat.le_refl _) hF; have hs1 := hs1.later hF; have hs2 := hs2.later hF; have hs3 := hs3.later hF; clear hO hF)
        | (go_at_call 106; with_reducible refine (x5 _).mono ?_; rintro e u5 ⟨v, rfl, hO, hF⟩; obtain ⟨A5, c5, rfl, hs5⟩ := hO.sl; have hb5 := below_on hb4 (Nat.le_refl _) hF; have hs1 := hs1.later hF; have hs2 := hs2.later hF; have hs3 := hs3.later hF; have hs4 := hs4.later hF; clear hO hF)
        | (go_at_call 104; with_reducible refine (x6 _).mono ?_; rintro e u6 ⟨v, rfl, hO, hF⟩; obtain ⟨A6, c6, rfl, hs6⟩ := hO.sl; have hb6 := below_on hb5 (Nat.le_refl _) hF; have hs1 := hs1.later hF; have hs2 := hs2.later hF; have hs3 := hs3.later hF; have hs4 := hs4.later hF; have hs5 := hs5.later hF; clear hO hF)
        | (go_at_call 153; with_reducible refine (x7 _).mono ?_; rintro e u7 ⟨v, rfl, hO, hF⟩; obtain ⟨A7, c7, rfl, hs7⟩ := hO.sl; have hb7 := below_on hb6 (Nat.le_refl _) hF; have hs1 := hs1.later hF; have hs2 := hs2.later hF; have hs3 := hs3.later hF; have hs4 := hs4.later hF; have hs5 := hs5.later hF; have hs6 := hs6.later hF; clear hO hF)
        | (go_at_call 152; refine (concat_byte _ _ [(⟨A1, c1, n1⟩ : SV UInt8), ⟨A2, c2, n2⟩, ⟨A3, c3, n3⟩, ⟨A4, c4, n4⟩, ⟨A5, c5, n5⟩, ⟨A6, c6, n6⟩, ⟨A7, c7, n7⟩] _ (own_lit (w := u7) (base := u7.heap.size) 25 #[.slice A1 n1.length c1, .slice A2 n2.length c2, .slice A3 n3.length c3, .slice A4 n4.length c4, .slice A5 n5.length c5, .slice A6 n6.length c6, .slice A7 n7.length c7] [(⟨A1, c1, n1⟩ : SV UInt8), ⟨A2, c2, n2⟩, ⟨A3, c3, n3⟩, ⟨A4, c4, n4⟩, ⟨A5, c5, n5⟩, ⟨A6, c6, n6⟩, ⟨A7, c7, n7⟩] (Nat.le_refl _) rfl (by simp) (by intro y hy; simp only [List.mem_cons, List.not_mem_nil, or_false] at hy; rcases hy with rfl | rfl | rfl | rfl | rfl | rfl | rfl <;> (first | exact hs1 | exact hs2 | exact hs3 | exact hs4 | exact hs5 | exact hs6 | exact hs7))).sl_of (by simp) (by simp; omega)).mono ?_; rintro e uc ⟨vc, rfl, hOc, hF⟩; have hbc := below_on (hb7.alloc hb7.size _) (Nat.le_refl _) hF; have hOc := hOc.mono (base' := w1.heap.size) (Nat.le_trans hb7.size (by simp)); clear hF))
    rename_i hh
    have eH : [(⟨A1, c1, n1⟩ : SV UInt8), ⟨A2, c2, n2⟩, ⟨A3, c3, n3⟩, ⟨A4, c4, n4⟩, ⟨A5, c5, n5⟩, ⟨A6, c6, n6⟩, ⟨A7, c7, n7⟩].flatMap SV.l = n1 ++ n2 ++ n3 ++ n4 ++ n5 ++ n6 ++ n7 := by simp
    rw [eH] at hOc
    have lH : (n1 ++ n2 ++ n3 ++ n4 ++ n5 ++ n6 ++ n7).length ≤ 770 := by simp; omega
    generalize n1 ++ n2 ++ n3 ++ n4 ++ n5 ++ n6 ++ n7 = H at *
    have k5 := (hbc.cell (p := ⟨w.heap.size, 6, none⟩) hz1).trans k6
    have k7 := (hbc.cell (p := ⟨w.heap.size, 7, none⟩) hz1).trans k7
    have k8 := (hbc.cell (p := ⟨w.heap.size, 8, none⟩) hz1).trans k8
    have k9 := (hbc.cell (p := ⟨w.heap.size, 9, none⟩) hz1).trans k9
    clear hh hSS h0 hb1 hb3 hb4 hb5 hb6 hb7 hs1 hs2 hs3 hs4 hs5 hs6 hs7 x1 x2 x3 x4 x5 x6 x7 l1 l2 l3 l4 l5 l6 l7 eH
    go_wp2_with fail
    have hlg : Sl uc uc.heap.size x.la x.lc x.legs := by obtain ⟨_, _, _, q⟩ := hx1; exact q.later hbc
    go_loopw [4, 39] (fun v i wr => ∃ k : Nat, i = i64 k ∧ k ≤ x.legs.length ∧ Own wr w1.heap.size 5 v (H ++ (x.legs.take k).flatMap legBs) ∧ Below uc.heap.size uc wr) (fun _ i _ => x.legs.length - (intOf i).toNat)
    case atStart => exact ⟨0, rfl, by omega, by simpa using hOc, Below.refl _ _⟩
    case round =>
      obtain ⟨k, rfl, hk, hO, hB⟩ := hrel
      clear hOc
      have lP := legs_le hfe k r7 hfl
      by_cases hlt : k < x.legs.length
      · obtain ⟨b, ob, hA, hbb, hsz, e0, e1⟩ := (hlg.later hB).leg hlt
        have hst := flat_step hlt
        have hac := hfe x.legs[k] (List.getElem_mem hlt)
        have hsm := r7 x.legs[k] (List.getElem_mem hlt)
        obtain ⟨P, hP⟩ : ∃ P, H ++ (x.legs.take k).flatMap legBs = P := ⟨_, rfl⟩
        have lP2 : P.length ≤ 2000 := by rw [← hP, List.length_append]; omega
        have HP := Lib.hid (show H ++ (x.legs.take (k + 1)).flatMap legBs = P ++ (textB x.legs[k].acct ++ numB x.legs[k].sum) by rw [hst, ← List.append_assoc, hP]; rfl)
        rw [hP] at hO
        have hO2 := hO
        obtain ⟨AP, cP, rfl, hsP⟩ := hO.sl
        have m1 := textB_le hac
        have m2 := numB_le hsm
        have y1 : ∀ W, Calls Tryz.prog 106 #[.string x.legs[k].acct] W fun e w' => ∃ v, e = .returned v ∧ Own w' W.heap.size 5 v (textB x.legs[k].acct) ∧ Below W.heap.size W w' := fun W => text_c _ W (by omega)
        have y2 : ∀ W, Calls Tryz.prog 104 #[i64 x.legs[k].sum] W fun e w' => ∃ v, e = .returned v ∧ Own w' W.heap.size 5 v (numB x.legs[k].sum) ∧ Below W.heap.size W w' := fun W => num_c _ W hsm.1 hsm.2
        generalize textB x.legs[k].acct = t1 at *
        generalize numB x.legs[k].sum = t2 at *
        have hB7 := (Below.refl wr.heap.size wr).alloc (Nat.le_refl _) (.cells #[.string x.legs[k].acct, i64 x.legs[k].sum] 146)
        have d0 : (wr.alloc (.cells #[.string x.legs[k].acct, i64 x.legs[k].sum] 146)).cell? ⟨wr.heap.size, 0, none⟩ = some (.string x.legs[k].acct) := by simp
        have d1 : (wr.alloc (.cells #[.string x.legs[k].acct, i64 x.legs[k].sum] 146)).cell? ⟨wr.heap.size, 1, none⟩ = some (i64 x.legs[k].sum) := by simp
        have hsP := hsP.later hB7
        have hlz : wr.heap.size < (wr.alloc (.cells #[.string x.legs[k].acct, i64 x.legs[k].sum] 146)).heap.size := by simp
        rw [hA]
        have HB := Lib.hid hB
        have hw1 : w1.heap.size ≤ wr.heap.size := Nat.le_trans hbc.size hB.size
        clear hP hst hac hsm hO hA hsz hB
        go_wp2_with fail
        generalize wr.alloc (.cells #[.string x.legs[k].acct, i64 x.legs[k].sum] 146) = W7 at *
        have h0 := (Below.refl W7.heap.size W7).drew
        have hsP := hsP.later h0
        have hSS : ∀ V, Below W7.heap.size W7 V → (fun V : World => Below W7.heap.size W7 V ∧ V.cell? ⟨wr.heap.size, 0, none⟩ = some (.string x.legs[k].acct) ∧ V.cell? ⟨wr.heap.size, 1, none⟩ = some (i64 x.legs[k].sum)) V := fun V h => ⟨h, (h.cell (p := ⟨wr.heap.size, 0, none⟩) hlz).trans d0, (h.cell (p := ⟨wr.heap.size, 1, none⟩) hlz).trans d1⟩
        go_region_held3 (fun V => Below W7.heap.size W7 V ∧ V.cell? ⟨wr.heap.size, 0, none⟩ = some (.string x.legs[k].acct) ∧ V.cell? ⟨wr.heap.size, 1, none⟩ = some (i64 x.legs[k].sum)) (first | exact hSS _ h0 | exact hSS _ (by assumption) | exact hSS _ (hb2.alloc hb2.size _))
          (first
            | (go_at_call 106; with_reducible refine (y1 _).mono ?_; rintro e u1 ⟨v, rfl, hO, hF⟩; obtain ⟨A1, c1, rfl, hs1⟩ := hO.sl; have hb1 := below_on h0 (Nat.le_refl _) hF; have hsP := hsP.later hF; clear hO hF)
            | (go_at_call 104; with_reducible refine (y2 _).mono ?_; rintro e u2 ⟨v, rfl, hO, hF⟩; obtain ⟨A2, c2, rfl, hs2⟩ := hO.sl; have hb2 := below_on hb1 (Nat.le_refl _) hF; have hsP := hsP.later hF; have hs1 := hs1.later hF; clear hO hF)
            | (go_at_call 152; refine (concat_byte _ _ [(⟨AP, cP, P⟩ : SV UInt8), ⟨A1, c1, t1⟩, ⟨A2, c2, t2⟩] _ (own_lit (w := u2) (base := u2.heap.size) 25 #[.slice AP P.length cP, .slice A1 t1.length c1, .slice A2 t2.length c2] [(⟨AP, cP, P⟩ : SV UInt8), ⟨A1, c1, t1⟩, ⟨A2, c2, t2⟩] (Nat.le_refl _) rfl (by simp) (by intro y hy; simp only [List.mem_cons, List.not_mem_nil, or_false] at hy; rcases hy with rfl | rfl | rfl <;> (first | exact hsP | exact hs1 | exact hs2))).sl_of (by simp) (by simp; omega)).mono ?_; rintro e uc ⟨vc, rfl, hOc, hF⟩; have hbc := below_on (hb2.alloc hb2.size _) (Nat.le_refl _) hF; have hOc := hOc.mono (base' := W7.heap.size) (Nat.le_trans hb2.size (by simp)); clear hF))
        have eP : [(⟨AP, cP, P⟩ : SV UInt8), ⟨A1, c1, t1⟩, ⟨A2, c2, t2⟩].flatMap SV.l = P ++ (t1 ++ t2) := by simp
        rw [eP] at hOc
        go_wp2
        go_roundw
        case rel => exact ⟨k + 1, by go_num, by omega, by rw [HP.out]; exact hOc.mono (Nat.le_trans hw1 (Nat.le_of_lt hlz)), below_on (below_on HB.out (Nat.le_refl _) hB7) (Nat.le_refl _) hbc⟩
        case measure => simp [intOf]; omega
      · obtain rfl : k = x.legs.length := by omega
        rw [List.take_length] at hO lP
        have HE2 := HE.out
        rw [HH.out] at HE2
        have HE := Lib.hid HE2
        have HB := Lib.hid (below_on hbc (Nat.le_refl _) hB)
        have k7 := (hB.cell (World.block_lt_of_cell? _ _ k7)).trans k7
        have k8 := (hB.cell (World.block_lt_of_cell? _ _ k8)).trans k8
        have k9 := (hB.cell (World.block_lt_of_cell? _ _ k9)).trans k9
        obtain ⟨P, hP⟩ : ∃ P, H ++ x.legs.flatMap legBs = P := ⟨_, rfl⟩
        have lP2 : P.length ≤ 2000 := by rw [← hP, List.length_append]; omega
        rw [hP] at hO HE
        obtain ⟨AP, cP, rfl, hsP⟩ := hO.sl
        have hw1 : w1.heap.size ≤ wr.heap.size := HB.out.size
        have hz2 : w.heap.size < wr.heap.size := World.block_lt_of_cell? _ _ k7
        clear hO hP HE2 hlg hB
        go_wp2_with fail
        have h0 := (Below.refl wr.heap.size wr).drew
        have hsP := hsP.later h0
        have hSS : ∀ V, Below wr.heap.size wr V → (fun V : World => Below wr.heap.size wr V ∧ V.cell? ⟨w.heap.size, 7, none⟩ = some (i64 x.period) ∧ V.cell? ⟨w.heap.size, 8, none⟩ = some (i64 x.hold) ∧ V.cell? ⟨w.heap.size, 9, none⟩ = some (.string x.note)) V := fun V h => ⟨h, (h.cell (p := ⟨w.heap.size, 7, none⟩) hz2).trans k7, (h.cell (p := ⟨w.heap.size, 8, none⟩) hz2).trans k8, (h.cell (p := ⟨w.heap.size, 9, none⟩) hz2).trans k9⟩
        go_region_held3 (fun V => Below wr.heap.size wr V ∧ V.cell? ⟨w.heap.size, 7, none⟩ = some (i64 x.period) ∧ V.cell? ⟨w.heap.size, 8, none⟩ = some (i64 x.hold) ∧ V.cell? ⟨w.heap.size, 9, none⟩ = some (.string x.note)) (first | exact hSS _ h0 | exact hSS _ (by assumption) | exact hSS _ (hb3.alloc hb3.size _))
          (first
            | (go_at_call 153; with_reducible refine (x8 _).mono ?_; rintro e u1 ⟨v, rfl, hO, hF⟩; obtain ⟨A1, c1, rfl, hs1⟩ := hO.sl; have hb1 := below_on h0 (Nat.le_refl _) hF; have hsP := hsP.later hF; clear hO hF)
            | (go_at_call 153; with_reducible refine (x9 _).mono ?_; rintro e u2 ⟨v, rfl, hO, hF⟩; obtain ⟨A2, c2, rfl, hs2⟩ := hO.sl; have hb2 := below_on hb1 (Nat.le_refl _) hF; have hsP := hsP.later hF; have hs1 := hs1.later hF; clear hO hF)
            | (go_at_call 106; with_reducible refine (x10 _).mono ?_; rintro e u3 ⟨v, rfl, hO, hF⟩; obtain ⟨A3, c3, rfl, hs3⟩ := hO.sl; have hb3 := below_on hb2 (Nat.le_refl _) hF; have hsP := hsP.later hF; have hs1 := hs1.later hF; have hs2 := hs2.later hF; clear hO hF)
            | (go_at_call 152; refine (concat_byte _ _ [(⟨AP, cP, P⟩ : SV UInt8), ⟨A1, c1, n8⟩, ⟨A2, c2, n9⟩, ⟨A3, c3, n10⟩] _ (own_lit (w := u3) (base := u3.heap.size) 25 #[.slice AP P.length cP, .slice A1 n8.length c1, .slice A2 n9.length c2, .slice A3 n10.length c3] [(⟨AP, cP, P⟩ : SV UInt8), ⟨A1, c1, n8⟩, ⟨A2, c2, n9⟩, ⟨A3, c3, n10⟩] (Nat.le_refl _) rfl (by simp) (by intro y hy; simp only [List.mem_cons, List.not_mem_nil, or_false] at hy; rcases hy with rfl | rfl | rfl | rfl <;> (first | exact hsP | exact hs1 | exact hs2 | exact hs3))).sl_of (by simp) (by simp; omega)).mono ?_; rintro e uc ⟨vc, rfl, hOc, hF⟩; have hbc := below_on (hb3.alloc hb3.size _) (Nat.le_refl _) hF; have hOc := hOc.mono (base' := wr.heap.size) (Nat.le_trans hb3.size (by simp)); clear hF))
        have eP : [(⟨AP, cP, P⟩ : SV UInt8), ⟨A1, c1, n8⟩, ⟨A2, c2, n9⟩, ⟨A3, c3, n10⟩].flatMap SV.l = P ++ n8 ++ n9 ++ n10 := by simp
        rw [eP] at hOc
        go_wp2
        go_ret2
        exact ⟨_, rfl, by show Own _ w.heap.size 5 _ (bytesB x); rw [HE.out]; exact hOc.mono (Nat.le_trans hb2w.size hw1), below_on (below_on hb2w (Nat.le_refl _) HB.out) (Nat.le_refl _) hbc⟩
  · have hr : rightB x = false := by simpa using hr
    rw [hr]
    clear hr
    go_wp2
    go_ret2
    exact ⟨_, rfl, Own.nil_ _ _ _, hb2w⟩
end Go.Proofs.YtogipnfhcimeoaaGreat

/- law06.ask, ref02.Same, order.Number, order.Ahead: small ones; concrete facts; law06.lives -/
namespace Go.Proofs.YtogipnfhcimeoaaGreat
open Go.RowKit
set_option maxRecDepth 100000 in
set_option maxHeartbeats 1000000 in
theorem same2_c (A B : Option Addr) (c d : Nat) (l m : List UInt8) (w : World) (h : Sl w w.heap.size A c l) (k : Sl w w.heap.size B d m) :
    Calls Tryz.prog 22 #[.slice A l.length c, .slice B m.length d] w fun e w' => e = .returned (.bool (l == m)) ∧ Below w.heap.size w w' := by
  have c1 := conv_bytes h
  have c2 := conv_bytes k
  clear h k
  go_enter Tryz.func22, Tryz.ntmps22
  go_wp2
  go_ret
  exact ⟨rfl, Below.refl _ _⟩
set_option maxRecDepth 100000 in
set_option maxHeartbeats 1000000 in
theorem number_c (a b : Int) (w : World) (h1 : -1000000 ≤ a ∧ a ≤ 1000000) (h2 : -1000000 ≤ b ∧ b ≤ 1000000) : Calls Tryz.prog 191 #[.agg #[i64 a, i64 b]] w fun e w' => e = .returned (i64 (1000 * a + b)) ∧ Below w.heap.size w w' := by
  have w1 : IntKind.i64.wrap (1000 * a) = 1000 * a := by rw [IntKind.wrap_i64]; omega
  have w2 : IntKind.i64.wrap (1000 * a + b) = 1000 * a + b := by rw [IntKind.wrap_i64]; omega
  go_enter Tryz.func191, Tryz.ntmps191
  go_wp2
  go_ret
  exact ⟨rfl, (Below.refl _ _).alloc (Nat.le_refl _) _⟩
abbrev askO : Od := askOd 1 ⟨#[97]⟩
abbrev askBs : List UInt8 := [0, 2, 14, 2, 97, 0, 0, 0, 0, 0, 0]
theorem ask_right : rightB askO = true := by kernel_rfl
theorem ask_bytes : bytesB askO = askBs := by kernel_rfl
theorem ask_ok : readOk askBs = true := by kernel_rfl
theorem ask_read : readO askBs = askO := by kernel_rfl
theorem ask_okb (W : World) (n : Nat) : Okb W n askO := ⟨by decide, by decide, by decide, SlS.nil_ _ _⟩
theorem sameB_la (a : Option Addr) (c : Nat) : sameB ({ askO with la := a, lc := c } : Od) askO = true := sameB_core.2 rfl
theorem ask_inr : InR askO := ⟨by unfold R64; decide, by unfold R64; decide, by unfold R64; decide, by unfold R64; decide, by unfold R64; decide, by unfold R64; decide, fun l hl => by simp [askOd] at hl⟩
end Go.Proofs.YtogipnfhcimeoaaGreat

/- what the reference's inner functions are to answer -/
namespace Go.Proofs.YtogipnfhcimeoaaGreat
open Go.RowKit
/-- what ref06.Touches is to answer -/
abbrev RTouch : Prop := ∀ (x : Od) (w : World), Okb w w.heap.size x → x.legs.length ≤ 10 →
  Calls Tryz.prog 111 #[x.v] w fun e w' => ∃ v, e = .returned v ∧ Own w' w.heap.size 9 v (touches x) ∧ Below w.heap.size w w'
/-- what ref10.Clash is to answer -/
abbrev RClash : Prop := ∀ (x y : Od) (w : World), Okb w w.heap.size x → Okb w w.heap.size y → x.legs.length ≤ 10 → y.legs.length ≤ 10 →
  Calls Tryz.prog 66 #[x.v, y.v] w fun e w' => e = .returned (.bool (clashB x y)) ∧ Below w.heap.size w w'
end Go.Proofs.YtogipnfhcimeoaaGreat
