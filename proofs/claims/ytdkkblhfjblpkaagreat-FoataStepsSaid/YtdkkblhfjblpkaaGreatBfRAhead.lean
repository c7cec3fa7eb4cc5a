/- ref05.Ahead -/
import Derived.Test.YtdkkblhfjblpkaaGreatRows
import Derived.Test.YtdkkblhfjblpkaaGreatBi1
import Derived.WalkKit
import Derived.WalkSpells
import Derived.WalkLawsBesides
import Derived.Deep.QuietTactic
import Derived.BigQuiet
import Derived.Laws.StructEq
import Derived.Deep.DeepFit
import Derived.StillTailTactics
namespace Go.Proofs.YtdkkblhfjblpkaaGreat
open Go.RowKit
theorem bl_at : ∀ (x y : List UInt8) (k : Nat) (h1 : k < x.length) (h2 : k < y.length), (∀ j, j < k → x[j]? = y[j]?) → x[k] ≠ y[k] → Op.bytesLess x y = decide (x[k] < y[k])
  | [], _, _, h, _, _, _ => absurd h (by simp)
  | _ :: _, [], _, _, h, _, _ => absurd h (by simp)
  | u :: r, v :: s, 0, _, _, _, hne => by
    have hne2 : (u == v) = false := by simpa using hne
    simp [Op.bytesLess, hne2]
  | u :: r, v :: s, k + 1, h1, h2, hp, hne => by
    have h0 : u = v := by simpa using hp 0 (by omega)
    subst h0
    have hl : ¬ u < u := by rw [UInt8.lt_iff_toNat_lt]; omega
    have ih := bl_at r s k (by simpa using h1) (by simpa using h2) (fun j hj => by simpa using hp (j + 1) (by omega)) (by simpa using hne)
    simp only [Op.bytesLess, decide_eq_false hl, Bool.false_or, beq_self_eq_true, Bool.true_and, List.getElem_cons_succ]
    exact ih
theorem bl_end : ∀ (x y : List UInt8) (k : Nat), (∀ j, j < k → x[j]? = y[j]?) → k ≤ x.length → k ≤ y.length → (k = x.length ∨ k = y.length) → Op.bytesLess x y = decide (x.length < y.length)
  | [], [], _, _, _, _, _ => by simp [Op.bytesLess]
  | [], _ :: _, _, _, _, _, _ => by simp [Op.bytesLess]
  | _ :: _, [], _, _, _, _, _ => by simp [Op.bytesLess]
  | u :: r, v :: s, 0, _, _, _, h => by simp at h
  | u :: r, v :: s, k + 1, hp, h1, h2, h => by
    have h0 : u = v := by simpa using hp 0 (by omega)
    subst h0
    have hl : ¬ u < u := by rw [UInt8.lt_iff_toNat_lt]; omega
    have ih := bl_end r s k (fun j hj => by simpa using hp (j + 1) (by omega)) (by simpa using h1) (by simpa using h2) (by simpa using h)
    simp only [Op.bytesLess, decide_eq_false hl, Bool.false_or, beq_self_eq_true, Bool.true_and, ih, List.length_cons, Nat.add_lt_add_iff_right]
theorem toList_get (a : ByteArray) (k : Nat) (h : k < a.size) : a.toList[k]? = some a[k] := by
  rw [ByteArray.toList_eq]
  exact List.getElem?_eq_getElem (by simpa using h)
theorem toList_len (a : ByteArray) : a.toList.length = a.size := by rw [ByteArray.toList_eq]; simp
def samePre (a b : ByteArray) (k : Nat) : Prop := ∀ j (h1 : j < a.size) (h2 : j < b.size), j < k → a[j] = b[j]
theorem samePre.get {a b : ByteArray} {k : Nat} (h : samePre a b k) (h1 : k ≤ a.size) (h2 : k ≤ b.size) : ∀ j, j < k → a.toList[j]? = b.toList[j]? := fun j hj => by
  rw [toList_get a j (by omega), toList_get b j (by omega), h j (by omega) (by omega) hj]
theorem bless_at {a b : ByteArray} {k : Nat} (h : samePre a b k) (h1 : k < a.size) (h2 : k < b.size) (hne : a[k] ≠ b[k]) : bless a b = decide (a[k].toNat < b[k].toNat) := by
  have g1 : a.toList[k]'(by rw [toList_len]; exact h1) = a[k] := (List.getElem?_eq_some_iff.1 (toList_get a k h1)).2
  have g2 : b.toList[k]'(by rw [toList_len]; exact h2) = b[k] := (List.getElem?_eq_some_iff.1 (toList_get b k h2)).2
  unfold bless
  rw [bl_at a.toList b.toList k (by rw [toList_len]; exact h1) (by rw [toList_len]; exact h2) (h.get (by omega) (by omega)) (by rw [g1, g2]; exact hne), g1, g2]
  rw [decide_eq_decide, UInt8.lt_iff_toNat_lt]
theorem bless_end {a b : ByteArray} {k : Nat} (h : samePre a b k) (h1 : k ≤ a.size) (h2 : k ≤ b.size) (he : k = a.size ∨ k = b.size) : bless a b = decide (a.size < b.size) := by
  unfold bless
  rw [bl_end a.toList b.toList k (h.get h1 h2) (by rw [toList_len]; exact h1) (by rw [toList_len]; exact h2) (by rw [toList_len, toList_len]; exact he), toList_len, toList_len]

set_option maxRecDepth 100000 in
set_option maxHeartbeats 1000000 in
theorem rahead_c (a b : ByteArray) (ha : a.size ≤ maxLen) (hb : b.size ≤ maxLen) (w : World) :
    Calls Tryz.prog 143 #[.string a, .string b] w fun e w' => e = .returned (.bool (bless a b)) ∧ Below w.heap.size w w' := by
  have ha' : a.size ≤ 9223372036854775807 := Nat.le_trans ha (by decide)
  have hb' : b.size ≤ 9223372036854775807 := Nat.le_trans hb (by decide)
  clear ha hb
  go_enter Tryz.func143, Tryz.ntmps143
  go_wp2_with fail
  go_loopw [5] (fun i wr => ∃ k : Nat, i = i64 k ∧ k ≤ a.size ∧ k ≤ b.size ∧ samePre a b k ∧ Below w.heap.size w wr) (fun i _ => a.size - (intOf i).toNat)
  case atStart => exact ⟨0, rfl, by omega, by omega, fun j _ _ h => absurd h (by omega), Below.refl _ _⟩
  case round =>
    obtain ⟨k, rfl, hka, hkb, hpre, hB⟩ := hrel
    have Hpre := Lib.hid hpre
    clear hpre
    by_cases h1 : k < a.size
    · by_cases h2 : k < b.size
      · have i0 : (0 : Int) ≤ (k : Int) := by omega
        have i1 : (k : Int) < (a.size : Int) := by omega
        have i2 : (k : Int) < (b.size : Int) := by omega
        by_cases he : a[k] = b[k]
        · have g : ((a[k].toNat : Int) != (b[k].toNat : Int)) = false := by rw [he]; simp
          have He := Lib.hid he
          clear he
          go_wp2_with fail
          go_quiet (fail)
          go_wp2
          go_roundw
          case rel => exact ⟨k + 1, by go_num, by omega, by omega, fun j h1 h2 hj => by
              rcases Nat.lt_succ_iff_lt_or_eq.1 hj with hj | rfl
              · exact Hpre.out j h1 h2 hj
              · exact He.out, below_drewN hB _⟩
          case measure => simp [intOf]; omega
        · have g : ((a[k].toNat : Int) != (b[k].toNat : Int)) = true := by
            rw [bne_iff_ne]
            exact fun h => he (UInt8.toNat_inj.1 (by omega))
          have hres := bless_at Hpre.out h1 h2 he
          have Hres := Lib.hid hres
          clear he hres
          go_wp2_with fail
          go_quiet (fail)
          have hB2 := below_drewN hB nq
          generalize wr.drewN nq = wq at hB2 ⊢
          go_wp2_with fail
          go_quiet (fail)
          go_wp2
          go_ret
          exact ⟨by rw [Hres.out]; rfl, below_drewN hB2 _⟩
      · have hres := bless_end Hpre.out hka hkb (.inr (by omega))
        have Hres := Lib.hid hres
        clear hres
        go_wp2
        go_ret
        exact ⟨by rw [Hres.out]; rfl, hB⟩
    · have hres := bless_end Hpre.out hka hkb (.inl (by omega))
      have Hres := Lib.hid hres
      clear hres
      go_wp2
      go_ret
      exact ⟨by rw [Hres.out]; rfl, hB⟩
end Go.Proofs.YtdkkblhfjblpkaaGreat
