/- hold.Held: data; cmp.Compare, cmp.Or; the order of holds -/
import Derived.Test.YthmgchohbdlonaaGreatRows
import Derived.Test.YthmgchohbdlonaaGreatHold
import Derived.Test.YthmgchohbdlonaaGreatOrdK
import Derived.Test.YthmgchohbdlonaaGreatSortF
import Derived.Test.YthmgchohbdlonaaGreatRegL
import Derived.Deep.RegionHeld3
import Derived.WalkKit
import Derived.WalkSpells
import Derived.WalkLawsBesides
import Derived.Deep.QuietTactic
import Derived.BigQuiet
import Derived.Laws.StructEq
import Derived.Deep.DeepFit
import Derived.StillTailTactics
namespace Go.Proofs.YthmgchohbdlonaaGreat
open Go.RowKit
/-- hold.Held -/
structure Held where
  num : Int
  acct : ByteArray
  sum : Int
instance : Inhabited Held := ⟨⟨0, ⟨#[]⟩, 0⟩⟩
abbrev Held.v (x : Held) : Value := .agg #[i64 x.num, .string x.acct, i64 x.sum]
instance encHeld : Enc Held where
  size := 3
  cells x := [i64 x.num, .string x.acct, i64 x.sum]
  val := Held.v
  ok _ _ x := x.acct.size ≤ maxLen
  len _ := rfl
  one _ v hv := by simp only [List.mem_cons, List.not_mem_nil, or_false] at hv; rcases hv with rfl | rfl | rfl <;> rfl
  keep h _ _ := h
theorem Held.ext_ {a b : Held} (h1 : a.num = b.num) (h2 : a.acct = b.acct) (h3 : a.sum = b.sum) : a = b := by cases a; cases b; simp_all
instance : DecidableEq Held := fun a b => if h : a.num = b.num ∧ a.acct = b.acct ∧ a.sum = b.sum then isTrue (Held.ext_ h.1 h.2.1 h.2.2) else isFalse (fun e => h (by rw [e]; exact ⟨rfl, rfl, rfl⟩))
theorem SlS.held {w : World} {S : Nat → Prop} {c : Nat} {A : Option Addr} {l : List Held} (h : SlS w S A c l) {k : Nat} (hk : k < l.length) : ∃ b o, A = some ⟨b, o, none⟩ ∧ S b ∧ l[k].acct.size ≤ maxLen ∧
    w.cell? ⟨b, o + k * 3, none⟩ = some (i64 l[k].num) ∧ w.cell? ⟨b, o + k * 3 + 1, none⟩ = some (.string l[k].acct) ∧ w.cell? ⟨b, o + k * 3 + 2, none⟩ = some (i64 l[k].sum) := by
  obtain ⟨b, o, hA, hb, hok, hc⟩ := h.at_ hk
  exact ⟨b, o, hA, hb, hok, hc 0 _ rfl, hc 1 _ rfl, hc 2 _ rfl⟩
def Held.key (x : Held) : Hk := ⟨x.acct, x.num⟩
def ltH (a b : Held) : Bool := bless a.acct b.acct || (decide (a.acct = b.acct) && decide (a.num < b.num))
theorem keyH : KeyOrd ltH Held.key where
  strict := by
    refine ⟨fun a => by unfold ltH; rw [bless_strict.irr]; simp, fun a b c h1 h2 => ?_, fun a b c h1 h2 => ?_⟩
    · unfold ltH at *
      simp only [Bool.or_eq_true, Bool.and_eq_true, decide_eq_true_eq] at *
      rcases h1 with h1 | ⟨h1, h1'⟩
      · rcases h2 with h2 | ⟨h2, h2'⟩
        · exact .inl (bless_strict.trans _ _ _ h1 h2)
        · rw [← h2]; exact .inl h1
      · rcases h2 with h2 | ⟨h2, h2'⟩
        · rw [h1]; exact .inl h2
        · exact .inr ⟨h1.trans h2, by omega⟩
    · unfold ltH at *
      simp only [Bool.or_eq_false_iff, Bool.and_eq_false_iff, decide_eq_false_iff_not] at *
      refine ⟨bless_strict.co _ _ _ h1.1 h2.1, ?_⟩
      by_cases e : a.acct = c.acct
      · right
        have e1 : a.acct = b.acct := bless_tri h1.1 (by rw [e]; exact h2.1)
        have e2 : b.acct = c.acct := by rw [← e1]; exact e
        have := h1.2.resolve_left (fun h => h e1)
        have := h2.2.resolve_left (fun h => h e2)
        omega
      · exact .inl e
  ne a b h e := by
    unfold Held.key at e
    injection e with e1 e2
    unfold ltH at h
    rw [e1, bless_strict.irr, e2] at h
    simp at h
  co a b h := by
    unfold ltH
    by_cases e : a.acct = b.acct
    · have : a.num ≠ b.num := fun e2 => h (by unfold Held.key; rw [e, e2])
      rcases Int.lt_or_gt_of_ne this with h1 | h1
      · left; simp [e, h1]
      · right; simp [e, h1]
    · cases h1 : bless a.acct b.acct with
      | true => left; simp
      | false =>
        cases h2 : bless b.acct a.acct with
        | true => right; simp
        | false => exact absurd (bless_tri h1 h2) e
  eq a b h c := by
    unfold Held.key at h
    injection h with e1 e2
    unfold ltH
    rw [e1, e2]
    exact ⟨rfl, rfl⟩
/-- cmp.Compare -/
def cmpS (s t : ByteArray) : Int := if bless s t then -1 else if bless t s then 1 else 0
def cmpN (s t : Int) : Int := if s < t then -1 else if t < s then 1 else 0
set_option maxRecDepth 100000 in
set_option maxHeartbeats 400000 in
theorem isNaNs_c (s : ByteArray) (w : World) : Calls Tryz.prog 62 #[.string s] w fun e w' => e = .returned (.bool false) ∧ w = w' := by
  have e1 := beqS_of_eq (rfl : s = s)
  go_enter Tryz.func62, Tryz.ntmps62
  go_wp2
  go_ret
  exact ⟨rfl, rfl⟩
set_option maxRecDepth 100000 in
set_option maxHeartbeats 400000 in
theorem isNaNn_c (s : Int) (w : World) : Calls Tryz.prog 63 #[i64 s] w fun e w' => e = .returned (.bool false) ∧ w = w' := by
  go_enter Tryz.func63, Tryz.ntmps63
  go_wp2
  go_ret
  exact ⟨rfl, rfl⟩
set_option maxRecDepth 100000 in
set_option maxHeartbeats 2000000 in
theorem cmpS_c (s t : ByteArray) (w : World) : Calls Tryz.prog 36 #[.string s, .string t] w fun e w' => e = .returned (i64 (cmpS s t)) ∧ w = w' := by
  have HC := Lib.hid (show cmpS s t = if bless s t then -1 else if bless t s then 1 else 0 from rfl)
  generalize cmpS s t = r at *
  go_enter Tryz.func36, Tryz.ntmps36
  go_wp2_with fail
  refine (isNaNs_c _ _).mono ?_
  rintro e w1 ⟨rfl, rfl⟩
  go_wp2_with fail
  refine (isNaNs_c _ _).mono ?_
  rintro e w1 ⟨rfl, rfl⟩
  cases h1 : bless s t with
  | true =>
    have g1 : Op.bytesLess s.toList t.toList = true := h1
    have HR := Lib.hid (show r = -1 by rw [HC.out, h1]; rfl)
    clear h1
    go_wp2
    go_ret
    exact ⟨by rw [HR.out]; rfl, rfl⟩
  | false =>
    have g1 : Op.bytesLess s.toList t.toList = false := h1
    cases h2 : bless t s with
    | true =>
      have g2 : (s.toList == t.toList) = false := beqS_of_ne (fun e => by rw [e, bless_strict.irr] at h2; cases h2)
      have HR := Lib.hid (show r = 1 by rw [HC.out, h1, h2]; rfl)
      clear h1 h2
      go_wp2
      go_ret
      exact ⟨by rw [HR.out]; rfl, rfl⟩
    | false =>
      have g2 : (s.toList == t.toList) = true := beqS_of_eq (bless_tri h1 h2)
      have HR := Lib.hid (show r = 0 by rw [HC.out, h1, h2]; rfl)
      clear h1 h2
      go_wp2
      go_ret
      exact ⟨by rw [HR.out]; rfl, rfl⟩
set_option maxRecDepth 100000 in
set_option maxHeartbeats 2000000 in
theorem cmpN_c (s t : Int) (w : World) : Calls Tryz.prog 37 #[i64 s, i64 t] w fun e w' => e = .returned (i64 (cmpN s t)) ∧ w = w' := by
  have HC := Lib.hid (show cmpN s t = if s < t then -1 else if t < s then 1 else 0 from rfl)
  generalize cmpN s t = r at *
  go_enter Tryz.func37, Tryz.ntmps37
  go_wp2_with fail
  refine (isNaNn_c _ _).mono ?_
  rintro e w1 ⟨rfl, rfl⟩
  go_wp2_with fail
  refine (isNaNn_c _ _).mono ?_
  rintro e w1 ⟨rfl, rfl⟩
  by_cases h1 : s < t
  · have g1 : decide (s < t) = true := decide_eq_true h1
    have HR := Lib.hid (show r = -1 by rw [HC.out, if_pos h1])
    clear h1
    go_wp2
    go_ret
    exact ⟨by rw [HR.out]; rfl, rfl⟩
  · have g1 : decide (s < t) = false := decide_eq_false h1
    by_cases h2 : t < s
    · have g2 : decide (t < s) = true := decide_eq_true h2
      have HR := Lib.hid (show r = 1 by rw [HC.out, if_neg h1, if_pos h2])
      clear h1 h2
      go_wp2
      go_ret
      exact ⟨by rw [HR.out]; rfl, rfl⟩
    · have g2 : decide (t < s) = false := decide_eq_false h2
      have HR := Lib.hid (show r = 0 by rw [HC.out, if_neg h1, if_neg h2])
      clear h1 h2
      go_wp2
      go_ret
      exact ⟨by rw [HR.out]; rfl, rfl⟩
/-- cmp.Or at two ints -/
def orN (a b : Int) : Int := if a ≠ 0 then a else b
set_option maxRecDepth 100000 in
set_option maxHeartbeats 4000000 in
theorem or2_c (a b : Int) (g : Nat) (w : World) (h0 : w.cell? ⟨g, 0, none⟩ = some (i64 a)) (h1 : w.cell? ⟨g, 1, none⟩ = some (i64 b)) :
    Calls Tryz.prog 35 #[.slice (some ⟨g, 0, none⟩) 2 2] w fun e w' => e = .returned (i64 (orN a b)) ∧ w = w' := by
  have HC := Lib.hid (show orN a b = if a ≠ 0 then a else b from rfl)
  generalize orN a b = r at *
  go_enter Tryz.func35, Tryz.ntmps35
  go_wp2
  by_cases ha : a = 0
  · have HR := Lib.hid (show r = b by rw [HC.out, if_neg (by simpa using ha)])
    subst ha
    refine wp_loop_rounds 3 ?_
    rw [rounds_succ]
    by_cases hb : b = 0
    · have HR := Lib.hid (show r = 0 by rw [HR.out, hb])
      subst hb
      go_wp2
      rw [rounds_succ]
      go_wp2
      rw [rounds_succ]
      go_wp2
      go_ret
      exact ⟨by rw [HR.out]; rfl, rfl⟩
    · have g2 : (b != 0) = true := by simpa using hb
      clear hb
      go_wp2
      rw [rounds_succ]
      go_wp2
      go_ret
      exact ⟨by rw [HR.out]; rfl, rfl⟩
  · have g1 : (a != 0) = true := by simpa using ha
    have HR := Lib.hid (show r = a by rw [HC.out, if_pos ha])
    clear ha
    refine wp_loop_rounds 1 ?_
    rw [rounds_succ]
    go_wp2
    go_ret
    exact ⟨by rw [HR.out]; rfl, rfl⟩
end Go.Proofs.YthmgchohbdlonaaGreat
