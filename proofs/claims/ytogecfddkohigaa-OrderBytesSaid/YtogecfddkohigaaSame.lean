/- slices.Equal at legs, order.Same -/
import Derived.Test.YtogecfddkohigaaRows
import Derived.Test.YtogecfddkohigaaAppend
import Derived.Test.YtogecfddkohigaaAt
import Derived.WalkKit
import Derived.WalkSpells
import Derived.WalkLawsBesides
import Derived.Deep.QuietTactic
import Derived.BigQuiet
import Derived.Laws.StructEq
import Derived.Deep.DeepFit
import Derived.StillTailTactics
namespace Go.Proofs.Ytogecfddkohigaa
open Go.RowKit
theorem neq_leg (a b : ByteArray) (c d : Int) (w : World) : (binOp .neq 58 (.agg #[.string a, i64 c]) (.agg #[.string b, i64 d])).run Try.prog w = .ok (.bool (!decide (Leg.mk a c = ⟨b, d⟩))) w := by
  have u3 := Try.underlying2
  have a3 := Try.isAgg2
  have z3 := Try.sizeOf2
  have u9 := Try.underlying9
  have a9 := Try.isAgg9
  have z9 := Try.sizeOf9
  have hS : Try.prog.underlying 58 = some (.struct (Try.prog.fieldsOf 58)) := by kernel_rfl
  have hp : Try.prog.stoodInHeld 58 = false := by kernel_rfl
  rw [run_neq_struct, show (10000 : Nat) = 9999 + 1 from rfl, run_equalIn_agg w 9999 58 _ _ hS hp]
  simp only [Program.fieldsOf, Try.underlying58]
  go_simp
  by_cases h1 : a = b
  · have h3 := beqS_of_eq h1
    by_cases h2 : c = d <;> simp_all
  · have h3 := beqS_of_ne h1
    by_cases h2 : c = d <;> simp_all

set_option maxRecDepth 100000 in
set_option maxHeartbeats 400000 in
theorem equal_leg (A C : Option Addr) (c d : Nat) (l m : List Leg) (w : World) (h : Sl w w.heap.size A c l) (k : Sl w w.heap.size C d m) (hl : l.length ≤ 65536) (hm : m.length ≤ 65536) :
    Calls Try.prog 68 #[.slice A l.length c, .slice C m.length d] w fun e w' => e = .returned (.bool (decide (l = m))) ∧ ∃ n, w.drewN n = w' := by
  by_cases hlm : l.length = m.length
  · have hne : ((l.length : Int) != (m.length : Int)) = false := by rw [hlm]; simp
    have HL := Lib.hid hlm
    clear hlm
    go_enter Try.func68, Try.ntmps68
    go_wp2
    go_loopw [13] (fun i wr => ∃ (j n : Nat), i = i64 j ∧ j ≤ l.length ∧ l.take j = m.take j ∧ wr = w.drewN n) (fun i _ => l.length - (intOf i).toNat)
    case atStart => exact ⟨0, 0, rfl, by omega, rfl, rfl⟩
    case round =>
      obtain ⟨j, n, rfl, hj, ht, rfl⟩ := hrel
      have HT := Lib.hid ht
      clear ht
      by_cases hlt : j < l.length
      · have hltm : j < m.length := by have := HL.out; omega
        obtain ⟨b, o, rfl, hb, -, c0, c1⟩ := h.leg hlt
        obtain ⟨b', o', rfl, hb', -, c0', c1'⟩ := k.leg hltm
        have he : ∀ W : World, (binOp .neq 58 (.agg #[.string l[j].acct, i64 l[j].sum]) (.agg #[.string m[j].acct, i64 m[j].sum])).run Try.prog W = .ok (.bool (!decide (l[j] = m[j]))) W := neq_leg _ _ _ _
        by_cases heq : l[j] = m[j]
        · simp only [decide_eq_true heq, Bool.not_true] at he
          have Heq := Lib.hid heq
          clear heq
          go_wp2
          go_quiet (fail)
          go_wp2
          go_roundw
          case rel => exact ⟨j + 1, n + _, by go_num, by omega, by rw [List.take_succ_eq_append_getElem hlt, List.take_succ_eq_append_getElem hltm, HT.out, Heq.out], rfl⟩
          case measure => simp [intOf]; omega
        · simp only [decide_eq_false heq, Bool.not_false] at he
          have Heq := Lib.hid heq
          clear heq
          go_wp2
          go_quiet (fail)
          go_wp2
          go_ret
          refine ⟨?_, _, (World.drewN_drewN _ _ _).symm⟩
          rw [decide_eq_false (show ¬ l = m from fun e => Heq.out (by subst e; rfl))]
          rfl
      · have hjl : j = l.length := by omega
        subst hjl
        go_wp2
        go_ret
        refine ⟨?_, _, rfl⟩
        rw [decide_eq_true (show l = m by
          have := HT.out
          rwa [List.take_length, List.take_of_length_le (by have := HL.out; omega)] at this)]
        rfl
  · have hne : ((l.length : Int) != (m.length : Int)) = true := by rw [bne_iff_ne]; omega
    have HL := Lib.hid hlm
    clear hlm
    go_enter Try.func68, Try.ntmps68
    go_wp2
    go_ret
    refine ⟨?_, 0, rfl⟩
    rw [decide_eq_false (show ¬ l = m from fun e => HL.out (by rw [e]))]
    rfl

/-- order.Same -/
structure SameOd (a b : Od) : Prop where
  acct : a.acct = b.acct
  peer : a.peer = b.peer
  note : a.note = b.note
  id : a.id = b.id
  kind : a.kind = b.kind
  sum : a.sum = b.sum
  period : a.period = b.period
  hold : a.hold = b.hold
  legs : a.legs = b.legs
instance (a b : Od) : Decidable (SameOd a b) :=
  if h : a.acct = b.acct ∧ a.peer = b.peer ∧ a.note = b.note ∧ a.id = b.id ∧ a.kind = b.kind ∧ a.sum = b.sum ∧ a.period = b.period ∧ a.hold = b.hold ∧ a.legs = b.legs then
    isTrue ⟨h.1, h.2.1, h.2.2.1, h.2.2.2.1, h.2.2.2.2.1, h.2.2.2.2.2.1, h.2.2.2.2.2.2.1, h.2.2.2.2.2.2.2.1, h.2.2.2.2.2.2.2.2⟩
  else isFalse fun k => h ⟨k.1, k.2, k.3, k.4, k.5, k.6, k.7, k.8, k.9⟩
abbrev sameB (a b : Od) : Bool := decide (SameOd a b)

set_option maxRecDepth 100000 in
set_option maxHeartbeats 1000000 in
theorem same_c (x y : Od) (w : World) (hx : Okb w w.heap.size x) (hy : Okb w w.heap.size y) (hlx : x.legs.length ≤ 65536) (hly : y.legs.length ≤ 65536) :
    Calls Try.prog 29 #[x.v, y.v] w fun e w' => e = .returned (.bool (sameB x y)) ∧ Below w.heap.size w w' := by
  obtain ⟨-, -, -, hgx⟩ := hx
  obtain ⟨-, -, -, hgy⟩ := hy
  unfold Od.v
  by_cases h0 : x.acct = y.acct
  · have q0 := beqS_of_eq h0
    by_cases h1 : x.peer = y.peer
    · have q1 := beqS_of_eq h1
      by_cases h2 : x.note = y.note
      · have q2 := beqS_of_eq h2
        by_cases h3 : x.id = y.id
        · have q3 : ∀ W : World, (binOp .eql 27 (.agg #[i64 x.client, i64 x.seq]) (.agg #[i64 y.client, i64 y.seq])).run Try.prog W = .ok (.bool true) W := fun W => by rw [eq_id, decide_eq_true (show Id.mk x.client x.seq = ⟨y.client, y.seq⟩ from h3)]
          by_cases h4 : x.kind = y.kind
          · have q4 : (x.kind == y.kind) = true := beq_iff_eq.2 h4
            by_cases h5 : x.sum = y.sum
            · have q5 : (x.sum == y.sum) = true := beq_iff_eq.2 h5
              by_cases h6 : x.period = y.period
              · have q6 : (x.period == y.period) = true := beq_iff_eq.2 h6
                by_cases h7 : x.hold = y.hold
                · have q7 : (x.hold == y.hold) = true := beq_iff_eq.2 h7
                  have H : Hid (x.acct = y.acct ∧ x.peer = y.peer ∧ x.note = y.note ∧ x.id = y.id ∧ x.kind = y.kind ∧ x.sum = y.sum ∧ x.period = y.period ∧ x.hold = y.hold) := Lib.hid ⟨h0, h1, h2, h3, h4, h5, h6, h7⟩
                  clear h0 h1 h2 h3 h4 h5 h6 h7
                  go_enter Try.func29, Try.ntmps29
                  go_wp2_with fail
                  have hb1 : Below w.heap.size w ((w.alloc (.cells #[i64 x.client, i64 x.seq, i64 x.kind, .string x.acct, .string x.peer, i64 x.sum, .slice x.la x.legs.length x.lc, i64 x.period, i64 x.hold, .string x.note] 30)).alloc (.cells #[i64 y.client, i64 y.seq, i64 y.kind, .string y.acct, .string y.peer, i64 y.sum, .slice y.la y.legs.length y.lc, i64 y.period, i64 y.hold, .string y.note] 30)) := ((Below.refl _ _).alloc (Nat.le_refl _) _).alloc (by simp) _
                  refine (equal_leg _ _ _ _ _ _ _ (hgx.later hb1) (hgy.later hb1) hlx hly).mono ?_
                  rintro e w1 ⟨rfl, n, rfl⟩
                  go_wp2
                  go_ret
                  refine ⟨?_, below_drewN hb1 n⟩
                  obtain ⟨h0, h1, h2, h3, h4, h5, h6, h7⟩ := H.out
                  have hs : sameB x y = decide (x.legs = y.legs) := by
                    by_cases hl : x.legs = y.legs
                    · rw [decide_eq_true hl]; exact decide_eq_true ⟨h0, h1, h2, h3, h4, h5, h6, h7, hl⟩
                    · rw [decide_eq_false hl]; exact decide_eq_false fun k => hl k.legs
                  rw [hs]
                  rfl
                · have q7 : (x.hold == y.hold) = false := beq_eq_false_iff_ne.2 h7
                  have Hs : Hid (sameB x y = false) := Lib.hid (decide_eq_false fun k => h7 k.hold)
                  clear h0 h1 h2 h3 h4 h5 h6 h7
                  go_enter Try.func29, Try.ntmps29
                  go_wp2
                  go_ret
                  exact ⟨by rw [Hs.out]; rfl, ((Below.refl _ _).alloc (Nat.le_refl _) _).alloc (by simp) _⟩
              · have q6 : (x.period == y.period) = false := beq_eq_false_iff_ne.2 h6
                have Hs : Hid (sameB x y = false) := Lib.hid (decide_eq_false fun k => h6 k.period)
                clear h0 h1 h2 h3 h4 h5 h6
                go_enter Try.func29, Try.ntmps29
                go_wp2
                go_ret
                exact ⟨by rw [Hs.out]; rfl, ((Below.refl _ _).alloc (Nat.le_refl _) _).alloc (by simp) _⟩
            · have q5 : (x.sum == y.sum) = false := beq_eq_false_iff_ne.2 h5
              have Hs : Hid (sameB x y = false) := Lib.hid (decide_eq_false fun k => h5 k.sum)
              clear h0 h1 h2 h3 h4 h5
              go_enter Try.func29, Try.ntmps29
              go_wp2
              go_ret
              exact ⟨by rw [Hs.out]; rfl, ((Below.refl _ _).alloc (Nat.le_refl _) _).alloc (by simp) _⟩
          · have q4 : (x.kind == y.kind) = false := beq_eq_false_iff_ne.2 h4
            have Hs : Hid (sameB x y = false) := Lib.hid (decide_eq_false fun k => h4 k.kind)
            clear h0 h1 h2 h3 h4
            go_enter Try.func29, Try.ntmps29
            go_wp2
            go_ret
            exact ⟨by rw [Hs.out]; rfl, ((Below.refl _ _).alloc (Nat.le_refl _) _).alloc (by simp) _⟩
        · have q3 : ∀ W : World, (binOp .eql 27 (.agg #[i64 x.client, i64 x.seq]) (.agg #[i64 y.client, i64 y.seq])).run Try.prog W = .ok (.bool false) W := fun W => by rw [eq_id, decide_eq_false (show ¬ Id.mk x.client x.seq = ⟨y.client, y.seq⟩ from h3)]
          have Hs : Hid (sameB x y = false) := Lib.hid (decide_eq_false fun k => h3 k.id)
          clear h0 h1 h2 h3
          go_enter Try.func29, Try.ntmps29
          go_wp2
          go_ret
          exact ⟨by rw [Hs.out]; rfl, ((Below.refl _ _).alloc (Nat.le_refl _) _).alloc (by simp) _⟩
      · have q2 := beqS_of_ne h2
        have Hs : Hid (sameB x y = false) := Lib.hid (decide_eq_false fun k => h2 k.note)
        clear h0 h1 h2
        go_enter Try.func29, Try.ntmps29
        go_wp2
        go_ret
        exact ⟨by rw [Hs.out]; rfl, ((Below.refl _ _).alloc (Nat.le_refl _) _).alloc (by simp) _⟩
    · have q1 := beqS_of_ne h1
      have Hs : Hid (sameB x y = false) := Lib.hid (decide_eq_false fun k => h1 k.peer)
      clear h0 h1
      go_enter Try.func29, Try.ntmps29
      go_wp2
      go_ret
      exact ⟨by rw [Hs.out]; rfl, ((Below.refl _ _).alloc (Nat.le_refl _) _).alloc (by simp) _⟩
  · have q0 := beqS_of_ne h0
    have Hs : Hid (sameB x y = false) := Lib.hid (decide_eq_false fun k => h0 k.acct)
    clear h0
    go_enter Try.func29, Try.ntmps29
    go_wp2
    go_ret
    exact ⟨by rw [Hs.out]; rfl, ((Below.refl _ _).alloc (Nat.le_refl _) _).alloc (by simp) _⟩
/-- an order without the place of its legs -/
def Od.core (x : Od) : Od := { x with la := none, lc := 0 }
theorem sameB_core {x y : Od} : sameB x y = true ↔ x.core = y.core := by
  unfold sameB Od.core
  rw [decide_eq_true_eq]
  cases x; cases y
  constructor
  · rintro ⟨h1, h2, h3, h4, h5, h6, h7, h8, h9⟩
    simp only [Od.id, Id.mk.injEq] at h1 h2 h3 h4 h5 h6 h7 h8 h9
    simp only [Od.mk.injEq]
    exact ⟨h4.1, h4.2, h5, h1, h2, h6, trivial, trivial, h9, h7, h8, h3⟩
  · intro h
    simp only [Od.mk.injEq] at h
    obtain ⟨h1, h2, h3, h4, h5, h6, _, _, h7, h8, h9, h10⟩ := h
    exact ⟨h4, h5, h10, by simp only [Od.id, h1, h2], h3, h6, h8, h9, h7⟩
theorem sameB_cc {x y : Od} : sameB x.core y.core = sameB x y := by rw [Bool.eq_iff_iff, sameB_core, sameB_core]; exact Iff.rfl
end Go.Proofs.Ytogecfddkohigaa
