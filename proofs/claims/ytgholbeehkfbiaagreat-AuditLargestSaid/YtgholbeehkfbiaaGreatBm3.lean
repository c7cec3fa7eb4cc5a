/- Texts of this claim, laid together: Same, RSame, SameL, FewBase, Map, Keys, KeysI, Places, Begins, FnO, Others. -/
import Derived.Test.YtgholbeehkfbiaaGreatRows
import Derived.Test.YtgholbeehkfbiaaGreatBm1
import Derived.WalkKit
import Derived.WalkSpells
import Derived.WalkLawsBesides
import Derived.Deep.QuietTactic
import Derived.BigQuiet
import Derived.Laws.StructEq
import Derived.Deep.DeepFit
import Derived.StillTailTactics
import Derived.ChangeMaps4
import Derived.Test.YtgholbeehkfbiaaGreatBm2

/- slices.Equal at legs, order.Same -/
namespace Go.Proofs.YtgholbeehkfbiaaGreat
open Go.RowKit
theorem neq_leg (a b : ByteArray) (c d : Int) (w : World) : (binOp .neq 173 (.agg #[.string a, i64 c]) (.agg #[.string b, i64 d])).run Tryz.prog w = .ok (.bool (!decide (Leg.mk a c = ⟨b, d⟩))) w := by
  have u3 := Tryz.underlying2
  have a3 := Tryz.isAgg2
  have z3 := Tryz.sizeOf2
  have u9 := Tryz.underlying9
  have a9 := Tryz.isAgg9
  have z9 := Tryz.sizeOf9
  have hS : Tryz.prog.underlying 173 = some (.struct (Tryz.prog.fieldsOf 173)) := by kernel_rfl
  have hp : Tryz.prog.stoodInHeld 173 = false := by kernel_rfl
  rw [run_neq_struct, show (10000 : Nat) = 9999 + 1 from rfl, run_equalIn_agg w 9999 173 _ _ hS hp]
  simp only [Program.fieldsOf, Tryz.underlying173]
  go_simp
  by_cases h1 : a = b
  · have h3 := beqS_of_eq h1
    by_cases h2 : c = d <;> simp_all
  · have h3 := beqS_of_ne h1
    by_cases h2 : c = d <;> simp_all

set_option maxRecDepth 100000 in
set_option maxHeartbeats 400000 in
theorem equal_leg (A C : Option Addr) (c d : Nat) (l m : List Leg) (w : World) (h : Sl w w.heap.size A c l) (k : Sl w w.heap.size C d m) (hl : l.length ≤ 65536) (hm : m.length ≤ 65536) :
    Calls Tryz.prog 171 #[.slice A l.length c, .slice C m.length d] w fun e w' => e = .returned (.bool (decide (l = m))) ∧ ∃ n, w.drewN n = w' := by
  by_cases hlm : l.length = m.length
  · have hne : ((l.length : Int) != (m.length : Int)) = false := by rw [hlm]; simp
    have HL := Lib.hid hlm
    clear hlm
    go_enter Tryz.func171, Tryz.ntmps171
    go_wp2
    go_loopw [13] (fun i wr => ∃ (j n : Nat), i = i64 j ∧ j ≤ l.length ∧ l.take j = m.take j ∧ wr = w.drewN n) (fun i _ => l.length - (intOf i).toNat)
    case atStart => exact ⟨0, 0, rfl, by omega, rfl, rfl⟩
    case round =>
      obtain ⟨j, n, rfl, hj, ht, rfl⟩ := hrel
      have HT := Lib.hid ht
      clear ht
      by_cases hlt : j < l.length
      · have hltm : j < m.length := by have := HL.out; omega
        obtain ⟨b, o, rfl, hb, -, c0, c1⟩ := h.leg hlt
        obtain ⟨b', o', rfl, hb', -, c0', c1'⟩ := k.leg hltm
        have he : ∀ W : World, (binOp .neq 173 (.agg #[.string l[j].acct, i64 l[j].sum]) (.agg #[.string m[j].acct, i64 m[j].sum])).run Tryz.prog W = .ok (.bool (!decide (l[j] = m[j]))) W := neq_leg _ _ _ _
        by_cases heq : l[j] = m[j]
        · simp only [decide_eq_true heq, Bool.not_true] at he
          have Heq := Lib.hid heq
          clear heq
          go_wp2
          go_quiet (fail)
          go_wp2
          go_roundw
          case rel => exact ⟨j + 1, n + _, by go_num, by omega, by rw [List.take_succ_eq_append_getElem hlt, List.take_succ_eq_append_getElem hltm, HT.out, Heq.out], rfl⟩
          case measure => simp [intOf]; omega
        · simp only [decide_eq_false heq, Bool.not_false] at he
          have Heq := Lib.hid heq
          clear heq
          go_wp2
          go_quiet (fail)
          go_wp2
          go_ret
          refine ⟨?_, _, (World.drewN_drewN _ _ _).symm⟩
          rw [decide_eq_false (show ¬ l = m from fun e => Heq.out (by subst e; rfl))]
          rfl
      · have hjl : j = l.length := by omega
        subst hjl
        go_wp2
        go_ret
        refine ⟨?_, _, rfl⟩
        rw [decide_eq_true (show l = m by
          have := HT.out
          rwa [List.take_length, List.take_of_length_le (by have := HL.out; omega)] at this)]
        rfl
  · have hne : ((l.length : Int) != (m.length : Int)) = true := by rw [bne_iff_ne]; omega
    have HL := Lib.hid hlm
    clear hlm
    go_enter Tryz.func171, Tryz.ntmps171
    go_wp2
    go_ret
    refine ⟨?_, 0, rfl⟩
    rw [decide_eq_false (show ¬ l = m from fun e => HL.out (by rw [e]))]
    rfl

/-- order.Same -/
structure SameOd (a b : Od) : Prop where
  acct : a.acct = b.acct
  peer : a.peer = b.peer
  note : a.note = b.note
  id : a.id = b.id
  kind : a.kind = b.kind
  sum : a.sum = b.sum
  period : a.period = b.period
  hold : a.hold = b.hold
  legs : a.legs = b.legs
instance (a b : Od) : Decidable (SameOd a b) :=
  if h : a.acct = b.acct ∧ a.peer = b.peer ∧ a.note = b.note ∧ a.id = b.id ∧ a.kind = b.kind ∧ a.sum = b.sum ∧ a.period = b.period ∧ a.hold = b.hold ∧ a.legs = b.legs then
    isTrue ⟨h.1, h.2.1, h.2.2.1, h.2.2.2.1, h.2.2.2.2.1, h.2.2.2.2.2.1, h.2.2.2.2.2.2.1, h.2.2.2.2.2.2.2.1, h.2.2.2.2.2.2.2.2⟩
  else isFalse fun k => h ⟨k.1, k.2, k.3, k.4, k.5, k.6, k.7, k.8, k.9⟩
abbrev sameB (a b : Od) : Bool := decide (SameOd a b)

set_option maxRecDepth 100000 in
set_option maxHeartbeats 1000000 in
theorem same_c (x y : Od) (w : World) (hx : Okb w w.heap.size x) (hy : Okb w w.heap.size y) (hlx : x.legs.length ≤ 65536) (hly : y.legs.length ≤ 65536) :
    Calls Tryz.prog 111 #[x.v, y.v] w fun e w' => e = .returned (.bool (sameB x y)) ∧ Below w.heap.size w w' := by
  obtain ⟨-, -, -, hgx⟩ := hx
  obtain ⟨-, -, -, hgy⟩ := hy
  unfold Od.v
  by_cases h0 : x.acct = y.acct
  · have q0 := beqS_of_eq h0
    by_cases h1 : x.peer = y.peer
    · have q1 := beqS_of_eq h1
      by_cases h2 : x.note = y.note
      · have q2 := beqS_of_eq h2
        by_cases h3 : x.id = y.id
        · have q3 : ∀ W : World, (binOp .eql 34 (.agg #[i64 x.client, i64 x.seq]) (.agg #[i64 y.client, i64 y.seq])).run Tryz.prog W = .ok (.bool true) W := fun W => by rw [eq_id, decide_eq_true (show Id.mk x.client x.seq = ⟨y.client, y.seq⟩ from h3)]
          by_cases h4 : x.kind = y.kind
          · have q4 : (x.kind == y.kind) = true := beq_iff_eq.2 h4
            by_cases h5 : x.sum = y.sum
            · have q5 : (x.sum == y.sum) = true := beq_iff_eq.2 h5
              by_cases h6 : x.period = y.period
              · have q6 : (x.period == y.period) = true := beq_iff_eq.2 h6
                by_cases h7 : x.hold = y.hold
                · have q7 : (x.hold == y.hold) = true := beq_iff_eq.2 h7
                  have H : Hid (x.acct = y.acct ∧ x.peer = y.peer ∧ x.note = y.note ∧ x.id = y.id ∧ x.kind = y.kind ∧ x.sum = y.sum ∧ x.period = y.period ∧ x.hold = y.hold) := Lib.hid ⟨h0, h1, h2, h3, h4, h5, h6, h7⟩
                  clear h0 h1 h2 h3 h4 h5 h6 h7
                  go_enter Tryz.func111, Tryz.ntmps111
                  go_wp2_with fail
                  have hb1 : Below w.heap.size w ((w.alloc (.cells #[i64 x.client, i64 x.seq, i64 x.kind, .string x.acct, .string x.peer, i64 x.sum, .slice x.la x.legs.length x.lc, i64 x.period, i64 x.hold, .string x.note] 37)).alloc (.cells #[i64 y.client, i64 y.seq, i64 y.kind, .string y.acct, .string y.peer, i64 y.sum, .slice y.la y.legs.length y.lc, i64 y.period, i64 y.hold, .string y.note] 37)) := ((Below.refl _ _).alloc (Nat.le_refl _) _).alloc (by simp) _
                  refine (equal_leg _ _ _ _ _ _ _ (hgx.later hb1) (hgy.later hb1) hlx hly).mono ?_
                  rintro e w1 ⟨rfl, n, rfl⟩
                  go_wp2
                  go_ret
                  refine ⟨?_, below_drewN hb1 n⟩
                  obtain ⟨h0, h1, h2, h3, h4, h5, h6, h7⟩ := H.out
                  have hs : sameB x y = decide (x.legs = y.legs) := by
                    by_cases hl : x.legs = y.legs
                    · rw [decide_eq_true hl]; exact decide_eq_true ⟨h0, h1, h2, h3, h4, h5, h6, h7, hl⟩
                    · rw [decide_eq_false hl]; exact decide_eq_false fun k => hl k.legs
                  rw [hs]
                  rfl
                · have q7 : (x.hold == y.hold) = false := beq_eq_false_iff_ne.2 h7
                  have Hs : Hid (sameB x y = false) := Lib.hid (decide_eq_false fun k => h7 k.hold)
                  clear h0 h1 h2 h3 h4 h5 h6 h7
                  go_enter Tryz.func111, Tryz.ntmps111
                  go_wp2
                  go_ret
                  exact ⟨by rw [Hs.out]; rfl, ((Below.refl _ _).alloc (Nat.le_refl _) _).alloc (by simp) _⟩
              · have q6 : (x.period == y.period) = false := beq_eq_false_iff_ne.2 h6
                have Hs : Hid (sameB x y = false) := Lib.hid (decide_eq_false fun k => h6 k.period)
                clear h0 h1 h2 h3 h4 h5 h6
                go_enter Tryz.func111, Tryz.ntmps111
                go_wp2
                go_ret
                exact ⟨by rw [Hs.out]; rfl, ((Below.refl _ _).alloc (Nat.le_refl _) _).alloc (by simp) _⟩
            · have q5 : (x.sum == y.sum) = false := beq_eq_false_iff_ne.2 h5
              have Hs : Hid (sameB x y = false) := Lib.hid (decide_eq_false fun k => h5 k.sum)
              clear h0 h1 h2 h3 h4 h5
              go_enter Tryz.func111, Tryz.ntmps111
              go_wp2
              go_ret
              exact ⟨by rw [Hs.out]; rfl, ((Below.refl _ _).alloc (Nat.le_refl _) _).alloc (by simp) _⟩
          · have q4 : (x.kind == y.kind) = false := beq_eq_false_iff_ne.2 h4
            have Hs : Hid (sameB x y = false) := Lib.hid (decide_eq_false fun k => h4 k.kind)
            clear h0 h1 h2 h3 h4
            go_enter Tryz.func111, Tryz.ntmps111
            go_wp2
            go_ret
            exact ⟨by rw [Hs.out]; rfl, ((Below.refl _ _).alloc (Nat.le_refl _) _).alloc (by simp) _⟩
        · have q3 : ∀ W : World, (binOp .eql 34 (.agg #[i64 x.client, i64 x.seq]) (.agg #[i64 y.client, i64 y.seq])).run Tryz.prog W = .ok (.bool false) W := fun W => by rw [eq_id, decide_eq_false (show ¬ Id.mk x.client x.seq = ⟨y.client, y.seq⟩ from h3)]
          have Hs : Hid (sameB x y = false) := Lib.hid (decide_eq_false fun k => h3 k.id)
          clear h0 h1 h2 h3
          go_enter Tryz.func111, Tryz.ntmps111
          go_wp2
          go_ret
          exact ⟨by rw [Hs.out]; rfl, ((Below.refl _ _).alloc (Nat.le_refl _) _).alloc (by simp) _⟩
      · have q2 := beqS_of_ne h2
        have Hs : Hid (sameB x y = false) := Lib.hid (decide_eq_false fun k => h2 k.note)
        clear h0 h1 h2
        go_enter Tryz.func111, Tryz.ntmps111
        go_wp2
        go_ret
        exact ⟨by rw [Hs.out]; rfl, ((Below.refl _ _).alloc (Nat.le_refl _) _).alloc (by simp) _⟩
    · have q1 := beqS_of_ne h1
      have Hs : Hid (sameB x y = false) := Lib.hid (decide_eq_false fun k => h1 k.peer)
      clear h0 h1
      go_enter Tryz.func111, Tryz.ntmps111
      go_wp2
      go_ret
      exact ⟨by rw [Hs.out]; rfl, ((Below.refl _ _).alloc (Nat.le_refl _) _).alloc (by simp) _⟩
  · have q0 := beqS_of_ne h0
    have Hs : Hid (sameB x y = false) := Lib.hid (decide_eq_false fun k => h0 k.acct)
    clear h0
    go_enter Tryz.func111, Tryz.ntmps111
    go_wp2
    go_ret
    exact ⟨by rw [Hs.out]; rfl, ((Below.refl _ _).alloc (Nat.le_refl _) _).alloc (by simp) _⟩
/-- an order without the place of its legs -/
def Od.core (x : Od) : Od := { x with la := none, lc := 0 }
theorem sameB_core {x y : Od} : sameB x y = true ↔ x.core = y.core := by
  unfold sameB Od.core
  rw [decide_eq_true_eq]
  cases x; cases y
  constructor
  · rintro ⟨h1, h2, h3, h4, h5, h6, h7, h8, h9⟩
    simp only [Od.id, Id.mk.injEq] at h1 h2 h3 h4 h5 h6 h7 h8 h9
    simp only [Od.mk.injEq]
    exact ⟨h4.1, h4.2, h5, h1, h2, h6, trivial, trivial, h9, h7, h8, h3⟩
  · intro h
    simp only [Od.mk.injEq] at h
    obtain ⟨h1, h2, h3, h4, h5, h6, _, _, h7, h8, h9, h10⟩ := h
    exact ⟨h4, h5, h10, by simp only [Od.id, h1, h2], h3, h6, h8, h9, h7⟩
theorem sameB_cc {x y : Od} : sameB x.core y.core = sameB x y := by rw [Bool.eq_iff_iff, sameB_core, sameB_core]; exact Iff.rfl
end Go.Proofs.YtgholbeehkfbiaaGreat

/- ref06.Same -/
namespace Go.Proofs.YtgholbeehkfbiaaGreat
open Go.RowKit
theorem neq_id (a b c d : Int) (w : World) : (binOp .neq 34 (.agg #[i64 a, i64 b]) (.agg #[i64 c, i64 d])).run Tryz.prog w = .ok (.bool (!decide (Id.mk a b = ⟨c, d⟩))) w := by
  have u3 := Tryz.underlying3
  have a3 := Tryz.isAgg3
  have z3 := Tryz.sizeOf3
  have hS : Tryz.prog.underlying 34 = some (.struct (Tryz.prog.fieldsOf 34)) := by kernel_rfl
  have hp : Tryz.prog.stoodInHeld 34 = false := by kernel_rfl
  rw [run_neq_struct, show (10000 : Nat) = 9999 + 1 from rfl, run_equalIn_agg w 9999 34 _ _ hS hp]
  simp only [Program.fieldsOf, Tryz.underlying34]
  go_simp
  by_cases h1 : a = c <;> by_cases h2 : b = d <;> simp [h1, h2]
theorem bneS_of_eq {s t : ByteArray} (h : s = t) : (s.toList != t.toList) = false := by rw [bne, beqS_of_eq h]; rfl
theorem bneS_of_ne {s t : ByteArray} (h : s ≠ t) : (s.toList != t.toList) = true := by rw [bne, beqS_of_ne h]; rfl

set_option maxRecDepth 100000 in
set_option maxHeartbeats 2000000 in
theorem rsame_c (x y : Od) (w : World) (hx : Okb w w.heap.size x) (hy : Okb w w.heap.size y) (hlx : x.legs.length ≤ 65536) (_hly : y.legs.length ≤ 65536) :
    Calls Tryz.prog 119 #[x.v, y.v] w fun e w' => e = .returned (.bool (sameB x y)) ∧ Below w.heap.size w w' := by
  obtain ⟨-, -, -, hgx⟩ := hx
  obtain ⟨-, -, -, hgy⟩ := hy
  have hb1 : Below w.heap.size w ((w.alloc (.cells #[i64 x.client, i64 x.seq, i64 x.kind, .string x.acct, .string x.peer, i64 x.sum, .slice x.la x.legs.length x.lc, i64 x.period, i64 x.hold, .string x.note] 37)).alloc (.cells #[i64 y.client, i64 y.seq, i64 y.kind, .string y.acct, .string y.peer, i64 y.sum, .slice y.la y.legs.length y.lc, i64 y.period, i64 y.hold, .string y.note] 37)) := ((Below.refl _ _).alloc (Nat.le_refl _) _).alloc (by simp) _
  have Hgx := Lib.hid (hgx.later hb1)
  have Hgy := Lib.hid (hgy.later hb1)
  clear hgx hgy
  unfold Od.v
  by_cases h0 : x.id = y.id
  · have q0 : ∀ W : World, (binOp .neq 34 (.agg #[i64 x.client, i64 x.seq]) (.agg #[i64 y.client, i64 y.seq])).run Tryz.prog W = .ok (.bool false) W := fun W => by rw [neq_id, decide_eq_true (show Id.mk x.client x.seq = ⟨y.client, y.seq⟩ from h0)]; rfl
    by_cases h1 : x.kind = y.kind
    · have q1 : (x.kind != y.kind) = false := by rw [h1]; simp
      by_cases h2 : x.acct = y.acct
      · have q2 := bneS_of_eq h2
        have p2 := beqS_of_eq h2
        by_cases h3 : x.peer = y.peer
        · have q3 := bneS_of_eq h3
          have p3 := beqS_of_eq h3
          by_cases h4 : x.sum = y.sum
          · have q4 : (x.sum != y.sum) = false := by rw [h4]; simp
            by_cases h5 : x.period = y.period
            · have q5 : (x.period != y.period) = false := by rw [h5]; simp
              by_cases h6 : x.hold = y.hold
              · have q6 : (x.hold != y.hold) = false := by rw [h6]; simp
                by_cases h7 : x.note = y.note
                · have q7 := bneS_of_eq h7
                  have p7 := beqS_of_eq h7
                  by_cases h8 : x.legs.length = y.legs.length
                  · have q8 : ((x.legs.length : Int) != (y.legs.length : Int)) = false := by rw [h8]; simp
                    have H : Hid (x.id = y.id ∧ x.kind = y.kind ∧ x.acct = y.acct ∧ x.peer = y.peer ∧ x.sum = y.sum ∧ x.period = y.period ∧ x.hold = y.hold ∧ x.note = y.note ∧ x.legs.length = y.legs.length) := Lib.hid ⟨h0, h1, h2, h3, h4, h5, h6, h7, h8⟩
                    clear h0 h1 h2 h3 h4 h5 h6 h7 h8
                    have hxs : sameB x y = decide (x.legs = y.legs) := by
                      obtain ⟨h0, h1, h2, h3, h4, h5, h6, h7, _⟩ := H.out
                      by_cases hl : x.legs = y.legs
                      · rw [decide_eq_true hl]; exact decide_eq_true ⟨h2, h3, h7, h0, h1, h4, h5, h6, hl⟩
                      · rw [decide_eq_false hl]; exact decide_eq_false fun k => hl k.legs
                    have Hxs := Lib.hid hxs
                    clear hxs
                    go_enter Tryz.func119, Tryz.ntmps119
                    go_wp2
                    have hcx : World.cell? ((w.alloc (.cells #[i64 x.client, i64 x.seq, i64 x.kind, .string x.acct, .string x.peer, i64 x.sum, .slice x.la x.legs.length x.lc, i64 x.period, i64 x.hold, .string x.note] 37)).alloc (.cells #[i64 y.client, i64 y.seq, i64 y.kind, .string y.acct, .string y.peer, i64 y.sum, .slice y.la y.legs.length y.lc, i64 y.period, i64 y.hold, .string y.note] 37)) ⟨w.heap.size, 6, none⟩ = some (.slice x.la x.legs.length x.lc) := cell_of_row _ w.heap.size 6 _ _ (0, 0) (heap_alloc2_old w _ _)
                    have hcy : World.cell? ((w.alloc (.cells #[i64 x.client, i64 x.seq, i64 x.kind, .string x.acct, .string x.peer, i64 x.sum, .slice x.la x.legs.length x.lc, i64 x.period, i64 x.hold, .string x.note] 37)).alloc (.cells #[i64 y.client, i64 y.seq, i64 y.kind, .string y.acct, .string y.peer, i64 y.sum, .slice y.la y.legs.length y.lc, i64 y.period, i64 y.hold, .string y.note] 37)) ⟨w.heap.size + 1, 6, none⟩ = some (.slice y.la y.legs.length y.lc) := cell_of_row _ (w.heap.size + 1) 6 _ _ (0, 0) (heap_alloc2_new w _ _)
                    generalize (w.alloc (.cells #[i64 x.client, i64 x.seq, i64 x.kind, .string x.acct, .string x.peer, i64 x.sum, .slice x.la x.legs.length x.lc, i64 x.period, i64 x.hold, .string x.note] 37)).alloc (.cells #[i64 y.client, i64 y.seq, i64 y.kind, .string y.acct, .string y.peer, i64 y.sum, .slice y.la y.legs.length y.lc, i64 y.period, i64 y.hold, .string y.note] 37) = W1 at *
                    go_loopw [5] (fun i wr => ∃ (j m : Nat), i = i64 j ∧ j ≤ x.legs.length ∧ x.legs.take j = y.legs.take j ∧ wr = W1.drewN m) (fun i _ => x.legs.length - (intOf i).toNat)
                    case atStart => exact ⟨0, 0, rfl, by omega, rfl, rfl⟩
                    case round =>
                      obtain ⟨j, m, rfl, hj, ht, rfl⟩ := hrel
                      have HT := Lib.hid ht
                      clear ht
                      by_cases hlt : j < x.legs.length
                      · have hltm : j < y.legs.length := by have := H.out.2.2.2.2.2.2.2.2; omega
                        obtain ⟨b, o, hA, hb, -, c0, c1⟩ := Hgx.out.leg hlt
                        obtain ⟨b', o', hA', hb', -, c0', c1'⟩ := Hgy.out.leg hltm
                        have he : ∀ W : World, (binOp .neq 173 (.agg #[.string x.legs[j].acct, i64 x.legs[j].sum]) (.agg #[.string y.legs[j].acct, i64 y.legs[j].sum])).run Tryz.prog W = .ok (.bool (!decide (x.legs[j] = y.legs[j]))) W := neq_leg _ _ _ _
                        rw [hA] at hcx
                        rw [hA'] at hcy
                        by_cases heq : x.legs[j] = y.legs[j]
                        · simp only [decide_eq_true heq, Bool.not_true] at he
                          have Heq := Lib.hid heq
                          clear heq
                          go_wp2
                          go_quiet (fail)
                          go_wp2
                          go_roundw
                          case rel => exact ⟨j + 1, m + _, by go_num, by omega, by rw [List.take_succ_eq_append_getElem hlt, List.take_succ_eq_append_getElem hltm, HT.out, Heq.out], rfl⟩
                          case measure => simp [intOf]; omega
                        · simp only [decide_eq_false heq, Bool.not_false] at he
                          have Heq := Lib.hid heq
                          clear heq
                          go_wp2
                          go_quiet (fail)
                          go_wp2
                          go_ret
                          refine ⟨?_, below_drewN (below_drewN hb1 _) _⟩
                          rw [Hxs.out, decide_eq_false (show ¬ x.legs = y.legs from fun e => Heq.out (by simp only [e]))]
                          rfl
                      · obtain rfl : j = x.legs.length := by omega
                        go_wp2
                        go_ret
                        refine ⟨?_, below_drewN hb1 _⟩
                        rw [Hxs.out, decide_eq_true (show x.legs = y.legs by
                          have := HT.out
                          rwa [List.take_length, List.take_of_length_le (by have := H.out.2.2.2.2.2.2.2.2; omega)] at this)]
                        rfl
                  · have q8 : ((x.legs.length : Int) != (y.legs.length : Int)) = true := by rw [bne_iff_ne]; omega
                    have Hs : Hid (sameB x y = false) := Lib.hid (decide_eq_false fun k => h8 (by rw [k.legs]))
                    clear h0 h1 h2 h3 h4 h5 h6 h7 h8
                    go_enter Tryz.func119, Tryz.ntmps119
                    go_wp2
                    go_ret
                    exact ⟨by rw [Hs.out]; rfl, hb1⟩
                · have q7 := bneS_of_ne h7
                  have p7 := beqS_of_ne h7
                  have Hs : Hid (sameB x y = false) := Lib.hid (decide_eq_false fun k => h7 k.note)
                  clear h0 h1 h2 h3 h4 h5 h6 h7
                  go_enter Tryz.func119, Tryz.ntmps119
                  go_wp2
                  go_ret
                  exact ⟨by rw [Hs.out]; rfl, hb1⟩
              · have q6 : (x.hold != y.hold) = true := bne_iff_ne.2 h6
                have Hs : Hid (sameB x y = false) := Lib.hid (decide_eq_false fun k => h6 k.hold)
                clear h0 h1 h2 h3 h4 h5 h6
                go_enter Tryz.func119, Tryz.ntmps119
                go_wp2
                go_ret
                exact ⟨by rw [Hs.out]; rfl, hb1⟩
            · have q5 : (x.period != y.period) = true := bne_iff_ne.2 h5
              have Hs : Hid (sameB x y = false) := Lib.hid (decide_eq_false fun k => h5 k.period)
              clear h0 h1 h2 h3 h4 h5
              go_enter Tryz.func119, Tryz.ntmps119
              go_wp2
              go_ret
              exact ⟨by rw [Hs.out]; rfl, hb1⟩
          · have q4 : (x.sum != y.sum) = true := bne_iff_ne.2 h4
            have Hs : Hid (sameB x y = false) := Lib.hid (decide_eq_false fun k => h4 k.sum)
            clear h0 h1 h2 h3 h4
            go_enter Tryz.func119, Tryz.ntmps119
            go_wp2
            go_ret
            exact ⟨by rw [Hs.out]; rfl, hb1⟩
        · have q3 := bneS_of_ne h3
          have p3 := beqS_of_ne h3
          have Hs : Hid (sameB x y = false) := Lib.hid (decide_eq_false fun k => h3 k.peer)
          clear h0 h1 h2 h3
          go_enter Tryz.func119, Tryz.ntmps119
          go_wp2
          go_ret
          exact ⟨by rw [Hs.out]; rfl, hb1⟩
      · have q2 := bneS_of_ne h2
        have p2 := beqS_of_ne h2
        have Hs : Hid (sameB x y = false) := Lib.hid (decide_eq_false fun k => h2 k.acct)
        clear h0 h1 h2
        go_enter Tryz.func119, Tryz.ntmps119
        go_wp2
        go_ret
        exact ⟨by rw [Hs.out]; rfl, hb1⟩
    · have q1 : (x.kind != y.kind) = true := bne_iff_ne.2 h1
      have Hs : Hid (sameB x y = false) := Lib.hid (decide_eq_false fun k => h1 k.kind)
      clear h0 h1
      go_enter Tryz.func119, Tryz.ntmps119
      go_wp2
      go_ret
      exact ⟨by rw [Hs.out]; rfl, hb1⟩
  · have q0 : ∀ W : World, (binOp .neq 34 (.agg #[i64 x.client, i64 x.seq]) (.agg #[i64 y.client, i64 y.seq])).run Tryz.prog W = .ok (.bool true) W := fun W => by rw [neq_id, decide_eq_false (show ¬ Id.mk x.client x.seq = ⟨y.client, y.seq⟩ from h0)]; rfl
    have Hs : Hid (sameB x y = false) := Lib.hid (decide_eq_false fun k => h0 k.id)
    clear h0
    go_enter Tryz.func119, Tryz.ntmps119
    go_wp2
    go_ret
    exact ⟨by rw [Hs.out]; rfl, hb1⟩
end Go.Proofs.YtgholbeehkfbiaaGreat

/- ref10.Same -/
namespace Go.Proofs.YtgholbeehkfbiaaGreat
open Go.RowKit
/-- ref10.Same -/
def sameL (a b : List Od) : Bool := decide (a.length = b.length) && (a.zip b).all fun p => sameB p.1 p.2

end Go.Proofs.YtgholbeehkfbiaaGreat

/- few and own, in lists. No program. -/
namespace Go.Proofs.YtgholbeehkfbiaaGreat
open Go.RowKit
/-- an order with its first 8 legs alone -/
def cut8 (x : Od) : Od := { x with legs := x.legs.take 8 }
def fewL (n : Nat) (l : List Od) : List Od := (l.take n).map cut8
theorem cut8_ok {w : World} {S : Nat → Prop} {x : Od} (h : Od.Ok w S x) : Od.Ok w S (cut8 x) := ⟨h.acct, h.peer, h.note, h.legs.take 8⟩
theorem cut8_small {x : Od} (h : x.legs.length ≤ 8) : cut8 x = x := by
  unfold cut8
  rw [List.take_of_length_le h]
theorem fewL_len {l : List Od} {k : Nat} (h : k < l.length) : (fewL k l).length = k := by
  unfold fewL
  rw [List.length_map, List.length_take]; omega
theorem fewL_succ {l : List Od} {k : Nat} (h : k < l.length) : fewL (k + 1) l = fewL k l ++ [cut8 l[k]] := by
  unfold fewL
  rw [List.take_succ_eq_append_getElem h, List.map_append]; rfl
theorem fewL_legs (n : Nat) (l : List Od) : ∀ x ∈ fewL n l, x.legs.length ≤ 8 := by
  intro x hx
  obtain ⟨y, _, rfl⟩ := List.mem_map.1 hx
  show (y.legs.take 8).length ≤ 8
  rw [List.length_take]; omega
theorem fewL_le (n : Nat) (l : List Od) : (fewL n l).length ≤ n := by
  unfold fewL
  rw [List.length_map, List.length_take]; omega
/-- those whose Id was not there ahead: the first k places looked at -/
def ownK (l : List Od) (k : Nat) : List Od := ((l.take k).zipIdx.filter fun p => decide (atIdx l p.1.id = (p.2 : Int))).map (·.1)
abbrev ownL (l : List Od) : List Od := ownK l l.length
theorem ownK_succ {l : List Od} {k : Nat} (h : k < l.length) : ownK l (k + 1) = if atIdx l l[k].id = (k : Int) then ownK l k ++ [l[k]] else ownK l k := by
  unfold ownK
  rw [List.take_succ_eq_append_getElem h, List.zipIdx_append, List.filter_append, List.map_append]
  have hl : (l.take k).length = k := by rw [List.length_take]; omega
  simp only [hl, Nat.zero_add, List.zipIdx_cons, List.zipIdx_nil]
  by_cases hc : atIdx l l[k].id = (k : Int)
  · rw [if_pos hc, List.filter_cons_of_pos (by simpa using hc)]; rfl
  · rw [if_neg hc, List.filter_cons_of_neg (by simpa using hc)]; simp
theorem ownK_len (l : List Od) (k : Nat) : (ownK l k).length ≤ k := by
  unfold ownK
  rw [List.length_map]
  refine Nat.le_trans (List.length_filter_le _ _) ?_
  rw [List.length_zipIdx, List.length_take]; omega
theorem ownK_sub (l : List Od) (k : Nat) : ∀ x ∈ ownK l k, x ∈ l := by
  intro x hx
  obtain ⟨p, hp, rfl⟩ := List.mem_map.1 hx
  have := (List.mem_filter.1 hp).1
  exact List.mem_of_mem_take (List.fst_mem_of_mem_zipIdx this)
end Go.Proofs.YtgholbeehkfbiaaGreat

/- Maps: a block that is a map of given keys and values; look-up, store, delete, len. No program. -/
namespace Go.Proofs.YtgholbeehkfbiaaGreat
open Go.RowKit

/-- Go's keys of one type, as data: how the model compares them -/
structure KeyFit (P : Program) (K : TypeId) {κ : Type} [DecidableEq κ] (enc : κ → Value) : Prop where
  check : ∀ (empty : Bool) (k : κ) (w : World), (Instr.checkKey empty 10000 K (enc k)).run P w = .ok () w
  find : ∀ (k : κ) (es : List MapEntry) (M : List (κ × Value)) (w : World), es.map (fun e => (e.key, e.val)) = M.map (fun p => (enc p.1, p.2)) →
    (Instr.findKey K (enc k) es).run P w = .ok ((M.findIdx? fun p => decide (p.1 = k)).map fun i => (i, ((M[i]?).map (·.2)).getD undef)) w
  bits : ∀ k, Instr.sameBits 10000 (enc k) (enc k) = true

/-- block b of w is a map of these keys and values (in the order in which the keys came) -/
def MapIs {κ : Type} (enc : κ → Value) (w : World) (b : Nat) (M : List (κ × Value)) : Prop :=
  ∃ es clock, w.heap[b]? = some (.map es clock) ∧ es.toList.map (fun e => (e.key, e.val)) = M.map (fun p => (enc p.1, p.2)) ∧ es.toList.Pairwise (fun x y => x.born < y.born) ∧ (∀ x ∈ es.toList, x.born < clock) ∧ M.Pairwise (fun p q => p.1 ≠ q.1)

section
variable {κ : Type} [DecidableEq κ] {enc : κ → Value}
def getM {ν : Type} (M : List (κ × ν)) (k : κ) : Option ν := (M.find? fun p => decide (p.1 = k)).map (·.2)
def putM {ν : Type} (M : List (κ × ν)) (k : κ) (v : ν) : List (κ × ν) := if M.any (fun p => decide (p.1 = k)) then M.map (fun p => if p.1 = k then (k, v) else p) else M ++ [(k, v)]
def delM {ν : Type} (M : List (κ × ν)) (k : κ) : List (κ × ν) := M.filter fun p => !decide (p.1 = k)

theorem getM_put {ν : Type} (M : List (κ × ν)) (k k' : κ) (v : ν) : getM (putM M k v) k' = if k = k' then some v else getM M k' := by
  unfold getM putM
  by_cases h : M.any (fun p => decide (p.1 = k)) = true
  · rw [if_pos h]
    by_cases hk : k = k'
    · subst hk
      rw [if_pos rfl]
      induction M with
      | nil => simp at h
      | cons q r ih =>
        by_cases hq : q.1 = k
        · simp [hq]
        · simp only [List.map_cons, hq, if_false]
          rw [List.find?_cons_of_neg (by simpa using hq)]
          refine ih ?_
          simpa [hq] using h
    · rw [if_neg hk]
      clear h
      induction M with
      | nil => rfl
      | cons q r ih =>
        by_cases hq : q.1 = k
        · simp only [List.map_cons, hq, if_true]
          rw [List.find?_cons_of_neg (by simpa using hk), List.find?_cons_of_neg (by simpa [hq] using hk)]
          exact ih
        · simp only [List.map_cons, hq, if_false]
          by_cases hq' : q.1 = k'
          · rw [List.find?_cons_of_pos (by simpa using hq'), List.find?_cons_of_pos (by simpa using hq')]
          · rw [List.find?_cons_of_neg (by simpa using hq'), List.find?_cons_of_neg (by simpa using hq')]
            exact ih
  · rw [if_neg h, List.find?_append]
    have hno : M.find? (fun p => decide (p.1 = k)) = none := by
      rw [List.find?_eq_none]
      intro p hp hpk
      exact h (List.any_eq_true.2 ⟨p, hp, hpk⟩)
    by_cases hk : k = k'
    · subst hk
      rw [hno]
      simp
    · simp [hk]
theorem getM_del {ν : Type} (M : List (κ × ν)) (k k' : κ) : getM (delM M k) k' = if k = k' then none else getM M k' := by
  unfold getM delM
  rw [List.find?_filter]
  by_cases hk : k = k'
  · subst hk
    rw [if_pos rfl, Option.map_eq_none_iff, List.find?_eq_none]
    intro p _ h
    simp at h
  · rw [if_neg hk]
    congr 2
    funext p
    by_cases hp : p.1 = k'
    · have hk' : ¬ k' = k := fun e => hk e.symm
      simp [hp, hk']
    · simp [hp]
theorem putM_nodup {ν : Type} {M : List (κ × ν)} (h : M.Pairwise (fun p q => p.1 ≠ q.1)) (k : κ) (v : ν) : (putM M k v).Pairwise (fun p q => p.1 ≠ q.1) := by
  unfold putM
  split
  · refine List.pairwise_map.2 (h.imp fun {p q} hpq => ?_)
    split <;> split <;> simp_all
  · rename_i hno
    refine List.pairwise_append.2 ⟨h, List.pairwise_singleton _ _, fun p hp q hq => ?_⟩
    simp only [List.mem_singleton] at hq
    subst hq
    intro e
    exact hno (List.any_eq_true.2 ⟨p, hp, by simpa using e⟩)
variable {P : Program} {K : TypeId} {w : World} {b : Nat} {M : List (κ × Value)}
omit [DecidableEq κ] in
theorem MapIs.made (w : World) : MapIs enc (w.alloc (.map #[] 0)) w.heap.size ([] : List (κ × Value)) :=
  ⟨#[], 0, heap_alloc_new w _, rfl, by simp, by simp, by simp⟩
omit [DecidableEq κ] in
theorem MapIs.lt (h : MapIs enc w b M) : b < w.heap.size := by
  obtain ⟨es, clock, hb, _⟩ := h
  exact (Array.getElem?_eq_some_iff.1 hb).1
omit [DecidableEq κ] in
theorem MapIs.kept {w' : World} {row : Option Nat} (h : MapIs enc w b M) (hg : w.grownBy w' row) (hne : some b ≠ row) : MapIs enc w' b M := by
  have hlt := h.lt
  obtain ⟨es, clock, hb, r⟩ := h
  exact ⟨es, clock, (hg.block b hlt hne).trans hb, r⟩
omit [DecidableEq κ] in
theorem MapIs.later {w' : World} (h : MapIs enc w b M) (hb : Below w.heap.size w w') : MapIs enc w' b M := h.kept (grown_of_below hb none) (by simp)
omit [DecidableEq κ] in
theorem MapIs.nodup (h : MapIs enc w b M) : M.Pairwise (fun p q => p.1 ≠ q.1) := by
  obtain ⟨_, _, _, _, _, _, h⟩ := h
  exact h
theorem findIdx_getM (M : List (κ × Value)) (k : κ) : ((M.findIdx? fun p => decide (p.1 = k)).map fun i => ((M[i]?).map (·.2)).getD undef) = getM M k := by
  unfold getM
  rw [List.find?_eq_bind_findIdx?_getElem?]
  cases h : M.findIdx? fun p => decide (p.1 = k) with
  | none => rfl
  | some i =>
    have hi := (List.findIdx?_eq_some_iff_getElem.1 h).1
    simp [List.getElem?_eq_getElem hi]
theorem run_getMap {es : Array MapEntry} {clock : Nat} (hb : w.heap[b]? = some (.map es clock)) : (getObj b).run P w = .ok (.map es clock) w := by
  simp [getObj, Sem.run, hb]
theorem run_setMap {es es' : Array MapEntry} {clock clock' : Nat} (hb : w.heap[b]? = some (.map es clock)) : (setObj b (.map es' clock')).run P w = .ok () { w with heap := w.heap.setIfInBounds b (.map es' clock') } := by
  simp [setObj, Sem.run, hb]
theorem grown_setMap {es es' : Array MapEntry} {clock clock' : Nat} (_hb : w.heap[b]? = some (.map es clock)) : w.grownBy { w with heap := w.heap.setIfInBounds b (.map es' clock') } (some b) :=
  ⟨rfl, rfl, rfl, by simp, fun k _ hne => by
    simp only [Array.getElem?_setIfInBounds]
    rw [if_neg (fun e => hne (by rw [e]))]⟩
theorem heap_setMap {es es' : Array MapEntry} {clock clock' : Nat} (hb : w.heap[b]? = some (.map es clock)) : ({ w with heap := w.heap.setIfInBounds b (.map es' clock') } : World).heap[b]? = some (.map es' clock') := by
  have hlt := (Array.getElem?_eq_some_iff.1 hb).1
  simp [hlt]
/-- 'm[k]', 'v, ok := m[k]' -/
theorem run_lookup {t e : TypeId} (F : KeyFit P K enc) (ht : P.underlying t = some (.map K e)) (h : MapIs enc w b M) (k : κ) (z : Value) (hz : (zeroValue e).run P w = .ok z w) (c : Bool) :
    (Instr.lookup t (.map (some b)) (enc k) c).run P w = .ok (if c then .tuple #[(getM M k).getD z, .bool (getM M k).isSome] else (getM M k).getD z) w := by
  obtain ⟨es, clock, hb, hM, _, _, _⟩ := h
  have hf := F.find k es.toList M w hM
  have hg := run_getMap (P := P) hb
  rw [← findIdx_getM]
  cases hi : M.findIdx? fun p => decide (p.1 = k) with
  | none =>
    rw [hi] at hf
    cases c <;> simp [Instr.lookup, run_underlying ht, hg, F.check, hf, hz]
  | some i =>
    rw [hi] at hf
    cases c <;> simp [Instr.lookup, run_underlying ht, hg, F.check, hf]
omit [DecidableEq κ] in
theorem any_findIdx {p : κ × Value → Bool} : M.any p = (M.findIdx? p).isSome := by
  cases h : M.findIdx? p with
  | none =>
    rw [List.findIdx?_eq_none_iff] at h
    simpa using h
  | some i =>
    obtain ⟨h1, h2, _⟩ := List.findIdx?_eq_some_iff_getElem.1 h
    rw [List.any_eq_true.2 ⟨_, List.getElem_mem h1, h2⟩]
    rfl
theorem putM_at {k : κ} {v : Value} {i : Nat} (hnd : M.Pairwise (fun p q => p.1 ≠ q.1)) (h : M.findIdx? (fun p => decide (p.1 = k)) = some i) : putM M k v = M.set i (k, v) := by
  obtain ⟨h1, h2, h3⟩ := List.findIdx?_eq_some_iff_getElem.1 h
  unfold putM
  rw [if_pos (by rw [any_findIdx, h]; rfl)]
  apply List.ext_getElem
  · simp
  · intro j hj hj'
    simp only [List.length_map] at hj
    rw [List.getElem_map, List.getElem_set]
    by_cases hij : i = j
    · subst hij
      simp at h2
      simp [h2]
    · rw [if_neg hij, if_neg]
      intro e
      have h2' : M[i].1 = k := by simpa using h2
      rcases Nat.lt_or_gt_of_ne hij with hlt | hlt
      · exact List.pairwise_iff_getElem.1 hnd i j h1 hj hlt (by rw [h2', e])
      · exact List.pairwise_iff_getElem.1 hnd j i hj h1 hlt (by rw [h2', e])
theorem modify_born (es : Array MapEntry) (i : Nat) (key val : Value) : (es.modify i fun e => { e with key, val }).toList.map (·.born) = es.toList.map (·.born) := by
  apply List.ext_getElem
  · simp
  · intro j h1 h2
    simp only [List.getElem_map, Array.getElem_toList, Array.getElem_modify]
    split <;> rfl
theorem modify_map (es : Array MapEntry) (i : Nat) (key val : Value) : (es.modify i fun e => { e with key, val }).toList.map (fun e => (e.key, e.val)) = (es.toList.map (fun e => (e.key, e.val))).set i (key, val) := by
  apply List.ext_getElem
  · simp
  · intro j h1 h2
    simp only [List.getElem_map, Array.getElem_toList, Array.getElem_modify, List.getElem_set]
    split <;> rfl
/-- 'm[k] = v' -/
theorem run_put {t e : TypeId} (F : KeyFit P K enc) (ht : P.underlying t = some (.map K e)) (h : MapIs enc w b M) (k : κ) (v : Value) :
    ∃ w', (Instr.mapUpdate t (.map (some b)) (enc k) v).run P w = .ok () w' ∧ MapIs enc w' b (putM M k v) ∧ w.grownBy w' (some b) := by
  have hnd := h.nodup
  obtain ⟨es, clock, hb, hM, hbo, hcl, _⟩ := h
  have hf := F.find k es.toList M w hM
  have hg := run_getMap (P := P) hb
  have hlen : es.size = M.length := by
    have := congrArg List.length hM
    simpa using this
  cases hi : M.findIdx? fun p => decide (p.1 = k) with
  | none =>
    rw [hi] at hf
    refine ⟨_, by simp [Instr.mapUpdate, run_underlying ht, hg, F.check, hf, run_setMap hb]; rfl, ⟨_, _, heap_setMap hb, ?_, ?_, ?_, putM_nodup hnd k v⟩, grown_setMap hb⟩
    · unfold putM
      rw [if_neg (by rw [any_findIdx, hi]; simp)]
      simp [hM]
    · rw [Array.toList_push, List.pairwise_append]
      refine ⟨hbo, List.pairwise_singleton _ _, fun x hx y hy => ?_⟩
      simp only [List.mem_singleton] at hy
      subst hy
      exact hcl x hx
    · intro x hx
      rw [Array.toList_push, List.mem_append] at hx
      rcases hx with hx | hx
      · exact Nat.lt_succ_of_lt (hcl x hx)
      · simp only [List.mem_singleton] at hx; subst hx; exact Nat.lt_succ_self _
  | some i =>
    rw [hi] at hf
    obtain ⟨h1, h2, h3⟩ := List.findIdx?_eq_some_iff_getElem.1 hi
    have hie : i < es.size := by omega
    have hkey : es[i].key = enc k := by
      have h4 : (es.toList.map (fun e => (e.key, e.val)))[i]? = (M.map (fun p => (enc p.1, p.2)))[i]? := by rw [hM]
      simp [hie, h1] at h4
      rw [h4.1, show M[i].1 = k by simpa using h2]
    refine ⟨_, by simp [Instr.mapUpdate, run_underlying ht, hg, F.check, hf, hie, hkey, Instr.keyThatStays, F.bits, run_setMap hb]; rfl, ⟨_, _, heap_setMap hb, ?_, ?_, ?_, putM_nodup hnd k v⟩, grown_setMap hb⟩
    · rw [putM_at hnd hi, modify_map, hM, List.map_set]
    · rw [← List.pairwise_map (f := fun x : MapEntry => x.born), modify_born]
      exact List.pairwise_map.2 hbo
    · intro x hx
      have h5 : x.born ∈ (es.modify i fun e => { e with key := enc k, val := v }).toList.map (·.born) := List.mem_map.2 ⟨x, hx, rfl⟩
      rw [modify_born] at h5
      obtain ⟨y, hy, hyx⟩ := List.mem_map.1 h5
      rw [← hyx]
      exact hcl y hy
theorem delM_at {k : κ} {i : Nat} (hnd : M.Pairwise (fun p q => p.1 ≠ q.1)) (h : M.findIdx? (fun p => decide (p.1 = k)) = some i) : delM M k = M.eraseIdx i := by
  obtain ⟨h1, h2, h3⟩ := List.findIdx?_eq_some_iff_getElem.1 h
  have h2' : M[i].1 = k := by simpa using h2
  have e : M = M.take i ++ M[i] :: M.drop (i + 1) := by rw [← List.drop_eq_getElem_cons h1, List.take_append_drop]
  unfold delM
  rw [List.eraseIdx_eq_take_drop_succ]
  conv => lhs; rw [e]
  rw [List.filter_append, List.filter_cons_of_neg (by simp [h2']), List.filter_eq_self.2, List.filter_eq_self.2]
  · intro p hp
    rw [e] at hnd
    have h4 := (List.pairwise_cons.1 (List.pairwise_append.1 hnd).2.1).1 p hp
    simp only [Bool.not_eq_true', decide_eq_false_iff_not]
    exact fun e' => h4 (by rw [h2', e'])
  · intro p hp
    obtain ⟨j, hj, rfl⟩ := List.getElem_of_mem hp
    simp only [List.length_take] at hj
    rw [List.getElem_take]
    have := h3 j (by omega)
    simpa using this
theorem delM_none {k : κ} (h : M.findIdx? (fun p => decide (p.1 = k)) = none) : delM M k = M := by
  unfold delM
  refine List.filter_eq_self.2 fun p hp => ?_
  rw [List.findIdx?_eq_none_iff] at h
  simpa using h p hp
/-- 'delete(m, k)' -/
theorem run_del {t e : TypeId} (F : KeyFit P K enc) (ht : P.underlying t = some (.map K e)) (h : MapIs enc w b M) (k : κ) (ty kt : TypeId) :
    ∃ w', (Builtin.delete_ #[t, kt] ty #[.map (some b), enc k]).run P w = .ok (.tuple #[]) w' ∧ MapIs enc w' b (delM M k) ∧ w.grownBy w' (some b) := by
  have hnd := h.nodup
  obtain ⟨es, clock, hb, hM, hbo, hcl, _⟩ := h
  have hf := F.find k es.toList M w hM
  have hg := run_getMap (P := P) hb
  have hlen : es.size = M.length := by
    have := congrArg List.length hM
    simpa using this
  cases hi : M.findIdx? fun p => decide (p.1 = k) with
  | none =>
    rw [hi] at hf
    refine ⟨_, by simp [Builtin.delete_, run_underlying ht, hg, F.check, hf, run_setMap hb], ⟨_, _, heap_setMap hb, by rw [delM_none hi]; exact hM, hbo, hcl, by rw [delM_none hi]; exact hnd⟩, grown_setMap hb⟩
  | some i =>
    rw [hi] at hf
    obtain ⟨h1, h2, h3⟩ := List.findIdx?_eq_some_iff_getElem.1 hi
    have hie : i < es.size := by omega
    have htl : (es.eraseIdxIfInBounds i).toList = es.toList.eraseIdx i := by
      rw [Array.eraseIdxIfInBounds, dif_pos hie, Array.toList_eraseIdx]
    refine ⟨_, by simp [Builtin.delete_, run_underlying ht, hg, F.check, hf, run_setMap hb]; rfl, ⟨_, _, heap_setMap hb, ?_, ?_, ?_, ?_⟩, grown_setMap hb⟩
    · rw [delM_at hnd hi, htl, ChangeMaps.map_eraseIdx, ChangeMaps.map_eraseIdx, hM]
    · rw [htl]; exact hbo.sublist (List.eraseIdx_sublist _ _)
    · rw [htl]; exact fun x hx => hcl x (List.mem_of_mem_eraseIdx hx)
    · rw [delM_at hnd hi]; exact hnd.sublist (List.eraseIdx_sublist _ _)
omit [DecidableEq κ] in
/-- 'len(m)' -/
theorem run_lenM {t e : TypeId} (ht : P.underlying t = some (.map K e)) (h : MapIs enc w b M) (ty : TypeId) : (Builtin.len_ #[t] ty #[.map (some b)]).run P w = .ok (.int .i64 M.length) w := by
  obtain ⟨es, clock, hb, hM, _, _, _⟩ := h
  have hlen : es.size = M.length := by
    have := congrArg List.length hM
    simpa using this
  simp [Builtin.len_, run_underlying ht, run_getMap (P := P) hb, goInt, hlen]

variable {ops : Array Oper} {rest : List Oper} {o : Oper} {a : Act} {Q : Exit → Act → World → Prop}
theorem wpList_put (hgd : o.guard = none) (d : Option Nat) (m x y : Operand) (t : TypeId) (hop : o.op = Op.mapUpdate t m x y) (hd : o.dst = d) {e : TypeId} (F : KeyFit P K enc) (ht : P.underlying t = some (.map K e))
    (hm : a.eval m = .map (some b)) (h : MapIs enc w b M) (k : κ) (v : Value) (hx : a.eval x = enc k) (hy : a.eval y = v)
    (hK : ∀ w', MapIs enc w' b (putM M k v) → w.grownBy w' (some b) → wpList P ops Q rest (a.put d undef) w') : wpList P ops Q (o :: rest) a w := by
  subst hd
  obtain ⟨w', hrun, h1, h2⟩ := run_put F ht h k v
  refine wpList_plain hgd fun K' hK' => ?_
  unfold Oper.wp
  simp [execOp, hop, hm, hx, hy, hrun, Result.andThen]
  exact hK' _ _ (hK _ h1 h2)
theorem wpList_del (hgd : o.guard = none) (d : Option Nat) (m x : Operand) (t kt : TypeId) (hop : o.op = .call { callee := .builtin .delete, args := #[m, x], argTypes := #[t, kt] }) (hd : o.dst = d) {e : TypeId} (F : KeyFit P K enc) (ht : P.underlying t = some (.map K e))
    (hm : a.eval m = .map (some b)) (h : MapIs enc w b M) (k : κ) (hx : a.eval x = enc k)
    (hK : ∀ w', MapIs enc w' b (delM M k) → w.grownBy w' (some b) → wpList P ops Q rest (a.put d (.tuple #[])) w') : wpList P ops Q (o :: rest) a w := by
  subst hd
  obtain ⟨w', hrun, h1, h2⟩ := run_del F ht h k o.type kt
  refine wpList_plain hgd fun K' hK' => ?_
  unfold Oper.wp execOp
  simp only [hop, resolve, invoke, builtin, Sem.run_bind, Sem.run_pure, Result.andThen_ok, List.map_toArray, List.map_cons, List.map_nil, hm, hx, hrun]
  exact hK' _ _ (hK _ h1 h2)
end
end Go.Proofs.YtgholbeehkfbiaaGreat

/- Keys of maps: texts, integers, Ids -/
namespace Go.Proofs.YtgholbeehkfbiaaGreat
open Go.RowKit
section
variable {P : Program} {κ : Type} [DecidableEq κ] {enc : κ → Value}
theorem findNow_fit (d : TypeDesc) (hs : ∀ a b, Instr.sameNow d (enc a) (enc b) = some (decide (b = a))) (k : κ) : ∀ (es : List MapEntry) (M : List (κ × Value)) (i : Nat), es.map (fun e => (e.key, e.val)) = M.map (fun p => (enc p.1, p.2)) →
    Instr.findNow d (enc k) es i = some ((M.findIdx? fun p => decide (p.1 = k)).map fun j => (i + j, ((M[j]?).map (·.2)).getD undef))
  | [], [], i, _ => rfl
  | [], _ :: _, _, h => by simp at h
  | _ :: _, [], _, h => by simp at h
  | e :: es, p :: M, i, h => by
    simp only [List.map_cons, List.cons.injEq, Prod.mk.injEq] at h
    obtain ⟨⟨h1, h2⟩, h3⟩ := h
    rw [Instr.findNow, h1, hs, List.findIdx?_cons]
    by_cases hp : p.1 = k
    · simp [hp, h2]
    · have hd : decide (p.1 = k) = false := decide_eq_false hp
      rw [hd]
      simp only [Bool.false_eq_true, if_false]
      rw [findNow_fit d hs k es M (i + 1) h3]
      cases M.findIdx? fun p => decide (p.1 = k) with
      | none => rfl
      | some j => simp; omega
theorem findAsking_fit (K : TypeId) (heq : ∀ a b w, (Op.equal K (enc a) (enc b)).run P w = .ok (decide (a = b)) w) (k : κ) : ∀ (es : List MapEntry) (M : List (κ × Value)) (i : Nat) (w : World), es.map (fun e => (e.key, e.val)) = M.map (fun p => (enc p.1, p.2)) →
    (Instr.findAsking K (enc k) es i).run P w = .ok ((M.findIdx? fun p => decide (p.1 = k)).map fun j => (i + j, ((M[j]?).map (·.2)).getD undef)) w
  | [], [], i, w, _ => rfl
  | [], _ :: _, _, _, h => by simp at h
  | _ :: _, [], _, _, h => by simp at h
  | e :: es, p :: M, i, w, h => by
    simp only [List.map_cons, List.cons.injEq, Prod.mk.injEq] at h
    obtain ⟨⟨h1, h2⟩, h3⟩ := h
    rw [Instr.findAsking, h1, List.findIdx?_cons]
    by_cases hp : p.1 = k
    · simp [heq, hp, h2]
    · have hd : decide (p.1 = k) = false := decide_eq_false hp
      have hd' : decide (k = p.1) = false := decide_eq_false fun e => hp e.symm
      rw [hd]
      simp only [Sem.run_bind, heq, Result.andThen_ok, hd', Bool.false_eq_true, if_false]
      rw [findAsking_fit K heq k es M (i + 1) w h3]
      cases M.findIdx? fun p => decide (p.1 = k) with
      | none => rfl
      | some j => simp; omega
theorem fit_now {K : TypeId} {d : TypeDesc} (hd : P.underlying K = some d) (hs : ∀ a b, Instr.sameNow d (enc a) (enc b) = some (decide (b = a))) (hc : ∀ (empty : Bool) (k : κ) (w : World), (Instr.checkKey empty 10000 K (enc k)).run P w = .ok () w) (hb : ∀ k, Instr.sameBits 10000 (enc k) (enc k) = true) : KeyFit P K enc where
  check := hc
  bits := hb
  find k es M w h := by
    have := findNow_fit d hs k es M 0 h
    simp only [Nat.zero_add] at this
    simp [Instr.findKey, run_underlying hd, this]
theorem fit_asking {K : TypeId} {d : TypeDesc} (hd : P.underlying K = some d) (hs : ∀ a b, Instr.sameNow d (enc a) (enc b) = none) (heq : ∀ a b w, (Op.equal K (enc a) (enc b)).run P w = .ok (decide (a = b)) w) (hc : ∀ (empty : Bool) (k : κ) (w : World), (Instr.checkKey empty 10000 K (enc k)).run P w = .ok () w) (hb : ∀ k, Instr.sameBits 10000 (enc k) (enc k) = true) : KeyFit P K enc where
  check := hc
  bits := hb
  find k es M w h := by
    have h1 := findAsking_fit (P := P) K heq k es M 0 w h
    simp only [Nat.zero_add] at h1
    cases es with
    | nil =>
      cases M with
      | nil => simp [Instr.findKey, run_underlying hd, Instr.findNow]
      | cons p M => simp at h
    | cons e es =>
      cases M with
      | nil => simp at h
      | cons p M =>
        have h0 : e.key = enc p.1 := by
          simp only [List.map_cons, List.cons.injEq, Prod.mk.injEq] at h
          exact h.1.1
        have h2 : Instr.findNow d (enc k) (e :: es) 0 = none := by rw [Instr.findNow, h0, hs]
        simp only [Instr.findKey, Sem.run_bind, run_underlying hd, Result.andThen_ok, h2]
        exact h1
end
theorem check_str (empty : Bool) (n : Nat) (s : ByteArray) (w : World) : (Instr.checkKey empty (n + 1) 9 (.string s)).run Tryz.prog w = .ok () w := by
  simp [Instr.checkKey, run_underlying Tryz.underlying9]
theorem check_int (empty : Bool) (n : Nat) (k : Int) (w : World) : (Instr.checkKey empty (n + 1) 3 (i64 k)).run Tryz.prog w = .ok () w := by
  simp [Instr.checkKey, run_underlying Tryz.underlying3]
theorem beqS_self (s : ByteArray) : (s == s) = true := by rw [beq_toListBytes]; simp
theorem strKey : KeyFit Tryz.prog 9 Value.string :=
  fit_now Tryz.underlying9 (fun a b => by
      simp only [Instr.sameNow, Option.some.injEq]
      by_cases h : a = b
      · subst h; rw [beqS_self]; simp
      · rw [decide_eq_false (fun e => h e.symm)]
        have := beqS_of_ne h
        rw [beq_toListBytes]; exact this)
    (fun empty k w => check_str empty 9999 k w) (fun k => by simp only [Instr.sameBits]; exact beqS_self k)
theorem intKey : KeyFit Tryz.prog 3 i64 :=
  fit_now Tryz.underlying3 (fun a b => by
      simp only [Instr.sameNow, Option.some.injEq, if_true]
      by_cases h : a = b
      · subst h; simp
      · rw [decide_eq_false (fun e => h e.symm)]; simpa using h)
    (fun empty k w => check_int empty 9999 k w) (fun k => by simp [Instr.sameBits])
end Go.Proofs.YtgholbeehkfbiaaGreat

/- Keys of maps: Ids -/
namespace Go.Proofs.YtgholbeehkfbiaaGreat
open Go.RowKit
abbrev Id.v (x : Id) : Value := .agg #[i64 x.client, i64 x.seq]
theorem check_id (empty : Bool) (n : Nat) (k : Id) (w : World) : (Instr.checkKey empty (n + 2) 34 k.v).run Tryz.prog w = .ok () w := by
  have u3 := Tryz.underlying3
  have a3 := Tryz.isAgg3
  have z3 := Tryz.sizeOf3
  rw [Instr.checkKey]
  simp only [Sem.run_bind, run_underlying Tryz.underlying34, Result.andThen_ok, Id.v]
  go_simp
  simp [check_int]
theorem bits_id (n : Nat) (k : Id) : Instr.sameBits (n + 1) k.v k.v = true := by
  simp [Instr.sameBits]
theorem idKey : KeyFit Tryz.prog 34 Id.v :=
  fit_asking (d := .struct (Tryz.prog.fieldsOf 34)) (by kernel_rfl) (fun a b => rfl) (fun a b w => by
      have u3 := Tryz.underlying3
      have a3 := Tryz.isAgg3
      have z3 := Tryz.sizeOf3
      have hS : Tryz.prog.underlying 34 = some (.struct (Tryz.prog.fieldsOf 34)) := by kernel_rfl
      have hp : Tryz.prog.stoodInHeld 34 = false := by kernel_rfl
      simp only [Op.equal, Op.maxDepth]
      rw [show (10000 : Nat) = 9999 + 1 from rfl, run_equalIn_agg w 9999 34 _ _ hS hp]
      simp only [Program.fieldsOf, Tryz.underlying34]
      go_simp
      by_cases h1 : a.client = b.client
      · by_cases h2 : a.seq = b.seq
        · rw [decide_eq_true (Id.ext_ h1 h2)]; simp [h1, h2]
        · rw [decide_eq_false (fun e => h2 (by rw [e]))]; simp [h1, h2]
      · rw [decide_eq_false (fun e => h1 (by rw [e]))]; simp [h1])
    (fun empty k w => check_id empty 9998 k w) (fun k => bits_id 9999 k)
end Go.Proofs.YtgholbeehkfbiaaGreat

/- clash.places, clash.Right -/
namespace Go.Proofs.YtgholbeehkfbiaaGreat
open Go.RowKit
section
variable {κ ν μ : Type} [DecidableEq κ]
theorem getM_map (f : ν → μ) (M : List (κ × ν)) (k : κ) : getM (M.map fun p => (p.1, f p.2)) k = (getM M k).map f := by
  unfold getM
  rw [List.find?_map, Option.map_map, Option.map_map]
  rfl
theorem putM_map (f : ν → μ) (M : List (κ × ν)) (k : κ) (v : ν) : (putM M k v).map (fun p => (p.1, f p.2)) = putM (M.map fun p => (p.1, f p.2)) k (f v) := by
  unfold putM
  rw [List.any_map]
  by_cases h : M.any (fun p => decide (p.1 = k)) = true
  · rw [if_pos h, if_pos (by exact h), List.map_map, List.map_map]
    apply List.map_congr_left
    intro p _
    by_cases hp : p.1 = k <;> simp [hp]
  · rw [if_neg h, if_neg (by exact h), List.map_append]
    rfl
theorem getM_isSome (M : List (κ × ν)) (k : κ) : (getM M k).isSome = M.any (fun p => decide (p.1 = k)) := by
  unfold getM
  rw [Option.isSome_map, Bool.eq_iff_iff, List.find?_isSome, List.any_eq_true]
theorem length_putM (M : List (κ × ν)) (k : κ) (v : ν) : (putM M k v).length = if (getM M k).isSome then M.length else M.length + 1 := by
  rw [getM_isSome]
  unfold putM
  split
  · rw [List.length_map]
  · rw [List.length_append]; rfl
end

/-- where orders stand, by their Ids: of two that have one Id the later one -/
def placesN (l : List Od) : List (Id × Nat) := l.zipIdx.foldl (fun M p => putM M p.1.id p.2) []
theorem placesN_snoc (l : List Od) (x : Od) : placesN (l ++ [x]) = putM (placesN l) x.id l.length := by
  unfold placesN
  rw [List.zipIdx_append, List.foldl_append]
  simp
abbrev natV (M : List (Id × Nat)) : List (Id × Value) := M.map fun p => (p.1, i64 p.2)

end Go.Proofs.YtgholbeehkfbiaaGreat

/- clash.Begins, clash.Alike -/
namespace Go.Proofs.YtgholbeehkfbiaaGreat
open Go.RowKit
abbrev posN (l : List Od) (id : Id) : Option Nat := getM (placesN l) id
abbrev validL (l : List Od) : Bool := decide ((placesN l).length = l.length)
/-- what clash.Begins asks of one order -/
def beginsAt (a b : List Od) (i : Nat) (o : Od) : Bool :=
  match posN b o.id with
  | none => false
  | some k => (match b[k]? with | some x => sameB o x | none => false) && (b.take k).all fun p => !(clashB p o && (match posN a p.id with | none => true | some n => decide (i < n)))
/-- clash.Begins -/
def beginsB (a b : List Od) : Bool := (validL a && validL b) && (a.zipIdx.all fun p => beginsAt a b p.2 p.1)
abbrev alikeB (a b : List Od) : Bool := decide (a.length = b.length) && beginsB a b
theorem snoc_ind {α : Type} {Q : List α → Prop} (h0 : Q []) (hs : ∀ l x, Q l → Q (l ++ [x])) (l : List α) : Q l := by
  rw [← List.reverse_reverse l]
  induction l.reverse with
  | nil => exact h0
  | cons x r ih => rw [List.reverse_cons]; exact hs _ _ ih
theorem posN_lt {l : List Od} : ∀ {id : Id} {k : Nat}, posN l id = some k → k < l.length := by
  refine snoc_ind (Q := fun l => ∀ {id : Id} {k : Nat}, posN l id = some k → k < l.length) ?_ ?_ l
  · intro id k h; cases h
  · intro l x ih id k h
    unfold posN at h
    rw [placesN_snoc, getM_put] at h
    split at h
    · injection h with h; subst h; simp
    · have := ih h; simp; omega

theorem all_zip {a : List Od} {f : Nat → Od → Bool} (h : ∀ j (hj : j < a.length), f j a[j] = true) : (a.zipIdx.all fun p => f p.2 p.1) = true := by
  rw [List.all_eq_true]
  rintro ⟨x, j⟩ hp
  rw [List.mem_zipIdx_iff_getElem?] at hp
  obtain ⟨hj, hx⟩ := List.getElem?_eq_some_iff.1 hp
  have h2 := h j hj
  simp only at hx hj
  rw [← hx]
  exact h2
theorem all_zip_false {a : List Od} {f : Nat → Od → Bool} {j : Nat} (hj : j < a.length) (h : f j a[j] = false) : (a.zipIdx.all fun p => f p.2 p.1) = false := by
  rw [List.all_eq_false]
  exact ⟨(a[j], j), by rw [List.mem_zipIdx_iff_getElem?]; exact List.getElem?_eq_getElem hj, by simp [h]⟩
theorem beginsB_true {a b : List Od} (ha : validL a = true) (hb : validL b = true) (h : ∀ j (hj : j < a.length), beginsAt a b j a[j] = true) : beginsB a b = true := by
  unfold beginsB
  rw [ha, hb, all_zip (f := beginsAt a b) h]
  rfl
theorem beginsB_false {a b : List Od} {j : Nat} (hj : j < a.length) (h : beginsAt a b j a[j] = false) : beginsB a b = false := by
  unfold beginsB
  rw [all_zip_false (f := beginsAt a b) hj h, Bool.and_false]

theorem beginsAt_false {a b : List Od} {i k j : Nat} {o : Od} (hp : posN b o.id = some k) (hk : k < b.length) (hj : j < k) (h : (clashB (b[j]'(by omega)) o && (match posN a (b[j]'(by omega)).id with | none => true | some n => decide (i < n))) = true) : beginsAt a b i o = false := by
  unfold beginsAt
  rw [hp]
  simp only
  have : ((b.take k).all fun p => !(clashB p o && (match posN a p.id with | none => true | some n => decide (i < n)))) = false := by
    rw [List.all_eq_false]
    refine ⟨b[j]'(by omega), ?_, by rw [h]; simp⟩
    rw [List.mem_take_iff_getElem]
    exact ⟨j, by omega, rfl⟩
  rw [this, Bool.and_false]
theorem beginsAt_true {a b : List Od} {i k : Nat} {o : Od} (hp : posN b o.id = some k) (hk : k < b.length) (hs : sameB o b[k] = true) (h : ∀ j (hj : j < b.length), j < k → (clashB b[j] o && (match posN a b[j].id with | none => true | some n => decide (i < n))) = false) : beginsAt a b i o = true := by
  unfold beginsAt
  rw [hp]
  simp only [List.getElem?_eq_getElem hk, hs, Bool.true_and]
  rw [List.all_eq_true]
  intro p hp
  rw [List.mem_take_iff_getElem] at hp
  obtain ⟨j, hj, rfl⟩ := hp
  rw [h j (by omega) (by omega)]
  rfl

def fewLegs (l : List Od) : Prop := ∀ x ∈ l, x.legs.length ≤ 10

end Go.Proofs.YtgholbeehkfbiaaGreat

/- IndexFunc, ContainsFunc, DeleteFunc at api.Order -/
namespace Go.Proofs.YtgholbeehkfbiaaGreat
open Go.RowKit
theorem one_od : ∀ u ∈ (Value.agg #[i64 0, i64 0, i64 0, .string ByteArray.empty, .string ByteArray.empty, i64 0, .slice none 0 0, i64 0, i64 0, .string ByteArray.empty]).cells.toList, u.oneCell' = true := by
  intro u hu
  simp only [Value.cells, List.mem_cons, List.not_mem_nil, or_false] at hu
  rcases hu with rfl | rfl | rfl | rfl | rfl | rfl | rfl | rfl | rfl | rfl <;> rfl

end Go.Proofs.YtgholbeehkfbiaaGreat

/- clash.others, Rest, Meet, Swap -/
namespace Go.Proofs.YtgholbeehkfbiaaGreat
open Go.RowKit
/-- those of b whose Id is not in a -/
def othersL (a b : List Od) : List Od := b.filter fun x => !(posN a x.id).isSome

/-- clash.Rest -/
def restL (a b : List Od) : List Od := if beginsB a b then othersL a b else []
theorem othersL_sub (a b : List Od) : ∀ x ∈ othersL a b, x ∈ b := fun _ hx => (List.mem_filter.1 hx).1
theorem othersL_len (a b : List Od) : (othersL a b).length ≤ b.length := List.length_filter_le _ _

abbrev meetL (a b : List Od) : List Od := a ++ othersL a b
/-- does clash.Meet find a list? -/
def meetOk (a b : List Od) : Bool := beginsB a (meetL a b) && beginsB b (meetL a b)
def meetR (a b : List Od) : List Od := if meetOk a b then meetL a b else []
theorem meetL_few {a b : List Od} (hla : fewLegs a) (hlb : fewLegs b) : fewLegs (meetL a b) := fun x hx => by
  rcases List.mem_append.1 hx with h | h
  · exact hla x h
  · exact hlb x (othersL_sub a b x h)

end Go.Proofs.YtgholbeehkfbiaaGreat
