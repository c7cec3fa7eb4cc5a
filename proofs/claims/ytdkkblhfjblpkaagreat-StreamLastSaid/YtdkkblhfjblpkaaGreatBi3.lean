/- Texts of this claim, laid together: Swap, Same, RSame, SameL, FewBase, Map. -/
import Derived.Test.YtdkkblhfjblpkaaGreatRows
import Derived.Test.YtdkkblhfjblpkaaGreatBi2
import Derived.WalkKit
import Derived.WalkSpells
import Derived.WalkLawsBesides
import Derived.Deep.QuietTactic
import Derived.BigQuiet
import Derived.Laws.StructEq
import Derived.Deep.DeepFit
import Derived.StillTailTactics
import Derived.Test.YtdkkblhfjblpkaaGreatBi1
import Derived.ChangeMaps4

/- clash.Swap -/
namespace Go.Proofs.YtdkkblhfjblpkaaGreat
open Go.RowKit
/-- may the orders at i and i + 1 change places? -/
def swapOk (l : List Od) (i : Int) : Bool := if h : 0 ≤ i ∧ i.toNat + 1 < l.length then !clashB l[i.toNat] (l[i.toNat + 1]'h.2) else false
def swapAt (l : List Od) (k : Nat) : List Od := if h : k + 1 < l.length then (l.set k l[k + 1]).set (k + 1) l[k] else l
def swapR (l : List Od) (i : Int) : List Od := if swapOk l i then swapAt l i.toNat else []

set_option maxRecDepth 100000 in
set_option maxHeartbeats 2000000 in
theorem swap_c (A : Option Addr) (c : Nat) (l : List Od) (i : Int) (w : World) (h : Sl w w.heap.size A c l) (hn : l.length ≤ 65536) (hl : ∀ x ∈ l, x.legs.length ≤ 10) :
    Calls Tryz.prog 50 #[.slice A l.length c, i64 i] w fun e w' => ∃ v, e = .returned (.tuple #[v, .bool (swapOk l i)]) ∧ Own w' w.heap.size 50 v (swapR l i) ∧ Below w.heap.size w w' := by
  by_cases h0 : 0 ≤ i
  · by_cases h1 : i.toNat + 1 < l.length
    · obtain ⟨k, rfl⟩ := Int.eq_ofNat_of_zero_le h0
      rw [Int.toNat_natCast] at h1
      have hg1 : decide ((k : Int) < 0) = false := by rw [decide_eq_false_iff_not]; omega
      have hg2 : decide ((l.length : Int) - 1 ≤ (k : Int)) = false := by rw [decide_eq_false_iff_not]; omega
      obtain ⟨b, o, rfl, hbb, hok, c0, c1, c2, c3, c4, c5, c6, c7, c8, c9⟩ := h.od (k := k) (by omega)
      obtain ⟨b', o', hA', _, hok', d0, d1, d2, d3, d4, d5, d6, d7, d8, d9⟩ := h.od h1
      injection hA' with hA'
      injection hA' with h2 h3
      subst h2 h3
      have Hok := Lib.hid hok
      have Hok' := Lib.hid hok'
      clear hok hok'
      have hw1 : IntKind.i64.wrap ((l.length : Int) - 1) = (l.length : Int) - 1 := by rw [IntKind.wrap_i64]; omega
      have hw2 : IntKind.i64.wrap ((k : Int) + 1) = (k : Int) + 1 := by rw [IntKind.wrap_i64]; omega
      have hw5 : (0 : Int) ≤ (k : Int) := by omega
      have hw6 : (k : Int) < (l.length : Int) := by omega
      have hw7 : (k : Int) + 1 < (l.length : Int) := by omega
      have hw3 : (0 : Int) ≤ (k : Int) + 1 := by omega
      have hw4 : ((k : Int) + 1).toNat = k + 1 := by omega
      go_enter Tryz.func50, Tryz.ntmps50
      go_wp2
      refine wp_region_still_tail 19 (by kernel_rfl) (by kernel_rfl) ?_
      simp only [List.take_succ_cons, List.take_zero, List.drop_succ_cons, List.drop_zero]
      change wpStill _ _ (World.drew _) (fun a' => wpList _ _ _ _ a' (World.drew _)) _ _
      repeat still_step
      refine wpStill_nil ?_
      go_wp2_with fail
      have hbd := (Below.refl w.heap.size w).drew
      refine (clash_c l[k] l[k + 1] _ (Okb.later Hok.out hbd) (Okb.later Hok'.out hbd) (hl _ (List.getElem_mem _)) (hl _ (List.getElem_mem _))).mono ?_
      rintro e w1 ⟨rfl, hb1⟩
      have hb2 := hbd.trans hb1
      have hso : swapOk l k = !clashB l[k] l[k + 1] := by
        unfold swapOk
        rw [dif_pos ⟨by omega, by simpa using h1⟩]
        simp
      have Hso := Lib.hid hso
      clear hso hbd hb1
      by_cases hc : clashB l[k] l[k + 1] = true
      · rw [hc]
        have Hr : Hid (swapOk l k = false) := Lib.hid (by rw [Hso.out, hc]; rfl)
        clear hc
        go_wp2
        go_ret2
        exact ⟨_, by rw [Hr.out]; rfl, by rw [swapR, Hr.out, if_neg (by simp)]; exact Own.nil_ _ _ _, hb2⟩
      · have hc' : clashB l[k] l[k + 1] = false := by simpa using hc
        rw [hc']
        have Hr : Hid (swapOk l k = true) := Lib.hid (by rw [Hso.out, hc']; rfl)
        clear hc hc' c0 c1 c2 c3 c4 c5 c6 c7 c8 c9 d0 d1 d2 d3 d4 d5 d6 d7 d8 d9
        go_wp2_with fail
        refine (clone_od _ c l _ (h.later hb2) hn).mono ?_
        rintro e w2 ⟨v2, rfl, hO2, hb3⟩
        have hb4 := hb2.trans (hb3.mono hb2.size)
        obtain ⟨gb, cp, cur0, rfl, hgb, _, hcap, hcapm, _, _⟩ := hO2.form (by omega)
        obtain ⟨A2, c2, hv2, hs2⟩ := hO2.sl
        injection hv2 with hA2 hB2 hC2
        subst hA2 hC2
        obtain ⟨b3, o3, hA3, _, hok3, c0, c1, c2, c3, c4, c5, c6, c7, c8, c9⟩ := hs2.od (k := k) (by omega)
        injection hA3 with hA3
        injection hA3 with hA4 hA5
        subst hA4 hA5
        obtain ⟨b4, o4, hA6, _, hok4, d0, d1, d2, d3, d4, d5, d6, d7, d8, d9⟩ := hs2.od h1
        injection hA6 with hA6
        injection hA6 with hA7 hA8
        subst hA7 hA8
        simp only [Nat.zero_add] at c0 c1 c2 c3 c4 c5 c6 c7 c8 c9 d0 d1 d2 d3 d4 d5 d6 d7 d8 d9
        have hfr := fun j => hO2.free j
        clear hB2 hok3 hok4 hs2 hcapm
        go_wp2_with fail
        go_region
        go_wp2
        go_ret2
        have hokA : Enc.ok w2 (Oth w2 (.slice (some ⟨gb, 0, none⟩) l.length cp)) l[k + 1] := hO2.2 _ (List.getElem_mem _)
        have hokB : Enc.ok w2 (Oth w2 (.slice (some ⟨gb, 0, none⟩) l.length cp)) l[k] := hO2.2 _ (List.getElem_mem _)
        obtain ⟨p1, p2⟩ := hO2.set_cells k (by omega) l[k + 1] hokA
        obtain ⟨p3, p4⟩ := p1.set_cells (k + 1) (by simpa using h1) l[k] (oth_grown p2 (.inl rfl) hokB)
        have hfin : swapR l k = (l.set k l[k + 1]).set (k + 1) l[k] := by
          rw [swapR, Hr.out, if_pos rfl, Int.toNat_natCast, swapAt, dif_pos h1]
        exact ⟨_, by rw [Hr.out]; rfl, by rw [hfin]; exact (p3.mono hb2.size).drew, ((hb4.grown p2 hb4.size (fun g hg => by injection hg with hg; have := hb2.size; omega)).grown p4 (by have := p2.size; have := hb4.size; omega) (fun g hg => by injection hg with hg; have := hb2.size; omega)).drew⟩
    · have hso : swapOk l i = false := by unfold swapOk; rw [dif_neg (fun h => h1 h.2)]
      have Hr := Lib.hid hso
      have hlm : l.length ≤ 65536 := hn
      have hg1 : decide (i < 0) = false := by rw [decide_eq_false_iff_not]; omega
      have hw1 : IntKind.i64.wrap ((l.length : Int) - 1) = (l.length : Int) - 1 := by rw [IntKind.wrap_i64]; omega
      have hg2 : decide ((l.length : Int) - 1 ≤ i) = true := by rw [decide_eq_true_eq]; omega
      clear hso h
      go_enter Tryz.func50, Tryz.ntmps50
      go_wp2
      go_quiet (fail)
      go_wp2
      go_ret2
      exact ⟨_, by rw [Hr.out]; rfl, by rw [swapR, Hr.out, if_neg (by simp)]; exact Own.nil_ _ _ _, below_drewN (Below.refl _ _) _⟩
  · have hso : swapOk l i = false := by unfold swapOk; rw [dif_neg (fun h => h0 h.1)]
    have Hr := Lib.hid hso
    have hg1 : decide (i < 0) = true := by rw [decide_eq_true_eq]; omega
    clear hso h
    go_enter Tryz.func50, Tryz.ntmps50
    go_wp2
    go_quiet (fail)
    go_wp2
    go_ret2
    exact ⟨_, by rw [Hr.out]; rfl, by rw [swapR, Hr.out, if_neg (by simp)]; exact Own.nil_ _ _ _, below_drewN (Below.refl _ _) _⟩
end Go.Proofs.YtdkkblhfjblpkaaGreat

/- slices.Equal at legs, order.Same -/
namespace Go.Proofs.YtdkkblhfjblpkaaGreat
open Go.RowKit
theorem neq_leg (a b : ByteArray) (c d : Int) (w : World) : (binOp .neq 167 (.agg #[.string a, i64 c]) (.agg #[.string b, i64 d])).run Tryz.prog w = .ok (.bool (!decide (Leg.mk a c = ⟨b, d⟩))) w := by
  have u3 := Tryz.underlying2
  have a3 := Tryz.isAgg2
  have z3 := Tryz.sizeOf2
  have u9 := Tryz.underlying9
  have a9 := Tryz.isAgg9
  have z9 := Tryz.sizeOf9
  have hS : Tryz.prog.underlying 167 = some (.struct (Tryz.prog.fieldsOf 167)) := by kernel_rfl
  have hp : Tryz.prog.stoodInHeld 167 = false := by kernel_rfl
  rw [run_neq_struct, show (10000 : Nat) = 9999 + 1 from rfl, run_equalIn_agg w 9999 167 _ _ hS hp]
  simp only [Program.fieldsOf, Tryz.underlying167]
  go_simp
  by_cases h1 : a = b
  · have h3 := beqS_of_eq h1
    by_cases h2 : c = d <;> simp_all
  · have h3 := beqS_of_ne h1
    by_cases h2 : c = d <;> simp_all

set_option maxRecDepth 100000 in
set_option maxHeartbeats 400000 in
theorem equal_leg (A C : Option Addr) (c d : Nat) (l m : List Leg) (w : World) (h : Sl w w.heap.size A c l) (k : Sl w w.heap.size C d m) (hl : l.length ≤ 65536) (hm : m.length ≤ 65536) :
    Calls Tryz.prog 157 #[.slice A l.length c, .slice C m.length d] w fun e w' => e = .returned (.bool (decide (l = m))) ∧ ∃ n, w.drewN n = w' := by
  by_cases hlm : l.length = m.length
  · have hne : ((l.length : Int) != (m.length : Int)) = false := by rw [hlm]; simp
    have HL := Lib.hid hlm
    clear hlm
    go_enter Tryz.func157, Tryz.ntmps157
    go_wp2
    go_loopw [13] (fun i wr => ∃ (j n : Nat), i = i64 j ∧ j ≤ l.length ∧ l.take j = m.take j ∧ wr = w.drewN n) (fun i _ => l.length - (intOf i).toNat)
    case atStart => exact ⟨0, 0, rfl, by omega, rfl, rfl⟩
    case round =>
      obtain ⟨j, n, rfl, hj, ht, rfl⟩ := hrel
      have HT := Lib.hid ht
      clear ht
      by_cases hlt : j < l.length
      · have hltm : j < m.length := by have := HL.out; omega
        obtain ⟨b, o, rfl, hb, -, c0, c1⟩ := h.leg hlt
        obtain ⟨b', o', rfl, hb', -, c0', c1'⟩ := k.leg hltm
        have he : ∀ W : World, (binOp .neq 167 (.agg #[.string l[j].acct, i64 l[j].sum]) (.agg #[.string m[j].acct, i64 m[j].sum])).run Tryz.prog W = .ok (.bool (!decide (l[j] = m[j]))) W := neq_leg _ _ _ _
        by_cases heq : l[j] = m[j]
        · simp only [decide_eq_true heq, Bool.not_true] at he
          have Heq := Lib.hid heq
          clear heq
          go_wp2
          go_quiet (fail)
          go_wp2
          go_roundw
          case rel => exact ⟨j + 1, n + _, by go_num, by omega, by rw [List.take_succ_eq_append_getElem hlt, List.take_succ_eq_append_getElem hltm, HT.out, Heq.out], rfl⟩
          case measure => simp [intOf]; omega
        · simp only [decide_eq_false heq, Bool.not_false] at he
          have Heq := Lib.hid heq
          clear heq
          go_wp2
          go_quiet (fail)
          go_wp2
          go_ret
          refine ⟨?_, _, (World.drewN_drewN _ _ _).symm⟩
          rw [decide_eq_false (show ¬ l = m from fun e => Heq.out (by subst e; rfl))]
          rfl
      · have hjl : j = l.length := by omega
        subst hjl
        go_wp2
        go_ret
        refine ⟨?_, _, rfl⟩
        rw [decide_eq_true (show l = m by
          have := HT.out
          rwa [List.take_length, List.take_of_length_le (by have := HL.out; omega)] at this)]
        rfl
  · have hne : ((l.length : Int) != (m.length : Int)) = true := by rw [bne_iff_ne]; omega
    have HL := Lib.hid hlm
    clear hlm
    go_enter Tryz.func157, Tryz.ntmps157
    go_wp2
    go_ret
    refine ⟨?_, 0, rfl⟩
    rw [decide_eq_false (show ¬ l = m from fun e => HL.out (by rw [e]))]
    rfl

/-- order.Same -/
structure SameOd (a b : Od) : Prop where
  acct : a.acct = b.acct
  peer : a.peer = b.peer
  note : a.note = b.note
  id : a.id = b.id
  kind : a.kind = b.kind
  sum : a.sum = b.sum
  period : a.period = b.period
  hold : a.hold = b.hold
  legs : a.legs = b.legs
instance (a b : Od) : Decidable (SameOd a b) :=
  if h : a.acct = b.acct ∧ a.peer = b.peer ∧ a.note = b.note ∧ a.id = b.id ∧ a.kind = b.kind ∧ a.sum = b.sum ∧ a.period = b.period ∧ a.hold = b.hold ∧ a.legs = b.legs then
    isTrue ⟨h.1, h.2.1, h.2.2.1, h.2.2.2.1, h.2.2.2.2.1, h.2.2.2.2.2.1, h.2.2.2.2.2.2.1, h.2.2.2.2.2.2.2.1, h.2.2.2.2.2.2.2.2⟩
  else isFalse fun k => h ⟨k.1, k.2, k.3, k.4, k.5, k.6, k.7, k.8, k.9⟩
abbrev sameB (a b : Od) : Bool := decide (SameOd a b)

set_option maxRecDepth 100000 in
set_option maxHeartbeats 1000000 in
theorem same_c (x y : Od) (w : World) (hx : Okb w w.heap.size x) (hy : Okb w w.heap.size y) (hlx : x.legs.length ≤ 65536) (hly : y.legs.length ≤ 65536) :
    Calls Tryz.prog 113 #[x.v, y.v] w fun e w' => e = .returned (.bool (sameB x y)) ∧ Below w.heap.size w w' := by
  obtain ⟨-, -, -, hgx⟩ := hx
  obtain ⟨-, -, -, hgy⟩ := hy
  unfold Od.v
  by_cases h0 : x.acct = y.acct
  · have q0 := beqS_of_eq h0
    by_cases h1 : x.peer = y.peer
    · have q1 := beqS_of_eq h1
      by_cases h2 : x.note = y.note
      · have q2 := beqS_of_eq h2
        by_cases h3 : x.id = y.id
        · have q3 : ∀ W : World, (binOp .eql 47 (.agg #[i64 x.client, i64 x.seq]) (.agg #[i64 y.client, i64 y.seq])).run Tryz.prog W = .ok (.bool true) W := fun W => by rw [eq_id, decide_eq_true (show Id.mk x.client x.seq = ⟨y.client, y.seq⟩ from h3)]
          by_cases h4 : x.kind = y.kind
          · have q4 : (x.kind == y.kind) = true := beq_iff_eq.2 h4
            by_cases h5 : x.sum = y.sum
            · have q5 : (x.sum == y.sum) = true := beq_iff_eq.2 h5
              by_cases h6 : x.period = y.period
              · have q6 : (x.period == y.period) = true := beq_iff_eq.2 h6
                by_cases h7 : x.hold = y.hold
                · have q7 : (x.hold == y.hold) = true := beq_iff_eq.2 h7
                  have H : Hid (x.acct = y.acct ∧ x.peer = y.peer ∧ x.note = y.note ∧ x.id = y.id ∧ x.kind = y.kind ∧ x.sum = y.sum ∧ x.period = y.period ∧ x.hold = y.hold) := Lib.hid ⟨h0, h1, h2, h3, h4, h5, h6, h7⟩
                  clear h0 h1 h2 h3 h4 h5 h6 h7
                  go_enter Tryz.func113, Tryz.ntmps113
                  go_wp2_with fail
                  have hb1 : Below w.heap.size w ((w.alloc (.cells #[i64 x.client, i64 x.seq, i64 x.kind, .string x.acct, .string x.peer, i64 x.sum, .slice x.la x.legs.length x.lc, i64 x.period, i64 x.hold, .string x.note] 50)).alloc (.cells #[i64 y.client, i64 y.seq, i64 y.kind, .string y.acct, .string y.peer, i64 y.sum, .slice y.la y.legs.length y.lc, i64 y.period, i64 y.hold, .string y.note] 50)) := ((Below.refl _ _).alloc (Nat.le_refl _) _).alloc (by simp) _
                  refine (equal_leg _ _ _ _ _ _ _ (hgx.later hb1) (hgy.later hb1) hlx hly).mono ?_
                  rintro e w1 ⟨rfl, n, rfl⟩
                  go_wp2
                  go_ret
                  refine ⟨?_, below_drewN hb1 n⟩
                  obtain ⟨h0, h1, h2, h3, h4, h5, h6, h7⟩ := H.out
                  have hs : sameB x y = decide (x.legs = y.legs) := by
                    by_cases hl : x.legs = y.legs
                    · rw [decide_eq_true hl]; exact decide_eq_true ⟨h0, h1, h2, h3, h4, h5, h6, h7, hl⟩
                    · rw [decide_eq_false hl]; exact decide_eq_false fun k => hl k.legs
                  rw [hs]
                  rfl
                · have q7 : (x.hold == y.hold) = false := beq_eq_false_iff_ne.2 h7
                  have Hs : Hid (sameB x y = false) := Lib.hid (decide_eq_false fun k => h7 k.hold)
                  clear h0 h1 h2 h3 h4 h5 h6 h7
                  go_enter Tryz.func113, Tryz.ntmps113
                  go_wp2
                  go_ret
                  exact ⟨by rw [Hs.out]; rfl, ((Below.refl _ _).alloc (Nat.le_refl _) _).alloc (by simp) _⟩
              · have q6 : (x.period == y.period) = false := beq_eq_false_iff_ne.2 h6
                have Hs : Hid (sameB x y = false) := Lib.hid (decide_eq_false fun k => h6 k.period)
                clear h0 h1 h2 h3 h4 h5 h6
                go_enter Tryz.func113, Tryz.ntmps113
                go_wp2
                go_ret
                exact ⟨by rw [Hs.out]; rfl, ((Below.refl _ _).alloc (Nat.le_refl _) _).alloc (by simp) _⟩
            · have q5 : (x.sum == y.sum) = false := beq_eq_false_iff_ne.2 h5
              have Hs : Hid (sameB x y = false) := Lib.hid (decide_eq_false fun k => h5 k.sum)
              clear h0 h1 h2 h3 h4 h5
              go_enter Tryz.func113, Tryz.ntmps113
              go_wp2
              go_ret
              exact ⟨by rw [Hs.out]; rfl, ((Below.refl _ _).alloc (Nat.le_refl _) _).alloc (by simp) _⟩
          · have q4 : (x.kind == y.kind) = false := beq_eq_false_iff_ne.2 h4
            have Hs : Hid (sameB x y = false) := Lib.hid (decide_eq_false fun k => h4 k.kind)
            clear h0 h1 h2 h3 h4
            go_enter Tryz.func113, Tryz.ntmps113
            go_wp2
            go_ret
            exact ⟨by rw [Hs.out]; rfl, ((Below.refl _ _).alloc (Nat.le_refl _) _).alloc (by simp) _⟩
        · have q3 : ∀ W : World, (binOp .eql 47 (.agg #[i64 x.client, i64 x.seq]) (.agg #[i64 y.client, i64 y.seq])).run Tryz.prog W = .ok (.bool false) W := fun W => by rw [eq_id, decide_eq_false (show ¬ Id.mk x.client x.seq = ⟨y.client, y.seq⟩ from h3)]
          have Hs : Hid (sameB x y = false) := Lib.hid (decide_eq_false fun k => h3 k.id)
          clear h0 h1 h2 h3
          go_enter Tryz.func113, Tryz.ntmps113
          go_wp2
          go_ret
          exact ⟨by rw [Hs.out]; rfl, ((Below.refl _ _).alloc (Nat.le_refl _) _).alloc (by simp) _⟩
      · have q2 := beqS_of_ne h2
        have Hs : Hid (sameB x y = false) := Lib.hid (decide_eq_false fun k => h2 k.note)
        clear h0 h1 h2
        go_enter Tryz.func113, Tryz.ntmps113
        go_wp2
        go_ret
        exact ⟨by rw [Hs.out]; rfl, ((Below.refl _ _).alloc (Nat.le_refl _) _).alloc (by simp) _⟩
    · have q1 := beqS_of_ne h1
      have Hs : Hid (sameB x y = false) := Lib.hid (decide_eq_false fun k => h1 k.peer)
      clear h0 h1
      go_enter Tryz.func113, Tryz.ntmps113
      go_wp2
      go_ret
      exact ⟨by rw [Hs.out]; rfl, ((Below.refl _ _).alloc (Nat.le_refl _) _).alloc (by simp) _⟩
  · have q0 := beqS_of_ne h0
    have Hs : Hid (sameB x y = false) := Lib.hid (decide_eq_false fun k => h0 k.acct)
    clear h0
    go_enter Tryz.func113, Tryz.ntmps113
    go_wp2
    go_ret
    exact ⟨by rw [Hs.out]; rfl, ((Below.refl _ _).alloc (Nat.le_refl _) _).alloc (by simp) _⟩
/-- an order without the place of its legs -/
def Od.core (x : Od) : Od := { x with la := none, lc := 0 }
theorem sameB_core {x y : Od} : sameB x y = true ↔ x.core = y.core := by
  unfold sameB Od.core
  rw [decide_eq_true_eq]
  cases x; cases y
  constructor
  · rintro ⟨h1, h2, h3, h4, h5, h6, h7, h8, h9⟩
    simp only [Od.id, Id.mk.injEq] at h1 h2 h3 h4 h5 h6 h7 h8 h9
    simp only [Od.mk.injEq]
    exact ⟨h4.1, h4.2, h5, h1, h2, h6, trivial, trivial, h9, h7, h8, h3⟩
  · intro h
    simp only [Od.mk.injEq] at h
    obtain ⟨h1, h2, h3, h4, h5, h6, _, _, h7, h8, h9, h10⟩ := h
    exact ⟨h4, h5, h10, by simp only [Od.id, h1, h2], h3, h6, h8, h9, h7⟩
theorem sameB_cc {x y : Od} : sameB x.core y.core = sameB x y := by rw [Bool.eq_iff_iff, sameB_core, sameB_core]; exact Iff.rfl
end Go.Proofs.YtdkkblhfjblpkaaGreat

/- ref06.Same -/
namespace Go.Proofs.YtdkkblhfjblpkaaGreat
open Go.RowKit
theorem neq_id (a b c d : Int) (w : World) : (binOp .neq 47 (.agg #[i64 a, i64 b]) (.agg #[i64 c, i64 d])).run Tryz.prog w = .ok (.bool (!decide (Id.mk a b = ⟨c, d⟩))) w := by
  have u3 := Tryz.underlying3
  have a3 := Tryz.isAgg3
  have z3 := Tryz.sizeOf3
  have hS : Tryz.prog.underlying 47 = some (.struct (Tryz.prog.fieldsOf 47)) := by kernel_rfl
  have hp : Tryz.prog.stoodInHeld 47 = false := by kernel_rfl
  rw [run_neq_struct, show (10000 : Nat) = 9999 + 1 from rfl, run_equalIn_agg w 9999 47 _ _ hS hp]
  simp only [Program.fieldsOf, Tryz.underlying47]
  go_simp
  by_cases h1 : a = c <;> by_cases h2 : b = d <;> simp [h1, h2]
theorem bneS_of_eq {s t : ByteArray} (h : s = t) : (s.toList != t.toList) = false := by rw [bne, beqS_of_eq h]; rfl
theorem bneS_of_ne {s t : ByteArray} (h : s ≠ t) : (s.toList != t.toList) = true := by rw [bne, beqS_of_ne h]; rfl

set_option maxRecDepth 100000 in
set_option maxHeartbeats 2000000 in
theorem rsame_c (x y : Od) (w : World) (hx : Okb w w.heap.size x) (hy : Okb w w.heap.size y) (hlx : x.legs.length ≤ 65536) (_hly : y.legs.length ≤ 65536) :
    Calls Tryz.prog 73 #[x.v, y.v] w fun e w' => e = .returned (.bool (sameB x y)) ∧ Below w.heap.size w w' := by
  obtain ⟨-, -, -, hgx⟩ := hx
  obtain ⟨-, -, -, hgy⟩ := hy
  have hb1 : Below w.heap.size w ((w.alloc (.cells #[i64 x.client, i64 x.seq, i64 x.kind, .string x.acct, .string x.peer, i64 x.sum, .slice x.la x.legs.length x.lc, i64 x.period, i64 x.hold, .string x.note] 50)).alloc (.cells #[i64 y.client, i64 y.seq, i64 y.kind, .string y.acct, .string y.peer, i64 y.sum, .slice y.la y.legs.length y.lc, i64 y.period, i64 y.hold, .string y.note] 50)) := ((Below.refl _ _).alloc (Nat.le_refl _) _).alloc (by simp) _
  have Hgx := Lib.hid (hgx.later hb1)
  have Hgy := Lib.hid (hgy.later hb1)
  clear hgx hgy
  unfold Od.v
  by_cases h0 : x.id = y.id
  · have q0 : ∀ W : World, (binOp .neq 47 (.agg #[i64 x.client, i64 x.seq]) (.agg #[i64 y.client, i64 y.seq])).run Tryz.prog W = .ok (.bool false) W := fun W => by rw [neq_id, decide_eq_true (show Id.mk x.client x.seq = ⟨y.client, y.seq⟩ from h0)]; rfl
    by_cases h1 : x.kind = y.kind
    · have q1 : (x.kind != y.kind) = false := by rw [h1]; simp
      by_cases h2 : x.acct = y.acct
      · have q2 := bneS_of_eq h2
        have p2 := beqS_of_eq h2
        by_cases h3 : x.peer = y.peer
        · have q3 := bneS_of_eq h3
          have p3 := beqS_of_eq h3
          by_cases h4 : x.sum = y.sum
          · have q4 : (x.sum != y.sum) = false := by rw [h4]; simp
            by_cases h5 : x.period = y.period
            · have q5 : (x.period != y.period) = false := by rw [h5]; simp
              by_cases h6 : x.hold = y.hold
              · have q6 : (x.hold != y.hold) = false := by rw [h6]; simp
                by_cases h7 : x.note = y.note
                · have q7 := bneS_of_eq h7
                  have p7 := beqS_of_eq h7
                  by_cases h8 : x.legs.length = y.legs.length
                  · have q8 : ((x.legs.length : Int) != (y.legs.length : Int)) = false := by rw [h8]; simp
                    have H : Hid (x.id = y.id ∧ x.kind = y.kind ∧ x.acct = y.acct ∧ x.peer = y.peer ∧ x.sum = y.sum ∧ x.period = y.period ∧ x.hold = y.hold ∧ x.note = y.note ∧ x.legs.length = y.legs.length) := Lib.hid ⟨h0, h1, h2, h3, h4, h5, h6, h7, h8⟩
                    clear h0 h1 h2 h3 h4 h5 h6 h7 h8
                    have hxs : sameB x y = decide (x.legs = y.legs) := by
                      obtain ⟨h0, h1, h2, h3, h4, h5, h6, h7, _⟩ := H.out
                      by_cases hl : x.legs = y.legs
                      · rw [decide_eq_true hl]; exact decide_eq_true ⟨h2, h3, h7, h0, h1, h4, h5, h6, hl⟩
                      · rw [decide_eq_false hl]; exact decide_eq_false fun k => hl k.legs
                    have Hxs := Lib.hid hxs
                    clear hxs
                    go_enter Tryz.func73, Tryz.ntmps73
                    go_wp2
                    have hcx : World.cell? ((w.alloc (.cells #[i64 x.client, i64 x.seq, i64 x.kind, .string x.acct, .string x.peer, i64 x.sum, .slice x.la x.legs.length x.lc, i64 x.period, i64 x.hold, .string x.note] 50)).alloc (.cells #[i64 y.client, i64 y.seq, i64 y.kind, .string y.acct, .string y.peer, i64 y.sum, .slice y.la y.legs.length y.lc, i64 y.period, i64 y.hold, .string y.note] 50)) ⟨w.heap.size, 6, none⟩ = some (.slice x.la x.legs.length x.lc) := cell_of_row _ w.heap.size 6 _ _ (0, 0) (heap_alloc2_old w _ _)
                    have hcy : World.cell? ((w.alloc (.cells #[i64 x.client, i64 x.seq, i64 x.kind, .string x.acct, .string x.peer, i64 x.sum, .slice x.la x.legs.length x.lc, i64 x.period, i64 x.hold, .string x.note] 50)).alloc (.cells #[i64 y.client, i64 y.seq, i64 y.kind, .string y.acct, .string y.peer, i64 y.sum, .slice y.la y.legs.length y.lc, i64 y.period, i64 y.hold, .string y.note] 50)) ⟨w.heap.size + 1, 6, none⟩ = some (.slice y.la y.legs.length y.lc) := cell_of_row _ (w.heap.size + 1) 6 _ _ (0, 0) (heap_alloc2_new w _ _)
                    generalize (w.alloc (.cells #[i64 x.client, i64 x.seq, i64 x.kind, .string x.acct, .string x.peer, i64 x.sum, .slice x.la x.legs.length x.lc, i64 x.period, i64 x.hold, .string x.note] 50)).alloc (.cells #[i64 y.client, i64 y.seq, i64 y.kind, .string y.acct, .string y.peer, i64 y.sum, .slice y.la y.legs.length y.lc, i64 y.period, i64 y.hold, .string y.note] 50) = W1 at *
                    go_loopw [5] (fun i wr => ∃ (j m : Nat), i = i64 j ∧ j ≤ x.legs.length ∧ x.legs.take j = y.legs.take j ∧ wr = W1.drewN m) (fun i _ => x.legs.length - (intOf i).toNat)
                    case atStart => exact ⟨0, 0, rfl, by omega, rfl, rfl⟩
                    case round =>
                      obtain ⟨j, m, rfl, hj, ht, rfl⟩ := hrel
                      have HT := Lib.hid ht
                      clear ht
                      by_cases hlt : j < x.legs.length
                      · have hltm : j < y.legs.length := by have := H.out.2.2.2.2.2.2.2.2; omega
                        obtain ⟨b, o, hA, hb, -, c0, c1⟩ := Hgx.out.leg hlt
                        obtain ⟨b', o', hA', hb', -, c0', c1'⟩ := Hgy.out.leg hltm
                        have he : ∀ W : World, (binOp .neq 167 (.agg #[.string x.legs[j].acct, i64 x.legs[j].sum]) (.agg #[.string y.legs[j].acct, i64 y.legs[j].sum])).run Tryz.prog W = .ok (.bool (!decide (x.legs[j] = y.legs[j]))) W := neq_leg _ _ _ _
                        rw [hA] at hcx
                        rw [hA'] at hcy
                        by_cases heq : x.legs[j] = y.legs[j]
                        · simp only [decide_eq_true heq, Bool.not_true] at he
                          have Heq := Lib.hid heq
                          clear heq
                          go_wp2
                          go_quiet (fail)
                          go_wp2
                          go_roundw
                          case rel => exact ⟨j + 1, m + _, by go_num, by omega, by rw [List.take_succ_eq_append_getElem hlt, List.take_succ_eq_append_getElem hltm, HT.out, Heq.out], rfl⟩
                          case measure => simp [intOf]; omega
                        · simp only [decide_eq_false heq, Bool.not_false] at he
                          have Heq := Lib.hid heq
                          clear heq
                          go_wp2
                          go_quiet (fail)
                          go_wp2
                          go_ret
                          refine ⟨?_, below_drewN (below_drewN hb1 _) _⟩
                          rw [Hxs.out, decide_eq_false (show ¬ x.legs = y.legs from fun e => Heq.out (by simp only [e]))]
                          rfl
                      · obtain rfl : j = x.legs.length := by omega
                        go_wp2
                        go_ret
                        refine ⟨?_, below_drewN hb1 _⟩
                        rw [Hxs.out, decide_eq_true (show x.legs = y.legs by
                          have := HT.out
                          rwa [List.take_length, List.take_of_length_le (by have := H.out.2.2.2.2.2.2.2.2; omega)] at this)]
                        rfl
                  · have q8 : ((x.legs.length : Int) != (y.legs.length : Int)) = true := by rw [bne_iff_ne]; omega
                    have Hs : Hid (sameB x y = false) := Lib.hid (decide_eq_false fun k => h8 (by rw [k.legs]))
                    clear h0 h1 h2 h3 h4 h5 h6 h7 h8
                    go_enter Tryz.func73, Tryz.ntmps73
                    go_wp2
                    go_ret
                    exact ⟨by rw [Hs.out]; rfl, hb1⟩
                · have q7 := bneS_of_ne h7
                  have p7 := beqS_of_ne h7
                  have Hs : Hid (sameB x y = false) := Lib.hid (decide_eq_false fun k => h7 k.note)
                  clear h0 h1 h2 h3 h4 h5 h6 h7
                  go_enter Tryz.func73, Tryz.ntmps73
                  go_wp2
                  go_ret
                  exact ⟨by rw [Hs.out]; rfl, hb1⟩
              · have q6 : (x.hold != y.hold) = true := bne_iff_ne.2 h6
                have Hs : Hid (sameB x y = false) := Lib.hid (decide_eq_false fun k => h6 k.hold)
                clear h0 h1 h2 h3 h4 h5 h6
                go_enter Tryz.func73, Tryz.ntmps73
                go_wp2
                go_ret
                exact ⟨by rw [Hs.out]; rfl, hb1⟩
            · have q5 : (x.period != y.period) = true := bne_iff_ne.2 h5
              have Hs : Hid (sameB x y = false) := Lib.hid (decide_eq_false fun k => h5 k.period)
              clear h0 h1 h2 h3 h4 h5
              go_enter Tryz.func73, Tryz.ntmps73
              go_wp2
              go_ret
              exact ⟨by rw [Hs.out]; rfl, hb1⟩
          · have q4 : (x.sum != y.sum) = true := bne_iff_ne.2 h4
            have Hs : Hid (sameB x y = false) := Lib.hid (decide_eq_false fun k => h4 k.sum)
            clear h0 h1 h2 h3 h4
            go_enter Tryz.func73, Tryz.ntmps73
            go_wp2
            go_ret
            exact ⟨by rw [Hs.out]; rfl, hb1⟩
        · have q3 := bneS_of_ne h3
          have p3 := beqS_of_ne h3
          have Hs : Hid (sameB x y = false) := Lib.hid (decide_eq_false fun k => h3 k.peer)
          clear h0 h1 h2 h3
          go_enter Tryz.func73, Tryz.ntmps73
          go_wp2
          go_ret
          exact ⟨by rw [Hs.out]; rfl, hb1⟩
      · have q2 := bneS_of_ne h2
        have p2 := beqS_of_ne h2
        have Hs : Hid (sameB x y = false) := Lib.hid (decide_eq_false fun k => h2 k.acct)
        clear h0 h1 h2
        go_enter Tryz.func73, Tryz.ntmps73
        go_wp2
        go_ret
        exact ⟨by rw [Hs.out]; rfl, hb1⟩
    · have q1 : (x.kind != y.kind) = true := bne_iff_ne.2 h1
      have Hs : Hid (sameB x y = false) := Lib.hid (decide_eq_false fun k => h1 k.kind)
      clear h0 h1
      go_enter Tryz.func73, Tryz.ntmps73
      go_wp2
      go_ret
      exact ⟨by rw [Hs.out]; rfl, hb1⟩
  · have q0 : ∀ W : World, (binOp .neq 47 (.agg #[i64 x.client, i64 x.seq]) (.agg #[i64 y.client, i64 y.seq])).run Tryz.prog W = .ok (.bool true) W := fun W => by rw [neq_id, decide_eq_false (show ¬ Id.mk x.client x.seq = ⟨y.client, y.seq⟩ from h0)]; rfl
    have Hs : Hid (sameB x y = false) := Lib.hid (decide_eq_false fun k => h0 k.id)
    clear h0
    go_enter Tryz.func73, Tryz.ntmps73
    go_wp2
    go_ret
    exact ⟨by rw [Hs.out]; rfl, hb1⟩
end Go.Proofs.YtdkkblhfjblpkaaGreat

/- ref10.Same -/
namespace Go.Proofs.YtdkkblhfjblpkaaGreat
open Go.RowKit
/-- ref10.Same -/
def sameL (a b : List Od) : Bool := decide (a.length = b.length) && (a.zip b).all fun p => sameB p.1 p.2

set_option maxRecDepth 100000 in
set_option maxHeartbeats 1000000 in
theorem sameL_c (A C : Option Addr) (c d : Nat) (a b : List Od) (w : World) (ha : Sl w w.heap.size A c a) (hb : Sl w w.heap.size C d b) (hna : a.length ≤ 65536) (_hnb : b.length ≤ 65536) (hla : ∀ x ∈ a, x.legs.length ≤ 65536) (hlb : ∀ x ∈ b, x.legs.length ≤ 65536) :
    Calls Tryz.prog 19 #[.slice A a.length c, .slice C b.length d] w fun e w' => e = .returned (.bool (sameL a b)) ∧ Below w.heap.size w w' := by
  by_cases hl : a.length = b.length
  · have q : ((a.length : Int) != (b.length : Int)) = false := by rw [hl]; simp
    have HL := Lib.hid hl
    have Hla := Lib.hid hla
    have Hlb := Lib.hid hlb
    clear hl hla hlb
    go_enter Tryz.func19, Tryz.ntmps19
    go_wp2
    go_loopw [5] (fun i wr => ∃ k : Nat, i = i64 k ∧ k ≤ a.length ∧ (∀ j (hj : j < a.length) (hj' : j < b.length), j < k → sameB a[j] b[j] = true) ∧ Below w.heap.size w wr) (fun i _ => a.length - (intOf i).toNat)
    case atStart => exact ⟨0, rfl, by omega, by omega, Below.refl _ _⟩
    case round =>
      obtain ⟨k, rfl, hk, hall, hbr⟩ := hrel
      have Hall := Lib.hid hall
      clear hall
      by_cases hlt : k < a.length
      · have hltb : k < b.length := by have := HL.out; omega
        obtain ⟨b0, o0, rfl, hbb, hok, c0, c1, c2, c3, c4, c5, c6, c7, c8, c9⟩ := (ha.later hbr).od hlt
        obtain ⟨b2, o2, rfl, hbb2, hok2, d0, d1, d2, d3, d4, d5, d6, d7, d8, d9⟩ := (hb.later hbr).od hltb
        have Hok := Lib.hid hok
        have Hok2 := Lib.hid hok2
        clear hok hok2
        have hbd := (Below.refl wr.heap.size wr).drew
        go_wp2
        refine wp_region_still_tail 8 (by kernel_rfl) (by kernel_rfl) ?_
        simp only [List.take_succ_cons, List.take_zero, List.drop_succ_cons, List.drop_zero]
        change wpStill _ _ (World.drew _) (fun a' => wpList _ _ _ _ a' (World.drew _)) _ _
        repeat still_step
        refine wpStill_nil ?_
        go_wp2_with fail
        refine (rsame_c a[k] b[k] _ (Okb.later Hok.out hbd) (Okb.later Hok2.out hbd) (Hla.out _ (List.getElem_mem _)) (Hlb.out _ (List.getElem_mem _))).mono ?_
        rintro e w5 ⟨rfl, hb5⟩
        have hb6 := hbr.trans ((hbd.trans hb5).mono hbr.size)
        clear hbd hb5
        by_cases hs : sameB a[k] b[k] = true
        · rw [hs]
          have Hs := Lib.hid hs
          clear hs
          go_wp2
          go_roundw
          case rel => exact ⟨k + 1, by go_num, by omega, fun j hj hj' h => by
              rcases Nat.lt_succ_iff_lt_or_eq.1 h with h | rfl
              · exact Hall.out j hj hj' h
              · exact Hs.out, hb6⟩
          case measure => simp [intOf]; omega
        · have hs' : sameB a[k] b[k] = false := by simpa using hs
          rw [hs']
          have Hs := Lib.hid hs'
          clear hs hs'
          go_wp2
          go_ret
          refine ⟨?_, hb6⟩
          have : sameL a b = false := by
            unfold sameL
            rw [Bool.and_eq_false_iff]
            right
            rw [List.all_eq_false]
            refine ⟨(a[k], b[k]), ?_, by simpa using Hs.out⟩
            rw [List.mem_iff_getElem]
            exact ⟨k, by simp; omega, by simp⟩
          rw [this]
          rfl
      · obtain rfl : k = a.length := by omega
        go_wp2
        go_ret
        refine ⟨?_, hbr⟩
        have : sameL a b = true := by
          unfold sameL
          rw [decide_eq_true HL.out, Bool.true_and, List.all_eq_true]
          intro p hp
          obtain ⟨j, hj, rfl⟩ := List.getElem_of_mem hp
          simp only [List.length_zip] at hj
          rw [List.getElem_zip]
          exact Hall.out j (by omega) (by omega) (by omega)
        rw [this]
        rfl
  · have q : ((a.length : Int) != (b.length : Int)) = true := by rw [bne_iff_ne]; omega
    have Hs : Hid (sameL a b = false) := Lib.hid (by unfold sameL; rw [decide_eq_false hl]; rfl)
    clear hl
    go_enter Tryz.func19, Tryz.ntmps19
    go_wp2
    go_ret
    exact ⟨by rw [Hs.out]; rfl, Below.refl _ _⟩
end Go.Proofs.YtdkkblhfjblpkaaGreat

/- few and own, in lists. No program. -/
namespace Go.Proofs.YtdkkblhfjblpkaaGreat
open Go.RowKit
/-- an order with its first 8 legs alone -/
def cut8 (x : Od) : Od := { x with legs := x.legs.take 8 }
def fewL (n : Nat) (l : List Od) : List Od := (l.take n).map cut8
theorem cut8_ok {w : World} {S : Nat → Prop} {x : Od} (h : Od.Ok w S x) : Od.Ok w S (cut8 x) := ⟨h.acct, h.peer, h.note, h.legs.take 8⟩
theorem cut8_small {x : Od} (h : x.legs.length ≤ 8) : cut8 x = x := by
  unfold cut8
  rw [List.take_of_length_le h]
theorem fewL_len {l : List Od} {k : Nat} (h : k < l.length) : (fewL k l).length = k := by
  unfold fewL
  rw [List.length_map, List.length_take]; omega
theorem fewL_succ {l : List Od} {k : Nat} (h : k < l.length) : fewL (k + 1) l = fewL k l ++ [cut8 l[k]] := by
  unfold fewL
  rw [List.take_succ_eq_append_getElem h, List.map_append]; rfl
theorem fewL_legs (n : Nat) (l : List Od) : ∀ x ∈ fewL n l, x.legs.length ≤ 8 := by
  intro x hx
  obtain ⟨y, _, rfl⟩ := List.mem_map.1 hx
  show (y.legs.take 8).length ≤ 8
  rw [List.length_take]; omega
theorem fewL_le (n : Nat) (l : List Od) : (fewL n l).length ≤ n := by
  unfold fewL
  rw [List.length_map, List.length_take]; omega
/-- those whose Id was not there ahead: the first k places looked at -/
def ownK (l : List Od) (k : Nat) : List Od := ((l.take k).zipIdx.filter fun p => decide (atIdx l p.1.id = (p.2 : Int))).map (·.1)
abbrev ownL (l : List Od) : List Od := ownK l l.length
theorem ownK_succ {l : List Od} {k : Nat} (h : k < l.length) : ownK l (k + 1) = if atIdx l l[k].id = (k : Int) then ownK l k ++ [l[k]] else ownK l k := by
  unfold ownK
  rw [List.take_succ_eq_append_getElem h, List.zipIdx_append, List.filter_append, List.map_append]
  have hl : (l.take k).length = k := by rw [List.length_take]; omega
  simp only [hl, Nat.zero_add, List.zipIdx_cons, List.zipIdx_nil]
  by_cases hc : atIdx l l[k].id = (k : Int)
  · rw [if_pos hc, List.filter_cons_of_pos (by simpa using hc)]; rfl
  · rw [if_neg hc, List.filter_cons_of_neg (by simpa using hc)]; simp
theorem ownK_len (l : List Od) (k : Nat) : (ownK l k).length ≤ k := by
  unfold ownK
  rw [List.length_map]
  refine Nat.le_trans (List.length_filter_le _ _) ?_
  rw [List.length_zipIdx, List.length_take]; omega
theorem ownK_sub (l : List Od) (k : Nat) : ∀ x ∈ ownK l k, x ∈ l := by
  intro x hx
  obtain ⟨p, hp, rfl⟩ := List.mem_map.1 hx
  have := (List.mem_filter.1 hp).1
  exact List.mem_of_mem_take (List.fst_mem_of_mem_zipIdx this)
end Go.Proofs.YtdkkblhfjblpkaaGreat

/- Maps: a block that is a map of given keys and values; look-up, store, delete, len. No program. -/
namespace Go.Proofs.YtdkkblhfjblpkaaGreat
open Go.RowKit

/-- Go's keys of one type, as data: how the model compares them -/
structure KeyFit (P : Program) (K : TypeId) {κ : Type} [DecidableEq κ] (enc : κ → Value) : Prop where
  check : ∀ (empty : Bool) (k : κ) (w : World), (Instr.checkKey empty 10000 K (enc k)).run P w = .ok () w
  find : ∀ (k : κ) (es : List MapEntry) (M : List (κ × Value)) (w : World), es.map (fun e => (e.key, e.val)) = M.map (fun p => (enc p.1, p.2)) →
    (Instr.findKey K (enc k) es).run P w = .ok ((M.findIdx? fun p => decide (p.1 = k)).map fun i => (i, ((M[i]?).map (·.2)).getD undef)) w
  bits : ∀ k, Instr.sameBits 10000 (enc k) (enc k) = true

/-- block b of w is a map of these keys and values (in the order in which the keys came) -/
def MapIs {κ : Type} (enc : κ → Value) (w : World) (b : Nat) (M : List (κ × Value)) : Prop :=
  ∃ es clock, w.heap[b]? = some (.map es clock) ∧ es.toList.map (fun e => (e.key, e.val)) = M.map (fun p => (enc p.1, p.2)) ∧ es.toList.Pairwise (fun x y => x.born < y.born) ∧ (∀ x ∈ es.toList, x.born < clock) ∧ M.Pairwise (fun p q => p.1 ≠ q.1)

section
variable {κ : Type} [DecidableEq κ] {enc : κ → Value}
def getM {ν : Type} (M : List (κ × ν)) (k : κ) : Option ν := (M.find? fun p => decide (p.1 = k)).map (·.2)
def putM {ν : Type} (M : List (κ × ν)) (k : κ) (v : ν) : List (κ × ν) := if M.any (fun p => decide (p.1 = k)) then M.map (fun p => if p.1 = k then (k, v) else p) else M ++ [(k, v)]
def delM {ν : Type} (M : List (κ × ν)) (k : κ) : List (κ × ν) := M.filter fun p => !decide (p.1 = k)

theorem getM_put {ν : Type} (M : List (κ × ν)) (k k' : κ) (v : ν) : getM (putM M k v) k' = if k = k' then some v else getM M k' := by
  unfold getM putM
  by_cases h : M.any (fun p => decide (p.1 = k)) = true
  · rw [if_pos h]
    by_cases hk : k = k'
    · subst hk
      rw [if_pos rfl]
      induction M with
      | nil => simp at h
      | cons q r ih =>
        by_cases hq : q.1 = k
        · simp [hq]
        · simp only [List.map_cons, hq, if_false]
          rw [List.find?_cons_of_neg (by simpa using hq)]
          refine ih ?_
          simpa [hq] using h
    · rw [if_neg hk]
      clear h
      induction M with
      | nil => rfl
      | cons q r ih =>
        by_cases hq : q.1 = k
        · simp only [List.map_cons, hq, if_true]
          rw [List.find?_cons_of_neg (by simpa using hk), List.find?_cons_of_neg (by simpa [hq] using hk)]
          exact ih
        · simp only [List.map_cons, hq, if_false]
          by_cases hq' : q.1 = k'
          · rw [List.find?_cons_of_pos (by simpa using hq'), List.find?_cons_of_pos (by simpa using hq')]
          · rw [List.find?_cons_of_neg (by simpa using hq'), List.find?_cons_of_neg (by simpa using hq')]
            exact ih
  · rw [if_neg h, List.find?_append]
    have hno : M.find? (fun p => decide (p.1 = k)) = none := by
      rw [List.find?_eq_none]
      intro p hp hpk
      exact h (List.any_eq_true.2 ⟨p, hp, hpk⟩)
    by_cases hk : k = k'
    · subst hk
      rw [hno]
      simp
    · simp [hk]
theorem getM_del {ν : Type} (M : List (κ × ν)) (k k' : κ) : getM (delM M k) k' = if k = k' then none else getM M k' := by
  unfold getM delM
  rw [List.find?_filter]
  by_cases hk : k = k'
  · subst hk
    rw [if_pos rfl, Option.map_eq_none_iff, List.find?_eq_none]
    intro p _ h
    simp at h
  · rw [if_neg hk]
    congr 2
    funext p
    by_cases hp : p.1 = k'
    · have hk' : ¬ k' = k := fun e => hk e.symm
      simp [hp, hk']
    · simp [hp]
theorem putM_nodup {ν : Type} {M : List (κ × ν)} (h : M.Pairwise (fun p q => p.1 ≠ q.1)) (k : κ) (v : ν) : (putM M k v).Pairwise (fun p q => p.1 ≠ q.1) := by
  unfold putM
  split
  · refine List.pairwise_map.2 (h.imp fun {p q} hpq => ?_)
    split <;> split <;> simp_all
  · rename_i hno
    refine List.pairwise_append.2 ⟨h, List.pairwise_singleton _ _, fun p hp q hq => ?_⟩
    simp only [List.mem_singleton] at hq
    subst hq
    intro e
    exact hno (List.any_eq_true.2 ⟨p, hp, by simpa using e⟩)
variable {P : Program} {K : TypeId} {w : World} {b : Nat} {M : List (κ × Value)}
omit [DecidableEq κ] in
theorem MapIs.made (w : World) : MapIs enc (w.alloc (.map #[] 0)) w.heap.size ([] : List (κ × Value)) :=
  ⟨#[], 0, heap_alloc_new w _, rfl, by simp, by simp, by simp⟩
omit [DecidableEq κ] in
theorem MapIs.lt (h : MapIs enc w b M) : b < w.heap.size := by
  obtain ⟨es, clock, hb, _⟩ := h
  exact (Array.getElem?_eq_some_iff.1 hb).1
omit [DecidableEq κ] in
theorem MapIs.kept {w' : World} {row : Option Nat} (h : MapIs enc w b M) (hg : w.grownBy w' row) (hne : some b ≠ row) : MapIs enc w' b M := by
  have hlt := h.lt
  obtain ⟨es, clock, hb, r⟩ := h
  exact ⟨es, clock, (hg.block b hlt hne).trans hb, r⟩
omit [DecidableEq κ] in
theorem MapIs.later {w' : World} (h : MapIs enc w b M) (hb : Below w.heap.size w w') : MapIs enc w' b M := h.kept (grown_of_below hb none) (by simp)
omit [DecidableEq κ] in
theorem MapIs.nodup (h : MapIs enc w b M) : M.Pairwise (fun p q => p.1 ≠ q.1) := by
  obtain ⟨_, _, _, _, _, _, h⟩ := h
  exact h
theorem findIdx_getM (M : List (κ × Value)) (k : κ) : ((M.findIdx? fun p => decide (p.1 = k)).map fun i => ((M[i]?).map (·.2)).getD undef) = getM M k := by
  unfold getM
  rw [List.find?_eq_bind_findIdx?_getElem?]
  cases h : M.findIdx? fun p => decide (p.1 = k) with
  | none => rfl
  | some i =>
    have hi := (List.findIdx?_eq_some_iff_getElem.1 h).1
    simp [List.getElem?_eq_getElem hi]
theorem run_getMap {es : Array MapEntry} {clock : Nat} (hb : w.heap[b]? = some (.map es clock)) : (getObj b).run P w = .ok (.map es clock) w := by
  simp [getObj, Sem.run, hb]
theorem run_setMap {es es' : Array MapEntry} {clock clock' : Nat} (hb : w.heap[b]? = some (.map es clock)) : (setObj b (.map es' clock')).run P w = .ok () { w with heap := w.heap.setIfInBounds b (.map es' clock') } := by
  simp [setObj, Sem.run, hb]
theorem grown_setMap {es es' : Array MapEntry} {clock clock' : Nat} (_hb : w.heap[b]? = some (.map es clock)) : w.grownBy { w with heap := w.heap.setIfInBounds b (.map es' clock') } (some b) :=
  ⟨rfl, rfl, rfl, by simp, fun k _ hne => by
    simp only [Array.getElem?_setIfInBounds]
    rw [if_neg (fun e => hne (by rw [e]))]⟩
theorem heap_setMap {es es' : Array MapEntry} {clock clock' : Nat} (hb : w.heap[b]? = some (.map es clock)) : ({ w with heap := w.heap.setIfInBounds b (.map es' clock') } : World).heap[b]? = some (.map es' clock') := by
  have hlt := (Array.getElem?_eq_some_iff.1 hb).1
  simp [hlt]
/-- 'm[k]', 'v, ok := m[k]' -/
theorem run_lookup {t e : TypeId} (F : KeyFit P K enc) (ht : P.underlying t = some (.map K e)) (h : MapIs enc w b M) (k : κ) (z : Value) (hz : (zeroValue e).run P w = .ok z w) (c : Bool) :
    (Instr.lookup t (.map (some b)) (enc k) c).run P w = .ok (if c then .tuple #[(getM M k).getD z, .bool (getM M k).isSome] else (getM M k).getD z) w := by
  obtain ⟨es, clock, hb, hM, _, _, _⟩ := h
  have hf := F.find k es.toList M w hM
  have hg := run_getMap (P := P) hb
  rw [← findIdx_getM]
  cases hi : M.findIdx? fun p => decide (p.1 = k) with
  | none =>
    rw [hi] at hf
    cases c <;> simp [Instr.lookup, run_underlying ht, hg, F.check, hf, hz]
  | some i =>
    rw [hi] at hf
    cases c <;> simp [Instr.lookup, run_underlying ht, hg, F.check, hf]
omit [DecidableEq κ] in
theorem any_findIdx {p : κ × Value → Bool} : M.any p = (M.findIdx? p).isSome := by
  cases h : M.findIdx? p with
  | none =>
    rw [List.findIdx?_eq_none_iff] at h
    simpa using h
  | some i =>
    obtain ⟨h1, h2, _⟩ := List.findIdx?_eq_some_iff_getElem.1 h
    rw [List.any_eq_true.2 ⟨_, List.getElem_mem h1, h2⟩]
    rfl
theorem putM_at {k : κ} {v : Value} {i : Nat} (hnd : M.Pairwise (fun p q => p.1 ≠ q.1)) (h : M.findIdx? (fun p => decide (p.1 = k)) = some i) : putM M k v = M.set i (k, v) := by
  obtain ⟨h1, h2, h3⟩ := List.findIdx?_eq_some_iff_getElem.1 h
  unfold putM
  rw [if_pos (by rw [any_findIdx, h]; rfl)]
  apply List.ext_getElem
  · simp
  · intro j hj hj'
    simp only [List.length_map] at hj
    rw [List.getElem_map, List.getElem_set]
    by_cases hij : i = j
    · subst hij
      simp at h2
      simp [h2]
    · rw [if_neg hij, if_neg]
      intro e
      have h2' : M[i].1 = k := by simpa using h2
      rcases Nat.lt_or_gt_of_ne hij with hlt | hlt
      · exact List.pairwise_iff_getElem.1 hnd i j h1 hj hlt (by rw [h2', e])
      · exact List.pairwise_iff_getElem.1 hnd j i hj h1 hlt (by rw [h2', e])
theorem modify_born (es : Array MapEntry) (i : Nat) (key val : Value) : (es.modify i fun e => { e with key, val }).toList.map (·.born) = es.toList.map (·.born) := by
  apply List.ext_getElem
  · simp
  · intro j h1 h2
    simp only [List.getElem_map, Array.getElem_toList, Array.getElem_modify]
    split <;> rfl
theorem modify_map (es : Array MapEntry) (i : Nat) (key val : Value) : (es.modify i fun e => { e with key, val }).toList.map (fun e => (e.key, e.val)) = (es.toList.map (fun e => (e.key, e.val))).set i (key, val) := by
  apply List.ext_getElem
  · simp
  · intro j h1 h2
    simp only [List.getElem_map, Array.getElem_toList, Array.getElem_modify, List.getElem_set]
    split <;> rfl
/-- 'm[k] = v' -/
theorem run_put {t e : TypeId} (F : KeyFit P K enc) (ht : P.underlying t = some (.map K e)) (h : MapIs enc w b M) (k : κ) (v : Value) :
    ∃ w', (Instr.mapUpdate t (.map (some b)) (enc k) v).run P w = .ok () w' ∧ MapIs enc w' b (putM M k v) ∧ w.grownBy w' (some b) := by
  have hnd := h.nodup
  obtain ⟨es, clock, hb, hM, hbo, hcl, _⟩ := h
  have hf := F.find k es.toList M w hM
  have hg := run_getMap (P := P) hb
  have hlen : es.size = M.length := by
    have := congrArg List.length hM
    simpa using this
  cases hi : M.findIdx? fun p => decide (p.1 = k) with
  | none =>
    rw [hi] at hf
    refine ⟨_, by simp [Instr.mapUpdate, run_underlying ht, hg, F.check, hf, run_setMap hb]; rfl, ⟨_, _, heap_setMap hb, ?_, ?_, ?_, putM_nodup hnd k v⟩, grown_setMap hb⟩
    · unfold putM
      rw [if_neg (by rw [any_findIdx, hi]; simp)]
      simp [hM]
    · rw [Array.toList_push, List.pairwise_append]
      refine ⟨hbo, List.pairwise_singleton _ _, fun x hx y hy => ?_⟩
      simp only [List.mem_singleton] at hy
      subst hy
      exact hcl x hx
    · intro x hx
      rw [Array.toList_push, List.mem_append] at hx
      rcases hx with hx | hx
      · exact Nat.lt_succ_of_lt (hcl x hx)
      · simp only [List.mem_singleton] at hx; subst hx; exact Nat.lt_succ_self _
  | some i =>
    rw [hi] at hf
    obtain ⟨h1, h2, h3⟩ := List.findIdx?_eq_some_iff_getElem.1 hi
    have hie : i < es.size := by omega
    have hkey : es[i].key = enc k := by
      have h4 : (es.toList.map (fun e => (e.key, e.val)))[i]? = (M.map (fun p => (enc p.1, p.2)))[i]? := by rw [hM]
      simp [hie, h1] at h4
      rw [h4.1, show M[i].1 = k by simpa using h2]
    refine ⟨_, by simp [Instr.mapUpdate, run_underlying ht, hg, F.check, hf, hie, hkey, Instr.keyThatStays, F.bits, run_setMap hb]; rfl, ⟨_, _, heap_setMap hb, ?_, ?_, ?_, putM_nodup hnd k v⟩, grown_setMap hb⟩
    · rw [putM_at hnd hi, modify_map, hM, List.map_set]
    · rw [← List.pairwise_map (f := fun x : MapEntry => x.born), modify_born]
      exact List.pairwise_map.2 hbo
    · intro x hx
      have h5 : x.born ∈ (es.modify i fun e => { e with key := enc k, val := v }).toList.map (·.born) := List.mem_map.2 ⟨x, hx, rfl⟩
      rw [modify_born] at h5
      obtain ⟨y, hy, hyx⟩ := List.mem_map.1 h5
      rw [← hyx]
      exact hcl y hy
theorem delM_at {k : κ} {i : Nat} (hnd : M.Pairwise (fun p q => p.1 ≠ q.1)) (h : M.findIdx? (fun p => decide (p.1 = k)) = some i) : delM M k = M.eraseIdx i := by
  obtain ⟨h1, h2, h3⟩ := List.findIdx?_eq_some_iff_getElem.1 h
  have h2' : M[i].1 = k := by simpa using h2
  have e : M = M.take i ++ M[i] :: M.drop (i + 1) := by rw [← List.drop_eq_getElem_cons h1, List.take_append_drop]
  unfold delM
  rw [List.eraseIdx_eq_take_drop_succ]
  conv => lhs; rw [e]
  rw [List.filter_append, List.filter_cons_of_neg (by simp [h2']), List.filter_eq_self.2, List.filter_eq_self.2]
  · intro p hp
    rw [e] at hnd
    have h4 := (List.pairwise_cons.1 (List.pairwise_append.1 hnd).2.1).1 p hp
    simp only [Bool.not_eq_true', decide_eq_false_iff_not]
    exact fun e' => h4 (by rw [h2', e'])
  · intro p hp
    obtain ⟨j, hj, rfl⟩ := List.getElem_of_mem hp
    simp only [List.length_take] at hj
    rw [List.getElem_take]
    have := h3 j (by omega)
    simpa using this
theorem delM_none {k : κ} (h : M.findIdx? (fun p => decide (p.1 = k)) = none) : delM M k = M := by
  unfold delM
  refine List.filter_eq_self.2 fun p hp => ?_
  rw [List.findIdx?_eq_none_iff] at h
  simpa using h p hp
/-- 'delete(m, k)' -/
theorem run_del {t e : TypeId} (F : KeyFit P K enc) (ht : P.underlying t = some (.map K e)) (h : MapIs enc w b M) (k : κ) (ty kt : TypeId) :
    ∃ w', (Builtin.delete_ #[t, kt] ty #[.map (some b), enc k]).run P w = .ok (.tuple #[]) w' ∧ MapIs enc w' b (delM M k) ∧ w.grownBy w' (some b) := by
  have hnd := h.nodup
  obtain ⟨es, clock, hb, hM, hbo, hcl, _⟩ := h
  have hf := F.find k es.toList M w hM
  have hg := run_getMap (P := P) hb
  have hlen : es.size = M.length := by
    have := congrArg List.length hM
    simpa using this
  cases hi : M.findIdx? fun p => decide (p.1 = k) with
  | none =>
    rw [hi] at hf
    refine ⟨_, by simp [Builtin.delete_, run_underlying ht, hg, F.check, hf, run_setMap hb], ⟨_, _, heap_setMap hb, by rw [delM_none hi]; exact hM, hbo, hcl, by rw [delM_none hi]; exact hnd⟩, grown_setMap hb⟩
  | some i =>
    rw [hi] at hf
    obtain ⟨h1, h2, h3⟩ := List.findIdx?_eq_some_iff_getElem.1 hi
    have hie : i < es.size := by omega
    have htl : (es.eraseIdxIfInBounds i).toList = es.toList.eraseIdx i := by
      rw [Array.eraseIdxIfInBounds, dif_pos hie, Array.toList_eraseIdx]
    refine ⟨_, by simp [Builtin.delete_, run_underlying ht, hg, F.check, hf, run_setMap hb]; rfl, ⟨_, _, heap_setMap hb, ?_, ?_, ?_, ?_⟩, grown_setMap hb⟩
    · rw [delM_at hnd hi, htl, ChangeMaps.map_eraseIdx, ChangeMaps.map_eraseIdx, hM]
    · rw [htl]; exact hbo.sublist (List.eraseIdx_sublist _ _)
    · rw [htl]; exact fun x hx => hcl x (List.mem_of_mem_eraseIdx hx)
    · rw [delM_at hnd hi]; exact hnd.sublist (List.eraseIdx_sublist _ _)
omit [DecidableEq κ] in
/-- 'len(m)' -/
theorem run_lenM {t e : TypeId} (ht : P.underlying t = some (.map K e)) (h : MapIs enc w b M) (ty : TypeId) : (Builtin.len_ #[t] ty #[.map (some b)]).run P w = .ok (.int .i64 M.length) w := by
  obtain ⟨es, clock, hb, hM, _, _, _⟩ := h
  have hlen : es.size = M.length := by
    have := congrArg List.length hM
    simpa using this
  simp [Builtin.len_, run_underlying ht, run_getMap (P := P) hb, goInt, hlen]

variable {ops : Array Oper} {rest : List Oper} {o : Oper} {a : Act} {Q : Exit → Act → World → Prop}
theorem wpList_put (hgd : o.guard = none) (d : Option Nat) (m x y : Operand) (t : TypeId) (hop : o.op = Op.mapUpdate t m x y) (hd : o.dst = d) {e : TypeId} (F : KeyFit P K enc) (ht : P.underlying t = some (.map K e))
    (hm : a.eval m = .map (some b)) (h : MapIs enc w b M) (k : κ) (v : Value) (hx : a.eval x = enc k) (hy : a.eval y = v)
    (hK : ∀ w', MapIs enc w' b (putM M k v) → w.grownBy w' (some b) → wpList P ops Q rest (a.put d undef) w') : wpList P ops Q (o :: rest) a w := by
  subst hd
  obtain ⟨w', hrun, h1, h2⟩ := run_put F ht h k v
  refine wpList_plain hgd fun K' hK' => ?_
  unfold Oper.wp
  simp [execOp, hop, hm, hx, hy, hrun, Result.andThen]
  exact hK' _ _ (hK _ h1 h2)
theorem wpList_del (hgd : o.guard = none) (d : Option Nat) (m x : Operand) (t kt : TypeId) (hop : o.op = .call { callee := .builtin .delete, args := #[m, x], argTypes := #[t, kt] }) (hd : o.dst = d) {e : TypeId} (F : KeyFit P K enc) (ht : P.underlying t = some (.map K e))
    (hm : a.eval m = .map (some b)) (h : MapIs enc w b M) (k : κ) (hx : a.eval x = enc k)
    (hK : ∀ w', MapIs enc w' b (delM M k) → w.grownBy w' (some b) → wpList P ops Q rest (a.put d (.tuple #[])) w') : wpList P ops Q (o :: rest) a w := by
  subst hd
  obtain ⟨w', hrun, h1, h2⟩ := run_del F ht h k o.type kt
  refine wpList_plain hgd fun K' hK' => ?_
  unfold Oper.wp execOp
  simp only [hop, resolve, invoke, builtin, Sem.run_bind, Sem.run_pure, Result.andThen_ok, List.map_toArray, List.map_cons, List.map_nil, hm, hx, hrun]
  exact hK' _ _ (hK _ h1 h2)
end
end Go.Proofs.YtdkkblhfjblpkaaGreat
