/- Texts of this claim, laid together: RSame, SameL, Plain, Beg, Mixed. -/
import Derived.Test.YtogipnfhcimeoaaGreatRows
import Derived.Test.YtogipnfhcimeoaaGreatBc3
import Derived.WalkKit
import Derived.WalkSpells
import Derived.WalkLawsBesides
import Derived.Deep.QuietTactic
import Derived.BigQuiet
import Derived.Laws.StructEq
import Derived.Deep.DeepFit
import Derived.StillTailTactics
import Derived.Test.YtogipnfhcimeoaaGreatBc4

/- ref06.Same -/
namespace Go.Proofs.YtogipnfhcimeoaaGreat
open Go.RowKit
theorem neq_id (a b c d : Int) (w : World) : (binOp .neq 42 (.agg #[i64 a, i64 b]) (.agg #[i64 c, i64 d])).run Tryz.prog w = .ok (.bool (!decide (Id.mk a b = ⟨c, d⟩))) w := by
  have u3 := Tryz.underlying3
  have a3 := Tryz.isAgg3
  have z3 := Tryz.sizeOf3
  have hS : Tryz.prog.underlying 42 = some (.struct (Tryz.prog.fieldsOf 42)) := by kernel_rfl
  have hp : Tryz.prog.stoodInHeld 42 = false := by kernel_rfl
  rw [run_neq_struct, show (10000 : Nat) = 9999 + 1 from rfl, run_equalIn_agg w 9999 42 _ _ hS hp]
  simp only [Program.fieldsOf, Tryz.underlying42]
  go_simp
  by_cases h1 : a = c <;> by_cases h2 : b = d <;> simp [h1, h2]
theorem bneS_of_eq {s t : ByteArray} (h : s = t) : (s.toList != t.toList) = false := by rw [bne, beqS_of_eq h]; rfl
theorem bneS_of_ne {s t : ByteArray} (h : s ≠ t) : (s.toList != t.toList) = true := by rw [bne, beqS_of_ne h]; rfl

set_option maxRecDepth 100000 in
set_option maxHeartbeats 2000000 in
theorem rsame_c (x y : Od) (w : World) (hx : Okb w w.heap.size x) (hy : Okb w w.heap.size y) (hlx : x.legs.length ≤ 65536) (_hly : y.legs.length ≤ 65536) :
    Calls Tryz.prog 68 #[x.v, y.v] w fun e w' => e = .returned (.bool (sameB x y)) ∧ Below w.heap.size w w' := by
  obtain ⟨-, -, -, hgx⟩ := hx
  obtain ⟨-, -, -, hgy⟩ := hy
  have hb1 : Below w.heap.size w ((w.alloc (.cells #[i64 x.client, i64 x.seq, i64 x.kind, .string x.acct, .string x.peer, i64 x.sum, .slice x.la x.legs.length x.lc, i64 x.period, i64 x.hold, .string x.note] 45)).alloc (.cells #[i64 y.client, i64 y.seq, i64 y.kind, .string y.acct, .string y.peer, i64 y.sum, .slice y.la y.legs.length y.lc, i64 y.period, i64 y.hold, .string y.note] 45)) := ((Below.refl _ _).alloc (Nat.le_refl _) _).alloc (by simp) _
  have Hgx := Lib.hid (hgx.later hb1)
  have Hgy := Lib.hid (hgy.later hb1)
  clear hgx hgy
  unfold Od.v
  by_cases h0 : x.id = y.id
  · have q0 : ∀ W : World, (binOp .neq 42 (.agg #[i64 x.client, i64 x.seq]) (.agg #[i64 y.client, i64 y.seq])).run Tryz.prog W = .ok (.bool false) W := fun W => by rw [neq_id, decide_eq_true (show Id.mk x.client x.seq = ⟨y.client, y.seq⟩ from h0)]; rfl
    by_cases h1 : x.kind = y.kind
    · have q1 : (x.kind != y.kind) = false := by rw [h1]; simp
      by_cases h2 : x.acct = y.acct
      · have q2 := bneS_of_eq h2
        have p2 := beqS_of_eq h2
        by_cases h3 : x.peer = y.peer
        · have q3 := bneS_of_eq h3
          have p3 := beqS_of_eq h3
          by_cases h4 : x.sum = y.sum
          · have q4 : (x.sum != y.sum) = false := by rw [h4]; simp
            by_cases h5 : x.period = y.period
            · have q5 : (x.period != y.period) = false := by rw [h5]; simp
              by_cases h6 : x.hold = y.hold
              · have q6 : (x.hold != y.hold) = false := by rw [h6]; simp
                by_cases h7 : x.note = y.note
                · have q7 := bneS_of_eq h7
                  have p7 := beqS_of_eq h7
                  by_cases h8 : x.legs.length = y.legs.length
                  · have q8 : ((x.legs.length : Int) != (y.legs.length : Int)) = false := by rw [h8]; simp
                    have H : Hid (x.id = y.id ∧ x.kind = y.kind ∧ x.acct = y.acct ∧ x.peer = y.peer ∧ x.sum = y.sum ∧ x.period = y.period ∧ x.hold = y.hold ∧ x.note = y.note ∧ x.legs.length = y.legs.length) := Lib.hid ⟨h0, h1, h2, h3, h4, h5, h6, h7, h8⟩
                    clear h0 h1 h2 h3 h4 h5 h6 h7 h8
                    have hxs : sameB x y = decide (x.legs = y.legs) := by
                      obtain ⟨h0, h1, h2, h3, h4, h5, h6, h7, _⟩ := H.out
                      by_cases hl : x.legs = y.legs
                      · rw [decide_eq_true hl]; exact decide_eq_true ⟨h2, h3, h7, h0, h1, h4, h5, h6, hl⟩
                      · rw [decide_eq_false hl]; exact decide_eq_false fun k => hl k.legs
                    have Hxs := Lib.hid hxs
                    clear hxs
                    go_enter Tryz.func68, Tryz.ntmps68
                    go_wp2
                    have hcx : World.cell? ((w.alloc (.cells #[i64 x.client, i64 x.seq, i64 x.kind, .string x.acct, .string x.peer, i64 x.sum, .slice x.la x.legs.length x.lc, i64 x.period, i64 x.hold, .string x.note] 45)).alloc (.cells #[i64 y.client, i64 y.seq, i64 y.kind, .string y.acct, .string y.peer, i64 y.sum, .slice y.la y.legs.length y.lc, i64 y.period, i64 y.hold, .string y.note] 45)) ⟨w.heap.size, 6, none⟩ = some (.slice x.la x.legs.length x.lc) := cell_of_row _ w.heap.size 6 _ _ (0, 0) (heap_alloc2_old w _ _)
                    have hcy : World.cell? ((w.alloc (.cells #[i64 x.client, i64 x.seq, i64 x.kind, .string x.acct, .string x.peer, i64 x.sum, .slice x.la x.legs.length x.lc, i64 x.period, i64 x.hold, .string x.note] 45)).alloc (.cells #[i64 y.client, i64 y.seq, i64 y.kind, .string y.acct, .string y.peer, i64 y.sum, .slice y.la y.legs.length y.lc, i64 y.period, i64 y.hold, .string y.note] 45)) ⟨w.heap.size + 1, 6, none⟩ = some (.slice y.la y.legs.length y.lc) := cell_of_row _ (w.heap.size + 1) 6 _ _ (0, 0) (heap_alloc2_new w _ _)
                    generalize (w.alloc (.cells #[i64 x.client, i64 x.seq, i64 x.kind, .string x.acct, .string x.peer, i64 x.sum, .slice x.la x.legs.length x.lc, i64 x.period, i64 x.hold, .string x.note] 45)).alloc (.cells #[i64 y.client, i64 y.seq, i64 y.kind, .string y.acct, .string y.peer, i64 y.sum, .slice y.la y.legs.length y.lc, i64 y.period, i64 y.hold, .string y.note] 45) = W1 at *
                    go_loopw [5] (fun i wr => ∃ (j m : Nat), i = i64 j ∧ j ≤ x.legs.length ∧ x.legs.take j = y.legs.take j ∧ wr = W1.drewN m) (fun i _ => x.legs.length - (intOf i).toNat)
                    case atStart => exact ⟨0, 0, rfl, by omega, rfl, rfl⟩
                    case round =>
                      obtain ⟨j, m, rfl, hj, ht, rfl⟩ := hrel
                      have HT := Lib.hid ht
                      clear ht
                      by_cases hlt : j < x.legs.length
                      · have hltm : j < y.legs.length := by have := H.out.2.2.2.2.2.2.2.2; omega
                        obtain ⟨b, o, hA, hb, -, c0, c1⟩ := Hgx.out.leg hlt
                        obtain ⟨b', o', hA', hb', -, c0', c1'⟩ := Hgy.out.leg hltm
                        have he : ∀ W : World, (binOp .neq 146 (.agg #[.string x.legs[j].acct, i64 x.legs[j].sum]) (.agg #[.string y.legs[j].acct, i64 y.legs[j].sum])).run Tryz.prog W = .ok (.bool (!decide (x.legs[j] = y.legs[j]))) W := neq_leg _ _ _ _
                        rw [hA] at hcx
                        rw [hA'] at hcy
                        by_cases heq : x.legs[j] = y.legs[j]
                        · simp only [decide_eq_true heq, Bool.not_true] at he
                          have Heq := Lib.hid heq
                          clear heq
                          go_wp2
                          go_quiet (fail)
                          go_wp2
                          go_roundw
                          case rel => exact ⟨j + 1, m + _, by go_num, by omega, by rw [List.take_succ_eq_append_getElem hlt, List.take_succ_eq_append_getElem hltm, HT.out, Heq.out], rfl⟩
                          case measure => simp [intOf]; omega
                        · simp only [decide_eq_false heq, Bool.not_false] at he
                          have Heq := Lib.hid heq
                          clear heq
                          go_wp2
                          go_quiet (fail)
                          go_wp2
                          go_ret
                          refine ⟨?_, below_drewN (below_drewN hb1 _) _⟩
                          rw [Hxs.out, decide_eq_false (show ¬ x.legs = y.legs from fun e => Heq.out (by simp only [e]))]
                          rfl
                      · obtain rfl : j = x.legs.length := by omega
                        go_wp2
                        go_ret
                        refine ⟨?_, below_drewN hb1 _⟩
                        rw [Hxs.out, decide_eq_true (show x.legs = y.legs by
                          have := HT.out
                          rwa [List.take_length, List.take_of_length_le (by have := H.out.2.2.2.2.2.2.2.2; omega)] at this)]
                        rfl
                  · have q8 : ((x.legs.length : Int) != (y.legs.length : Int)) = true := by rw [bne_iff_ne]; omega
                    have Hs : Hid (sameB x y = false) := Lib.hid (decide_eq_false fun k => h8 (by rw [k.legs]))
                    clear h0 h1 h2 h3 h4 h5 h6 h7 h8
                    go_enter Tryz.func68, Tryz.ntmps68
                    go_wp2
                    go_ret
                    exact ⟨by rw [Hs.out]; rfl, hb1⟩
                · have q7 := bneS_of_ne h7
                  have p7 := beqS_of_ne h7
                  have Hs : Hid (sameB x y = false) := Lib.hid (decide_eq_false fun k => h7 k.note)
                  clear h0 h1 h2 h3 h4 h5 h6 h7
                  go_enter Tryz.func68, Tryz.ntmps68
                  go_wp2
                  go_ret
                  exact ⟨by rw [Hs.out]; rfl, hb1⟩
              · have q6 : (x.hold != y.hold) = true := bne_iff_ne.2 h6
                have Hs : Hid (sameB x y = false) := Lib.hid (decide_eq_false fun k => h6 k.hold)
                clear h0 h1 h2 h3 h4 h5 h6
                go_enter Tryz.func68, Tryz.ntmps68
                go_wp2
                go_ret
                exact ⟨by rw [Hs.out]; rfl, hb1⟩
            · have q5 : (x.period != y.period) = true := bne_iff_ne.2 h5
              have Hs : Hid (sameB x y = false) := Lib.hid (decide_eq_false fun k => h5 k.period)
              clear h0 h1 h2 h3 h4 h5
              go_enter Tryz.func68, Tryz.ntmps68
              go_wp2
              go_ret
              exact ⟨by rw [Hs.out]; rfl, hb1⟩
          · have q4 : (x.sum != y.sum) = true := bne_iff_ne.2 h4
            have Hs : Hid (sameB x y = false) := Lib.hid (decide_eq_false fun k => h4 k.sum)
            clear h0 h1 h2 h3 h4
            go_enter Tryz.func68, Tryz.ntmps68
            go_wp2
            go_ret
            exact ⟨by rw [Hs.out]; rfl, hb1⟩
        · have q3 := bneS_of_ne h3
          have p3 := beqS_of_ne h3
          have Hs : Hid (sameB x y = false) := Lib.hid (decide_eq_false fun k => h3 k.peer)
          clear h0 h1 h2 h3
          go_enter Tryz.func68, Tryz.ntmps68
          go_wp2
          go_ret
          exact ⟨by rw [Hs.out]; rfl, hb1⟩
      · have q2 := bneS_of_ne h2
        have p2 := beqS_of_ne h2
        have Hs : Hid (sameB x y = false) := Lib.hid (decide_eq_false fun k => h2 k.acct)
        clear h0 h1 h2
        go_enter Tryz.func68, Tryz.ntmps68
        go_wp2
        go_ret
        exact ⟨by rw [Hs.out]; rfl, hb1⟩
    · have q1 : (x.kind != y.kind) = true := bne_iff_ne.2 h1
      have Hs : Hid (sameB x y = false) := Lib.hid (decide_eq_false fun k => h1 k.kind)
      clear h0 h1
      go_enter Tryz.func68, Tryz.ntmps68
      go_wp2
      go_ret
      exact ⟨by rw [Hs.out]; rfl, hb1⟩
  · have q0 : ∀ W : World, (binOp .neq 42 (.agg #[i64 x.client, i64 x.seq]) (.agg #[i64 y.client, i64 y.seq])).run Tryz.prog W = .ok (.bool true) W := fun W => by rw [neq_id, decide_eq_false (show ¬ Id.mk x.client x.seq = ⟨y.client, y.seq⟩ from h0)]; rfl
    have Hs : Hid (sameB x y = false) := Lib.hid (decide_eq_false fun k => h0 k.id)
    clear h0
    go_enter Tryz.func68, Tryz.ntmps68
    go_wp2
    go_ret
    exact ⟨by rw [Hs.out]; rfl, hb1⟩
end Go.Proofs.YtogipnfhcimeoaaGreat

/- ref10.Same -/
namespace Go.Proofs.YtogipnfhcimeoaaGreat
open Go.RowKit
/-- ref10.Same -/
def sameL (a b : List Od) : Bool := decide (a.length = b.length) && (a.zip b).all fun p => sameB p.1 p.2

set_option maxRecDepth 100000 in
set_option maxHeartbeats 1000000 in
theorem sameL_c (A C : Option Addr) (c d : Nat) (a b : List Od) (w : World) (ha : Sl w w.heap.size A c a) (hb : Sl w w.heap.size C d b) (hna : a.length ≤ 65536) (_hnb : b.length ≤ 65536) (hla : ∀ x ∈ a, x.legs.length ≤ 65536) (hlb : ∀ x ∈ b, x.legs.length ≤ 65536) :
    Calls Tryz.prog 23 #[.slice A a.length c, .slice C b.length d] w fun e w' => e = .returned (.bool (sameL a b)) ∧ Below w.heap.size w w' := by
  by_cases hl : a.length = b.length
  · have q : ((a.length : Int) != (b.length : Int)) = false := by rw [hl]; simp
    have HL := Lib.hid hl
    have Hla := Lib.hid hla
    have Hlb := Lib.hid hlb
    clear hl hla hlb
    go_enter Tryz.func23, Tryz.ntmps23
    go_wp2
    go_loopw [5] (fun i wr => ∃ k : Nat, i = i64 k ∧ k ≤ a.length ∧ (∀ j (hj : j < a.length) (hj' : j < b.length), j < k → sameB a[j] b[j] = true) ∧ Below w.heap.size w wr) (fun i _ => a.length - (intOf i).toNat)
    case atStart => exact ⟨0, rfl, by omega, by omega, Below.refl _ _⟩
    case round =>
      obtain ⟨k, rfl, hk, hall, hbr⟩ := hrel
      have Hall := Lib.hid hall
      clear hall
      by_cases hlt : k < a.length
      · have hltb : k < b.length := by have := HL.out; omega
        obtain ⟨b0, o0, rfl, hbb, hok, c0, c1, c2, c3, c4, c5, c6, c7, c8, c9⟩ := (ha.later hbr).od hlt
        obtain ⟨b2, o2, rfl, hbb2, hok2, d0, d1, d2, d3, d4, d5, d6, d7, d8, d9⟩ := (hb.later hbr).od hltb
        have Hok := Lib.hid hok
        have Hok2 := Lib.hid hok2
        clear hok hok2
        have hbd := (Below.refl wr.heap.size wr).drew
        go_wp2
        refine wp_region_still_tail 8 (by kernel_rfl) (by kernel_rfl) ?_
        simp only [List.take_succ_cons, List.take_zero, List.drop_succ_cons, List.drop_zero]
        change wpStill _ _ (World.drew _) (fun a' => wpList _ _ _ _ a' (World.drew _)) _ _
        repeat still_step
        refine wpStill_nil ?_
        go_wp2_with fail
        refine (rsame_c a[k] b[k] _ (Okb.later Hok.out hbd) (Okb.later Hok2.out hbd) (Hla.out _ (List.getElem_mem _)) (Hlb.out _ (List.getElem_mem _))).mono ?_
        rintro e w5 ⟨rfl, hb5⟩
        have hb6 := hbr.trans ((hbd.trans hb5).mono hbr.size)
        clear hbd hb5
        by_cases hs : sameB a[k] b[k] = true
        · rw [hs]
          have Hs := Lib.hid hs
          clear hs
          go_wp2
          go_roundw
          case rel => exact ⟨k + 1, by go_num, by omega, fun j hj hj' h => by
              rcases Nat.lt_succ_iff_lt_or_eq.1 h with h | rfl
              · exact Hall.out j hj hj' h
              · exact Hs.out, hb6⟩
          case measure => simp [intOf]; omega
        · have hs' : sameB a[k] b[k] = false := by simpa using hs
          rw [hs']
          have Hs := Lib.hid hs'
          clear hs hs'
          go_wp2
          go_ret
          refine ⟨?_, hb6⟩
          have : sameL a b = false := by
            unfold sameL
            rw [Bool.and_eq_false_iff]
            right
            rw [List.all_eq_false]
            refine ⟨(a[k], b[k]), ?_, by simpa using Hs.out⟩
            rw [List.mem_iff_getElem]
            exact ⟨k, by simp; omega, by simp⟩
          rw [this]
          rfl
      · obtain rfl : k = a.length := by omega
        go_wp2
        go_ret
        refine ⟨?_, hbr⟩
        have : sameL a b = true := by
          unfold sameL
          rw [decide_eq_true HL.out, Bool.true_and, List.all_eq_true]
          intro p hp
          obtain ⟨j, hj, rfl⟩ := List.getElem_of_mem hp
          simp only [List.length_zip] at hj
          rw [List.getElem_zip]
          exact Hall.out j (by omega) (by omega) (by omega)
        rw [this]
        rfl
  · have q : ((a.length : Int) != (b.length : Int)) = true := by rw [bne_iff_ne]; omega
    have Hs : Hid (sameL a b = false) := Lib.hid (by unfold sameL; rw [decide_eq_false hl]; rfl)
    clear hl
    go_enter Tryz.func23, Tryz.ntmps23
    go_wp2
    go_ret
    exact ⟨by rw [Hs.out]; rfl, Below.refl _ _⟩
end Go.Proofs.YtogipnfhcimeoaaGreat

/- The plain law of beginnings, lists that are alike, and meeting lists -/
namespace Go.Proofs.YtogipnfhcimeoaaGreat
open Go.RowKit
section
variable {α : Type}
/-- x stands ahead of y -/
def Bef (l : List α) (x y : α) : Prop := List.Sublist [x, y] l
theorem Bef.left {l : List α} {x y : α} (h : Bef l x y) : x ∈ l := h.subset (by simp)
theorem Bef.right {l : List α} {x y : α} (h : Bef l x y) : y ∈ l := h.subset (by simp)
theorem bef_append {a b : List α} {x y : α} : Bef (a ++ b) x y ↔ Bef a x y ∨ (x ∈ a ∧ y ∈ b) ∨ Bef b x y := by
  unfold Bef
  rw [List.sublist_append_iff]
  constructor
  · rintro ⟨l1, l2, h, h1, h2⟩
    cases l1 with
    | nil => simp only [List.nil_append] at h; subst h; exact .inr (.inr h2)
    | cons u l1 =>
      cases l1 with
      | nil =>
        simp only [List.cons_append, List.nil_append, List.cons.injEq] at h
        obtain ⟨rfl, rfl⟩ := h
        exact .inr (.inl ⟨List.singleton_sublist.1 h1, List.singleton_sublist.1 h2⟩)
      | cons t l1 =>
        simp only [List.cons_append, List.cons.injEq] at h
        obtain ⟨rfl, rfl, h⟩ := h
        have h3 := List.append_eq_nil_iff.1 h.symm
        rw [h3.1] at h1
        exact .inl h1
  · rintro (h | ⟨h1, h2⟩ | h)
    · exact ⟨[x, y], [], rfl, h, List.nil_sublist _⟩
    · exact ⟨[x], [y], rfl, List.singleton_sublist.2 h1, List.singleton_sublist.2 h2⟩
    · exact ⟨[], [x, y], rfl, List.nil_sublist _, h⟩
theorem bef_filter {f : α → Bool} {l : List α} {x y : α} : Bef (l.filter f) x y ↔ Bef l x y ∧ f x = true ∧ f y = true := by
  constructor
  · intro h
    exact ⟨List.Sublist.trans h List.filter_sublist, (List.mem_filter.1 h.left).2, (List.mem_filter.1 h.right).2⟩
  · rintro ⟨h, h1, h2⟩
    have := List.Sublist.filter f h
    rw [List.filter_cons_of_pos h1, List.filter_cons_of_pos h2, List.filter_nil] at this
    exact this
theorem bef_cons {z x y : α} {t : List α} : Bef (z :: t) x y ↔ (x = z ∧ y ∈ t) ∨ Bef t x y := by
  rw [show z :: t = [z] ++ t from rfl, bef_append]
  constructor
  · rintro (h | ⟨h1, h2⟩ | h)
    · exact absurd h.length_le (by simp)
    · exact .inl ⟨by simpa using h1, h2⟩
    · exact .inr h
  · rintro (⟨rfl, h⟩ | h)
    · exact .inr (.inl ⟨by simp, h⟩)
    · exact .inr (.inr h)
theorem bef_nil {x y : α} : ¬ Bef ([] : List α) x y := fun h => absurd h.length_le (by simp)
theorem bef_total {l : List α} {x y : α} (hx : x ∈ l) (hy : y ∈ l) (hne : x ≠ y) : Bef l x y ∨ Bef l y x := by
  induction l with
  | nil => cases hx
  | cons z t ih =>
    rw [bef_cons, bef_cons]
    rcases List.mem_cons.1 hx with rfl | hx1 <;> rcases List.mem_cons.1 hy with rfl | hy1
    · exact absurd rfl hne
    · exact .inl (.inl ⟨rfl, hy1⟩)
    · exact .inr (.inl ⟨rfl, hx1⟩)
    · rcases ih hx1 hy1 with h | h
      · exact .inl (.inr h)
      · exact .inr (.inr h)
theorem bef_irrefl {l : List α} (hn : l.Nodup) {x : α} (h : Bef l x x) : False := by
  have := List.Pairwise.sublist h hn
  simp at this
theorem bef_asymm {l : List α} (hn : l.Nodup) {x y : α} (h : Bef l x y) (h' : Bef l y x) : False := by
  induction l with
  | nil => exact bef_nil h
  | cons z t ih =>
    rw [bef_cons] at h h'
    have hz := (List.nodup_cons.1 hn)
    rcases h with ⟨rfl, h⟩ | h <;> rcases h' with ⟨rfl, h'⟩ | h'
    · exact hz.1 h
    · exact hz.1 h'.right
    · exact hz.1 h.right
    · exact ih hz.2 h h'
theorem bef_get {l : List α} {x y : α} : Bef l x y ↔ ∃ n m : Nat, n < m ∧ l[n]? = some x ∧ l[m]? = some y := by
  have key := (List.pairwise_iff_forall_sublist (R := fun a b => ¬(a = x ∧ b = y)) (l := l)).symm.trans List.pairwise_iff_getElem
  constructor
  · intro h
    refine Classical.byContradiction fun hn => ?_
    exact key.2 (fun i j hi hj hij e => hn ⟨i, j, hij, by rw [List.getElem?_eq_getElem hi, e.1], by rw [List.getElem?_eq_getElem hj, e.2]⟩) h ⟨rfl, rfl⟩
  · rintro ⟨n, m, hnm, h1, h2⟩
    refine Classical.byContradiction fun hn => ?_
    obtain ⟨hi, e1⟩ := List.getElem?_eq_some_iff.1 h1
    obtain ⟨hj, e2⟩ := List.getElem?_eq_some_iff.1 h2
    exact key.1 (fun {a b} hs e => hn (by rw [← e.1, ← e.2]; exact hs)) n m hi hj hnm ⟨e1, e2⟩
theorem get_inj {l : List α} (hn : l.Nodup) {x : α} {n m : Nat} (h1 : l[n]? = some x) (h2 : l[m]? = some x) : n = m := by
  rcases Nat.lt_trichotomy n m with h | h | h
  · exact (bef_irrefl hn (bef_get.2 ⟨n, m, h, h1, h2⟩)).elim
  · exact h
  · exact (bef_irrefl hn (bef_get.2 ⟨m, n, h, h2, h1⟩)).elim
theorem length_sub {a : List α} (hn : a.Nodup) : ∀ {b : List α}, (∀ x ∈ a, x ∈ b) → a.length ≤ b.length := by
  induction a with
  | nil => intro b _; simp
  | cons x t ih =>
    intro b h
    obtain ⟨s, u, rfl⟩ := List.append_of_mem (h x (by simp))
    have hz := List.nodup_cons.1 hn
    have := ih hz.2 (b := s ++ u) fun y hy => by
      have h1 := h y (by simp [hy])
      simp only [List.mem_append, List.mem_cons] at h1 ⊢
      rcases h1 with h1 | rfl | h1
      · exact .inl h1
      · exact absurd hy hz.1
      · exact .inr h1
    simp only [List.length_append, List.length_cons] at this ⊢
    omega
theorem sub_of_length {a b : List α} (hn : a.Nodup) (h : ∀ x ∈ a, x ∈ b) (hl : b.length ≤ a.length) : ∀ x ∈ b, x ∈ a := by
  intro x hx
  refine Classical.byContradiction fun hxa => ?_
  obtain ⟨s, u, rfl⟩ := List.append_of_mem hx
  have := length_sub hn (b := s ++ u) fun y hy => by
    have h1 := h y hy
    simp only [List.mem_append, List.mem_cons] at h1 ⊢
    rcases h1 with h1 | rfl | h1
    · exact .inl h1
    · exact absurd hy hxa
    · exact .inr h1
  simp only [List.length_append, List.length_cons] at this hl
  omega
theorem filter_length (f : α → Bool) (l : List α) : (l.filter f).length + (l.filter fun x => !f x).length = l.length := by
  induction l with
  | nil => rfl
  | cons x t ih =>
    by_cases h : f x = true
    · rw [List.filter_cons_of_pos h, List.filter_cons_of_neg (by simp [h])]; simp only [List.length_cons]; omega
    · rw [List.filter_cons_of_neg h, List.filter_cons_of_pos (by simpa using h)]; simp only [List.length_cons]; omega
end

/-- no Id is there twice -/
def Val (l : List Od) : Prop := l.Pairwise fun x y => x.id ≠ y.id
theorem Val.nodup {l : List Od} (h : Val l) : l.Nodup := List.Pairwise.imp (fun h e => h (by rw [e])) h
theorem Val.inj {l : List Od} (h : Val l) {x y : Od} (hx : x ∈ l) (hy : y ∈ l) (e : x.id = y.id) : x = y := by
  refine Classical.byContradiction fun hne => ?_
  have h2 : ∀ {a b : Od}, List.Sublist [a, b] l → a.id ≠ b.id := List.pairwise_iff_forall_sublist.1 h
  rcases bef_total hx hy hne with hb | hb
  · exact h2 hb e
  · exact h2 hb e.symm
theorem Val.sub {l m : List Od} (h : Val l) (hs : List.Sublist m l) : Val m := List.Pairwise.sublist hs h
theorem val_append {a b : List Od} : Val (a ++ b) ↔ Val a ∧ Val b ∧ ∀ x ∈ a, ∀ y ∈ b, x.id ≠ y.id := List.pairwise_append
theorem val_snoc {l : List Od} {x : Od} : Val (l ++ [x]) ↔ Val l ∧ ∀ y ∈ l, y.id ≠ x.id := by
  rw [val_append]
  constructor
  · rintro ⟨h1, _, h2⟩
    exact ⟨h1, fun y hy => h2 y hy x (by simp)⟩
  · rintro ⟨h1, h2⟩
    exact ⟨h1, List.pairwise_singleton _ _, fun y hy z hz => by rw [List.mem_singleton.1 hz]; exact h2 y hy⟩
theorem val_nil : Val [] := List.Pairwise.nil

theorem posN_snoc (l : List Od) (x : Od) (i : Id) : posN (l ++ [x]) i = if x.id = i then some l.length else posN l i := by
  unfold posN
  rw [placesN_snoc, getM_put]
theorem posN_isSome (i : Id) (l : List Od) : (posN l i).isSome = true ↔ ∃ x ∈ l, x.id = i := by
  refine snoc_ind (Q := fun l => (posN l i).isSome = true ↔ ∃ x ∈ l, x.id = i) ?_ ?_ l
  · constructor
    · intro h; cases h
    · rintro ⟨x, hx, _⟩; cases hx
  · intro l x ih
    rw [posN_snoc]
    by_cases h : x.id = i
    · rw [if_pos h]
      exact ⟨fun _ => ⟨x, by simp, h⟩, fun _ => rfl⟩
    · rw [if_neg h, ih]
      constructor
      · rintro ⟨y, hy, e⟩; exact ⟨y, by simp [hy], e⟩
      · rintro ⟨y, hy, e⟩
        rcases List.mem_append.1 hy with hy | hy
        · exact ⟨y, hy, e⟩
        · rw [List.mem_singleton.1 hy] at e; exact absurd e h
theorem posN_get {i : Id} {l : List Od} : ∀ {k : Nat}, posN l i = some k → ∃ x, l[k]? = some x ∧ x.id = i := by
  refine snoc_ind (Q := fun l => ∀ {k : Nat}, posN l i = some k → ∃ x, l[k]? = some x ∧ x.id = i) ?_ ?_ l
  · intro k h; cases h
  · intro l x ih k h
    rw [posN_snoc] at h
    by_cases hx : x.id = i
    · rw [if_pos hx] at h
      injection h with h
      subst h
      exact ⟨x, by simp, hx⟩
    · rw [if_neg hx] at h
      obtain ⟨y, hy, e⟩ := ih h
      have hk := (List.getElem?_eq_some_iff.1 hy).1
      exact ⟨y, by rw [List.getElem?_append_left hk]; exact hy, e⟩
theorem posN_mem {l : List Od} (hv : Val l) {x : Od} (hx : x ∈ l) : ∃ k, posN l x.id = some k ∧ l[k]? = some x := by
  obtain ⟨k, hk⟩ := Option.isSome_iff_exists.1 ((posN_isSome x.id l).2 ⟨x, hx, rfl⟩)
  obtain ⟨y, hy, e⟩ := posN_get hk
  rw [hv.inj (List.mem_of_getElem? hy) hx e] at hy
  exact ⟨k, hk, hy⟩
theorem placesN_len (l : List Od) : (placesN l).length ≤ l.length ∧ ((placesN l).length = l.length ↔ Val l) := by
  refine snoc_ind (Q := fun l => (placesN l).length ≤ l.length ∧ ((placesN l).length = l.length ↔ Val l)) ⟨Nat.le_refl _, fun _ => val_nil, fun _ => rfl⟩ ?_ l
  intro l x ih
  rw [placesN_snoc, length_putM, val_snoc, List.length_append, List.length_singleton, ← ih.2]
  by_cases h : (posN l x.id).isSome = true
  · rw [if_pos h]
    obtain ⟨y, hy, e⟩ := (posN_isSome x.id l).1 h
    exact ⟨by omega, fun hl => by omega, fun hl => absurd e (hl.2 y hy)⟩
  · rw [if_neg h]
    refine ⟨by omega, fun hl => ⟨by omega, fun y hy e => h ((posN_isSome x.id l).2 ⟨y, hy, e⟩)⟩, fun hl => by omega⟩
theorem validL_iff {l : List Od} : validL l = true ↔ Val l := by
  unfold validL
  rw [decide_eq_true_eq]
  exact (placesN_len l).2

abbrev K (l : List Od) : List Od := l.map Od.core
theorem placesN_core (l : List Od) : placesN (K l) = placesN l := by
  refine snoc_ind (Q := fun l => placesN (K l) = placesN l) rfl ?_ l
  intro l x ih
  rw [K, List.map_append, List.map_singleton, placesN_snoc, placesN_snoc, ih, List.length_map]
  rfl
theorem posN_core (l : List Od) (i : Id) : posN (K l) i = posN l i := by unfold posN; rw [placesN_core]
theorem validL_core (l : List Od) : validL (K l) = validL l := by unfold validL; rw [placesN_core, List.length_map]
theorem beginsAt_core (a b : List Od) (i : Nat) (o : Od) : beginsAt (K a) (K b) i o.core = beginsAt a b i o := by
  unfold beginsAt
  rw [posN_core, show o.core.id = o.id from rfl]
  cases posN b o.id with
  | none => rfl
  | some k =>
    simp only [List.getElem?_map, ← List.map_take, List.all_map]
    congr 1
    · cases b[k]? with
      | none => rfl
      | some x => exact sameB_cc
    · congr 1
      funext p
      simp only [Function.comp, posN_core]
      rfl
theorem beginsB_core (a b : List Od) : beginsB (K a) (K b) = beginsB a b := by
  unfold beginsB
  rw [validL_core, validL_core, List.zipIdx_map, List.all_map]
  congr 1
  congr 1
  funext p
  exact beginsAt_core a b p.2 p.1
theorem othersL_core (a b : List Od) : othersL (K a) (K b) = K (othersL a b) := by
  unfold othersL
  rw [List.filter_map]
  congr 1
  congr 1
  funext x
  simp only [Function.comp, posN_core]
  rfl
theorem meetL_core (a b : List Od) : meetL (K a) (K b) = K (meetL a b) := by
  unfold meetL
  rw [othersL_core]
  exact List.map_append.symm
theorem meetOk_core (a b : List Od) : meetOk (K a) (K b) = meetOk a b := by
  unfold meetOk
  rw [meetL_core, beginsB_core, beginsB_core]
theorem alikeB_core (a b : List Od) : alikeB (K a) (K b) = alikeB a b := by
  unfold alikeB
  rw [beginsB_core, List.length_map, List.length_map]
theorem sameL_core {a b : List Od} : sameL a b = true ↔ K a = K b := by
  unfold sameL
  rw [Bool.and_eq_true, decide_eq_true_eq, List.all_eq_true]
  constructor
  · rintro ⟨hl, h⟩
    refine List.ext_getElem (by simp [hl]) fun i h1 h2 => ?_
    simp only [List.length_map] at h1 h2
    rw [List.getElem_map, List.getElem_map]
    exact sameB_core.1 (h (a[i], b[i]) (List.mem_iff_getElem.2 ⟨i, by simp; omega, by simp⟩))
  · intro h
    have hl : a.length = b.length := by simpa using congrArg List.length h
    refine ⟨hl, fun p hp => ?_⟩
    obtain ⟨i, hi, rfl⟩ := List.getElem_of_mem hp
    simp only [List.length_zip] at hi
    rw [List.getElem_zip]
    refine sameB_core.2 ?_
    have h1 : (K a)[i]'(by simp; omega) = (K b)[i]'(by simp; omega) := by simp only [h]
    simpa using h1

theorem any_any_comm (l m : List ByteArray) : (l.any fun s => m.any fun t => decide (s = t)) = (m.any fun s => l.any fun t => decide (s = t)) := by
  rw [Bool.eq_iff_iff]
  simp only [List.any_eq_true, decide_eq_true_eq]
  constructor
  · rintro ⟨s, hs, t, ht, e⟩; exact ⟨t, ht, s, hs, e.symm⟩
  · rintro ⟨s, hs, t, ht, e⟩; exact ⟨t, ht, s, hs, e.symm⟩
theorem clashB_comm (x y : Od) : clashB x y = clashB y x := by
  unfold clashB
  rw [any_any_comm (touches x) (touches y), show decide (x.id = y.id) = decide (y.id = x.id) from by simp [eq_comm], Bool.or_comm (decide (x.kind = 6)), Bool.and_comm (decide (x.kind = 1))]
theorem clashB_refl (x : Od) : clashB x x = true := by
  unfold clashB
  rw [decide_eq_true rfl]
  rfl

/-- a begins b: of lists whose legs have no place -/
def Beg (a b : List Od) : Prop := Val a ∧ Val b ∧ (∀ o ∈ a, o ∈ b) ∧ ∀ p o, o ∈ a → Bef b p o → clashB p o = true → Bef a p o
def Bare (l : List Od) : Prop := ∀ x ∈ l, x.core = x
theorem bare_K (l : List Od) : Bare (K l) := fun x hx => by
  obtain ⟨y, _, rfl⟩ := List.mem_map.1 hx
  rfl
theorem Bare.eq {l m : List Od} (h : Bare l) (k : Bare m) {x y : Od} (hx : x ∈ l) (hy : y ∈ m) (hs : sameB x y = true) : x = y := by
  rw [← h x hx, ← k y hy]
  exact sameB_core.1 hs
theorem beginsAt_iff {a b : List Od} {i : Nat} {o : Od} : beginsAt a b i o = true ↔ ∃ k x, posN b o.id = some k ∧ b[k]? = some x ∧ sameB o x = true ∧ ∀ p ∈ b.take k, clashB p o = true → ∃ n, posN a p.id = some n ∧ n ≤ i := by
  unfold beginsAt
  cases hk : posN b o.id with
  | none => simp
  | some k =>
    simp only
    cases hx : b[k]? with
    | none =>
      simp only [Bool.false_and, Bool.false_eq_true, false_iff]
      rintro ⟨k', x, h1, h2, _⟩
      injection h1 with h1
      subst h1
      rw [hx] at h2
      cases h2
    | some x =>
      simp only [Bool.and_eq_true, List.all_eq_true, Bool.not_eq_true']
      have h0 : ∀ p : Od, (clashB p o && (match posN a p.id with | none => true | some n => decide (i < n))) = false ↔ (clashB p o = true → ∃ n, posN a p.id = some n ∧ n ≤ i) := by
        intro p
        cases hp : posN a p.id with
        | none => cases clashB p o <;> simp
        | some n => cases clashB p o <;> simp
      constructor
      · rintro ⟨hs, h⟩
        exact ⟨k, x, rfl, hx, hs, fun p hp => (h0 p).1 (h p hp)⟩
      · rintro ⟨k', x', h1, h2, hs, h⟩
        injection h1 with h1
        subst h1
        rw [hx] at h2
        injection h2 with h2
        subst h2
        exact ⟨hs, fun p hp => (h0 p).2 (h p hp)⟩
theorem mem_take_get {α : Type} {l : List α} {k : Nat} {p : α} : p ∈ l.take k ↔ ∃ n, n < k ∧ l[n]? = some p := by
  rw [List.mem_take_iff_getElem]
  constructor
  · rintro ⟨i, hi, e⟩
    exact ⟨i, by omega, by rw [List.getElem?_eq_getElem (by omega), e]⟩
  · rintro ⟨n, hn, e⟩
    obtain ⟨h1, h2⟩ := List.getElem?_eq_some_iff.1 e
    exact ⟨n, by omega, h2⟩
theorem beginsB_iff {a b : List Od} (ha : Bare a) (hb : Bare b) : beginsB a b = true ↔ Beg a b := by
  unfold beginsB
  rw [Bool.and_eq_true, Bool.and_eq_true, validL_iff, validL_iff, List.all_eq_true]
  constructor
  · rintro ⟨⟨va, vb⟩, h⟩
    have hat : ∀ i o, a[i]? = some o → beginsAt a b i o = true := fun i o hi => h (o, i) (List.mem_zipIdx_iff_getElem?.2 hi)
    have hfull : ∀ i o, a[i]? = some o → ∃ k, b[k]? = some o ∧ ∀ p ∈ b.take k, clashB p o = true → ∃ n, posN a p.id = some n ∧ n ≤ i := by
      intro i o hi
      obtain ⟨k, x, _, hx, hs, hp⟩ := beginsAt_iff.1 (hat i o hi)
      rw [← ha.eq hb (List.mem_of_getElem? hi) (List.mem_of_getElem? hx) hs] at hx
      exact ⟨k, hx, hp⟩
    have hsub : ∀ o ∈ a, o ∈ b := fun o ho => by
      obtain ⟨i, hi⟩ := List.getElem?_of_mem ho
      obtain ⟨k, hk, _⟩ := hfull i o hi
      exact List.mem_of_getElem? hk
    refine ⟨va, vb, hsub, fun p o ho hbef hc => ?_⟩
    obtain ⟨i, hi⟩ := List.getElem?_of_mem ho
    obtain ⟨k, hk, hp⟩ := hfull i o hi
    obtain ⟨n, m, hnm, h1, h2⟩ := bef_get.1 hbef
    obtain rfl := get_inj vb.nodup h2 hk
    obtain ⟨n', hn', hle⟩ := hp p (mem_take_get.2 ⟨n, hnm, h1⟩) hc
    obtain ⟨z, hz, e⟩ := posN_get hn'
    rw [vb.inj (hsub z (List.mem_of_getElem? hz)) hbef.left e] at hz
    have hne : n' ≠ i := by
      rintro rfl
      rw [hz] at hi
      injection hi with hi
      subst hi
      exact bef_irrefl vb.nodup hbef
    exact bef_get.2 ⟨n', i, by omega, hz, hi⟩
  · rintro ⟨va, vb, hsub, h⟩
    refine ⟨⟨va, vb⟩, ?_⟩
    rintro ⟨o, i⟩ hp
    have hi : a[i]? = some o := List.mem_zipIdx_iff_getElem?.1 hp
    have ho := List.mem_of_getElem? hi
    obtain ⟨k, hk, hx⟩ := posN_mem vb (hsub o ho)
    refine beginsAt_iff.2 ⟨k, o, hk, hx, sameB_core.2 rfl, fun p hp hc => ?_⟩
    obtain ⟨n, hn, h1⟩ := mem_take_get.1 hp
    have hb2 := h p o ho (bef_get.2 ⟨n, k, hn, h1, hx⟩) hc
    obtain ⟨n', hn', hx'⟩ := posN_mem va hb2.left
    refine ⟨n', hn', Nat.le_of_not_lt fun hlt => ?_⟩
    exact bef_asymm va.nodup hb2 (bef_get.2 ⟨i, n', hlt, hi, hx'⟩)
theorem beginsB_K {a b : List Od} : beginsB a b = true ↔ Beg (K a) (K b) := by
  rw [← beginsB_core]
  exact beginsB_iff (bare_K a) (bare_K b)
end Go.Proofs.YtogipnfhcimeoaaGreat

/- Beginnings: order, beginnings of a list, swaps, what is behind, where two meet -/
namespace Go.Proofs.YtogipnfhcimeoaaGreat
open Go.RowKit
theorem Beg.refl {l : List Od} (h : Val l) : Beg l l := ⟨h, h, fun _ ho => ho, fun _ _ _ hb _ => hb⟩
theorem Beg.nil {l : List Od} (h : Val l) : Beg [] l := ⟨val_nil, h, fun _ ho => absurd ho (by simp), fun _ _ ho => absurd ho (by simp)⟩
theorem Beg.trans {a b c : List Od} (h : Beg a b) (k : Beg b c) : Beg a c :=
  ⟨h.1, k.2.1, fun o ho => k.2.2.1 o (h.2.2.1 o ho), fun p o ho hb hc => h.2.2.2 p o ho (k.2.2.2 p o (h.2.2.1 o ho) hb hc) hc⟩
/-- what stands ahead, and clashes, in the beginning stands ahead in the whole -/
theorem Beg.back {a b : List Od} (h : Beg a b) {p o : Od} (hb : Bef a p o) (hc : clashB p o = true) : Bef b p o := by
  rcases bef_total (h.2.2.1 p hb.left) (h.2.2.1 o hb.right) (fun e => by subst e; exact bef_irrefl h.1.nodup hb) with h1 | h1
  · exact h1
  · exact (bef_asymm h.1.nodup hb (h.2.2.2 o p hb.left h1 (by rw [clashB_comm]; exact hc))).elim
theorem Beg.symm {a b : List Od} (h : Beg a b) (hl : b.length ≤ a.length) : Beg b a :=
  ⟨h.2.1, h.1, sub_of_length h.1.nodup h.2.2.1 hl, fun _ _ _ hb hc => h.back hb hc⟩
theorem Beg.len {a b : List Od} (h : Beg a b) : a.length ≤ b.length := length_sub h.1.nodup h.2.2.1
theorem Beg.left {a b : List Od} (h : Val (a ++ b)) : Beg a (a ++ b) := by
  obtain ⟨h1, h2, h3⟩ := val_append.1 h
  refine ⟨h1, h, fun o ho => List.mem_append.2 (.inl ho), fun p o ho hb _ => ?_⟩
  rcases bef_append.1 hb with hb | ⟨_, hb⟩ | hb
  · exact hb
  · exact (h3 o ho o hb rfl).elim
  · exact (h3 o ho o hb.right rfl).elim
theorem Beg.take {l : List Od} (h : Val l) (k : Nat) : Beg (l.take k) l := by
  have := Beg.left (a := l.take k) (b := l.drop k) (by rw [List.take_append_drop]; exact h)
  rw [List.take_append_drop] at this
  exact this
theorem val_perm_swap {u v : List Od} {x y : Od} (h : Val (u ++ x :: y :: v)) : Val (u ++ y :: x :: v) := by
  unfold Val at h ⊢
  refine List.Pairwise.perm h ?_ (fun h e => h e.symm)
  exact (List.Perm.refl u).append (List.Perm.swap y x v)
theorem bef_swap {u v : List Od} {x y p o : Od} (hn : clashB x y = false) (hb : Bef (u ++ y :: x :: v) p o) (hc : clashB p o = true) : Bef (u ++ x :: y :: v) p o := by
  rw [show u ++ y :: x :: v = u ++ ([y, x] ++ v) from rfl, bef_append, bef_append] at hb
  rw [show u ++ x :: y :: v = u ++ ([x, y] ++ v) from rfl, bef_append, bef_append]
  have hm : ∀ z, z ∈ [y, x] → z ∈ [x, y] := fun z hz => by simp only [List.mem_cons, List.not_mem_nil, or_false] at hz ⊢; exact hz.symm
  rcases hb with hb | ⟨h1, h2⟩ | hb | ⟨h1, h2⟩ | hb
  · exact .inl hb
  · refine .inr (.inl ⟨h1, ?_⟩)
    rcases List.mem_append.1 h2 with h2 | h2
    · exact List.mem_append.2 (.inl (hm _ h2))
    · exact List.mem_append.2 (.inr h2)
  · rcases bef_cons.1 hb with ⟨rfl, h2⟩ | hb
    · have h3 := List.mem_singleton.1 h2
      subst h3
      rw [clashB_comm, hn] at hc
      cases hc
    · rcases bef_cons.1 hb with ⟨_, h2⟩ | hb
      · cases h2
      · exact (bef_nil hb).elim
  · exact .inr (.inr (.inr (.inl ⟨hm _ h1, h2⟩)))
  · exact .inr (.inr (.inr (.inr hb)))
theorem Beg.swap {u v : List Od} {x y : Od} (hn : clashB x y = false) (h : Val (u ++ x :: y :: v)) : Beg (u ++ x :: y :: v) (u ++ y :: x :: v) :=
  ⟨h, val_perm_swap h, fun o ho => by
    simp only [List.mem_append, List.mem_cons] at ho ⊢
    rcases ho with ho | ho | ho | ho
    · exact .inl ho
    · exact .inr (.inr (.inl ho))
    · exact .inr (.inl ho)
    · exact .inr (.inr (.inr ho)), fun _ _ _ hb hc => bef_swap hn hb hc⟩

/-- lists that clash.Swap makes of one another -/
inductive Mix : List Od → List Od → Prop
  | refl (l : List Od) : Mix l l
  | step {l : List Od} {u v : List Od} {x y : Od} (h : Mix l (u ++ x :: y :: v)) (hn : clashB x y = false) : Mix l (u ++ y :: x :: v)
theorem Mix.beg {l m : List Od} (h : Mix l m) (hv : Val l) : Beg l m ∧ Beg m l := by
  induction h with
  | refl => exact ⟨.refl hv, .refl hv⟩
  | step _ hn ih =>
    have h1 := Beg.swap hn ih.1.2.1
    have h2 := Beg.swap (by rw [clashB_comm]; exact hn) (val_perm_swap ih.1.2.1)
    exact ⟨ih.1.trans h1, h2.trans ih.2⟩
theorem Mix.perm {l m : List Od} (h : Mix l m) : l.Perm m := by
  induction h with
  | refl => exact .refl _
  | step _ _ ih => exact ih.trans ((List.Perm.refl _).append (List.Perm.swap _ _ _))
theorem swapAt_form {l : List Od} {k : Nat} (h : k + 1 < l.length) : ∃ u v, l = u ++ l[k] :: l[k + 1] :: v ∧ swapAt l k = u ++ l[k + 1] :: l[k] :: v := by
  refine ⟨l.take k, l.drop (k + 2), ?_, ?_⟩
  · rw [← List.drop_eq_getElem_cons h, ← List.drop_eq_getElem_cons (by omega : k < l.length), List.take_append_drop]
  · rw [swapAt, dif_pos h]
    refine List.ext_getElem (by simp; omega) fun i h1 h2 => ?_
    simp only [List.length_set] at h1
    rw [List.getElem_set, List.getElem_set, List.getElem_append]
    have hl : (l.take k).length = k := by rw [List.length_take]; omega
    simp only [hl]
    by_cases h3 : i < k
    · rw [dif_pos h3, if_neg (by omega), if_neg (by omega), List.getElem_take]
    · rw [dif_neg h3, List.getElem_cons]
      by_cases h4 : i = k
      · rw [if_neg (by omega), if_pos h4.symm, dif_pos (by omega)]
      · rw [dif_neg (by omega), List.getElem_cons]
        by_cases h5 : i = k + 1
        · rw [if_pos h5.symm, dif_pos (by omega)]
        · rw [if_neg (by omega), if_neg (by omega), dif_neg (by omega), List.getElem_drop]
          congr 1
          omega
theorem Mix.swap {l m : List Od} (h : Mix l m) {i : Int} (hs : swapOk m i = true) : Mix l (swapR m i) := by
  rw [swapR, if_pos hs]
  unfold swapOk at hs
  by_cases hk : 0 ≤ i ∧ i.toNat + 1 < m.length
  · rw [dif_pos hk] at hs
    obtain ⟨u, v, h1, h2⟩ := swapAt_form hk.2
    rw [h2]
    rw [h1] at h
    refine h.step ?_
    simpa using hs
  · rw [dif_neg hk] at hs
    cases hs

theorem mem_others {a b : List Od} {x : Od} : x ∈ othersL a b ↔ x ∈ b ∧ ∀ y ∈ a, y.id ≠ x.id := by
  unfold othersL
  rw [List.mem_filter]
  refine and_congr_right fun _ => ?_
  rw [Bool.not_eq_true', ← Bool.not_eq_true, posN_isSome]
  constructor
  · intro h y hy e; exact h ⟨y, hy, e⟩
  · rintro h ⟨y, hy, e⟩; exact h y hy e
theorem bef_others {a b : List Od} {x y : Od} : Bef (othersL a b) x y ↔ Bef b x y ∧ x ∈ othersL a b ∧ y ∈ othersL a b := by
  have h := @bef_filter Od (fun x => !(posN a x.id).isSome) b x y
  unfold othersL
  rw [h, List.mem_filter, List.mem_filter]
  constructor
  · rintro ⟨h1, h2, h3⟩; exact ⟨h1, ⟨h1.left, h2⟩, ⟨h1.right, h3⟩⟩
  · rintro ⟨h1, h2, h3⟩; exact ⟨h1, h2.2, h3.2⟩
theorem val_meet {a b : List Od} (ha : Val a) (hb : Val b) : Val (meetL a b) :=
  val_append.2 ⟨ha, hb.sub List.filter_sublist, fun x hx _ hy e => (mem_others.1 hy).2 x hx e⟩
theorem others_len {a b : List Od} (ha : Val a) (hb : Val b) (hs : ∀ x ∈ a, x ∈ b) : a.length + (othersL a b).length = b.length := by
  have h := filter_length (fun x : Od => (posN a x.id).isSome) b
  have h1 : a.length ≤ (b.filter fun x : Od => (posN a x.id).isSome).length := length_sub ha.nodup fun x hx => List.mem_filter.2 ⟨hs x hx, (posN_isSome x.id a).2 ⟨x, hx, rfl⟩⟩
  have h2 : (b.filter fun x : Od => (posN a x.id).isSome).length ≤ a.length := length_sub (hb.nodup.sublist List.filter_sublist) fun x hx => by
    obtain ⟨hxb, hp⟩ := List.mem_filter.1 hx
    obtain ⟨y, hy, e⟩ := (posN_isSome x.id a).1 hp
    rw [← hb.inj (hs y hy) hxb e]
    exact hy
  unfold othersL
  omega
/-- a, and what is behind it, is the whole -/
theorem Beg.rest {a m : List Od} (h : Beg a m) : Beg (a ++ othersL a m) m ∧ (a ++ othersL a m).length = m.length := by
  have hv := val_meet h.1 h.2.1
  refine ⟨⟨hv, h.2.1, fun o ho => ?_, fun p o ho hb hc => ?_⟩, by rw [List.length_append]; exact others_len h.1 h.2.1 h.2.2.1⟩
  · rcases List.mem_append.1 ho with ho | ho
    · exact h.2.2.1 o ho
    · exact (mem_others.1 ho).1
  · rw [bef_append]
    rcases List.mem_append.1 ho with ho | ho
    · exact .inl (h.2.2.2 p o ho hb hc)
    · by_cases hp : ∃ y ∈ a, y.id = p.id
      · obtain ⟨y, hy, e⟩ := hp
        rw [h.2.1.inj (h.2.2.1 y hy) hb.left e] at hy
        exact .inr (.inl ⟨hy, ho⟩)
      · exact .inr (.inr (bef_others.2 ⟨hb, mem_others.2 ⟨hb.left, fun y hy e => hp ⟨y, hy, e⟩⟩, ho⟩))
/-- two beginnings of one list meet in it -/
theorem Beg.meet {a b l : List Od} (h : Beg a l) (k : Beg b l) : Beg a (meetL a b) ∧ Beg b (meetL a b) ∧ Beg (meetL a b) l := by
  have hv := val_meet h.1 k.1
  have hmem : ∀ o ∈ b, o ∉ othersL a b → o ∈ a := fun o ho hn => by
    refine Classical.byContradiction fun hna => hn (mem_others.2 ⟨ho, fun y hy e => hna ?_⟩)
    rw [← h.2.1.inj (h.2.2.1 y hy) (k.2.2.1 o ho) e]
    exact hy
  refine ⟨Beg.left hv, ⟨k.1, hv, fun o ho => ?_, fun p o ho hb hc => ?_⟩, ⟨hv, h.2.1, fun o ho => ?_, fun p o ho hb hc => ?_⟩⟩
  · by_cases hn : o ∈ othersL a b
    · exact List.mem_append.2 (.inr hn)
    · exact List.mem_append.2 (.inl (hmem o ho hn))
  · rcases bef_append.1 hb with hb | ⟨hpa, hob⟩ | hb
    · exact k.2.2.2 p o ho (h.back hb hc) hc
    · rcases bef_total (h.2.2.1 p hpa) (k.2.2.1 o ho) (fun e => (mem_others.1 hob).2 p hpa (by rw [e])) with h1 | h1
      · exact k.2.2.2 p o ho h1 hc
      · have := h.2.2.2 o p hpa h1 (by rw [clashB_comm]; exact hc)
        exact ((mem_others.1 hob).2 o this.left rfl).elim
    · exact (bef_others.1 hb).1
  · rcases List.mem_append.1 ho with ho | ho
    · exact h.2.2.1 o ho
    · exact k.2.2.1 o (mem_others.1 ho).1
  · rw [bef_append]
    rcases List.mem_append.1 ho with ho | ho
    · exact .inl (h.2.2.2 p o ho hb hc)
    · have h1 := k.2.2.2 p o (mem_others.1 ho).1 hb hc
      by_cases hn : p ∈ othersL a b
      · exact .inr (.inr (bef_others.2 ⟨h1, hn, ho⟩))
      · exact .inr (.inl ⟨hmem p h1.left hn, ho⟩)
/-- where two meet they do so the other way round -/
theorem Beg.meet_comm {a b : List Od} (ha : Val a) (h : Beg b (meetL a b)) : Beg a (meetL b a) := by
  have hv := val_meet h.1 ha
  have hl := Beg.left (val_meet ha h.1)
  have hin : ∀ o ∈ a, o ∈ meetL a b := fun o ho => List.mem_append.2 (.inl ho)
  have hmem : ∀ o ∈ a, o ∉ othersL b a → o ∈ b := fun o ho hn => by
    refine Classical.byContradiction fun hna => hn (mem_others.2 ⟨ho, fun y hy e => hna ?_⟩)
    rw [← h.2.1.inj (h.2.2.1 y hy) (hin o ho) e]
    exact hy
  refine ⟨ha, hv, fun o ho => ?_, fun p o ho hb hc => ?_⟩
  · by_cases hn : o ∈ othersL b a
    · exact List.mem_append.2 (.inr hn)
    · exact List.mem_append.2 (.inl (hmem o ho hn))
  · rcases bef_append.1 hb with hb | ⟨hpa, hob⟩ | hb
    · exact hl.2.2.2 p o ho (h.back hb hc) hc
    · rcases bef_total (h.2.2.1 p hpa) (hin o ho) (fun e => (mem_others.1 hob).2 p hpa (by rw [e])) with h1 | h1
      · exact hl.2.2.2 p o ho h1 hc
      · have := h.2.2.2 o p hpa h1 (by rw [clashB_comm]; exact hc)
        exact ((mem_others.1 hob).2 o this.left rfl).elim
    · exact (bef_others.1 hb).1
theorem Beg.meet_alike {a b : List Od} (ha : Val a) (h : Beg b (meetL a b)) : Beg (meetL a b) (meetL b a) ∧ (meetL a b).length = (meetL b a).length := by
  have h1 := Beg.meet_comm ha h
  have h2 := h1.meet (Beg.left (val_meet h.1 ha))
  have h3 := h.meet (Beg.left (val_meet ha h.1))
  have := h2.2.2.len
  have := h3.2.2.len
  exact ⟨h2.2.2, by omega⟩
theorem others_nil (b : List Od) : othersL [] b = b := by
  unfold othersL
  rw [List.filter_eq_self]
  intro x _
  rfl
theorem others_all {a b : List Od} (h : ∀ x ∈ b, x ∈ a) : othersL a b = [] := by
  rw [List.eq_nil_iff_forall_not_mem]
  intro x hx
  have := mem_others.1 hx
  exact this.2 x (h x this.1) rfl
end Go.Proofs.YtogipnfhcimeoaaGreat

/- mixed -/
namespace Go.Proofs.YtogipnfhcimeoaaGreat
open Go.RowKit
set_option maxRecDepth 100000 in
set_option maxHeartbeats 2000000 in
theorem mixed_10 (A B : Option Addr) (c d : Nat) (l : List Od) (s : List Int) (w : World) (h : Sl w w.heap.size A c l) (hs : Sl w w.heap.size B d s) (hn : l.length ≤ 65536) (hl : ∀ x ∈ l, x.legs.length ≤ 10) :
    Calls Tryz.prog 52 #[.slice A l.length c, .slice B s.length d] w fun e w' => ∃ v, e = .returned v ∧ (∃ m A' c', v = .slice A' m.length c' ∧ Mix l m ∧ Sl w' w'.heap.size A' c' m) ∧ Below w.heap.size w w' := by
  have hsm : s.length ≤ 9223372036854775807 := hs.len_le
  have hper : ∀ m, Mix l m → m.length = l.length := fun m h => h.perm.length_eq.symm
  go_enter Tryz.func52, Tryz.ntmps52
  go_wp2_with fail
  go_loopw [0, 5] (fun v i wr => ∃ k : Nat, i = i64 k ∧ k ≤ s.length ∧ (∃ m A' c', v = .slice A' m.length c' ∧ Mix l m ∧ Sl wr wr.heap.size A' c' m) ∧ Below w.heap.size w wr) (fun _ i _ => s.length - (intOf i).toNat)
  case atStart => exact ⟨0, rfl, by omega, ⟨l, A, c, rfl, .refl l, h⟩, Below.refl _ _⟩
  case round =>
    obtain ⟨k, rfl, hk, ⟨m, A', c', rfl, hm, hsm2⟩, hb⟩ := hrel
    have hml := hper m hm
    by_cases hlt : k < s.length ∧ k < 200
    · obtain ⟨hk1, hk2⟩ := hlt
      obtain ⟨b, o, rfl, hbb, -, hcell⟩ := (hs.later hb).at_ hk1
      have c0 : wr.cell? ⟨b, o + k, none⟩ = some (i64 s[k]) := by
        have := hcell 0 _ rfl
        rwa [show k * Enc.size Int + 0 = k from Nat.mul_one k] at this
      clear hcell
      have Hm := Lib.hid hm
      have Hb := Lib.hid hb
      have Hs2 := Lib.hid hsm2
      have Hml := Lib.hid hml
      have hml2 : m.length ≤ 65536 := by omega
      have hlm : ∀ x ∈ m, x.legs.length ≤ 10 := fun x hx => hl x (hm.perm.mem_iff.2 hx)
      clear hm hb hsm2 hml
      go_wp2_with fail
      generalize wrap64 _ = ix
      refine (swap_c A' c' m ix _ Hs2.out hml2 hlm).mono ?_
      rintro e w1 ⟨v, rfl, hO, hb1⟩
      have hb2 := below_on Hb.out (Nat.le_refl _) hb1
      by_cases hsw : swapOk m ix = true
      · obtain ⟨A2, c2, rfl, hs3⟩ := hO.sl
        rw [hsw]
        have Hsw := Lib.hid hsw
        clear hsw hO
        go_wp2
        go_roundw
        case rel => exact ⟨k + 1, by go_num, by omega, ⟨swapR m ix, A2, c2, rfl, Hm.out.swap Hsw.out, hs3⟩, hb2⟩
        case measure => simp [intOf]; omega
      · rw [show swapOk m ix = false by simpa using hsw]
        clear hsw hO
        go_wp2
        go_roundw
        case rel => exact ⟨k + 1, by go_num, by omega, ⟨m, A', c', rfl, Hm.out, Hs2.out.later hb1⟩, hb2⟩
        case measure => simp [intOf]; omega
    · have Hm := Lib.hid hm
      have Hs2 := Lib.hid hsm2
      have Hb := Lib.hid hb
      clear hm hsm2 hml hb
      by_cases hk1 : k < s.length
      · have hk2 : ¬ k < 200 := fun h => hlt ⟨hk1, h⟩
        clear hlt
        go_wp2
        go_ret
        exact ⟨_, rfl, ⟨m, A', c', rfl, Hm.out, Hs2.out⟩, Hb.out⟩
      · clear hlt
        go_wp2
        go_ret
        exact ⟨_, rfl, ⟨m, A', c', rfl, Hm.out, Hs2.out⟩, Hb.out⟩
end Go.Proofs.YtogipnfhcimeoaaGreat
