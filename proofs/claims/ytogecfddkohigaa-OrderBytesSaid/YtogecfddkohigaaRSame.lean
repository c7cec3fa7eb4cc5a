/- ref06.Same -/
import Derived.Test.YtogecfddkohigaaRows
import Derived.Test.YtogecfddkohigaaSame
import Derived.WalkKit
import Derived.WalkSpells
import Derived.WalkLawsBesides
import Derived.Deep.QuietTactic
import Derived.BigQuiet
import Derived.Laws.StructEq
import Derived.Deep.DeepFit
import Derived.StillTailTactics
namespace Go.Proofs.Ytogecfddkohigaa
open Go.RowKit
theorem neq_id (a b c d : Int) (w : World) : (binOp .neq 27 (.agg #[i64 a, i64 b]) (.agg #[i64 c, i64 d])).run Try.prog w = .ok (.bool (!decide (Id.mk a b = ⟨c, d⟩))) w := by
  have u3 := Try.underlying3
  have a3 := Try.isAgg3
  have z3 := Try.sizeOf3
  have hS : Try.prog.underlying 27 = some (.struct (Try.prog.fieldsOf 27)) := by kernel_rfl
  have hp : Try.prog.stoodInHeld 27 = false := by kernel_rfl
  rw [run_neq_struct, show (10000 : Nat) = 9999 + 1 from rfl, run_equalIn_agg w 9999 27 _ _ hS hp]
  simp only [Program.fieldsOf, Try.underlying27]
  go_simp
  by_cases h1 : a = c <;> by_cases h2 : b = d <;> simp [h1, h2]
theorem bneS_of_eq {s t : ByteArray} (h : s = t) : (s.toList != t.toList) = false := by rw [bne, beqS_of_eq h]; rfl
theorem bneS_of_ne {s t : ByteArray} (h : s ≠ t) : (s.toList != t.toList) = true := by rw [bne, beqS_of_ne h]; rfl

set_option maxRecDepth 100000 in
set_option maxHeartbeats 2000000 in
theorem rsame_c (x y : Od) (w : World) (hx : Okb w w.heap.size x) (hy : Okb w w.heap.size y) (hlx : x.legs.length ≤ 65536) (_hly : y.legs.length ≤ 65536) :
    Calls Try.prog 38 #[x.v, y.v] w fun e w' => e = .returned (.bool (sameB x y)) ∧ Below w.heap.size w w' := by
  obtain ⟨-, -, -, hgx⟩ := hx
  obtain ⟨-, -, -, hgy⟩ := hy
  have hb1 : Below w.heap.size w ((w.alloc (.cells #[i64 x.client, i64 x.seq, i64 x.kind, .string x.acct, .string x.peer, i64 x.sum, .slice x.la x.legs.length x.lc, i64 x.period, i64 x.hold, .string x.note] 30)).alloc (.cells #[i64 y.client, i64 y.seq, i64 y.kind, .string y.acct, .string y.peer, i64 y.sum, .slice y.la y.legs.length y.lc, i64 y.period, i64 y.hold, .string y.note] 30)) := ((Below.refl _ _).alloc (Nat.le_refl _) _).alloc (by simp) _
  have Hgx := Lib.hid (hgx.later hb1)
  have Hgy := Lib.hid (hgy.later hb1)
  clear hgx hgy
  unfold Od.v
  by_cases h0 : x.id = y.id
  · have q0 : ∀ W : World, (binOp .neq 27 (.agg #[i64 x.client, i64 x.seq]) (.agg #[i64 y.client, i64 y.seq])).run Try.prog W = .ok (.bool false) W := fun W => by rw [neq_id, decide_eq_true (show Id.mk x.client x.seq = ⟨y.client, y.seq⟩ from h0)]; rfl
    by_cases h1 : x.kind = y.kind
    · have q1 : (x.kind != y.kind) = false := by rw [h1]; simp
      by_cases h2 : x.acct = y.acct
      · have q2 := bneS_of_eq h2
        have p2 := beqS_of_eq h2
        by_cases h3 : x.peer = y.peer
        · have q3 := bneS_of_eq h3
          have p3 := beqS_of_eq h3
          by_cases h4 : x.sum = y.sum
          · have q4 : (x.sum != y.sum) = false := by rw [h4]; simp
            by_cases h5 : x.period = y.period
            · have q5 : (x.period != y.period) = false := by rw [h5]; simp
              by_cases h6 : x.hold = y.hold
              · have q6 : (x.hold != y.hold) = false := by rw [h6]; simp
                by_cases h7 : x.note = y.note
                · have q7 := bneS_of_eq h7
                  have p7 := beqS_of_eq h7
                  by_cases h8 : x.legs.length = y.legs.length
                  · have q8 : ((x.legs.length : Int) != (y.legs.length : Int)) = false := by rw [h8]; simp
                    have H : Hid (x.id = y.id ∧ x.kind = y.kind ∧ x.acct = y.acct ∧ x.peer = y.peer ∧ x.sum = y.sum ∧ x.period = y.period ∧ x.hold = y.hold ∧ x.note = y.note ∧ x.legs.length = y.legs.length) := Lib.hid ⟨h0, h1, h2, h3, h4, h5, h6, h7, h8⟩
                    clear h0 h1 h2 h3 h4 h5 h6 h7 h8
                    have hxs : sameB x y = decide (x.legs = y.legs) := by
                      obtain ⟨h0, h1, h2, h3, h4, h5, h6, h7, _⟩ := H.out
                      by_cases hl : x.legs = y.legs
                      · rw [decide_eq_true hl]; exact decide_eq_true ⟨h2, h3, h7, h0, h1, h4, h5, h6, hl⟩
                      · rw [decide_eq_false hl]; exact decide_eq_false fun k => hl k.legs
                    have Hxs := Lib.hid hxs
                    clear hxs
                    go_enter Try.func38, Try.ntmps38
                    go_wp2
                    have hcx : World.cell? ((w.alloc (.cells #[i64 x.client, i64 x.seq, i64 x.kind, .string x.acct, .string x.peer, i64 x.sum, .slice x.la x.legs.length x.lc, i64 x.period, i64 x.hold, .string x.note] 30)).alloc (.cells #[i64 y.client, i64 y.seq, i64 y.kind, .string y.acct, .string y.peer, i64 y.sum, .slice y.la y.legs.length y.lc, i64 y.period, i64 y.hold, .string y.note] 30)) ⟨w.heap.size, 6, none⟩ = some (.slice x.la x.legs.length x.lc) := cell_of_row _ w.heap.size 6 _ _ (0, 0) (heap_alloc2_old w _ _)
                    have hcy : World.cell? ((w.alloc (.cells #[i64 x.client, i64 x.seq, i64 x.kind, .string x.acct, .string x.peer, i64 x.sum, .slice x.la x.legs.length x.lc, i64 x.period, i64 x.hold, .string x.note] 30)).alloc (.cells #[i64 y.client, i64 y.seq, i64 y.kind, .string y.acct, .string y.peer, i64 y.sum, .slice y.la y.legs.length y.lc, i64 y.period, i64 y.hold, .string y.note] 30)) ⟨w.heap.size + 1, 6, none⟩ = some (.slice y.la y.legs.length y.lc) := cell_of_row _ (w.heap.size + 1) 6 _ _ (0, 0) (heap_alloc2_new w _ _)
                    generalize (w.alloc (.cells #[i64 x.client, i64 x.seq, i64 x.kind, .string x.acct, .string x.peer, i64 x.sum, .slice x.la x.legs.length x.lc, i64 x.period, i64 x.hold, .string x.note] 30)).alloc (.cells #[i64 y.client, i64 y.seq, i64 y.kind, .string y.acct, .string y.peer, i64 y.sum, .slice y.la y.legs.length y.lc, i64 y.period, i64 y.hold, .string y.note] 30) = W1 at *
                    go_loopw [5] (fun i wr => ∃ (j m : Nat), i = i64 j ∧ j ≤ x.legs.length ∧ x.legs.take j = y.legs.take j ∧ wr = W1.drewN m) (fun i _ => x.legs.length - (intOf i).toNat)
                    case atStart => exact ⟨0, 0, rfl, by omega, rfl, rfl⟩
                    case round =>
                      obtain ⟨j, m, rfl, hj, ht, rfl⟩ := hrel
                      have HT := Lib.hid ht
                      clear ht
                      by_cases hlt : j < x.legs.length
                      · have hltm : j < y.legs.length := by have := H.out.2.2.2.2.2.2.2.2; omega
                        obtain ⟨b, o, hA, hb, -, c0, c1⟩ := Hgx.out.leg hlt
                        obtain ⟨b', o', hA', hb', -, c0', c1'⟩ := Hgy.out.leg hltm
                        have he : ∀ W : World, (binOp .neq 58 (.agg #[.string x.legs[j].acct, i64 x.legs[j].sum]) (.agg #[.string y.legs[j].acct, i64 y.legs[j].sum])).run Try.prog W = .ok (.bool (!decide (x.legs[j] = y.legs[j]))) W := neq_leg _ _ _ _
                        rw [hA] at hcx
                        rw [hA'] at hcy
                        by_cases heq : x.legs[j] = y.legs[j]
                        · simp only [decide_eq_true heq, Bool.not_true] at he
                          have Heq := Lib.hid heq
                          clear heq
                          go_wp2
                          go_quiet (fail)
                          go_wp2
                          go_roundw
                          case rel => exact ⟨j + 1, m + _, by go_num, by omega, by rw [List.take_succ_eq_append_getElem hlt, List.take_succ_eq_append_getElem hltm, HT.out, Heq.out], rfl⟩
                          case measure => simp [intOf]; omega
                        · simp only [decide_eq_false heq, Bool.not_false] at he
                          have Heq := Lib.hid heq
                          clear heq
                          go_wp2
                          go_quiet (fail)
                          go_wp2
                          go_ret
                          refine ⟨?_, below_drewN (below_drewN hb1 _) _⟩
                          rw [Hxs.out, decide_eq_false (show ¬ x.legs = y.legs from fun e => Heq.out (by simp only [e]))]
                          rfl
                      · obtain rfl : j = x.legs.length := by omega
                        go_wp2
                        go_ret
                        refine ⟨?_, below_drewN hb1 _⟩
                        rw [Hxs.out, decide_eq_true (show x.legs = y.legs by
                          have := HT.out
                          rwa [List.take_length, List.take_of_length_le (by have := H.out.2.2.2.2.2.2.2.2; omega)] at this)]
                        rfl
                  · have q8 : ((x.legs.length : Int) != (y.legs.length : Int)) = true := by rw [bne_iff_ne]; omega
                    have Hs : Hid (sameB x y = false) := Lib.hid (decide_eq_false fun k => h8 (by rw [k.legs]))
                    clear h0 h1 h2 h3 h4 h5 h6 h7 h8
                    go_enter Try.func38, Try.ntmps38
                    go_wp2
                    go_ret
                    exact ⟨by rw [Hs.out]; rfl, hb1⟩
                · have q7 := bneS_of_ne h7
                  have p7 := beqS_of_ne h7
                  have Hs : Hid (sameB x y = false) := Lib.hid (decide_eq_false fun k => h7 k.note)
                  clear h0 h1 h2 h3 h4 h5 h6 h7
                  go_enter Try.func38, Try.ntmps38
                  go_wp2
                  go_ret
                  exact ⟨by rw [Hs.out]; rfl, hb1⟩
              · have q6 : (x.hold != y.hold) = true := bne_iff_ne.2 h6
                have Hs : Hid (sameB x y = false) := Lib.hid (decide_eq_false fun k => h6 k.hold)
                clear h0 h1 h2 h3 h4 h5 h6
                go_enter Try.func38, Try.ntmps38
                go_wp2
                go_ret
                exact ⟨by rw [Hs.out]; rfl, hb1⟩
            · have q5 : (x.period != y.period) = true := bne_iff_ne.2 h5
              have Hs : Hid (sameB x y = false) := Lib.hid (decide_eq_false fun k => h5 k.period)
              clear h0 h1 h2 h3 h4 h5
              go_enter Try.func38, Try.ntmps38
              go_wp2
              go_ret
              exact ⟨by rw [Hs.out]; rfl, hb1⟩
          · have q4 : (x.sum != y.sum) = true := bne_iff_ne.2 h4
            have Hs : Hid (sameB x y = false) := Lib.hid (decide_eq_false fun k => h4 k.sum)
            clear h0 h1 h2 h3 h4
            go_enter Try.func38, Try.ntmps38
            go_wp2
            go_ret
            exact ⟨by rw [Hs.out]; rfl, hb1⟩
        · have q3 := bneS_of_ne h3
          have p3 := beqS_of_ne h3
          have Hs : Hid (sameB x y = false) := Lib.hid (decide_eq_false fun k => h3 k.peer)
          clear h0 h1 h2 h3
          go_enter Try.func38, Try.ntmps38
          go_wp2
          go_ret
          exact ⟨by rw [Hs.out]; rfl, hb1⟩
      · have q2 := bneS_of_ne h2
        have p2 := beqS_of_ne h2
        have Hs : Hid (sameB x y = false) := Lib.hid (decide_eq_false fun k => h2 k.acct)
        clear h0 h1 h2
        go_enter Try.func38, Try.ntmps38
        go_wp2
        go_ret
        exact ⟨by rw [Hs.out]; rfl, hb1⟩
    · have q1 : (x.kind != y.kind) = true := bne_iff_ne.2 h1
      have Hs : Hid (sameB x y = false) := Lib.hid (decide_eq_false fun k => h1 k.kind)
      clear h0 h1
      go_enter Try.func38, Try.ntmps38
      go_wp2
      go_ret
      exact ⟨by rw [Hs.out]; rfl, hb1⟩
  · have q0 : ∀ W : World, (binOp .neq 27 (.agg #[i64 x.client, i64 x.seq]) (.agg #[i64 y.client, i64 y.seq])).run Try.prog W = .ok (.bool true) W := fun W => by rw [neq_id, decide_eq_false (show ¬ Id.mk x.client x.seq = ⟨y.client, y.seq⟩ from h0)]; rfl
    have Hs : Hid (sameB x y = false) := Lib.hid (decide_eq_false fun k => h0 k.id)
    clear h0
    go_enter Try.func38, Try.ntmps38
    go_wp2
    go_ret
    exact ⟨by rw [Hs.out]; rfl, hb1⟩
end Go.Proofs.Ytogecfddkohigaa
