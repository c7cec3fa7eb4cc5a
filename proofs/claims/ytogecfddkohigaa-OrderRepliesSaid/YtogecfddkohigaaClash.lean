/- clash.Clash -/
import Derived.Test.YtogecfddkohigaaRows
import Derived.Test.YtogecfddkohigaaTouch
import Derived.Test.YtogecfddkohigaaAt
import Derived.WalkKit
import Derived.WalkSpells
import Derived.WalkLawsBesides
import Derived.Deep.QuietTactic
import Derived.BigQuiet
import Derived.Laws.StructEq
import Derived.Deep.DeepFit
import Derived.StillTailTactics
namespace Go.Proofs.Ytogecfddkohigaa
open Go.RowKit
/-- clash.Clash -/
def clashB (x y : Od) : Bool :=
  decide (x.id = y.id) || (decide (x.kind = 6) || decide (y.kind = 6)) || (decide (x.kind = 1) && decide (y.kind = 1)) || (touches x).any fun s => (touches y).any fun t => decide (s = t)

set_option maxRecDepth 100000 in
set_option maxHeartbeats 400000 in
theorem clash1_c (s : ByteArray) (g : Nat) (A : Option Addr) (c : Nat) (l : List ByteArray) (w : World) (hg : w.cell? ⟨g, 0, none⟩ = some (.slice A l.length c)) (h : Sl w w.heap.size A c l) (hn : l.length ≤ 65536) :
    Calls Try.prog 50 #[.string s, .pointer (some ⟨g, 0, none⟩)] w fun e w' => e = .returned (.bool (l.any fun t => decide (s = t))) ∧ Below w.heap.size w w' := by
  have H := Lib.hid (contains_str A c l s w h hn)
  clear h
  go_enter Try.func50, Try.ntmps50
  go_wp2_with (go_at_call 51; refine (H.out).mono ?_; rintro e w' ⟨rfl, hb⟩)
  go_ret
  exact ⟨rfl, hb⟩

theorem touches_len (x : Od) (h : x.legs.length ≤ 10) : (touches x).length ≤ 12 := by
  have h1 : ∀ l : List ByteArray, (compactL l).length ≤ l.length := by
    intro l
    induction l using compactL.induct with
    | case1 => simp [compactL]
    | case2 x => simp [compactL]
    | case3 => rw [compactL, if_pos rfl]; simp_all; omega
    | case4 => rw [compactL, if_neg (by assumption)]; simp_all
  refine Nat.le_trans (h1 _) ?_
  rw [(sortB_perm _).length_eq]
  exact Nat.le_trans (List.length_filter_le _ _) (by simp; omega)

set_option maxRecDepth 100000 in
set_option maxHeartbeats 1000000 in
theorem clash_c (x y : Od) (w : World) (hx : Okb w w.heap.size x) (hy : Okb w w.heap.size y) (hlx : x.legs.length ≤ 10) (hly : y.legs.length ≤ 10) :
    Calls Try.prog 12 #[x.v, y.v] w fun e w' => e = .returned (.bool (clashB x y)) ∧ Below w.heap.size w w' := by
  have hb2 : Below w.heap.size w ((w.alloc (.cells #[i64 x.client, i64 x.seq, i64 x.kind, .string x.acct, .string x.peer, i64 x.sum, .slice x.la x.legs.length x.lc, i64 x.period, i64 x.hold, .string x.note] 30)).alloc (.cells #[i64 y.client, i64 y.seq, i64 y.kind, .string y.acct, .string y.peer, i64 y.sum, .slice y.la y.legs.length y.lc, i64 y.period, i64 y.hold, .string y.note] 30)) := ((Below.refl _ _).alloc (Nat.le_refl _) _).alloc (by simp) _
  by_cases h1 : x.id = y.id
  · have q1 : ∀ W : World, (binOp .eql 27 (.agg #[i64 x.client, i64 x.seq]) (.agg #[i64 y.client, i64 y.seq])).run Try.prog W = .ok (.bool true) W := fun W => by rw [eq_id, decide_eq_true (show Id.mk x.client x.seq = ⟨y.client, y.seq⟩ from h1)]
    have Hs : Hid (clashB x y = true) := Lib.hid (by unfold clashB; rw [decide_eq_true h1]; rfl)
    clear h1 hx hy
    unfold Od.v
    go_enter Try.func12, Try.ntmps12
    go_wp2
    go_ret
    exact ⟨by rw [Hs.out]; rfl, hb2⟩
  · have q1 : ∀ W : World, (binOp .eql 27 (.agg #[i64 x.client, i64 x.seq]) (.agg #[i64 y.client, i64 y.seq])).run Try.prog W = .ok (.bool false) W := fun W => by rw [eq_id, decide_eq_false (show ¬ Id.mk x.client x.seq = ⟨y.client, y.seq⟩ from h1)]
    have H1 := Lib.hid h1
    clear h1
    by_cases h2 : x.kind = 6
    · have q2 : (x.kind == 6) = true := beq_iff_eq.2 h2
      have Hs : Hid (clashB x y = true) := Lib.hid (by unfold clashB; rw [decide_eq_false H1.out, decide_eq_true h2]; rfl)
      clear h2 hx hy
      unfold Od.v
      go_enter Try.func12, Try.ntmps12
      go_wp2
      go_ret
      exact ⟨by rw [Hs.out]; rfl, hb2⟩
    · have q2 : (x.kind == 6) = false := beq_eq_false_iff_ne.2 h2
      have H2 := Lib.hid h2
      clear h2
      by_cases h3 : y.kind = 6
      · have q3 : (y.kind == 6) = true := beq_iff_eq.2 h3
        have Hs : Hid (clashB x y = true) := Lib.hid (by unfold clashB; rw [decide_eq_false H1.out, decide_eq_false H2.out, decide_eq_true h3]; rfl)
        clear h3 hx hy
        unfold Od.v
        go_enter Try.func12, Try.ntmps12
        go_wp2
        go_ret
        exact ⟨by rw [Hs.out]; rfl, hb2⟩
      · have q3 : (y.kind == 6) = false := beq_eq_false_iff_ne.2 h3
        have H3 := Lib.hid h3
        clear h3
        by_cases h4 : x.kind = 1 ∧ y.kind = 1
        · have q4 : (x.kind == 1) = true := beq_iff_eq.2 h4.1
          have q5 : (y.kind == 1) = true := beq_iff_eq.2 h4.2
          have Hs : Hid (clashB x y = true) := Lib.hid (by unfold clashB; rw [decide_eq_false H1.out, decide_eq_false H2.out, decide_eq_false H3.out, decide_eq_true h4.1, decide_eq_true h4.2]; rfl)
          clear h4 hx hy
          unfold Od.v
          go_enter Try.func12, Try.ntmps12
          go_wp2
          go_ret
          exact ⟨by rw [Hs.out]; rfl, hb2⟩
        · have Hs : Hid (clashB x y = (touches x).any fun s => (touches y).any fun t => decide (s = t)) := Lib.hid (by
            unfold clashB
            rw [decide_eq_false H1.out, decide_eq_false H2.out, decide_eq_false H3.out, ← Bool.decide_and, decide_eq_false h4]; rfl)
          have Hx := Lib.hid (show Okb w w.heap.size x from hx)
          have Hy := Lib.hid (show Okb w w.heap.size y from hy)
          clear hx hy
          unfold Od.v
          by_cases h5 : x.kind = 1
          · have q4 : (x.kind == 1) = true := beq_iff_eq.2 h5
            have q5 : (y.kind == 1) = false := beq_eq_false_iff_ne.2 fun h => h4 ⟨h5, h⟩
            clear h4 h5
            go_enter Try.func12, Try.ntmps12
            go_wp2_with fail
            refine (touches_c y _ (Hy.out.later hb2) hly).mono ?_
            rintro e w1 ⟨v1, rfl, hO1, hb1⟩
            obtain ⟨A1, c1, rfl, hs1⟩ := hO1.sl
            have hbw := hb2.trans (hb1.mono hb2.size)
            have hbA := (Below.refl w1.heap.size w1).alloc (Nat.le_refl _) (.cells #[.slice A1 (touches y).length c1] 55)
            have hb3 := hbw.alloc hbw.size (.cells #[.slice A1 (touches y).length c1] 55)
            have Hs1 := Lib.hid hs1
            have hcx : ∀ o, w1.cell? ⟨w.heap.size, o, none⟩ = _ := fun o => hb1.cell (p := ⟨w.heap.size, o, none⟩) (by simp; omega)
            have hzx : w.heap.size < w1.heap.size := by have := hb1.size; simp at this; omega
            clear hs1 hO1 hb2
            go_wp2_with fail
            clear hcx
            refine (touches_c x _ (Hx.out.later hb3) hlx).mono ?_
            rintro e w2 ⟨v2, rfl, hO2, hb4⟩
            obtain ⟨A2, c2, rfl, hs2⟩ := hO2.sl
            have hb5 := hb3.trans (hb4.mono hb3.size)
            have hb6 := hbA.trans (hb4.mono hbA.size)
            have hc2 : w2.cell? ⟨w1.heap.size, 0, none⟩ = some (.slice A1 (touches y).length c1) := (hb4.cell (p := ⟨w1.heap.size, 0, none⟩) (by simp)).trans (cell_of_row _ w1.heap.size 0 #[.slice A1 (touches y).length c1] 55 (0, 0) (heap_alloc_new w1 _))
            have Hc2 := Lib.hid hc2
            have HT := Lib.hid (touches_len y hly)
            have Hlt : w1.heap.size < w2.heap.size := by have := hb4.size; simp at this; omega
            clear hO2 hc2
            go_wp2_with fail
            refine (containsFunc_str A2 c2 (touches x) 50 #[.pointer (some ⟨w1.heap.size, 0, none⟩)] (fun s => (touches y).any fun t => decide (s = t)) _ hs2 (Nat.le_trans (touches_len x hlx) (by decide)) (enters_of Try.func50 (by kernel_rfl) rfl)
              (fun s _ w3 hb7 => clash1_c s w1.heap.size A1 c1 (touches y) w3 ((hb7.cell (p := ⟨w1.heap.size, 0, none⟩) Hlt).trans Hc2.out) (Hs1.out.later (hb6.trans (hb7.mono hb6.size))) (Nat.le_trans HT.out (by decide)))).mono ?_
            rintro e w3 ⟨rfl, hb8⟩
            go_wp2
            go_ret
            exact ⟨by rw [Hs.out]; rfl, hb5.trans (hb8.mono hb5.size)⟩
          · have q4 : (x.kind == 1) = false := beq_eq_false_iff_ne.2 h5
            clear h4 h5
            go_enter Try.func12, Try.ntmps12
            go_wp2_with fail
            refine (touches_c y _ (Hy.out.later hb2) hly).mono ?_
            rintro e w1 ⟨v1, rfl, hO1, hb1⟩
            obtain ⟨A1, c1, rfl, hs1⟩ := hO1.sl
            have hbw := hb2.trans (hb1.mono hb2.size)
            have hbA := (Below.refl w1.heap.size w1).alloc (Nat.le_refl _) (.cells #[.slice A1 (touches y).length c1] 55)
            have hb3 := hbw.alloc hbw.size (.cells #[.slice A1 (touches y).length c1] 55)
            have Hs1 := Lib.hid hs1
            have hcx : ∀ o, w1.cell? ⟨w.heap.size, o, none⟩ = _ := fun o => hb1.cell (p := ⟨w.heap.size, o, none⟩) (by simp; omega)
            have hzx : w.heap.size < w1.heap.size := by have := hb1.size; simp at this; omega
            clear hs1 hO1 hb2
            go_wp2_with fail
            clear hcx
            refine (touches_c x _ (Hx.out.later hb3) hlx).mono ?_
            rintro e w2 ⟨v2, rfl, hO2, hb4⟩
            obtain ⟨A2, c2, rfl, hs2⟩ := hO2.sl
            have hb5 := hb3.trans (hb4.mono hb3.size)
            have hb6 := hbA.trans (hb4.mono hbA.size)
            have hc2 : w2.cell? ⟨w1.heap.size, 0, none⟩ = some (.slice A1 (touches y).length c1) := (hb4.cell (p := ⟨w1.heap.size, 0, none⟩) (by simp)).trans (cell_of_row _ w1.heap.size 0 #[.slice A1 (touches y).length c1] 55 (0, 0) (heap_alloc_new w1 _))
            have Hc2 := Lib.hid hc2
            have HT := Lib.hid (touches_len y hly)
            have Hlt : w1.heap.size < w2.heap.size := by have := hb4.size; simp at this; omega
            clear hO2 hc2
            go_wp2_with fail
            refine (containsFunc_str A2 c2 (touches x) 50 #[.pointer (some ⟨w1.heap.size, 0, none⟩)] (fun s => (touches y).any fun t => decide (s = t)) _ hs2 (Nat.le_trans (touches_len x hlx) (by decide)) (enters_of Try.func50 (by kernel_rfl) rfl)
              (fun s _ w3 hb7 => clash1_c s w1.heap.size A1 c1 (touches y) w3 ((hb7.cell (p := ⟨w1.heap.size, 0, none⟩) Hlt).trans Hc2.out) (Hs1.out.later (hb6.trans (hb7.mono hb6.size))) (Nat.le_trans HT.out (by decide)))).mono ?_
            rintro e w3 ⟨rfl, hb8⟩
            go_wp2
            go_ret
            exact ⟨by rw [Hs.out]; rfl, hb5.trans (hb8.mono hb5.size)⟩
end Go.Proofs.Ytogecfddkohigaa
