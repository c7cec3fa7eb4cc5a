/- Texts of this claim, laid together: RClash, RRight, RfName. -/
import Derived.Test.YtdkkblhfjblpkaaGreatRows
import Derived.Test.YtdkkblhfjblpkaaGreatBi19
import Derived.Test.YtdkkblhfjblpkaaGreatBi5
import Derived.Test.YtdkkblhfjblpkaaGreatBi3
import Derived.Deep.RegionHeld3
import Derived.WalkKit
import Derived.WalkSpells
import Derived.WalkLawsBesides
import Derived.Deep.QuietTactic
import Derived.BigQuiet
import Derived.Laws.StructEq
import Derived.Deep.DeepFit
import Derived.StillTailTactics
import Derived.Test.YtdkkblhfjblpkaaGreatBi4
import Derived.Test.YtdkkblhfjblpkaaGreatBi1

/- ref10.Clash -/
namespace Go.Proofs.YtdkkblhfjblpkaaGreat
open Go.RowKit
def noTo (s : ByteArray) (Y : List ByteArray) (m : Nat) : Prop := ∀ j (hj : j < Y.length), j < m → ¬ s = Y[j]
theorem noTo.next {s : ByteArray} {Y : List ByteArray} {m : Nat} (h : noTo s Y m) (hm : m < Y.length) (he : ¬ s = Y[m]) : noTo s Y (m + 1) := fun j hj hjm => by
  rcases Nat.lt_succ_iff_lt_or_eq.1 hjm with hjm | rfl
  · exact h j hj hjm
  · exact he
theorem noTo.all {s : ByteArray} {Y : List ByteArray} (h : noTo s Y Y.length) : (Y.any fun t => decide (s = t)) = false := by
  rw [List.any_eq_false]
  intro t ht
  obtain ⟨j, hj, rfl⟩ := List.getElem_of_mem ht
  rw [decide_eq_false (h j hj hj)]; simp
def noneTo (X Y : List ByteArray) (k : Nat) : Prop := ∀ j (hj : j < X.length), j < k → (Y.any fun t => decide (X[j] = t)) = false
theorem noneTo.next {X Y : List ByteArray} {k : Nat} (h : noneTo X Y k) (hk : k < X.length) (he : (Y.any fun t => decide (X[k] = t)) = false) : noneTo X Y (k + 1) := fun j hj hjk => by
  rcases Nat.lt_succ_iff_lt_or_eq.1 hjk with hjk | rfl
  · exact h j hj hjk
  · exact he
theorem any_hit {X Y : List ByteArray} {k m : Nat} (hk : k < X.length) (hm : m < Y.length) (h : X[k] = Y[m]) : (X.any fun s => Y.any fun t => decide (s = t)) = true := by
  rw [List.any_eq_true]
  exact ⟨X[k], List.getElem_mem hk, by rw [List.any_eq_true]; exact ⟨Y[m], List.getElem_mem hm, decide_eq_true h⟩⟩
theorem any_none {X Y : List ByteArray} (h : noneTo X Y X.length) : (X.any fun s => Y.any fun t => decide (s = t)) = false := by
  rw [List.any_eq_false]
  intro s hs
  obtain ⟨j, hj, rfl⟩ := List.getElem_of_mem hs
  rw [h j hj hj]; simp

set_option maxRecDepth 100000 in
set_option maxHeartbeats 8000000 in
theorem rclash_c (hT : RTouch) (x y : Od) (w : World) (hx : Okb w w.heap.size x) (hy : Okb w w.heap.size y) (hlx : x.legs.length ≤ 10) (hly : y.legs.length ≤ 10) :
    Calls Tryz.prog 71 #[x.v, y.v] w fun e w' => e = .returned (.bool (clashB x y)) ∧ Below w.heap.size w w' := by
  have hb2 : Below w.heap.size w ((w.alloc (.cells #[i64 x.client, i64 x.seq, i64 x.kind, .string x.acct, .string x.peer, i64 x.sum, .slice x.la x.legs.length x.lc, i64 x.period, i64 x.hold, .string x.note] 50)).alloc (.cells #[i64 y.client, i64 y.seq, i64 y.kind, .string y.acct, .string y.peer, i64 y.sum, .slice y.la y.legs.length y.lc, i64 y.period, i64 y.hold, .string y.note] 50)) := ((Below.refl _ _).alloc (Nat.le_refl _) _).alloc (by simp) _
  have HT := Lib.hid hT
  clear hT
  by_cases h1 : x.id = y.id
  · have q1 : ∀ W : World, (binOp .eql 47 (.agg #[i64 x.client, i64 x.seq]) (.agg #[i64 y.client, i64 y.seq])).run Tryz.prog W = .ok (.bool true) W := fun W => by rw [eq_id, decide_eq_true (show Id.mk x.client x.seq = ⟨y.client, y.seq⟩ from h1)]
    have Hs : Hid (clashB x y = true) := Lib.hid (by unfold clashB; rw [decide_eq_true h1]; rfl)
    clear h1 hx hy
    unfold Od.v
    go_enter Tryz.func71, Tryz.ntmps71
    go_wp2
    go_ret
    exact ⟨by rw [Hs.out]; rfl, hb2⟩
  · have q1 : ∀ W : World, (binOp .eql 47 (.agg #[i64 x.client, i64 x.seq]) (.agg #[i64 y.client, i64 y.seq])).run Tryz.prog W = .ok (.bool false) W := fun W => by rw [eq_id, decide_eq_false (show ¬ Id.mk x.client x.seq = ⟨y.client, y.seq⟩ from h1)]
    have H1 := Lib.hid h1
    clear h1
    by_cases h2 : x.kind = 6
    · have q2 : (x.kind == 6) = true := beq_iff_eq.2 h2
      have Hs : Hid (clashB x y = true) := Lib.hid (by unfold clashB; rw [decide_eq_false H1.out, decide_eq_true h2]; rfl)
      clear h2 hx hy
      unfold Od.v
      go_enter Tryz.func71, Tryz.ntmps71
      go_wp2
      go_ret
      exact ⟨by rw [Hs.out]; rfl, hb2⟩
    · have q2 : (x.kind == 6) = false := beq_eq_false_iff_ne.2 h2
      have H2 := Lib.hid h2
      clear h2
      by_cases h3 : y.kind = 6
      · have q3 : (y.kind == 6) = true := beq_iff_eq.2 h3
        have Hs : Hid (clashB x y = true) := Lib.hid (by unfold clashB; rw [decide_eq_false H1.out, decide_eq_false H2.out, decide_eq_true h3]; rfl)
        clear h3 hx hy
        unfold Od.v
        go_enter Tryz.func71, Tryz.ntmps71
        go_wp2
        go_ret
        exact ⟨by rw [Hs.out]; rfl, hb2⟩
      · have q3 : (y.kind == 6) = false := beq_eq_false_iff_ne.2 h3
        have H3 := Lib.hid h3
        clear h3
        by_cases h4 : x.kind = 1 ∧ y.kind = 1
        · have q4 : (x.kind == 1) = true := beq_iff_eq.2 h4.1
          have q5 : (y.kind == 1) = true := beq_iff_eq.2 h4.2
          have Hs : Hid (clashB x y = true) := Lib.hid (by unfold clashB; rw [decide_eq_false H1.out, decide_eq_false H2.out, decide_eq_false H3.out, decide_eq_true h4.1, decide_eq_true h4.2]; rfl)
          clear h4 hx hy
          unfold Od.v
          go_enter Tryz.func71, Tryz.ntmps71
          go_wp2
          go_ret
          exact ⟨by rw [Hs.out]; rfl, hb2⟩
        · have Hs : Hid (clashB x y = (touches x).any fun s => (touches y).any fun t => decide (s = t)) := Lib.hid (by
            unfold clashB
            rw [decide_eq_false H1.out, decide_eq_false H2.out, decide_eq_false H3.out, ← Bool.decide_and, decide_eq_false h4]; rfl)
          have Hx := Lib.hid (show Okb w w.heap.size x from hx)
          have Hy := Lib.hid (show Okb w w.heap.size y from hy)
          clear hx hy
          unfold Od.v
          by_cases h5 : x.kind = 1
          · have q4 : (x.kind == 1) = true := beq_iff_eq.2 h5
            have q5 : (y.kind == 1) = false := beq_eq_false_iff_ne.2 fun h => h4 ⟨h5, h⟩
            clear h4 h5
            go_enter Tryz.func71, Tryz.ntmps71
            go_wp2_with fail
            have e0 : World.cell? ((w.alloc (.cells #[i64 x.client, i64 x.seq, i64 x.kind, .string x.acct, .string x.peer, i64 x.sum, .slice x.la x.legs.length x.lc, i64 x.period, i64 x.hold, .string x.note] 50)).alloc (.cells #[i64 y.client, i64 y.seq, i64 y.kind, .string y.acct, .string y.peer, i64 y.sum, .slice y.la y.legs.length y.lc, i64 y.period, i64 y.hold, .string y.note] 50)) ⟨w.heap.size, 0, none⟩ = some (i64 x.client) := cell_of_row _ w.heap.size 0 _ _ (0, 0) (heap_alloc2_old w _ _)
            have e1 : World.cell? ((w.alloc (.cells #[i64 x.client, i64 x.seq, i64 x.kind, .string x.acct, .string x.peer, i64 x.sum, .slice x.la x.legs.length x.lc, i64 x.period, i64 x.hold, .string x.note] 50)).alloc (.cells #[i64 y.client, i64 y.seq, i64 y.kind, .string y.acct, .string y.peer, i64 y.sum, .slice y.la y.legs.length y.lc, i64 y.period, i64 y.hold, .string y.note] 50)) ⟨w.heap.size, 1, none⟩ = some (i64 x.seq) := cell_of_row _ w.heap.size 1 _ _ (0, 0) (heap_alloc2_old w _ _)
            have e2 : World.cell? ((w.alloc (.cells #[i64 x.client, i64 x.seq, i64 x.kind, .string x.acct, .string x.peer, i64 x.sum, .slice x.la x.legs.length x.lc, i64 x.period, i64 x.hold, .string x.note] 50)).alloc (.cells #[i64 y.client, i64 y.seq, i64 y.kind, .string y.acct, .string y.peer, i64 y.sum, .slice y.la y.legs.length y.lc, i64 y.period, i64 y.hold, .string y.note] 50)) ⟨w.heap.size, 2, none⟩ = some (i64 x.kind) := cell_of_row _ w.heap.size 2 _ _ (0, 0) (heap_alloc2_old w _ _)
            have e3 : World.cell? ((w.alloc (.cells #[i64 x.client, i64 x.seq, i64 x.kind, .string x.acct, .string x.peer, i64 x.sum, .slice x.la x.legs.length x.lc, i64 x.period, i64 x.hold, .string x.note] 50)).alloc (.cells #[i64 y.client, i64 y.seq, i64 y.kind, .string y.acct, .string y.peer, i64 y.sum, .slice y.la y.legs.length y.lc, i64 y.period, i64 y.hold, .string y.note] 50)) ⟨w.heap.size, 3, none⟩ = some (.string x.acct) := cell_of_row _ w.heap.size 3 _ _ (0, 0) (heap_alloc2_old w _ _)
            have e4 : World.cell? ((w.alloc (.cells #[i64 x.client, i64 x.seq, i64 x.kind, .string x.acct, .string x.peer, i64 x.sum, .slice x.la x.legs.length x.lc, i64 x.period, i64 x.hold, .string x.note] 50)).alloc (.cells #[i64 y.client, i64 y.seq, i64 y.kind, .string y.acct, .string y.peer, i64 y.sum, .slice y.la y.legs.length y.lc, i64 y.period, i64 y.hold, .string y.note] 50)) ⟨w.heap.size, 4, none⟩ = some (.string x.peer) := cell_of_row _ w.heap.size 4 _ _ (0, 0) (heap_alloc2_old w _ _)
            have e5 : World.cell? ((w.alloc (.cells #[i64 x.client, i64 x.seq, i64 x.kind, .string x.acct, .string x.peer, i64 x.sum, .slice x.la x.legs.length x.lc, i64 x.period, i64 x.hold, .string x.note] 50)).alloc (.cells #[i64 y.client, i64 y.seq, i64 y.kind, .string y.acct, .string y.peer, i64 y.sum, .slice y.la y.legs.length y.lc, i64 y.period, i64 y.hold, .string y.note] 50)) ⟨w.heap.size, 5, none⟩ = some (i64 x.sum) := cell_of_row _ w.heap.size 5 _ _ (0, 0) (heap_alloc2_old w _ _)
            have e6 : World.cell? ((w.alloc (.cells #[i64 x.client, i64 x.seq, i64 x.kind, .string x.acct, .string x.peer, i64 x.sum, .slice x.la x.legs.length x.lc, i64 x.period, i64 x.hold, .string x.note] 50)).alloc (.cells #[i64 y.client, i64 y.seq, i64 y.kind, .string y.acct, .string y.peer, i64 y.sum, .slice y.la y.legs.length y.lc, i64 y.period, i64 y.hold, .string y.note] 50)) ⟨w.heap.size, 6, none⟩ = some (.slice x.la x.legs.length x.lc) := cell_of_row _ w.heap.size 6 _ _ (0, 0) (heap_alloc2_old w _ _)
            have e7 : World.cell? ((w.alloc (.cells #[i64 x.client, i64 x.seq, i64 x.kind, .string x.acct, .string x.peer, i64 x.sum, .slice x.la x.legs.length x.lc, i64 x.period, i64 x.hold, .string x.note] 50)).alloc (.cells #[i64 y.client, i64 y.seq, i64 y.kind, .string y.acct, .string y.peer, i64 y.sum, .slice y.la y.legs.length y.lc, i64 y.period, i64 y.hold, .string y.note] 50)) ⟨w.heap.size, 7, none⟩ = some (i64 x.period) := cell_of_row _ w.heap.size 7 _ _ (0, 0) (heap_alloc2_old w _ _)
            have e8 : World.cell? ((w.alloc (.cells #[i64 x.client, i64 x.seq, i64 x.kind, .string x.acct, .string x.peer, i64 x.sum, .slice x.la x.legs.length x.lc, i64 x.period, i64 x.hold, .string x.note] 50)).alloc (.cells #[i64 y.client, i64 y.seq, i64 y.kind, .string y.acct, .string y.peer, i64 y.sum, .slice y.la y.legs.length y.lc, i64 y.period, i64 y.hold, .string y.note] 50)) ⟨w.heap.size, 8, none⟩ = some (i64 x.hold) := cell_of_row _ w.heap.size 8 _ _ (0, 0) (heap_alloc2_old w _ _)
            have e9 : World.cell? ((w.alloc (.cells #[i64 x.client, i64 x.seq, i64 x.kind, .string x.acct, .string x.peer, i64 x.sum, .slice x.la x.legs.length x.lc, i64 x.period, i64 x.hold, .string x.note] 50)).alloc (.cells #[i64 y.client, i64 y.seq, i64 y.kind, .string y.acct, .string y.peer, i64 y.sum, .slice y.la y.legs.length y.lc, i64 y.period, i64 y.hold, .string y.note] 50)) ⟨w.heap.size, 9, none⟩ = some (.string x.note) := cell_of_row _ w.heap.size 9 _ _ (0, 0) (heap_alloc2_old w _ _)
            have d0 : World.cell? ((w.alloc (.cells #[i64 x.client, i64 x.seq, i64 x.kind, .string x.acct, .string x.peer, i64 x.sum, .slice x.la x.legs.length x.lc, i64 x.period, i64 x.hold, .string x.note] 50)).alloc (.cells #[i64 y.client, i64 y.seq, i64 y.kind, .string y.acct, .string y.peer, i64 y.sum, .slice y.la y.legs.length y.lc, i64 y.period, i64 y.hold, .string y.note] 50)) ⟨w.heap.size + 1, 0, none⟩ = some (i64 y.client) := cell_of_row _ (w.heap.size + 1) 0 _ _ (0, 0) (heap_alloc2_new w _ _)
            have d1 : World.cell? ((w.alloc (.cells #[i64 x.client, i64 x.seq, i64 x.kind, .string x.acct, .string x.peer, i64 x.sum, .slice x.la x.legs.length x.lc, i64 x.period, i64 x.hold, .string x.note] 50)).alloc (.cells #[i64 y.client, i64 y.seq, i64 y.kind, .string y.acct, .string y.peer, i64 y.sum, .slice y.la y.legs.length y.lc, i64 y.period, i64 y.hold, .string y.note] 50)) ⟨w.heap.size + 1, 1, none⟩ = some (i64 y.seq) := cell_of_row _ (w.heap.size + 1) 1 _ _ (0, 0) (heap_alloc2_new w _ _)
            have d2 : World.cell? ((w.alloc (.cells #[i64 x.client, i64 x.seq, i64 x.kind, .string x.acct, .string x.peer, i64 x.sum, .slice x.la x.legs.length x.lc, i64 x.period, i64 x.hold, .string x.note] 50)).alloc (.cells #[i64 y.client, i64 y.seq, i64 y.kind, .string y.acct, .string y.peer, i64 y.sum, .slice y.la y.legs.length y.lc, i64 y.period, i64 y.hold, .string y.note] 50)) ⟨w.heap.size + 1, 2, none⟩ = some (i64 y.kind) := cell_of_row _ (w.heap.size + 1) 2 _ _ (0, 0) (heap_alloc2_new w _ _)
            have d3 : World.cell? ((w.alloc (.cells #[i64 x.client, i64 x.seq, i64 x.kind, .string x.acct, .string x.peer, i64 x.sum, .slice x.la x.legs.length x.lc, i64 x.period, i64 x.hold, .string x.note] 50)).alloc (.cells #[i64 y.client, i64 y.seq, i64 y.kind, .string y.acct, .string y.peer, i64 y.sum, .slice y.la y.legs.length y.lc, i64 y.period, i64 y.hold, .string y.note] 50)) ⟨w.heap.size + 1, 3, none⟩ = some (.string y.acct) := cell_of_row _ (w.heap.size + 1) 3 _ _ (0, 0) (heap_alloc2_new w _ _)
            have d4 : World.cell? ((w.alloc (.cells #[i64 x.client, i64 x.seq, i64 x.kind, .string x.acct, .string x.peer, i64 x.sum, .slice x.la x.legs.length x.lc, i64 x.period, i64 x.hold, .string x.note] 50)).alloc (.cells #[i64 y.client, i64 y.seq, i64 y.kind, .string y.acct, .string y.peer, i64 y.sum, .slice y.la y.legs.length y.lc, i64 y.period, i64 y.hold, .string y.note] 50)) ⟨w.heap.size + 1, 4, none⟩ = some (.string y.peer) := cell_of_row _ (w.heap.size + 1) 4 _ _ (0, 0) (heap_alloc2_new w _ _)
            have d5 : World.cell? ((w.alloc (.cells #[i64 x.client, i64 x.seq, i64 x.kind, .string x.acct, .string x.peer, i64 x.sum, .slice x.la x.legs.length x.lc, i64 x.period, i64 x.hold, .string x.note] 50)).alloc (.cells #[i64 y.client, i64 y.seq, i64 y.kind, .string y.acct, .string y.peer, i64 y.sum, .slice y.la y.legs.length y.lc, i64 y.period, i64 y.hold, .string y.note] 50)) ⟨w.heap.size + 1, 5, none⟩ = some (i64 y.sum) := cell_of_row _ (w.heap.size + 1) 5 _ _ (0, 0) (heap_alloc2_new w _ _)
            have d6 : World.cell? ((w.alloc (.cells #[i64 x.client, i64 x.seq, i64 x.kind, .string x.acct, .string x.peer, i64 x.sum, .slice x.la x.legs.length x.lc, i64 x.period, i64 x.hold, .string x.note] 50)).alloc (.cells #[i64 y.client, i64 y.seq, i64 y.kind, .string y.acct, .string y.peer, i64 y.sum, .slice y.la y.legs.length y.lc, i64 y.period, i64 y.hold, .string y.note] 50)) ⟨w.heap.size + 1, 6, none⟩ = some (.slice y.la y.legs.length y.lc) := cell_of_row _ (w.heap.size + 1) 6 _ _ (0, 0) (heap_alloc2_new w _ _)
            have d7 : World.cell? ((w.alloc (.cells #[i64 x.client, i64 x.seq, i64 x.kind, .string x.acct, .string x.peer, i64 x.sum, .slice x.la x.legs.length x.lc, i64 x.period, i64 x.hold, .string x.note] 50)).alloc (.cells #[i64 y.client, i64 y.seq, i64 y.kind, .string y.acct, .string y.peer, i64 y.sum, .slice y.la y.legs.length y.lc, i64 y.period, i64 y.hold, .string y.note] 50)) ⟨w.heap.size + 1, 7, none⟩ = some (i64 y.period) := cell_of_row _ (w.heap.size + 1) 7 _ _ (0, 0) (heap_alloc2_new w _ _)
            have d8 : World.cell? ((w.alloc (.cells #[i64 x.client, i64 x.seq, i64 x.kind, .string x.acct, .string x.peer, i64 x.sum, .slice x.la x.legs.length x.lc, i64 x.period, i64 x.hold, .string x.note] 50)).alloc (.cells #[i64 y.client, i64 y.seq, i64 y.kind, .string y.acct, .string y.peer, i64 y.sum, .slice y.la y.legs.length y.lc, i64 y.period, i64 y.hold, .string y.note] 50)) ⟨w.heap.size + 1, 8, none⟩ = some (i64 y.hold) := cell_of_row _ (w.heap.size + 1) 8 _ _ (0, 0) (heap_alloc2_new w _ _)
            have d9 : World.cell? ((w.alloc (.cells #[i64 x.client, i64 x.seq, i64 x.kind, .string x.acct, .string x.peer, i64 x.sum, .slice x.la x.legs.length x.lc, i64 x.period, i64 x.hold, .string x.note] 50)).alloc (.cells #[i64 y.client, i64 y.seq, i64 y.kind, .string y.acct, .string y.peer, i64 y.sum, .slice y.la y.legs.length y.lc, i64 y.period, i64 y.hold, .string y.note] 50)) ⟨w.heap.size + 1, 9, none⟩ = some (.string y.note) := cell_of_row _ (w.heap.size + 1) 9 _ _ (0, 0) (heap_alloc2_new w _ _)
            generalize hW1 : (w.alloc (.cells #[i64 x.client, i64 x.seq, i64 x.kind, .string x.acct, .string x.peer, i64 x.sum, .slice x.la x.legs.length x.lc, i64 x.period, i64 x.hold, .string x.note] 50)).alloc (.cells #[i64 y.client, i64 y.seq, i64 y.kind, .string y.acct, .string y.peer, i64 y.sum, .slice y.la y.legs.length y.lc, i64 y.period, i64 y.hold, .string y.note] 50) = W1 at *
            clear hW1
            have hS : ∀ W, Below W1.heap.size W1 W → (Below W1.heap.size W1 W ∧ W.cell? ⟨w.heap.size, 0, none⟩ = some (i64 x.client) ∧ W.cell? ⟨w.heap.size, 1, none⟩ = some (i64 x.seq) ∧ W.cell? ⟨w.heap.size, 2, none⟩ = some (i64 x.kind) ∧ W.cell? ⟨w.heap.size, 3, none⟩ = some (.string x.acct) ∧ W.cell? ⟨w.heap.size, 4, none⟩ = some (.string x.peer) ∧ W.cell? ⟨w.heap.size, 5, none⟩ = some (i64 x.sum) ∧ W.cell? ⟨w.heap.size, 6, none⟩ = some (.slice x.la x.legs.length x.lc) ∧ W.cell? ⟨w.heap.size, 7, none⟩ = some (i64 x.period) ∧ W.cell? ⟨w.heap.size, 8, none⟩ = some (i64 x.hold) ∧ W.cell? ⟨w.heap.size, 9, none⟩ = some (.string x.note) ∧ W.cell? ⟨w.heap.size + 1, 0, none⟩ = some (i64 y.client) ∧ W.cell? ⟨w.heap.size + 1, 1, none⟩ = some (i64 y.seq) ∧ W.cell? ⟨w.heap.size + 1, 2, none⟩ = some (i64 y.kind) ∧ W.cell? ⟨w.heap.size + 1, 3, none⟩ = some (.string y.acct) ∧ W.cell? ⟨w.heap.size + 1, 4, none⟩ = some (.string y.peer) ∧ W.cell? ⟨w.heap.size + 1, 5, none⟩ = some (i64 y.sum) ∧ W.cell? ⟨w.heap.size + 1, 6, none⟩ = some (.slice y.la y.legs.length y.lc) ∧ W.cell? ⟨w.heap.size + 1, 7, none⟩ = some (i64 y.period) ∧ W.cell? ⟨w.heap.size + 1, 8, none⟩ = some (i64 y.hold) ∧ W.cell? ⟨w.heap.size + 1, 9, none⟩ = some (.string y.note)) := fun W h => ⟨h, (h.cell (World.block_lt_of_cell? _ _ e0)).trans e0, (h.cell (World.block_lt_of_cell? _ _ e1)).trans e1, (h.cell (World.block_lt_of_cell? _ _ e2)).trans e2, (h.cell (World.block_lt_of_cell? _ _ e3)).trans e3, (h.cell (World.block_lt_of_cell? _ _ e4)).trans e4, (h.cell (World.block_lt_of_cell? _ _ e5)).trans e5, (h.cell (World.block_lt_of_cell? _ _ e6)).trans e6, (h.cell (World.block_lt_of_cell? _ _ e7)).trans e7, (h.cell (World.block_lt_of_cell? _ _ e8)).trans e8, (h.cell (World.block_lt_of_cell? _ _ e9)).trans e9, (h.cell (World.block_lt_of_cell? _ _ d0)).trans d0, (h.cell (World.block_lt_of_cell? _ _ d1)).trans d1, (h.cell (World.block_lt_of_cell? _ _ d2)).trans d2, (h.cell (World.block_lt_of_cell? _ _ d3)).trans d3, (h.cell (World.block_lt_of_cell? _ _ d4)).trans d4, (h.cell (World.block_lt_of_cell? _ _ d5)).trans d5, (h.cell (World.block_lt_of_cell? _ _ d6)).trans d6, (h.cell (World.block_lt_of_cell? _ _ d7)).trans d7, (h.cell (World.block_lt_of_cell? _ _ d8)).trans d8, (h.cell (World.block_lt_of_cell? _ _ d9)).trans d9⟩
            clear e0 d0 e1 d1 e2 d2 e3 d3 e4 d4 e5 d5 e6 d6 e7 d7 e8 d8 e9 d9
            have tx : ∀ W, Below W1.heap.size W1 W → Calls Tryz.prog 109 #[.agg #[i64 x.client, i64 x.seq, i64 x.kind, .string x.acct, .string x.peer, i64 x.sum, .slice x.la x.legs.length x.lc, i64 x.period, i64 x.hold, .string x.note]] W fun e w' => ∃ v, e = .returned v ∧ Own w' W.heap.size 9 v (touches x) ∧ Below W.heap.size W w' := fun W h => HT.out x W (Okb.later (Okb.later Hx.out hb2) h) hlx
            have ty : ∀ W, Below W1.heap.size W1 W → Calls Tryz.prog 109 #[.agg #[i64 y.client, i64 y.seq, i64 y.kind, .string y.acct, .string y.peer, i64 y.sum, .slice y.la y.legs.length y.lc, i64 y.period, i64 y.hold, .string y.note]] W fun e w' => ∃ v, e = .returned v ∧ Own w' W.heap.size 9 v (touches y) ∧ Below W.heap.size W w' := fun W h => HT.out y W (Okb.later (Okb.later Hy.out hb2) h) hly
            have nX := touches_len x hlx
            have nY := touches_len y hly
            clear hlx hly Hx Hy
            have h0 := (Below.refl W1.heap.size W1).drew
            refine wp_region_noPanic ?_
            refine wp_region_held_drew (S := fun W => Below W1.heap.size W1 W ∧ W.cell? ⟨w.heap.size, 0, none⟩ = some (i64 x.client) ∧ W.cell? ⟨w.heap.size, 1, none⟩ = some (i64 x.seq) ∧ W.cell? ⟨w.heap.size, 2, none⟩ = some (i64 x.kind) ∧ W.cell? ⟨w.heap.size, 3, none⟩ = some (.string x.acct) ∧ W.cell? ⟨w.heap.size, 4, none⟩ = some (.string x.peer) ∧ W.cell? ⟨w.heap.size, 5, none⟩ = some (i64 x.sum) ∧ W.cell? ⟨w.heap.size, 6, none⟩ = some (.slice x.la x.legs.length x.lc) ∧ W.cell? ⟨w.heap.size, 7, none⟩ = some (i64 x.period) ∧ W.cell? ⟨w.heap.size, 8, none⟩ = some (i64 x.hold) ∧ W.cell? ⟨w.heap.size, 9, none⟩ = some (.string x.note) ∧ W.cell? ⟨w.heap.size + 1, 0, none⟩ = some (i64 y.client) ∧ W.cell? ⟨w.heap.size + 1, 1, none⟩ = some (i64 y.seq) ∧ W.cell? ⟨w.heap.size + 1, 2, none⟩ = some (i64 y.kind) ∧ W.cell? ⟨w.heap.size + 1, 3, none⟩ = some (.string y.acct) ∧ W.cell? ⟨w.heap.size + 1, 4, none⟩ = some (.string y.peer) ∧ W.cell? ⟨w.heap.size + 1, 5, none⟩ = some (i64 y.sum) ∧ W.cell? ⟨w.heap.size + 1, 6, none⟩ = some (.slice y.la y.legs.length y.lc) ∧ W.cell? ⟨w.heap.size + 1, 7, none⟩ = some (i64 y.period) ∧ W.cell? ⟨w.heap.size + 1, 8, none⟩ = some (i64 y.hold) ∧ W.cell? ⟨w.heap.size + 1, 9, none⟩ = some (.string y.note)) (by kernel_rfl) (hS _ h0) (fun hH => ?_)
            refine wpAnyH_take (i := 0) (v := ?v100) rfl (by kernel_rfl) (by kernel_rfl) (by kernel_rfl) (fun _ _ _ h => h) (Or.inl ⟨by kernel_rfl, ?hy100⟩) (by assumption) ?r100
            case hy100 => (intro W hSW; obtain ⟨_, f0, f1, f2, f3, f4, f5, f6, f7, f8, f9, f10, f11, f12, f13, f14, f15, f16, f17, f18, f19⟩ := hSW; go_simp; try with_reducible rfl)
            simp only [Act.put, List.setIfInBounds_toArray]
            refine wpAnyH_take (i := 2) (v := ?v202) rfl (by kernel_rfl) (by kernel_rfl) (by kernel_rfl) (fun _ _ _ h => h) (Or.inl ⟨by kernel_rfl, ?hy202⟩) (by assumption) ?r202
            case hy202 => (intro W hSW; obtain ⟨_, f0, f1, f2, f3, f4, f5, f6, f7, f8, f9, f10, f11, f12, f13, f14, f15, f16, f17, f18, f19⟩ := hSW; go_simp; try with_reducible rfl)
            simp only [Act.put]
            refine wpAnyH_ready (rs := [1]) (by kernel_rfl) (by simp) ?_
            refine AllReadyH.cons rfl (fun K hK => ?_) AllReadyH.nil
            go_simp
            go_at_call 109
            with_reducible refine (tx _ h0).mono ?_
            rintro e w6 ⟨v6, rfl, hO6, hF6⟩
            obtain ⟨A6, c6, rfl, hs6⟩ := hO6.sl
            have h6 := below_on h0 (Nat.le_refl _) hF6
            refine hK.out _ _ (hS _ h6) (fun hH2 => ?_)
            clear hK K hO6 hF6
            refine wpAnyH_ready (rs := [3]) (by kernel_rfl) (by simp) ?_
            refine AllReadyH.cons rfl (fun K hK => ?_) AllReadyH.nil
            go_simp
            go_at_call 109
            with_reducible refine (ty _ h6).mono ?_
            rintro e w7 ⟨v7, rfl, hO7, hF7⟩
            obtain ⟨A7, c7, rfl, hs7⟩ := hO7.sl
            have h7 := below_on h6 (Nat.le_refl _) hF7
            refine hK.out _ _ (hS _ h7) (fun hH3 => ?_)
            have hs6 := hs6.later hF7
            clear hK K hO7 hF7
            refine wpAnyH_take (i := 4) (v := ?v304) rfl (by kernel_rfl) (by kernel_rfl) (by kernel_rfl) (fun _ _ _ h => h) (Or.inl ⟨by kernel_rfl, ?hy304⟩) (by assumption) ?r304
            case hy304 => (intro W hSW; obtain ⟨_, f0, f1, f2, f3, f4, f5, f6, f7, f8, f9, f10, f11, f12, f13, f14, f15, f16, f17, f18, f19⟩ := hSW; go_simp; try with_reducible rfl)
            simp only [Act.put, List.setIfInBounds_toArray]
            refine wpAnyH_take (i := 5) (v := ?v405) rfl (by kernel_rfl) (by kernel_rfl) (by kernel_rfl) (fun _ _ _ h => h) (Or.inl ⟨by kernel_rfl, ?hy405⟩) (by assumption) ?r405
            case hy405 => (intro W hSW; obtain ⟨_, f0, f1, f2, f3, f4, f5, f6, f7, f8, f9, f10, f11, f12, f13, f14, f15, f16, f17, f18, f19⟩ := hSW; go_simp; try with_reducible rfl)
            simp only [Act.put]
            refine wpAnyH_done (by kernel_rfl) ?_ _
            refine NoPanic.normal ?_
            have hB := below_on hb2 (Nat.le_refl _) h7
            clear hH hH2 hH3 hS tx ty h0 h6 h7 hb2
            generalize touches x = X at *
            generalize touches y = Y at *
            go_wp2_with fail
            go_loopw [7] (fun i wr => ∃ k : Nat, i = i64 k ∧ k ≤ X.length ∧ noneTo X Y k ∧ Below w7.heap.size w7 wr) (fun i _ => X.length - (intOf i).toNat)
            case atStart => exact ⟨0, rfl, by omega, fun _ _ h => absurd h (by omega), Below.refl _ _⟩
            case round =>
              obtain ⟨k, rfl, hk, hno, hr⟩ := hrel
              have Hno := Lib.hid hno
              clear hno
              by_cases hlt : k < X.length
              · go_wp2_with fail
                go_loopw [8] (fun i wI => ∃ m : Nat, i = i64 m ∧ m ≤ Y.length ∧ noTo X[k] Y m ∧ Below w7.heap.size w7 wI) (fun i _ => Y.length - (intOf i).toNat)
                case atStart => exact ⟨0, rfl, by omega, fun _ _ h => absurd h (by omega), hr⟩
                case round =>
                  obtain ⟨m, rfl, hm, hni, hI⟩ := hrel
                  have Hni := Lib.hid hni
                  clear hni
                  by_cases hmt : m < Y.length
                  · obtain ⟨b1, o1, rfl, -, -, d0⟩ := (hs6.later hI).str hlt
                    obtain ⟨b2, o2, rfl, -, -, d1⟩ := (hs7.later hI).str hmt
                    have i0 : (0 : Int) ≤ (k : Int) := by omega
                    have i1 : (k : Int) < (X.length : Int) := by omega
                    have m0 : (0 : Int) ≤ (m : Int) := by omega
                    have m1 : (m : Int) < (Y.length : Int) := by omega
                    by_cases he : X[k] = Y[m]
                    · have g := beqS_of_eq he
                      have He := Lib.hid he
                      clear he
                      go_wp2_with fail
                      go_quiet (fail)
                      go_wp2
                      go_ret
                      refine ⟨?_, below_drewN (below_on hB (Nat.le_refl _) hI) _⟩
                      rw [Hs.out, any_hit hlt hmt He.out]
                      rfl
                    · have g := beqS_of_ne he
                      have He := Lib.hid he
                      clear he
                      go_wp2_with fail
                      go_quiet (fail)
                      go_wp2
                      go_roundw
                      case rel => exact ⟨m + 1, by go_num, by omega, Hni.out.next hmt He.out, below_drewN hI _⟩
                      case measure => simp [intOf]; omega
                  · obtain rfl : m = Y.length := by omega
                    go_wp2
                    go_roundw
                    case rel => exact ⟨k + 1, by go_num, by omega, Hno.out.next hlt Hni.out.all, hI⟩
                    case measure => simp [intOf]; omega
              · obtain rfl : k = X.length := by omega
                go_wp2
                go_ret
                refine ⟨?_, below_on hB (Nat.le_refl _) hr⟩
                rw [Hs.out, any_none Hno.out]
                rfl
          · have q4 : (x.kind == 1) = false := beq_eq_false_iff_ne.2 h5
            clear h4 h5
            go_enter Tryz.func71, Tryz.ntmps71
            go_wp2_with fail
            have e0 : World.cell? ((w.alloc (.cells #[i64 x.client, i64 x.seq, i64 x.kind, .string x.acct, .string x.peer, i64 x.sum, .slice x.la x.legs.length x.lc, i64 x.period, i64 x.hold, .string x.note] 50)).alloc (.cells #[i64 y.client, i64 y.seq, i64 y.kind, .string y.acct, .string y.peer, i64 y.sum, .slice y.la y.legs.length y.lc, i64 y.period, i64 y.hold, .string y.note] 50)) ⟨w.heap.size, 0, none⟩ = some (i64 x.client) := cell_of_row _ w.heap.size 0 _ _ (0, 0) (heap_alloc2_old w _ _)
            have e1 : World.cell? ((w.alloc (.cells #[i64 x.client, i64 x.seq, i64 x.kind, .string x.acct, .string x.peer, i64 x.sum, .slice x.la x.legs.length x.lc, i64 x.period, i64 x.hold, .string x.note] 50)).alloc (.cells #[i64 y.client, i64 y.seq, i64 y.kind, .string y.acct, .string y.peer, i64 y.sum, .slice y.la y.legs.length y.lc, i64 y.period, i64 y.hold, .string y.note] 50)) ⟨w.heap.size, 1, none⟩ = some (i64 x.seq) := cell_of_row _ w.heap.size 1 _ _ (0, 0) (heap_alloc2_old w _ _)
            have e2 : World.cell? ((w.alloc (.cells #[i64 x.client, i64 x.seq, i64 x.kind, .string x.acct, .string x.peer, i64 x.sum, .slice x.la x.legs.length x.lc, i64 x.period, i64 x.hold, .string x.note] 50)).alloc (.cells #[i64 y.client, i64 y.seq, i64 y.kind, .string y.acct, .string y.peer, i64 y.sum, .slice y.la y.legs.length y.lc, i64 y.period, i64 y.hold, .string y.note] 50)) ⟨w.heap.size, 2, none⟩ = some (i64 x.kind) := cell_of_row _ w.heap.size 2 _ _ (0, 0) (heap_alloc2_old w _ _)
            have e3 : World.cell? ((w.alloc (.cells #[i64 x.client, i64 x.seq, i64 x.kind, .string x.acct, .string x.peer, i64 x.sum, .slice x.la x.legs.length x.lc, i64 x.period, i64 x.hold, .string x.note] 50)).alloc (.cells #[i64 y.client, i64 y.seq, i64 y.kind, .string y.acct, .string y.peer, i64 y.sum, .slice y.la y.legs.length y.lc, i64 y.period, i64 y.hold, .string y.note] 50)) ⟨w.heap.size, 3, none⟩ = some (.string x.acct) := cell_of_row _ w.heap.size 3 _ _ (0, 0) (heap_alloc2_old w _ _)
            have e4 : World.cell? ((w.alloc (.cells #[i64 x.client, i64 x.seq, i64 x.kind, .string x.acct, .string x.peer, i64 x.sum, .slice x.la x.legs.length x.lc, i64 x.period, i64 x.hold, .string x.note] 50)).alloc (.cells #[i64 y.client, i64 y.seq, i64 y.kind, .string y.acct, .string y.peer, i64 y.sum, .slice y.la y.legs.length y.lc, i64 y.period, i64 y.hold, .string y.note] 50)) ⟨w.heap.size, 4, none⟩ = some (.string x.peer) := cell_of_row _ w.heap.size 4 _ _ (0, 0) (heap_alloc2_old w _ _)
            have e5 : World.cell? ((w.alloc (.cells #[i64 x.client, i64 x.seq, i64 x.kind, .string x.acct, .string x.peer, i64 x.sum, .slice x.la x.legs.length x.lc, i64 x.period, i64 x.hold, .string x.note] 50)).alloc (.cells #[i64 y.client, i64 y.seq, i64 y.kind, .string y.acct, .string y.peer, i64 y.sum, .slice y.la y.legs.length y.lc, i64 y.period, i64 y.hold, .string y.note] 50)) ⟨w.heap.size, 5, none⟩ = some (i64 x.sum) := cell_of_row _ w.heap.size 5 _ _ (0, 0) (heap_alloc2_old w _ _)
            have e6 : World.cell? ((w.alloc (.cells #[i64 x.client, i64 x.seq, i64 x.kind, .string x.acct, .string x.peer, i64 x.sum, .slice x.la x.legs.length x.lc, i64 x.period, i64 x.hold, .string x.note] 50)).alloc (.cells #[i64 y.client, i64 y.seq, i64 y.kind, .string y.acct, .string y.peer, i64 y.sum, .slice y.la y.legs.length y.lc, i64 y.period, i64 y.hold, .string y.note] 50)) ⟨w.heap.size, 6, none⟩ = some (.slice x.la x.legs.length x.lc) := cell_of_row _ w.heap.size 6 _ _ (0, 0) (heap_alloc2_old w _ _)
            have e7 : World.cell? ((w.alloc (.cells #[i64 x.client, i64 x.seq, i64 x.kind, .string x.acct, .string x.peer, i64 x.sum, .slice x.la x.legs.length x.lc, i64 x.period, i64 x.hold, .string x.note] 50)).alloc (.cells #[i64 y.client, i64 y.seq, i64 y.kind, .string y.acct, .string y.peer, i64 y.sum, .slice y.la y.legs.length y.lc, i64 y.period, i64 y.hold, .string y.note] 50)) ⟨w.heap.size, 7, none⟩ = some (i64 x.period) := cell_of_row _ w.heap.size 7 _ _ (0, 0) (heap_alloc2_old w _ _)
            have e8 : World.cell? ((w.alloc (.cells #[i64 x.client, i64 x.seq, i64 x.kind, .string x.acct, .string x.peer, i64 x.sum, .slice x.la x.legs.length x.lc, i64 x.period, i64 x.hold, .string x.note] 50)).alloc (.cells #[i64 y.client, i64 y.seq, i64 y.kind, .string y.acct, .string y.peer, i64 y.sum, .slice y.la y.legs.length y.lc, i64 y.period, i64 y.hold, .string y.note] 50)) ⟨w.heap.size, 8, none⟩ = some (i64 x.hold) := cell_of_row _ w.heap.size 8 _ _ (0, 0) (heap_alloc2_old w _ _)
            have e9 : World.cell? ((w.alloc (.cells #[i64 x.client, i64 x.seq, i64 x.kind, .string x.acct, .string x.peer, i64 x.sum, .slice x.la x.legs.length x.lc, i64 x.period, i64 x.hold, .string x.note] 50)).alloc (.cells #[i64 y.client, i64 y.seq, i64 y.kind, .string y.acct, .string y.peer, i64 y.sum, .slice y.la y.legs.length y.lc, i64 y.period, i64 y.hold, .string y.note] 50)) ⟨w.heap.size, 9, none⟩ = some (.string x.note) := cell_of_row _ w.heap.size 9 _ _ (0, 0) (heap_alloc2_old w _ _)
            have d0 : World.cell? ((w.alloc (.cells #[i64 x.client, i64 x.seq, i64 x.kind, .string x.acct, .string x.peer, i64 x.sum, .slice x.la x.legs.length x.lc, i64 x.period, i64 x.hold, .string x.note] 50)).alloc (.cells #[i64 y.client, i64 y.seq, i64 y.kind, .string y.acct, .string y.peer, i64 y.sum, .slice y.la y.legs.length y.lc, i64 y.period, i64 y.hold, .string y.note] 50)) ⟨w.heap.size + 1, 0, none⟩ = some (i64 y.client) := cell_of_row _ (w.heap.size + 1) 0 _ _ (0, 0) (heap_alloc2_new w _ _)
            have d1 : World.cell? ((w.alloc (.cells #[i64 x.client, i64 x.seq, i64 x.kind, .string x.acct, .string x.peer, i64 x.sum, .slice x.la x.legs.length x.lc, i64 x.period, i64 x.hold, .string x.note] 50)).alloc (.cells #[i64 y.client, i64 y.seq, i64 y.kind, .string y.acct, .string y.peer, i64 y.sum, .slice y.la y.legs.length y.lc, i64 y.period, i64 y.hold, .string y.note] 50)) ⟨w.heap.size + 1, 1, none⟩ = some (i64 y.seq) := cell_of_row _ (w.heap.size + 1) 1 _ _ (0, 0) (heap_alloc2_new w _ _)
            have d2 : World.cell? ((w.alloc (.cells #[i64 x.client, i64 x.seq, i64 x.kind, .string x.acct, .string x.peer, i64 x.sum, .slice x.la x.legs.length x.lc, i64 x.period, i64 x.hold, .string x.note] 50)).alloc (.cells #[i64 y.client, i64 y.seq, i64 y.kind, .string y.acct, .string y.peer, i64 y.sum, .slice y.la y.legs.length y.lc, i64 y.period, i64 y.hold, .string y.note] 50)) ⟨w.heap.size + 1, 2, none⟩ = some (i64 y.kind) := cell_of_row _ (w.heap.size + 1) 2 _ _ (0, 0) (heap_alloc2_new w _ _)
            have d3 : World.cell? ((w.alloc (.cells #[i64 x.client, i64 x.seq, i64 x.kind, .string x.acct, .string x.peer, i64 x.sum, .slice x.la x.legs.length x.lc, i64 x.period, i64 x.hold, .string x.note] 50)).alloc (.cells #[i64 y.client, i64 y.seq, i64 y.kind, .string y.acct, .string y.peer, i64 y.sum, .slice y.la y.legs.length y.lc, i64 y.period, i64 y.hold, .string y.note] 50)) ⟨w.heap.size + 1, 3, none⟩ = some (.string y.acct) := cell_of_row _ (w.heap.size + 1) 3 _ _ (0, 0) (heap_alloc2_new w _ _)
            have d4 : World.cell? ((w.alloc (.cells #[i64 x.client, i64 x.seq, i64 x.kind, .string x.acct, .string x.peer, i64 x.sum, .slice x.la x.legs.length x.lc, i64 x.period, i64 x.hold, .string x.note] 50)).alloc (.cells #[i64 y.client, i64 y.seq, i64 y.kind, .string y.acct, .string y.peer, i64 y.sum, .slice y.la y.legs.length y.lc, i64 y.period, i64 y.hold, .string y.note] 50)) ⟨w.heap.size + 1, 4, none⟩ = some (.string y.peer) := cell_of_row _ (w.heap.size + 1) 4 _ _ (0, 0) (heap_alloc2_new w _ _)
            have d5 : World.cell? ((w.alloc (.cells #[i64 x.client, i64 x.seq, i64 x.kind, .string x.acct, .string x.peer, i64 x.sum, .slice x.la x.legs.length x.lc, i64 x.period, i64 x.hold, .string x.note] 50)).alloc (.cells #[i64 y.client, i64 y.seq, i64 y.kind, .string y.acct, .string y.peer, i64 y.sum, .slice y.la y.legs.length y.lc, i64 y.period, i64 y.hold, .string y.note] 50)) ⟨w.heap.size + 1, 5, none⟩ = some (i64 y.sum) := cell_of_row _ (w.heap.size + 1) 5 _ _ (0, 0) (heap_alloc2_new w _ _)
            have d6 : World.cell? ((w.alloc (.cells #[i64 x.client, i64 x.seq, i64 x.kind, .string x.acct, .string x.peer, i64 x.sum, .slice x.la x.legs.length x.lc, i64 x.period, i64 x.hold, .string x.note] 50)).alloc (.cells #[i64 y.client, i64 y.seq, i64 y.kind, .string y.acct, .string y.peer, i64 y.sum, .slice y.la y.legs.length y.lc, i64 y.period, i64 y.hold, .string y.note] 50)) ⟨w.heap.size + 1, 6, none⟩ = some (.slice y.la y.legs.length y.lc) := cell_of_row _ (w.heap.size + 1) 6 _ _ (0, 0) (heap_alloc2_new w _ _)
            have d7 : World.cell? ((w.alloc (.cells #[i64 x.client, i64 x.seq, i64 x.kind, .string x.acct, .string x.peer, i64 x.sum, .slice x.la x.legs.length x.lc, i64 x.period, i64 x.hold, .string x.note] 50)).alloc (.cells #[i64 y.client, i64 y.seq, i64 y.kind, .string y.acct, .string y.peer, i64 y.sum, .slice y.la y.legs.length y.lc, i64 y.period, i64 y.hold, .string y.note] 50)) ⟨w.heap.size + 1, 7, none⟩ = some (i64 y.period) := cell_of_row _ (w.heap.size + 1) 7 _ _ (0, 0) (heap_alloc2_new w _ _)
            have d8 : World.cell? ((w.alloc (.cells #[i64 x.client, i64 x.seq, i64 x.kind, .string x.acct, .string x.peer, i64 x.sum, .slice x.la x.legs.length x.lc, i64 x.period, i64 x.hold, .string x.note] 50)).alloc (.cells #[i64 y.client, i64 y.seq, i64 y.kind, .string y.acct, .string y.peer, i64 y.sum, .slice y.la y.legs.length y.lc, i64 y.period, i64 y.hold, .string y.note] 50)) ⟨w.heap.size + 1, 8, none⟩ = some (i64 y.hold) := cell_of_row _ (w.heap.size + 1) 8 _ _ (0, 0) (heap_alloc2_new w _ _)
            have d9 : World.cell? ((w.alloc (.cells #[i64 x.client, i64 x.seq, i64 x.kind, .string x.acct, .string x.peer, i64 x.sum, .slice x.la x.legs.length x.lc, i64 x.period, i64 x.hold, .string x.note] 50)).alloc (.cells #[i64 y.client, i64 y.seq, i64 y.kind, .string y.acct, .string y.peer, i64 y.sum, .slice y.la y.legs.length y.lc, i64 y.period, i64 y.hold, .string y.note] 50)) ⟨w.heap.size + 1, 9, none⟩ = some (.string y.note) := cell_of_row _ (w.heap.size + 1) 9 _ _ (0, 0) (heap_alloc2_new w _ _)
            generalize hW1 : (w.alloc (.cells #[i64 x.client, i64 x.seq, i64 x.kind, .string x.acct, .string x.peer, i64 x.sum, .slice x.la x.legs.length x.lc, i64 x.period, i64 x.hold, .string x.note] 50)).alloc (.cells #[i64 y.client, i64 y.seq, i64 y.kind, .string y.acct, .string y.peer, i64 y.sum, .slice y.la y.legs.length y.lc, i64 y.period, i64 y.hold, .string y.note] 50) = W1 at *
            clear hW1
            have hS : ∀ W, Below W1.heap.size W1 W → (Below W1.heap.size W1 W ∧ W.cell? ⟨w.heap.size, 0, none⟩ = some (i64 x.client) ∧ W.cell? ⟨w.heap.size, 1, none⟩ = some (i64 x.seq) ∧ W.cell? ⟨w.heap.size, 2, none⟩ = some (i64 x.kind) ∧ W.cell? ⟨w.heap.size, 3, none⟩ = some (.string x.acct) ∧ W.cell? ⟨w.heap.size, 4, none⟩ = some (.string x.peer) ∧ W.cell? ⟨w.heap.size, 5, none⟩ = some (i64 x.sum) ∧ W.cell? ⟨w.heap.size, 6, none⟩ = some (.slice x.la x.legs.length x.lc) ∧ W.cell? ⟨w.heap.size, 7, none⟩ = some (i64 x.period) ∧ W.cell? ⟨w.heap.size, 8, none⟩ = some (i64 x.hold) ∧ W.cell? ⟨w.heap.size, 9, none⟩ = some (.string x.note) ∧ W.cell? ⟨w.heap.size + 1, 0, none⟩ = some (i64 y.client) ∧ W.cell? ⟨w.heap.size + 1, 1, none⟩ = some (i64 y.seq) ∧ W.cell? ⟨w.heap.size + 1, 2, none⟩ = some (i64 y.kind) ∧ W.cell? ⟨w.heap.size + 1, 3, none⟩ = some (.string y.acct) ∧ W.cell? ⟨w.heap.size + 1, 4, none⟩ = some (.string y.peer) ∧ W.cell? ⟨w.heap.size + 1, 5, none⟩ = some (i64 y.sum) ∧ W.cell? ⟨w.heap.size + 1, 6, none⟩ = some (.slice y.la y.legs.length y.lc) ∧ W.cell? ⟨w.heap.size + 1, 7, none⟩ = some (i64 y.period) ∧ W.cell? ⟨w.heap.size + 1, 8, none⟩ = some (i64 y.hold) ∧ W.cell? ⟨w.heap.size + 1, 9, none⟩ = some (.string y.note)) := fun W h => ⟨h, (h.cell (World.block_lt_of_cell? _ _ e0)).trans e0, (h.cell (World.block_lt_of_cell? _ _ e1)).trans e1, (h.cell (World.block_lt_of_cell? _ _ e2)).trans e2, (h.cell (World.block_lt_of_cell? _ _ e3)).trans e3, (h.cell (World.block_lt_of_cell? _ _ e4)).trans e4, (h.cell (World.block_lt_of_cell? _ _ e5)).trans e5, (h.cell (World.block_lt_of_cell? _ _ e6)).trans e6, (h.cell (World.block_lt_of_cell? _ _ e7)).trans e7, (h.cell (World.block_lt_of_cell? _ _ e8)).trans e8, (h.cell (World.block_lt_of_cell? _ _ e9)).trans e9, (h.cell (World.block_lt_of_cell? _ _ d0)).trans d0, (h.cell (World.block_lt_of_cell? _ _ d1)).trans d1, (h.cell (World.block_lt_of_cell? _ _ d2)).trans d2, (h.cell (World.block_lt_of_cell? _ _ d3)).trans d3, (h.cell (World.block_lt_of_cell? _ _ d4)).trans d4, (h.cell (World.block_lt_of_cell? _ _ d5)).trans d5, (h.cell (World.block_lt_of_cell? _ _ d6)).trans d6, (h.cell (World.block_lt_of_cell? _ _ d7)).trans d7, (h.cell (World.block_lt_of_cell? _ _ d8)).trans d8, (h.cell (World.block_lt_of_cell? _ _ d9)).trans d9⟩
            clear e0 d0 e1 d1 e2 d2 e3 d3 e4 d4 e5 d5 e6 d6 e7 d7 e8 d8 e9 d9
            have tx : ∀ W, Below W1.heap.size W1 W → Calls Tryz.prog 109 #[.agg #[i64 x.client, i64 x.seq, i64 x.kind, .string x.acct, .string x.peer, i64 x.sum, .slice x.la x.legs.length x.lc, i64 x.period, i64 x.hold, .string x.note]] W fun e w' => ∃ v, e = .returned v ∧ Own w' W.heap.size 9 v (touches x) ∧ Below W.heap.size W w' := fun W h => HT.out x W (Okb.later (Okb.later Hx.out hb2) h) hlx
            have ty : ∀ W, Below W1.heap.size W1 W → Calls Tryz.prog 109 #[.agg #[i64 y.client, i64 y.seq, i64 y.kind, .string y.acct, .string y.peer, i64 y.sum, .slice y.la y.legs.length y.lc, i64 y.period, i64 y.hold, .string y.note]] W fun e w' => ∃ v, e = .returned v ∧ Own w' W.heap.size 9 v (touches y) ∧ Below W.heap.size W w' := fun W h => HT.out y W (Okb.later (Okb.later Hy.out hb2) h) hly
            have nX := touches_len x hlx
            have nY := touches_len y hly
            clear hlx hly Hx Hy
            have h0 := (Below.refl W1.heap.size W1).drew
            refine wp_region_noPanic ?_
            refine wp_region_held_drew (S := fun W => Below W1.heap.size W1 W ∧ W.cell? ⟨w.heap.size, 0, none⟩ = some (i64 x.client) ∧ W.cell? ⟨w.heap.size, 1, none⟩ = some (i64 x.seq) ∧ W.cell? ⟨w.heap.size, 2, none⟩ = some (i64 x.kind) ∧ W.cell? ⟨w.heap.size, 3, none⟩ = some (.string x.acct) ∧ W.cell? ⟨w.heap.size, 4, none⟩ = some (.string x.peer) ∧ W.cell? ⟨w.heap.size, 5, none⟩ = some (i64 x.sum) ∧ W.cell? ⟨w.heap.size, 6, none⟩ = some (.slice x.la x.legs.length x.lc) ∧ W.cell? ⟨w.heap.size, 7, none⟩ = some (i64 x.period) ∧ W.cell? ⟨w.heap.size, 8, none⟩ = some (i64 x.hold) ∧ W.cell? ⟨w.heap.size, 9, none⟩ = some (.string x.note) ∧ W.cell? ⟨w.heap.size + 1, 0, none⟩ = some (i64 y.client) ∧ W.cell? ⟨w.heap.size + 1, 1, none⟩ = some (i64 y.seq) ∧ W.cell? ⟨w.heap.size + 1, 2, none⟩ = some (i64 y.kind) ∧ W.cell? ⟨w.heap.size + 1, 3, none⟩ = some (.string y.acct) ∧ W.cell? ⟨w.heap.size + 1, 4, none⟩ = some (.string y.peer) ∧ W.cell? ⟨w.heap.size + 1, 5, none⟩ = some (i64 y.sum) ∧ W.cell? ⟨w.heap.size + 1, 6, none⟩ = some (.slice y.la y.legs.length y.lc) ∧ W.cell? ⟨w.heap.size + 1, 7, none⟩ = some (i64 y.period) ∧ W.cell? ⟨w.heap.size + 1, 8, none⟩ = some (i64 y.hold) ∧ W.cell? ⟨w.heap.size + 1, 9, none⟩ = some (.string y.note)) (by kernel_rfl) (hS _ h0) (fun hH => ?_)
            refine wpAnyH_take (i := 0) (v := ?v500) rfl (by kernel_rfl) (by kernel_rfl) (by kernel_rfl) (fun _ _ _ h => h) (Or.inl ⟨by kernel_rfl, ?hy500⟩) (by assumption) ?r500
            case hy500 => (intro W hSW; obtain ⟨_, f0, f1, f2, f3, f4, f5, f6, f7, f8, f9, f10, f11, f12, f13, f14, f15, f16, f17, f18, f19⟩ := hSW; go_simp; try with_reducible rfl)
            simp only [Act.put, List.setIfInBounds_toArray]
            refine wpAnyH_take (i := 2) (v := ?v602) rfl (by kernel_rfl) (by kernel_rfl) (by kernel_rfl) (fun _ _ _ h => h) (Or.inl ⟨by kernel_rfl, ?hy602⟩) (by assumption) ?r602
            case hy602 => (intro W hSW; obtain ⟨_, f0, f1, f2, f3, f4, f5, f6, f7, f8, f9, f10, f11, f12, f13, f14, f15, f16, f17, f18, f19⟩ := hSW; go_simp; try with_reducible rfl)
            simp only [Act.put]
            refine wpAnyH_ready (rs := [1]) (by kernel_rfl) (by simp) ?_
            refine AllReadyH.cons rfl (fun K hK => ?_) AllReadyH.nil
            go_simp
            go_at_call 109
            with_reducible refine (tx _ h0).mono ?_
            rintro e w6 ⟨v6, rfl, hO6, hF6⟩
            obtain ⟨A6, c6, rfl, hs6⟩ := hO6.sl
            have h6 := below_on h0 (Nat.le_refl _) hF6
            refine hK.out _ _ (hS _ h6) (fun hH2 => ?_)
            clear hK K hO6 hF6
            refine wpAnyH_ready (rs := [3]) (by kernel_rfl) (by simp) ?_
            refine AllReadyH.cons rfl (fun K hK => ?_) AllReadyH.nil
            go_simp
            go_at_call 109
            with_reducible refine (ty _ h6).mono ?_
            rintro e w7 ⟨v7, rfl, hO7, hF7⟩
            obtain ⟨A7, c7, rfl, hs7⟩ := hO7.sl
            have h7 := below_on h6 (Nat.le_refl _) hF7
            refine hK.out _ _ (hS _ h7) (fun hH3 => ?_)
            have hs6 := hs6.later hF7
            clear hK K hO7 hF7
            refine wpAnyH_take (i := 4) (v := ?v704) rfl (by kernel_rfl) (by kernel_rfl) (by kernel_rfl) (fun _ _ _ h => h) (Or.inl ⟨by kernel_rfl, ?hy704⟩) (by assumption) ?r704
            case hy704 => (intro W hSW; obtain ⟨_, f0, f1, f2, f3, f4, f5, f6, f7, f8, f9, f10, f11, f12, f13, f14, f15, f16, f17, f18, f19⟩ := hSW; go_simp; try with_reducible rfl)
            simp only [Act.put, List.setIfInBounds_toArray]
            refine wpAnyH_take (i := 5) (v := ?v805) rfl (by kernel_rfl) (by kernel_rfl) (by kernel_rfl) (fun _ _ _ h => h) (Or.inl ⟨by kernel_rfl, ?hy805⟩) (by assumption) ?r805
            case hy805 => (intro W hSW; obtain ⟨_, f0, f1, f2, f3, f4, f5, f6, f7, f8, f9, f10, f11, f12, f13, f14, f15, f16, f17, f18, f19⟩ := hSW; go_simp; try with_reducible rfl)
            simp only [Act.put]
            refine wpAnyH_done (by kernel_rfl) ?_ _
            refine NoPanic.normal ?_
            have hB := below_on hb2 (Nat.le_refl _) h7
            clear hH hH2 hH3 hS tx ty h0 h6 h7 hb2
            generalize touches x = X at *
            generalize touches y = Y at *
            go_wp2_with fail
            go_loopw [7] (fun i wr => ∃ k : Nat, i = i64 k ∧ k ≤ X.length ∧ noneTo X Y k ∧ Below w7.heap.size w7 wr) (fun i _ => X.length - (intOf i).toNat)
            case atStart => exact ⟨0, rfl, by omega, fun _ _ h => absurd h (by omega), Below.refl _ _⟩
            case round =>
              obtain ⟨k, rfl, hk, hno, hr⟩ := hrel
              have Hno := Lib.hid hno
              clear hno
              by_cases hlt : k < X.length
              · go_wp2_with fail
                go_loopw [8] (fun i wI => ∃ m : Nat, i = i64 m ∧ m ≤ Y.length ∧ noTo X[k] Y m ∧ Below w7.heap.size w7 wI) (fun i _ => Y.length - (intOf i).toNat)
                case atStart => exact ⟨0, rfl, by omega, fun _ _ h => absurd h (by omega), hr⟩
                case round =>
                  obtain ⟨m, rfl, hm, hni, hI⟩ := hrel
                  have Hni := Lib.hid hni
                  clear hni
                  by_cases hmt : m < Y.length
                  · obtain ⟨b1, o1, rfl, -, -, d0⟩ := (hs6.later hI).str hlt
                    obtain ⟨b2, o2, rfl, -, -, d1⟩ := (hs7.later hI).str hmt
                    have i0 : (0 : Int) ≤ (k : Int) := by omega
                    have i1 : (k : Int) < (X.length : Int) := by omega
                    have m0 : (0 : Int) ≤ (m : Int) := by omega
                    have m1 : (m : Int) < (Y.length : Int) := by omega
                    by_cases he : X[k] = Y[m]
                    · have g := beqS_of_eq he
                      have He := Lib.hid he
                      clear he
                      go_wp2_with fail
                      go_quiet (fail)
                      go_wp2
                      go_ret
                      refine ⟨?_, below_drewN (below_on hB (Nat.le_refl _) hI) _⟩
                      rw [Hs.out, any_hit hlt hmt He.out]
                      rfl
                    · have g := beqS_of_ne he
                      have He := Lib.hid he
                      clear he
                      go_wp2_with fail
                      go_quiet (fail)
                      go_wp2
                      go_roundw
                      case rel => exact ⟨m + 1, by go_num, by omega, Hni.out.next hmt He.out, below_drewN hI _⟩
                      case measure => simp [intOf]; omega
                  · obtain rfl : m = Y.length := by omega
                    go_wp2
                    go_roundw
                    case rel => exact ⟨k + 1, by go_num, by omega, Hno.out.next hlt Hni.out.all, hI⟩
                    case measure => simp [intOf]; omega
              · obtain rfl : k = X.length := by omega
                go_wp2
                go_ret
                refine ⟨?_, below_on hB (Nat.le_refl _) hr⟩
                rw [Hs.out, any_none Hno.out]
                rfl
end Go.Proofs.YtdkkblhfjblpkaaGreat

/- ref10.Right -/
namespace Go.Proofs.YtdkkblhfjblpkaaGreat
open Go.RowKit
theorem at_of_val {l : List Od} (hv : Val l) {i : Nat} (h : i < l.length) : atIdx l l[i].id = (i : Int) :=
  idxP_hit h (by simp) fun j hj hji => by
    have := List.pairwise_iff_getElem.1 hv j i hj h hji
    simpa using this
theorem val_of_at {l : List Od} (h : ∀ i (hi : i < l.length), atIdx l l[i].id = (i : Int)) : Val l :=
  List.pairwise_iff_getElem.2 fun i j hi hj hij e => by
    have h1 := h i hi
    have h2 := h j hj
    rw [← e, h1] at h2
    omega
theorem validL_of {l : List Od} (h : ∀ i (hi : i < l.length), atIdx l l[i].id = (i : Int)) : validL l = true := validL_iff.2 (val_of_at h)
theorem validL_not {l : List Od} {i : Nat} (hi : i < l.length) (h : atIdx l l[i].id ≠ (i : Int)) : validL l = false := by
  cases hv : validL l with
  | false => rfl
  | true => exact absurd (at_of_val (validL_iff.1 hv) hi) h
/-- all places up to k are first places -/
def firsts (l : List Od) (k : Nat) : Prop := ∀ i (hi : i < l.length), i < k → atIdx l l[i].id = (i : Int)

set_option maxRecDepth 100000 in
set_option maxHeartbeats 1000000 in
theorem rright10_c (A : Option Addr) (c : Nat) (l : List Od) (w : World) (h : Sl w w.heap.size A c l) (hn : l.length ≤ 65536) :
    Calls Tryz.prog 62 #[.slice A l.length c] w fun e w' => e = .returned (.bool (validL l)) ∧ Below w.heap.size w w' := by
  go_enter Tryz.func62, Tryz.ntmps62
  go_wp2_with fail
  go_loopw [3] (fun i wr => ∃ k : Nat, i = i64 k ∧ k ≤ l.length ∧ firsts l k ∧ Below w.heap.size w wr) (fun i _ => l.length - (intOf i).toNat)
  case atStart => exact ⟨0, rfl, by omega, fun _ _ h => absurd h (by omega), Below.refl _ _⟩
  case round =>
    obtain ⟨k, rfl, hk, hf, hb⟩ := hrel
    have Hf := Lib.hid hf
    clear hf
    by_cases hlt : k < l.length
    · obtain ⟨b, o, rfl, hbb, -, c0, c1, -⟩ := (h.below hb).od hlt
      have HB := Lib.hid hb
      go_wp2_with fail
      refine (at_any _ c l l[k].id _ (h.keep (fun _ hp => HB.out.cell hp) (fun _ hp => Nat.lt_of_lt_of_le hp HB.out.size)) hn).mono ?_
      rintro e w1 ⟨rfl, hb1⟩
      have hbw := HB.out.trans (hb1.mono HB.out.size)
      by_cases hat : atIdx l l[k].id = (k : Int)
      · have hq : (atIdx l l[k].id != (k : Int)) = false := by rw [hat]; simp
        have Hat := Lib.hid (show firsts l (k + 1) from fun i hi hik => by
            rcases Nat.lt_succ_iff_lt_or_eq.1 hik with hik | rfl
            · exact Hf.out i hi hik
            · exact hat)
        clear hat
        generalize atIdx l l[k].id = r at hq ⊢
        go_wp2
        go_roundw
        case rel => exact ⟨k + 1, by go_num, by omega, Hat.out, hbw⟩
        case measure => simp [intOf]; omega
      · have hq : (atIdx l l[k].id != (k : Int)) = true := bne_iff_ne.2 hat
        have Hv := Lib.hid (validL_not hlt hat)
        clear hat
        generalize atIdx l l[k].id = r at hq ⊢
        go_wp2
        go_ret
        exact ⟨by rw [Hv.out]; rfl, hbw⟩
    · obtain rfl : k = l.length := by omega
      have Hv := Lib.hid (validL_of fun i hi => Hf.out i hi hi)
      go_wp2
      go_ret
      exact ⟨by rw [Hv.out]; rfl, hb⟩
end Go.Proofs.YtdkkblhfjblpkaaGreat

/- ref05.Name -/
namespace Go.Proofs.YtdkkblhfjblpkaaGreat
open Go.RowKit
set_option maxRecDepth 100000 in
set_option maxHeartbeats 4000000 in
theorem rname_c (s : ByteArray) (hs : s.size ≤ maxLen) (w : World) : Calls Tryz.prog 108 #[.string s] w fun e w' => e = .returned (.bool (nameB s)) ∧ Below w.heap.size w w' := by
  have hs' : s.size ≤ 9223372036854775807 := Nat.le_trans hs (by decide)
  clear hs
  go_enter Tryz.func108, Tryz.ntmps108
  go_wp2_with fail
  go_loopw [3] (fun i wr => ∃ k : Nat, i = i64 k ∧ k ≤ s.size ∧ signTo s k ∧ w = wr) (fun i _ => s.size - (intOf i).toNat)
  case atStart => exact ⟨0, rfl, by omega, fun _ _ h => absurd h (by omega), rfl⟩
  case round =>
    obtain ⟨k, rfl, hk, hst, rfl⟩ := hrel
    have Hst := Lib.hid hst
    clear hst
    by_cases hlt : k < s.size
    · have i0 : (0 : Int) ≤ (k : Int) := by omega
      have i1 : (k : Int) < (s.size : Int) := by omega
      have hb8 := s[k].toNat_lt
      have HS := Lib.hid (show signB s[k] = (decide (97 ≤ s[k].toNat ∧ s[k].toNat ≤ 122) || decide (48 ≤ s[k].toNat ∧ s[k].toNat ≤ 57)) from rfl)
      by_cases hc : s[k].toNat ≤ 47
      · have t1 : decide ((97 : Int) ≤ ((s[k].toNat : Nat) : Int)) = false := by rw [decide_eq_false_iff_not]; omega
        have t2 : decide (((s[k].toNat : Nat) : Int) ≤ 122) = true := by rw [decide_eq_true_eq]; omega
        have t3 : decide ((48 : Int) ≤ ((s[k].toNat : Nat) : Int)) = false := by rw [decide_eq_false_iff_not]; omega
        have t4 : decide (((s[k].toNat : Nat) : Int) ≤ 57) = true := by rw [decide_eq_true_eq]; omega
        have Hs := Lib.hid (show signB s[k] = false by rw [HS.out]; simp; omega)
        clear hc HS hb8
        go_wp2
        go_ret
        exact ⟨by rw [nameB_bad hlt Hs.out]; rfl, Below.refl _ _⟩
      by_cases hc : 48 ≤ s[k].toNat ∧ s[k].toNat ≤ 57
      · have t1 : decide ((97 : Int) ≤ ((s[k].toNat : Nat) : Int)) = false := by rw [decide_eq_false_iff_not]; omega
        have t2 : decide (((s[k].toNat : Nat) : Int) ≤ 122) = true := by rw [decide_eq_true_eq]; omega
        have t3 : decide ((48 : Int) ≤ ((s[k].toNat : Nat) : Int)) = true := by rw [decide_eq_true_eq]; omega
        have t4 : decide (((s[k].toNat : Nat) : Int) ≤ 57) = true := by rw [decide_eq_true_eq]; omega
        have Hs := Lib.hid (show signB s[k] = true by rw [HS.out]; simp; omega)
        clear hc HS hb8
        go_wp2
        go_roundw
        case rel => exact ⟨k + 1, by go_num, by omega, Hst.out.next hlt Hs.out, trivial⟩
        case measure => simp [intOf]; omega
      by_cases hc : 58 ≤ s[k].toNat ∧ s[k].toNat ≤ 96
      · have t1 : decide ((97 : Int) ≤ ((s[k].toNat : Nat) : Int)) = false := by rw [decide_eq_false_iff_not]; omega
        have t2 : decide (((s[k].toNat : Nat) : Int) ≤ 122) = true := by rw [decide_eq_true_eq]; omega
        have t3 : decide ((48 : Int) ≤ ((s[k].toNat : Nat) : Int)) = true := by rw [decide_eq_true_eq]; omega
        have t4 : decide (((s[k].toNat : Nat) : Int) ≤ 57) = false := by rw [decide_eq_false_iff_not]; omega
        have Hs := Lib.hid (show signB s[k] = false by rw [HS.out]; simp; omega)
        clear hc HS hb8
        go_wp2
        go_ret
        exact ⟨by rw [nameB_bad hlt Hs.out]; rfl, Below.refl _ _⟩
      by_cases hc : 97 ≤ s[k].toNat ∧ s[k].toNat ≤ 122
      · have t1 : decide ((97 : Int) ≤ ((s[k].toNat : Nat) : Int)) = true := by rw [decide_eq_true_eq]; omega
        have t2 : decide (((s[k].toNat : Nat) : Int) ≤ 122) = true := by rw [decide_eq_true_eq]; omega
        have t3 : decide ((48 : Int) ≤ ((s[k].toNat : Nat) : Int)) = true := by rw [decide_eq_true_eq]; omega
        have t4 : decide (((s[k].toNat : Nat) : Int) ≤ 57) = false := by rw [decide_eq_false_iff_not]; omega
        have Hs := Lib.hid (show signB s[k] = true by rw [HS.out]; simp; omega)
        clear hc HS hb8
        go_wp2
        go_roundw
        case rel => exact ⟨k + 1, by go_num, by omega, Hst.out.next hlt Hs.out, trivial⟩
        case measure => simp [intOf]; omega
      by_cases hc : 123 ≤ s[k].toNat
      · have t1 : decide ((97 : Int) ≤ ((s[k].toNat : Nat) : Int)) = true := by rw [decide_eq_true_eq]; omega
        have t2 : decide (((s[k].toNat : Nat) : Int) ≤ 122) = false := by rw [decide_eq_false_iff_not]; omega
        have t3 : decide ((48 : Int) ≤ ((s[k].toNat : Nat) : Int)) = true := by rw [decide_eq_true_eq]; omega
        have t4 : decide (((s[k].toNat : Nat) : Int) ≤ 57) = false := by rw [decide_eq_false_iff_not]; omega
        have Hs := Lib.hid (show signB s[k] = false by rw [HS.out]; simp; omega)
        clear hc HS hb8
        go_wp2
        go_ret
        exact ⟨by rw [nameB_bad hlt Hs.out]; rfl, Below.refl _ _⟩
      omega
    · obtain rfl : k = s.size := by omega
      have hal := Hst.out.all
      have hem : s.toList.isEmpty = decide (s.size = 0) := by
        rw [Bool.eq_iff_iff, List.isEmpty_iff, decide_eq_true_eq, ← List.length_eq_zero_iff]
        rw [ByteArray.toList_eq]
        simp
      have Hs := Lib.hid (show nameB s = (decide (1 ≤ s.size) && decide (s.size ≤ 8)) by unfold nameB; rw [hal, hem, Bool.true_and]; congr 1; rw [Bool.eq_iff_iff]; simp only [Bool.not_eq_true', decide_eq_false_iff_not, decide_eq_true_eq]; omega)
      clear hal hem Hst
      by_cases h1 : 1 ≤ s.size
      · have t1 : decide ((1 : Int) ≤ (s.size : Int)) = true := decide_eq_true (by omega)
        have H1 := Lib.hid (decide_eq_true h1)
        by_cases h8 : s.size ≤ 8
        · have t2 : decide ((s.size : Int) ≤ 8) = true := decide_eq_true (by omega)
          have H8 := Lib.hid (decide_eq_true h8)
          clear h1 h8
          go_wp2
          go_ret
          exact ⟨by rw [Hs.out, H1.out, H8.out]; rfl, Below.refl _ _⟩
        · have t2 : decide ((s.size : Int) ≤ 8) = false := decide_eq_false (by omega)
          have H8 := Lib.hid (decide_eq_false h8)
          clear h1 h8
          go_wp2
          go_ret
          exact ⟨by rw [Hs.out, H1.out, H8.out]; rfl, Below.refl _ _⟩
      · have t1 : decide ((1 : Int) ≤ (s.size : Int)) = false := decide_eq_false (by omega)
        have H1 := Lib.hid (decide_eq_false h1)
        clear h1
        go_wp2
        go_ret
        exact ⟨by rw [Hs.out, H1.out]; rfl, Below.refl _ _⟩
end Go.Proofs.YtdkkblhfjblpkaaGreat
