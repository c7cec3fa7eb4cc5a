/- Texts of this claim, laid together: Shapes. -/
import Derived.Test.YtgholbeehkfbiaaGreatRows
import Derived.Test.YtgholbeehkfbiaaGreatBm5
import Derived.Laws.EntriesVeiled
import Derived.WalkKit
import Derived.WalkSpells
import Derived.WalkLawsBesides
import Derived.Deep.QuietTactic
import Derived.BigQuiet
import Derived.Laws.StructEq
import Derived.Deep.DeepFit
import Derived.StillTailTactics

/- order.shapes' functions; order.shapes -/
namespace Go.Proofs.YtgholbeehkfbiaaGreat
open Go.RowKit
/-- no order -/
def od0 : Od := ⟨0, 0, 0, ⟨#[]⟩, ⟨#[]⟩, 0, none, 0, [], 0, 0, ⟨#[]⟩⟩
abbrev bare1 (x : Od) : Od := { od0 with acct := x.acct, sum := x.sum }
set_option maxRecDepth 100000 in
set_option maxHeartbeats 1000000 in
theorem bare1_c (x : Od) (w : World) : Calls Tryz.prog 155 #[x.v] w fun e w' => e = .returned (bare1 x).v ∧ Below w.heap.size w w' := by
  unfold Od.v
  go_enter Tryz.func155, Tryz.ntmps155
  go_wp2
  refine bodyPost_ret (results_cell_row rfl _ _ (w.heap.size + 1) 37 _ (0, 0) _ rfl (heap_alloc2_new w _ _) Tryz.underlying37 rfl (by kernel_rfl)) rfl ?_
  exact ⟨rfl, ((Below.refl _ _).alloc (Nat.le_refl _) _).alloc (by simp) _⟩
abbrev bare2 (x : Od) : Od := { od0 with la := x.la, lc := x.lc, legs := x.legs, period := x.period, note := x.note }
set_option maxRecDepth 100000 in
set_option maxHeartbeats 1000000 in
theorem bare2_c (x : Od) (w : World) : Calls Tryz.prog 157 #[x.v] w fun e w' => e = .returned (bare2 x).v ∧ Below w.heap.size w w' := by
  unfold Od.v
  go_enter Tryz.func157, Tryz.ntmps157
  go_wp2
  refine bodyPost_ret (results_cell_row rfl _ _ (w.heap.size + 1) 37 _ (0, 0) _ rfl (heap_alloc2_new w _ _) Tryz.underlying37 rfl (by kernel_rfl)) rfl ?_
  exact ⟨rfl, ((Below.refl _ _).alloc (Nat.le_refl _) _).alloc (by simp) _⟩
abbrev bare3 (x : Od) : Od := { od0 with acct := x.acct, sum := x.sum }
set_option maxRecDepth 100000 in
set_option maxHeartbeats 1000000 in
theorem bare3_c (x : Od) (w : World) : Calls Tryz.prog 161 #[x.v] w fun e w' => e = .returned (bare3 x).v ∧ Below w.heap.size w w' := by
  unfold Od.v
  go_enter Tryz.func161, Tryz.ntmps161
  go_wp2
  refine bodyPost_ret (results_cell_row rfl _ _ (w.heap.size + 1) 37 _ (0, 0) _ rfl (heap_alloc2_new w _ _) Tryz.underlying37 rfl (by kernel_rfl)) rfl ?_
  exact ⟨rfl, ((Below.refl _ _).alloc (Nat.le_refl _) _).alloc (by simp) _⟩
abbrev bare4 (x : Od) : Od := { od0 with acct := x.acct, peer := x.peer, sum := x.sum, hold := x.hold, period := x.period }
set_option maxRecDepth 100000 in
set_option maxHeartbeats 1000000 in
theorem bare4_c (x : Od) (w : World) : Calls Tryz.prog 163 #[x.v] w fun e w' => e = .returned (bare4 x).v ∧ Below w.heap.size w w' := by
  unfold Od.v
  go_enter Tryz.func163, Tryz.ntmps163
  go_wp2
  refine bodyPost_ret (results_cell_row rfl _ _ (w.heap.size + 1) 37 _ (0, 0) _ rfl (heap_alloc2_new w _ _) Tryz.underlying37 rfl (by kernel_rfl)) rfl ?_
  exact ⟨rfl, ((Below.refl _ _).alloc (Nat.le_refl _) _).alloc (by simp) _⟩
abbrev bare5 (x : Od) : Od := { od0 with acct := x.acct, hold := x.hold }
set_option maxRecDepth 100000 in
set_option maxHeartbeats 1000000 in
theorem bare5_c (x : Od) (w : World) : Calls Tryz.prog 166 #[x.v] w fun e w' => e = .returned (bare5 x).v ∧ Below w.heap.size w w' := by
  unfold Od.v
  go_enter Tryz.func166, Tryz.ntmps166
  go_wp2
  refine bodyPost_ret (results_cell_row rfl _ _ (w.heap.size + 1) 37 _ (0, 0) _ rfl (heap_alloc2_new w _ _) Tryz.underlying37 rfl (by kernel_rfl)) rfl ?_
  exact ⟨rfl, ((Below.refl _ _).alloc (Nat.le_refl _) _).alloc (by simp) _⟩
abbrev bare6 (x : Od) : Od := { od0 with period := x.period }
set_option maxRecDepth 100000 in
set_option maxHeartbeats 1000000 in
theorem bare6_c (x : Od) (w : World) : Calls Tryz.prog 168 #[x.v] w fun e w' => e = .returned (bare6 x).v ∧ Below w.heap.size w w' := by
  unfold Od.v
  go_enter Tryz.func168, Tryz.ntmps168
  go_wp2
  refine bodyPost_ret (results_cell_row rfl _ _ (w.heap.size + 1) 37 _ (0, 0) _ rfl (heap_alloc2_new w _ _) Tryz.underlying37 rfl (by kernel_rfl)) rfl ?_
  exact ⟨rfl, ((Below.refl _ _).alloc (Nat.le_refl _) _).alloc (by simp) _⟩
abbrev bare7 (x : Od) : Od := { od0 with acct := x.acct }
set_option maxRecDepth 100000 in
set_option maxHeartbeats 1000000 in
theorem bare7_c (x : Od) (w : World) : Calls Tryz.prog 170 #[x.v] w fun e w' => e = .returned (bare7 x).v ∧ Below w.heap.size w w' := by
  unfold Od.v
  go_enter Tryz.func170, Tryz.ntmps170
  go_wp2
  refine bodyPost_ret (results_cell_row rfl _ _ (w.heap.size + 1) 37 _ (0, 0) _ rfl (heap_alloc2_new w _ _) Tryz.underlying37 rfl (by kernel_rfl)) rfl ?_
  exact ⟨rfl, ((Below.refl _ _).alloc (Nat.le_refl _) _).alloc (by simp) _⟩
set_option maxRecDepth 100000 in
set_option maxHeartbeats 1000000 in
theorem fname_c (x : Od) (w : World) : Calls Tryz.prog 154 #[x.v] w fun e w' => e = .returned (.bool (nameB x.acct)) ∧ Below w.heap.size w w' := by
  have hb := (Below.refl w.heap.size w).alloc (Nat.le_refl _) (.cells #[i64 x.client, i64 x.seq, i64 x.kind, .string x.acct, .string x.peer, i64 x.sum, .slice x.la x.legs.length x.lc, i64 x.period, i64 x.hold, .string x.note] 37)
  unfold Od.v
  go_enter Tryz.func154, Tryz.ntmps154
  go_wp2_with fail
  refine (name_b x.acct _).mono ?_
  rintro e w1 ⟨rfl, hF⟩
  go_wp2
  go_ret
  exact ⟨rfl, below_on hb (Nat.le_refl _) hF⟩
def fits1 (x : Od) : Bool := (nameB x.acct && decide ((0 : Int) ≤ x.sum))
set_option maxRecDepth 100000 in
set_option maxHeartbeats 2000000 in
theorem fits1_c (x : Od) (w : World) (p : Nat) (hp : w.cell? ⟨p, 0, none⟩ = some (.func (.func 154) #[] #[])) : Calls Tryz.prog 156 #[x.v, .pointer (some ⟨p, 0, none⟩)] w fun e w' => e = .returned (.bool (fits1 x)) ∧ Below w.heap.size w w' := by
  have hb := (Below.refl w.heap.size w).alloc (Nat.le_refl _) (.cells #[i64 x.client, i64 x.seq, i64 x.kind, .string x.acct, .string x.peer, i64 x.sum, .slice x.la x.legs.length x.lc, i64 x.period, i64 x.hold, .string x.note] 37)
  have e95 : ∀ args w, (callFunc 154 args).run Tryz.prog w = .ok (.enter 154 args) w := (enters_of Tryz.func154 (by kernel_rfl) rfl)
  have hlt := World.block_lt_of_cell? _ _ hp
  have hp1 := (hb.cell (p := ⟨p, 0, none⟩) hlt).trans hp
  have Hs := Lib.hid (show fits1 x = (nameB x.acct && decide ((0 : Int) ≤ x.sum)) from rfl)
  have c0 : (w.alloc (.cells #[i64 x.client, i64 x.seq, i64 x.kind, .string x.acct, .string x.peer, i64 x.sum, .slice x.la x.legs.length x.lc, i64 x.period, i64 x.hold, .string x.note] 37)).cell? ⟨w.heap.size, 0, none⟩ = some (i64 x.client) := cell_of_row _ w.heap.size 0 _ _ (0, 0) (heap_alloc_new w _)
  have c1 : (w.alloc (.cells #[i64 x.client, i64 x.seq, i64 x.kind, .string x.acct, .string x.peer, i64 x.sum, .slice x.la x.legs.length x.lc, i64 x.period, i64 x.hold, .string x.note] 37)).cell? ⟨w.heap.size, 1, none⟩ = some (i64 x.seq) := cell_of_row _ w.heap.size 1 _ _ (0, 0) (heap_alloc_new w _)
  have c2 : (w.alloc (.cells #[i64 x.client, i64 x.seq, i64 x.kind, .string x.acct, .string x.peer, i64 x.sum, .slice x.la x.legs.length x.lc, i64 x.period, i64 x.hold, .string x.note] 37)).cell? ⟨w.heap.size, 2, none⟩ = some (i64 x.kind) := cell_of_row _ w.heap.size 2 _ _ (0, 0) (heap_alloc_new w _)
  have c3 : (w.alloc (.cells #[i64 x.client, i64 x.seq, i64 x.kind, .string x.acct, .string x.peer, i64 x.sum, .slice x.la x.legs.length x.lc, i64 x.period, i64 x.hold, .string x.note] 37)).cell? ⟨w.heap.size, 3, none⟩ = some (.string x.acct) := cell_of_row _ w.heap.size 3 _ _ (0, 0) (heap_alloc_new w _)
  have c4 : (w.alloc (.cells #[i64 x.client, i64 x.seq, i64 x.kind, .string x.acct, .string x.peer, i64 x.sum, .slice x.la x.legs.length x.lc, i64 x.period, i64 x.hold, .string x.note] 37)).cell? ⟨w.heap.size, 4, none⟩ = some (.string x.peer) := cell_of_row _ w.heap.size 4 _ _ (0, 0) (heap_alloc_new w _)
  have c5 : (w.alloc (.cells #[i64 x.client, i64 x.seq, i64 x.kind, .string x.acct, .string x.peer, i64 x.sum, .slice x.la x.legs.length x.lc, i64 x.period, i64 x.hold, .string x.note] 37)).cell? ⟨w.heap.size, 5, none⟩ = some (i64 x.sum) := cell_of_row _ w.heap.size 5 _ _ (0, 0) (heap_alloc_new w _)
  have c6 : (w.alloc (.cells #[i64 x.client, i64 x.seq, i64 x.kind, .string x.acct, .string x.peer, i64 x.sum, .slice x.la x.legs.length x.lc, i64 x.period, i64 x.hold, .string x.note] 37)).cell? ⟨w.heap.size, 6, none⟩ = some (.slice x.la x.legs.length x.lc) := cell_of_row _ w.heap.size 6 _ _ (0, 0) (heap_alloc_new w _)
  have c7 : (w.alloc (.cells #[i64 x.client, i64 x.seq, i64 x.kind, .string x.acct, .string x.peer, i64 x.sum, .slice x.la x.legs.length x.lc, i64 x.period, i64 x.hold, .string x.note] 37)).cell? ⟨w.heap.size, 7, none⟩ = some (i64 x.period) := cell_of_row _ w.heap.size 7 _ _ (0, 0) (heap_alloc_new w _)
  have c8 : (w.alloc (.cells #[i64 x.client, i64 x.seq, i64 x.kind, .string x.acct, .string x.peer, i64 x.sum, .slice x.la x.legs.length x.lc, i64 x.period, i64 x.hold, .string x.note] 37)).cell? ⟨w.heap.size, 8, none⟩ = some (i64 x.hold) := cell_of_row _ w.heap.size 8 _ _ (0, 0) (heap_alloc_new w _)
  have c9 : (w.alloc (.cells #[i64 x.client, i64 x.seq, i64 x.kind, .string x.acct, .string x.peer, i64 x.sum, .slice x.la x.legs.length x.lc, i64 x.period, i64 x.hold, .string x.note] 37)).cell? ⟨w.heap.size, 9, none⟩ = some (.string x.note) := cell_of_row _ w.heap.size 9 _ _ (0, 0) (heap_alloc_new w _)
  unfold Od.v
  go_enter Tryz.func156, Tryz.ntmps156
  have hlw : w.heap.size < (w.alloc (.cells #[i64 x.client, i64 x.seq, i64 x.kind, .string x.acct, .string x.peer, i64 x.sum, .slice x.la x.legs.length x.lc, i64 x.period, i64 x.hold, .string x.note] 37)).heap.size := by simp
  go_wp2_with fail
  refine (fname_c x _).mono ?_
  rintro e w1 ⟨rfl, hF⟩
  have c0 := (hF.cell (p := ⟨w.heap.size, 0, none⟩) hlw).trans c0
  have c1 := (hF.cell (p := ⟨w.heap.size, 1, none⟩) hlw).trans c1
  have c2 := (hF.cell (p := ⟨w.heap.size, 2, none⟩) hlw).trans c2
  have c3 := (hF.cell (p := ⟨w.heap.size, 3, none⟩) hlw).trans c3
  have c4 := (hF.cell (p := ⟨w.heap.size, 4, none⟩) hlw).trans c4
  have c5 := (hF.cell (p := ⟨w.heap.size, 5, none⟩) hlw).trans c5
  have c6 := (hF.cell (p := ⟨w.heap.size, 6, none⟩) hlw).trans c6
  have c7 := (hF.cell (p := ⟨w.heap.size, 7, none⟩) hlw).trans c7
  have c8 := (hF.cell (p := ⟨w.heap.size, 8, none⟩) hlw).trans c8
  have c9 := (hF.cell (p := ⟨w.heap.size, 9, none⟩) hlw).trans c9
  have hb := below_on hb (Nat.le_refl _) hF
  have hlw := Nat.lt_of_lt_of_le hlw hF.size
  clear hF
  by_cases t0 : nameB x.acct = true
  · rw [t0]
    have T0 := Lib.hid t0
    clear t0
    by_cases t1 : decide ((0 : Int) ≤ x.sum) = true
    · have T1 := Lib.hid t1
      go_wp2
      go_ret
      exact ⟨by rw [Hs.out, T0.out, T1.out]; rfl, hb⟩
    · have t1 : decide ((0 : Int) ≤ x.sum) = false := by simpa only [Bool.not_eq_true] using t1
      have T1 := Lib.hid t1
      go_wp2
      go_ret
      exact ⟨by rw [Hs.out, T0.out, T1.out]; rfl, hb⟩
  · have t0 : nameB x.acct = false := by simpa using t0
    rw [t0]
    have T0 := Lib.hid t0
    clear t0
    go_wp2
    go_ret
    exact ⟨by rw [Hs.out, T0.out]; rfl, hb⟩
def fits2 (x : Od) : Bool := ((legsB x.legs && periodB x.period) && decide ((x.note.size : Int) ≤ 20))
set_option maxRecDepth 100000 in
set_option maxHeartbeats 2000000 in
theorem fits2_c (x : Od) (w : World) (hx : Okb w w.heap.size x) (hn : x.legs.length ≤ 65536) : Calls Tryz.prog 158 #[x.v] w fun e w' => e = .returned (.bool (fits2 x)) ∧ Below w.heap.size w w' := by
  have hb := (Below.refl w.heap.size w).alloc (Nat.le_refl _) (.cells #[i64 x.client, i64 x.seq, i64 x.kind, .string x.acct, .string x.peer, i64 x.sum, .slice x.la x.legs.length x.lc, i64 x.period, i64 x.hold, .string x.note] 37)
  have HL : ∀ W, Below w.heap.size w W → Sl W W.heap.size x.la x.lc x.legs := fun W h => (show Sl w w.heap.size x.la x.lc x.legs from by obtain ⟨_, _, _, hl⟩ := hx; exact hl).later h
  clear hx
  have Hs := Lib.hid (show fits2 x = ((legsB x.legs && periodB x.period) && decide ((x.note.size : Int) ≤ 20)) from rfl)
  have c0 : (w.alloc (.cells #[i64 x.client, i64 x.seq, i64 x.kind, .string x.acct, .string x.peer, i64 x.sum, .slice x.la x.legs.length x.lc, i64 x.period, i64 x.hold, .string x.note] 37)).cell? ⟨w.heap.size, 0, none⟩ = some (i64 x.client) := cell_of_row _ w.heap.size 0 _ _ (0, 0) (heap_alloc_new w _)
  have c1 : (w.alloc (.cells #[i64 x.client, i64 x.seq, i64 x.kind, .string x.acct, .string x.peer, i64 x.sum, .slice x.la x.legs.length x.lc, i64 x.period, i64 x.hold, .string x.note] 37)).cell? ⟨w.heap.size, 1, none⟩ = some (i64 x.seq) := cell_of_row _ w.heap.size 1 _ _ (0, 0) (heap_alloc_new w _)
  have c2 : (w.alloc (.cells #[i64 x.client, i64 x.seq, i64 x.kind, .string x.acct, .string x.peer, i64 x.sum, .slice x.la x.legs.length x.lc, i64 x.period, i64 x.hold, .string x.note] 37)).cell? ⟨w.heap.size, 2, none⟩ = some (i64 x.kind) := cell_of_row _ w.heap.size 2 _ _ (0, 0) (heap_alloc_new w _)
  have c3 : (w.alloc (.cells #[i64 x.client, i64 x.seq, i64 x.kind, .string x.acct, .string x.peer, i64 x.sum, .slice x.la x.legs.length x.lc, i64 x.period, i64 x.hold, .string x.note] 37)).cell? ⟨w.heap.size, 3, none⟩ = some (.string x.acct) := cell_of_row _ w.heap.size 3 _ _ (0, 0) (heap_alloc_new w _)
  have c4 : (w.alloc (.cells #[i64 x.client, i64 x.seq, i64 x.kind, .string x.acct, .string x.peer, i64 x.sum, .slice x.la x.legs.length x.lc, i64 x.period, i64 x.hold, .string x.note] 37)).cell? ⟨w.heap.size, 4, none⟩ = some (.string x.peer) := cell_of_row _ w.heap.size 4 _ _ (0, 0) (heap_alloc_new w _)
  have c5 : (w.alloc (.cells #[i64 x.client, i64 x.seq, i64 x.kind, .string x.acct, .string x.peer, i64 x.sum, .slice x.la x.legs.length x.lc, i64 x.period, i64 x.hold, .string x.note] 37)).cell? ⟨w.heap.size, 5, none⟩ = some (i64 x.sum) := cell_of_row _ w.heap.size 5 _ _ (0, 0) (heap_alloc_new w _)
  have c6 : (w.alloc (.cells #[i64 x.client, i64 x.seq, i64 x.kind, .string x.acct, .string x.peer, i64 x.sum, .slice x.la x.legs.length x.lc, i64 x.period, i64 x.hold, .string x.note] 37)).cell? ⟨w.heap.size, 6, none⟩ = some (.slice x.la x.legs.length x.lc) := cell_of_row _ w.heap.size 6 _ _ (0, 0) (heap_alloc_new w _)
  have c7 : (w.alloc (.cells #[i64 x.client, i64 x.seq, i64 x.kind, .string x.acct, .string x.peer, i64 x.sum, .slice x.la x.legs.length x.lc, i64 x.period, i64 x.hold, .string x.note] 37)).cell? ⟨w.heap.size, 7, none⟩ = some (i64 x.period) := cell_of_row _ w.heap.size 7 _ _ (0, 0) (heap_alloc_new w _)
  have c8 : (w.alloc (.cells #[i64 x.client, i64 x.seq, i64 x.kind, .string x.acct, .string x.peer, i64 x.sum, .slice x.la x.legs.length x.lc, i64 x.period, i64 x.hold, .string x.note] 37)).cell? ⟨w.heap.size, 8, none⟩ = some (i64 x.hold) := cell_of_row _ w.heap.size 8 _ _ (0, 0) (heap_alloc_new w _)
  have c9 : (w.alloc (.cells #[i64 x.client, i64 x.seq, i64 x.kind, .string x.acct, .string x.peer, i64 x.sum, .slice x.la x.legs.length x.lc, i64 x.period, i64 x.hold, .string x.note] 37)).cell? ⟨w.heap.size, 9, none⟩ = some (.string x.note) := cell_of_row _ w.heap.size 9 _ _ (0, 0) (heap_alloc_new w _)
  unfold Od.v
  go_enter Tryz.func158, Tryz.ntmps158
  have hlw : w.heap.size < (w.alloc (.cells #[i64 x.client, i64 x.seq, i64 x.kind, .string x.acct, .string x.peer, i64 x.sum, .slice x.la x.legs.length x.lc, i64 x.period, i64 x.hold, .string x.note] 37)).heap.size := by simp
  go_wp2_with fail
  refine (legs_c x.la x.lc x.legs _ (HL _ (by assumption)) hn).mono ?_
  rintro e w1 ⟨rfl, hF⟩
  have c0 := (hF.cell (p := ⟨w.heap.size, 0, none⟩) hlw).trans c0
  have c1 := (hF.cell (p := ⟨w.heap.size, 1, none⟩) hlw).trans c1
  have c2 := (hF.cell (p := ⟨w.heap.size, 2, none⟩) hlw).trans c2
  have c3 := (hF.cell (p := ⟨w.heap.size, 3, none⟩) hlw).trans c3
  have c4 := (hF.cell (p := ⟨w.heap.size, 4, none⟩) hlw).trans c4
  have c5 := (hF.cell (p := ⟨w.heap.size, 5, none⟩) hlw).trans c5
  have c6 := (hF.cell (p := ⟨w.heap.size, 6, none⟩) hlw).trans c6
  have c7 := (hF.cell (p := ⟨w.heap.size, 7, none⟩) hlw).trans c7
  have c8 := (hF.cell (p := ⟨w.heap.size, 8, none⟩) hlw).trans c8
  have c9 := (hF.cell (p := ⟨w.heap.size, 9, none⟩) hlw).trans c9
  have hb := below_on hb (Nat.le_refl _) hF
  have hlw := Nat.lt_of_lt_of_le hlw hF.size
  clear hF
  by_cases t0 : legsB x.legs = true
  · rw [t0]
    have T0 := Lib.hid t0
    clear t0
    go_wp2_with fail
    refine (period_c x.period _).mono ?_
    rintro e w2 ⟨rfl, hF⟩
    have c0 := (hF.cell (p := ⟨w.heap.size, 0, none⟩) hlw).trans c0
    have c1 := (hF.cell (p := ⟨w.heap.size, 1, none⟩) hlw).trans c1
    have c2 := (hF.cell (p := ⟨w.heap.size, 2, none⟩) hlw).trans c2
    have c3 := (hF.cell (p := ⟨w.heap.size, 3, none⟩) hlw).trans c3
    have c4 := (hF.cell (p := ⟨w.heap.size, 4, none⟩) hlw).trans c4
    have c5 := (hF.cell (p := ⟨w.heap.size, 5, none⟩) hlw).trans c5
    have c6 := (hF.cell (p := ⟨w.heap.size, 6, none⟩) hlw).trans c6
    have c7 := (hF.cell (p := ⟨w.heap.size, 7, none⟩) hlw).trans c7
    have c8 := (hF.cell (p := ⟨w.heap.size, 8, none⟩) hlw).trans c8
    have c9 := (hF.cell (p := ⟨w.heap.size, 9, none⟩) hlw).trans c9
    have hb := below_on hb (Nat.le_refl _) hF
    have hlw := Nat.lt_of_lt_of_le hlw hF.size
    clear hF
    by_cases t1 : periodB x.period = true
    · rw [t1]
      have T1 := Lib.hid t1
      clear t1
      by_cases t2 : decide ((x.note.size : Int) ≤ 20) = true
      · have T2 := Lib.hid t2
        go_wp2
        go_ret
        exact ⟨by rw [Hs.out, T0.out, T1.out, T2.out]; rfl, hb⟩
      · have t2 : decide ((x.note.size : Int) ≤ 20) = false := by simpa only [Bool.not_eq_true] using t2
        have T2 := Lib.hid t2
        go_wp2
        go_ret
        exact ⟨by rw [Hs.out, T0.out, T1.out, T2.out]; rfl, hb⟩
    · have t1 : periodB x.period = false := by simpa using t1
      rw [t1]
      have T1 := Lib.hid t1
      clear t1
      go_wp2
      go_ret
      exact ⟨by rw [Hs.out, T0.out, T1.out]; rfl, hb⟩
  · have t0 : legsB x.legs = false := by simpa using t0
    rw [t0]
    have T0 := Lib.hid t0
    clear t0
    go_wp2
    go_ret
    exact ⟨by rw [Hs.out, T0.out]; rfl, hb⟩
def fits3 (x : Od) : Bool := (nameB x.acct && decide ((0 : Int) < x.sum))
set_option maxRecDepth 100000 in
set_option maxHeartbeats 2000000 in
theorem fits3_c (x : Od) (w : World) (p : Nat) (hp : w.cell? ⟨p, 0, none⟩ = some (.func (.func 154) #[] #[])) : Calls Tryz.prog 162 #[x.v, .pointer (some ⟨p, 0, none⟩)] w fun e w' => e = .returned (.bool (fits3 x)) ∧ Below w.heap.size w w' := by
  have hb := (Below.refl w.heap.size w).alloc (Nat.le_refl _) (.cells #[i64 x.client, i64 x.seq, i64 x.kind, .string x.acct, .string x.peer, i64 x.sum, .slice x.la x.legs.length x.lc, i64 x.period, i64 x.hold, .string x.note] 37)
  have e95 : ∀ args w, (callFunc 154 args).run Tryz.prog w = .ok (.enter 154 args) w := (enters_of Tryz.func154 (by kernel_rfl) rfl)
  have hlt := World.block_lt_of_cell? _ _ hp
  have hp1 := (hb.cell (p := ⟨p, 0, none⟩) hlt).trans hp
  have Hs := Lib.hid (show fits3 x = (nameB x.acct && decide ((0 : Int) < x.sum)) from rfl)
  have c0 : (w.alloc (.cells #[i64 x.client, i64 x.seq, i64 x.kind, .string x.acct, .string x.peer, i64 x.sum, .slice x.la x.legs.length x.lc, i64 x.period, i64 x.hold, .string x.note] 37)).cell? ⟨w.heap.size, 0, none⟩ = some (i64 x.client) := cell_of_row _ w.heap.size 0 _ _ (0, 0) (heap_alloc_new w _)
  have c1 : (w.alloc (.cells #[i64 x.client, i64 x.seq, i64 x.kind, .string x.acct, .string x.peer, i64 x.sum, .slice x.la x.legs.length x.lc, i64 x.period, i64 x.hold, .string x.note] 37)).cell? ⟨w.heap.size, 1, none⟩ = some (i64 x.seq) := cell_of_row _ w.heap.size 1 _ _ (0, 0) (heap_alloc_new w _)
  have c2 : (w.alloc (.cells #[i64 x.client, i64 x.seq, i64 x.kind, .string x.acct, .string x.peer, i64 x.sum, .slice x.la x.legs.length x.lc, i64 x.period, i64 x.hold, .string x.note] 37)).cell? ⟨w.heap.size, 2, none⟩ = some (i64 x.kind) := cell_of_row _ w.heap.size 2 _ _ (0, 0) (heap_alloc_new w _)
  have c3 : (w.alloc (.cells #[i64 x.client, i64 x.seq, i64 x.kind, .string x.acct, .string x.peer, i64 x.sum, .slice x.la x.legs.length x.lc, i64 x.period, i64 x.hold, .string x.note] 37)).cell? ⟨w.heap.size, 3, none⟩ = some (.string x.acct) := cell_of_row _ w.heap.size 3 _ _ (0, 0) (heap_alloc_new w _)
  have c4 : (w.alloc (.cells #[i64 x.client, i64 x.seq, i64 x.kind, .string x.acct, .string x.peer, i64 x.sum, .slice x.la x.legs.length x.lc, i64 x.period, i64 x.hold, .string x.note] 37)).cell? ⟨w.heap.size, 4, none⟩ = some (.string x.peer) := cell_of_row _ w.heap.size 4 _ _ (0, 0) (heap_alloc_new w _)
  have c5 : (w.alloc (.cells #[i64 x.client, i64 x.seq, i64 x.kind, .string x.acct, .string x.peer, i64 x.sum, .slice x.la x.legs.length x.lc, i64 x.period, i64 x.hold, .string x.note] 37)).cell? ⟨w.heap.size, 5, none⟩ = some (i64 x.sum) := cell_of_row _ w.heap.size 5 _ _ (0, 0) (heap_alloc_new w _)
  have c6 : (w.alloc (.cells #[i64 x.client, i64 x.seq, i64 x.kind, .string x.acct, .string x.peer, i64 x.sum, .slice x.la x.legs.length x.lc, i64 x.period, i64 x.hold, .string x.note] 37)).cell? ⟨w.heap.size, 6, none⟩ = some (.slice x.la x.legs.length x.lc) := cell_of_row _ w.heap.size 6 _ _ (0, 0) (heap_alloc_new w _)
  have c7 : (w.alloc (.cells #[i64 x.client, i64 x.seq, i64 x.kind, .string x.acct, .string x.peer, i64 x.sum, .slice x.la x.legs.length x.lc, i64 x.period, i64 x.hold, .string x.note] 37)).cell? ⟨w.heap.size, 7, none⟩ = some (i64 x.period) := cell_of_row _ w.heap.size 7 _ _ (0, 0) (heap_alloc_new w _)
  have c8 : (w.alloc (.cells #[i64 x.client, i64 x.seq, i64 x.kind, .string x.acct, .string x.peer, i64 x.sum, .slice x.la x.legs.length x.lc, i64 x.period, i64 x.hold, .string x.note] 37)).cell? ⟨w.heap.size, 8, none⟩ = some (i64 x.hold) := cell_of_row _ w.heap.size 8 _ _ (0, 0) (heap_alloc_new w _)
  have c9 : (w.alloc (.cells #[i64 x.client, i64 x.seq, i64 x.kind, .string x.acct, .string x.peer, i64 x.sum, .slice x.la x.legs.length x.lc, i64 x.period, i64 x.hold, .string x.note] 37)).cell? ⟨w.heap.size, 9, none⟩ = some (.string x.note) := cell_of_row _ w.heap.size 9 _ _ (0, 0) (heap_alloc_new w _)
  unfold Od.v
  go_enter Tryz.func162, Tryz.ntmps162
  have hlw : w.heap.size < (w.alloc (.cells #[i64 x.client, i64 x.seq, i64 x.kind, .string x.acct, .string x.peer, i64 x.sum, .slice x.la x.legs.length x.lc, i64 x.period, i64 x.hold, .string x.note] 37)).heap.size := by simp
  go_wp2_with fail
  refine (fname_c x _).mono ?_
  rintro e w1 ⟨rfl, hF⟩
  have c0 := (hF.cell (p := ⟨w.heap.size, 0, none⟩) hlw).trans c0
  have c1 := (hF.cell (p := ⟨w.heap.size, 1, none⟩) hlw).trans c1
  have c2 := (hF.cell (p := ⟨w.heap.size, 2, none⟩) hlw).trans c2
  have c3 := (hF.cell (p := ⟨w.heap.size, 3, none⟩) hlw).trans c3
  have c4 := (hF.cell (p := ⟨w.heap.size, 4, none⟩) hlw).trans c4
  have c5 := (hF.cell (p := ⟨w.heap.size, 5, none⟩) hlw).trans c5
  have c6 := (hF.cell (p := ⟨w.heap.size, 6, none⟩) hlw).trans c6
  have c7 := (hF.cell (p := ⟨w.heap.size, 7, none⟩) hlw).trans c7
  have c8 := (hF.cell (p := ⟨w.heap.size, 8, none⟩) hlw).trans c8
  have c9 := (hF.cell (p := ⟨w.heap.size, 9, none⟩) hlw).trans c9
  have hb := below_on hb (Nat.le_refl _) hF
  have hlw := Nat.lt_of_lt_of_le hlw hF.size
  clear hF
  by_cases t0 : nameB x.acct = true
  · rw [t0]
    have T0 := Lib.hid t0
    clear t0
    by_cases t1 : decide ((0 : Int) < x.sum) = true
    · have T1 := Lib.hid t1
      go_wp2
      go_ret
      exact ⟨by rw [Hs.out, T0.out, T1.out]; rfl, hb⟩
    · have t1 : decide ((0 : Int) < x.sum) = false := by simpa only [Bool.not_eq_true] using t1
      have T1 := Lib.hid t1
      go_wp2
      go_ret
      exact ⟨by rw [Hs.out, T0.out, T1.out]; rfl, hb⟩
  · have t0 : nameB x.acct = false := by simpa using t0
    rw [t0]
    have T0 := Lib.hid t0
    clear t0
    go_wp2
    go_ret
    exact ⟨by rw [Hs.out, T0.out]; rfl, hb⟩
def fits4 (x : Od) : Bool := (((((nameB x.acct && nameB x.peer) && (x.peer.toList != x.acct.toList)) && decide ((0 : Int) < x.sum)) && heldB x.hold) && periodB x.period)
set_option maxRecDepth 100000 in
set_option maxHeartbeats 2000000 in
theorem fits4_c (x : Od) (w : World) (p : Nat) (hp : w.cell? ⟨p, 0, none⟩ = some (.func (.func 154) #[] #[])) : Calls Tryz.prog 164 #[x.v, .pointer (some ⟨p, 0, none⟩)] w fun e w' => e = .returned (.bool (fits4 x)) ∧ Below w.heap.size w w' := by
  have hb := (Below.refl w.heap.size w).alloc (Nat.le_refl _) (.cells #[i64 x.client, i64 x.seq, i64 x.kind, .string x.acct, .string x.peer, i64 x.sum, .slice x.la x.legs.length x.lc, i64 x.period, i64 x.hold, .string x.note] 37)
  have e95 : ∀ args w, (callFunc 154 args).run Tryz.prog w = .ok (.enter 154 args) w := (enters_of Tryz.func154 (by kernel_rfl) rfl)
  have hlt := World.block_lt_of_cell? _ _ hp
  have hp1 := (hb.cell (p := ⟨p, 0, none⟩) hlt).trans hp
  have Hs := Lib.hid (show fits4 x = (((((nameB x.acct && nameB x.peer) && (x.peer.toList != x.acct.toList)) && decide ((0 : Int) < x.sum)) && heldB x.hold) && periodB x.period) from rfl)
  have c0 : (w.alloc (.cells #[i64 x.client, i64 x.seq, i64 x.kind, .string x.acct, .string x.peer, i64 x.sum, .slice x.la x.legs.length x.lc, i64 x.period, i64 x.hold, .string x.note] 37)).cell? ⟨w.heap.size, 0, none⟩ = some (i64 x.client) := cell_of_row _ w.heap.size 0 _ _ (0, 0) (heap_alloc_new w _)
  have c1 : (w.alloc (.cells #[i64 x.client, i64 x.seq, i64 x.kind, .string x.acct, .string x.peer, i64 x.sum, .slice x.la x.legs.length x.lc, i64 x.period, i64 x.hold, .string x.note] 37)).cell? ⟨w.heap.size, 1, none⟩ = some (i64 x.seq) := cell_of_row _ w.heap.size 1 _ _ (0, 0) (heap_alloc_new w _)
  have c2 : (w.alloc (.cells #[i64 x.client, i64 x.seq, i64 x.kind, .string x.acct, .string x.peer, i64 x.sum, .slice x.la x.legs.length x.lc, i64 x.period, i64 x.hold, .string x.note] 37)).cell? ⟨w.heap.size, 2, none⟩ = some (i64 x.kind) := cell_of_row _ w.heap.size 2 _ _ (0, 0) (heap_alloc_new w _)
  have c3 : (w.alloc (.cells #[i64 x.client, i64 x.seq, i64 x.kind, .string x.acct, .string x.peer, i64 x.sum, .slice x.la x.legs.length x.lc, i64 x.period, i64 x.hold, .string x.note] 37)).cell? ⟨w.heap.size, 3, none⟩ = some (.string x.acct) := cell_of_row _ w.heap.size 3 _ _ (0, 0) (heap_alloc_new w _)
  have c4 : (w.alloc (.cells #[i64 x.client, i64 x.seq, i64 x.kind, .string x.acct, .string x.peer, i64 x.sum, .slice x.la x.legs.length x.lc, i64 x.period, i64 x.hold, .string x.note] 37)).cell? ⟨w.heap.size, 4, none⟩ = some (.string x.peer) := cell_of_row _ w.heap.size 4 _ _ (0, 0) (heap_alloc_new w _)
  have c5 : (w.alloc (.cells #[i64 x.client, i64 x.seq, i64 x.kind, .string x.acct, .string x.peer, i64 x.sum, .slice x.la x.legs.length x.lc, i64 x.period, i64 x.hold, .string x.note] 37)).cell? ⟨w.heap.size, 5, none⟩ = some (i64 x.sum) := cell_of_row _ w.heap.size 5 _ _ (0, 0) (heap_alloc_new w _)
  have c6 : (w.alloc (.cells #[i64 x.client, i64 x.seq, i64 x.kind, .string x.acct, .string x.peer, i64 x.sum, .slice x.la x.legs.length x.lc, i64 x.period, i64 x.hold, .string x.note] 37)).cell? ⟨w.heap.size, 6, none⟩ = some (.slice x.la x.legs.length x.lc) := cell_of_row _ w.heap.size 6 _ _ (0, 0) (heap_alloc_new w _)
  have c7 : (w.alloc (.cells #[i64 x.client, i64 x.seq, i64 x.kind, .string x.acct, .string x.peer, i64 x.sum, .slice x.la x.legs.length x.lc, i64 x.period, i64 x.hold, .string x.note] 37)).cell? ⟨w.heap.size, 7, none⟩ = some (i64 x.period) := cell_of_row _ w.heap.size 7 _ _ (0, 0) (heap_alloc_new w _)
  have c8 : (w.alloc (.cells #[i64 x.client, i64 x.seq, i64 x.kind, .string x.acct, .string x.peer, i64 x.sum, .slice x.la x.legs.length x.lc, i64 x.period, i64 x.hold, .string x.note] 37)).cell? ⟨w.heap.size, 8, none⟩ = some (i64 x.hold) := cell_of_row _ w.heap.size 8 _ _ (0, 0) (heap_alloc_new w _)
  have c9 : (w.alloc (.cells #[i64 x.client, i64 x.seq, i64 x.kind, .string x.acct, .string x.peer, i64 x.sum, .slice x.la x.legs.length x.lc, i64 x.period, i64 x.hold, .string x.note] 37)).cell? ⟨w.heap.size, 9, none⟩ = some (.string x.note) := cell_of_row _ w.heap.size 9 _ _ (0, 0) (heap_alloc_new w _)
  unfold Od.v
  go_enter Tryz.func164, Tryz.ntmps164
  have hlw : w.heap.size < (w.alloc (.cells #[i64 x.client, i64 x.seq, i64 x.kind, .string x.acct, .string x.peer, i64 x.sum, .slice x.la x.legs.length x.lc, i64 x.period, i64 x.hold, .string x.note] 37)).heap.size := by simp
  go_wp2_with fail
  refine (fname_c x _).mono ?_
  rintro e w1 ⟨rfl, hF⟩
  have c0 := (hF.cell (p := ⟨w.heap.size, 0, none⟩) hlw).trans c0
  have c1 := (hF.cell (p := ⟨w.heap.size, 1, none⟩) hlw).trans c1
  have c2 := (hF.cell (p := ⟨w.heap.size, 2, none⟩) hlw).trans c2
  have c3 := (hF.cell (p := ⟨w.heap.size, 3, none⟩) hlw).trans c3
  have c4 := (hF.cell (p := ⟨w.heap.size, 4, none⟩) hlw).trans c4
  have c5 := (hF.cell (p := ⟨w.heap.size, 5, none⟩) hlw).trans c5
  have c6 := (hF.cell (p := ⟨w.heap.size, 6, none⟩) hlw).trans c6
  have c7 := (hF.cell (p := ⟨w.heap.size, 7, none⟩) hlw).trans c7
  have c8 := (hF.cell (p := ⟨w.heap.size, 8, none⟩) hlw).trans c8
  have c9 := (hF.cell (p := ⟨w.heap.size, 9, none⟩) hlw).trans c9
  have hb := below_on hb (Nat.le_refl _) hF
  have hlw := Nat.lt_of_lt_of_le hlw hF.size
  clear hF
  by_cases t0 : nameB x.acct = true
  · rw [t0]
    have T0 := Lib.hid t0
    clear t0
    go_wp2_with fail
    refine (name_b x.peer _).mono ?_
    rintro e w2 ⟨rfl, hF⟩
    have c0 := (hF.cell (p := ⟨w.heap.size, 0, none⟩) hlw).trans c0
    have c1 := (hF.cell (p := ⟨w.heap.size, 1, none⟩) hlw).trans c1
    have c2 := (hF.cell (p := ⟨w.heap.size, 2, none⟩) hlw).trans c2
    have c3 := (hF.cell (p := ⟨w.heap.size, 3, none⟩) hlw).trans c3
    have c4 := (hF.cell (p := ⟨w.heap.size, 4, none⟩) hlw).trans c4
    have c5 := (hF.cell (p := ⟨w.heap.size, 5, none⟩) hlw).trans c5
    have c6 := (hF.cell (p := ⟨w.heap.size, 6, none⟩) hlw).trans c6
    have c7 := (hF.cell (p := ⟨w.heap.size, 7, none⟩) hlw).trans c7
    have c8 := (hF.cell (p := ⟨w.heap.size, 8, none⟩) hlw).trans c8
    have c9 := (hF.cell (p := ⟨w.heap.size, 9, none⟩) hlw).trans c9
    have hb := below_on hb (Nat.le_refl _) hF
    have hlw := Nat.lt_of_lt_of_le hlw hF.size
    clear hF
    by_cases t1 : nameB x.peer = true
    · rw [t1]
      have T1 := Lib.hid t1
      clear t1
      by_cases t2 : (x.peer.toList != x.acct.toList) = true
      · have x2 : (x.peer.toList == x.acct.toList) = false := by revert t2; rw [bne]; cases (x.peer.toList == x.acct.toList) <;> simp
        have T2 := Lib.hid t2
        by_cases t3 : decide ((0 : Int) < x.sum) = true
        · have T3 := Lib.hid t3
          go_wp2_with fail
          refine (held_c x.hold _).mono ?_
          rintro e w5 ⟨rfl, hF⟩
          have c0 := (hF.cell (p := ⟨w.heap.size, 0, none⟩) hlw).trans c0
          have c1 := (hF.cell (p := ⟨w.heap.size, 1, none⟩) hlw).trans c1
          have c2 := (hF.cell (p := ⟨w.heap.size, 2, none⟩) hlw).trans c2
          have c3 := (hF.cell (p := ⟨w.heap.size, 3, none⟩) hlw).trans c3
          have c4 := (hF.cell (p := ⟨w.heap.size, 4, none⟩) hlw).trans c4
          have c5 := (hF.cell (p := ⟨w.heap.size, 5, none⟩) hlw).trans c5
          have c6 := (hF.cell (p := ⟨w.heap.size, 6, none⟩) hlw).trans c6
          have c7 := (hF.cell (p := ⟨w.heap.size, 7, none⟩) hlw).trans c7
          have c8 := (hF.cell (p := ⟨w.heap.size, 8, none⟩) hlw).trans c8
          have c9 := (hF.cell (p := ⟨w.heap.size, 9, none⟩) hlw).trans c9
          have hb := below_on hb (Nat.le_refl _) hF
          have hlw := Nat.lt_of_lt_of_le hlw hF.size
          clear hF
          by_cases t4 : heldB x.hold = true
          · rw [t4]
            have T4 := Lib.hid t4
            clear t4
            go_wp2_with fail
            refine (period_c x.period _).mono ?_
            rintro e w6 ⟨rfl, hF⟩
            have c0 := (hF.cell (p := ⟨w.heap.size, 0, none⟩) hlw).trans c0
            have c1 := (hF.cell (p := ⟨w.heap.size, 1, none⟩) hlw).trans c1
            have c2 := (hF.cell (p := ⟨w.heap.size, 2, none⟩) hlw).trans c2
            have c3 := (hF.cell (p := ⟨w.heap.size, 3, none⟩) hlw).trans c3
            have c4 := (hF.cell (p := ⟨w.heap.size, 4, none⟩) hlw).trans c4
            have c5 := (hF.cell (p := ⟨w.heap.size, 5, none⟩) hlw).trans c5
            have c6 := (hF.cell (p := ⟨w.heap.size, 6, none⟩) hlw).trans c6
            have c7 := (hF.cell (p := ⟨w.heap.size, 7, none⟩) hlw).trans c7
            have c8 := (hF.cell (p := ⟨w.heap.size, 8, none⟩) hlw).trans c8
            have c9 := (hF.cell (p := ⟨w.heap.size, 9, none⟩) hlw).trans c9
            have hb := below_on hb (Nat.le_refl _) hF
            have hlw := Nat.lt_of_lt_of_le hlw hF.size
            clear hF
            by_cases t5 : periodB x.period = true
            · rw [t5]
              have T5 := Lib.hid t5
              clear t5
              go_wp2
              go_ret
              exact ⟨by rw [Hs.out, T0.out, T1.out, T2.out, T3.out, T4.out, T5.out]; rfl, hb⟩
            · have t5 : periodB x.period = false := by simpa using t5
              rw [t5]
              have T5 := Lib.hid t5
              clear t5
              go_wp2
              go_ret
              exact ⟨by rw [Hs.out, T0.out, T1.out, T2.out, T3.out, T4.out, T5.out]; rfl, hb⟩
          · have t4 : heldB x.hold = false := by simpa using t4
            rw [t4]
            have T4 := Lib.hid t4
            clear t4
            go_wp2
            go_ret
            exact ⟨by rw [Hs.out, T0.out, T1.out, T2.out, T3.out, T4.out]; rfl, hb⟩
        · have t3 : decide ((0 : Int) < x.sum) = false := by simpa only [Bool.not_eq_true] using t3
          have T3 := Lib.hid t3
          go_wp2
          go_ret
          exact ⟨by rw [Hs.out, T0.out, T1.out, T2.out, T3.out]; rfl, hb⟩
      · have t2 : (x.peer.toList != x.acct.toList) = false := by simpa only [Bool.not_eq_true] using t2
        have x2 : (x.peer.toList == x.acct.toList) = true := by revert t2; rw [bne]; cases (x.peer.toList == x.acct.toList) <;> simp
        have T2 := Lib.hid t2
        go_wp2
        go_ret
        exact ⟨by rw [Hs.out, T0.out, T1.out, T2.out]; rfl, hb⟩
    · have t1 : nameB x.peer = false := by simpa using t1
      rw [t1]
      have T1 := Lib.hid t1
      clear t1
      go_wp2
      go_ret
      exact ⟨by rw [Hs.out, T0.out, T1.out]; rfl, hb⟩
  · have t0 : nameB x.acct = false := by simpa using t0
    rw [t0]
    have T0 := Lib.hid t0
    clear t0
    go_wp2
    go_ret
    exact ⟨by rw [Hs.out, T0.out]; rfl, hb⟩
def fits5 (x : Od) : Bool := (nameB x.acct && heldB x.hold)
set_option maxRecDepth 100000 in
set_option maxHeartbeats 2000000 in
theorem fits5_c (x : Od) (w : World) (p : Nat) (hp : w.cell? ⟨p, 0, none⟩ = some (.func (.func 154) #[] #[])) : Calls Tryz.prog 167 #[x.v, .pointer (some ⟨p, 0, none⟩)] w fun e w' => e = .returned (.bool (fits5 x)) ∧ Below w.heap.size w w' := by
  have hb := (Below.refl w.heap.size w).alloc (Nat.le_refl _) (.cells #[i64 x.client, i64 x.seq, i64 x.kind, .string x.acct, .string x.peer, i64 x.sum, .slice x.la x.legs.length x.lc, i64 x.period, i64 x.hold, .string x.note] 37)
  have e95 : ∀ args w, (callFunc 154 args).run Tryz.prog w = .ok (.enter 154 args) w := (enters_of Tryz.func154 (by kernel_rfl) rfl)
  have hlt := World.block_lt_of_cell? _ _ hp
  have hp1 := (hb.cell (p := ⟨p, 0, none⟩) hlt).trans hp
  have Hs := Lib.hid (show fits5 x = (nameB x.acct && heldB x.hold) from rfl)
  have c0 : (w.alloc (.cells #[i64 x.client, i64 x.seq, i64 x.kind, .string x.acct, .string x.peer, i64 x.sum, .slice x.la x.legs.length x.lc, i64 x.period, i64 x.hold, .string x.note] 37)).cell? ⟨w.heap.size, 0, none⟩ = some (i64 x.client) := cell_of_row _ w.heap.size 0 _ _ (0, 0) (heap_alloc_new w _)
  have c1 : (w.alloc (.cells #[i64 x.client, i64 x.seq, i64 x.kind, .string x.acct, .string x.peer, i64 x.sum, .slice x.la x.legs.length x.lc, i64 x.period, i64 x.hold, .string x.note] 37)).cell? ⟨w.heap.size, 1, none⟩ = some (i64 x.seq) := cell_of_row _ w.heap.size 1 _ _ (0, 0) (heap_alloc_new w _)
  have c2 : (w.alloc (.cells #[i64 x.client, i64 x.seq, i64 x.kind, .string x.acct, .string x.peer, i64 x.sum, .slice x.la x.legs.length x.lc, i64 x.period, i64 x.hold, .string x.note] 37)).cell? ⟨w.heap.size, 2, none⟩ = some (i64 x.kind) := cell_of_row _ w.heap.size 2 _ _ (0, 0) (heap_alloc_new w _)
  have c3 : (w.alloc (.cells #[i64 x.client, i64 x.seq, i64 x.kind, .string x.acct, .string x.peer, i64 x.sum, .slice x.la x.legs.length x.lc, i64 x.period, i64 x.hold, .string x.note] 37)).cell? ⟨w.heap.size, 3, none⟩ = some (.string x.acct) := cell_of_row _ w.heap.size 3 _ _ (0, 0) (heap_alloc_new w _)
  have c4 : (w.alloc (.cells #[i64 x.client, i64 x.seq, i64 x.kind, .string x.acct, .string x.peer, i64 x.sum, .slice x.la x.legs.length x.lc, i64 x.period, i64 x.hold, .string x.note] 37)).cell? ⟨w.heap.size, 4, none⟩ = some (.string x.peer) := cell_of_row _ w.heap.size 4 _ _ (0, 0) (heap_alloc_new w _)
  have c5 : (w.alloc (.cells #[i64 x.client, i64 x.seq, i64 x.kind, .string x.acct, .string x.peer, i64 x.sum, .slice x.la x.legs.length x.lc, i64 x.period, i64 x.hold, .string x.note] 37)).cell? ⟨w.heap.size, 5, none⟩ = some (i64 x.sum) := cell_of_row _ w.heap.size 5 _ _ (0, 0) (heap_alloc_new w _)
  have c6 : (w.alloc (.cells #[i64 x.client, i64 x.seq, i64 x.kind, .string x.acct, .string x.peer, i64 x.sum, .slice x.la x.legs.length x.lc, i64 x.period, i64 x.hold, .string x.note] 37)).cell? ⟨w.heap.size, 6, none⟩ = some (.slice x.la x.legs.length x.lc) := cell_of_row _ w.heap.size 6 _ _ (0, 0) (heap_alloc_new w _)
  have c7 : (w.alloc (.cells #[i64 x.client, i64 x.seq, i64 x.kind, .string x.acct, .string x.peer, i64 x.sum, .slice x.la x.legs.length x.lc, i64 x.period, i64 x.hold, .string x.note] 37)).cell? ⟨w.heap.size, 7, none⟩ = some (i64 x.period) := cell_of_row _ w.heap.size 7 _ _ (0, 0) (heap_alloc_new w _)
  have c8 : (w.alloc (.cells #[i64 x.client, i64 x.seq, i64 x.kind, .string x.acct, .string x.peer, i64 x.sum, .slice x.la x.legs.length x.lc, i64 x.period, i64 x.hold, .string x.note] 37)).cell? ⟨w.heap.size, 8, none⟩ = some (i64 x.hold) := cell_of_row _ w.heap.size 8 _ _ (0, 0) (heap_alloc_new w _)
  have c9 : (w.alloc (.cells #[i64 x.client, i64 x.seq, i64 x.kind, .string x.acct, .string x.peer, i64 x.sum, .slice x.la x.legs.length x.lc, i64 x.period, i64 x.hold, .string x.note] 37)).cell? ⟨w.heap.size, 9, none⟩ = some (.string x.note) := cell_of_row _ w.heap.size 9 _ _ (0, 0) (heap_alloc_new w _)
  unfold Od.v
  go_enter Tryz.func167, Tryz.ntmps167
  have hlw : w.heap.size < (w.alloc (.cells #[i64 x.client, i64 x.seq, i64 x.kind, .string x.acct, .string x.peer, i64 x.sum, .slice x.la x.legs.length x.lc, i64 x.period, i64 x.hold, .string x.note] 37)).heap.size := by simp
  go_wp2_with fail
  refine (fname_c x _).mono ?_
  rintro e w1 ⟨rfl, hF⟩
  have c0 := (hF.cell (p := ⟨w.heap.size, 0, none⟩) hlw).trans c0
  have c1 := (hF.cell (p := ⟨w.heap.size, 1, none⟩) hlw).trans c1
  have c2 := (hF.cell (p := ⟨w.heap.size, 2, none⟩) hlw).trans c2
  have c3 := (hF.cell (p := ⟨w.heap.size, 3, none⟩) hlw).trans c3
  have c4 := (hF.cell (p := ⟨w.heap.size, 4, none⟩) hlw).trans c4
  have c5 := (hF.cell (p := ⟨w.heap.size, 5, none⟩) hlw).trans c5
  have c6 := (hF.cell (p := ⟨w.heap.size, 6, none⟩) hlw).trans c6
  have c7 := (hF.cell (p := ⟨w.heap.size, 7, none⟩) hlw).trans c7
  have c8 := (hF.cell (p := ⟨w.heap.size, 8, none⟩) hlw).trans c8
  have c9 := (hF.cell (p := ⟨w.heap.size, 9, none⟩) hlw).trans c9
  have hb := below_on hb (Nat.le_refl _) hF
  have hlw := Nat.lt_of_lt_of_le hlw hF.size
  clear hF
  by_cases t0 : nameB x.acct = true
  · rw [t0]
    have T0 := Lib.hid t0
    clear t0
    go_wp2_with fail
    refine (held_c x.hold _).mono ?_
    rintro e w2 ⟨rfl, hF⟩
    have c0 := (hF.cell (p := ⟨w.heap.size, 0, none⟩) hlw).trans c0
    have c1 := (hF.cell (p := ⟨w.heap.size, 1, none⟩) hlw).trans c1
    have c2 := (hF.cell (p := ⟨w.heap.size, 2, none⟩) hlw).trans c2
    have c3 := (hF.cell (p := ⟨w.heap.size, 3, none⟩) hlw).trans c3
    have c4 := (hF.cell (p := ⟨w.heap.size, 4, none⟩) hlw).trans c4
    have c5 := (hF.cell (p := ⟨w.heap.size, 5, none⟩) hlw).trans c5
    have c6 := (hF.cell (p := ⟨w.heap.size, 6, none⟩) hlw).trans c6
    have c7 := (hF.cell (p := ⟨w.heap.size, 7, none⟩) hlw).trans c7
    have c8 := (hF.cell (p := ⟨w.heap.size, 8, none⟩) hlw).trans c8
    have c9 := (hF.cell (p := ⟨w.heap.size, 9, none⟩) hlw).trans c9
    have hb := below_on hb (Nat.le_refl _) hF
    have hlw := Nat.lt_of_lt_of_le hlw hF.size
    clear hF
    by_cases t1 : heldB x.hold = true
    · rw [t1]
      have T1 := Lib.hid t1
      clear t1
      go_wp2
      go_ret
      exact ⟨by rw [Hs.out, T0.out, T1.out]; rfl, hb⟩
    · have t1 : heldB x.hold = false := by simpa using t1
      rw [t1]
      have T1 := Lib.hid t1
      clear t1
      go_wp2
      go_ret
      exact ⟨by rw [Hs.out, T0.out, T1.out]; rfl, hb⟩
  · have t0 : nameB x.acct = false := by simpa using t0
    rw [t0]
    have T0 := Lib.hid t0
    clear t0
    go_wp2
    go_ret
    exact ⟨by rw [Hs.out, T0.out]; rfl, hb⟩
def fits6 (x : Od) : Bool := periodB x.period
set_option maxRecDepth 100000 in
set_option maxHeartbeats 2000000 in
theorem fits6_c (x : Od) (w : World) : Calls Tryz.prog 169 #[x.v] w fun e w' => e = .returned (.bool (fits6 x)) ∧ Below w.heap.size w w' := by
  have hb := (Below.refl w.heap.size w).alloc (Nat.le_refl _) (.cells #[i64 x.client, i64 x.seq, i64 x.kind, .string x.acct, .string x.peer, i64 x.sum, .slice x.la x.legs.length x.lc, i64 x.period, i64 x.hold, .string x.note] 37)
  have Hs := Lib.hid (show fits6 x = periodB x.period from rfl)
  have c0 : (w.alloc (.cells #[i64 x.client, i64 x.seq, i64 x.kind, .string x.acct, .string x.peer, i64 x.sum, .slice x.la x.legs.length x.lc, i64 x.period, i64 x.hold, .string x.note] 37)).cell? ⟨w.heap.size, 0, none⟩ = some (i64 x.client) := cell_of_row _ w.heap.size 0 _ _ (0, 0) (heap_alloc_new w _)
  have c1 : (w.alloc (.cells #[i64 x.client, i64 x.seq, i64 x.kind, .string x.acct, .string x.peer, i64 x.sum, .slice x.la x.legs.length x.lc, i64 x.period, i64 x.hold, .string x.note] 37)).cell? ⟨w.heap.size, 1, none⟩ = some (i64 x.seq) := cell_of_row _ w.heap.size 1 _ _ (0, 0) (heap_alloc_new w _)
  have c2 : (w.alloc (.cells #[i64 x.client, i64 x.seq, i64 x.kind, .string x.acct, .string x.peer, i64 x.sum, .slice x.la x.legs.length x.lc, i64 x.period, i64 x.hold, .string x.note] 37)).cell? ⟨w.heap.size, 2, none⟩ = some (i64 x.kind) := cell_of_row _ w.heap.size 2 _ _ (0, 0) (heap_alloc_new w _)
  have c3 : (w.alloc (.cells #[i64 x.client, i64 x.seq, i64 x.kind, .string x.acct, .string x.peer, i64 x.sum, .slice x.la x.legs.length x.lc, i64 x.period, i64 x.hold, .string x.note] 37)).cell? ⟨w.heap.size, 3, none⟩ = some (.string x.acct) := cell_of_row _ w.heap.size 3 _ _ (0, 0) (heap_alloc_new w _)
  have c4 : (w.alloc (.cells #[i64 x.client, i64 x.seq, i64 x.kind, .string x.acct, .string x.peer, i64 x.sum, .slice x.la x.legs.length x.lc, i64 x.period, i64 x.hold, .string x.note] 37)).cell? ⟨w.heap.size, 4, none⟩ = some (.string x.peer) := cell_of_row _ w.heap.size 4 _ _ (0, 0) (heap_alloc_new w _)
  have c5 : (w.alloc (.cells #[i64 x.client, i64 x.seq, i64 x.kind, .string x.acct, .string x.peer, i64 x.sum, .slice x.la x.legs.length x.lc, i64 x.period, i64 x.hold, .string x.note] 37)).cell? ⟨w.heap.size, 5, none⟩ = some (i64 x.sum) := cell_of_row _ w.heap.size 5 _ _ (0, 0) (heap_alloc_new w _)
  have c6 : (w.alloc (.cells #[i64 x.client, i64 x.seq, i64 x.kind, .string x.acct, .string x.peer, i64 x.sum, .slice x.la x.legs.length x.lc, i64 x.period, i64 x.hold, .string x.note] 37)).cell? ⟨w.heap.size, 6, none⟩ = some (.slice x.la x.legs.length x.lc) := cell_of_row _ w.heap.size 6 _ _ (0, 0) (heap_alloc_new w _)
  have c7 : (w.alloc (.cells #[i64 x.client, i64 x.seq, i64 x.kind, .string x.acct, .string x.peer, i64 x.sum, .slice x.la x.legs.length x.lc, i64 x.period, i64 x.hold, .string x.note] 37)).cell? ⟨w.heap.size, 7, none⟩ = some (i64 x.period) := cell_of_row _ w.heap.size 7 _ _ (0, 0) (heap_alloc_new w _)
  have c8 : (w.alloc (.cells #[i64 x.client, i64 x.seq, i64 x.kind, .string x.acct, .string x.peer, i64 x.sum, .slice x.la x.legs.length x.lc, i64 x.period, i64 x.hold, .string x.note] 37)).cell? ⟨w.heap.size, 8, none⟩ = some (i64 x.hold) := cell_of_row _ w.heap.size 8 _ _ (0, 0) (heap_alloc_new w _)
  have c9 : (w.alloc (.cells #[i64 x.client, i64 x.seq, i64 x.kind, .string x.acct, .string x.peer, i64 x.sum, .slice x.la x.legs.length x.lc, i64 x.period, i64 x.hold, .string x.note] 37)).cell? ⟨w.heap.size, 9, none⟩ = some (.string x.note) := cell_of_row _ w.heap.size 9 _ _ (0, 0) (heap_alloc_new w _)
  unfold Od.v
  go_enter Tryz.func169, Tryz.ntmps169
  have hlw : w.heap.size < (w.alloc (.cells #[i64 x.client, i64 x.seq, i64 x.kind, .string x.acct, .string x.peer, i64 x.sum, .slice x.la x.legs.length x.lc, i64 x.period, i64 x.hold, .string x.note] 37)).heap.size := by simp
  go_wp2_with fail
  refine (period_c x.period _).mono ?_
  rintro e w1 ⟨rfl, hF⟩
  have c0 := (hF.cell (p := ⟨w.heap.size, 0, none⟩) hlw).trans c0
  have c1 := (hF.cell (p := ⟨w.heap.size, 1, none⟩) hlw).trans c1
  have c2 := (hF.cell (p := ⟨w.heap.size, 2, none⟩) hlw).trans c2
  have c3 := (hF.cell (p := ⟨w.heap.size, 3, none⟩) hlw).trans c3
  have c4 := (hF.cell (p := ⟨w.heap.size, 4, none⟩) hlw).trans c4
  have c5 := (hF.cell (p := ⟨w.heap.size, 5, none⟩) hlw).trans c5
  have c6 := (hF.cell (p := ⟨w.heap.size, 6, none⟩) hlw).trans c6
  have c7 := (hF.cell (p := ⟨w.heap.size, 7, none⟩) hlw).trans c7
  have c8 := (hF.cell (p := ⟨w.heap.size, 8, none⟩) hlw).trans c8
  have c9 := (hF.cell (p := ⟨w.heap.size, 9, none⟩) hlw).trans c9
  have hb := below_on hb (Nat.le_refl _) hF
  have hlw := Nat.lt_of_lt_of_le hlw hF.size
  clear hF
  by_cases t0 : periodB x.period = true
  · rw [t0]
    have T0 := Lib.hid t0
    clear t0
    go_wp2
    go_ret
    exact ⟨by rw [Hs.out, T0.out]; rfl, hb⟩
  · have t0 : periodB x.period = false := by simpa using t0
    rw [t0]
    have T0 := Lib.hid t0
    clear t0
    go_wp2
    go_ret
    exact ⟨by rw [Hs.out, T0.out]; rfl, hb⟩
section
variable {κ : Type} [DecidableEq κ] {enc : κ → Value} {P : Program} {K : TypeId} {w : World} {b : Nat} {M : List (κ × Value)}
theorem wpList_ins {ops : Array Oper} {rest : List Oper} {o : Oper} {a : Act} {Q : Exit → Act → World → Prop} (hgd : o.guard = none) (d : Option Nat) (m x y : Operand) (t : TypeId) (hop : o.op = Op.insert t m x y) (hd : o.dst = d) {e : TypeId} (F : KeyFit P K enc) (ht : P.underlying t = some (.map K e))
    (hm : a.eval m = .map (some b)) (h : MapIs enc w b M) (k : κ) (v : Value) (hx : a.eval x = enc k) (hy : a.eval y = v)
    (hK : ∀ w', MapIs enc w' b (putM M k v) → w.grownBy w' (some b) → wpList P ops Q rest (a.put d undef) w') : wpList P ops Q (o :: rest) a w := by
  subst hd
  obtain ⟨w', hrun, h1, h2⟩ := run_put F ht h k v
  refine wpList_plain hgd fun K' hK' => ?_
  unfold Oper.wp
  simp [execOp, hop, hm, hx, hy, hrun, Result.andThen]
  exact hK' _ _ (hK _ h1 h2)
end
/-- the shapes by their kinds, name's closure in block p -/
def shapesM (p : Nat) : List (Int × Value) := [(1, .agg #[.func (.func 155) #[] #[], .func (.func 156) #[] #[.pointer (some ⟨p, 0, none⟩)]]), (2, .agg #[.func (.func 157) #[] #[], .func (.func 158) #[] #[]]), (3, .agg #[.func (.func 161) #[] #[], .func (.func 162) #[] #[.pointer (some ⟨p, 0, none⟩)]]), (4, .agg #[.func (.func 163) #[] #[], .func (.func 164) #[] #[.pointer (some ⟨p, 0, none⟩)]]), (5, .agg #[.func (.func 166) #[] #[], .func (.func 167) #[] #[.pointer (some ⟨p, 0, none⟩)]]), (6, .agg #[.func (.func 168) #[] #[], .func (.func 169) #[] #[]]), (7, .agg #[.func (.func 170) #[] #[], .func (.func 154) #[] #[]])]
set_option maxRecDepth 100000 in
set_option maxHeartbeats 4000000 in
theorem shapes_c (w : World) : Calls Tryz.prog 110 #[] w fun e w' => e = .returned (.map (some (w.heap.size + 1))) ∧ MapIs i64 w' (w.heap.size + 1) (shapesM w.heap.size) ∧ w'.cell? ⟨w.heap.size, 0, none⟩ = some (.func (.func 154) #[] #[]) ∧ Below w.heap.size w w' := by
  have hmm := @run_makeMap Tryz.prog
  obtain ⟨W1, hW1⟩ : ∃ W1, (w.alloc (.cells #[.nilFunc] 136)).setCell ⟨w.heap.size, 0, none⟩ (.func (.func 154) #[] #[]) = W1 := ⟨_, rfl⟩
  have hb1 : Below w.heap.size w W1 := by rw [← hW1]; exact ((Below.refl _ _).alloc (Nat.le_refl _) _).setCell (Nat.le_refl _) _
  have hs1 : W1.heap.size = w.heap.size + 1 := by rw [← hW1]; simp [World.setCell]
  have hc1 : W1.cell? ⟨w.heap.size, 0, none⟩ = some (.func (.func 154) #[] #[]) := by rw [← hW1]; exact cell_of_row _ w.heap.size 0 _ _ (0, 0) (heap_setCell_same _ w.heap.size 0 _ _ (.func (.func 154) #[] #[]) (heap_alloc_new w (.cells #[.nilFunc] 136)))
  have m0 := MapIs.made (enc := i64) W1
  have hb2 := hb1.alloc (by omega) (.map #[] 0)
  have hc2 := ((Below.refl W1.heap.size W1).alloc (Nat.le_refl _) (.map #[] 0)).cell (p := ⟨w.heap.size, 0, none⟩) (by rw [hs1]; exact Nat.lt_succ_self _)
  rw [hc1] at hc2
  rw [hs1] at m0
  obtain ⟨v1, r1, m1, g1⟩ := run_put (P := Tryz.prog) intKey Tryz.underlying206 m0 1 (.agg #[.func (.func 155) #[] #[], .func (.func 156) #[] #[.pointer (some ⟨w.heap.size, 0, none⟩)]])
  have d1 := (World.cell?_of_block (a := ⟨w.heap.size, 0, none⟩) (g1.block w.heap.size (by simp; omega) (fun e => by injection e; omega))).trans hc2
  have k1 := hb2.trans (below_of_grown g1 (B := w.heap.size) (by exact hb2.size) (fun g e => by injection e; omega))
  obtain ⟨v2, r2, m2, g2⟩ := run_put (P := Tryz.prog) intKey Tryz.underlying206 m1 2 (.agg #[.func (.func 157) #[] #[], .func (.func 158) #[] #[]])
  have d2 := (World.cell?_of_block (a := ⟨w.heap.size, 0, none⟩) (g2.block w.heap.size (by have := k1.size; have := World.block_lt_of_cell? _ _ d1; exact this) (fun e => by injection e; omega))).trans d1
  have k2 := k1.trans (below_of_grown g2 (B := w.heap.size) (by exact k1.size) (fun g e => by injection e; omega))
  obtain ⟨v3, r3, m3, g3⟩ := run_put (P := Tryz.prog) intKey Tryz.underlying206 m2 3 (.agg #[.func (.func 161) #[] #[], .func (.func 162) #[] #[.pointer (some ⟨w.heap.size, 0, none⟩)]])
  have d3 := (World.cell?_of_block (a := ⟨w.heap.size, 0, none⟩) (g3.block w.heap.size (by have := k2.size; have := World.block_lt_of_cell? _ _ d2; exact this) (fun e => by injection e; omega))).trans d2
  have k3 := k2.trans (below_of_grown g3 (B := w.heap.size) (by exact k2.size) (fun g e => by injection e; omega))
  obtain ⟨v4, r4, m4, g4⟩ := run_put (P := Tryz.prog) intKey Tryz.underlying206 m3 4 (.agg #[.func (.func 163) #[] #[], .func (.func 164) #[] #[.pointer (some ⟨w.heap.size, 0, none⟩)]])
  have d4 := (World.cell?_of_block (a := ⟨w.heap.size, 0, none⟩) (g4.block w.heap.size (by have := k3.size; have := World.block_lt_of_cell? _ _ d3; exact this) (fun e => by injection e; omega))).trans d3
  have k4 := k3.trans (below_of_grown g4 (B := w.heap.size) (by exact k3.size) (fun g e => by injection e; omega))
  obtain ⟨v5, r5, m5, g5⟩ := run_put (P := Tryz.prog) intKey Tryz.underlying206 m4 5 (.agg #[.func (.func 166) #[] #[], .func (.func 167) #[] #[.pointer (some ⟨w.heap.size, 0, none⟩)]])
  have d5 := (World.cell?_of_block (a := ⟨w.heap.size, 0, none⟩) (g5.block w.heap.size (by have := k4.size; have := World.block_lt_of_cell? _ _ d4; exact this) (fun e => by injection e; omega))).trans d4
  have k5 := k4.trans (below_of_grown g5 (B := w.heap.size) (by exact k4.size) (fun g e => by injection e; omega))
  obtain ⟨v6, r6, m6, g6⟩ := run_put (P := Tryz.prog) intKey Tryz.underlying206 m5 6 (.agg #[.func (.func 168) #[] #[], .func (.func 169) #[] #[]])
  have d6 := (World.cell?_of_block (a := ⟨w.heap.size, 0, none⟩) (g6.block w.heap.size (by have := k5.size; have := World.block_lt_of_cell? _ _ d5; exact this) (fun e => by injection e; omega))).trans d5
  have k6 := k5.trans (below_of_grown g6 (B := w.heap.size) (by exact k5.size) (fun g e => by injection e; omega))
  obtain ⟨v7, r7, m7, g7⟩ := run_put (P := Tryz.prog) intKey Tryz.underlying206 m6 7 (.agg #[.func (.func 170) #[] #[], .func (.func 154) #[] #[]])
  have d7 := (World.cell?_of_block (a := ⟨w.heap.size, 0, none⟩) (g7.block w.heap.size (by have := k6.size; have := World.block_lt_of_cell? _ _ d6; exact this) (fun e => by injection e; omega))).trans d6
  have k7 := k6.trans (below_of_grown g7 (B := w.heap.size) (by exact k6.size) (fun g e => by injection e; omega))
  go_enter Tryz.func110, Tryz.ntmps110
  go_wp2
  go_ret
  exact ⟨rfl, by have := m7; simpa [putM, shapesM] using this, d7, k7⟩
end Go.Proofs.YtgholbeehkfbiaaGreat
