/- HoldNil: the walk -/
import Derived.Test.YthmgchohbdlonaaRows
import Derived.Test.YthmgchohbdlonaaHnil
import Derived.WalkKit
import Derived.WalkSpells
import Derived.WalkLawsBesides
import Derived.Deep.QuietTactic
import Derived.BigQuiet
import Derived.Laws.StructEq
import Derived.Deep.DeepFit
import Derived.StillTailTactics
namespace Go.Proofs.Ythmgchohbdlonaa
open Go.RowKit
set_option maxRecDepth 100000 in
set_option maxHeartbeats 8000000 in
theorem holdNil_c (x : Op8) (w : World) (_ : Okb w w.heap.size x) : Calls Try.prog 4 #[x.v] w fun e w' => e = .returned (.bool true) ∧ Below w.heap.size w w' := by
  have hb0 := (Below.refl w.heap.size w).alloc (Nat.le_refl _) (.cells #[i64 x.kind, i64 x.num, .string x.acct, .string x.peer, i64 x.sum] 45)
  have hg := heap_alloc_new w (.cells #[i64 x.kind, i64 x.num, .string x.acct, .string x.peer, i64 x.sum] 45)
  have hL := Lib.hid fun W => lives8_c W
  have hBg := Lib.hid fun W => begin_c W
  go_enter Try.func4, Try.ntmps4
  go_wp2_with fail
  generalize w.alloc (.cells #[i64 x.kind, i64 x.num, .string x.acct, .string x.peer, i64 x.sum] 45) = w0 at *
  refine (hL.out _).mono ?_
  rintro e w1 ⟨rfl, hF⟩
  have hg1 := (hF.block _ (Array.getElem?_eq_some_iff.1 hg).1).trans hg
  have hb1 := below_on hb0 (Nat.le_refl _) hF
  clear hL hF hg hb0
  go_wp2_with fail
  refine (hBg.out _).mono ?_
  rintro e w2 ⟨g, b, r, rfl, hB⟩
  have hg2 := (hB.be.block _ (Array.getElem?_eq_some_iff.1 hg1).1).trans hg1
  have hb2 := below_on hb1 (Nat.le_refl _) hB.be
  clear hBg hB hg1 hb1
  have hu : IntKind.u64.wrap x.kind = x.kind % 18446744073709551616 := by rw [IntKind.wrap_u64]
  obtain ⟨u, hu1⟩ : ∃ u, x.kind % 18446744073709551616 = u := ⟨_, rfl⟩
  have hp : 0 ≤ u := by omega
  have hlt : u < 18446744073709551616 := by omega
  rw [hu1] at hu
  obtain ⟨m, hm⟩ : ∃ m, u % 3 = m := ⟨_, rfl⟩
  have hr0 : 0 ≤ m := by omega
  have hr1 : m < 3 := by omega
  have hw : IntKind.i64.wrap m = m := by rw [IntKind.wrap_i64]; omega
  have Hm := Lib.hid hm
  have f0 := frozen_of_row _ w.heap.size 0 _ _ hg2
  have m0 := cell_of_row _ w.heap.size 0 _ _ (0, 0) hg2
  have m1 := cell_of_row _ w.heap.size 1 _ _ (0, 0) hg2
  have m2 := cell_of_row _ w.heap.size 2 _ _ (0, 0) hg2
  have m3 := cell_of_row _ w.heap.size 3 _ _ (0, 0) hg2
  have m4 := cell_of_row _ w.heap.size 4 _ _ (0, 0) hg2
  simp only [List.getElem?_toArray, List.getElem?_cons_zero, List.getElem?_cons_succ] at m0 m1 m2 m3 m4
  have hs3 := heap_setCell_same w2 w.heap.size 0 _ _ (i64 m) hg2
  simp only [List.setIfInBounds_toArray, List.set_cons_zero] at hs3
  have hb3 := hb2.setCell (p := ⟨w.heap.size, 0, none⟩) (Nat.le_refl _) (i64 m)
  have Hs3 := Lib.hid hs3
  clear hs3 hu1
  go_wp2_with fail
  generalize w2.setCell ⟨w.heap.size, 0, none⟩ (i64 m) = w3 at *
  have hlt3 := (Array.getElem?_eq_some_iff.1 Hs3.out).1
  have q0 := cell_of_row _ w.heap.size 0 _ _ (0, 0) Hs3.out
  have q1 := cell_of_row _ w.heap.size 1 _ _ (0, 0) Hs3.out
  have q2 := cell_of_row _ w.heap.size 2 _ _ (0, 0) Hs3.out
  have q3 := cell_of_row _ w.heap.size 3 _ _ (0, 0) Hs3.out
  have q4 := cell_of_row _ w.heap.size 4 _ _ (0, 0) Hs3.out
  simp only [List.getElem?_toArray, List.getElem?_cons_zero, List.getElem?_cons_succ] at q0 q1 q2 q3 q4
  have hS : ∀ V, Below w3.heap.size w3 V → Below w3.heap.size w3 V ∧ V.cell? ⟨w.heap.size, 0, none⟩ = some (i64 m) ∧ V.cell? ⟨w.heap.size, 1, none⟩ = some (i64 x.num) ∧ V.cell? ⟨w.heap.size, 2, none⟩ = some (.string x.acct) ∧ V.cell? ⟨w.heap.size, 3, none⟩ = some (.string x.peer) ∧ V.cell? ⟨w.heap.size, 4, none⟩ = some (i64 x.sum) := fun V h => ⟨h, (h.cell (p := ⟨w.heap.size, 0, none⟩) hlt3).trans q0, (h.cell (p := ⟨w.heap.size, 1, none⟩) hlt3).trans q1, (h.cell (p := ⟨w.heap.size, 2, none⟩) hlt3).trans q2, (h.cell (p := ⟨w.heap.size, 3, none⟩) hlt3).trans q3, (h.cell (p := ⟨w.heap.size, 4, none⟩) hlt3).trans q4⟩
  have h0 := (Below.refl w3.heap.size w3).drew
  have d1 : ∀ (cp : Option Addr) W, Calls Try.prog 13 #[.pointer none, .pointer cp, .agg #[i64 m, i64 x.num, .string x.acct, .string x.peer, i64 x.sum]] W fun e w' => e = .returned (i64 1) ∧ Below W.heap.size W w' := fun cp W => does_nil0 cp ⟨m, x.num, x.acct, x.peer, x.sum⟩ W ⟨hr0, hr1⟩
  have d2 : ∀ (gh : Nat) W, Calls Try.prog 13 #[.pointer (some ⟨gh, 0, none⟩), .pointer none, .agg #[i64 m, i64 x.num, .string x.acct, .string x.peer, i64 x.sum]] W fun e w' => e = .returned (i64 1) ∧ Below W.heap.size W w' := fun gh W => does_nil1 gh ⟨m, x.num, x.acct, x.peer, x.sum⟩ W ⟨hr0, hr1⟩
  have d3 := Lib.hid fun W => honewA_c W
  have d4 := Lib.hid fun W => all_nil W
  have d5 := Lib.hid fun s W => of_nil s W
  have d6 := Lib.hid fun W => copy_nil W
  have D1 := Lib.hid d1
  have D2 := Lib.hid d2
  clear f0 m0 m1 m2 m3 m4 q0 q1 q2 q3 q4 d1 d2 hg2 hb2 hu hp hlt hm hr0 hr1 hw
  go_region_held3 (fun V => Below w3.heap.size w3 V ∧ V.cell? ⟨w.heap.size, 0, none⟩ = some (i64 m) ∧ V.cell? ⟨w.heap.size, 1, none⟩ = some (i64 x.num) ∧ V.cell? ⟨w.heap.size, 2, none⟩ = some (.string x.acct) ∧ V.cell? ⟨w.heap.size, 3, none⟩ = some (.string x.peer) ∧ V.cell? ⟨w.heap.size, 4, none⟩ = some (i64 x.sum)) (first | exact hS _ h0 | (go_split_ands; exact hS _ (below_on (by assumption) (Nat.le_refl _) hbX)))
    (first
      | (go_at_call 13; with_reducible refine (D1.out _ _).mono ?_; rintro e w' ⟨rfl, hbX⟩)
      | (go_at_call 13; with_reducible refine (D2.out _ _).mono ?_; rintro e w' ⟨rfl, hbX⟩)
      | (go_at_call 7; with_reducible refine (d3.out _).mono ?_; rintro e w' ⟨rfl, -, hbX⟩)
      | (go_at_call 14; with_reducible refine (d4.out _).mono ?_; rintro e w' ⟨rfl, hbX⟩)
      | (go_at_call 9; with_reducible refine (d5.out _ _).mono ?_; rintro e w' ⟨Ax, cx, rfl, hbX⟩)
      | (go_at_call 15; with_reducible refine (d6.out _).mono ?_; rintro e w' ⟨rfl, hbX⟩))
  rename_i hh
  have hb9 := below_on hb3 (Nat.le_refl _) hh.1
  clear hh hS
  go_wp2
  go_ret
  exact ⟨rfl, hb9⟩
end Go.Proofs.Ythmgchohbdlonaa
