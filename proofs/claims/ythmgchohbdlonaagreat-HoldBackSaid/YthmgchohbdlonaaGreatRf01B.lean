/- ref01.Total -/
import Derived.Test.YthmgchohbdlonaaGreatRows
import Derived.Test.YthmgchohbdlonaaGreatRf01
import Derived.Deep.Cut
import Derived.Deep.RegionWith
import Derived.WalkKit
import Derived.WalkSpells
import Derived.WalkLawsBesides
import Derived.Deep.QuietTactic
import Derived.BigQuiet
import Derived.Laws.StructEq
import Derived.Deep.DeepFit
import Derived.StillTailTactics
namespace Go.Proofs.YthmgchohbdlonaaGreat
open Go.RowKit
theorem set2_row {w : World} {g : Nat} {a b : Value} {t : TypeId} (h : w.heap[g]? = some (.cells #[a, b] t (0, 0))) (x y : Value) : ((w.setCell ⟨g, 0, none⟩ x).setCell ⟨g, 1, none⟩ y).heap[g]? = some (.cells #[x, y] t (0, 0)) := by
  have h1 := heap_setCell_same w g 0 _ _ x h
  have h2 := heap_setCell_same _ g 1 _ _ y h1
  simpa using h2
set_option maxRecDepth 100000 in
set_option maxHeartbeats 4000000 in
theorem rtotal_c (A : Option Addr) (c : Nat) (l : List Int) (w : World) (h : Sl w w.heap.size A c l) (hl : l.length ≤ 1000) (hr : ∀ a ∈ l, R64 a) :
    Calls Tryz.prog 80 #[.slice A l.length c] w fun e w' => e = .returned (.tuple #[i64 (sumR (sumL l)).1, i64 (sumR (sumL l)).2]) ∧ Below w.heap.size w w' := by
  have hb0 := (Below.refl w.heap.size w).alloc (Nat.le_refl _) (.cells #[i64 0, .int .u64 0] 121)
  have hg0 := heap_alloc_new w (.cells #[i64 0, .int .u64 0] 121)
  have hin : ∀ k, RW (sumL (l.take k)) := fun k => by
    have h1 := sumL_in (l.take k) fun a h => hr a (List.mem_of_mem_take h)
    have h2 : (l.take k).length ≤ 1000 := Nat.le_trans (List.length_take_le' ..) hl
    unfold RW
    omega
  have hS := Lib.hid fun W => rsum_c (sumL l) W
  generalize hR : sumR (sumL l) = R at *
  clear hR
  go_enter Tryz.func80, Tryz.ntmps80
  go_wp2_with fail
  go_loopw [5] (fun i wr => ∃ k : Nat, i = i64 k ∧ k ≤ l.length ∧ wr.heap[w.heap.size]? = some (.cells #[i64 (sumL (l.take k) / 18446744073709551616), .int .u64 (sumL (l.take k) % 18446744073709551616)] 121 (0, 0)) ∧ Below w.heap.size w wr) (fun i _ => l.length - (intOf i).toNat)
  case atStart => exact ⟨0, rfl, by omega, hg0, hb0⟩
  case round =>
    obtain ⟨k, rfl, hk, hg, hB⟩ := hrel
    by_cases hlt : k < l.length
    · have ha := hr l[k] (List.getElem_mem hlt)
      obtain ⟨b, o, rfl, hbb, -, hc⟩ := (h.later hB).at_ hlt
      have d0 := hc 0 _ rfl
      rw [show k * Enc.size Int + 0 = k from Nat.mul_one k] at d0
      have k1 := Lib.hid fun W => of_c l[k] W ha
      have k2 := Lib.hid fun W => plus_c (sumL (l.take k)) l[k] W (hin k) (.of64 ha)
      rw [← sumL_take hlt] at k2
      have i0 : (0 : Int) ≤ (k : Int) := by omega
      have i1 : (k : Int) < (l.length : Int) := by omega
      have m0 := cell_of_row _ w.heap.size 0 _ _ (0, 0) hg
      have m1 := cell_of_row _ w.heap.size 1 _ _ (0, 0) hg
      simp only [List.getElem?_toArray, List.getElem?_cons_zero, List.getElem?_cons_succ] at m0 m1
      have hlg : w.heap.size < wr.heap.size := (Array.getElem?_eq_some_iff.1 hg).1
      have hlc : l.length ≤ c := h.1
      unfold wdV at k2
      have h0 := (Below.refl wr.heap.size wr).drew
      have hB' := hB
      clear hc hin hS hb0 hg0 h
      generalize sumL (l.take k) / 18446744073709551616 = p0 at *
      generalize sumL (l.take k) % 18446744073709551616 = p1 at *
      obtain ⟨q0, e0⟩ : ∃ q, sumL (l.take (k + 1)) / 18446744073709551616 = q := ⟨_, rfl⟩
      obtain ⟨q1, e1⟩ : ∃ q, sumL (l.take (k + 1)) % 18446744073709551616 = q := ⟨_, rfl⟩
      rw [e0, e1] at k2
      have E0 := Lib.hid e0
      have E1 := Lib.hid e1
      clear e0 e1
      go_wp2_with fail
      go_region_with (first
          | (go_at_call 78; with_reducible refine (k1.out _).mono ?_; rintro e u1 ⟨rfl, hF1⟩; have hb1 := below_on h0 (Nat.le_refl _) hF1; have n0 := (hb1.cell (p := ⟨w.heap.size, 0, none⟩) hlg).trans m0; have n1 := (hb1.cell (p := ⟨w.heap.size, 1, none⟩) hlg).trans m1; have hg1 := (hb1.block _ hlg).trans hg; clear hF1)
          | (go_at_call 77; with_reducible refine (k2.out _).mono ?_; rintro e u2 ⟨rfl, hF2⟩; have hb2 := below_on hb1 (Nat.le_refl _) hF2; have hg2 := (hb2.block _ hlg).trans hg; have f0 := frozen_of_row _ w.heap.size 0 _ _ hg2; have f1 := frozen_of_row _ w.heap.size 1 _ _ hg2; have hl2 : w.heap.size < u2.heap.size := Nat.lt_of_lt_of_le hlg hb2.size; clear hF2 n0 n1; have n0 := (hb2.cell (p := ⟨w.heap.size, 0, none⟩) hlg).trans m0; have n1 := (hb2.cell (p := ⟨w.heap.size, 1, none⟩) hlg).trans m1))
      all_goals (
        go_wp2
        go_roundw
        case rel => exact ⟨k + 1, by go_num, by omega, by rw [E0.out, E1.out]; exact set2_row hg2 _ _, ((below_on hB (Nat.le_refl _) hb2).setCell (p := ⟨w.heap.size, 0, none⟩) (Nat.le_refl _) _).setCell (p := ⟨w.heap.size, 1, none⟩) (Nat.le_refl _) _⟩
        case measure => simp [intOf]; omega)
    · obtain rfl : k = l.length := by omega
      rw [List.take_length] at hg
      have m0 := cell_of_row _ w.heap.size 0 _ _ (0, 0) hg
      have m1 := cell_of_row _ w.heap.size 1 _ _ (0, 0) hg
      simp only [List.getElem?_toArray, List.getElem?_cons_zero, List.getElem?_cons_succ] at m0 m1
      unfold wdV at hS
      clear hg hin
      go_wp2_with fail
      refine (hS.out _).mono ?_
      rintro e w1 ⟨rfl, h1⟩
      go_wp2
      go_ret2
      exact ⟨rfl, below_on hB (Nat.le_refl _) h1⟩
end Go.Proofs.YthmgchohbdlonaaGreat
