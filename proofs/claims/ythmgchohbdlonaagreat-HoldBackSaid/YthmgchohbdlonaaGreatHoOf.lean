/- hold.Of -/
import Derived.Test.YthmgchohbdlonaaGreatRows
import Derived.Test.YthmgchohbdlonaaGreatHoAll
import Derived.Test.YthmgchohbdlonaaGreatFnH
import Derived.WalkKit
import Derived.WalkSpells
import Derived.WalkLawsBesides
import Derived.Deep.QuietTactic
import Derived.BigQuiet
import Derived.Laws.StructEq
import Derived.Deep.DeepFit
import Derived.StillTailTactics
namespace Go.Proofs.YthmgchohbdlonaaGreat
open Go.RowKit
set_option maxRecDepth 100000 in
set_option maxHeartbeats 2000000 in
theorem of1_c (x : Held) (s : ByteArray) (q : Nat) (w : World) (hq : w.cell? ⟨q, 0, none⟩ = some (.string s)) :
    Calls Tryz.prog 39 #[x.v, .pointer (some ⟨q, 0, none⟩)] w fun e w' => e = .returned (.bool (!decide (x.acct = s))) ∧ Below w.heap.size w w' := by
  have hb0 := (Below.refl w.heap.size w).alloc (Nat.le_refl _) (.cells #[i64 x.num, .string x.acct, i64 x.sum] 54)
  have hlq := World.block_lt_of_cell? _ _ hq
  have hne : q ≠ w.heap.size := Nat.ne_of_lt hlq
  by_cases he : x.acct = s
  · have e1 := beqS_of_eq he
    rw [decide_eq_true he]
    clear he
    go_enter Tryz.func39, Tryz.ntmps39
    go_wp2
    go_ret
    exact ⟨rfl, hb0⟩
  · have e1 := beqS_of_ne he
    rw [decide_eq_false he]
    clear he
    go_enter Tryz.func39, Tryz.ntmps39
    go_wp2
    go_ret
    exact ⟨rfl, hb0⟩
def ofL (L : List Held) (s : ByteArray) : List Held := L.filter fun x => decide (x.acct = s)
set_option maxRecDepth 100000 in
set_option maxHeartbeats 4000000 in
theorem hoof_c (g b : Nat) (L : List Held) (s : ByteArray) (w : World) (h : HoA w g b L) (hok : OkH L) (hn : L.length ≤ 65536) :
    Calls Tryz.prog 14 #[.pointer (some ⟨g, 0, none⟩), .string s] w fun e w' => ∃ v, e = .returned v ∧ Own w' w.heap.size 54 v (ofL L s) ∧ Below w.heap.size w w' := by
  have hb0 := (Below.refl w.heap.size w).alloc (Nat.le_refl _) (.cells #[.string s] 9)
  have hA := Lib.hid (hoall_c g b L _ (h.later hb0) hok hn)
  have hc := heap_alloc_new w (.cells #[.string s] 9)
  have HL := Lib.hid (show (L.filter fun x => !!decide (x.acct = s)) = ofL L s by unfold ofL; congr 1; funext x; simp)
  have Hn := Lib.hid hn
  clear h hok hn
  go_enter Tryz.func14, Tryz.ntmps14
  go_wp2_with fail
  generalize w.alloc (.cells #[.string s] 9) = w0 at *
  refine hA.out.mono ?_
  rintro e w1 ⟨v, rfl, hO, hF⟩
  have hc1 := (hF.block _ (Array.getElem?_eq_some_iff.1 hc).1).trans hc
  have hb1 := below_on hb0 (Nat.le_refl _) hF
  have hlt := (Array.getElem?_eq_some_iff.1 hc).1
  have HD := Lib.hid (deleteFunc_held w0.heap.size v L 39 #[.pointer (some ⟨w.heap.size, 0, none⟩)] (fun x => !decide (x.acct = s)) w1 hO Hn.out (enters_of Tryz.func39 (by kernel_rfl) rfl) (fun x _ w2 hg => by
    have hcell := hg.block w.heap.size (Nat.lt_of_lt_of_le hlt hF.size) (fun e => by
      have := (hO.1.lt _ e.symm).1
      omega)
    have hc2 := cell_of_row _ w.heap.size 0 _ _ (0, 0) (hcell.trans hc1)
    exact of1_c x s w.heap.size w2 hc2))
  have HO := Lib.hid hO
  clear hA hc hc1 hF
  go_wp2_with fail
  refine HD.out.mono ?_
  rintro e w2 ⟨v2, rfl, hO2, hg2, hv2⟩
  have hb2 := hb1.trans (HO.out.below hg2 (by have := hb0.size; omega) hb1.size)
  rw [HL.out] at hO2
  go_wp2
  go_ret
  exact ⟨_, rfl, hO2.mono hb0.size, hb2⟩
end Go.Proofs.YthmgchohbdlonaaGreat
