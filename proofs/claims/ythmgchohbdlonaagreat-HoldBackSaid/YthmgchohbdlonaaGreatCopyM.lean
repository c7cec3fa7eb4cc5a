/- chart.Copy, hold.Copy -/
import Derived.Test.YthmgchohbdlonaaGreatRows
import Derived.Test.YthmgchohbdlonaaGreatHold
import Derived.Test.YthmgchohbdlonaaGreatShelf
import Derived.Shelf.SlMaps.Clone
import Derived.WalkKit
import Derived.WalkSpells
import Derived.WalkLawsBesides
import Derived.Deep.QuietTactic
import Derived.BigQuiet
import Derived.Laws.StructEq
import Derived.Deep.DeepFit
import Derived.StillTailTactics
namespace Go.Proofs.YthmgchohbdlonaaGreat
open Go.RowKit
theorem MapIs.cloned {κ : Type} {enc : κ → Value} {w : World} {b : Nat} {M : List (κ × Value)} {es : Array MapEntry} {clock : Nat} (h : MapIs enc w b M) (hb : w.heap[b]? = some (.map es clock)) : MapIs enc (w.alloc (.map es clock)) w.heap.size M := by
  obtain ⟨es', clock', hb', r⟩ := h
  rw [hb] at hb'
  injection hb' with hb'
  injection hb' with e1 e2
  subst e1 e2
  exact ⟨es, clock, heap_alloc_new w _, r⟩
set_option maxRecDepth 100000 in
set_option maxHeartbeats 4000000 in
theorem chcopy_c (g b : Nat) (M : List (ByteArray × Ac)) (w : World) (h : ChIs w g b M) :
    Calls Tryz.prog 19 #[.pointer (some ⟨g, 0, none⟩)] w fun e w' => ∃ g' b', e = .returned (.pointer (some ⟨g', 0, none⟩)) ∧ ChIs w' g' b' M ∧ w.heap.size ≤ g' ∧ w.heap.size ≤ b' ∧ Below w.heap.size w w' := by
  obtain ⟨es, clock, hb, hr⟩ := h.map
  have hm := h.map.cloned hb
  have hC := AnyW.maps_Clone Tryz.lcloneA b es clock w hb
  change Calls Tryz.prog 43 _ _ _ at hC
  have HC := Lib.hid hC
  have c0 := cell_of_row _ g 0 _ _ (0, 0) h.cell
  simp only [List.getElem?_toArray, List.getElem?_cons_zero] at c0
  have hB := ((Below.refl w.heap.size w).alloc (Nat.le_refl _) (.map es clock)).alloc (by simp) (.cells #[.map (some w.heap.size)] 87)
  clear hb hr h hC
  go_enter Tryz.func19, Tryz.ntmps19
  go_wp2_with fail
  refine HC.out.mono ?_
  rintro e w1 ⟨rfl, rfl⟩
  go_wp2
  go_ret
  exact ⟨w.heap.size + 1, w.heap.size, rfl, ⟨by omega, heap_alloc2_new w _ _, hm.later ((Below.refl _ _).alloc (Nat.le_refl _) _)⟩, by omega, by omega, hB⟩
set_option maxRecDepth 100000 in
set_option maxHeartbeats 4000000 in
theorem hocopy_c (g b : Nat) (H : List (Hk × Int)) (w : World) (h : HoIs w g b H) :
    Calls Tryz.prog 20 #[.pointer (some ⟨g, 0, none⟩)] w fun e w' => ∃ g' b', e = .returned (.pointer (some ⟨g', 0, none⟩)) ∧ HoIs w' g' b' H ∧ w.heap.size ≤ g' ∧ w.heap.size ≤ b' ∧ Below w.heap.size w w' := by
  obtain ⟨es, clock, hb, hr⟩ := h.map
  have hm := h.map.cloned hb
  have hC := AnyW.maps_Clone Tryz.lcloneH b es clock w hb
  change Calls Tryz.prog 44 _ _ _ at hC
  have HC := Lib.hid hC
  have c0 := cell_of_row _ g 0 _ _ (0, 0) h.cell
  simp only [List.getElem?_toArray, List.getElem?_cons_zero] at c0
  have hB := ((Below.refl w.heap.size w).alloc (Nat.le_refl _) (.map es clock)).alloc (by simp) (.cells #[.map (some w.heap.size)] 66)
  clear hb hr h hC
  go_enter Tryz.func20, Tryz.ntmps20
  go_wp2_with fail
  refine HC.out.mono ?_
  rintro e w1 ⟨rfl, rfl⟩
  go_wp2
  go_ret
  exact ⟨w.heap.size + 1, w.heap.size, rfl, ⟨by omega, heap_alloc2_new w _ _, hm.later ((Below.refl _ _).alloc (Nat.le_refl _) _)⟩, by omega, by omega, hB⟩
end Go.Proofs.YthmgchohbdlonaaGreat
