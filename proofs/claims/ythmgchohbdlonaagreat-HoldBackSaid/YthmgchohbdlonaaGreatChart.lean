/- chart: New, Get, free -/
import Derived.Test.YthmgchohbdlonaaGreatRows
import Derived.Test.YthmgchohbdlonaaGreatKeys
import Derived.Test.YthmgchohbdlonaaGreatCoins
import Derived.Test.YthmgchohbdlonaaGreatMore
import Derived.Laws.ResultCell
import Derived.WalkKit
import Derived.WalkSpells
import Derived.WalkLawsBesides
import Derived.Deep.QuietTactic
import Derived.BigQuiet
import Derived.Laws.StructEq
import Derived.Deep.DeepFit
import Derived.StillTailTactics
namespace Go.Proofs.YthmgchohbdlonaaGreat
open Go.RowKit
/-- api.Acct -/
structure Ac where
  name : ByteArray
  hav : Int
  set_ : Int
  lim : Int
abbrev Ac.v (a : Ac) : Value := .agg #[.string a.name, i64 a.hav, i64 a.set_, i64 a.lim]
/-- its numbers are of 64 bits -/
def InA (a : Ac) : Prop := R64 a.hav ∧ R64 a.set_ ∧ 0 ≤ a.lim ∧ a.lim ≤ 9223372036854775807
def mv (M : List (ByteArray × Ac)) : List (ByteArray × Value) := M.map fun p => (p.1, p.2.v)
theorem getM_mv (M : List (ByteArray × Ac)) (k : ByteArray) : getM (mv M) k = (getM M k).map Ac.v := by
  unfold getM mv
  induction M with
  | nil => rfl
  | cons p r ih =>
    rw [List.map_cons]
    by_cases h : p.1 = k
    · rw [List.find?_cons_of_pos (by simpa using h), List.find?_cons_of_pos (by simpa using h)]
      rfl
    · rw [List.find?_cons_of_neg (by simpa using h), List.find?_cons_of_neg (by simpa using h)]
      exact ih
theorem putM_mv (M : List (ByteArray × Ac)) (k : ByteArray) (a : Ac) : putM (mv M) k a.v = mv (putM M k a) := by
  unfold putM mv
  rw [List.any_map]
  by_cases h : (M.any fun p => decide (p.1 = k)) = true
  · rw [if_pos h, if_pos (by simpa [Function.comp_def] using h), List.map_map, List.map_map]
    refine List.map_congr_left fun p _ => ?_
    simp only [Function.comp_def]
    split <;> rfl
  · rw [if_neg h, if_neg (by simpa [Function.comp_def] using h), List.map_append]
    rfl
/-- block g holds a chart, whose map lies in block b -/
structure ChIs (w : World) (g b : Nat) (M : List (ByteArray × Ac)) : Prop where
  ne : b ≠ g
  cell : w.heap[g]? = some (.cells #[.map (some b)] 87 (0, 0))
  map : MapIs Value.string w b (mv M)
theorem ChIs.kept {w w' : World} {g b : Nat} {M : List (ByteArray × Ac)} {row : Option Nat} (h : ChIs w g b M) (hk : w.grownBy w' row) (h1 : some g ≠ row) (h2 : some b ≠ row) : ChIs w' g b M :=
  ⟨h.ne, (hk.block g (Array.getElem?_eq_some_iff.1 h.cell).1 h1).trans h.cell, h.map.kept hk h2⟩
theorem ChIs.later {w w' : World} {g b : Nat} {M : List (ByteArray × Ac)} (h : ChIs w g b M) (hb : Below w.heap.size w w') : ChIs w' g b M := h.kept (grown_of_below hb none) (by simp) (by simp)
theorem ChIs.lt {w : World} {g b : Nat} {M : List (ByteArray × Ac)} (h : ChIs w g b M) : g < w.heap.size ∧ b < w.heap.size := ⟨(Array.getElem?_eq_some_iff.1 h.cell).1, h.map.lt⟩
set_option maxRecDepth 100000 in
set_option maxHeartbeats 2000000 in
theorem chnew_c (w : World) : Calls Tryz.prog 24 #[] w fun e w' => e = .returned (.pointer (some ⟨w.heap.size + 1, 0, none⟩)) ∧ ChIs w' (w.heap.size + 1) w.heap.size [] ∧ Below w.heap.size w w' := by
  have hmm := @run_makeMap Tryz.prog
  go_enter Tryz.func24, Tryz.ntmps24
  go_wp2
  go_ret
  have hB := ((Below.refl w.heap.size w).alloc (Nat.le_refl _) (.map #[] 0)).alloc (by simp) (.cells #[.map (some w.heap.size)] 87)
  exact ⟨rfl, ⟨by omega, heap_alloc2_new w _ _, (MapIs.made (enc := Value.string) w).later ((Below.refl _ _).alloc (Nat.le_refl _) _)⟩, hB⟩
def ac0 : Ac := ⟨⟨#[]⟩, 0, 0, 0⟩
/-- chart.Get -/
def getC (M : List (ByteArray × Ac)) (k : ByteArray) : Ac × Int := match getM M k with
  | some a => (a, 0)
  | none => (ac0, 6)
set_option maxRecDepth 100000 in
set_option maxHeartbeats 4000000 in
theorem get_c (g b : Nat) (M : List (ByteArray × Ac)) (k : ByteArray) (w : World) (h : ChIs w g b M) :
    Calls Tryz.prog 22 #[.pointer (some ⟨g, 0, none⟩), .string k] w fun e w' => e = .returned (.tuple #[(getC M k).1.v, i64 (getC M k).2]) ∧ Below w.heap.size w w' := by
  have hb0 := (Below.refl w.heap.size w).alloc (Nat.le_refl _) (.cells #[.string ⟨#[]⟩, i64 0, i64 0, i64 0] 52)
  have h1 := h.later hb0
  have hres := heap_alloc_new w (.cells #[.string ⟨#[]⟩, i64 0, i64 0, i64 0] 52)
  have c0 := cell_of_row _ g 0 _ _ (0, 0) h1.cell
  simp only [List.getElem?_toArray, List.getElem?_cons_zero] at c0
  have hlk := run_lookup (P := Tryz.prog) strKey Tryz.underlying85 h1.map k (ac0.v) (by kernel_rfl) true
  rw [getM_mv] at hlk
  have hb1 := fun o => hb0.alloc (by simp) o
  cases hm : getM M k with
  | none =>
    rw [hm] at hlk
    have HC := Lib.hid (show getC M k = (ac0, 6) by unfold getC; rw [hm])
    clear hm
    unfold ac0 at hlk
    go_enter Tryz.func22, Tryz.ntmps22
    go_wp2
    refine bodyPost_ret (results_cell_row_tmp rfl _ _ w.heap.size 52 _ (0, 0) _ rfl (heap_alloc2_old w _ _) Tryz.underlying52 rfl (by kernel_rfl)) rfl ?_
    exact ⟨by rw [HC.out]; rfl, hb1 _⟩
  | some a =>
    rw [hm] at hlk
    have HC := Lib.hid (show getC M k = (a, 0) by unfold getC; rw [hm])
    clear hm
    unfold ac0 at hlk
    go_enter Tryz.func22, Tryz.ntmps22
    go_wp2
    refine bodyPost_ret (results_cell_row_tmp rfl _ _ w.heap.size 52 _ (0, 0) _ rfl (heap_alloc2_old w _ _) Tryz.underlying52 rfl (by kernel_rfl)) rfl ?_
    exact ⟨by rw [HC.out]; rfl, ((Below.refl _ _).alloc (Nat.le_refl _) _).alloc (by simp) _⟩
/-- chart.free -/
def freeA (a : Ac) (x : Int) : Bool := decide ((sumR (a.hav - a.set_)).2 = 0) && (decide ((sumR ((sumR (a.hav - a.set_)).1 - x)).2 = 0) && decide (-a.lim ≤ (sumR ((sumR (a.hav - a.set_)).1 - x)).1))
set_option maxRecDepth 100000 in
set_option maxHeartbeats 4000000 in
theorem free_c (a : Ac) (x : Int) (w : World) (ha : InA a) (hx : R64 x) :
    Calls Tryz.prog 75 #[a.v, i64 x] w fun e w' => e = .returned (.bool (freeA a x)) ∧ Below w.heap.size w w' := by
  have hb0 := (Below.refl w.heap.size w).alloc (Nat.le_refl _) (.cells #[.string a.name, i64 a.hav, i64 a.set_, i64 a.lim] 52)
  have hg := heap_alloc_new w (.cells #[.string a.name, i64 a.hav, i64 a.set_, i64 a.lim] 52)
  have k1 := cell_of_row _ w.heap.size 1 _ _ (0, 0) hg
  have k2 := cell_of_row _ w.heap.size 2 _ _ (0, 0) hg
  have k3 := cell_of_row _ w.heap.size 3 _ _ (0, 0) hg
  simp only [List.getElem?_toArray, List.getElem?_cons_zero, List.getElem?_cons_succ] at k1 k2 k3
  have hz : w.heap.size < (w.alloc (.cells #[.string a.name, i64 a.hav, i64 a.set_, i64 a.lim] 52)).heap.size := by simp
  obtain ⟨h1, h2, h3, h4⟩ := ha
  have L1 := Lib.hid fun W => less_c a.hav a.set_ W h1 h2
  have L2 := Lib.hid fun W => less_c (sumR (a.hav - a.set_)).1 x W (sumR_R64 _) hx
  have hw : IntKind.i64.wrap (-a.lim) = -a.lim := by rw [IntKind.wrap_i64]; omega
  have HD := Lib.hid (show freeA a x = (decide ((sumR (a.hav - a.set_)).2 = 0) && (decide ((sumR ((sumR (a.hav - a.set_)).1 - x)).2 = 0) && decide (-a.lim ≤ (sumR ((sumR (a.hav - a.set_)).1 - x)).1))) from rfl)
  generalize freeA a x = F at *
  generalize sumR (a.hav - a.set_) = r1 at *
  generalize sumR (r1.1 - x) = r2 at *
  clear hg h1 h2
  go_enter Tryz.func75, Tryz.ntmps75
  go_wp2_with fail
  generalize w.alloc (.cells #[.string a.name, i64 a.hav, i64 a.set_, i64 a.lim] 52) = w0 at *
  refine (L1.out _).mono ?_
  rintro e w1 ⟨rfl, hF⟩
  have k3 := (hF.cell (p := ⟨w.heap.size, 3, none⟩) hz).trans k3
  have hb1 := below_on hb0 (Nat.le_refl _) hF
  have hz := Nat.lt_of_lt_of_le hz hF.size
  clear hF L1 k1 k2
  by_cases e1 : r1.2 = 0
  · have g1 : (r1.2 != 0) = false := by rw [e1]; rfl
    have E1 := Lib.hid (decide_eq_true e1)
    clear e1
    go_wp2_with fail
    refine (L2.out _).mono ?_
    rintro e w2 ⟨rfl, hF⟩
    have k3 := (hF.cell (p := ⟨w.heap.size, 3, none⟩) hz).trans k3
    have hb2 := below_on hb1 (Nat.le_refl _) hF
    clear hF L2
    by_cases e2 : r2.2 = 0
    · have g2 : (r2.2 == 0) = true := by rw [e2]; rfl
      have E2 := Lib.hid (decide_eq_true e2)
      clear e2
      by_cases e3 : -a.lim ≤ r2.1
      · have g3 : decide (-a.lim ≤ r2.1) = true := decide_eq_true e3
        have HF := Lib.hid (show F = true by rw [HD.out, E1.out, E2.out, g3]; rfl)
        clear e3
        go_wp2
        go_ret
        exact ⟨by rw [HF.out]; rfl, hb2⟩
      · have g3 : decide (-a.lim ≤ r2.1) = false := decide_eq_false e3
        have HF := Lib.hid (show F = false by rw [HD.out, E1.out, E2.out, g3]; rfl)
        clear e3
        go_wp2
        go_ret
        exact ⟨by rw [HF.out]; rfl, hb2⟩
    · have g2 : (r2.2 == 0) = false := beq_eq_false_iff_ne.2 e2
      have HF := Lib.hid (show F = false by rw [HD.out, E1.out, decide_eq_false e2]; rfl)
      clear e2
      go_wp2
      go_ret
      exact ⟨by rw [HF.out]; rfl, hb2⟩
  · have g1 : (r1.2 != 0) = true := by simpa using e1
    have HF := Lib.hid (show F = false by rw [HD.out, decide_eq_false e1]; rfl)
    clear e1
    go_wp2
    go_ret
    exact ⟨by rw [HF.out]; rfl, hb1⟩
end Go.Proofs.YthmgchohbdlonaaGreat
