/- Texts of this claim, laid together: Chart, ChTurn. -/
import Derived.Test.YtmljlkjomjflpaaGreatRows
import Derived.Test.YtmljlkjomjflpaaGreatBb2
import Derived.Laws.ResultCell
import Derived.WalkKit
import Derived.WalkSpells
import Derived.WalkLawsBesides
import Derived.Deep.QuietTactic
import Derived.BigQuiet
import Derived.Laws.StructEq
import Derived.Deep.DeepFit
import Derived.StillTailTactics
import Derived.Deep.Cut
import Derived.Deep.RegionWith
import Derived.Shelf.Abstract
import Derived.Deep.RegionHeld3

/- chart: New, Get, free -/
namespace Go.Proofs.YtmljlkjomjflpaaGreat
open Go.RowKit
/-- api.Acct -/
structure Ac where
  name : ByteArray
  hav : Int
  set_ : Int
  lim : Int
abbrev Ac.v (a : Ac) : Value := .agg #[.string a.name, i64 a.hav, i64 a.set_, i64 a.lim]
/-- its numbers are of 64 bits -/
def InA (a : Ac) : Prop := R64 a.hav ∧ R64 a.set_ ∧ 0 ≤ a.lim ∧ a.lim ≤ 9223372036854775807
def mv (M : List (ByteArray × Ac)) : List (ByteArray × Value) := M.map fun p => (p.1, p.2.v)
theorem getM_mv (M : List (ByteArray × Ac)) (k : ByteArray) : getM (mv M) k = (getM M k).map Ac.v := by
  unfold getM mv
  induction M with
  | nil => rfl
  | cons p r ih =>
    rw [List.map_cons]
    by_cases h : p.1 = k
    · rw [List.find?_cons_of_pos (by simpa using h), List.find?_cons_of_pos (by simpa using h)]
      rfl
    · rw [List.find?_cons_of_neg (by simpa using h), List.find?_cons_of_neg (by simpa using h)]
      exact ih
theorem putM_mv (M : List (ByteArray × Ac)) (k : ByteArray) (a : Ac) : putM (mv M) k a.v = mv (putM M k a) := by
  unfold putM mv
  rw [List.any_map]
  by_cases h : (M.any fun p => decide (p.1 = k)) = true
  · rw [if_pos h, if_pos (by simpa [Function.comp_def] using h), List.map_map, List.map_map]
    refine List.map_congr_left fun p _ => ?_
    simp only [Function.comp_def]
    split <;> rfl
  · rw [if_neg h, if_neg (by simpa [Function.comp_def] using h), List.map_append]
    rfl
/-- block g holds a chart, whose map lies in block b -/
structure ChIs (w : World) (g b : Nat) (M : List (ByteArray × Ac)) : Prop where
  ne : b ≠ g
  cell : w.heap[g]? = some (.cells #[.map (some b)] 122 (0, 0))
  map : MapIs Value.string w b (mv M)
theorem ChIs.kept {w w' : World} {g b : Nat} {M : List (ByteArray × Ac)} {row : Option Nat} (h : ChIs w g b M) (hk : w.grownBy w' row) (h1 : some g ≠ row) (h2 : some b ≠ row) : ChIs w' g b M :=
  ⟨h.ne, (hk.block g (Array.getElem?_eq_some_iff.1 h.cell).1 h1).trans h.cell, h.map.kept hk h2⟩
theorem ChIs.later {w w' : World} {g b : Nat} {M : List (ByteArray × Ac)} (h : ChIs w g b M) (hb : Below w.heap.size w w') : ChIs w' g b M := h.kept (grown_of_below hb none) (by simp) (by simp)
theorem ChIs.lt {w : World} {g b : Nat} {M : List (ByteArray × Ac)} (h : ChIs w g b M) : g < w.heap.size ∧ b < w.heap.size := ⟨(Array.getElem?_eq_some_iff.1 h.cell).1, h.map.lt⟩
set_option maxRecDepth 100000 in
set_option maxHeartbeats 2000000 in
theorem chnew_c (w : World) : Calls Tryz.prog 51 #[] w fun e w' => e = .returned (.pointer (some ⟨w.heap.size + 1, 0, none⟩)) ∧ ChIs w' (w.heap.size + 1) w.heap.size [] ∧ Below w.heap.size w w' := by
  have hmm := @run_makeMap Tryz.prog
  go_enter Tryz.func51, Tryz.ntmps51
  go_wp2
  go_ret
  have hB := ((Below.refl w.heap.size w).alloc (Nat.le_refl _) (.map #[] 0)).alloc (by simp) (.cells #[.map (some w.heap.size)] 122)
  exact ⟨rfl, ⟨by omega, heap_alloc2_new w _ _, (MapIs.made (enc := Value.string) w).later ((Below.refl _ _).alloc (Nat.le_refl _) _)⟩, hB⟩
def ac0 : Ac := ⟨⟨#[]⟩, 0, 0, 0⟩
/-- chart.Get -/
def getC (M : List (ByteArray × Ac)) (k : ByteArray) : Ac × Int := match getM M k with
  | some a => (a, 0)
  | none => (ac0, 6)
set_option maxRecDepth 100000 in
set_option maxHeartbeats 4000000 in
theorem get_c (g b : Nat) (M : List (ByteArray × Ac)) (k : ByteArray) (w : World) (h : ChIs w g b M) :
    Calls Tryz.prog 50 #[.pointer (some ⟨g, 0, none⟩), .string k] w fun e w' => e = .returned (.tuple #[(getC M k).1.v, i64 (getC M k).2]) ∧ Below w.heap.size w w' := by
  have hb0 := (Below.refl w.heap.size w).alloc (Nat.le_refl _) (.cells #[.string ⟨#[]⟩, i64 0, i64 0, i64 0] 70)
  have h1 := h.later hb0
  have hres := heap_alloc_new w (.cells #[.string ⟨#[]⟩, i64 0, i64 0, i64 0] 70)
  have c0 := cell_of_row _ g 0 _ _ (0, 0) h1.cell
  simp only [List.getElem?_toArray, List.getElem?_cons_zero] at c0
  have hlk := run_lookup (P := Tryz.prog) strKey Tryz.underlying120 h1.map k (ac0.v) (by kernel_rfl) true
  rw [getM_mv] at hlk
  have hb1 := fun o => hb0.alloc (by simp) o
  cases hm : getM M k with
  | none =>
    rw [hm] at hlk
    have HC := Lib.hid (show getC M k = (ac0, 6) by unfold getC; rw [hm])
    clear hm
    unfold ac0 at hlk
    go_enter Tryz.func50, Tryz.ntmps50
    go_wp2
    refine bodyPost_ret (results_cell_row_tmp rfl _ _ w.heap.size 70 _ (0, 0) _ rfl (heap_alloc2_old w _ _) Tryz.underlying70 rfl (by kernel_rfl)) rfl ?_
    exact ⟨by rw [HC.out]; rfl, hb1 _⟩
  | some a =>
    rw [hm] at hlk
    have HC := Lib.hid (show getC M k = (a, 0) by unfold getC; rw [hm])
    clear hm
    unfold ac0 at hlk
    go_enter Tryz.func50, Tryz.ntmps50
    go_wp2
    refine bodyPost_ret (results_cell_row_tmp rfl _ _ w.heap.size 70 _ (0, 0) _ rfl (heap_alloc2_old w _ _) Tryz.underlying70 rfl (by kernel_rfl)) rfl ?_
    exact ⟨by rw [HC.out]; rfl, ((Below.refl _ _).alloc (Nat.le_refl _) _).alloc (by simp) _⟩
/-- chart.free -/
def freeA (a : Ac) (x : Int) : Bool := decide ((sumR (a.hav - a.set_)).2 = 0) && (decide ((sumR ((sumR (a.hav - a.set_)).1 - x)).2 = 0) && decide (-a.lim ≤ (sumR ((sumR (a.hav - a.set_)).1 - x)).1))
set_option maxRecDepth 100000 in
set_option maxHeartbeats 4000000 in
theorem free_c (a : Ac) (x : Int) (w : World) (ha : InA a) (hx : R64 x) :
    Calls Tryz.prog 132 #[a.v, i64 x] w fun e w' => e = .returned (.bool (freeA a x)) ∧ Below w.heap.size w w' := by
  have hb0 := (Below.refl w.heap.size w).alloc (Nat.le_refl _) (.cells #[.string a.name, i64 a.hav, i64 a.set_, i64 a.lim] 70)
  have hg := heap_alloc_new w (.cells #[.string a.name, i64 a.hav, i64 a.set_, i64 a.lim] 70)
  have k1 := cell_of_row _ w.heap.size 1 _ _ (0, 0) hg
  have k2 := cell_of_row _ w.heap.size 2 _ _ (0, 0) hg
  have k3 := cell_of_row _ w.heap.size 3 _ _ (0, 0) hg
  simp only [List.getElem?_toArray, List.getElem?_cons_zero, List.getElem?_cons_succ] at k1 k2 k3
  have hz : w.heap.size < (w.alloc (.cells #[.string a.name, i64 a.hav, i64 a.set_, i64 a.lim] 70)).heap.size := by simp
  obtain ⟨h1, h2, h3, h4⟩ := ha
  have L1 := Lib.hid fun W => less_c a.hav a.set_ W h1 h2
  have L2 := Lib.hid fun W => less_c (sumR (a.hav - a.set_)).1 x W (sumR_R64 _) hx
  have hw : IntKind.i64.wrap (-a.lim) = -a.lim := by rw [IntKind.wrap_i64]; omega
  have HD := Lib.hid (show freeA a x = (decide ((sumR (a.hav - a.set_)).2 = 0) && (decide ((sumR ((sumR (a.hav - a.set_)).1 - x)).2 = 0) && decide (-a.lim ≤ (sumR ((sumR (a.hav - a.set_)).1 - x)).1))) from rfl)
  generalize freeA a x = F at *
  generalize sumR (a.hav - a.set_) = r1 at *
  generalize sumR (r1.1 - x) = r2 at *
  clear hg h1 h2
  go_enter Tryz.func132, Tryz.ntmps132
  go_wp2_with fail
  generalize w.alloc (.cells #[.string a.name, i64 a.hav, i64 a.set_, i64 a.lim] 70) = w0 at *
  refine (L1.out _).mono ?_
  rintro e w1 ⟨rfl, hF⟩
  have k3 := (hF.cell (p := ⟨w.heap.size, 3, none⟩) hz).trans k3
  have hb1 := below_on hb0 (Nat.le_refl _) hF
  have hz := Nat.lt_of_lt_of_le hz hF.size
  clear hF L1 k1 k2
  by_cases e1 : r1.2 = 0
  · have g1 : (r1.2 != 0) = false := by rw [e1]; rfl
    have E1 := Lib.hid (decide_eq_true e1)
    clear e1
    go_wp2_with fail
    refine (L2.out _).mono ?_
    rintro e w2 ⟨rfl, hF⟩
    have k3 := (hF.cell (p := ⟨w.heap.size, 3, none⟩) hz).trans k3
    have hb2 := below_on hb1 (Nat.le_refl _) hF
    clear hF L2
    by_cases e2 : r2.2 = 0
    · have g2 : (r2.2 == 0) = true := by rw [e2]; rfl
      have E2 := Lib.hid (decide_eq_true e2)
      clear e2
      by_cases e3 : -a.lim ≤ r2.1
      · have g3 : decide (-a.lim ≤ r2.1) = true := decide_eq_true e3
        have HF := Lib.hid (show F = true by rw [HD.out, E1.out, E2.out, g3]; rfl)
        clear e3
        go_wp2
        go_ret
        exact ⟨by rw [HF.out]; rfl, hb2⟩
      · have g3 : decide (-a.lim ≤ r2.1) = false := decide_eq_false e3
        have HF := Lib.hid (show F = false by rw [HD.out, E1.out, E2.out, g3]; rfl)
        clear e3
        go_wp2
        go_ret
        exact ⟨by rw [HF.out]; rfl, hb2⟩
    · have g2 : (r2.2 == 0) = false := beq_eq_false_iff_ne.2 e2
      have HF := Lib.hid (show F = false by rw [HD.out, E1.out, decide_eq_false e2]; rfl)
      clear e2
      go_wp2
      go_ret
      exact ⟨by rw [HF.out]; rfl, hb2⟩
  · have g1 : (r1.2 != 0) = true := by simpa using e1
    have HF := Lib.hid (show F = false by rw [HD.out, decide_eq_false e1]; rfl)
    clear e1
    go_wp2
    go_ret
    exact ⟨by rw [HF.out]; rfl, hb1⟩
end Go.Proofs.YtmljlkjomjflpaaGreat

/- chart: Give, Aside -/
namespace Go.Proofs.YtmljlkjomjflpaaGreat
open Go.RowKit
abbrev Ac.row (a : Ac) : Array Value := #[.string a.name, i64 a.hav, i64 a.set_, i64 a.lim]
/-- what Give, Aside make of an account -/
def givD (x : Int) (a : Ac) : Ac × Int := ({ a with hav := (sumR (a.hav - x)).1 }, (sumR (a.hav - x)).2)
def asiD (x : Int) (a : Ac) : Ac × Int := ({ a with set_ := (sumR (a.set_ + x)).1 }, (sumR (a.set_ + x)).2)
/-- chart.turn -/
def turnC (D : Ac → Ac × Int) (M : List (ByteArray × Ac)) (k : ByteArray) (x : Int) : Int × List (ByteArray × Ac) := match getM M k with
  | none => (6, M)
  | some a => if (D a).2 ≠ 0 then ((D a).2, M) else if 0 < x ∧ freeA a x = false then (9, M) else if (D a).1.set_ < 0 then (13, M) else (0, putM M k (D a).1)
theorem turnC_none {D : Ac → Ac × Int} {M : List (ByteArray × Ac)} {k : ByteArray} {x : Int} (h : getM M k = none) : turnC D M k x = (6, M) := by unfold turnC; rw [h]
theorem turnC_some {D : Ac → Ac × Int} {M : List (ByteArray × Ac)} {k : ByteArray} {x : Int} {a : Ac} (h : getM M k = some a) : turnC D M k x = if (D a).2 ≠ 0 then ((D a).2, M) else if 0 < x ∧ freeA a x = false then (9, M) else if (D a).1.set_ < 0 then (13, M) else (0, putM M k (D a).1) := by unfold turnC; rw [h]
theorem getM_mem {M : List (ByteArray × Ac)} {k : ByteArray} {a : Ac} (h : getM M k = some a) : ∃ p ∈ M, p.2 = a := by
  unfold getM at h
  rw [Option.map_eq_some_iff] at h
  obtain ⟨p, hp, rfl⟩ := h
  exact ⟨p, List.mem_of_find?_eq_some hp, rfl⟩
set_option maxRecDepth 100000 in
set_option maxHeartbeats 4000000 in
theorem giv1_c (a : Ac) (x : Int) (q p : Nat) (w : World) (hq : w.heap[q]? = some (.cells a.row 70 (0, 0))) (hp : w.cell? ⟨p, 0, none⟩ = some (i64 x)) (ha : R64 a.hav) (hx : R64 x) :
    Calls Tryz.prog 92 #[.pointer (some ⟨q, 0, none⟩), .pointer (some ⟨p, 0, none⟩)] w fun e w' => e = .returned (i64 (givD x a).2) ∧ w'.heap[q]? = some (.cells (givD x a).1.row 70 (0, 0)) ∧ w.grownBy w' (some q) := by
  have k1 := cell_of_row _ q 1 _ _ (0, 0) hq
  simp only [List.getElem?_toArray, List.getElem?_cons_zero, List.getElem?_cons_succ] at k1
  have L1 := Lib.hid fun W => less_c a.hav x W ha hx
  unfold givD
  generalize sumR (a.hav - x) = r at *
  have hlq : q < w.heap.size := (Array.getElem?_eq_some_iff.1 hq).1
  clear ha hx
  go_enter Tryz.func92, Tryz.ntmps92
  go_upto_region 1 with fail
  have h0 := (Below.refl w.heap.size w).drew
  go_cut [3] from 4 (fun s3 wx => s3 = i64 r.2 ∧ wx.heap[q]? = some (.cells (Ac.row { a with hav := r.1 }) 70 (0, 0)) ∧ w.grownBy wx (some q))
  case first =>
    go_region_with (first
      | (go_at_call 93; with_reducible refine (L1.out _).mono ?_; rintro e u1 ⟨rfl, hF⟩; have hb := below_on h0 (Nat.le_refl _) hF; have hq1 := (hb.block _ hlq).trans hq; have z1 := frozen_of_row _ q 1 _ _ hq1; have c1 := (hb.cell (p := ⟨q, 1, none⟩) hlq).trans k1; clear hF))
    all_goals (
      go_wp2_with fail
      go_meet
      have hs := heap_setCell_same u1 q 1 _ _ (i64 r.1) hq1
      simp only [List.setIfInBounds_toArray, List.set_cons_succ, List.set_cons_zero] at hs
      exact ⟨rfl, hs, grown_setCell (g := q) (grown_of_below hb (some q)) (p := ⟨q, 1, none⟩) (.inl rfl) (i64 r.1)⟩)
  case rest =>
  obtain ⟨rfl, h1, h2⟩ := hcut
  clear k1 hq hp L1
  go_wp2
  go_ret
  exact ⟨rfl, h1, h2⟩
set_option maxRecDepth 100000 in
set_option maxHeartbeats 4000000 in
theorem asi1_c (a : Ac) (x : Int) (q p : Nat) (w : World) (hq : w.heap[q]? = some (.cells a.row 70 (0, 0))) (hp : w.cell? ⟨p, 0, none⟩ = some (i64 x)) (ha : R64 a.set_) (hx : R64 x) :
    Calls Tryz.prog 126 #[.pointer (some ⟨q, 0, none⟩), .pointer (some ⟨p, 0, none⟩)] w fun e w' => e = .returned (i64 (asiD x a).2) ∧ w'.heap[q]? = some (.cells (asiD x a).1.row 70 (0, 0)) ∧ w.grownBy w' (some q) := by
  have k1 := cell_of_row _ q 2 _ _ (0, 0) hq
  simp only [List.getElem?_toArray, List.getElem?_cons_zero, List.getElem?_cons_succ] at k1
  have L1 := Lib.hid fun W => add_c a.set_ x W ha hx
  unfold asiD
  generalize sumR (a.set_ + x) = r at *
  have hlq : q < w.heap.size := (Array.getElem?_eq_some_iff.1 hq).1
  clear ha hx
  go_enter Tryz.func126, Tryz.ntmps126
  go_upto_region 1 with fail
  have h0 := (Below.refl w.heap.size w).drew
  go_cut [3] from 4 (fun s3 wx => s3 = i64 r.2 ∧ wx.heap[q]? = some (.cells (Ac.row { a with set_ := r.1 }) 70 (0, 0)) ∧ w.grownBy wx (some q))
  case first =>
    go_region_with (first
      | (go_at_call 127; with_reducible refine (L1.out _).mono ?_; rintro e u1 ⟨rfl, hF⟩; have hb := below_on h0 (Nat.le_refl _) hF; have hq1 := (hb.block _ hlq).trans hq; have z1 := frozen_of_row _ q 2 _ _ hq1; have c1 := (hb.cell (p := ⟨q, 2, none⟩) hlq).trans k1; clear hF))
    all_goals (
      go_wp2_with fail
      go_meet
      have hs := heap_setCell_same u1 q 2 _ _ (i64 r.1) hq1
      simp only [List.setIfInBounds_toArray, List.set_cons_succ, List.set_cons_zero] at hs
      exact ⟨rfl, hs, grown_setCell (g := q) (grown_of_below hb (some q)) (p := ⟨q, 2, none⟩) (.inl rfl) (i64 r.1)⟩)
  case rest =>
  obtain ⟨rfl, h1, h2⟩ := hcut
  clear k1 hq hp L1
  go_wp2
  go_ret
  exact ⟨rfl, h1, h2⟩
set_option maxRecDepth 100000 in
set_option maxHeartbeats 8000000 in
theorem givT_c (g b : Nat) (M : List (ByteArray × Ac)) (k : ByteArray) (x : Int) (p : Nat) (w : World) (h : ChIs w g b M) (hp : w.cell? ⟨p, 0, none⟩ = some (i64 x)) (hM : ∀ y ∈ M, InA y.2) (hx : R64 x) :
    Calls Tryz.prog 91 #[.pointer (some ⟨g, 0, none⟩), .string k, i64 x, .func (.func 92) #[] #[.pointer (some ⟨p, 0, none⟩)]] w fun e w' => e = .returned (i64 (turnC (givD x) M k x).1) ∧ ChIs w' g b (turnC (givD x) M k x).2 ∧ w.grownBy w' (some b) := by
  have hC := Lib.hid (get_c g b M k w h)
  have eC : ∀ args W, (callFunc 92 args).run Tryz.prog W = .ok (.enter 92 args) W := (enters_of Tryz.func92 (by kernel_rfl) rfl)
  obtain ⟨R, hR0⟩ : ∃ R, turnC (givD x) M k x = R := ⟨_, rfl⟩
  rw [hR0]
  have hlp := World.block_lt_of_cell? _ _ hp
  have HR0 := Lib.hid hR0
  clear hR0
  go_enter Tryz.func91, Tryz.ntmps91
  go_wp2_with fail
  refine hC.out.mono ?_
  rintro e w1 ⟨rfl, hF⟩
  have h1 := h.later hF
  have hbw := hF
  have hbS := hF.size
  have hp1 := (hF.cell hlp).trans hp
  clear hF hC
  cases hm : getM M k with
  | none =>
    have HR := Lib.hid (show R = (6, M) by rw [← HR0.out, turnC_none hm])
    have e2 : getC M k = (ac0, 6) := by unfold getC; rw [hm]
    rw [e2]
    clear hm HR0 e2
    unfold ac0
    have hB := (Below.refl w1.heap.size w1).alloc (Nat.le_refl _) (.cells #[.string ⟨#[]⟩, i64 0, i64 0, i64 0] 70)
    go_wp2
    go_ret
    exact ⟨by rw [HR.out]; rfl, by rw [HR.out]; exact h1.later hB, grown_of_below (below_on hbw (Nat.le_refl _) hB) _⟩
  | some a =>
    have hA : InA a := by obtain ⟨y, hy, rfl⟩ := getM_mem hm; exact hM y hy
    have e2 : getC M k = (a, 0) := by unfold getC; rw [hm]
    rw [e2]
    have HR := Lib.hid (show R = (if (givD x a).2 ≠ 0 then ((givD x a).2, M) else if 0 < x ∧ freeA a x = false then (9, M) else if (givD x a).1.set_ < 0 then (13, M) else (0, putM M k (givD x a).1)) by rw [← HR0.out, turnC_some hm])
    clear hm HR0 e2
    have hB := ((Below.refl w1.heap.size w1).alloc (Nat.le_refl _) (.cells a.row 70)).alloc (by simp) (.cells a.row 70)
    have h2 := h1.later hB
    have hp2 := (hB.cell (World.block_lt_of_cell? _ _ hp1)).trans hp1
    have hq := heap_alloc2_old w1 (.cells a.row 70) (.cells a.row 70)
    have ho := heap_alloc2_new w1 (.cells a.row 70) (.cells a.row 70)
    have hb2 := below_on hbw (Nat.le_refl _) hB
    have c0 := cell_of_row _ (w1.heap.size) 0 _ _ (0, 0) (heap_alloc_new w1 (.cells a.row 70))
    have hD := Lib.hid (giv1_c a x w1.heap.size p _ hq hp2 hA.1 hx)
    have hFr := Lib.hid fun W => free_c a x W hA hx
    have hlg := h1.lt
    generalize givD x a = d at *
    clear hB c0 hbw hp hlp h hp1 h1
    go_wp2_with fail
    generalize hW2 : (w1.alloc (.cells a.row 70)).alloc (.cells a.row 70) = W2 at *
    refine hD.out.mono ?_
    rintro e w3 ⟨rfl, hq3, hG⟩
    have hgq : w.heap.size ≤ w1.heap.size := hb2.size |> fun _ => hbS
    have h3 := h2.kept hG (fun e => by injection e with e; omega) (fun e => by injection e with e; omega)
    have ho3 := (hG.block (w1.heap.size + 1) (Array.getElem?_eq_some_iff.1 ho).1 (fun e => by injection e with e; omega)).trans ho
    have hb3 := hb2.trans (below_of_grown hG hb2.size (fun k e => by injection e with e; omega))
    have m0 := cell_of_row _ (w1.heap.size + 1) 0 _ _ (0, 0) ho3
    have m1 := cell_of_row _ (w1.heap.size + 1) 1 _ _ (0, 0) ho3
    have m2 := cell_of_row _ (w1.heap.size + 1) 2 _ _ (0, 0) ho3
    have m3 := cell_of_row _ (w1.heap.size + 1) 3 _ _ (0, 0) ho3
    have n2 := cell_of_row _ w1.heap.size 2 _ _ (0, 0) hq3
    simp only [List.getElem?_toArray, List.getElem?_cons_zero, List.getElem?_cons_succ] at m0 m1 m2 m3 n2
    have hlq3 := (Array.getElem?_eq_some_iff.1 hq3).1
    clear hG hD ho hq h2 hb2 hp2 hW2
    by_cases hd : d.2 = 0
    · have g1 : (d.2 != 0) = false := by rw [hd]; rfl
      have HR1 := Lib.hid (show R = (if 0 < x ∧ freeA a x = false then (9, M) else if d.1.set_ < 0 then (13, M) else (0, putM M k d.1)) by rw [HR.out, if_neg (by simpa using hd)])
      clear HR hd
      by_cases hx0 : 0 < x
      · have g2 : decide ((0 : Int) < x) = true := decide_eq_true hx0
        have HX := Lib.hid hx0
        clear hx0
        go_wp2_with fail
        refine (hFr.out _).mono ?_
        rintro e w4 ⟨rfl, hF⟩
        have h4 := h3.later hF
        have n2 := (hF.cell (p := ⟨w1.heap.size, 2, none⟩) hlq3).trans n2
        have hq4 := (hF.block _ hlq3).trans hq3
        have hb4 := below_on hb3 (Nat.le_refl _) hF
        clear hF m0 m1 m2 m3 ho3 h3 hb3 hq3 hlq3
        cases hfr : freeA a x with
        | false =>
          have HR2 := Lib.hid (show R = (9, M) by rw [HR1.out, if_pos ⟨HX.out, hfr⟩])
          clear HR1 hfr
          go_wp2
          go_ret
          exact ⟨by rw [HR2.out]; rfl, by rw [HR2.out]; exact h4, grown_of_below hb4 _⟩
        | true =>
          have HR2 := Lib.hid (show R = (if d.1.set_ < 0 then (13, M) else (0, putM M k d.1)) by rw [HR1.out, if_neg (fun h => by rw [hfr] at h; exact absurd h.2 (by decide))])
          clear HR1 hfr
          by_cases hn : d.1.set_ < 0
          · have g3 : decide (d.1.set_ < 0) = true := decide_eq_true hn
            have HR3 := Lib.hid (show R = (13, M) by rw [HR2.out, if_pos hn])
            clear hn HR2
            go_wp2
            go_ret
            exact ⟨by rw [HR3.out]; rfl, by rw [HR3.out]; exact h4, grown_of_below hb4 _⟩
          · have g3 : decide (d.1.set_ < 0) = false := decide_eq_false hn
            have HR3 := Lib.hid (show R = (0, putM M k d.1) by rw [HR2.out, if_neg hn])
            clear hn HR2
            have j0 := cell_of_row _ w1.heap.size 0 _ _ (0, 0) hq4
            have j1 := cell_of_row _ w1.heap.size 1 _ _ (0, 0) hq4
            have j3 := cell_of_row _ w1.heap.size 3 _ _ (0, 0) hq4
            have cg := cell_of_row _ g 0 _ _ (0, 0) h4.cell
            simp only [List.getElem?_toArray, List.getElem?_cons_zero, List.getElem?_cons_succ] at j0 j1 j3 cg
            have h5 := h4.later (Below.refl _ _).drew
            obtain ⟨w5, hrun, hm5, hg5⟩ := run_put (P := Tryz.prog) strKey Tryz.underlying120 h5.map k d.1.v
            rw [putM_mv] at hm5
            have HM := Lib.hid hm5
            have HG := Lib.hid hg5
            clear hm5 hg5 hq4
            go_wp2_with fail
            go_region_with fail
            all_goals (
              go_wp2
              go_ret
              exact ⟨by rw [HR3.out]; rfl, by rw [HR3.out]; exact ⟨h5.ne, (HG.out.block g h5.lt.1 (fun e => h5.ne (by injection e with e; exact e.symm))).trans h5.cell, HM.out⟩, grown_trans (grown_of_below hb4.drew _) HG.out⟩)
      · have g2 : decide ((0 : Int) < x) = false := decide_eq_false hx0
        have HR2 := Lib.hid (show R = (if d.1.set_ < 0 then (13, M) else (0, putM M k d.1)) by rw [HR1.out, if_neg (fun h => hx0 h.1)])
        have h4 := h3
        have hq4 := hq3
        have hb4 := hb3
        clear hx0 HR1 h3 hq3 hb3 m0 m1 m2 m3 ho3 hlq3
        by_cases hn : d.1.set_ < 0
        · have g3 : decide (d.1.set_ < 0) = true := decide_eq_true hn
          have HR3 := Lib.hid (show R = (13, M) by rw [HR2.out, if_pos hn])
          clear hn HR2
          go_wp2
          go_ret
          exact ⟨by rw [HR3.out]; rfl, by rw [HR3.out]; exact h4, grown_of_below hb4 _⟩
        · have g3 : decide (d.1.set_ < 0) = false := decide_eq_false hn
          have HR3 := Lib.hid (show R = (0, putM M k d.1) by rw [HR2.out, if_neg hn])
          clear hn HR2
          have j0 := cell_of_row _ w1.heap.size 0 _ _ (0, 0) hq4
          have j1 := cell_of_row _ w1.heap.size 1 _ _ (0, 0) hq4
          have j3 := cell_of_row _ w1.heap.size 3 _ _ (0, 0) hq4
          have cg := cell_of_row _ g 0 _ _ (0, 0) h4.cell
          simp only [List.getElem?_toArray, List.getElem?_cons_zero, List.getElem?_cons_succ] at j0 j1 j3 cg
          have h5 := h4.later (Below.refl _ _).drew
          obtain ⟨w5, hrun, hm5, hg5⟩ := run_put (P := Tryz.prog) strKey Tryz.underlying120 h5.map k d.1.v
          rw [putM_mv] at hm5
          have HM := Lib.hid hm5
          have HG := Lib.hid hg5
          clear hm5 hg5 hq4
          go_wp2_with fail
          go_region_with fail
          all_goals (
            go_wp2
            go_ret
            exact ⟨by rw [HR3.out]; rfl, by rw [HR3.out]; exact ⟨h5.ne, (HG.out.block g h5.lt.1 (fun e => h5.ne (by injection e with e; exact e.symm))).trans h5.cell, HM.out⟩, grown_trans (grown_of_below hb4.drew _) HG.out⟩)
    · have g1 : (d.2 != 0) = true := by simpa using hd
      have HR1 := Lib.hid (show R = (d.2, M) by rw [HR.out, if_pos hd])
      clear hd
      go_wp2
      go_ret
      exact ⟨by rw [HR1.out]; rfl, by rw [HR1.out]; exact h3, grown_of_below hb3 _⟩
set_option maxRecDepth 100000 in
set_option maxHeartbeats 8000000 in
theorem asiT_c (g b : Nat) (M : List (ByteArray × Ac)) (k : ByteArray) (x : Int) (p : Nat) (w : World) (h : ChIs w g b M) (hp : w.cell? ⟨p, 0, none⟩ = some (i64 x)) (hM : ∀ y ∈ M, InA y.2) (hx : R64 x) :
    Calls Tryz.prog 91 #[.pointer (some ⟨g, 0, none⟩), .string k, i64 x, .func (.func 126) #[] #[.pointer (some ⟨p, 0, none⟩)]] w fun e w' => e = .returned (i64 (turnC (asiD x) M k x).1) ∧ ChIs w' g b (turnC (asiD x) M k x).2 ∧ w.grownBy w' (some b) := by
  have hC := Lib.hid (get_c g b M k w h)
  have eC : ∀ args W, (callFunc 126 args).run Tryz.prog W = .ok (.enter 126 args) W := (enters_of Tryz.func126 (by kernel_rfl) rfl)
  obtain ⟨R, hR0⟩ : ∃ R, turnC (asiD x) M k x = R := ⟨_, rfl⟩
  rw [hR0]
  have hlp := World.block_lt_of_cell? _ _ hp
  have HR0 := Lib.hid hR0
  clear hR0
  go_enter Tryz.func91, Tryz.ntmps91
  go_wp2_with fail
  refine hC.out.mono ?_
  rintro e w1 ⟨rfl, hF⟩
  have h1 := h.later hF
  have hbw := hF
  have hbS := hF.size
  have hp1 := (hF.cell hlp).trans hp
  clear hF hC
  cases hm : getM M k with
  | none =>
    have HR := Lib.hid (show R = (6, M) by rw [← HR0.out, turnC_none hm])
    have e2 : getC M k = (ac0, 6) := by unfold getC; rw [hm]
    rw [e2]
    clear hm HR0 e2
    unfold ac0
    have hB := (Below.refl w1.heap.size w1).alloc (Nat.le_refl _) (.cells #[.string ⟨#[]⟩, i64 0, i64 0, i64 0] 70)
    go_wp2
    go_ret
    exact ⟨by rw [HR.out]; rfl, by rw [HR.out]; exact h1.later hB, grown_of_below (below_on hbw (Nat.le_refl _) hB) _⟩
  | some a =>
    have hA : InA a := by obtain ⟨y, hy, rfl⟩ := getM_mem hm; exact hM y hy
    have e2 : getC M k = (a, 0) := by unfold getC; rw [hm]
    rw [e2]
    have HR := Lib.hid (show R = (if (asiD x a).2 ≠ 0 then ((asiD x a).2, M) else if 0 < x ∧ freeA a x = false then (9, M) else if (asiD x a).1.set_ < 0 then (13, M) else (0, putM M k (asiD x a).1)) by rw [← HR0.out, turnC_some hm])
    clear hm HR0 e2
    have hB := ((Below.refl w1.heap.size w1).alloc (Nat.le_refl _) (.cells a.row 70)).alloc (by simp) (.cells a.row 70)
    have h2 := h1.later hB
    have hp2 := (hB.cell (World.block_lt_of_cell? _ _ hp1)).trans hp1
    have hq := heap_alloc2_old w1 (.cells a.row 70) (.cells a.row 70)
    have ho := heap_alloc2_new w1 (.cells a.row 70) (.cells a.row 70)
    have hb2 := below_on hbw (Nat.le_refl _) hB
    have c0 := cell_of_row _ (w1.heap.size) 0 _ _ (0, 0) (heap_alloc_new w1 (.cells a.row 70))
    have hD := Lib.hid (asi1_c a x w1.heap.size p _ hq hp2 hA.2.1 hx)
    have hFr := Lib.hid fun W => free_c a x W hA hx
    have hlg := h1.lt
    generalize asiD x a = d at *
    clear hB c0 hbw hp hlp h hp1 h1
    go_wp2_with fail
    generalize hW2 : (w1.alloc (.cells a.row 70)).alloc (.cells a.row 70) = W2 at *
    refine hD.out.mono ?_
    rintro e w3 ⟨rfl, hq3, hG⟩
    have hgq : w.heap.size ≤ w1.heap.size := hb2.size |> fun _ => hbS
    have h3 := h2.kept hG (fun e => by injection e with e; omega) (fun e => by injection e with e; omega)
    have ho3 := (hG.block (w1.heap.size + 1) (Array.getElem?_eq_some_iff.1 ho).1 (fun e => by injection e with e; omega)).trans ho
    have hb3 := hb2.trans (below_of_grown hG hb2.size (fun k e => by injection e with e; omega))
    have m0 := cell_of_row _ (w1.heap.size + 1) 0 _ _ (0, 0) ho3
    have m1 := cell_of_row _ (w1.heap.size + 1) 1 _ _ (0, 0) ho3
    have m2 := cell_of_row _ (w1.heap.size + 1) 2 _ _ (0, 0) ho3
    have m3 := cell_of_row _ (w1.heap.size + 1) 3 _ _ (0, 0) ho3
    have n2 := cell_of_row _ w1.heap.size 2 _ _ (0, 0) hq3
    simp only [List.getElem?_toArray, List.getElem?_cons_zero, List.getElem?_cons_succ] at m0 m1 m2 m3 n2
    have hlq3 := (Array.getElem?_eq_some_iff.1 hq3).1
    clear hG hD ho hq h2 hb2 hp2 hW2
    by_cases hd : d.2 = 0
    · have g1 : (d.2 != 0) = false := by rw [hd]; rfl
      have HR1 := Lib.hid (show R = (if 0 < x ∧ freeA a x = false then (9, M) else if d.1.set_ < 0 then (13, M) else (0, putM M k d.1)) by rw [HR.out, if_neg (by simpa using hd)])
      clear HR hd
      by_cases hx0 : 0 < x
      · have g2 : decide ((0 : Int) < x) = true := decide_eq_true hx0
        have HX := Lib.hid hx0
        clear hx0
        go_wp2_with fail
        refine (hFr.out _).mono ?_
        rintro e w4 ⟨rfl, hF⟩
        have h4 := h3.later hF
        have n2 := (hF.cell (p := ⟨w1.heap.size, 2, none⟩) hlq3).trans n2
        have hq4 := (hF.block _ hlq3).trans hq3
        have hb4 := below_on hb3 (Nat.le_refl _) hF
        clear hF m0 m1 m2 m3 ho3 h3 hb3 hq3 hlq3
        cases hfr : freeA a x with
        | false =>
          have HR2 := Lib.hid (show R = (9, M) by rw [HR1.out, if_pos ⟨HX.out, hfr⟩])
          clear HR1 hfr
          go_wp2
          go_ret
          exact ⟨by rw [HR2.out]; rfl, by rw [HR2.out]; exact h4, grown_of_below hb4 _⟩
        | true =>
          have HR2 := Lib.hid (show R = (if d.1.set_ < 0 then (13, M) else (0, putM M k d.1)) by rw [HR1.out, if_neg (fun h => by rw [hfr] at h; exact absurd h.2 (by decide))])
          clear HR1 hfr
          by_cases hn : d.1.set_ < 0
          · have g3 : decide (d.1.set_ < 0) = true := decide_eq_true hn
            have HR3 := Lib.hid (show R = (13, M) by rw [HR2.out, if_pos hn])
            clear hn HR2
            go_wp2
            go_ret
            exact ⟨by rw [HR3.out]; rfl, by rw [HR3.out]; exact h4, grown_of_below hb4 _⟩
          · have g3 : decide (d.1.set_ < 0) = false := decide_eq_false hn
            have HR3 := Lib.hid (show R = (0, putM M k d.1) by rw [HR2.out, if_neg hn])
            clear hn HR2
            have j0 := cell_of_row _ w1.heap.size 0 _ _ (0, 0) hq4
            have j1 := cell_of_row _ w1.heap.size 1 _ _ (0, 0) hq4
            have j3 := cell_of_row _ w1.heap.size 3 _ _ (0, 0) hq4
            have cg := cell_of_row _ g 0 _ _ (0, 0) h4.cell
            simp only [List.getElem?_toArray, List.getElem?_cons_zero, List.getElem?_cons_succ] at j0 j1 j3 cg
            have h5 := h4.later (Below.refl _ _).drew
            obtain ⟨w5, hrun, hm5, hg5⟩ := run_put (P := Tryz.prog) strKey Tryz.underlying120 h5.map k d.1.v
            rw [putM_mv] at hm5
            have HM := Lib.hid hm5
            have HG := Lib.hid hg5
            clear hm5 hg5 hq4
            go_wp2_with fail
            go_region_with fail
            all_goals (
              go_wp2
              go_ret
              exact ⟨by rw [HR3.out]; rfl, by rw [HR3.out]; exact ⟨h5.ne, (HG.out.block g h5.lt.1 (fun e => h5.ne (by injection e with e; exact e.symm))).trans h5.cell, HM.out⟩, grown_trans (grown_of_below hb4.drew _) HG.out⟩)
      · have g2 : decide ((0 : Int) < x) = false := decide_eq_false hx0
        have HR2 := Lib.hid (show R = (if d.1.set_ < 0 then (13, M) else (0, putM M k d.1)) by rw [HR1.out, if_neg (fun h => hx0 h.1)])
        have h4 := h3
        have hq4 := hq3
        have hb4 := hb3
        clear hx0 HR1 h3 hq3 hb3 m0 m1 m2 m3 ho3 hlq3
        by_cases hn : d.1.set_ < 0
        · have g3 : decide (d.1.set_ < 0) = true := decide_eq_true hn
          have HR3 := Lib.hid (show R = (13, M) by rw [HR2.out, if_pos hn])
          clear hn HR2
          go_wp2
          go_ret
          exact ⟨by rw [HR3.out]; rfl, by rw [HR3.out]; exact h4, grown_of_below hb4 _⟩
        · have g3 : decide (d.1.set_ < 0) = false := decide_eq_false hn
          have HR3 := Lib.hid (show R = (0, putM M k d.1) by rw [HR2.out, if_neg hn])
          clear hn HR2
          have j0 := cell_of_row _ w1.heap.size 0 _ _ (0, 0) hq4
          have j1 := cell_of_row _ w1.heap.size 1 _ _ (0, 0) hq4
          have j3 := cell_of_row _ w1.heap.size 3 _ _ (0, 0) hq4
          have cg := cell_of_row _ g 0 _ _ (0, 0) h4.cell
          simp only [List.getElem?_toArray, List.getElem?_cons_zero, List.getElem?_cons_succ] at j0 j1 j3 cg
          have h5 := h4.later (Below.refl _ _).drew
          obtain ⟨w5, hrun, hm5, hg5⟩ := run_put (P := Tryz.prog) strKey Tryz.underlying120 h5.map k d.1.v
          rw [putM_mv] at hm5
          have HM := Lib.hid hm5
          have HG := Lib.hid hg5
          clear hm5 hg5 hq4
          go_wp2_with fail
          go_region_with fail
          all_goals (
            go_wp2
            go_ret
            exact ⟨by rw [HR3.out]; rfl, by rw [HR3.out]; exact ⟨h5.ne, (HG.out.block g h5.lt.1 (fun e => h5.ne (by injection e with e; exact e.symm))).trans h5.cell, HM.out⟩, grown_trans (grown_of_below hb4.drew _) HG.out⟩)
    · have g1 : (d.2 != 0) = true := by simpa using hd
      have HR1 := Lib.hid (show R = (d.2, M) by rw [HR.out, if_pos hd])
      clear hd
      go_wp2
      go_ret
      exact ⟨by rw [HR1.out]; rfl, by rw [HR1.out]; exact h3, grown_of_below hb3 _⟩
set_option maxRecDepth 100000 in
set_option maxHeartbeats 4000000 in
theorem give_c (g b : Nat) (M : List (ByteArray × Ac)) (k : ByteArray) (x : Int) (w : World) (h : ChIs w g b M) (hM : ∀ y ∈ M, InA y.2) (hx : R64 x) :
    Calls Tryz.prog 54 #[.pointer (some ⟨g, 0, none⟩), .string k, i64 x] w fun e w' => e = .returned (i64 (turnC (givD x) M k x).1) ∧ ChIs w' g b (turnC (givD x) M k x).2 ∧ w.grownBy w' (some b) := by
  have hb0 := (Below.refl w.heap.size w).alloc (Nat.le_refl _) (.cells #[i64 x] 2)
  have c0 := cell_of_row _ w.heap.size 0 _ _ (0, 0) (heap_alloc_new w (.cells #[i64 x] 2))
  simp only [List.getElem?_toArray, List.getElem?_cons_zero] at c0
  have hT := Lib.hid (givT_c g b M k x w.heap.size _ (h.later hb0) c0 hM hx)
  generalize turnC (givD x) M k x = R at *
  go_enter Tryz.func54, Tryz.ntmps54
  go_wp2_with fail
  refine hT.out.mono ?_
  rintro e w1 ⟨rfl, h1, hG⟩
  go_wp2
  go_ret
  exact ⟨rfl, h1, grown_trans (grown_of_below hb0 _) hG⟩
set_option maxRecDepth 100000 in
set_option maxHeartbeats 4000000 in
theorem aside_c (g b : Nat) (M : List (ByteArray × Ac)) (k : ByteArray) (x : Int) (w : World) (h : ChIs w g b M) (hM : ∀ y ∈ M, InA y.2) (hx : R64 x) :
    Calls Tryz.prog 84 #[.pointer (some ⟨g, 0, none⟩), .string k, i64 x] w fun e w' => e = .returned (i64 (turnC (asiD x) M k x).1) ∧ ChIs w' g b (turnC (asiD x) M k x).2 ∧ w.grownBy w' (some b) := by
  have hb0 := (Below.refl w.heap.size w).alloc (Nat.le_refl _) (.cells #[i64 x] 2)
  have c0 := cell_of_row _ w.heap.size 0 _ _ (0, 0) (heap_alloc_new w (.cells #[i64 x] 2))
  simp only [List.getElem?_toArray, List.getElem?_cons_zero] at c0
  have hT := Lib.hid (asiT_c g b M k x w.heap.size _ (h.later hb0) c0 hM hx)
  generalize turnC (asiD x) M k x = R at *
  go_enter Tryz.func84, Tryz.ntmps84
  go_wp2_with fail
  refine hT.out.mono ?_
  rintro e w1 ⟨rfl, h1, hG⟩
  go_wp2
  go_ret
  exact ⟨rfl, h1, grown_trans (grown_of_below hb0 _) hG⟩
end Go.Proofs.YtmljlkjomjflpaaGreat
