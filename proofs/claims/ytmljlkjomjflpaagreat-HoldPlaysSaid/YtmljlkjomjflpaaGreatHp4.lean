/- Texts of this claim, laid together: ChTurn, Name. -/
import Derived.Test.YtmljlkjomjflpaaGreatRows
import Derived.Test.YtmljlkjomjflpaaGreatHp3
import Derived.Deep.Cut
import Derived.Deep.RegionWith
import Derived.Shelf.Abstract
import Derived.Deep.RegionHeld3
import Derived.WalkKit
import Derived.WalkSpells
import Derived.WalkLawsBesides
import Derived.Deep.QuietTactic
import Derived.BigQuiet
import Derived.Laws.StructEq
import Derived.Deep.DeepFit
import Derived.StillTailTactics
import Derived.Test.YtmljlkjomjflpaaGreatShelf
import Derived.Laws.Runes
import Derived.Laws.RangeAny
import Derived.Lib.OthersKept
import Derived.WalkMore

/- chart: Give, Aside -/
namespace Go.Proofs.YtmljlkjomjflpaaGreat
open Go.RowKit
abbrev Ac.row (a : Ac) : Array Value := #[.string a.name, i64 a.hav, i64 a.set_, i64 a.lim]
/-- what Give, Aside make of an account -/
def givD (x : Int) (a : Ac) : Ac × Int := ({ a with hav := (sumR (a.hav - x)).1 }, (sumR (a.hav - x)).2)
def asiD (x : Int) (a : Ac) : Ac × Int := ({ a with set_ := (sumR (a.set_ + x)).1 }, (sumR (a.set_ + x)).2)
/-- chart.turn -/
def turnC (D : Ac → Ac × Int) (M : List (ByteArray × Ac)) (k : ByteArray) (x : Int) : Int × List (ByteArray × Ac) := match getM M k with
  | none => (6, M)
  | some a => if (D a).2 ≠ 0 then ((D a).2, M) else if 0 < x ∧ freeA a x = false then (9, M) else if (D a).1.set_ < 0 then (13, M) else (0, putM M k (D a).1)
theorem turnC_none {D : Ac → Ac × Int} {M : List (ByteArray × Ac)} {k : ByteArray} {x : Int} (h : getM M k = none) : turnC D M k x = (6, M) := by unfold turnC; rw [h]
theorem turnC_some {D : Ac → Ac × Int} {M : List (ByteArray × Ac)} {k : ByteArray} {x : Int} {a : Ac} (h : getM M k = some a) : turnC D M k x = if (D a).2 ≠ 0 then ((D a).2, M) else if 0 < x ∧ freeA a x = false then (9, M) else if (D a).1.set_ < 0 then (13, M) else (0, putM M k (D a).1) := by unfold turnC; rw [h]
theorem getM_mem {M : List (ByteArray × Ac)} {k : ByteArray} {a : Ac} (h : getM M k = some a) : ∃ p ∈ M, p.2 = a := by
  unfold getM at h
  rw [Option.map_eq_some_iff] at h
  obtain ⟨p, hp, rfl⟩ := h
  exact ⟨p, List.mem_of_find?_eq_some hp, rfl⟩
set_option maxRecDepth 100000 in
set_option maxHeartbeats 4000000 in
theorem giv1_c (a : Ac) (x : Int) (q p : Nat) (w : World) (hq : w.heap[q]? = some (.cells a.row 70 (0, 0))) (hp : w.cell? ⟨p, 0, none⟩ = some (i64 x)) (ha : R64 a.hav) (hx : R64 x) :
    Calls Tryz.prog 92 #[.pointer (some ⟨q, 0, none⟩), .pointer (some ⟨p, 0, none⟩)] w fun e w' => e = .returned (i64 (givD x a).2) ∧ w'.heap[q]? = some (.cells (givD x a).1.row 70 (0, 0)) ∧ w.grownBy w' (some q) := by
  have k1 := cell_of_row _ q 1 _ _ (0, 0) hq
  simp only [List.getElem?_toArray, List.getElem?_cons_zero, List.getElem?_cons_succ] at k1
  have L1 := Lib.hid fun W => less_c a.hav x W ha hx
  unfold givD
  generalize sumR (a.hav - x) = r at *
  have hlq : q < w.heap.size := (Array.getElem?_eq_some_iff.1 hq).1
  clear ha hx
  go_enter Tryz.func92, Tryz.ntmps92
  go_upto_region 1 with fail
  have h0 := (Below.refl w.heap.size w).drew
  go_cut [3] from 4 (fun s3 wx => s3 = i64 r.2 ∧ wx.heap[q]? = some (.cells (Ac.row { a with hav := r.1 }) 70 (0, 0)) ∧ w.grownBy wx (some q))
  case first =>
    go_region_with (first
      | (go_at_call 93; with_reducible refine (L1.out _).mono ?_; rintro e u1 ⟨rfl, hF⟩; have hb := below_on h0 (Nat.le_refl _) hF; have hq1 := (hb.block _ hlq).trans hq; have z1 := frozen_of_row _ q 1 _ _ hq1; have c1 := (hb.cell (p := ⟨q, 1, none⟩) hlq).trans k1; clear hF))
    all_goals (
      go_wp2_with fail
      go_meet
      have hs := heap_setCell_same u1 q 1 _ _ (i64 r.1) hq1
      simp only [List.setIfInBounds_toArray, List.set_cons_succ, List.set_cons_zero] at hs
      exact ⟨rfl, hs, grown_setCell (g := q) (grown_of_below hb (some q)) (p := ⟨q, 1, none⟩) (.inl rfl) (i64 r.1)⟩)
  case rest =>
  obtain ⟨rfl, h1, h2⟩ := hcut
  clear k1 hq hp L1
  go_wp2
  go_ret
  exact ⟨rfl, h1, h2⟩
set_option maxRecDepth 100000 in
set_option maxHeartbeats 4000000 in
theorem asi1_c (a : Ac) (x : Int) (q p : Nat) (w : World) (hq : w.heap[q]? = some (.cells a.row 70 (0, 0))) (hp : w.cell? ⟨p, 0, none⟩ = some (i64 x)) (ha : R64 a.set_) (hx : R64 x) :
    Calls Tryz.prog 126 #[.pointer (some ⟨q, 0, none⟩), .pointer (some ⟨p, 0, none⟩)] w fun e w' => e = .returned (i64 (asiD x a).2) ∧ w'.heap[q]? = some (.cells (asiD x a).1.row 70 (0, 0)) ∧ w.grownBy w' (some q) := by
  have k1 := cell_of_row _ q 2 _ _ (0, 0) hq
  simp only [List.getElem?_toArray, List.getElem?_cons_zero, List.getElem?_cons_succ] at k1
  have L1 := Lib.hid fun W => add_c a.set_ x W ha hx
  unfold asiD
  generalize sumR (a.set_ + x) = r at *
  have hlq : q < w.heap.size := (Array.getElem?_eq_some_iff.1 hq).1
  clear ha hx
  go_enter Tryz.func126, Tryz.ntmps126
  go_upto_region 1 with fail
  have h0 := (Below.refl w.heap.size w).drew
  go_cut [3] from 4 (fun s3 wx => s3 = i64 r.2 ∧ wx.heap[q]? = some (.cells (Ac.row { a with set_ := r.1 }) 70 (0, 0)) ∧ w.grownBy wx (some q))
  case first =>
    go_region_with (first
      | (go_at_call 127; with_reducible refine (L1.out _).mono ?_; rintro e u1 ⟨rfl, hF⟩; have hb := below_on h0 (Nat.le_refl _) hF; have hq1 := (hb.block _ hlq).trans hq; have z1 := frozen_of_row _ q 2 _ _ hq1; have c1 := (hb.cell (p := ⟨q, 2, none⟩) hlq).trans k1; clear hF))
    all_goals (
      go_wp2_with fail
      go_meet
      have hs := heap_setCell_same u1 q 2 _ _ (i64 r.1) hq1
      simp only [List.setIfInBounds_toArray, List.set_cons_succ, List.set_cons_zero] at hs
      exact ⟨rfl, hs, grown_setCell (g := q) (grown_of_below hb (some q)) (p := ⟨q, 2, none⟩) (.inl rfl) (i64 r.1)⟩)
  case rest =>
  obtain ⟨rfl, h1, h2⟩ := hcut
  clear k1 hq hp L1
  go_wp2
  go_ret
  exact ⟨rfl, h1, h2⟩
set_option maxRecDepth 100000 in
set_option maxHeartbeats 8000000 in
theorem givT_c (g b : Nat) (M : List (ByteArray × Ac)) (k : ByteArray) (x : Int) (p : Nat) (w : World) (h : ChIs w g b M) (hp : w.cell? ⟨p, 0, none⟩ = some (i64 x)) (hM : ∀ y ∈ M, InA y.2) (hx : R64 x) :
    Calls Tryz.prog 91 #[.pointer (some ⟨g, 0, none⟩), .string k, i64 x, .func (.func 92) #[] #[.pointer (some ⟨p, 0, none⟩)]] w fun e w' => e = .returned (i64 (turnC (givD x) M k x).1) ∧ ChIs w' g b (turnC (givD x) M k x).2 ∧ w.grownBy w' (some b) := by
  have hC := Lib.hid (get_c g b M k w h)
  have eC : ∀ args W, (callFunc 92 args).run Tryz.prog W = .ok (.enter 92 args) W := (enters_of Tryz.func92 (by kernel_rfl) rfl)
  obtain ⟨R, hR0⟩ : ∃ R, turnC (givD x) M k x = R := ⟨_, rfl⟩
  rw [hR0]
  have hlp := World.block_lt_of_cell? _ _ hp
  have HR0 := Lib.hid hR0
  clear hR0
  go_enter Tryz.func91, Tryz.ntmps91
  go_wp2_with fail
  refine hC.out.mono ?_
  rintro e w1 ⟨rfl, hF⟩
  have h1 := h.later hF
  have hbw := hF
  have hbS := hF.size
  have hp1 := (hF.cell hlp).trans hp
  clear hF hC
  cases hm : getM M k with
  | none =>
    have HR := Lib.hid (show R = (6, M) by rw [← HR0.out, turnC_none hm])
    have e2 : getC M k = (ac0, 6) := by unfold getC; rw [hm]
    rw [e2]
    clear hm HR0 e2
    unfold ac0
    have hB := (Below.refl w1.heap.size w1).alloc (Nat.le_refl _) (.cells #[.string ⟨#[]⟩, i64 0, i64 0, i64 0] 70)
    go_wp2
    go_ret
    exact ⟨by rw [HR.out]; rfl, by rw [HR.out]; exact h1.later hB, grown_of_below (below_on hbw (Nat.le_refl _) hB) _⟩
  | some a =>
    have hA : InA a := by obtain ⟨y, hy, rfl⟩ := getM_mem hm; exact hM y hy
    have e2 : getC M k = (a, 0) := by unfold getC; rw [hm]
    rw [e2]
    have HR := Lib.hid (show R = (if (givD x a).2 ≠ 0 then ((givD x a).2, M) else if 0 < x ∧ freeA a x = false then (9, M) else if (givD x a).1.set_ < 0 then (13, M) else (0, putM M k (givD x a).1)) by rw [← HR0.out, turnC_some hm])
    clear hm HR0 e2
    have hB := ((Below.refl w1.heap.size w1).alloc (Nat.le_refl _) (.cells a.row 70)).alloc (by simp) (.cells a.row 70)
    have h2 := h1.later hB
    have hp2 := (hB.cell (World.block_lt_of_cell? _ _ hp1)).trans hp1
    have hq := heap_alloc2_old w1 (.cells a.row 70) (.cells a.row 70)
    have ho := heap_alloc2_new w1 (.cells a.row 70) (.cells a.row 70)
    have hb2 := below_on hbw (Nat.le_refl _) hB
    have c0 := cell_of_row _ (w1.heap.size) 0 _ _ (0, 0) (heap_alloc_new w1 (.cells a.row 70))
    have hD := Lib.hid (giv1_c a x w1.heap.size p _ hq hp2 hA.1 hx)
    have hFr := Lib.hid fun W => free_c a x W hA hx
    have hlg := h1.lt
    generalize givD x a = d at *
    clear hB c0 hbw hp hlp h hp1 h1
    go_wp2_with fail
    generalize hW2 : (w1.alloc (.cells a.row 70)).alloc (.cells a.row 70) = W2 at *
    refine hD.out.mono ?_
    rintro e w3 ⟨rfl, hq3, hG⟩
    have hgq : w.heap.size ≤ w1.heap.size := hb2.size |> fun _ => hbS
    have h3 := h2.kept hG (fun e => by injection e with e; omega) (fun e => by injection e with e; omega)
    have ho3 := (hG.block (w1.heap.size + 1) (Array.getElem?_eq_some_iff.1 ho).1 (fun e => by injection e with e; omega)).trans ho
    have hb3 := hb2.trans (below_of_grown hG hb2.size (fun k e => by injection e with e; omega))
    have m0 := cell_of_row _ (w1.heap.size + 1) 0 _ _ (0, 0) ho3
    have m1 := cell_of_row _ (w1.heap.size + 1) 1 _ _ (0, 0) ho3
    have m2 := cell_of_row _ (w1.heap.size + 1) 2 _ _ (0, 0) ho3
    have m3 := cell_of_row _ (w1.heap.size + 1) 3 _ _ (0, 0) ho3
    have n2 := cell_of_row _ w1.heap.size 2 _ _ (0, 0) hq3
    simp only [List.getElem?_toArray, List.getElem?_cons_zero, List.getElem?_cons_succ] at m0 m1 m2 m3 n2
    have hlq3 := (Array.getElem?_eq_some_iff.1 hq3).1
    clear hG hD ho hq h2 hb2 hp2 hW2
    by_cases hd : d.2 = 0
    · have g1 : (d.2 != 0) = false := by rw [hd]; rfl
      have HR1 := Lib.hid (show R = (if 0 < x ∧ freeA a x = false then (9, M) else if d.1.set_ < 0 then (13, M) else (0, putM M k d.1)) by rw [HR.out, if_neg (by simpa using hd)])
      clear HR hd
      by_cases hx0 : 0 < x
      · have g2 : decide ((0 : Int) < x) = true := decide_eq_true hx0
        have HX := Lib.hid hx0
        clear hx0
        go_wp2_with fail
        refine (hFr.out _).mono ?_
        rintro e w4 ⟨rfl, hF⟩
        have h4 := h3.later hF
        have n2 := (hF.cell (p := ⟨w1.heap.size, 2, none⟩) hlq3).trans n2
        have hq4 := (hF.block _ hlq3).trans hq3
        have hb4 := below_on hb3 (Nat.le_refl _) hF
        clear hF m0 m1 m2 m3 ho3 h3 hb3 hq3 hlq3
        cases hfr : freeA a x with
        | false =>
          have HR2 := Lib.hid (show R = (9, M) by rw [HR1.out, if_pos ⟨HX.out, hfr⟩])
          clear HR1 hfr
          go_wp2
          go_ret
          exact ⟨by rw [HR2.out]; rfl, by rw [HR2.out]; exact h4, grown_of_below hb4 _⟩
        | true =>
          have HR2 := Lib.hid (show R = (if d.1.set_ < 0 then (13, M) else (0, putM M k d.1)) by rw [HR1.out, if_neg (fun h => by rw [hfr] at h; exact absurd h.2 (by decide))])
          clear HR1 hfr
          by_cases hn : d.1.set_ < 0
          · have g3 : decide (d.1.set_ < 0) = true := decide_eq_true hn
            have HR3 := Lib.hid (show R = (13, M) by rw [HR2.out, if_pos hn])
            clear hn HR2
            go_wp2
            go_ret
            exact ⟨by rw [HR3.out]; rfl, by rw [HR3.out]; exact h4, grown_of_below hb4 _⟩
          · have g3 : decide (d.1.set_ < 0) = false := decide_eq_false hn
            have HR3 := Lib.hid (show R = (0, putM M k d.1) by rw [HR2.out, if_neg hn])
            clear hn HR2
            have j0 := cell_of_row _ w1.heap.size 0 _ _ (0, 0) hq4
            have j1 := cell_of_row _ w1.heap.size 1 _ _ (0, 0) hq4
            have j3 := cell_of_row _ w1.heap.size 3 _ _ (0, 0) hq4
            have cg := cell_of_row _ g 0 _ _ (0, 0) h4.cell
            simp only [List.getElem?_toArray, List.getElem?_cons_zero, List.getElem?_cons_succ] at j0 j1 j3 cg
            have h5 := h4.later (Below.refl _ _).drew
            obtain ⟨w5, hrun, hm5, hg5⟩ := run_put (P := Tryz.prog) strKey Tryz.underlying120 h5.map k d.1.v
            rw [putM_mv] at hm5
            have HM := Lib.hid hm5
            have HG := Lib.hid hg5
            clear hm5 hg5 hq4
            go_wp2_with fail
            go_region_with fail
            all_goals (
              go_wp2
              go_ret
              exact ⟨by rw [HR3.out]; rfl, by rw [HR3.out]; exact ⟨h5.ne, (HG.out.block g h5.lt.1 (fun e => h5.ne (by injection e with e; exact e.symm))).trans h5.cell, HM.out⟩, grown_trans (grown_of_below hb4.drew _) HG.out⟩)
      · have g2 : decide ((0 : Int) < x) = false := decide_eq_false hx0
        have HR2 := Lib.hid (show R = (if d.1.set_ < 0 then (13, M) else (0, putM M k d.1)) by rw [HR1.out, if_neg (fun h => hx0 h.1)])
        have h4 := h3
        have hq4 := hq3
        have hb4 := hb3
        clear hx0 HR1 h3 hq3 hb3 m0 m1 m2 m3 ho3 hlq3
        by_cases hn : d.1.set_ < 0
        · have g3 : decide (d.1.set_ < 0) = true := decide_eq_true hn
          have HR3 := Lib.hid (show R = (13, M) by rw [HR2.out, if_pos hn])
          clear hn HR2
          go_wp2
          go_ret
          exact ⟨by rw [HR3.out]; rfl, by rw [HR3.out]; exact h4, grown_of_below hb4 _⟩
        · have g3 : decide (d.1.set_ < 0) = false := decide_eq_false hn
          have HR3 := Lib.hid (show R = (0, putM M k d.1) by rw [HR2.out, if_neg hn])
          clear hn HR2
          have j0 := cell_of_row _ w1.heap.size 0 _ _ (0, 0) hq4
          have j1 := cell_of_row _ w1.heap.size 1 _ _ (0, 0) hq4
          have j3 := cell_of_row _ w1.heap.size 3 _ _ (0, 0) hq4
          have cg := cell_of_row _ g 0 _ _ (0, 0) h4.cell
          simp only [List.getElem?_toArray, List.getElem?_cons_zero, List.getElem?_cons_succ] at j0 j1 j3 cg
          have h5 := h4.later (Below.refl _ _).drew
          obtain ⟨w5, hrun, hm5, hg5⟩ := run_put (P := Tryz.prog) strKey Tryz.underlying120 h5.map k d.1.v
          rw [putM_mv] at hm5
          have HM := Lib.hid hm5
          have HG := Lib.hid hg5
          clear hm5 hg5 hq4
          go_wp2_with fail
          go_region_with fail
          all_goals (
            go_wp2
            go_ret
            exact ⟨by rw [HR3.out]; rfl, by rw [HR3.out]; exact ⟨h5.ne, (HG.out.block g h5.lt.1 (fun e => h5.ne (by injection e with e; exact e.symm))).trans h5.cell, HM.out⟩, grown_trans (grown_of_below hb4.drew _) HG.out⟩)
    · have g1 : (d.2 != 0) = true := by simpa using hd
      have HR1 := Lib.hid (show R = (d.2, M) by rw [HR.out, if_pos hd])
      clear hd
      go_wp2
      go_ret
      exact ⟨by rw [HR1.out]; rfl, by rw [HR1.out]; exact h3, grown_of_below hb3 _⟩
set_option maxRecDepth 100000 in
set_option maxHeartbeats 8000000 in
theorem asiT_c (g b : Nat) (M : List (ByteArray × Ac)) (k : ByteArray) (x : Int) (p : Nat) (w : World) (h : ChIs w g b M) (hp : w.cell? ⟨p, 0, none⟩ = some (i64 x)) (hM : ∀ y ∈ M, InA y.2) (hx : R64 x) :
    Calls Tryz.prog 91 #[.pointer (some ⟨g, 0, none⟩), .string k, i64 x, .func (.func 126) #[] #[.pointer (some ⟨p, 0, none⟩)]] w fun e w' => e = .returned (i64 (turnC (asiD x) M k x).1) ∧ ChIs w' g b (turnC (asiD x) M k x).2 ∧ w.grownBy w' (some b) := by
  have hC := Lib.hid (get_c g b M k w h)
  have eC : ∀ args W, (callFunc 126 args).run Tryz.prog W = .ok (.enter 126 args) W := (enters_of Tryz.func126 (by kernel_rfl) rfl)
  obtain ⟨R, hR0⟩ : ∃ R, turnC (asiD x) M k x = R := ⟨_, rfl⟩
  rw [hR0]
  have hlp := World.block_lt_of_cell? _ _ hp
  have HR0 := Lib.hid hR0
  clear hR0
  go_enter Tryz.func91, Tryz.ntmps91
  go_wp2_with fail
  refine hC.out.mono ?_
  rintro e w1 ⟨rfl, hF⟩
  have h1 := h.later hF
  have hbw := hF
  have hbS := hF.size
  have hp1 := (hF.cell hlp).trans hp
  clear hF hC
  cases hm : getM M k with
  | none =>
    have HR := Lib.hid (show R = (6, M) by rw [← HR0.out, turnC_none hm])
    have e2 : getC M k = (ac0, 6) := by unfold getC; rw [hm]
    rw [e2]
    clear hm HR0 e2
    unfold ac0
    have hB := (Below.refl w1.heap.size w1).alloc (Nat.le_refl _) (.cells #[.string ⟨#[]⟩, i64 0, i64 0, i64 0] 70)
    go_wp2
    go_ret
    exact ⟨by rw [HR.out]; rfl, by rw [HR.out]; exact h1.later hB, grown_of_below (below_on hbw (Nat.le_refl _) hB) _⟩
  | some a =>
    have hA : InA a := by obtain ⟨y, hy, rfl⟩ := getM_mem hm; exact hM y hy
    have e2 : getC M k = (a, 0) := by unfold getC; rw [hm]
    rw [e2]
    have HR := Lib.hid (show R = (if (asiD x a).2 ≠ 0 then ((asiD x a).2, M) else if 0 < x ∧ freeA a x = false then (9, M) else if (asiD x a).1.set_ < 0 then (13, M) else (0, putM M k (asiD x a).1)) by rw [← HR0.out, turnC_some hm])
    clear hm HR0 e2
    have hB := ((Below.refl w1.heap.size w1).alloc (Nat.le_refl _) (.cells a.row 70)).alloc (by simp) (.cells a.row 70)
    have h2 := h1.later hB
    have hp2 := (hB.cell (World.block_lt_of_cell? _ _ hp1)).trans hp1
    have hq := heap_alloc2_old w1 (.cells a.row 70) (.cells a.row 70)
    have ho := heap_alloc2_new w1 (.cells a.row 70) (.cells a.row 70)
    have hb2 := below_on hbw (Nat.le_refl _) hB
    have c0 := cell_of_row _ (w1.heap.size) 0 _ _ (0, 0) (heap_alloc_new w1 (.cells a.row 70))
    have hD := Lib.hid (asi1_c a x w1.heap.size p _ hq hp2 hA.2.1 hx)
    have hFr := Lib.hid fun W => free_c a x W hA hx
    have hlg := h1.lt
    generalize asiD x a = d at *
    clear hB c0 hbw hp hlp h hp1 h1
    go_wp2_with fail
    generalize hW2 : (w1.alloc (.cells a.row 70)).alloc (.cells a.row 70) = W2 at *
    refine hD.out.mono ?_
    rintro e w3 ⟨rfl, hq3, hG⟩
    have hgq : w.heap.size ≤ w1.heap.size := hb2.size |> fun _ => hbS
    have h3 := h2.kept hG (fun e => by injection e with e; omega) (fun e => by injection e with e; omega)
    have ho3 := (hG.block (w1.heap.size + 1) (Array.getElem?_eq_some_iff.1 ho).1 (fun e => by injection e with e; omega)).trans ho
    have hb3 := hb2.trans (below_of_grown hG hb2.size (fun k e => by injection e with e; omega))
    have m0 := cell_of_row _ (w1.heap.size + 1) 0 _ _ (0, 0) ho3
    have m1 := cell_of_row _ (w1.heap.size + 1) 1 _ _ (0, 0) ho3
    have m2 := cell_of_row _ (w1.heap.size + 1) 2 _ _ (0, 0) ho3
    have m3 := cell_of_row _ (w1.heap.size + 1) 3 _ _ (0, 0) ho3
    have n2 := cell_of_row _ w1.heap.size 2 _ _ (0, 0) hq3
    simp only [List.getElem?_toArray, List.getElem?_cons_zero, List.getElem?_cons_succ] at m0 m1 m2 m3 n2
    have hlq3 := (Array.getElem?_eq_some_iff.1 hq3).1
    clear hG hD ho hq h2 hb2 hp2 hW2
    by_cases hd : d.2 = 0
    · have g1 : (d.2 != 0) = false := by rw [hd]; rfl
      have HR1 := Lib.hid (show R = (if 0 < x ∧ freeA a x = false then (9, M) else if d.1.set_ < 0 then (13, M) else (0, putM M k d.1)) by rw [HR.out, if_neg (by simpa using hd)])
      clear HR hd
      by_cases hx0 : 0 < x
      · have g2 : decide ((0 : Int) < x) = true := decide_eq_true hx0
        have HX := Lib.hid hx0
        clear hx0
        go_wp2_with fail
        refine (hFr.out _).mono ?_
        rintro e w4 ⟨rfl, hF⟩
        have h4 := h3.later hF
        have n2 := (hF.cell (p := ⟨w1.heap.size, 2, none⟩) hlq3).trans n2
        have hq4 := (hF.block _ hlq3).trans hq3
        have hb4 := below_on hb3 (Nat.le_refl _) hF
        clear hF m0 m1 m2 m3 ho3 h3 hb3 hq3 hlq3
        cases hfr : freeA a x with
        | false =>
          have HR2 := Lib.hid (show R = (9, M) by rw [HR1.out, if_pos ⟨HX.out, hfr⟩])
          clear HR1 hfr
          go_wp2
          go_ret
          exact ⟨by rw [HR2.out]; rfl, by rw [HR2.out]; exact h4, grown_of_below hb4 _⟩
        | true =>
          have HR2 := Lib.hid (show R = (if d.1.set_ < 0 then (13, M) else (0, putM M k d.1)) by rw [HR1.out, if_neg (fun h => by rw [hfr] at h; exact absurd h.2 (by decide))])
          clear HR1 hfr
          by_cases hn : d.1.set_ < 0
          · have g3 : decide (d.1.set_ < 0) = true := decide_eq_true hn
            have HR3 := Lib.hid (show R = (13, M) by rw [HR2.out, if_pos hn])
            clear hn HR2
            go_wp2
            go_ret
            exact ⟨by rw [HR3.out]; rfl, by rw [HR3.out]; exact h4, grown_of_below hb4 _⟩
          · have g3 : decide (d.1.set_ < 0) = false := decide_eq_false hn
            have HR3 := Lib.hid (show R = (0, putM M k d.1) by rw [HR2.out, if_neg hn])
            clear hn HR2
            have j0 := cell_of_row _ w1.heap.size 0 _ _ (0, 0) hq4
            have j1 := cell_of_row _ w1.heap.size 1 _ _ (0, 0) hq4
            have j3 := cell_of_row _ w1.heap.size 3 _ _ (0, 0) hq4
            have cg := cell_of_row _ g 0 _ _ (0, 0) h4.cell
            simp only [List.getElem?_toArray, List.getElem?_cons_zero, List.getElem?_cons_succ] at j0 j1 j3 cg
            have h5 := h4.later (Below.refl _ _).drew
            obtain ⟨w5, hrun, hm5, hg5⟩ := run_put (P := Tryz.prog) strKey Tryz.underlying120 h5.map k d.1.v
            rw [putM_mv] at hm5
            have HM := Lib.hid hm5
            have HG := Lib.hid hg5
            clear hm5 hg5 hq4
            go_wp2_with fail
            go_region_with fail
            all_goals (
              go_wp2
              go_ret
              exact ⟨by rw [HR3.out]; rfl, by rw [HR3.out]; exact ⟨h5.ne, (HG.out.block g h5.lt.1 (fun e => h5.ne (by injection e with e; exact e.symm))).trans h5.cell, HM.out⟩, grown_trans (grown_of_below hb4.drew _) HG.out⟩)
      · have g2 : decide ((0 : Int) < x) = false := decide_eq_false hx0
        have HR2 := Lib.hid (show R = (if d.1.set_ < 0 then (13, M) else (0, putM M k d.1)) by rw [HR1.out, if_neg (fun h => hx0 h.1)])
        have h4 := h3
        have hq4 := hq3
        have hb4 := hb3
        clear hx0 HR1 h3 hq3 hb3 m0 m1 m2 m3 ho3 hlq3
        by_cases hn : d.1.set_ < 0
        · have g3 : decide (d.1.set_ < 0) = true := decide_eq_true hn
          have HR3 := Lib.hid (show R = (13, M) by rw [HR2.out, if_pos hn])
          clear hn HR2
          go_wp2
          go_ret
          exact ⟨by rw [HR3.out]; rfl, by rw [HR3.out]; exact h4, grown_of_below hb4 _⟩
        · have g3 : decide (d.1.set_ < 0) = false := decide_eq_false hn
          have HR3 := Lib.hid (show R = (0, putM M k d.1) by rw [HR2.out, if_neg hn])
          clear hn HR2
          have j0 := cell_of_row _ w1.heap.size 0 _ _ (0, 0) hq4
          have j1 := cell_of_row _ w1.heap.size 1 _ _ (0, 0) hq4
          have j3 := cell_of_row _ w1.heap.size 3 _ _ (0, 0) hq4
          have cg := cell_of_row _ g 0 _ _ (0, 0) h4.cell
          simp only [List.getElem?_toArray, List.getElem?_cons_zero, List.getElem?_cons_succ] at j0 j1 j3 cg
          have h5 := h4.later (Below.refl _ _).drew
          obtain ⟨w5, hrun, hm5, hg5⟩ := run_put (P := Tryz.prog) strKey Tryz.underlying120 h5.map k d.1.v
          rw [putM_mv] at hm5
          have HM := Lib.hid hm5
          have HG := Lib.hid hg5
          clear hm5 hg5 hq4
          go_wp2_with fail
          go_region_with fail
          all_goals (
            go_wp2
            go_ret
            exact ⟨by rw [HR3.out]; rfl, by rw [HR3.out]; exact ⟨h5.ne, (HG.out.block g h5.lt.1 (fun e => h5.ne (by injection e with e; exact e.symm))).trans h5.cell, HM.out⟩, grown_trans (grown_of_below hb4.drew _) HG.out⟩)
    · have g1 : (d.2 != 0) = true := by simpa using hd
      have HR1 := Lib.hid (show R = (d.2, M) by rw [HR.out, if_pos hd])
      clear hd
      go_wp2
      go_ret
      exact ⟨by rw [HR1.out]; rfl, by rw [HR1.out]; exact h3, grown_of_below hb3 _⟩
set_option maxRecDepth 100000 in
set_option maxHeartbeats 4000000 in
theorem give_c (g b : Nat) (M : List (ByteArray × Ac)) (k : ByteArray) (x : Int) (w : World) (h : ChIs w g b M) (hM : ∀ y ∈ M, InA y.2) (hx : R64 x) :
    Calls Tryz.prog 54 #[.pointer (some ⟨g, 0, none⟩), .string k, i64 x] w fun e w' => e = .returned (i64 (turnC (givD x) M k x).1) ∧ ChIs w' g b (turnC (givD x) M k x).2 ∧ w.grownBy w' (some b) := by
  have hb0 := (Below.refl w.heap.size w).alloc (Nat.le_refl _) (.cells #[i64 x] 2)
  have c0 := cell_of_row _ w.heap.size 0 _ _ (0, 0) (heap_alloc_new w (.cells #[i64 x] 2))
  simp only [List.getElem?_toArray, List.getElem?_cons_zero] at c0
  have hT := Lib.hid (givT_c g b M k x w.heap.size _ (h.later hb0) c0 hM hx)
  generalize turnC (givD x) M k x = R at *
  go_enter Tryz.func54, Tryz.ntmps54
  go_wp2_with fail
  refine hT.out.mono ?_
  rintro e w1 ⟨rfl, h1, hG⟩
  go_wp2
  go_ret
  exact ⟨rfl, h1, grown_trans (grown_of_below hb0 _) hG⟩
set_option maxRecDepth 100000 in
set_option maxHeartbeats 4000000 in
theorem aside_c (g b : Nat) (M : List (ByteArray × Ac)) (k : ByteArray) (x : Int) (w : World) (h : ChIs w g b M) (hM : ∀ y ∈ M, InA y.2) (hx : R64 x) :
    Calls Tryz.prog 84 #[.pointer (some ⟨g, 0, none⟩), .string k, i64 x] w fun e w' => e = .returned (i64 (turnC (asiD x) M k x).1) ∧ ChIs w' g b (turnC (asiD x) M k x).2 ∧ w.grownBy w' (some b) := by
  have hb0 := (Below.refl w.heap.size w).alloc (Nat.le_refl _) (.cells #[i64 x] 2)
  have c0 := cell_of_row _ w.heap.size 0 _ _ (0, 0) (heap_alloc_new w (.cells #[i64 x] 2))
  simp only [List.getElem?_toArray, List.getElem?_cons_zero] at c0
  have hT := Lib.hid (asiT_c g b M k x w.heap.size _ (h.later hb0) c0 hM hx)
  generalize turnC (asiD x) M k x = R at *
  go_enter Tryz.func84, Tryz.ntmps84
  go_wp2_with fail
  refine hT.out.mono ?_
  rintro e w1 ⟨rfl, h1, hG⟩
  go_wp2
  go_ret
  exact ⟨rfl, h1, grown_trans (grown_of_below hb0 _) hG⟩
end Go.Proofs.YtmljlkjomjflpaaGreat

/- strings.IndexRune at runes from 128 on; chart.Name; chart.Name -/
namespace Go.Proofs.YtmljlkjomjflpaaGreat
open Go.RowKit
theorem iterPos_of {w : World} {k : Nat} {s : ByteArray} {p : Nat} (h : w.heap[k]? = some (.stringIter s p)) : w.iterPos k = p := by simp [World.iterPos, h]
theorem indexByte_none {c : UInt8} : ∀ {l : List UInt8}, (∀ b ∈ l, b ≠ c) → Lib.indexByte l c = -1
  | [], _ => rfl
  | b :: r, h => by
    have h1 : (b == c) = false := by simpa using h b (by simp)
    have ih := indexByte_none (l := r) (fun x hx => h x (by simp [hx]))
    simp [Lib.indexByte, h1, ih]
/-- a string of ASCII bytes -/
def AsciiB (S : ByteArray) : Prop := ∀ b ∈ S.data.toList, b.toNat < 128
theorem AsciiB.at_ {S : ByteArray} (h : AsciiB S) {k : Nat} (hk : k < S.size) : S[k].toNat < 128 := h _ (Array.getElem_mem_toList (xs := S.data) hk)
set_option maxRecDepth 100000 in
set_option maxHeartbeats 4000000 in
theorem irune_c (S : ByteArray) (hS : AsciiB S) (hn : S.size ≤ 1000) (r : Int) (h0 : 128 ≤ r) (w : World) :
    Calls Tryz.prog 131 #[.string S, .int .i32 r] w fun e w' => e = .returned (i64 (-1)) ∧ Below w.heap.size w w' := by
  have g0 : decide ((0 : Int) ≤ r) = true := decide_eq_true (by omega)
  have g1 : decide (r < 128) = false := decide_eq_false (by omega)
  by_cases he : r = 65533
  · have g2 : (r == 65533) = true := by rw [beq_iff_eq]; exact he
    clear he
    go_enter Tryz.func131, Tryz.ntmps131
    go_wp2_with fail
    go_loopw [5] (fun _ wr => ∃ pos : Nat, wr.heap[w.heap.size]? = some (.stringIter S pos) ∧ pos ≤ S.size ∧ Below w.heap.size w wr) (fun _ wr => S.size - wr.iterPos w.heap.size)
    case atStart => exact ⟨0, World.iter_heap w S 0, by omega, (Below.refl _ _).alloc (Nat.le_refl _) _⟩
    case round =>
      obtain ⟨pos, hit, hp, hb⟩ := hrel
      have hpos0 := iterPos_of hit
      by_cases hlt : pos < S.size
      · have ha := hS.at_ hlt
        have hnx : ∀ ty, (Instr.next (.pointer (some ⟨w.heap.size, 0, none⟩)) true ty).run Tryz.prog wr = _ := fun ty => Lib.run_next_ascii_at wr w.heap.size S pos ty hit hlt ha
        have hit2 := Lib.iterAt_heap wr w.heap.size S pos (pos + 1) hit
        have hb2 := Lib.below_iterAt hb (k := w.heap.size) (Nat.le_refl _) S (pos + 1)
        generalize wr.iterAt w.heap.size S (pos + 1) = W1 at *
        have g3 : (((S[pos].toNat : Nat) : Int) == 65533) = false := by rw [beq_eq_false_iff_ne]; omega
        have Hit := Lib.hid hit
        clear hit
        go_wp2
        go_roundw
        case rel => exact ⟨pos + 1, hit2, by omega, hb2⟩
        case measure => rw [iterPos_of hit2, hpos0]; omega
      · have hnx : ∀ ty, (Instr.next (.pointer (some ⟨w.heap.size, 0, none⟩)) true ty).run Tryz.prog wr = _ := fun ty => Lib.run_next_end_at wr w.heap.size S pos ty hit hlt
        go_wp2
        go_ret
        exact ⟨rfl, hb⟩
  · have g2 : (r == 65533) = false := by rw [beq_eq_false_iff_ne]; exact he
    clear he
    by_cases hv : Lib.validRune r = true
    · have hE := encode_facts r (by rw [validRune_eq]; exact hv) h0
      have hV := Lib.hid hv
      clear hv
      have hcv : ∀ W, (convert 21 9 (.int .i32 r)).run Tryz.prog W = .ok (.string (Utf8.encode r)) W := fun W => run_convert_int_string W _ _ _ r (by kernel_rfl) Tryz.underlying9
      generalize Utf8.encode r = E at hE hcv
      obtain ⟨hE2, hE4, hEl⟩ := hE
      obtain ⟨m, hm⟩ : ∃ m, E.size = m + 1 := ⟨E.size - 1, by omega⟩
      have hm1 : m < E.size := by omega
      have hl : 128 ≤ E[m].toNat := by
        have := hEl (by omega)
        simpa only [hm, Nat.add_sub_cancel] using this
      have hmi : (E.size : Int) - 1 = (m : Int) := by omega
      have Hmi := Lib.hid hmi
      have w1 : IntKind.i64.wrap ((E.size : Int) - 1) = (E.size : Int) - 1 := by rw [IntKind.wrap_i64]; omega
      have hm4 : m ≤ 3 := by omega
      have hmE : (m : Int) < (E.size : Int) := by omega
      clear hE2 hE4 hEl hm hmi
      have hib : ∀ e, Lib.indexByte (List.take e (List.drop (m + 1) S.data.toList)) E[m] = -1 := fun e => indexByte_none fun b hb hbc => by
        have := hS b (List.mem_of_mem_drop (List.mem_of_mem_take hb))
        rw [hbc] at this
        omega
      go_enter Tryz.func131, Tryz.ntmps131
      go_wp2_with fail
      refine (Tryz.utf8_ValidRune r _).mono ?_
      rintro e wv ⟨rfl, hw⟩
      rw [hV.out, hw]
      go_wp2_with fail
      go_step3
      go_wp2_with fail
      rw [Hmi.out]
      go_loopw [9, 10] (fun i _ wr => i = i64 (m : Int) ∧ wr = w) (fun _ _ _ => 0)
      case atStart => exact ⟨rfl, rfl⟩
      case round =>
        obtain ⟨rfl, rfl⟩ := hrel
        have i0 : (0 : Int) ≤ (m : Int) := by omega
        by_cases hlt : m < S.size
        · have i1 : (m : Int) < (S.size : Int) := by omega
          have hlo := hS.at_ hlt
          have g : ((S[m].toNat : Int) != (E[m].toNat : Int)) = true := by rw [bne_iff_ne]; omega
          have Hib := Lib.hid (hib (S.size - (m + 1)))
          have i3 : (m : Int) + 1 ≤ (S.size : Int) := by omega
          clear hib hl hlo
          go_wp2_with fail
          go_step3
          go_wp2_with fail
          go_quiet (fail)
          have hB := below_drewN (Below.refl wr.heap.size wr) nq
          generalize wr.drewN nq = wq at hB ⊢
          have i4 : (0 : Int) ≤ (m : Int) + 1 := by omega
          have w2 : IntKind.i64.wrap ((m : Int) + 1) = (m : Int) + 1 := by rw [IntKind.wrap_i64]; omega
          go_wp2_with fail
          go_region_held3 (fun W => Below wr.heap.size wr W) (first | exact hB.drew | assumption)
            (first
              | (go_at_call 180; refine (Tryz.strings_IndexByte _ _ _).mono ?_; rintro e w' ⟨rfl, hw⟩; rw [hw]))
          rename_i hH
          rw [Hib.out]
          go_wp2
          rw [Exit.noGoto_ret]
          go_wp2
          rw [Exit.noGoto_ret]
          go_wp2
          go_ret
          exact ⟨rfl, hH⟩
        · go_wp2
          rw [Exit.noGoto_ret]
          go_wp2
          go_ret
          exact ⟨rfl, Below.refl _ _⟩
    · have hv' : Lib.validRune r = false := by simpa using hv
      have hV := Lib.hid hv'
      clear hv hv'
      go_enter Tryz.func131, Tryz.ntmps131
      go_wp2_with fail
      refine (Tryz.utf8_ValidRune r _).mono ?_
      rintro e w1 ⟨rfl, hw⟩
      rw [hV.out, hw]
      go_wp2
      go_ret
      exact ⟨rfl, Below.refl _ _⟩
abbrev signsA : ByteArray := ⟨#[97, 98, 99, 100, 101, 102, 103, 104, 105, 106, 107, 108, 109, 110, 111, 112, 113, 114, 115, 116, 117, 118, 119, 120, 121, 122, 48, 49, 50, 51, 52, 53, 54, 55, 56, 57]⟩
/-- is a byte a sign of names? -/
def signB (b : UInt8) : Bool := decide (97 ≤ b.toNat ∧ b.toNat ≤ 122) || decide (48 ≤ b.toNat ∧ b.toNat ≤ 57)
theorem signs_ascii : AsciiB signsA := by
  have h : ∀ b ∈ signsA.data.toList, b.toNat < 128 := by decide
  exact h
theorem index_sign (b : UInt8) : decide (Lib.indexByte signsA.data.toList b < 0) = !signB b := by
  have h : ∀ a : Fin 256, decide (Lib.indexByte signsA.data.toList (UInt8.ofNat a.val) < 0) = !signB (UInt8.ofNat a.val) := by decide +kernel
  have := h ⟨b.toNat, b.toNat_lt⟩
  simpa using this
/-- chart.Name -/
def nameB (s : ByteArray) : Bool := s.data.toList.all signB && (!s.toList.isEmpty && decide (s.size ≤ 8))
def signTo (s : ByteArray) (k : Nat) : Prop := ∀ j (hj : j < s.size), j < k → signB s[j] = true
theorem signTo.next {s : ByteArray} {k : Nat} (h : signTo s k) (hk : k < s.size) (he : signB s[k] = true) : signTo s (k + 1) := fun j hj hjk => by
  rcases Nat.lt_succ_iff_lt_or_eq.1 hjk with hjk | rfl
  · exact h j hj hjk
  · exact he
theorem signTo.all {s : ByteArray} (h : signTo s s.size) : s.data.toList.all signB = true := by
  rw [List.all_eq_true]
  intro b hb
  obtain ⟨j, hj, rfl⟩ := List.getElem_of_mem hb
  have hj' : j < s.size := by simpa using hj
  exact h j hj' hj'
theorem nameB_bad {s : ByteArray} {k : Nat} (hk : k < s.size) (h : signB s[k] = false) : nameB s = false := by
  unfold nameB
  have : s.data.toList.all signB = false := by
    rw [List.all_eq_false]
    exact ⟨s[k], Array.getElem_mem_toList (xs := s.data) hk, by rw [h]; simp⟩
  rw [this]; rfl
set_option maxRecDepth 100000 in
set_option maxHeartbeats 4000000 in
theorem name_b (s : ByteArray) (w : World) : Calls Tryz.prog 87 #[.string s] w fun e w' => e = .returned (.bool (nameB s)) ∧ Below w.heap.size w w' := by
  go_enter Tryz.func87, Tryz.ntmps87
  go_wp2_with fail
  go_loopw [4] (fun _ wr => ∃ pos : Nat, wr.heap[w.heap.size]? = some (.stringIter s pos) ∧ pos ≤ s.size ∧ signTo s pos ∧ Below w.heap.size w wr) (fun _ wr => s.size - wr.iterPos w.heap.size)
  case atStart => exact ⟨0, World.iter_heap w s 0, by omega, fun _ _ h => absurd h (by omega), (Below.refl _ _).alloc (Nat.le_refl _) _⟩
  case round =>
    obtain ⟨pos, hit, hp, hst, hb⟩ := hrel
    have Hst := Lib.hid hst
    clear hst
    have hpos0 := iterPos_of hit
    by_cases hlt : pos < s.size
    · by_cases ha : s[pos].toNat < 128
      · have hnx : ∀ ty, (Instr.next (.pointer (some ⟨w.heap.size, 0, none⟩)) true ty).run Tryz.prog wr = _ := fun ty => Lib.run_next_ascii_at wr w.heap.size s pos ty hit hlt ha
        have hit2 := Lib.iterAt_heap wr w.heap.size s pos (pos + 1) hit
        have hb2 := Lib.below_iterAt hb (k := w.heap.size) (Nat.le_refl _) s (pos + 1)
        generalize wr.iterAt w.heap.size s (pos + 1) = W1 at *
        have Hit := Lib.hid hit
        clear hit
        have hI := Tryz.strings_IndexRune_ascii signsA ((s[pos].toNat : Nat) : Int) W1 (by omega) (by omega)
        rw [show (((s[pos].toNat : Nat) : Int)).toNat.toUInt8 = s[pos] from by simp] at hI
        have g := index_sign s[pos]
        have hI := Lib.hid hI
        generalize Lib.indexByte signsA.data.toList s[pos] = q at hI g
        go_wp2_with fail
        refine hI.out.mono ?_
        rintro e w2 ⟨rfl, rfl⟩
        by_cases hs : signB s[pos] = true
        · rw [hs] at g
          have Hs := Lib.hid hs
          clear hs hI
          go_wp2
          go_roundw
          case rel => exact ⟨pos + 1, hit2, by omega, Hst.out.next hlt Hs.out, hb2⟩
          case measure => rw [iterPos_of hit2, hpos0]; omega
        · have hs' : signB s[pos] = false := by simpa using hs
          rw [hs'] at g
          have Hs := Lib.hid hs'
          clear hs hs' hI
          go_wp2
          go_ret
          exact ⟨by rw [nameB_bad hlt Hs.out]; rfl, hb2⟩
      · have hd := decode_high s pos hlt (by omega)
        have hnx : ∀ ty, (Instr.next (.pointer (some ⟨w.heap.size, 0, none⟩)) true ty).run Tryz.prog wr = _ := fun ty => Lib.run_next_any_at wr w.heap.size s pos ty hit hlt
        have hb2 := Lib.below_iterAt hb (k := w.heap.size) (Nat.le_refl _) s (pos + (Utf8.decode s pos).2)
        generalize wr.iterAt w.heap.size s (pos + (Utf8.decode s pos).2) = W1 at *
        generalize (Utf8.decode s pos).1 = rn at *
        have hI := Lib.hid (irune_c signsA signs_ascii (by decide) (rn : Int) (by omega) W1)
        have Hs := Lib.hid (show nameB s = false from nameB_bad hlt (by unfold signB; rw [decide_eq_false (by omega), decide_eq_false (by omega)]; rfl))
        clear hit hd ha
        go_wp2_with fail
        refine hI.out.mono ?_
        rintro e w2 ⟨rfl, hF⟩
        go_wp2
        go_ret
        exact ⟨by rw [Hs.out]; rfl, below_on hb2 (Nat.le_refl _) hF⟩
    · obtain rfl : pos = s.size := by omega
      have hnx : ∀ ty, (Instr.next (.pointer (some ⟨w.heap.size, 0, none⟩)) true ty).run Tryz.prog wr = _ := fun ty => Lib.run_next_end_at wr w.heap.size s s.size ty hit hlt
      have hal := Hst.out.all
      by_cases he : s.toList.isEmpty = true
      · have Hs := Lib.hid (show nameB s = false by unfold nameB; rw [he]; simp)
        clear hal
        go_wp2
        go_ret
        exact ⟨by rw [Hs.out]; rfl, hb⟩
      · have he' : s.toList.isEmpty = false := by simpa using he
        have Hs := Lib.hid (show nameB s = decide (s.size ≤ 8) by unfold nameB; rw [he', hal]; simp)
        clear he hal
        by_cases h8 : s.size ≤ 8
        · have g8 : decide ((s.size : Int) ≤ 8) = true := decide_eq_true (by omega)
          have H8 := Lib.hid (decide_eq_true h8)
          clear h8
          go_wp2
          go_ret
          exact ⟨by rw [Hs.out, H8.out]; rfl, hb⟩
        · have g8 : decide ((s.size : Int) ≤ 8) = false := decide_eq_false (by omega)
          have H8 := Lib.hid (decide_eq_false h8)
          clear h8
          go_wp2
          go_ret
          exact ⟨by rw [Hs.out, H8.out]; rfl, hb⟩
end Go.Proofs.YtmljlkjomjflpaaGreat
