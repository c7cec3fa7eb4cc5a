/- Texts of this claim, laid together: ChTurn, ChOpen, Rng, ChA. -/
import Derived.Test.YtgholbeehkfbiaaGreatRows
import Derived.Test.YtgholbeehkfbiaaGreatBm10
import Derived.Deep.Cut
import Derived.Deep.RegionWith
import Derived.Shelf.Abstract
import Derived.Deep.RegionHeld3
import Derived.WalkKit
import Derived.WalkSpells
import Derived.WalkLawsBesides
import Derived.Deep.QuietTactic
import Derived.BigQuiet
import Derived.Laws.StructEq
import Derived.Deep.DeepFit
import Derived.StillTailTactics
import Derived.Test.YtgholbeehkfbiaaGreatBm5
import Derived.Test.YtgholbeehkfbiaaGreatBm3
import Derived.Maps.RangeRun
import Derived.Maps.RangeWalk
import Derived.Test.YtgholbeehkfbiaaGreatBm8

/- chart: Give, Aside -/
namespace Go.Proofs.YtgholbeehkfbiaaGreat
open Go.RowKit
abbrev Ac.row (a : Ac) : Array Value := #[.string a.name, i64 a.hav, i64 a.set_, i64 a.lim]
/-- what Give, Aside make of an account -/
def givD (x : Int) (a : Ac) : Ac × Int := ({ a with hav := (sumR (a.hav - x)).1 }, (sumR (a.hav - x)).2)
def asiD (x : Int) (a : Ac) : Ac × Int := ({ a with set_ := (sumR (a.set_ + x)).1 }, (sumR (a.set_ + x)).2)
/-- chart.turn -/
def turnC (D : Ac → Ac × Int) (M : List (ByteArray × Ac)) (k : ByteArray) (x : Int) : Int × List (ByteArray × Ac) := match getM M k with
  | none => (6, M)
  | some a => if (D a).2 ≠ 0 then ((D a).2, M) else if 0 < x ∧ freeA a x = false then (9, M) else if (D a).1.set_ < 0 then (13, M) else (0, putM M k (D a).1)
theorem turnC_none {D : Ac → Ac × Int} {M : List (ByteArray × Ac)} {k : ByteArray} {x : Int} (h : getM M k = none) : turnC D M k x = (6, M) := by unfold turnC; rw [h]
theorem turnC_some {D : Ac → Ac × Int} {M : List (ByteArray × Ac)} {k : ByteArray} {x : Int} {a : Ac} (h : getM M k = some a) : turnC D M k x = if (D a).2 ≠ 0 then ((D a).2, M) else if 0 < x ∧ freeA a x = false then (9, M) else if (D a).1.set_ < 0 then (13, M) else (0, putM M k (D a).1) := by unfold turnC; rw [h]
theorem getM_mem {M : List (ByteArray × Ac)} {k : ByteArray} {a : Ac} (h : getM M k = some a) : ∃ p ∈ M, p.2 = a := by
  unfold getM at h
  rw [Option.map_eq_some_iff] at h
  obtain ⟨p, hp, rfl⟩ := h
  exact ⟨p, List.mem_of_find?_eq_some hp, rfl⟩
set_option maxRecDepth 100000 in
set_option maxHeartbeats 4000000 in
theorem giv1_c (a : Ac) (x : Int) (q p : Nat) (w : World) (hq : w.heap[q]? = some (.cells a.row 113 (0, 0))) (hp : w.cell? ⟨p, 0, none⟩ = some (i64 x)) (ha : R64 a.hav) (hx : R64 x) :
    Calls Tryz.prog 246 #[.pointer (some ⟨q, 0, none⟩), .pointer (some ⟨p, 0, none⟩)] w fun e w' => e = .returned (i64 (givD x a).2) ∧ w'.heap[q]? = some (.cells (givD x a).1.row 113 (0, 0)) ∧ w.grownBy w' (some q) := by
  have k1 := cell_of_row _ q 1 _ _ (0, 0) hq
  simp only [List.getElem?_toArray, List.getElem?_cons_zero, List.getElem?_cons_succ] at k1
  have L1 := Lib.hid fun W => less_c a.hav x W ha hx
  unfold givD
  generalize sumR (a.hav - x) = r at *
  have hlq : q < w.heap.size := (Array.getElem?_eq_some_iff.1 hq).1
  clear ha hx
  go_enter Tryz.func246, Tryz.ntmps246
  go_upto_region 1 with fail
  have h0 := (Below.refl w.heap.size w).drew
  go_cut [3] from 4 (fun s3 wx => s3 = i64 r.2 ∧ wx.heap[q]? = some (.cells (Ac.row { a with hav := r.1 }) 113 (0, 0)) ∧ w.grownBy wx (some q))
  case first =>
    go_region_with (first
      | (go_at_call 97; with_reducible refine (L1.out _).mono ?_; rintro e u1 ⟨rfl, hF⟩; have hb := below_on h0 (Nat.le_refl _) hF; have hq1 := (hb.block _ hlq).trans hq; have z1 := frozen_of_row _ q 1 _ _ hq1; have c1 := (hb.cell (p := ⟨q, 1, none⟩) hlq).trans k1; clear hF))
    all_goals (
      go_wp2_with fail
      go_meet
      have hs := heap_setCell_same u1 q 1 _ _ (i64 r.1) hq1
      simp only [List.setIfInBounds_toArray, List.set_cons_succ, List.set_cons_zero] at hs
      exact ⟨rfl, hs, grown_setCell (g := q) (grown_of_below hb (some q)) (p := ⟨q, 1, none⟩) (.inl rfl) (i64 r.1)⟩)
  case rest =>
  obtain ⟨rfl, h1, h2⟩ := hcut
  clear k1 hq hp L1
  go_wp2
  go_ret
  exact ⟨rfl, h1, h2⟩
set_option maxRecDepth 100000 in
set_option maxHeartbeats 4000000 in
theorem asi1_c (a : Ac) (x : Int) (q p : Nat) (w : World) (hq : w.heap[q]? = some (.cells a.row 113 (0, 0))) (hp : w.cell? ⟨p, 0, none⟩ = some (i64 x)) (ha : R64 a.set_) (hx : R64 x) :
    Calls Tryz.prog 229 #[.pointer (some ⟨q, 0, none⟩), .pointer (some ⟨p, 0, none⟩)] w fun e w' => e = .returned (i64 (asiD x a).2) ∧ w'.heap[q]? = some (.cells (asiD x a).1.row 113 (0, 0)) ∧ w.grownBy w' (some q) := by
  have k1 := cell_of_row _ q 2 _ _ (0, 0) hq
  simp only [List.getElem?_toArray, List.getElem?_cons_zero, List.getElem?_cons_succ] at k1
  have L1 := Lib.hid fun W => add_c a.set_ x W ha hx
  unfold asiD
  generalize sumR (a.set_ + x) = r at *
  have hlq : q < w.heap.size := (Array.getElem?_eq_some_iff.1 hq).1
  clear ha hx
  go_enter Tryz.func229, Tryz.ntmps229
  go_upto_region 1 with fail
  have h0 := (Below.refl w.heap.size w).drew
  go_cut [3] from 4 (fun s3 wx => s3 = i64 r.2 ∧ wx.heap[q]? = some (.cells (Ac.row { a with set_ := r.1 }) 113 (0, 0)) ∧ w.grownBy wx (some q))
  case first =>
    go_region_with (first
      | (go_at_call 230; with_reducible refine (L1.out _).mono ?_; rintro e u1 ⟨rfl, hF⟩; have hb := below_on h0 (Nat.le_refl _) hF; have hq1 := (hb.block _ hlq).trans hq; have z1 := frozen_of_row _ q 2 _ _ hq1; have c1 := (hb.cell (p := ⟨q, 2, none⟩) hlq).trans k1; clear hF))
    all_goals (
      go_wp2_with fail
      go_meet
      have hs := heap_setCell_same u1 q 2 _ _ (i64 r.1) hq1
      simp only [List.setIfInBounds_toArray, List.set_cons_succ, List.set_cons_zero] at hs
      exact ⟨rfl, hs, grown_setCell (g := q) (grown_of_below hb (some q)) (p := ⟨q, 2, none⟩) (.inl rfl) (i64 r.1)⟩)
  case rest =>
  obtain ⟨rfl, h1, h2⟩ := hcut
  clear k1 hq hp L1
  go_wp2
  go_ret
  exact ⟨rfl, h1, h2⟩
set_option maxRecDepth 100000 in
set_option maxHeartbeats 8000000 in
theorem givT_c (g b : Nat) (M : List (ByteArray × Ac)) (k : ByteArray) (x : Int) (p : Nat) (w : World) (h : ChIs w g b M) (hp : w.cell? ⟨p, 0, none⟩ = some (i64 x)) (hM : ∀ y ∈ M, InA y.2) (hx : R64 x) :
    Calls Tryz.prog 228 #[.pointer (some ⟨g, 0, none⟩), .string k, i64 x, .func (.func 246) #[] #[.pointer (some ⟨p, 0, none⟩)]] w fun e w' => e = .returned (i64 (turnC (givD x) M k x).1) ∧ ChIs w' g b (turnC (givD x) M k x).2 ∧ w.grownBy w' (some b) := by
  have hC := Lib.hid (get_c g b M k w h)
  have eC : ∀ args W, (callFunc 246 args).run Tryz.prog W = .ok (.enter 246 args) W := (enters_of Tryz.func246 (by kernel_rfl) rfl)
  obtain ⟨R, hR0⟩ : ∃ R, turnC (givD x) M k x = R := ⟨_, rfl⟩
  rw [hR0]
  have hlp := World.block_lt_of_cell? _ _ hp
  have HR0 := Lib.hid hR0
  clear hR0
  go_enter Tryz.func228, Tryz.ntmps228
  go_wp2_with fail
  refine hC.out.mono ?_
  rintro e w1 ⟨rfl, hF⟩
  have h1 := h.later hF
  have hbw := hF
  have hbS := hF.size
  have hp1 := (hF.cell hlp).trans hp
  clear hF hC
  cases hm : getM M k with
  | none =>
    have HR := Lib.hid (show R = (6, M) by rw [← HR0.out, turnC_none hm])
    have e2 : getC M k = (ac0, 6) := by unfold getC; rw [hm]
    rw [e2]
    clear hm HR0 e2
    unfold ac0
    have hB := (Below.refl w1.heap.size w1).alloc (Nat.le_refl _) (.cells #[.string ⟨#[]⟩, i64 0, i64 0, i64 0] 113)
    go_wp2
    go_ret
    exact ⟨by rw [HR.out]; rfl, by rw [HR.out]; exact h1.later hB, grown_of_below (below_on hbw (Nat.le_refl _) hB) _⟩
  | some a =>
    have hA : InA a := by obtain ⟨y, hy, rfl⟩ := getM_mem hm; exact hM y hy
    have e2 : getC M k = (a, 0) := by unfold getC; rw [hm]
    rw [e2]
    have HR := Lib.hid (show R = (if (givD x a).2 ≠ 0 then ((givD x a).2, M) else if 0 < x ∧ freeA a x = false then (9, M) else if (givD x a).1.set_ < 0 then (13, M) else (0, putM M k (givD x a).1)) by rw [← HR0.out, turnC_some hm])
    clear hm HR0 e2
    have hB := ((Below.refl w1.heap.size w1).alloc (Nat.le_refl _) (.cells a.row 113)).alloc (by simp) (.cells a.row 113)
    have h2 := h1.later hB
    have hp2 := (hB.cell (World.block_lt_of_cell? _ _ hp1)).trans hp1
    have hq := heap_alloc2_old w1 (.cells a.row 113) (.cells a.row 113)
    have ho := heap_alloc2_new w1 (.cells a.row 113) (.cells a.row 113)
    have hb2 := below_on hbw (Nat.le_refl _) hB
    have c0 := cell_of_row _ (w1.heap.size) 0 _ _ (0, 0) (heap_alloc_new w1 (.cells a.row 113))
    have hD := Lib.hid (giv1_c a x w1.heap.size p _ hq hp2 hA.1 hx)
    have hFr := Lib.hid fun W => free_c a x W hA hx
    have hlg := h1.lt
    generalize givD x a = d at *
    clear hB c0 hbw hp hlp h hp1 h1
    go_wp2_with fail
    generalize hW2 : (w1.alloc (.cells a.row 113)).alloc (.cells a.row 113) = W2 at *
    refine hD.out.mono ?_
    rintro e w3 ⟨rfl, hq3, hG⟩
    have hgq : w.heap.size ≤ w1.heap.size := hb2.size |> fun _ => hbS
    have h3 := h2.kept hG (fun e => by injection e with e; omega) (fun e => by injection e with e; omega)
    have ho3 := (hG.block (w1.heap.size + 1) (Array.getElem?_eq_some_iff.1 ho).1 (fun e => by injection e with e; omega)).trans ho
    have hb3 := hb2.trans (below_of_grown hG hb2.size (fun k e => by injection e with e; omega))
    have m0 := cell_of_row _ (w1.heap.size + 1) 0 _ _ (0, 0) ho3
    have m1 := cell_of_row _ (w1.heap.size + 1) 1 _ _ (0, 0) ho3
    have m2 := cell_of_row _ (w1.heap.size + 1) 2 _ _ (0, 0) ho3
    have m3 := cell_of_row _ (w1.heap.size + 1) 3 _ _ (0, 0) ho3
    have n2 := cell_of_row _ w1.heap.size 2 _ _ (0, 0) hq3
    simp only [List.getElem?_toArray, List.getElem?_cons_zero, List.getElem?_cons_succ] at m0 m1 m2 m3 n2
    have hlq3 := (Array.getElem?_eq_some_iff.1 hq3).1
    clear hG hD ho hq h2 hb2 hp2 hW2
    by_cases hd : d.2 = 0
    · have g1 : (d.2 != 0) = false := by rw [hd]; rfl
      have HR1 := Lib.hid (show R = (if 0 < x ∧ freeA a x = false then (9, M) else if d.1.set_ < 0 then (13, M) else (0, putM M k d.1)) by rw [HR.out, if_neg (by simpa using hd)])
      clear HR hd
      by_cases hx0 : 0 < x
      · have g2 : decide ((0 : Int) < x) = true := decide_eq_true hx0
        have HX := Lib.hid hx0
        clear hx0
        go_wp2_with fail
        refine (hFr.out _).mono ?_
        rintro e w4 ⟨rfl, hF⟩
        have h4 := h3.later hF
        have n2 := (hF.cell (p := ⟨w1.heap.size, 2, none⟩) hlq3).trans n2
        have hq4 := (hF.block _ hlq3).trans hq3
        have hb4 := below_on hb3 (Nat.le_refl _) hF
        clear hF m0 m1 m2 m3 ho3 h3 hb3 hq3 hlq3
        cases hfr : freeA a x with
        | false =>
          have HR2 := Lib.hid (show R = (9, M) by rw [HR1.out, if_pos ⟨HX.out, hfr⟩])
          clear HR1 hfr
          go_wp2
          go_ret
          exact ⟨by rw [HR2.out]; rfl, by rw [HR2.out]; exact h4, grown_of_below hb4 _⟩
        | true =>
          have HR2 := Lib.hid (show R = (if d.1.set_ < 0 then (13, M) else (0, putM M k d.1)) by rw [HR1.out, if_neg (fun h => by rw [hfr] at h; exact absurd h.2 (by decide))])
          clear HR1 hfr
          by_cases hn : d.1.set_ < 0
          · have g3 : decide (d.1.set_ < 0) = true := decide_eq_true hn
            have HR3 := Lib.hid (show R = (13, M) by rw [HR2.out, if_pos hn])
            clear hn HR2
            go_wp2
            go_ret
            exact ⟨by rw [HR3.out]; rfl, by rw [HR3.out]; exact h4, grown_of_below hb4 _⟩
          · have g3 : decide (d.1.set_ < 0) = false := decide_eq_false hn
            have HR3 := Lib.hid (show R = (0, putM M k d.1) by rw [HR2.out, if_neg hn])
            clear hn HR2
            have j0 := cell_of_row _ w1.heap.size 0 _ _ (0, 0) hq4
            have j1 := cell_of_row _ w1.heap.size 1 _ _ (0, 0) hq4
            have j3 := cell_of_row _ w1.heap.size 3 _ _ (0, 0) hq4
            have cg := cell_of_row _ g 0 _ _ (0, 0) h4.cell
            simp only [List.getElem?_toArray, List.getElem?_cons_zero, List.getElem?_cons_succ] at j0 j1 j3 cg
            have h5 := h4.later (Below.refl _ _).drew
            obtain ⟨w5, hrun, hm5, hg5⟩ := run_put (P := Tryz.prog) strKey Tryz.underlying196 h5.map k d.1.v
            rw [putM_mv] at hm5
            have HM := Lib.hid hm5
            have HG := Lib.hid hg5
            clear hm5 hg5 hq4
            go_wp2_with fail
            go_region_with fail
            all_goals (
              go_wp2
              go_ret
              exact ⟨by rw [HR3.out]; rfl, by rw [HR3.out]; exact ⟨h5.ne, (HG.out.block g h5.lt.1 (fun e => h5.ne (by injection e with e; exact e.symm))).trans h5.cell, HM.out⟩, grown_trans (grown_of_below hb4.drew _) HG.out⟩)
      · have g2 : decide ((0 : Int) < x) = false := decide_eq_false hx0
        have HR2 := Lib.hid (show R = (if d.1.set_ < 0 then (13, M) else (0, putM M k d.1)) by rw [HR1.out, if_neg (fun h => hx0 h.1)])
        have h4 := h3
        have hq4 := hq3
        have hb4 := hb3
        clear hx0 HR1 h3 hq3 hb3 m0 m1 m2 m3 ho3 hlq3
        by_cases hn : d.1.set_ < 0
        · have g3 : decide (d.1.set_ < 0) = true := decide_eq_true hn
          have HR3 := Lib.hid (show R = (13, M) by rw [HR2.out, if_pos hn])
          clear hn HR2
          go_wp2
          go_ret
          exact ⟨by rw [HR3.out]; rfl, by rw [HR3.out]; exact h4, grown_of_below hb4 _⟩
        · have g3 : decide (d.1.set_ < 0) = false := decide_eq_false hn
          have HR3 := Lib.hid (show R = (0, putM M k d.1) by rw [HR2.out, if_neg hn])
          clear hn HR2
          have j0 := cell_of_row _ w1.heap.size 0 _ _ (0, 0) hq4
          have j1 := cell_of_row _ w1.heap.size 1 _ _ (0, 0) hq4
          have j3 := cell_of_row _ w1.heap.size 3 _ _ (0, 0) hq4
          have cg := cell_of_row _ g 0 _ _ (0, 0) h4.cell
          simp only [List.getElem?_toArray, List.getElem?_cons_zero, List.getElem?_cons_succ] at j0 j1 j3 cg
          have h5 := h4.later (Below.refl _ _).drew
          obtain ⟨w5, hrun, hm5, hg5⟩ := run_put (P := Tryz.prog) strKey Tryz.underlying196 h5.map k d.1.v
          rw [putM_mv] at hm5
          have HM := Lib.hid hm5
          have HG := Lib.hid hg5
          clear hm5 hg5 hq4
          go_wp2_with fail
          go_region_with fail
          all_goals (
            go_wp2
            go_ret
            exact ⟨by rw [HR3.out]; rfl, by rw [HR3.out]; exact ⟨h5.ne, (HG.out.block g h5.lt.1 (fun e => h5.ne (by injection e with e; exact e.symm))).trans h5.cell, HM.out⟩, grown_trans (grown_of_below hb4.drew _) HG.out⟩)
    · have g1 : (d.2 != 0) = true := by simpa using hd
      have HR1 := Lib.hid (show R = (d.2, M) by rw [HR.out, if_pos hd])
      clear hd
      go_wp2
      go_ret
      exact ⟨by rw [HR1.out]; rfl, by rw [HR1.out]; exact h3, grown_of_below hb3 _⟩
set_option maxRecDepth 100000 in
set_option maxHeartbeats 8000000 in
theorem asiT_c (g b : Nat) (M : List (ByteArray × Ac)) (k : ByteArray) (x : Int) (p : Nat) (w : World) (h : ChIs w g b M) (hp : w.cell? ⟨p, 0, none⟩ = some (i64 x)) (hM : ∀ y ∈ M, InA y.2) (hx : R64 x) :
    Calls Tryz.prog 228 #[.pointer (some ⟨g, 0, none⟩), .string k, i64 x, .func (.func 229) #[] #[.pointer (some ⟨p, 0, none⟩)]] w fun e w' => e = .returned (i64 (turnC (asiD x) M k x).1) ∧ ChIs w' g b (turnC (asiD x) M k x).2 ∧ w.grownBy w' (some b) := by
  have hC := Lib.hid (get_c g b M k w h)
  have eC : ∀ args W, (callFunc 229 args).run Tryz.prog W = .ok (.enter 229 args) W := (enters_of Tryz.func229 (by kernel_rfl) rfl)
  obtain ⟨R, hR0⟩ : ∃ R, turnC (asiD x) M k x = R := ⟨_, rfl⟩
  rw [hR0]
  have hlp := World.block_lt_of_cell? _ _ hp
  have HR0 := Lib.hid hR0
  clear hR0
  go_enter Tryz.func228, Tryz.ntmps228
  go_wp2_with fail
  refine hC.out.mono ?_
  rintro e w1 ⟨rfl, hF⟩
  have h1 := h.later hF
  have hbw := hF
  have hbS := hF.size
  have hp1 := (hF.cell hlp).trans hp
  clear hF hC
  cases hm : getM M k with
  | none =>
    have HR := Lib.hid (show R = (6, M) by rw [← HR0.out, turnC_none hm])
    have e2 : getC M k = (ac0, 6) := by unfold getC; rw [hm]
    rw [e2]
    clear hm HR0 e2
    unfold ac0
    have hB := (Below.refl w1.heap.size w1).alloc (Nat.le_refl _) (.cells #[.string ⟨#[]⟩, i64 0, i64 0, i64 0] 113)
    go_wp2
    go_ret
    exact ⟨by rw [HR.out]; rfl, by rw [HR.out]; exact h1.later hB, grown_of_below (below_on hbw (Nat.le_refl _) hB) _⟩
  | some a =>
    have hA : InA a := by obtain ⟨y, hy, rfl⟩ := getM_mem hm; exact hM y hy
    have e2 : getC M k = (a, 0) := by unfold getC; rw [hm]
    rw [e2]
    have HR := Lib.hid (show R = (if (asiD x a).2 ≠ 0 then ((asiD x a).2, M) else if 0 < x ∧ freeA a x = false then (9, M) else if (asiD x a).1.set_ < 0 then (13, M) else (0, putM M k (asiD x a).1)) by rw [← HR0.out, turnC_some hm])
    clear hm HR0 e2
    have hB := ((Below.refl w1.heap.size w1).alloc (Nat.le_refl _) (.cells a.row 113)).alloc (by simp) (.cells a.row 113)
    have h2 := h1.later hB
    have hp2 := (hB.cell (World.block_lt_of_cell? _ _ hp1)).trans hp1
    have hq := heap_alloc2_old w1 (.cells a.row 113) (.cells a.row 113)
    have ho := heap_alloc2_new w1 (.cells a.row 113) (.cells a.row 113)
    have hb2 := below_on hbw (Nat.le_refl _) hB
    have c0 := cell_of_row _ (w1.heap.size) 0 _ _ (0, 0) (heap_alloc_new w1 (.cells a.row 113))
    have hD := Lib.hid (asi1_c a x w1.heap.size p _ hq hp2 hA.2.1 hx)
    have hFr := Lib.hid fun W => free_c a x W hA hx
    have hlg := h1.lt
    generalize asiD x a = d at *
    clear hB c0 hbw hp hlp h hp1 h1
    go_wp2_with fail
    generalize hW2 : (w1.alloc (.cells a.row 113)).alloc (.cells a.row 113) = W2 at *
    refine hD.out.mono ?_
    rintro e w3 ⟨rfl, hq3, hG⟩
    have hgq : w.heap.size ≤ w1.heap.size := hb2.size |> fun _ => hbS
    have h3 := h2.kept hG (fun e => by injection e with e; omega) (fun e => by injection e with e; omega)
    have ho3 := (hG.block (w1.heap.size + 1) (Array.getElem?_eq_some_iff.1 ho).1 (fun e => by injection e with e; omega)).trans ho
    have hb3 := hb2.trans (below_of_grown hG hb2.size (fun k e => by injection e with e; omega))
    have m0 := cell_of_row _ (w1.heap.size + 1) 0 _ _ (0, 0) ho3
    have m1 := cell_of_row _ (w1.heap.size + 1) 1 _ _ (0, 0) ho3
    have m2 := cell_of_row _ (w1.heap.size + 1) 2 _ _ (0, 0) ho3
    have m3 := cell_of_row _ (w1.heap.size + 1) 3 _ _ (0, 0) ho3
    have n2 := cell_of_row _ w1.heap.size 2 _ _ (0, 0) hq3
    simp only [List.getElem?_toArray, List.getElem?_cons_zero, List.getElem?_cons_succ] at m0 m1 m2 m3 n2
    have hlq3 := (Array.getElem?_eq_some_iff.1 hq3).1
    clear hG hD ho hq h2 hb2 hp2 hW2
    by_cases hd : d.2 = 0
    · have g1 : (d.2 != 0) = false := by rw [hd]; rfl
      have HR1 := Lib.hid (show R = (if 0 < x ∧ freeA a x = false then (9, M) else if d.1.set_ < 0 then (13, M) else (0, putM M k d.1)) by rw [HR.out, if_neg (by simpa using hd)])
      clear HR hd
      by_cases hx0 : 0 < x
      · have g2 : decide ((0 : Int) < x) = true := decide_eq_true hx0
        have HX := Lib.hid hx0
        clear hx0
        go_wp2_with fail
        refine (hFr.out _).mono ?_
        rintro e w4 ⟨rfl, hF⟩
        have h4 := h3.later hF
        have n2 := (hF.cell (p := ⟨w1.heap.size, 2, none⟩) hlq3).trans n2
        have hq4 := (hF.block _ hlq3).trans hq3
        have hb4 := below_on hb3 (Nat.le_refl _) hF
        clear hF m0 m1 m2 m3 ho3 h3 hb3 hq3 hlq3
        cases hfr : freeA a x with
        | false =>
          have HR2 := Lib.hid (show R = (9, M) by rw [HR1.out, if_pos ⟨HX.out, hfr⟩])
          clear HR1 hfr
          go_wp2
          go_ret
          exact ⟨by rw [HR2.out]; rfl, by rw [HR2.out]; exact h4, grown_of_below hb4 _⟩
        | true =>
          have HR2 := Lib.hid (show R = (if d.1.set_ < 0 then (13, M) else (0, putM M k d.1)) by rw [HR1.out, if_neg (fun h => by rw [hfr] at h; exact absurd h.2 (by decide))])
          clear HR1 hfr
          by_cases hn : d.1.set_ < 0
          · have g3 : decide (d.1.set_ < 0) = true := decide_eq_true hn
            have HR3 := Lib.hid (show R = (13, M) by rw [HR2.out, if_pos hn])
            clear hn HR2
            go_wp2
            go_ret
            exact ⟨by rw [HR3.out]; rfl, by rw [HR3.out]; exact h4, grown_of_below hb4 _⟩
          · have g3 : decide (d.1.set_ < 0) = false := decide_eq_false hn
            have HR3 := Lib.hid (show R = (0, putM M k d.1) by rw [HR2.out, if_neg hn])
            clear hn HR2
            have j0 := cell_of_row _ w1.heap.size 0 _ _ (0, 0) hq4
            have j1 := cell_of_row _ w1.heap.size 1 _ _ (0, 0) hq4
            have j3 := cell_of_row _ w1.heap.size 3 _ _ (0, 0) hq4
            have cg := cell_of_row _ g 0 _ _ (0, 0) h4.cell
            simp only [List.getElem?_toArray, List.getElem?_cons_zero, List.getElem?_cons_succ] at j0 j1 j3 cg
            have h5 := h4.later (Below.refl _ _).drew
            obtain ⟨w5, hrun, hm5, hg5⟩ := run_put (P := Tryz.prog) strKey Tryz.underlying196 h5.map k d.1.v
            rw [putM_mv] at hm5
            have HM := Lib.hid hm5
            have HG := Lib.hid hg5
            clear hm5 hg5 hq4
            go_wp2_with fail
            go_region_with fail
            all_goals (
              go_wp2
              go_ret
              exact ⟨by rw [HR3.out]; rfl, by rw [HR3.out]; exact ⟨h5.ne, (HG.out.block g h5.lt.1 (fun e => h5.ne (by injection e with e; exact e.symm))).trans h5.cell, HM.out⟩, grown_trans (grown_of_below hb4.drew _) HG.out⟩)
      · have g2 : decide ((0 : Int) < x) = false := decide_eq_false hx0
        have HR2 := Lib.hid (show R = (if d.1.set_ < 0 then (13, M) else (0, putM M k d.1)) by rw [HR1.out, if_neg (fun h => hx0 h.1)])
        have h4 := h3
        have hq4 := hq3
        have hb4 := hb3
        clear hx0 HR1 h3 hq3 hb3 m0 m1 m2 m3 ho3 hlq3
        by_cases hn : d.1.set_ < 0
        · have g3 : decide (d.1.set_ < 0) = true := decide_eq_true hn
          have HR3 := Lib.hid (show R = (13, M) by rw [HR2.out, if_pos hn])
          clear hn HR2
          go_wp2
          go_ret
          exact ⟨by rw [HR3.out]; rfl, by rw [HR3.out]; exact h4, grown_of_below hb4 _⟩
        · have g3 : decide (d.1.set_ < 0) = false := decide_eq_false hn
          have HR3 := Lib.hid (show R = (0, putM M k d.1) by rw [HR2.out, if_neg hn])
          clear hn HR2
          have j0 := cell_of_row _ w1.heap.size 0 _ _ (0, 0) hq4
          have j1 := cell_of_row _ w1.heap.size 1 _ _ (0, 0) hq4
          have j3 := cell_of_row _ w1.heap.size 3 _ _ (0, 0) hq4
          have cg := cell_of_row _ g 0 _ _ (0, 0) h4.cell
          simp only [List.getElem?_toArray, List.getElem?_cons_zero, List.getElem?_cons_succ] at j0 j1 j3 cg
          have h5 := h4.later (Below.refl _ _).drew
          obtain ⟨w5, hrun, hm5, hg5⟩ := run_put (P := Tryz.prog) strKey Tryz.underlying196 h5.map k d.1.v
          rw [putM_mv] at hm5
          have HM := Lib.hid hm5
          have HG := Lib.hid hg5
          clear hm5 hg5 hq4
          go_wp2_with fail
          go_region_with fail
          all_goals (
            go_wp2
            go_ret
            exact ⟨by rw [HR3.out]; rfl, by rw [HR3.out]; exact ⟨h5.ne, (HG.out.block g h5.lt.1 (fun e => h5.ne (by injection e with e; exact e.symm))).trans h5.cell, HM.out⟩, grown_trans (grown_of_below hb4.drew _) HG.out⟩)
    · have g1 : (d.2 != 0) = true := by simpa using hd
      have HR1 := Lib.hid (show R = (d.2, M) by rw [HR.out, if_pos hd])
      clear hd
      go_wp2
      go_ret
      exact ⟨by rw [HR1.out]; rfl, by rw [HR1.out]; exact h3, grown_of_below hb3 _⟩
set_option maxRecDepth 100000 in
set_option maxHeartbeats 4000000 in
theorem give_c (g b : Nat) (M : List (ByteArray × Ac)) (k : ByteArray) (x : Int) (w : World) (h : ChIs w g b M) (hM : ∀ y ∈ M, InA y.2) (hx : R64 x) :
    Calls Tryz.prog 241 #[.pointer (some ⟨g, 0, none⟩), .string k, i64 x] w fun e w' => e = .returned (i64 (turnC (givD x) M k x).1) ∧ ChIs w' g b (turnC (givD x) M k x).2 ∧ w.grownBy w' (some b) := by
  have hb0 := (Below.refl w.heap.size w).alloc (Nat.le_refl _) (.cells #[i64 x] 2)
  have c0 := cell_of_row _ w.heap.size 0 _ _ (0, 0) (heap_alloc_new w (.cells #[i64 x] 2))
  simp only [List.getElem?_toArray, List.getElem?_cons_zero] at c0
  have hT := Lib.hid (givT_c g b M k x w.heap.size _ (h.later hb0) c0 hM hx)
  generalize turnC (givD x) M k x = R at *
  go_enter Tryz.func241, Tryz.ntmps241
  go_wp2_with fail
  refine hT.out.mono ?_
  rintro e w1 ⟨rfl, h1, hG⟩
  go_wp2
  go_ret
  exact ⟨rfl, h1, grown_trans (grown_of_below hb0 _) hG⟩
set_option maxRecDepth 100000 in
set_option maxHeartbeats 4000000 in
theorem aside_c (g b : Nat) (M : List (ByteArray × Ac)) (k : ByteArray) (x : Int) (w : World) (h : ChIs w g b M) (hM : ∀ y ∈ M, InA y.2) (hx : R64 x) :
    Calls Tryz.prog 201 #[.pointer (some ⟨g, 0, none⟩), .string k, i64 x] w fun e w' => e = .returned (i64 (turnC (asiD x) M k x).1) ∧ ChIs w' g b (turnC (asiD x) M k x).2 ∧ w.grownBy w' (some b) := by
  have hb0 := (Below.refl w.heap.size w).alloc (Nat.le_refl _) (.cells #[i64 x] 2)
  have c0 := cell_of_row _ w.heap.size 0 _ _ (0, 0) (heap_alloc_new w (.cells #[i64 x] 2))
  simp only [List.getElem?_toArray, List.getElem?_cons_zero] at c0
  have hT := Lib.hid (asiT_c g b M k x w.heap.size _ (h.later hb0) c0 hM hx)
  generalize turnC (asiD x) M k x = R at *
  go_enter Tryz.func201, Tryz.ntmps201
  go_wp2_with fail
  refine hT.out.mono ?_
  rintro e w1 ⟨rfl, h1, hG⟩
  go_wp2
  go_ret
  exact ⟨rfl, h1, grown_trans (grown_of_below hb0 _) hG⟩
end Go.Proofs.YtgholbeehkfbiaaGreat

/- chart.Open -/
namespace Go.Proofs.YtgholbeehkfbiaaGreat
open Go.RowKit
/-- chart.Open -/
def openC (M : List (ByteArray × Ac)) (k : ByteArray) (lim : Int) : Int × List (ByteArray × Ac) :=
  if nameB k = false ∨ lim < 0 then (1, M) else if (getM M k).isSome = true then (7, M) else if M.length = 12 then (5, M) else (0, putM M k ⟨k, 0, 0, lim⟩)
set_option maxRecDepth 100000 in
set_option maxHeartbeats 4000000 in
theorem open_c (g b : Nat) (M : List (ByteArray × Ac)) (k : ByteArray) (lim : Int) (w : World) (h : ChIs w g b M) :
    Calls Tryz.prog 173 #[.pointer (some ⟨g, 0, none⟩), .string k, i64 lim] w fun e w' => e = .returned (i64 (openC M k lim).1) ∧ ChIs w' g b (openC M k lim).2 ∧ w.grownBy w' (some b) := by
  have hN := Lib.hid (name_b k w)
  obtain ⟨R, hR⟩ : ∃ R, openC M k lim = R := ⟨_, rfl⟩
  rw [hR]
  unfold openC at hR
  have HR := Lib.hid hR
  clear hR
  go_enter Tryz.func173, Tryz.ntmps173
  go_wp2_with fail
  refine hN.out.mono ?_
  rintro e w1 ⟨rfl, hF⟩
  have h1 := h.later hF
  have hb1 := hF
  clear hF hN h
  cases hn : nameB k with
  | false =>
    have HS := Lib.hid (show R = (1, M) by rw [← HR.out, if_pos (.inl hn)])
    clear hn HR
    go_wp2
    go_ret
    exact ⟨by rw [HS.out]; rfl, by rw [HS.out]; exact h1, grown_of_below hb1 _⟩
  | true =>
    by_cases hl : lim < 0
    · have g1 : decide (lim < 0) = true := decide_eq_true hl
      have HS := Lib.hid (show R = (1, M) by rw [← HR.out, if_pos (.inr hl)])
      clear hn hl HR
      go_wp2
      go_ret
      exact ⟨by rw [HS.out]; rfl, by rw [HS.out]; exact h1, grown_of_below hb1 _⟩
    · have g1 : decide (lim < 0) = false := decide_eq_false hl
      have HS := Lib.hid (show R = (if (getM M k).isSome = true then (7, M) else if M.length = 12 then (5, M) else (0, putM M k ⟨k, 0, 0, lim⟩)) by rw [← HR.out, if_neg (by rw [hn]; simpa using hl)])
      clear hn hl HR
      have c0 := cell_of_row _ g 0 _ _ (0, 0) h1.cell
      simp only [List.getElem?_toArray, List.getElem?_cons_zero] at c0
      have hlk := run_lookup (P := Tryz.prog) strKey Tryz.underlying196 h1.map k (ac0.v) (by kernel_rfl) true
      rw [getM_mv] at hlk
      unfold ac0 at hlk
      cases hm : getM M k with
      | some a =>
        rw [hm] at hlk
        have HT := Lib.hid (show R = (7, M) by rw [HS.out, hm]; rfl)
        have hB := (Below.refl w1.heap.size w1).alloc (Nat.le_refl _) (.cells #[.string a.name, i64 a.hav, i64 a.set_, i64 a.lim] 113)
        clear hm HS
        go_wp2
        go_ret
        exact ⟨by rw [HT.out]; rfl, by rw [HT.out]; exact h1.later hB, grown_of_below (below_on hb1 (Nat.le_refl _) hB) _⟩
      | none =>
        rw [hm] at hlk
        have HT := Lib.hid (show R = (if M.length = 12 then (5, M) else (0, putM M k ⟨k, 0, 0, lim⟩)) by rw [HS.out, hm]; rfl)
        have hB := (Below.refl w1.heap.size w1).alloc (Nat.le_refl _) (.cells #[.string ⟨#[]⟩, i64 0, i64 0, i64 0] 113)
        have h2 := h1.later hB
        have c0 := cell_of_row _ g 0 _ _ (0, 0) h2.cell
        simp only [List.getElem?_toArray, List.getElem?_cons_zero] at c0
        have hb2 := below_on hb1 (Nat.le_refl _) hB
        have hlen := fun ty => run_lenM (P := Tryz.prog) Tryz.underlying196 h2.map ty
        rw [show (mv M).length = M.length from List.length_map ..] at hlen
        clear hm HS h1 hb1 hB
        by_cases h12 : M.length = 12
        · have g2 : ((M.length : Int) == 12) = true := by rw [beq_iff_eq]; omega
          have HU := Lib.hid (show R = (5, M) by rw [HT.out, if_pos h12])
          clear h12 HT
          go_wp2
          go_ret
          exact ⟨by rw [HU.out]; rfl, by rw [HU.out]; exact h2, grown_of_below hb2 _⟩
        · have g2 : ((M.length : Int) == 12) = false := by rw [beq_eq_false_iff_ne]; omega
          have HU := Lib.hid (show R = (0, putM M k ⟨k, 0, 0, lim⟩) by rw [HT.out, if_neg h12])
          obtain ⟨w5, hrun, hm5, hg5⟩ := run_put (P := Tryz.prog) strKey Tryz.underlying196 h2.map k (Ac.v ⟨k, 0, 0, lim⟩)
          rw [putM_mv] at hm5
          have HM := Lib.hid hm5
          have HG := Lib.hid hg5
          have H2 := Lib.hid h2
          clear hm5 hg5 h12 HT
          go_wp2
          go_ret
          exact ⟨by rw [HU.out]; rfl, by rw [HU.out]; exact ⟨H2.out.ne, (HG.out.block g H2.out.lt.1 (fun e => H2.out.ne (by injection e with e; exact e.symm))).trans H2.out.cell, HM.out⟩, grown_trans (grown_of_below hb2 _) HG.out⟩
end Go.Proofs.YtgholbeehkfbiaaGreat

/- Frames of many blocks; a range over a map. No program. -/
namespace Go.Proofs.YtgholbeehkfbiaaGreat
open Go.RowKit

/-- nothing of w has turned but blocks of S -/
structure Gr (w w' : World) (S : Nat → Prop) : Prop where
  os : w'.os = w.os
  tape : w'.tape = w.tape
  output : w'.output = w.output
  size : w.heap.size ≤ w'.heap.size
  block : ∀ k, k < w.heap.size → ¬ S k → w'.heap[k]? = w.heap[k]?
theorem Gr.of_grown {w w' : World} {row : Option Nat} (h : w.grownBy w' row) : Gr w w' (fun k => row = some k) := ⟨h.os, h.tape, h.output, h.size, fun k hk hn => h.block k hk (fun e => hn e.symm)⟩
theorem Gr.of_below {w w' : World} (h : Below w.heap.size w w') (S : Nat → Prop) : Gr w w' S := ⟨h.os, h.tape, h.output, h.size, fun k hk _ => h.block k hk⟩
theorem Gr.mono {w w' : World} {S S' : Nat → Prop} (h : Gr w w' S) (hS : ∀ k, k < w.heap.size → S k → S' k) : Gr w w' S' := ⟨h.os, h.tape, h.output, h.size, fun k hk hn => h.block k hk (fun e => hn (hS k hk e))⟩
theorem Gr.refl (w : World) (S : Nat → Prop) : Gr w w S := ⟨rfl, rfl, rfl, Nat.le_refl _, fun _ _ _ => rfl⟩
theorem Gr.trans {w w' w'' : World} {S S' : Nat → Prop} (h : Gr w w' S) (k : Gr w' w'' S') (hS : ∀ b, S' b → S b ∨ w.heap.size ≤ b) : Gr w w'' S :=
  ⟨k.os.trans h.os, k.tape.trans h.tape, k.output.trans h.output, Nat.le_trans h.size k.size, fun n hn hx => (k.block n (Nat.lt_of_lt_of_le hn h.size) (fun e => (hS n e).elim hx (fun e => by omega))).trans (h.block n hn hx)⟩
/-- a frame that touches no block below B -/
theorem Gr.below {w w' : World} {S : Nat → Prop} (h : Gr w w' S) {B : Nat} (hB : B ≤ w.heap.size) (hS : ∀ b, S b → B ≤ b) : Below B w w' :=
  ⟨h.os, h.tape, h.output, h.size, fun k hk => h.block k (by omega) (fun e => by have := hS k e; omega)⟩
theorem Gr.grown {w w' : World} {S : Nat → Prop} (h : Gr w w' S) {b : Nat} (hS : ∀ k, S k → k = b) : w.grownBy w' (some b) := ⟨h.os, h.tape, h.output, h.size, fun k hk hn => h.block k hk (fun e => hn (by rw [hS k e]))⟩
theorem SlS.grs {α : Type} [Enc α] {w w' : World} {S T : Nat → Prop} {A : Option Addr} {c : Nat} {l : List α} (h : SlS w T A c l) (hg : Gr w w' S) (hT : ∀ b, T b → b < w.heap.size ∧ ¬ S b) : SlS w' T A c l :=
  h.keep (fun _ hp => World.cell?_of_block (hg.block _ (hT _ hp).1 (hT _ hp).2)) (fun _ h => h)

theorem leftOf_push {es : Array MapEntry} {seen : Array Nat} {e : MapEntry} (he : e ∈ (leftOf es seen).toList) (hn : es.toList.Pairwise (fun x y => x.born < y.born)) : (leftOf es seen).toList.Perm (e :: (leftOf es (seen.push e.born)).toList) := by
  unfold leftOf at *
  simp only [Array.toList_filter, contains_push] at *
  generalize es.toList = l at *
  induction l with
  | nil => simp at he
  | cons a r ih =>
    obtain ⟨h1, h2⟩ := List.pairwise_cons.1 hn
    by_cases ha : seen.contains a.born = true
    · rw [List.filter_cons_of_neg (by rw [ha]; decide)] at he ⊢
      rw [List.filter_cons_of_neg (by rw [ha]; simp)]
      exact ih h2 he
    · have ha : seen.contains a.born = false := by simpa using ha
      rw [List.filter_cons_of_pos (by rw [ha]; rfl)] at he ⊢
      rcases List.mem_cons.1 he with rfl | he
      · rw [List.filter_cons_of_neg (by simp)]
        refine List.Perm.cons _ (List.Perm.of_eq ?_)
        refine List.filter_congr fun x hx => ?_
        have := h1 x hx
        rw [show (x.born == e.born) = false from beq_eq_false_iff_ne.2 (by omega), Bool.or_false]
      · have hr : e ∈ r := (List.mem_filter.1 he).1
        have := h1 e hr
        rw [List.filter_cons_of_pos (by rw [ha, show (a.born == e.born) = false from beq_eq_false_iff_ne.2 (by omega)]; rfl)]
        exact (List.Perm.cons a (ih h2 he)).trans (List.Perm.swap _ _ _)
section
variable {κ : Type} [DecidableEq κ] {enc : κ → Value} {P : Program} {w : World} {b r : Nat} {M L : List (κ × Value)}
/-- a range over the map of block b under way, its iterator in block r: L is still to come -/
def RngIs (enc : κ → Value) (w : World) (b r : Nat) (M L : List (κ × Value)) : Prop :=
  ∃ es clock since seen c0, w.heap[b]? = some (.map es clock) ∧ (es.toList.map (fun e => (e.key, e.val)) = M.map (fun p => (enc p.1, p.2)) ∧ es.toList.Pairwise (fun x y => x.born < y.born) ∧ (∀ x ∈ es.toList, x.born < clock) ∧ M.Pairwise (fun p q => p.1 ≠ q.1)) ∧
    w.heap[r]? = some (.mapIter (some b) since seen c0) ∧ (∀ x ∈ es.toList, x.born < since) ∧ since ≤ c0 ∧ since ≤ clock ∧ (leftOf es seen).toList.map (fun e => (e.key, e.val)) = L.map (fun p => (enc p.1, p.2))
omit [DecidableEq κ] in
theorem RngIs.map (h : RngIs enc w b r M L) : MapIs enc w b M := by
  obtain ⟨es, clock, since, seen, c0, hb, h1, _⟩ := h
  exact ⟨es, clock, hb, h1⟩
omit [DecidableEq κ] in
theorem RngIs.lt (h : RngIs enc w b r M L) : b < w.heap.size ∧ r < w.heap.size := by
  obtain ⟨es, clock, since, seen, c0, hb, h1, hr, _⟩ := h
  exact ⟨(Array.getElem?_eq_some_iff.1 hb).1, (Array.getElem?_eq_some_iff.1 hr).1⟩
omit [DecidableEq κ] in
theorem RngIs.kept {w' : World} {row : Option Nat} (h : RngIs enc w b r M L) (hg : w.grownBy w' row) (h1 : some b ≠ row) (h2 : some r ≠ row) : RngIs enc w' b r M L := by
  have hl := h.lt
  obtain ⟨es, clock, since, seen, c0, hb, hh, hr, rest⟩ := h
  exact ⟨es, clock, since, seen, c0, (hg.block b hl.1 h1).trans hb, hh, (hg.block r hl.2 h2).trans hr, rest⟩
omit [DecidableEq κ] in
theorem RngIs.later {w' : World} (h : RngIs enc w b r M L) (hb : Below w.heap.size w w') : RngIs enc w' b r M L := h.kept (grown_of_below hb none) (by simp) (by simp)
omit [DecidableEq κ] in
theorem RngIs.ne (h : RngIs enc w b r M L) : r ≠ b := by
  obtain ⟨es, clock, since, seen, c0, hb, hh, hr, _⟩ := h
  intro e
  rw [e, hb] at hr
  cases hr
omit [DecidableEq κ] in
theorem RngIs.len (h : RngIs enc w b r M L) : w.rangeLeft b r = L.length := by
  obtain ⟨es, clock, since, seen, c0, hb, hh, hr, _, _, _, hL⟩ := h
  simp only [World.rangeLeft, hb, hr]
  have := congrArg List.length hL
  simpa using this
omit [DecidableEq κ] in
theorem rng_start {t e K : TypeId} (ht : P.underlying t = some (.map K e)) (h : MapIs enc w b M) :
    ∃ w', (Instr.range t (.map (some b))).run P w = .ok (.pointer (some ⟨w.heap.size, 0, none⟩)) w' ∧ RngIs enc w' b w.heap.size M M ∧ Below w.heap.size w w' ∧ w'.heap.size = w.heap.size + 1 := by
  have hlt := h.lt
  obtain ⟨es, clock, hb, h1, h2, h3, h4⟩ := h
  refine ⟨_, run_range_map w t K e b es clock ht hb, ⟨es, clock, clock, #[], clock, (heap_alloc_old w _ hlt).trans hb, ⟨h1, h2, h3, h4⟩, heap_alloc_new w _, h3, Nat.le_refl _, Nat.le_refl _, ?_⟩, (Below.refl _ _).alloc (Nat.le_refl _) _, by simp⟩
  rw [show leftOf es #[] = es by unfold leftOf; simp]
  exact h1
omit [DecidableEq κ] in
theorem rng_next (h : RngIs enc w b r M L) (ty : TypeId) :
    (L = [] ∧ (Instr.next (.pointer (some ⟨r, 0, none⟩)) false ty).run P w = .ok (.tuple #[.bool false]) w) ∨
    ∃ (p : κ × Value) (L' : List (κ × Value)) (w' : World), L.Perm (p :: L') ∧ (Instr.next (.pointer (some ⟨r, 0, none⟩)) false ty).run P w = .ok (.tuple #[.bool true, enc p.1, p.2]) w' ∧ RngIs enc w' b r M L' ∧ w.grownBy w' (some r) ∧ w'.heap.size = w.heap.size ∧
      (Instr.entry (.pointer (some ⟨r, 0, none⟩))).run P w' = .ok (.tuple #[enc p.1, p.2]) w' := by
  have hne := h.ne
  obtain ⟨es, clock, since, seen, c0, hb, ⟨hh, hpw, hcl, hnd⟩, hr, hold, hsc, hsk, hL⟩ := h
  rcases run_next_at (P := P) w ty r b since c0 seen es clock hr hb hold hsc with ⟨h0, hrun⟩ | ⟨e, he, w1, hal, hrun⟩
  · refine Or.inl ⟨?_, hrun⟩
    have := congrArg List.length hL
    simp only [List.length_map, Array.length_toList, h0] at this
    exact List.length_eq_zero_iff.1 this.symm
  · obtain ⟨hem, hes⟩ := mem_left he
    have hp := leftOf_push he hpw
    have hp2 := (hp.map (fun e => (e.key, e.val)))
    rw [hL, List.map_cons] at hp2
    have hmem : (e.key, e.val) ∈ L.map (fun p => (enc p.1, p.2)) := hp2.mem_iff.2 (by simp)
    obtain ⟨p, hpL, hpe⟩ := List.mem_map.1 hmem
    injection hpe with hk hv
    obtain ⟨L1, L2, rfl⟩ := List.append_of_mem hpL
    have hperm : (L1 ++ p :: L2).Perm (p :: (L1 ++ L2)) := List.perm_middle
    have hp3 : ((L1 ++ L2).map (fun p => (enc p.1, p.2))).Perm ((leftOf es (seen.push e.born)).toList.map (fun e => (e.key, e.val))) := by
      have h1 := (hperm.map (fun p => (enc p.1, p.2))).symm.trans hp2
      rw [List.map_cons, hk, hv] at h1
      exact (List.perm_cons _).1 h1
    obtain ⟨L', hL', hL'2⟩ : ∃ L', (L1 ++ L2).Perm L' ∧ L'.map (fun p => (enc p.1, p.2)) = (leftOf es (seen.push e.born)).toList.map (fun e => (e.key, e.val)) := by
      clear hL hp2 hmem hpL hp hrun
      generalize (leftOf es (seen.push e.born)).toList.map (fun e => (e.key, e.val)) = R at hp3
      generalize L1 ++ L2 = X at hp3
      clear hperm
      induction R generalizing X with
      | nil =>
        have : X = [] := by simpa using hp3
        subst this
        exact ⟨[], List.Perm.refl _, rfl⟩
      | cons u R ih =>
        have : u ∈ X.map (fun p => (enc p.1, p.2)) := hp3.mem_iff.2 (by simp)
        obtain ⟨q, hq, hqe⟩ := List.mem_map.1 this
        obtain ⟨X1, X2, rfl⟩ := List.append_of_mem hq
        have h2 : (X1 ++ q :: X2).Perm (q :: (X1 ++ X2)) := List.perm_middle
        have h3 := (h2.map (fun p => (enc p.1, p.2))).symm.trans hp3
        rw [List.map_cons, hqe] at h3
        obtain ⟨L', e1, e2⟩ := ih _ ((List.perm_cons _).1 h3)
        exact ⟨q :: L', h2.trans (e1.cons q), by rw [List.map_cons, e2, hqe]⟩
    have hr1 : w1.heap[r]? = some (.mapIter (some b) since seen c0) := by rcases hal with rfl | rfl <;> exact hr
    have hb1 : w1.heap[b]? = some (.map es clock) := by rcases hal with rfl | rfl <;> exact hb
    have hset := MapKept.heap_set (o' := .mapIter (some b) since (seen.push e.born) clock) hr1
    have hb' : (ChangeMaps.setBlock w1 r (.mapIter (some b) since (seen.push e.born) clock)).heap[b]? = some (.map es clock) := (hset.2 b (fun e1 => hne e1.symm)).trans hb1
    have hn : (es.toList.map (·.born)).Nodup := List.pairwise_map.2 (hpw.imp fun h => Nat.ne_of_lt h)
    refine Or.inr ⟨p, L', _, hperm.trans (hL'.cons p), by rw [hk, hv]; exact hrun, ⟨es, clock, since, seen.push e.born, clock, hb', ⟨hh, hpw, hcl, hnd⟩, hset.1, hold, hsk, hsk, hL'2.symm⟩, ?_, ?_, by rw [hk, hv]; exact run_entry_at _ r b since seen es clock e hset.1 hb' hem hn⟩
    · rcases hal with rfl | rfl <;> exact ⟨rfl, rfl, rfl, by simp [ChangeMaps.setBlock], fun i _ hi => hset.2 i (fun e1 => hi (by rw [e1]))⟩
    · rcases hal with rfl | rfl <;> simp [ChangeMaps.setBlock]
variable {ops : Array Oper} {rest : List Oper} {o : Oper} {a : Act} {Q : Exit → Act → World → Prop}
omit [DecidableEq κ] in
theorem wpList_rng (hg : o.guard = none) (m : Operand) (t : TypeId) (hop : o.op = Op.range t m) {K e : TypeId} (ht : P.underlying t = some (.map K e)) (hm : a.eval m = .map (some b)) (h : MapIs enc w b M)
    (hK : ∀ w', RngIs enc w' b w.heap.size M M → Below w.heap.size w w' → w'.heap.size = w.heap.size + 1 → wpList P ops Q rest (a.put o.dst (.pointer (some ⟨w.heap.size, 0, none⟩))) w') :
    wpList P ops Q (o :: rest) a w := by
  refine wpList_plain hg fun K' hK' => ?_
  obtain ⟨w', hrun, r1, r2, r3⟩ := rng_start (P := P) (w := w) ht h
  unfold Oper.wp
  simp [execOp, hop, hm, hrun, Result.andThen]
  exact hK' _ _ (hK w' r1 r2 r3)
omit [DecidableEq κ] in
theorem wpList_rng_next (hg : o.guard = none) (it : Operand) (hop : o.op = Op.next it false) (hit : a.eval it = .pointer (some ⟨r, 0, none⟩)) (h : RngIs enc w b r M L)
    (hDone : L = [] → wpList P ops Q rest (a.put o.dst (.tuple #[.bool false])) w)
    (hMore : ∀ (p : κ × Value) (L' : List (κ × Value)) (w' : World), L.Perm (p :: L') → RngIs enc w' b r M L' → w.grownBy w' (some r) → w'.heap.size = w.heap.size → (Instr.entry (.pointer (some ⟨r, 0, none⟩))).run P w' = .ok (.tuple #[enc p.1, p.2]) w' →
      wpList P ops Q rest (a.put o.dst (.tuple #[.bool true, enc p.1, p.2])) w') :
    wpList P ops Q (o :: rest) a w := by
  refine wpList_plain hg fun K' hK' => ?_
  unfold Oper.wp
  rcases rng_next (P := P) h o.type with ⟨h0, hrun⟩ | ⟨p, L', w', hp, hrun, hrg, hgr, hsz, hen⟩
  · simp [execOp, hop, hit, hrun, Result.andThen]
    exact hK' _ _ (hDone h0)
  · simp [execOp, hop, hit, hrun, Result.andThen]
    exact hK' _ _ (hMore p L' w' hp hrg hgr hsz hen)
end
end Go.Proofs.YtgholbeehkfbiaaGreat

/- chart: accounts in order -/
namespace Go.Proofs.YtgholbeehkfbiaaGreat
open Go.RowKit
instance encAc : Enc Ac where
  size := 4
  cells a := [.string a.name, i64 a.hav, i64 a.set_, i64 a.lim]
  val := Ac.v
  ok _ _ a := a.name.size ≤ maxLen
  len _ := rfl
  one _ v hv := by simp only [List.mem_cons, List.not_mem_nil, or_false] at hv; rcases hv with rfl | rfl | rfl | rfl <;> rfl
  keep h _ _ := h
theorem Ac.ext_ {a b : Ac} (h1 : a.name = b.name) (h2 : a.hav = b.hav) (h3 : a.set_ = b.set_) (h4 : a.lim = b.lim) : a = b := by cases a; cases b; simp_all
instance : DecidableEq Ac := fun a b => if h : a.name = b.name ∧ a.hav = b.hav ∧ a.set_ = b.set_ ∧ a.lim = b.lim then isTrue (Ac.ext_ h.1 h.2.1 h.2.2.1 h.2.2.2) else isFalse (fun e => h (by rw [e]; exact ⟨rfl, rfl, rfl, rfl⟩))
def ltA (a b : Ac) : Bool := bless a.name b.name
theorem keyA : KeyOrd ltA Ac.name where
  strict := ⟨fun a => bless_strict.irr _, fun a b c => bless_strict.trans _ _ _, fun a b c => bless_strict.co _ _ _⟩
  ne a b h e := by unfold ltA at h; rw [e, bless_strict.irr] at h; cases h
  co a b h := by
    cases h1 : ltA a b with
    | true => exact .inl rfl
    | false =>
      cases h2 : ltA b a with
      | true => exact .inr rfl
      | false => exact absurd (bless_tri h1 h2) h
  eq a b h c := by unfold ltA; rw [h]; exact ⟨rfl, rfl⟩
/-- accounts as they are kept -/
def OkA (L : List Ac) : Prop := ∀ a ∈ L, InA a ∧ 0 ≤ a.set_ ∧ nameB a.name = true
/-- chart.Give, Aside, as they turn accounts in order -/
def turnL (D : Ac → Ac × Int) (L : List Ac) (k : ByteArray) (x : Int) : Int × List Ac := match getK Ac.name L k with
  | none => (6, L)
  | some a => if (D a).2 ≠ 0 then ((D a).2, L) else if 0 < x ∧ freeA a x = false then (9, L) else if (D a).1.set_ < 0 then (13, L) else (0, setK Ac.name L (D a).1)
def openL (L : List Ac) (k : ByteArray) (lim : Int) : Int × List Ac :=
  if nameB k = false ∨ lim < 0 then (1, L) else if (getK Ac.name L k).isSome = true then (7, L) else if L.length = 12 then (5, L) else (0, insB ltA ⟨k, 0, 0, lim⟩ L)
def getLR (L : List Ac) (k : ByteArray) : Ac × Int := match getK Ac.name L k with
  | some a => (a, 0)
  | none => (ac0, 6)
abbrev RkA (M : List (ByteArray × Ac)) (L : List Ac) : Prop := RK ltA Ac.name Prod.snd M L
theorem RkA.get_ {M : List (ByteArray × Ac)} {L : List Ac} (h : RkA M L) (k : ByteArray) : getM M k = getK Ac.name L k := by
  have := RK.get keyA h k
  simpa using this
theorem RkA.getC_ {M : List (ByteArray × Ac)} {L : List Ac} (h : RkA M L) (k : ByteArray) : getC M k = getLR L k := by
  unfold getC getLR
  rw [h.get_ k]
  cases getK Ac.name L k <;> rfl
theorem RkA.turn {M : List (ByteArray × Ac)} {L : List Ac} (h : RkA M L) (D : Ac → Ac × Int) (hD : ∀ a, (D a).1.name = a.name) (k : ByteArray) (x : Int) : (turnC D M k x).1 = (turnL D L k x).1 ∧ RkA (turnC D M k x).2 (turnL D L k x).2 := by
  unfold turnC turnL
  rw [h.get_ k]
  cases hg : getK Ac.name L k with
  | none => exact ⟨rfl, h⟩
  | some a =>
    have hk := (getK_mem hg).2
    dsimp only
    by_cases h1 : (D a).2 ≠ 0
    · rw [if_pos h1, if_pos h1]; exact ⟨rfl, h⟩
    · rw [if_neg h1, if_neg h1]
      by_cases h2 : 0 < x ∧ freeA a x = false
      · rw [if_pos h2, if_pos h2]; exact ⟨rfl, h⟩
      · rw [if_neg h2, if_neg h2]
        by_cases h3 : (D a).1.set_ < 0
        · rw [if_pos h3, if_pos h3]; exact ⟨rfl, h⟩
        · rw [if_neg h3, if_neg h3]
          exact ⟨rfl, RK.put keyA h (k := k) (v := (D a).1) (by rw [← hk]; exact hD a) (by rw [hg]; rfl)⟩
theorem RkA.open_ {M : List (ByteArray × Ac)} {L : List Ac} (h : RkA M L) (k : ByteArray) (lim : Int) : (openC M k lim).1 = (openL L k lim).1 ∧ RkA (openC M k lim).2 (openL L k lim).2 := by
  unfold openC openL
  rw [h.get_ k, RK.len h]
  by_cases h1 : nameB k = false ∨ lim < 0
  · rw [if_pos h1, if_pos h1]; exact ⟨rfl, h⟩
  · rw [if_neg h1, if_neg h1]
    cases hg : getK Ac.name L k with
    | some a => exact ⟨rfl, h⟩
    | none =>
      simp only [Option.isSome_none, Bool.false_eq_true, if_false]
      by_cases h3 : L.length = 12
      · rw [if_pos h3, if_pos h3]; exact ⟨rfl, h⟩
      · rw [if_neg h3, if_neg h3]
        exact ⟨rfl, RK.add keyA h (k := k) (v := ⟨k, 0, 0, lim⟩) rfl hg⟩
/-- block g holds a chart, whose map lies in block b: the accounts L, in order -/
def ChA (w : World) (g b : Nat) (L : List Ac) : Prop := ∃ M, ChIs w g b M ∧ RkA M L
theorem ChA.kept {w w' : World} {g b : Nat} {L : List Ac} {S : Nat → Prop} (h : ChA w g b L) (hk : Gr w w' S) (h1 : ¬ S g) (h2 : ¬ S b) : ChA w' g b L := by
  obtain ⟨M, h, hr⟩ := h
  exact ⟨M, ⟨h.ne, (hk.block g h.lt.1 h1).trans h.cell, by
    have hlt := h.map.lt
    obtain ⟨es, clock, hb, r⟩ := h.map
    exact ⟨es, clock, (hk.block b hlt h2).trans hb, r⟩⟩, hr⟩
theorem ChA.later {w w' : World} {g b : Nat} {L : List Ac} (h : ChA w g b L) (hb : Below w.heap.size w w') : ChA w' g b L := h.kept (Gr.of_below hb (fun _ => False)) id id
theorem ChA.lt {w : World} {g b : Nat} {L : List Ac} (h : ChA w g b L) : g < w.heap.size ∧ b < w.heap.size ∧ b ≠ g := by
  obtain ⟨M, h, _⟩ := h
  exact ⟨h.lt.1, h.lt.2, h.ne⟩
theorem ChA.srt {w : World} {g b : Nat} {L : List Ac} (h : ChA w g b L) : SrtL ltA L := by
  obtain ⟨M, _, h⟩ := h
  exact h.srt
theorem OkA.inM {M : List (ByteArray × Ac)} {L : List Ac} (h : OkA L) (hr : RkA M L) : ∀ y ∈ M, InA y.2 := fun y hy => (h y.2 (hr.perm.mem_iff.1 (List.mem_map.2 ⟨y, hy, rfl⟩))).1
theorem chnewA_c (w : World) : Calls Tryz.prog 63 #[] w fun e w' => e = .returned (.pointer (some ⟨w.heap.size + 1, 0, none⟩)) ∧ ChA w' (w.heap.size + 1) w.heap.size [] ∧ Below w.heap.size w w' :=
  (chnew_c w).mono fun _ _ ⟨h1, h2, h3⟩ => ⟨h1, ⟨[], h2, RK.nil⟩, h3⟩
theorem getA_c (g b : Nat) (L : List Ac) (k : ByteArray) (w : World) (h : ChA w g b L) :
    Calls Tryz.prog 197 #[.pointer (some ⟨g, 0, none⟩), .string k] w fun e w' => e = .returned (.tuple #[(getLR L k).1.v, i64 (getLR L k).2]) ∧ Below w.heap.size w w' := by
  obtain ⟨M, h, hr⟩ := h
  have := get_c g b M k w h
  rw [hr.getC_ k] at this
  exact this
theorem giveA_c (g b : Nat) (L : List Ac) (k : ByteArray) (x : Int) (w : World) (h : ChA w g b L) (hL : OkA L) (hx : R64 x) :
    Calls Tryz.prog 241 #[.pointer (some ⟨g, 0, none⟩), .string k, i64 x] w fun e w' => e = .returned (i64 (turnL (givD x) L k x).1) ∧ ChA w' g b (turnL (givD x) L k x).2 ∧ w.grownBy w' (some b) := by
  obtain ⟨M, h, hr⟩ := h
  obtain ⟨e1, e2⟩ := hr.turn (givD x) (fun _ => rfl) k x
  exact (give_c g b M k x w h (hL.inM hr) hx).mono fun _ _ ⟨h1, h2, h3⟩ => ⟨by rw [← e1]; exact h1, ⟨_, h2, e2⟩, h3⟩
theorem asideA_c (g b : Nat) (L : List Ac) (k : ByteArray) (x : Int) (w : World) (h : ChA w g b L) (hL : OkA L) (hx : R64 x) :
    Calls Tryz.prog 201 #[.pointer (some ⟨g, 0, none⟩), .string k, i64 x] w fun e w' => e = .returned (i64 (turnL (asiD x) L k x).1) ∧ ChA w' g b (turnL (asiD x) L k x).2 ∧ w.grownBy w' (some b) := by
  obtain ⟨M, h, hr⟩ := h
  obtain ⟨e1, e2⟩ := hr.turn (asiD x) (fun _ => rfl) k x
  exact (aside_c g b M k x w h (hL.inM hr) hx).mono fun _ _ ⟨h1, h2, h3⟩ => ⟨by rw [← e1]; exact h1, ⟨_, h2, e2⟩, h3⟩
theorem openA_c (g b : Nat) (L : List Ac) (k : ByteArray) (lim : Int) (w : World) (h : ChA w g b L) :
    Calls Tryz.prog 173 #[.pointer (some ⟨g, 0, none⟩), .string k, i64 lim] w fun e w' => e = .returned (i64 (openL L k lim).1) ∧ ChA w' g b (openL L k lim).2 ∧ w.grownBy w' (some b) := by
  obtain ⟨M, h, hr⟩ := h
  obtain ⟨e1, e2⟩ := hr.open_ k lim
  exact (open_c g b M k lim w h).mono fun _ _ ⟨h1, h2, h3⟩ => ⟨by rw [← e1]; exact h1, ⟨_, h2, e2⟩, h3⟩
theorem R64_0 : R64 0 := ⟨by decide, by decide⟩
theorem turnL_ok {D : Ac → Ac × Int} (hD : ∀ a, InA a → 0 ≤ a.set_ → (D a).1.name = a.name ∧ InA (D a).1) {L : List Ac} (h : OkA L) (k : ByteArray) (x : Int) : OkA (turnL D L k x).2 := by
  unfold turnL
  cases hg : getK Ac.name L k with
  | none => exact h
  | some a =>
    dsimp only
    by_cases h1 : (D a).2 ≠ 0
    · rw [if_pos h1]; exact h
    · rw [if_neg h1]
      by_cases h2 : 0 < x ∧ freeA a x = false
      · rw [if_pos h2]; exact h
      · rw [if_neg h2]
        by_cases h3 : (D a).1.set_ < 0
        · rw [if_pos h3]; exact h
        · rw [if_neg h3]
          have ha := h a (getK_mem hg).1
          intro y hy
          rcases setK_mem hy with rfl | hy
          · obtain ⟨e1, e2⟩ := hD a ha.1 ha.2.1
            exact ⟨e2, by omega, by rw [e1]; exact ha.2.2⟩
          · exact h y hy.1
theorem givD_ok (x : Int) : ∀ a, InA a → 0 ≤ a.set_ → (givD x a).1.name = a.name ∧ InA (givD x a).1 := fun _ h _ => ⟨rfl, sumR_R64 _, h.2⟩
theorem asiD_ok (x : Int) : ∀ a, InA a → 0 ≤ a.set_ → (asiD x a).1.name = a.name ∧ InA (asiD x a).1 := fun _ h _ => ⟨rfl, h.1, sumR_R64 _, h.2.2⟩
theorem openL_ok {L : List Ac} (h : OkA L) (k : ByteArray) {lim : Int} (hl : R64 lim) : OkA (openL L k lim).2 := by
  unfold openL
  by_cases h1 : nameB k = false ∨ lim < 0
  · rw [if_pos h1]; exact h
  · rw [if_neg h1]
    by_cases h2 : (getK Ac.name L k).isSome = true
    · rw [if_pos h2]; exact h
    · rw [if_neg h2]
      by_cases h3 : L.length = 12
      · rw [if_pos h3]; exact h
      · rw [if_neg h3]
        intro y hy
        rcases List.mem_cons.1 ((insB_perm _ L).mem_iff.1 hy) with rfl | hy
        · exact ⟨⟨R64_0, R64_0, by have : ¬ lim < 0 := fun e => h1 (.inr e); show 0 ≤ lim; omega, hl.2⟩, Int.le_refl _, by
            cases hn : nameB k with
            | true => rfl
            | false => exact absurd (.inl hn) h1⟩
        · exact h y hy
end Go.Proofs.YtgholbeehkfbiaaGreat
