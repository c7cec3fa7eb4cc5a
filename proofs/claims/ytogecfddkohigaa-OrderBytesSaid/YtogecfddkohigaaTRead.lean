/- order.Told, order.ReadTold -/
import Derived.Test.YtogecfddkohigaaRows
import Derived.Test.YtogecfddkohigaaReadW
import Derived.Test.YtogecfddkohigaaBytesO
import Derived.WalkKit
import Derived.WalkSpells
import Derived.WalkLawsBesides
import Derived.Deep.QuietTactic
import Derived.BigQuiet
import Derived.Laws.StructEq
import Derived.Deep.DeepFit
import Derived.StillTailTactics
namespace Go.Proofs.Ytogecfddkohigaa
open Go.RowKit
/-- a reply -/
structure Rp where
  err : Int
  hav : Int
  set_ : Int
  num : Int
deriving DecidableEq
abbrev Rp.v (x : Rp) : Value := .agg #[i64 x.err, i64 x.hav, i64 x.set_, i64 x.num]
/-- its numbers are of 64 bits -/
def InP (x : Rp) : Prop := R64 x.err ∧ R64 x.hav ∧ R64 x.set_ ∧ R64 x.num
def toldB (x : Rp) : List UInt8 := numB x.err ++ numB x.hav ++ numB x.set_ ++ numB x.num
theorem toldB_le {x : Rp} (h : InP x) : (toldB x).length ≤ 40 := by
  obtain ⟨a, b, c, d⟩ := h
  have := numB_le a
  have := numB_le b
  have := numB_le c
  have := numB_le d
  unfold toldB
  simp only [List.length_append]
  omega
set_option maxRecDepth 100000 in
set_option maxHeartbeats 8000000 in
theorem told_c (x : Rp) (w : World) (hin : InP x) :
    Calls Try.prog 39 #[x.v] w fun e w' => ∃ v, e = .returned v ∧ Own w' w.heap.size 5 v (toldB x) ∧ Below w.heap.size w w' := by
  have hbw := (Below.refl w.heap.size w).alloc (Nat.le_refl _) (.cells #[i64 x.err, i64 x.hav, i64 x.set_, i64 x.num] 49)
  have hz1 : w.heap.size < (w.alloc (.cells #[i64 x.err, i64 x.hav, i64 x.set_, i64 x.num] 49)).heap.size := by simp
  have k0 : (w.alloc (.cells #[i64 x.err, i64 x.hav, i64 x.set_, i64 x.num] 49)).cell? ⟨w.heap.size, 0, none⟩ = some (i64 x.err) := cell_of_row _ w.heap.size 0 _ _ (0, 0) (heap_alloc_new w _)
  have k1 : (w.alloc (.cells #[i64 x.err, i64 x.hav, i64 x.set_, i64 x.num] 49)).cell? ⟨w.heap.size, 1, none⟩ = some (i64 x.hav) := cell_of_row _ w.heap.size 1 _ _ (0, 0) (heap_alloc_new w _)
  have k2 : (w.alloc (.cells #[i64 x.err, i64 x.hav, i64 x.set_, i64 x.num] 49)).cell? ⟨w.heap.size, 2, none⟩ = some (i64 x.set_) := cell_of_row _ w.heap.size 2 _ _ (0, 0) (heap_alloc_new w _)
  have k3 : (w.alloc (.cells #[i64 x.err, i64 x.hav, i64 x.set_, i64 x.num] 49)).cell? ⟨w.heap.size, 3, none⟩ = some (i64 x.num) := cell_of_row _ w.heap.size 3 _ _ (0, 0) (heap_alloc_new w _)
  obtain ⟨r1, r2, r3, r4⟩ := hin
  have HE : Hid (toldB x = numB x.err ++ numB x.hav ++ numB x.set_ ++ numB x.num) := Lib.hid rfl
  have l1 := numB_le r1
  have l2 := numB_le r2
  have l3 := numB_le r3
  have l4 := numB_le r4
  have x1 : ∀ W, Calls Try.prog 59 #[i64 x.err] W fun e w' => ∃ v, e = .returned v ∧ Own w' W.heap.size 5 v (numB x.err) ∧ Below W.heap.size W w' := fun W => onum_c x.err W r1.1 r1.2
  have x2 : ∀ W, Calls Try.prog 61 #[i64 x.hav] W fun e w' => ∃ v, e = .returned v ∧ Own w' W.heap.size 5 v (numB x.hav) ∧ Below W.heap.size W w' := fun W => num_c x.hav W r2.1 r2.2
  have x3 : ∀ W, Calls Try.prog 61 #[i64 x.set_] W fun e w' => ∃ v, e = .returned v ∧ Own w' W.heap.size 5 v (numB x.set_) ∧ Below W.heap.size W w' := fun W => num_c x.set_ W r3.1 r3.2
  have x4 : ∀ W, Calls Try.prog 59 #[i64 x.num] W fun e w' => ∃ v, e = .returned v ∧ Own w' W.heap.size 5 v (numB x.num) ∧ Below W.heap.size W w' := fun W => onum_c x.num W r4.1 r4.2
  clear r1 r2 r3 r4
  generalize numB x.err = n1 at *
  generalize numB x.hav = n2 at *
  generalize numB x.set_ = n3 at *
  generalize numB x.num = n4 at *
  unfold Rp.v
  go_enter Try.func39, Try.ntmps39
  go_wp2_with fail
  generalize w.alloc (.cells #[i64 x.err, i64 x.hav, i64 x.set_, i64 x.num] 49) = w1 at *
  have h0 := (Below.refl w1.heap.size w1).drew
  have hSS : ∀ V, Below w1.heap.size w1 V → (fun V : World => Below w1.heap.size w1 V ∧ V.cell? ⟨w.heap.size, 0, none⟩ = some (i64 x.err) ∧ V.cell? ⟨w.heap.size, 1, none⟩ = some (i64 x.hav) ∧ V.cell? ⟨w.heap.size, 2, none⟩ = some (i64 x.set_) ∧ V.cell? ⟨w.heap.size, 3, none⟩ = some (i64 x.num)) V := fun V h => ⟨h, (h.cell (p := ⟨w.heap.size, 0, none⟩) hz1).trans k0, (h.cell (p := ⟨w.heap.size, 1, none⟩) hz1).trans k1, (h.cell (p := ⟨w.heap.size, 2, none⟩) hz1).trans k2, (h.cell (p := ⟨w.heap.size, 3, none⟩) hz1).trans k3⟩
  go_region_held3 (fun V => Below w1.heap.size w1 V ∧ V.cell? ⟨w.heap.size, 0, none⟩ = some (i64 x.err) ∧ V.cell? ⟨w.heap.size, 1, none⟩ = some (i64 x.hav) ∧ V.cell? ⟨w.heap.size, 2, none⟩ = some (i64 x.set_) ∧ V.cell? ⟨w.heap.size, 3, none⟩ = some (i64 x.num)) (first | exact hSS _ h0 | exact hSS _ (by assumption) | exact hSS _ (hb4.alloc hb4.size _))
    (first
      | (go_at_call 59; with_reducible refine (x1 _).mono ?_; rintro e u1 ⟨v, rfl, hO, hF⟩; obtain ⟨A1, c1, rfl, hs1⟩ := hO.sl; have hb1 := below_on h0 (Nat.le_refl _) hF; clear hO hF)
      | (go_at_call 61; with_reducible refine (x2 _).mono ?_; rintro e u2 ⟨v, rfl, hO, hF⟩; obtain ⟨A2, c2, rfl, hs2⟩ := hO.sl; have hb2 := below_on hb1 (Nat.le_refl _) hF; have hs1 := hs1.later hF; clear hO hF)
      | (go_at_call 61; with_reducible refine (x3 _).mono ?_; rintro e u3 ⟨v, rfl, hO, hF⟩; obtain ⟨A3, c3, rfl, hs3⟩ := hO.sl; have hb3 := below_on hb2 (Nat.le_refl _) hF; have hs1 := hs1.later hF; have hs2 := hs2.later hF; clear hO hF)
      | (go_at_call 59; with_reducible refine (x4 _).mono ?_; rintro e u4 ⟨v, rfl, hO, hF⟩; obtain ⟨A4, c4, rfl, hs4⟩ := hO.sl; have hb4 := below_on hb3 (Nat.le_refl _) hF; have hs1 := hs1.later hF; have hs2 := hs2.later hF; have hs3 := hs3.later hF; clear hO hF)
      | (go_at_call 58; refine (concat_byte _ _ [(⟨A1, c1, n1⟩ : SV UInt8), ⟨A2, c2, n2⟩, ⟨A3, c3, n3⟩, ⟨A4, c4, n4⟩] _ (own_lit (w := u4) (base := u4.heap.size) 36 #[.slice A1 n1.length c1, .slice A2 n2.length c2, .slice A3 n3.length c3, .slice A4 n4.length c4] [(⟨A1, c1, n1⟩ : SV UInt8), ⟨A2, c2, n2⟩, ⟨A3, c3, n3⟩, ⟨A4, c4, n4⟩] (Nat.le_refl _) rfl (by simp) (by intro y hy; simp only [List.mem_cons, List.not_mem_nil, or_false] at hy; rcases hy with rfl | rfl | rfl | rfl <;> (first | exact hs1 | exact hs2 | exact hs3 | exact hs4))).sl_of (by simp) (by simp; omega)).mono ?_; rintro e uc ⟨vc, rfl, hOc, hF⟩; have hbc := below_on (hb4.alloc hb4.size _) (Nat.le_refl _) hF; have hOc := hOc.mono (base' := w1.heap.size) (Nat.le_trans hb4.size (by simp)); clear hF))
  have eH : [(⟨A1, c1, n1⟩ : SV UInt8), ⟨A2, c2, n2⟩, ⟨A3, c3, n3⟩, ⟨A4, c4, n4⟩].flatMap SV.l = n1 ++ n2 ++ n3 ++ n4 := by simp
  rw [eH] at hOc
  go_wp2
  go_ret
  exact ⟨_, rfl, by rw [HE.out]; exact hOc.mono hbw.size, below_on hbw (Nat.le_refl _) hbc⟩
/-- order.ReadTold -/
def tq1 (l : List UInt8) : (Int × Int) × St := smR 14 (0, l)
def tq2 (l : List UInt8) : (Int × Int) × St := nuR (tq1 l).2
def tq3 (l : List UInt8) : (Int × Int) × St := nuR (tq2 l).2
def tq4 (l : List UInt8) : (Int × Int) × St := nuR (tq3 l).2
def toldOk (l : List UInt8) : Bool := decide ((doneRd (tq4 l).2.1 (tq4 l).2.2).1 = 0)
def rawT (l : List UInt8) : Rp := ⟨(tq1 l).1.1, (tq2 l).1.1, (tq3 l).1.1, (tq4 l).1.1⟩
/-- the error that is told -/
def toldE (l : List UInt8) : Int := if toldOk l then 0 else 3
def readT (l : List UInt8) : Rp := if toldOk l then rawT l else ⟨0, 0, 0, 0⟩
/-- in the midst of a reading: the reader in block r + 1 (what is left in r), the order in q, the result in t -/
structure MidT (w W : World) (r q t : Nat) (s : St) (cs : Array Value) : Prop where
  rd : Rd W (r + 1) r s.1 s.2
  lt : r < W.heap.size
  row : W.heap[q]? = some (.cells cs 49 (0, 0))
  res : W.heap[t]? = some (.cells #[i64 0, i64 0, i64 0, i64 0] 49 (0, 0))
  bel : Below w.heap.size w W
  at_ : w.heap.size ≤ t ∧ t < r ∧ r + 1 < q
theorem MidT.call {w W W' : World} {r q t : Nat} {s s' : St} {cs : Array Value} (m : MidT w W r q t s cs) (h : Rd W' (r + 1) r s'.1 s'.2) (g : W.grownBy W' (some (r + 1))) : MidT w W' r q t s' cs := by
  obtain ⟨_, lt, row, res, bel, a, b, c⟩ := m
  refine ⟨h, Nat.lt_of_lt_of_le lt g.size, ?_, ?_, bel.trans (below_of_grown g bel.size (fun k e => by injection e; omega)), a, b, c⟩
  · rw [g.block q (Array.getElem?_eq_some_iff.1 row).1 (fun e => by injection e; omega), row]
  · rw [g.block t (Array.getElem?_eq_some_iff.1 res).1 (fun e => by injection e; omega), res]
theorem MidT.store {w W : World} {r q t : Nat} {s : St} {cs : Array Value} (m : MidT w W r q t s cs) (j : Nat) (v : Value) : MidT w (W.setCell ⟨q, j, none⟩ v) r q t s (cs.setIfInBounds j v) := by
  obtain ⟨rd, lt, row, res, bel, a, b, c⟩ := m
  have g := grown_setCell (g := q) (World.grownBy.refl W (some q)) (p := ⟨q, j, none⟩) (.inl rfl) v
  refine ⟨rd.grown g (by simp; omega) (by simp; omega) lt, Nat.lt_of_lt_of_le lt g.size, heap_setCell_same W q j _ _ v row, ?_, bel.trans (below_of_grown g bel.size (fun k e => by injection e; omega)), a, b, c⟩
  rw [g.block t (Array.getElem?_eq_some_iff.1 res).1 (fun e => by injection e; omega), res]
theorem MidT.later {w W W' : World} {r q t : Nat} {s : St} {cs : Array Value} (m : MidT w W r q t s cs) (h : Below W.heap.size W W') : MidT w W' r q t s cs := by
  obtain ⟨rd, lt, row, res, bel, a, b, c⟩ := m
  exact ⟨rd.later lt h, Nat.lt_of_lt_of_le lt h.size, by rw [h.block q (Array.getElem?_eq_some_iff.1 row).1, row], by rw [h.block t (Array.getElem?_eq_some_iff.1 res).1, res], below_on bel (Nat.le_refl _) h |> fun k => k.mono (Nat.le_refl _), a, b, c⟩
theorem MidT.grown {w W W' : World} {r q t : Nat} {s : St} {cs : Array Value} {row : Option Nat} (m : MidT w W r q t s cs) (g : W.grownBy W' row) (hq : ∀ b, row = some b → q < b) : MidT w W' r q t s cs := by
  obtain ⟨rd, lt, hrow, res, bel, a, b, c⟩ := m
  have hne : ∀ k, k ≤ q → some k ≠ row := fun k hk e => by have := hq k e.symm; omega
  refine ⟨rd.grown g (fun e => hne (r + 1) (by omega) e.symm) (fun e => hne r (by omega) e.symm) lt, Nat.lt_of_lt_of_le lt g.size, ?_, ?_, bel.trans (below_of_grown g bel.size (fun k e => by have := hq k e; omega)), a, b, c⟩
  · rw [g.block q (Array.getElem?_eq_some_iff.1 hrow).1 (hne q (Nat.le_refl _)), hrow]
  · rw [g.block t (Array.getElem?_eq_some_iff.1 res).1 (hne t (by omega)), res]
set_option maxRecDepth 100000 in
set_option maxHeartbeats 8000000 in
theorem tread_c (A : Option Addr) (c : Nat) (l : List UInt8) (w : World) (h : Sl w w.heap.size A c l) (hn : l.length ≤ 60000) :
    Calls Try.prog 36 #[.slice A l.length c] w fun e w' => e = .returned (.tuple #[(readT l).v, i64 (toldE l)]) ∧ Below w.heap.size w w' := by
  have hb0 := (Below.refl w.heap.size w).alloc (Nat.le_refl _) (.cells #[i64 0, i64 0, i64 0, i64 0] 49)
  have hz0 : (w.alloc (.cells #[i64 0, i64 0, i64 0, i64 0] 49)).heap.size = w.heap.size + 1 := by simp
  have hres := heap_alloc_new w (.cells #[i64 0, i64 0, i64 0, i64 0] 49)
  have hC0 := rnew_c A c l _ (h.later hb0) (by omega)
  rw [hz0] at hC0
  go_enter Try.func36, Try.ntmps36
  go_wp2_with fail
  refine hC0.mono ?_
  rintro e w1 ⟨rfl, hR, hsz, hB⟩
  have hbw := below_on hb0 (Nat.le_refl _) (hz0 ▸ hB)
  have hr1 : w1.heap[w.heap.size]? = some (.cells #[i64 0, i64 0, i64 0, i64 0] 49 (0, 0)) := by rw [hB.block _ (by omega)]; exact hres
  obtain ⟨r, hr⟩ : ∃ r, r = w.heap.size + 1 := ⟨_, rfl⟩
  rw [← hr] at hR hsz ⊢
  have hlt : r < w1.heap.size := by omega
  have hrw : w.heap.size < r := by omega
  clear hb0 hz0 hres hC0 hB h hr hsz
  have hC := small_c (r + 1) r 14 0 l _ hR hlt (by omega)
  have l1 : (rangeRd 0 14 0 l).2.2.length ≤ 60000 := Nat.le_trans (rangeRd_left 0 14 0 l).1 hn
  obtain ⟨q1, hq⟩ : ∃ q, rangeRd 0 14 0 l = q := ⟨_, rfl⟩
  rw [hq] at hC l1
  have Hq1 := Lib.hid hq
  clear hq
  go_wp2_with fail
  refine hC.mono ?_
  rintro e Wq1 ⟨rfl, hR, hG⟩
  clear hC
  have hbw := hbw.trans (below_of_grown hG (B := w.heap.size) hbw.size (fun k e => by injection e; omega))
  have hlt := Nat.lt_of_lt_of_le hlt hG.size
  have hr1 := (hG.block _ (Array.getElem?_eq_some_iff.1 hr1).1 (fun e => by injection e; omega)).trans hr1
  have hR : Rd Wq1 (r + 1) r q1.2.1 q1.2.2 := hR
  clear hG
  have hB1 := (Below.refl Wq1.heap.size Wq1).alloc (Nat.le_refl _) (.cells #[i64 q1.1.1, i64 0, i64 0, i64 0] 49)
  have hgt := (hR.lt : r + 1 < Wq1.heap.size)
  have M : MidT w (Wq1.alloc (.cells #[i64 q1.1.1, i64 0, i64 0, i64 0] 49)) r Wq1.heap.size w.heap.size q1.2 #[i64 q1.1.1, i64 0, i64 0, i64 0] := ⟨hR.later hlt hB1, Nat.lt_of_lt_of_le hlt hB1.size, heap_alloc_new Wq1 _, by rw [hB1.block _ (Array.getElem?_eq_some_iff.1 hr1).1, hr1], below_on hbw (Nat.le_refl _) hB1, Nat.le_refl _, hrw, hgt⟩
  clear hbw hr1 hR hB1 hlt hgt
  generalize hW4 : Wq1.alloc (.cells #[i64 q1.1.1, i64 0, i64 0, i64 0] 49) = W4 at M
  have HW4 := Lib.hid hW4
  clear hW4
  have hC := rnum_c (r + 1) r (q1.2).1 (q1.2).2 _ M.rd M.lt (by omega)
  have l2 : (numRd (q1.2).1 (q1.2).2).2.2.length ≤ 60000 := Nat.le_trans (numRd_left (q1.2).1 (q1.2).2).1 l1
  obtain ⟨q2, hq⟩ : ∃ q, numRd (q1.2).1 (q1.2).2 = q := ⟨_, rfl⟩
  rw [hq] at hC l2
  have Hq2 := Lib.hid hq
  clear hq
  go_wp2_with fail
  rw [HW4.out]
  clear HW4
  generalize Wq1.heap.size = q at *
  refine hC.mono ?_
  rintro e Wq2 ⟨rfl, hR, hG⟩
  clear hC
  have M := M.call (s' := q2.2) hR hG
  clear hR hG
  have k1 := cell_of_row _ q 1 _ _ (0, 0) M.row
  have f1 := frozen_of_row _ q 1 _ _ M.row
  simp only [List.getElem?_toArray, List.getElem?_cons_zero, List.getElem?_cons_succ] at k1
  have M := (M.store 1 (i64 q2.1.1))
  simp only [List.setIfInBounds_toArray, List.set_cons_succ, List.set_cons_zero] at M
  have hC := rnum_c (r + 1) r (q2.2).1 (q2.2).2 _ M.rd M.lt (by omega)
  have l3 : (numRd (q2.2).1 (q2.2).2).2.2.length ≤ 60000 := Nat.le_trans (numRd_left (q2.2).1 (q2.2).2).1 l2
  obtain ⟨q3, hq⟩ : ∃ q, numRd (q2.2).1 (q2.2).2 = q := ⟨_, rfl⟩
  rw [hq] at hC l3
  have Hq3 := Lib.hid hq
  clear hq
  go_wp2_with fail
  clear k1 f1
  refine hC.mono ?_
  rintro e Wq3 ⟨rfl, hR, hG⟩
  clear hC
  have M := M.call (s' := q3.2) hR hG
  clear hR hG
  have k2 := cell_of_row _ q 2 _ _ (0, 0) M.row
  have f2 := frozen_of_row _ q 2 _ _ M.row
  simp only [List.getElem?_toArray, List.getElem?_cons_zero, List.getElem?_cons_succ] at k2
  have M := (M.store 2 (i64 q3.1.1))
  simp only [List.setIfInBounds_toArray, List.set_cons_succ, List.set_cons_zero] at M
  have hC := rnum_c (r + 1) r (q3.2).1 (q3.2).2 _ M.rd M.lt (by omega)
  have l4 : (numRd (q3.2).1 (q3.2).2).2.2.length ≤ 60000 := Nat.le_trans (numRd_left (q3.2).1 (q3.2).2).1 l3
  obtain ⟨q4, hq⟩ : ∃ q, numRd (q3.2).1 (q3.2).2 = q := ⟨_, rfl⟩
  rw [hq] at hC l4
  have Hq4 := Lib.hid hq
  clear hq
  go_wp2_with fail
  clear k2 f2
  refine hC.mono ?_
  rintro e Wq4 ⟨rfl, hR, hG⟩
  clear hC
  have M := M.call (s' := q4.2) hR hG
  clear hR hG
  have k3 := cell_of_row _ q 3 _ _ (0, 0) M.row
  have f3 := frozen_of_row _ q 3 _ _ M.row
  simp only [List.getElem?_toArray, List.getElem?_cons_zero, List.getElem?_cons_succ] at k3
  have M := (M.store 3 (i64 q4.1.1))
  simp only [List.setIfInBounds_toArray, List.set_cons_succ, List.set_cons_zero] at M
  have hC := done_c (r + 1) r q4.2.1 q4.2.2 _ M.rd M.lt (by omega)
  obtain ⟨d, hq⟩ : ∃ q, doneRd q4.2.1 q4.2.2 = q := ⟨_, rfl⟩
  rw [hq] at hC
  have Hd := Lib.hid hq
  clear hq
  go_wp2_with fail
  clear k3 f3
  refine hC.mono ?_
  rintro e WD ⟨rfl, hR, hG⟩
  clear hC
  have M := M.call (s' := d.2) hR hG
  clear hR hG
  have hraw : rawT l = ⟨q1.1.1, q2.1.1, q3.1.1, q4.1.1⟩ ∧ doneRd (tq4 l).2.1 (tq4 l).2.2 = d := by
    have e1 : tq1 l = q1 := Hq1.out
    have e2 : tq2 l = q2 := by unfold tq2; rw [e1]; exact Hq2.out
    have e3 : tq3 l = q3 := by unfold tq3; rw [e2]; exact Hq3.out
    have e4 : tq4 l = q4 := by unfold tq4; rw [e3]; exact Hq4.out
    refine ⟨?_, by rw [e4]; exact Hd.out⟩
    unfold rawT
    rw [e1, e2, e3, e4]
  have Hraw := Lib.hid hraw
  clear hraw Hq1 Hq2 Hq3 Hq4 Hd
  have k0 := cell_of_row _ q 0 _ _ (0, 0) M.row
  have k1 := cell_of_row _ q 1 _ _ (0, 0) M.row
  have k2 := cell_of_row _ q 2 _ _ (0, 0) M.row
  have k3 := cell_of_row _ q 3 _ _ (0, 0) M.row
  simp only [List.getElem?_toArray, List.getElem?_cons_zero, List.getElem?_cons_succ] at k0 k1 k2 k3
  by_cases hd : d.1 = 0
  · have g1 : (d.1 != 0) = false := by rw [hd]; rfl
    have HrO := Lib.hid (show toldOk l = true by unfold toldOk; rw [Hraw.out.2]; exact decide_eq_true hd)
    clear hd
    have hRow := setRow_heap WD w.heap.size _ #[i64 q1.1.1, i64 q2.1.1, i64 q3.1.1, i64 q4.1.1] _ _ M.res
    have HRow := Lib.hid hRow
    have HRes := Lib.hid M.res
    have HBw := Lib.hid (M.bel.trans (⟨rfl, rfl, rfl, by simp, fun k hk => setRow_other _ _ _ _ (by omega)⟩ : Below w.heap.size WD (WD.setRow w.heap.size #[i64 q1.1.1, i64 q2.1.1, i64 q3.1.1, i64 q4.1.1])))
    clear hRow
    go_wp2_with (refine wpList_store_row rfl 49 (.tmp 2) (.tmp 36) rfl w.heap.size #[i64 q1.1.1, i64 q2.1.1, i64 q3.1.1, i64 q4.1.1] rfl rfl 49 #[i64 0, i64 0, i64 0, i64 0] HRes.out (by kernel_rfl) rfl (by simp [Value.oneCell']) ?_)
    (try simp only [Exit.inBlock, Exit.then]); refine bodyPost_ret (results_cell_row_tmp rfl _ _ w.heap.size 49 _ (0, 0) _ rfl HRow.out Try.underlying49 rfl (by kernel_rfl)) rfl ?_
    exact ⟨by unfold readT toldE; rw [HrO.out]; simp only [Hraw.out.1, if_true]; rfl, HBw.out⟩
  · have g1 : (d.1 != 0) = true := by simpa using hd
    have HrO := Lib.hid (show toldOk l = false by unfold toldOk; rw [Hraw.out.2]; exact decide_eq_false hd)
    clear hd
    have hRow := setRow_heap WD w.heap.size _ #[i64 0, i64 0, i64 0, i64 0] _ _ M.res
    have HRow := Lib.hid hRow
    have HRes := Lib.hid M.res
    have HBw := Lib.hid (M.bel.trans (⟨rfl, rfl, rfl, by simp, fun k hk => setRow_other _ _ _ _ (by omega)⟩ : Below w.heap.size WD (WD.setRow w.heap.size #[i64 0, i64 0, i64 0, i64 0])))
    clear hRow
    go_wp2_with (refine wpList_store_row rfl 49 (.tmp 2) (.tmp 35) rfl w.heap.size #[i64 0, i64 0, i64 0, i64 0] rfl rfl 49 #[i64 0, i64 0, i64 0, i64 0] HRes.out (by kernel_rfl) rfl (by simp [Value.oneCell']) ?_)
    (try simp only [Exit.inBlock, Exit.then]); refine bodyPost_ret (results_cell_row_tmp rfl _ _ w.heap.size 49 _ (0, 0) _ rfl HRow.out Try.underlying49 rfl (by kernel_rfl)) rfl ?_
    exact ⟨by unfold readT toldE; rw [HrO.out]; rfl, HBw.out⟩
end Go.Proofs.Ytogecfddkohigaa
