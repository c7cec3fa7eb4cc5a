/- Texts of this claim, laid together: Open, Shut, OpenRO, AppendG, SlLeg, SlJ, CmpI, SortF, Coins, Chart. -/
import Derived.Test.YtgholbeehkfbiaaGreatRows
import Derived.Test.YtgholbeehkfbiaaGreatBm9
import Derived.WalkKit
import Derived.WalkSpells
import Derived.WalkLawsBesides
import Derived.Deep.QuietTactic
import Derived.BigQuiet
import Derived.Laws.StructEq
import Derived.Deep.DeepFit
import Derived.StillTailTactics
import Derived.Test.YtgholbeehkfbiaaGreatBm7
import Derived.Test.YtgholbeehkfbiaaGreatBm1
import Derived.Test.YtgholbeehkfbiaaGreatBm2
import Derived.Test.YtgholbeehkfbiaaGreatBm8
import Derived.Deep.RegionHeld3
import Derived.Shelf.SlSortCmp.WholeK
import Derived.Shelf.SlSortCmp.NoneTotal
import Derived.Test.YtgholbeehkfbiaaGreatBm3
import Derived.Test.YtgholbeehkfbiaaGreatBm4
import Derived.Laws.ResultCell

/- Arguments as data: an order, as the statement reads it -/
namespace Go.Proofs.YtgholbeehkfbiaaGreat
open Go.RowKit
open Go.ChangeShapes Go.WideShapes Go.Deep
set_option maxRecDepth 100000 in
set_option maxHeartbeats 1000000 in
theorem cellsLeg : Tryz.prog.cellsOf 173 = 2 := by kernel_rfl
set_option maxRecDepth 100000 in
set_option maxHeartbeats 1000000 in
theorem cellsOd : Tryz.prog.cellsOf 37 = 10 := by kernel_rfl
set_option maxRecDepth 100000 in
set_option maxHeartbeats 1000000 in
theorem cellsId : Tryz.prog.cellsOf 34 = 2 := by kernel_rfl
set_option maxRecDepth 100000 in
set_option maxHeartbeats 1000000 in
theorem cellsS : Tryz.prog.cellsOf 9 = 1 := by kernel_rfl
set_option maxRecDepth 100000 in
set_option maxHeartbeats 1000000 in
theorem cellsN : Tryz.prog.cellsOf 3 = 1 := by kernel_rfl
set_option maxRecDepth 100000 in
set_option maxHeartbeats 1000000 in
theorem cellsJ : Tryz.prog.cellsOf 2 = 1 := by kernel_rfl
set_option maxRecDepth 100000 in
set_option maxHeartbeats 1000000 in
theorem cellsLs : Tryz.prog.cellsOf 35 = 1 := by kernel_rfl
set_option maxRecDepth 100000 in
set_option maxHeartbeats 1000000 in
theorem reads_leg : Reads Leg Tryz.prog 173 := fun _ _ _ _ _ _ _ cs _ h => by
  obtain ⟨xs, n, _, _, hl, hlen, hf⟩ := DataW.trod_struct Tryz.underlying173 h
  rw [cellsLeg] at hl
  match cs, hl with
  | [c0, c1], _ =>
    have h0 : DataW.trod _ Tryz.prog _ _ _ _ n 9 ((([c0, c1] : List Value).drop 0).take (Tryz.prog.cellsOf 9)) = xs[0]? := hf 0 _ rfl
    have h1 : DataW.trod _ Tryz.prog _ _ _ _ n 2 ((([c0, c1] : List Value).drop 1).take (Tryz.prog.cellsOf 2)) = xs[1]? := hf 1 _ rfl
    simp only [cellsS, cellsJ, List.drop_succ_cons, List.drop_zero, List.take_succ_cons, List.take_zero] at h0 h1
    rw [List.getElem?_eq_getElem (by rw [hlen]; decide)] at h0 h1
    obtain ⟨s, e0, _, hs⟩ := DataW.trod_string Tryz.underlying9 h0
    obtain ⟨m, e1, _, _⟩ := DataW.trod_int Tryz.underlying2 h1
    injection e0 with e0
    injection e1 with e1
    subst e0 e1
    exact ⟨⟨s, m⟩, rfl, hs⟩
set_option maxRecDepth 100000 in
set_option maxHeartbeats 1000000 in
theorem reads_od : Reads Od Tryz.prog 37 := fun _ _ _ _ _ _ _ cs _ h => by
  obtain ⟨xs, n, _, _, hl, hlen, hf⟩ := DataW.trod_struct Tryz.underlying37 h
  rw [cellsOd] at hl
  match cs, hl with
  | [c0, c1, c2, c3, c4, c5, c6, c7, c8, c9], _ =>
    have h0 : DataW.trod _ Tryz.prog _ _ _ _ n 34 ((([c0, c1, c2, c3, c4, c5, c6, c7, c8, c9] : List Value).drop 0).take (Tryz.prog.cellsOf 34)) = xs[0]? := hf 0 _ rfl
    have h1 : DataW.trod _ Tryz.prog _ _ _ _ n 3 ((([c0, c1, c2, c3, c4, c5, c6, c7, c8, c9] : List Value).drop 2).take (Tryz.prog.cellsOf 3)) = xs[1]? := hf 1 _ rfl
    have h2 : DataW.trod _ Tryz.prog _ _ _ _ n 9 ((([c0, c1, c2, c3, c4, c5, c6, c7, c8, c9] : List Value).drop 3).take (Tryz.prog.cellsOf 9)) = xs[2]? := hf 2 _ rfl
    have h3 : DataW.trod _ Tryz.prog _ _ _ _ n 9 ((([c0, c1, c2, c3, c4, c5, c6, c7, c8, c9] : List Value).drop 4).take (Tryz.prog.cellsOf 9)) = xs[3]? := hf 3 _ rfl
    have h4 : DataW.trod _ Tryz.prog _ _ _ _ n 2 ((([c0, c1, c2, c3, c4, c5, c6, c7, c8, c9] : List Value).drop 5).take (Tryz.prog.cellsOf 2)) = xs[4]? := hf 4 _ rfl
    have h5 : DataW.trod _ Tryz.prog _ _ _ _ n 35 ((([c0, c1, c2, c3, c4, c5, c6, c7, c8, c9] : List Value).drop 6).take (Tryz.prog.cellsOf 35)) = xs[5]? := hf 5 _ rfl
    have h6 : DataW.trod _ Tryz.prog _ _ _ _ n 3 ((([c0, c1, c2, c3, c4, c5, c6, c7, c8, c9] : List Value).drop 7).take (Tryz.prog.cellsOf 3)) = xs[6]? := hf 6 _ rfl
    have h7 : DataW.trod _ Tryz.prog _ _ _ _ n 3 ((([c0, c1, c2, c3, c4, c5, c6, c7, c8, c9] : List Value).drop 8).take (Tryz.prog.cellsOf 3)) = xs[7]? := hf 7 _ rfl
    have h8 : DataW.trod _ Tryz.prog _ _ _ _ n 9 ((([c0, c1, c2, c3, c4, c5, c6, c7, c8, c9] : List Value).drop 9).take (Tryz.prog.cellsOf 9)) = xs[8]? := hf 8 _ rfl
    simp only [cellsS, cellsJ, cellsN, cellsId, cellsLs, List.drop_succ_cons, List.drop_zero, List.take_succ_cons, List.take_zero] at h0 h1 h2 h3 h4 h5 h6 h7 h8
    rw [List.getElem?_eq_getElem (by rw [hlen]; decide)] at h0 h1 h2 h3 h4 h5 h6 h7 h8
    obtain ⟨ys, n', _, _, _, hlen', hf'⟩ := DataW.trod_struct Tryz.underlying34 h0
    have g0 : DataW.trod _ Tryz.prog _ _ _ _ n' 3 ((([c0, c1] : List Value).drop 0).take (Tryz.prog.cellsOf 3)) = ys[0]? := hf' 0 _ rfl
    have g1 : DataW.trod _ Tryz.prog _ _ _ _ n' 3 ((([c0, c1] : List Value).drop 1).take (Tryz.prog.cellsOf 3)) = ys[1]? := hf' 1 _ rfl
    simp only [cellsN, List.drop_succ_cons, List.drop_zero, List.take_succ_cons, List.take_zero] at g0 g1
    rw [List.getElem?_eq_getElem (by rw [hlen']; decide)] at g0 g1
    obtain ⟨v0, e0, _, _⟩ := DataW.trod_int Tryz.underlying3 g0
    obtain ⟨v1, e1, _, _⟩ := DataW.trod_int Tryz.underlying3 g1
    obtain ⟨v2, e2, _, _⟩ := DataW.trod_int Tryz.underlying3 h1
    obtain ⟨v3, e3, _, s3⟩ := DataW.trod_string Tryz.underlying9 h2
    obtain ⟨v4, e4, _, s4⟩ := DataW.trod_string Tryz.underlying9 h3
    obtain ⟨v5, e5, _, _⟩ := DataW.trod_int Tryz.underlying2 h4
    obtain ⟨A, c, l, e6, s6⟩ := reads_slice Tryz.underlying35 cellsLeg (by decide) reads_leg h5
    obtain ⟨v7, e7, _, _⟩ := DataW.trod_int Tryz.underlying3 h6
    obtain ⟨v8, e8, _, _⟩ := DataW.trod_int Tryz.underlying3 h7
    obtain ⟨v9, e9, _, s9⟩ := DataW.trod_string Tryz.underlying9 h8
    injection e0 with e0
    injection e1 with e1
    injection e2 with e2
    injection e3 with e3
    injection e4 with e4
    injection e5 with e5
    injection e6 with e6
    injection e7 with e7
    injection e8 with e8
    injection e9 with e9
    subst e0 e1 e2 e3 e4 e5 e6 e7 e8 e9
    exact ⟨⟨v0, v1, v2, v3, v4, v5, A, c, l, v7, v8, v9⟩, rfl, s3, s4, s9, s6⟩
end Go.Proofs.YtgholbeehkfbiaaGreat

/- What the frames of the statements use: the arguments opened -/
namespace Go.Proofs.YtgholbeehkfbiaaGreat
open Go.RowKit
open Go.ChangeShapes Go.WideShapes Go.Deep
section
variable {H : Type} {enc : TypeId × Value → H} {w : World} {base : Nat} {spare : Nat → Bool} {held : Bool} {r : Reach} {b0 : Nat} {v : Value} {d : DataW H} {p : List MemPlace}
set_option maxRecDepth 100000 in
set_option maxHeartbeats 1000000 in
theorem open_od (hv : Value.okWide Tryz.prog w r b0 37 v) (h : DataW.Trod enc Tryz.prog w base spare held 37 v d p) : ∃ x : Od, v = x.v ∧ Okb w w.heap.size x := by
  obtain ⟨cs, rfl, _⟩ := okWide_struct Tryz.underlying37 hv
  obtain ⟨fuel, hf⟩ := h
  obtain ⟨x, hx, hok⟩ := reads_od _ _ _ _ _ _ _ _ _ hf
  refine ⟨x, ?_, hok⟩
  have hx2 : cs.toList = Od.cells x := hx
  rw [← Array.toArray_toList (xs := cs), hx2]
  rfl
set_option maxRecDepth 100000 in
set_option maxHeartbeats 1000000 in
theorem open_ods (hv : Value.okWide Tryz.prog w r b0 22 v) (h : DataW.Trod enc Tryz.prog w base spare held 22 v d p) : ∃ A c, ∃ l : List Od, v = .slice A l.length c ∧ Sl w w.heap.size A c l := by
  obtain ⟨a, len, cap, rfl⟩ := okWide_slice Tryz.underlying22 hv
  obtain ⟨fuel, hf⟩ := h
  obtain ⟨A, c, l, hx, hs⟩ := reads_slice Tryz.underlying22 cellsOd (by decide) reads_od hf
  have hx2 : [Value.slice a len cap] = [.slice A l.length c] := hx
  injection hx2 with hx3
  exact ⟨A, c, l, hx3, hs⟩
end
end Go.Proofs.YtgholbeehkfbiaaGreat

/- Arguments as data, with their ranges: an order, orders -/
namespace Go.Proofs.YtgholbeehkfbiaaGreat
open Go.RowKit
open Go.ChangeShapes Go.WideShapes Go.Deep
theorem R64.of_wf {n : Int} (h : (Lit.int .i64 n).wf = true) : R64 n := by
  simpa [Lit.wf, IntKind.min, IntKind.max, IntKind.signed, IntKind.bits, R64] using h
/-- whatever reads as a datum of type t is one of α's, and Q -/
def ReadsQ (α : Type) [Enc α] (Q : α → Prop) (P : Program) (t : TypeId) : Prop :=
  ∀ (H : Type) (enc : TypeId × Value → H) (w : World) (base : Nat) (spare : Nat → Bool) (held : Bool) (fuel : Nat) (cs : List Value) (x : DataW H × List MemPlace), DataW.trod enc P w base spare held fuel t cs = some x → ∃ a : α, cs = Enc.cells a ∧ Okb w w.heap.size a ∧ Q a
section
variable {α : Type} [Enc α] {P : Program}
set_option maxRecDepth 100000 in
set_option maxHeartbeats 1000000 in
theorem readsQ_slice {Q : α → Prop} {t e : TypeId} (ht : P.underlying t = some (.slice e)) (hC : P.cellsOf e = Enc.size α) (hsz : 0 < Enc.size α) (hr : ReadsQ α Q P e) {H : Type} {enc : TypeId × Value → H} {w : World} {base : Nat} {spare : Nat → Bool} {held : Bool} {fuel : Nat} {cs : List Value} {x : DataW H × List MemPlace}
    (h : DataW.trod enc P w base spare held fuel t cs = some x) : ∃ A c, ∃ l : List α, cs = [.slice A l.length c] ∧ Sl w w.heap.size A c l ∧ ∀ y ∈ l, Q y := by
  rcases open_slice ht h with ⟨rfl, _⟩ | ⟨a, len, cap, m, n, D, Pl, rfl, hb, hl, hm, hmm, _, hi⟩
  · exact ⟨none, 0, [], rfl, SlS.nil_ _ _, by simp⟩
  · have hlm : len ≤ m := by rw [hmm]; split <;> omega
    obtain ⟨l, hll, hq⟩ := list_choose (Q := fun i (y : α) => ((∀ j, j < Enc.size α → w.cell? ((a.add (i * Enc.size α)).add j) = (Enc.cells y)[j]?) ∧ Okb w w.heap.size y) ∧ Q y) len (fun i hil => by
      obtain ⟨cs', hc, ht'⟩ := hi i (by omega)
      rw [hC] at hc
      obtain ⟨y, rfl, hy, hQ⟩ := hr _ _ _ _ _ _ _ _ _ ht'
      exact ⟨y, ⟨(World.cells?_some hc).2.2, hy⟩, hQ⟩)
    subst hll
    have hqq : ∀ y ∈ l, Q y := fun y hy => by obtain ⟨i, hi, rfl⟩ := List.getElem_of_mem hy; exact (hq i hi).2
    have hq := fun i hi => (hq i hi).1
    refine ⟨some a, cap, l, rfl, ⟨hl, hm, fun hn => ?_, fun y hy => ?_⟩, hqq⟩
    · obtain ⟨b, o, s⟩ := a
      have hc := fun i (hi : i < l.length) j (hj : j < Enc.size α) => (hq i hi).1 j hj
      have h0 := hc 0 hn 0 hsz
      rw [List.getElem?_eq_getElem (by rw [Enc.len]; exact hsz)] at h0
      rw [Nat.zero_mul, add_zero_, add_zero_] at h0
      have hs : s = none := World.cell?_spot h0
      subst hs
      have hlt := World.block_lt_of_cell? w _ h0
      refine ⟨b, o, rfl, hlt, fun j u hu => ?_⟩
      have hj := (List.getElem?_eq_some_iff.1 hu).1
      rw [flat_len] at hj
      have hjk : j / Enc.size α < l.length := by rw [Nat.div_lt_iff_lt_mul hsz]; exact hj
      have hjm : j % Enc.size α < Enc.size α := Nat.mod_lt _ hsz
      have e1 : j / Enc.size α * Enc.size α + j % Enc.size α = j := by rw [Nat.mul_comm]; exact Nat.div_add_mod _ _
      have h1 := hc _ hjk _ hjm
      rw [← flat_get l _ _ hjk hjm, e1, hu] at h1
      rw [add_none, add_none, Nat.add_assoc, e1] at h1
      exact h1
    · obtain ⟨i, hi, rfl⟩ := List.getElem_of_mem hy
      exact (hq i hi).2
end
set_option maxRecDepth 100000 in
set_option maxHeartbeats 1000000 in
theorem readsQ_leg : ReadsQ Leg (fun y => R64 y.sum) Tryz.prog 173 := fun _ _ _ _ _ _ _ cs _ h => by
  obtain ⟨xs, n, _, _, hl, hlen, hf⟩ := DataW.trod_struct Tryz.underlying173 h
  rw [cellsLeg] at hl
  match cs, hl with
  | [c0, c1], _ =>
    have h0 : DataW.trod _ Tryz.prog _ _ _ _ n 9 ((([c0, c1] : List Value).drop 0).take (Tryz.prog.cellsOf 9)) = xs[0]? := hf 0 _ rfl
    have h1 : DataW.trod _ Tryz.prog _ _ _ _ n 2 ((([c0, c1] : List Value).drop 1).take (Tryz.prog.cellsOf 2)) = xs[1]? := hf 1 _ rfl
    simp only [cellsS, cellsJ, List.drop_succ_cons, List.drop_zero, List.take_succ_cons, List.take_zero] at h0 h1
    rw [List.getElem?_eq_getElem (by rw [hlen]; decide)] at h0 h1
    obtain ⟨s, e0, _, hs⟩ := DataW.trod_string Tryz.underlying9 h0
    obtain ⟨m, e1, _, hm⟩ := DataW.trod_int Tryz.underlying2 h1
    injection e0 with e0
    injection e1 with e1
    subst e0 e1
    exact ⟨⟨s, m⟩, rfl, hs, R64.of_wf hm⟩
set_option maxRecDepth 100000 in
set_option maxHeartbeats 1000000 in
theorem readsQ_od : ReadsQ Od InR Tryz.prog 37 := fun _ _ _ _ _ _ _ cs _ h => by
  obtain ⟨xs, n, _, _, hl, hlen, hf⟩ := DataW.trod_struct Tryz.underlying37 h
  rw [cellsOd] at hl
  match cs, hl with
  | [c0, c1, c2, c3, c4, c5, c6, c7, c8, c9], _ =>
    have h0 : DataW.trod _ Tryz.prog _ _ _ _ n 34 ((([c0, c1, c2, c3, c4, c5, c6, c7, c8, c9] : List Value).drop 0).take (Tryz.prog.cellsOf 34)) = xs[0]? := hf 0 _ rfl
    have h1 : DataW.trod _ Tryz.prog _ _ _ _ n 3 ((([c0, c1, c2, c3, c4, c5, c6, c7, c8, c9] : List Value).drop 2).take (Tryz.prog.cellsOf 3)) = xs[1]? := hf 1 _ rfl
    have h2 : DataW.trod _ Tryz.prog _ _ _ _ n 9 ((([c0, c1, c2, c3, c4, c5, c6, c7, c8, c9] : List Value).drop 3).take (Tryz.prog.cellsOf 9)) = xs[2]? := hf 2 _ rfl
    have h3 : DataW.trod _ Tryz.prog _ _ _ _ n 9 ((([c0, c1, c2, c3, c4, c5, c6, c7, c8, c9] : List Value).drop 4).take (Tryz.prog.cellsOf 9)) = xs[3]? := hf 3 _ rfl
    have h4 : DataW.trod _ Tryz.prog _ _ _ _ n 2 ((([c0, c1, c2, c3, c4, c5, c6, c7, c8, c9] : List Value).drop 5).take (Tryz.prog.cellsOf 2)) = xs[4]? := hf 4 _ rfl
    have h5 : DataW.trod _ Tryz.prog _ _ _ _ n 35 ((([c0, c1, c2, c3, c4, c5, c6, c7, c8, c9] : List Value).drop 6).take (Tryz.prog.cellsOf 35)) = xs[5]? := hf 5 _ rfl
    have h6 : DataW.trod _ Tryz.prog _ _ _ _ n 3 ((([c0, c1, c2, c3, c4, c5, c6, c7, c8, c9] : List Value).drop 7).take (Tryz.prog.cellsOf 3)) = xs[6]? := hf 6 _ rfl
    have h7 : DataW.trod _ Tryz.prog _ _ _ _ n 3 ((([c0, c1, c2, c3, c4, c5, c6, c7, c8, c9] : List Value).drop 8).take (Tryz.prog.cellsOf 3)) = xs[7]? := hf 7 _ rfl
    have h8 : DataW.trod _ Tryz.prog _ _ _ _ n 9 ((([c0, c1, c2, c3, c4, c5, c6, c7, c8, c9] : List Value).drop 9).take (Tryz.prog.cellsOf 9)) = xs[8]? := hf 8 _ rfl
    simp only [cellsS, cellsJ, cellsN, cellsId, cellsLs, List.drop_succ_cons, List.drop_zero, List.take_succ_cons, List.take_zero] at h0 h1 h2 h3 h4 h5 h6 h7 h8
    rw [List.getElem?_eq_getElem (by rw [hlen]; decide)] at h0 h1 h2 h3 h4 h5 h6 h7 h8
    obtain ⟨ys, n', _, _, _, hlen', hf'⟩ := DataW.trod_struct Tryz.underlying34 h0
    have g0 : DataW.trod _ Tryz.prog _ _ _ _ n' 3 ((([c0, c1] : List Value).drop 0).take (Tryz.prog.cellsOf 3)) = ys[0]? := hf' 0 _ rfl
    have g1 : DataW.trod _ Tryz.prog _ _ _ _ n' 3 ((([c0, c1] : List Value).drop 1).take (Tryz.prog.cellsOf 3)) = ys[1]? := hf' 1 _ rfl
    simp only [cellsN, List.drop_succ_cons, List.drop_zero, List.take_succ_cons, List.take_zero] at g0 g1
    rw [List.getElem?_eq_getElem (by rw [hlen']; decide)] at g0 g1
    obtain ⟨v0, e0, _, q0⟩ := DataW.trod_int Tryz.underlying3 g0
    obtain ⟨v1, e1, _, q1⟩ := DataW.trod_int Tryz.underlying3 g1
    obtain ⟨v2, e2, _, q2⟩ := DataW.trod_int Tryz.underlying3 h1
    obtain ⟨v3, e3, _, s3⟩ := DataW.trod_string Tryz.underlying9 h2
    obtain ⟨v4, e4, _, s4⟩ := DataW.trod_string Tryz.underlying9 h3
    obtain ⟨v5, e5, _, q5⟩ := DataW.trod_int Tryz.underlying2 h4
    obtain ⟨A, c, l, e6, s6, q6⟩ := readsQ_slice Tryz.underlying35 cellsLeg (by decide) readsQ_leg h5
    obtain ⟨v7, e7, _, q7⟩ := DataW.trod_int Tryz.underlying3 h6
    obtain ⟨v8, e8, _, q8⟩ := DataW.trod_int Tryz.underlying3 h7
    obtain ⟨v9, e9, _, s9⟩ := DataW.trod_string Tryz.underlying9 h8
    injection e0 with e0
    injection e1 with e1
    injection e2 with e2
    injection e3 with e3
    injection e4 with e4
    injection e5 with e5
    injection e6 with e6
    injection e7 with e7
    injection e8 with e8
    injection e9 with e9
    subst e0 e1 e2 e3 e4 e5 e6 e7 e8 e9
    exact ⟨⟨v0, v1, v2, v3, v4, v5, A, c, l, v7, v8, v9⟩, rfl, ⟨s3, s4, s9, s6⟩, R64.of_wf q0, R64.of_wf q1, R64.of_wf q2, R64.of_wf q5, R64.of_wf q7, R64.of_wf q8, q6⟩
section
variable {H : Type} {enc : TypeId × Value → H} {w : World} {base : Nat} {spare : Nat → Bool} {held : Bool} {r : Reach} {b0 : Nat} {v : Value} {d : DataW H} {p : List MemPlace}
set_option maxRecDepth 100000 in
set_option maxHeartbeats 1000000 in
theorem open_odR (hv : Value.okWide Tryz.prog w r b0 37 v) (h : DataW.Trod enc Tryz.prog w base spare held 37 v d p) : ∃ x : Od, v = x.v ∧ Okb w w.heap.size x ∧ InR x := by
  obtain ⟨cs, rfl, _⟩ := okWide_struct Tryz.underlying37 hv
  obtain ⟨fuel, hf⟩ := h
  obtain ⟨x, hx, hok, hq⟩ := readsQ_od _ _ _ _ _ _ _ _ _ hf
  refine ⟨x, ?_, hok, hq⟩
  have hx2 : cs.toList = Od.cells x := hx
  rw [← Array.toArray_toList (xs := cs), hx2]
  rfl
set_option maxRecDepth 100000 in
set_option maxHeartbeats 1000000 in
theorem open_odsR (hv : Value.okWide Tryz.prog w r b0 22 v) (h : DataW.Trod enc Tryz.prog w base spare held 22 v d p) : ∃ A c, ∃ l : List Od, v = .slice A l.length c ∧ Sl w w.heap.size A c l ∧ ∀ x ∈ l, InR x := by
  obtain ⟨a, len, cap, rfl⟩ := okWide_slice Tryz.underlying22 hv
  obtain ⟨fuel, hf⟩ := h
  obtain ⟨A, c, l, hx, hs, hq⟩ := readsQ_slice Tryz.underlying22 cellsOd (by decide) readsQ_od hf
  have hx2 : [Value.slice a len cap] = [.slice A l.length c] := hx
  injection hx2 with hx3
  exact ⟨A, c, l, hx3, hs, hq⟩
end
end Go.Proofs.YtgholbeehkfbiaaGreat

/- append of a slice behind a guard that is met -/
namespace Go.Proofs.YtgholbeehkfbiaaGreat
open Go.RowKit
section
variable {α : Type} [Enc α] {w : World} {base : Nat} {e : TypeId} {v : Value} {l : List α} {P : Program}
theorem wpList_append_guarded {ops : Array Oper} {rest : List Oper} {o : Oper} {a : Act} {Q : Exit → Act → World → Prop} (hgd : Region.wanted o (yielded ops a.tmps) = true) (d : Option Nat) (s x : Operand) (t : TypeId)
    (ho : o.op = .call { callee := .builtin .append, args := #[s, x], argTypes := #[t, t] }) (hd : o.dst = d) (z : Value) (bytes : Nat) (ht : P.underlying t = some (.slice e)) (hinf : (P.info? e).map (fun i => (i.zero, i.size, i.bytes)) = some (some z, Enc.size α, bytes)) (hzs : z.cells.size = Enc.size α) (hsz : 0 < Enc.size α) (hby : bytes ≤ 1000)
    (hs : a.eval s = v) (h : Own w base e v l) (A : Option Addr) (n c : Nat) (ys : List α) (hx : a.eval x = .slice A n c) (hn : n = ys.length) (hsl : SlS w (Oth w v) A c ys) (hlen : l.length + ys.length ≤ 4294967296) (hbase : base ≤ w.heap.size)
    (hK : ∀ v' w', Own w' base e v' (l ++ ys) → w.grownBy w' v.ownBlock → (v'.ownBlock = v.ownBlock ∨ v'.ownBlock = some w.heap.size) → wpList P ops Q rest (a.put d v') w') : wpList P ops Q (o :: rest) a w := by
  subst hd hn
  obtain ⟨v', w', hrun, h2, h3, h4⟩ := run_append_slice (P := P) t o.type z bytes ht hinf hzs hsz hby h A c ys hsl hlen hbase
  refine wpList_step fun K hk => ?_
  rw [if_pos hgd]
  unfold Oper.wp execOp
  simp only [ho, resolve, invoke, builtin, Sem.run_bind, Sem.run_pure, Result.andThen_ok, List.map_toArray, List.map_cons, List.map_nil, hs, hx, hrun]
  exact hk _ _ (hK v' w' h2 h3 h4)
/-- the same as one operation of a drawn region -/
theorem oper_append {o : Oper} {a : Act} {K : Act → World → Prop} {Q : Exit → Act → World → Prop} (s x : Operand) (t : TypeId)
    (ho : o.op = .call { callee := .builtin .append, args := #[s, x], argTypes := #[t, t] }) (z : Value) (bytes : Nat) (ht : P.underlying t = some (.slice e)) (hinf : (P.info? e).map (fun i => (i.zero, i.size, i.bytes)) = some (some z, Enc.size α, bytes)) (hzs : z.cells.size = Enc.size α) (hsz : 0 < Enc.size α) (hby : bytes ≤ 1000)
    (hs : a.eval s = v) (h : Own w base e v l) (A : Option Addr) (n c : Nat) (ys : List α) (hx : a.eval x = .slice A n c) (hn : n = ys.length) (hsl : SlS w (Oth w v) A c ys) (hlen : l.length + ys.length ≤ 4294967296) (hbase : base ≤ w.heap.size)
    (hK : ∀ v' w', Own w' base e v' (l ++ ys) → w.grownBy w' v.ownBlock → (v'.ownBlock = v.ownBlock ∨ v'.ownBlock = some w.heap.size) → K (a.put o.dst v') w') : Oper.wp P o a w K Q := by
  subst hn
  obtain ⟨v', w', hrun, h2, h3, h4⟩ := run_append_slice (P := P) t o.type z bytes ht hinf hzs hsz hby h A c ys hsl hlen hbase
  unfold Oper.wp execOp
  simp only [ho, resolve, invoke, builtin, Sem.run_bind, Sem.run_pure, Result.andThen_ok, List.map_toArray, List.map_cons, List.map_nil, hs, hx, hrun]
  exact hK v' w' h2 h3 h4
theorem oper_append_one {o : Oper} {a : Act} {K : Act → World → Prop} {Q : Exit → Act → World → Prop} (s x : Operand) (t : TypeId)
    (ho : o.op = .call { callee := .builtin .append, args := #[s, x], argTypes := #[t, t] }) (z : Value) (bytes : Nat) (ht : P.underlying t = some (.slice e)) (hinf : (P.info? e).map (fun i => (i.zero, i.size, i.bytes)) = some (some z, Enc.size α, bytes)) (hzs : z.cells.size = Enc.size α) (hsz : 0 < Enc.size α) (hby : bytes ≤ 1000)
    (hs : a.eval s = v) (h : Own w base e v l) (g : Nat) (y : α) (hx : a.eval x = .slice (some ⟨g, 0, none⟩) 1 1) (cs : Array Value) (te : TypeId) (hg : w.heap[g]? = some (.cells cs te (0, 0))) (hcs : cs.toList = Enc.cells y) (hne : some g ≠ v.ownBlock) (hy : Enc.ok w (Oth w v) y)
    (hlen : l.length + 1 ≤ 4294967296) (hbase : base ≤ w.heap.size)
    (hK : ∀ v' w', Own w' base e v' (l ++ [y]) → w.grownBy w' v.ownBlock → (v'.ownBlock = v.ownBlock ∨ v'.ownBlock = some w.heap.size) → K (a.put o.dst v') w') : Oper.wp P o a w K Q := by
  refine oper_append s x t ho z bytes ht hinf hzs hsz hby hs h (some ⟨g, 0, none⟩) 1 1 [y] hx rfl ⟨Nat.le_refl _, by simp [maxLen], fun _ => ⟨g, 0, rfl, ⟨(Array.getElem?_eq_some_iff.1 hg).1, hne⟩, fun j u hu => ?_⟩, fun x hx => ?_⟩ hlen hbase hK
  · rw [cell_of_row w g (0 + j) cs te (0, 0) hg, Nat.zero_add]
    simp only [List.flatMap_cons, List.flatMap_nil, List.append_nil, ← hcs] at hu
    simpa using hu
  · simp only [List.mem_singleton] at hx
    subst hx; exact hy
end
end Go.Proofs.YtgholbeehkfbiaaGreat

/- Clone, Grow, Concat at api.Leg -/
namespace Go.Proofs.YtgholbeehkfbiaaGreat
open Go.RowKit
theorem inf_leg : (Tryz.prog.info? 173).map (fun i => (i.zero, i.size, i.bytes)) = some (some (.agg #[.string ByteArray.empty, i64 0]), Enc.size Leg, 24) := by kernel_rfl

set_option maxRecDepth 100000 in
set_option maxHeartbeats 400000 in
theorem clone_leg (A : Option Addr) (c : Nat) (l : List Leg) (w : World) (h : Sl w w.heap.size A c l) (hn : l.length ≤ 65536) :
    Calls Tryz.prog 133 #[.slice A l.length c] w fun e w' => ∃ v, e = .returned v ∧ Own w' w.heap.size 173 v l ∧ Below w.heap.size w w' := by
  have hnil := fun W : World => Lib.run_eql_slice_nil (P := Tryz.prog) W 35 173 A l.length c 0 0 Tryz.underlying35
  cases A with
  | none =>
    have hl : l = [] := by
      rcases l with _ | ⟨x, r⟩
      · rfl
      · obtain ⟨_, _, h1, _⟩ := h.2.2.1 (by simp); cases h1
    subst hl
    simp only [Option.isNone_none, List.length_nil] at hnil
    go_enter Tryz.func133, Tryz.ntmps133
    go_wp2
    go_ret
    exact ⟨_, rfl, Own.nil_ _ _ _, Below.refl _ _⟩
  | some ad =>
    simp only [Option.isNone_some] at hnil
    have hO0 := own_lit (w := w) (base := w.heap.size) 173 #[] ([] : List Leg) (Nat.le_refl _) rfl (by simp) (by simp)
    have hbx := (Below.refl w.heap.size w).alloc (Nat.le_refl _) (.cells #[] 173)
    have hs := (h.below hbx).mono (hO0.oth (Nat.le_refl _) hbx.size)
    go_enter Tryz.func133, Tryz.ntmps133
    go_wp2_with (at_builtin; refine wpList_append_slice rfl (some 7) (.tmp 5) (.tmp 6) 35 rfl rfl (.agg #[.string ByteArray.empty, i64 0]) 24 Tryz.underlying35 inf_leg rfl (by decide) (by decide) rfl hO0 (some ad) l.length c l rfl rfl hs (by simp; omega) hbx.size ?_; intro v3 w3 hO3 hg3 hat3)
    go_ret
    exact ⟨_, rfl, by simpa using hO3, hbx.trans (hO0.below hg3 (Nat.le_refl _) hbx.size)⟩

end Go.Proofs.YtgholbeehkfbiaaGreat

/- Clone, Grow, Concat at int64 -/
namespace Go.Proofs.YtgholbeehkfbiaaGreat
open Go.RowKit
theorem inf_i64 : (Tryz.prog.info? 2).map (fun i => (i.zero, i.size, i.bytes)) = some (some (i64 0), Enc.size Int, 8) := by kernel_rfl

set_option maxRecDepth 100000 in
set_option maxHeartbeats 400000 in
theorem grow_i64 (n : Nat) (w : World) (hn : n ≤ 1000000000) :
    Calls Tryz.prog 143 #[.slice none 0 0, i64 n] w fun e w' => ∃ v, e = .returned v ∧ Own w' w.heap.size 2 v ([] : List Int) ∧ Below w.heap.size w w' := by
  rcases Nat.eq_zero_or_pos n with rfl | h0
  · go_enter Tryz.func143, Tryz.ntmps143
    go_wp2
    go_ret
    exact ⟨_, rfl, Own.nil_ _ _ _, Below.refl _ _⟩
  · obtain ⟨i, hi, hz, hz1, hz2⟩ := info_parts inf_i64
    have hrun := fun ty => Lib.run_append_nil_zeros (P := Tryz.prog) w 187 3 ty 2 i (i64 0) .i64 .i64 Tryz.underlying187 Tryz.underlying3 hi hz n h0 (by rw [hz1]; decide) (by omega) (by rw [hz2]; omega)
    have hO := own_room (α := Int) w.drew w.heap.size 2 (grownCap w n 0 2) (Builtin.zeroCells (Value.cells (i64 0)) n ++ Builtin.zeroCells (Value.cells (i64 0)) (grownCap w n 0 2 - n)) (Nat.le_refl _) (grownCap_le_maxLen w n 0 _ (by simp only [maxLen]; omega)) (by
      rw [Array.size_append, size_zeroCells, size_zeroCells, show (Value.cells (i64 0)).size = Enc.size Int from rfl, ← Nat.add_mul]
      have := grownCap_ge w n 0 2
      rw [Nat.add_sub_cancel' this])
    have hb := ((Below.refl w.heap.size w).drew).alloc (Nat.le_refl _) (.cells (Builtin.zeroCells (Value.cells (i64 0)) n ++ Builtin.zeroCells (Value.cells (i64 0)) (grownCap w n 0 2 - n)) 2)
    have HO := Lib.hid hO
    have Hb := Lib.hid hb
    have Hrun := Lib.hid hrun
    clear hO hb hrun hi hz hz1 hz2
    generalize (Builtin.zeroCells (Value.cells (i64 0)) n ++ Builtin.zeroCells (Value.cells (i64 0)) (grownCap w n 0 2 - n)) = Z at *
    generalize grownCap w n 0 2 = gc at *
    go_enter Tryz.func143, Tryz.ntmps143
    go_wp2_with (at_builtin; refine Lib.wpList_append_run _ rfl (.tmp 20) (.tmp 21) _ _ rfl _ _ rfl rfl _ _ (Hrun.out _) ?_)
    go_ret
    exact ⟨_, rfl, HO.out, Hb.out⟩

set_option maxRecDepth 100000 in
set_option maxHeartbeats 1000000 in
theorem concat_i64 (A : Option Addr) (c : Nat) (ss : List (SV Int)) (w : World) (h : Sl w w.heap.size A c ss) (hn : ss.length ≤ 65536) (ht : (ss.flatMap SV.l).length ≤ 65536) :
    Calls Tryz.prog 103 #[.slice A ss.length c] w fun e w' => ∃ v, e = .returned v ∧ Own w' w.heap.size 2 v (ss.flatMap SV.l) ∧ Below w.heap.size w w' := by
  have hpre : ∀ k, k ≤ ss.length → ((ss.take k).flatMap SV.l).length ≤ 65536 := fun k _ => by
    refine Nat.le_trans ?_ ht
    conv => rhs; rw [← List.take_append_drop k ss, List.flatMap_append, List.length_append]
    omega
  have hstep : ∀ k (hk : k < ss.length), (ss.take (k + 1)).flatMap SV.l = (ss.take k).flatMap SV.l ++ ss[k].l := fun k hk => by
    rw [List.take_succ_eq_append_getElem hk, List.flatMap_append]; simp
  have Hpre := Lib.hid hpre
  have Hstep := Lib.hid hstep
  clear hpre hstep
  go_enter Tryz.func103, Tryz.ntmps103
  go_wp2_with fail
  go_loop [3, 11] (fun sz i => ∃ k : Nat, k ≤ ss.length ∧ i = i64 k ∧ sz = i64 ((ss.take k).flatMap SV.l).length) (fun _ i => ss.length - (intOf i).toNat)
  case atStart => exact ⟨0, Nat.zero_le _, rfl, rfl⟩
  case round =>
    obtain ⟨k, hk, rfl, rfl⟩ := hrel
    have hpk := Hpre.out k hk
    by_cases hlt : k < ss.length
    · obtain ⟨b, o, rfl, hbb, -, d0⟩ := h.sv hlt
      have hpk1 := Hpre.out (k + 1) hlt
      have hl1 : ((ss.take (k + 1)).flatMap SV.l).length = ((ss.take k).flatMap SV.l).length + ss[k].l.length := by rw [Hstep.out k hlt, List.length_append]
      rw [hl1] at hpk1
      have Hl1 := Lib.hid hl1
      clear hl1
      generalize ((ss.take k).flatMap SV.l).length = p at *
      have hp1 : (p : Int) + (ss[k].l.length : Int) ≤ 65536 := by omega
      have hp0 : decide ((p : Int) + (ss[k].l.length : Int) < 0) = false := by rw [decide_eq_false_iff_not]; omega
      go_wp2
      go_round
      case rel => exact ⟨k + 1, by omega, by go_num, by rw [Hl1.out]; go_num⟩
      case measure => simp [intOf]; omega
    · obtain rfl : k = ss.length := by omega
      rw [List.take_length] at hpk ⊢
      clear ht
      generalize (ss.flatMap SV.l).length = q at *
      go_wp2_with fail
      refine (grow_i64 _ _ (by omega)).mono ?_
      rintro e w1 ⟨v1, rfl, hO1, hb1⟩
      go_wp2_with fail
      go_loopw [6, 27] (fun v i wr => ∃ k : Nat, k ≤ ss.length ∧ i = i64 k ∧ Own wr w.heap.size 2 v ((ss.take k).flatMap SV.l) ∧ Below w.heap.size w wr) (fun _ i _ => ss.length - (intOf i).toNat)
      case atStart => exact ⟨0, Nat.zero_le _, rfl, hO1, hb1⟩
      case round =>
        obtain ⟨k, hk, rfl, hO, hb⟩ := hrel
        have hpk2 := Hpre.out k hk
        by_cases hlt : k < ss.length
        · obtain ⟨b, o, rfl, hbb, hok, d0⟩ := (h.below hb).sv hlt
          have hs := hok.mono (hO.oth (Nat.le_refl _) hb.size)
          have hpk1 := Hpre.out (k + 1) hlt
          rw [Hstep.out k hlt, List.length_append] at hpk1
          have HO := Lib.hid hO
          have Hs := Lib.hid hs
          clear hok hs hO1 hb1 hO
          go_wp2_with (at_builtin; refine wpList_append_slice rfl (some 33) (.tmp 31) (.tmp 32) 187 rfl rfl (i64 0) 8 Tryz.underlying187 inf_i64 rfl (by decide) (by decide) rfl HO.out ss[k].a ss[k].l.length ss[k].c ss[k].l rfl rfl Hs.out (by omega) hb.size ?_; intro v3 w3 hO3 hg3 hat3)
          go_roundw
          case rel => exact ⟨k + 1, by omega, by go_num, by rw [Hstep.out k hlt]; exact hO3, hb.trans (HO.out.below hg3 (Nat.le_refl _) hb.size)⟩
          case measure => simp [intOf]; omega
        · obtain rfl : k = ss.length := by omega
          rw [List.take_length] at hO
          go_wp2
          go_ret
          exact ⟨_, rfl, hO, hb⟩
end Go.Proofs.YtgholbeehkfbiaaGreat

/- cmp.Compare, cmp.Or of ints -/
namespace Go.Proofs.YtgholbeehkfbiaaGreat
open Go.RowKit
def cmpI (s t : Int) : Int := if s < t then -1 else if t < s then 1 else 0
set_option maxRecDepth 100000 in
set_option maxHeartbeats 400000 in
theorem isNaNi_c (s : Int) (w : World) : Calls Tryz.prog 195 #[i64 s] w fun e w' => e = .returned (.bool false) ∧ w = w' := by
  go_enter Tryz.func195, Tryz.ntmps195
  go_wp2
  go_ret
  exact ⟨rfl, rfl⟩
set_option maxRecDepth 100000 in
set_option maxHeartbeats 2000000 in
theorem cmpI_c (s t : Int) (w : World) : Calls Tryz.prog 151 #[i64 s, i64 t] w fun e w' => e = .returned (i64 (cmpI s t)) ∧ w = w' := by
  have HC := Lib.hid (show cmpI s t = if s < t then -1 else if t < s then 1 else 0 from rfl)
  generalize cmpI s t = r at *
  go_enter Tryz.func151, Tryz.ntmps151
  go_wp2_with fail
  refine (isNaNi_c _ _).mono ?_
  rintro e w1 ⟨rfl, rfl⟩
  go_wp2_with fail
  refine (isNaNi_c _ _).mono ?_
  rintro e w1 ⟨rfl, rfl⟩
  by_cases h1 : s < t
  · have g1 : decide (s < t) = true := decide_eq_true h1
    have HR := Lib.hid (show r = -1 by rw [HC.out, if_pos h1])
    clear h1
    go_wp2
    go_ret
    exact ⟨by rw [HR.out]; rfl, rfl⟩
  · have g1 : decide (s < t) = false := decide_eq_false h1
    by_cases h2 : t < s
    · have g2 : decide (t < s) = true := decide_eq_true h2
      have HR := Lib.hid (show r = 1 by rw [HC.out, if_neg h1, if_pos h2])
      clear h1 h2
      go_wp2
      go_ret
      exact ⟨by rw [HR.out]; rfl, rfl⟩
    · have g2 : decide (t < s) = false := decide_eq_false h2
      have HR := Lib.hid (show r = 0 by rw [HC.out, if_neg h1, if_neg h2])
      clear h1 h2
      go_wp2
      go_ret
      exact ⟨by rw [HR.out]; rfl, rfl⟩
def orI (a b : Int) : Int := if a ≠ 0 then a else b
set_option maxRecDepth 100000 in
set_option maxHeartbeats 4000000 in
theorem orI_c (a b : Int) (g : Nat) (w : World) (h0 : w.cell? ⟨g, 0, none⟩ = some (i64 a)) (h1 : w.cell? ⟨g, 1, none⟩ = some (i64 b)) :
    Calls Tryz.prog 149 #[.slice (some ⟨g, 0, none⟩) 2 2] w fun e w' => e = .returned (i64 (orI a b)) ∧ w = w' := by
  have HC := Lib.hid (show orI a b = if a ≠ 0 then a else b from rfl)
  generalize orI a b = r at *
  go_enter Tryz.func149, Tryz.ntmps149
  go_wp2
  by_cases ha : a = 0
  · have HR := Lib.hid (show r = b by rw [HC.out, if_neg (by simpa using ha)])
    subst ha
    refine wp_loop_rounds 3 ?_
    rw [rounds_succ]
    by_cases hb : b = 0
    · have HR := Lib.hid (show r = 0 by rw [HR.out, hb])
      subst hb
      go_wp2
      rw [rounds_succ]
      go_wp2
      rw [rounds_succ]
      go_wp2
      go_ret
      exact ⟨by rw [HR.out]; rfl, rfl⟩
    · have g2 : (b != 0) = true := by simpa using hb
      clear hb
      go_wp2
      rw [rounds_succ]
      go_wp2
      go_ret
      exact ⟨by rw [HR.out]; rfl, rfl⟩
  · have g1 : (a != 0) = true := by simpa using ha
    have HR := Lib.hid (show r = a by rw [HC.out, if_pos ha])
    clear ha
    refine wp_loop_rounds 1 ?_
    rw [rounds_succ]
    go_wp2
    go_ret
    exact ⟨by rw [HR.out]; rfl, rfl⟩
end Go.Proofs.YtgholbeehkfbiaaGreat

/- slices.SortFunc of a row of the call's own, at structs. No program. -/
namespace Go.Proofs.YtgholbeehkfbiaaGreat
open Go.RowKit Go.Shelf Go.Sort

section
variable {α : Type} [Enc α] [Inhabited α]
theorem flatK_flat (l : List α) : (flatK Enc.cells (Enc.size α) l.toArray).toList = l.flatMap Enc.cells := by
  apply List.ext_getElem?
  intro t
  by_cases ht : t < l.length * Enc.size α
  · have hs : 0 < Enc.size α := by
      rcases Nat.eq_zero_or_pos (Enc.size α) with h | h
      · rw [h] at ht; simp at ht
      · exact h
    have h1 : t / Enc.size α < l.length := by rw [Nat.div_lt_iff_lt_mul hs]; exact ht
    have h2 : t % Enc.size α < Enc.size α := Nat.mod_lt _ hs
    have h3 : t < (flatK Enc.cells (Enc.size α) l.toArray).size := by simpa using ht
    have e1 : t / Enc.size α * Enc.size α + t % Enc.size α = t := by rw [Nat.mul_comm]; exact Nat.div_add_mod _ _
    have e2 := flat_get l _ _ h1 h2
    rw [e1] at e2
    rw [e2, Array.getElem?_toList, Array.getElem?_eq_getElem h3, ← getElem!_pos _ t h3, get_flatK _ _ _ _ (by simpa using ht)]
    rw [getElem!_pos l.toArray _ (by simpa using h1), getElem!_pos _ _ (by rw [Enc.len]; exact h2), List.getElem?_eq_getElem (by rw [Enc.len]; exact h2)]
    simp
  · rw [List.getElem?_eq_none (by rw [Array.length_toList]; simp; omega), List.getElem?_eq_none (by rw [flat_len]; omega)]
theorem putCells_take (F cur : Array Value) (h : F.size ≤ cur.size) : (putCells id 0 F cur).toList.take F.size = F.toList := by
  apply List.ext_getElem?
  intro t
  by_cases ht : t < F.size
  · rw [List.getElem?_take_of_lt ht, Array.getElem?_toList, Array.getElem?_toList, Array.getElem?_eq_getElem ht]
    unfold putCells
    rw [Array.getElem?_mapIdx, Array.getElem?_eq_getElem (by omega), Option.map_some, if_pos ⟨Nat.zero_le _, by omega⟩, Nat.sub_zero, getElem!_pos F t ht]
    rfl
  · rw [List.getElem?_eq_none (by simp; omega), List.getElem?_eq_none (by simp; omega)]
theorem heap_putRow {w : World} {g : Nat} {cur : Array Value} {e : TypeId} {fr : Nat × Nat} (F : Array Value) (n : Nat) (os : Array Obj) (h : w.heap[g]? = some (.cells cur e fr)) : (grow (putRow id (Sort.ahead w n) g 0 F) os).heap[g]? = some (.cells (putCells id 0 F cur) e fr) := by
  have hlt := (Array.getElem?_eq_some_iff.1 h).1
  unfold grow putRow mapBlock
  simp only
  rw [Array.getElem?_append_left (by simpa [Sort.ahead] using hlt), Array.getElem?_modify, if_pos rfl]
  show Option.map _ (w.heap[g]?) = _
  rw [h]
  rfl
theorem grown_putRow {w : World} {g : Nat} (F : Array Value) (n : Nat) (os : Array Obj) : w.grownBy (grow (putRow id (Sort.ahead w n) g 0 F) os) (some g) :=
  ⟨rfl, rfl, rfl, by simp [Sort.ahead], fun k hk hne => by
    unfold grow putRow mapBlock
    simp only
    rw [Array.getElem?_append_left (by simpa [Sort.ahead] using hk), Array.getElem?_modify, if_neg (fun e => hne (by rw [e]))]
    rfl⟩
/-- the row's own block turned into d' -/
theorem Own.sorted {w : World} {base : Nat} {e : TypeId} {g cap : Nat} {l : List α} {d' : Array α} (h : Own w base e (.slice (some ⟨g, 0, none⟩) l.length cap) l) (hp : d'.toList.Perm l) (n : Nat) (os : Array Obj) :
    Own (grow (putRow id (Sort.ahead w n) g 0 (flatK Enc.cells (Enc.size α) d')) os) base e (.slice (some ⟨g, 0, none⟩) l.length cap) d'.toList := by
  obtain ⟨cur, hg, hb, hn, hc, hm, hz, ht⟩ := h.cells
  have hlen : d'.toList.length = l.length := hp.length_eq
  have hF : (flatK Enc.cells (Enc.size α) d').size = l.length * Enc.size α := by rw [size_flatK, ← Array.length_toList, hlen]
  have hle : l.length * Enc.size α ≤ cap * Enc.size α := Nat.mul_le_mul_right _ hc
  have hgr := grown_putRow (w := w) (g := g) (flatK Enc.cells (Enc.size α) d') n os
  refine ⟨⟨by rw [flat_len], .inr ⟨g, cap, _, by rw [hlen], hb, heap_putRow _ n os hg, by omega, hm, by simp [putCells, hz], ?_⟩⟩, fun x hx => ?_⟩
  · rw [hlen, ← hF, putCells_take _ _ (by omega)]
    have := flatK_flat d'.toList
    simpa using this
  · refine Enc.keep (h.2 x (hp.mem_iff.1 hx)) (fun p hp => World.cell?_of_block (hgr.block _ hp.1 hp.2)) (fun b hb => ⟨Nat.lt_of_lt_of_le hb.1 hgr.size, hb.2⟩)
variable {P : Program} {ρ : Ren}
/-- slices.SortFunc(v, cmp) -/
theorem sortF_own (L : SlLaysF0.n6 P ρ) (aE : ∀ w, (isAgg (ρ.t 24)).run P w = .ok true w) (zE : ∀ w, (Go.sizeOf (ρ.t 24)).run P w = .ok (Enc.size α) w) (cf : α → α → Int) (lt : α → α → Bool) (hlt : ∀ x y, lt x y = decide (cf x y < 0)) (S : Strict lt) (g : Nat) (cb : Array Value)
    (eg : ∀ args w, (callFunc g args).run P w = .ok (.enter g args) w) (hcmp : ∀ (x y : α) (W : World), Calls P g (#[.agg (Enc.cells x).toArray, .agg (Enc.cells y).toArray] ++ cb) W fun e w' => e = .returned (.int .i64 (cf x y)) ∧ ∃ q os', w' = grow (W.drewN q) os')
    (base : Nat) (T : TypeId) (v : Value) (l : List α) (w : World) (h : Own w base T v l) (hn : l.length ≤ 1000000) :
    Calls P (ρ.f 6) #[v, .func (.func g) #[] cb] w fun e w' => e = .returned (.tuple #[]) ∧ ∃ l', l'.Perm l ∧ SortedB lt l' ∧ Own w' base T v l' ∧ w.grownBy w' v.ownBlock := by
  have hO : SWO (ltOf cf) := ⟨fun x => by unfold ltOf; rw [← hlt]; exact S.irr x, fun x y z => by unfold ltOf; rw [← hlt, ← hlt, ← hlt]; exact S.trans x y z, fun x y z => by unfold ltOf; rw [← hlt, ← hlt, ← hlt]; exact S.co x y z⟩
  rcases Nat.eq_zero_or_pos l.length with h0 | hpos
  · obtain rfl := List.length_eq_zero_iff.1 h0
    obtain ⟨A, c, hv, _⟩ := h.sl
    subst hv
    exact (AnyF.slices_SortFunc_none { L with } A c (.func (.func g) #[] cb) w).mono fun e w' ⟨he, hw⟩ => ⟨he, [], .refl _, List.Pairwise.nil, by subst hw; exact h, by subst hw; exact World.grownBy.refl _ _⟩
  · obtain ⟨gb, cap, cur, rfl, hb, hg, hc, hm, hz, ht⟩ := h.form hpos
    have hH : HoldsK Enc.cells (Enc.size α) w gb 0 l.toArray := by
      intro j hj
      rw [size_flatK, List.size_toArray] at hj
      have hle : l.length * Enc.size α ≤ cap * Enc.size α := Nat.mul_le_mul_right _ hc
      rw [Nat.zero_add]
      refine ⟨?_, frozen_of_row w gb j cur T hg⟩
      rw [cell_of_row w gb j cur T (0, 0) hg]
      have e1 : (flatK Enc.cells (Enc.size α) l.toArray)[j]? = cur[j]? := by
        rw [← Array.getElem?_toList, flatK_flat, ← ht, List.getElem?_take_of_lt hj, Array.getElem?_toList]
      have hj2 : j < (flatK Enc.cells (Enc.size α) l.toArray).size := by simpa using hj
      rw [← e1, Array.getElem?_eq_getElem hj2, getElem!_pos _ j hj2]
      rfl
    have hl1 : l.toArray.size = l.length := List.size_toArray ..
    have hcon := AnyQ.slices_SortFunc L (Enc.size α) aE zE Enc.cells Enc.len Enc.one cf hO g cb gb 0 cap l.toArray w eg (fun m os dk _ x y => hcmp x y _) hH (Array.getElem?_eq_some_iff.1 hg).1 (by rw [hl1]; omega)
    rw [hl1] at hcon
    refine hcon.mono fun e w' ⟨he, d', n, os, hp, hs, hw⟩ => ⟨he, ?_⟩
    obtain ⟨hsz, _, hperm⟩ := hp
    have hpe : d'.toList.Perm l := by
      have e1 : d'.extract 0 l.length = d' := by rw [← hl1, ← hsz]; exact Array.extract_size
      have e2 : l.toArray.extract 0 l.length = l.toArray := by rw [← hl1]; exact Array.extract_size
      rw [e1, e2] at hperm
      simpa using hperm
    refine ⟨d'.toList, hpe, ?_, ?_, ?_⟩
    · unfold SortedB
      rw [List.pairwise_iff_getElem]
      intro i j hi hj hij
      have hi' : i < d'.size := by simpa using hi
      have hj' : j < d'.size := by simpa using hj
      have := hs i j (Nat.zero_le _) hij (by rw [hsz, hl1] at hj'; exact hj')
      unfold ltOf at this
      rw [← hlt, getElem!_pos d' i hi', getElem!_pos d' j hj'] at this
      simpa using this
    · rw [hw]; exact h.sorted hpe n os
    · rw [hw]; exact grown_putRow _ n os
end
end Go.Proofs.YtgholbeehkfbiaaGreat

/- coins.Add, Less -/
namespace Go.Proofs.YtgholbeehkfbiaaGreat
open Go.RowKit
theorem ofInt_toInt64 {n : Int} (h : R64 n) : (BitVec.ofInt 64 n).toInt = n := by
  rw [BitVec.toInt_ofInt, Int.bmod_def]
  obtain ⟨h0, h1⟩ := h
  rw [show ((2 ^ 64 : Nat) : Int) = 18446744073709551616 from rfl]
  split <;> omega
theorem msb_ofInt64 {n : Int} (h : R64 n) : (BitVec.ofInt 64 n).msb = decide (n < 0) := by
  rw [BitVec.msb_eq_toInt, ofInt_toInt64 h]
theorem wrap_toNat (v : BitVec 64) : IntKind.i64.wrap (v.toNat : Int) = v.toInt := by
  rw [IntKind.wrap_i64, BitVec.toInt_eq_toNat_cond]
  have h := v.isLt
  rw [show ((2 ^ 64 : Nat) : Int) = 18446744073709551616 from rfl]
  have h2 : v.toNat < 18446744073709551616 := h
  rw [show (2 ^ 64 : Nat) = 18446744073709551616 from rfl]
  split <;> omega
theorem bits_xor64 (a b : Int) : bits .xor .i64 a b = (BitVec.ofInt 64 a ^^^ BitVec.ofInt 64 b).toInt := wrap_toNat _
theorem bits_and64 (a b : Int) : bits .and .i64 a b = (BitVec.ofInt 64 a &&& BitVec.ofInt 64 b).toInt := wrap_toNat _
theorem wrap_R64 (n : Int) : R64 (IntKind.i64.wrap n) := by
  rw [IntKind.wrap_i64]
  unfold R64
  omega
theorem over_bits (a b c : Int) (ha : R64 a) (hb : R64 b) (hc : R64 c) : decide (bits .and .i64 (bits .xor .i64 a b) (bits .xor .i64 a c) < 0) = ((decide (a < 0) ^^ decide (b < 0)) && (decide (a < 0) ^^ decide (c < 0))) := by
  rw [bits_and64, bits_xor64, bits_xor64, ← BitVec.msb_eq_toInt, BitVec.ofInt_toInt, BitVec.ofInt_toInt, BitVec.msb_and, BitVec.msb_xor, BitVec.msb_xor, msb_ofInt64 ha, msb_ofInt64 hb, msb_ofInt64 hc]
theorem bits_comm64 (a b : Int) : bits .xor .i64 a b = bits .xor .i64 b a := by rw [bits_xor64, bits_xor64, BitVec.xor_comm]
/-- is n no int64? -/
def overB (n : Int) : Bool := !(decide (-9223372036854775808 ≤ n) && decide (n ≤ 9223372036854775807))
theorem add_over {a b : Int} (ha : R64 a) (hb : R64 b) : decide (bits .and .i64 (bits .xor .i64 a (IntKind.i64.wrap (a + b))) (bits .xor .i64 b (IntKind.i64.wrap (a + b))) < 0) = overB (a + b) := by
  have h := over_bits (IntKind.i64.wrap (a + b)) a b (wrap_R64 _) ha hb
  rw [bits_comm64 a, bits_comm64 b, h]
  unfold overB
  rw [IntKind.wrap_i64]
  obtain ⟨h0, h1⟩ := ha
  obtain ⟨h2, h3⟩ := hb
  generalize hc : (a + b + 9223372036854775808) % 18446744073709551616 - 9223372036854775808 = c
  by_cases h4 : c < 0 <;> by_cases h5 : a < 0 <;> by_cases h6 : b < 0 <;> simp [h4, h5, h6] <;> omega
theorem less_over {a b : Int} (ha : R64 a) (hb : R64 b) : decide (bits .and .i64 (bits .xor .i64 a b) (bits .xor .i64 a (IntKind.i64.wrap (a - b))) < 0) = overB (a - b) := by
  rw [over_bits a b _ ha hb (wrap_R64 _)]
  unfold overB
  rw [IntKind.wrap_i64]
  obtain ⟨h0, h1⟩ := ha
  obtain ⟨h2, h3⟩ := hb
  generalize hc : (a - b + 9223372036854775808) % 18446744073709551616 - 9223372036854775808 = c
  by_cases h4 : c < 0 <;> by_cases h5 : a < 0 <;> by_cases h6 : b < 0 <;> simp [h4, h5, h6] <;> omega
/-- a sum, or that it is none -/
def sumR (n : Int) : Int × Int := if overB n then (0, 2) else (n, 0)
theorem wrap_over {n : Int} (h : overB n = false) : IntKind.i64.wrap n = n := by
  unfold overB at h
  simp only [Bool.not_eq_false', Bool.and_eq_true, decide_eq_true_eq] at h
  rw [IntKind.wrap_i64]
  omega
theorem sumR_R64 (n : Int) : R64 (sumR n).1 := by
  unfold sumR overB R64
  by_cases h : -9223372036854775808 ≤ n ∧ n ≤ 9223372036854775807
  · rw [decide_eq_true h.1, decide_eq_true h.2]
    exact h
  · rw [if_pos]
    · exact ⟨by decide, by decide⟩
    · rw [Bool.not_eq_true', Bool.and_eq_false_iff, decide_eq_false_iff_not, decide_eq_false_iff_not]
      omega
set_option maxRecDepth 100000 in
set_option maxHeartbeats 2000000 in
theorem add_c (a b : Int) (w : World) (ha : R64 a) (hb : R64 b) : Calls Tryz.prog 230 #[i64 a, i64 b] w fun e w' => e = .returned (.tuple #[i64 (sumR (a + b)).1, i64 (sumR (a + b)).2]) ∧ Below w.heap.size w w' := by
  have ho := add_over ha hb
  rw [IntWalk.i64_left] at ho
  cases h : overB (a + b) with
  | true =>
    rw [h] at ho
    have HS := Lib.hid (show sumR (a + b) = (0, 2) by unfold sumR; rw [h]; rfl)
    clear h
    go_enter Tryz.func230, Tryz.ntmps230
    go_wp2
    go_ret2
    exact ⟨by rw [HS.out]; rfl, Below.refl _ _⟩
  | false =>
    rw [h] at ho
    have hw := wrap_over h
    rw [IntWalk.i64_left] at hw
    have HW := Lib.hid hw
    have HS := Lib.hid (show sumR (a + b) = (a + b, 0) by unfold sumR; rw [h]; rfl)
    clear h hw
    go_enter Tryz.func230, Tryz.ntmps230
    go_wp2
    go_ret2
    exact ⟨by rw [HS.out]; exact congrArg (fun n => Ending.returned (.tuple #[.int .i64 n, i64 0])) HW.out, Below.refl _ _⟩
set_option maxRecDepth 100000 in
set_option maxHeartbeats 2000000 in
theorem less_c (a b : Int) (w : World) (ha : R64 a) (hb : R64 b) : Calls Tryz.prog 97 #[i64 a, i64 b] w fun e w' => e = .returned (.tuple #[i64 (sumR (a - b)).1, i64 (sumR (a - b)).2]) ∧ Below w.heap.size w w' := by
  have ho := less_over ha hb
  rw [IntWalk.i64_left] at ho
  cases h : overB (a - b) with
  | true =>
    rw [h] at ho
    have HS := Lib.hid (show sumR (a - b) = (0, 2) by unfold sumR; rw [h]; rfl)
    clear h
    go_enter Tryz.func97, Tryz.ntmps97
    go_wp2
    go_ret2
    exact ⟨by rw [HS.out]; rfl, Below.refl _ _⟩
  | false =>
    rw [h] at ho
    have hw := wrap_over h
    rw [IntWalk.i64_left] at hw
    have HW := Lib.hid hw
    have HS := Lib.hid (show sumR (a - b) = (a - b, 0) by unfold sumR; rw [h]; rfl)
    clear h hw
    go_enter Tryz.func97, Tryz.ntmps97
    go_wp2
    go_ret2
    exact ⟨by rw [HS.out]; exact congrArg (fun n => Ending.returned (.tuple #[.int .i64 n, i64 0])) HW.out, Below.refl _ _⟩
end Go.Proofs.YtgholbeehkfbiaaGreat

/- chart: New, Get, free -/
namespace Go.Proofs.YtgholbeehkfbiaaGreat
open Go.RowKit
/-- api.Acct -/
structure Ac where
  name : ByteArray
  hav : Int
  set_ : Int
  lim : Int
abbrev Ac.v (a : Ac) : Value := .agg #[.string a.name, i64 a.hav, i64 a.set_, i64 a.lim]
/-- its numbers are of 64 bits -/
def InA (a : Ac) : Prop := R64 a.hav ∧ R64 a.set_ ∧ 0 ≤ a.lim ∧ a.lim ≤ 9223372036854775807
def mv (M : List (ByteArray × Ac)) : List (ByteArray × Value) := M.map fun p => (p.1, p.2.v)
theorem getM_mv (M : List (ByteArray × Ac)) (k : ByteArray) : getM (mv M) k = (getM M k).map Ac.v := by
  unfold getM mv
  induction M with
  | nil => rfl
  | cons p r ih =>
    rw [List.map_cons]
    by_cases h : p.1 = k
    · rw [List.find?_cons_of_pos (by simpa using h), List.find?_cons_of_pos (by simpa using h)]
      rfl
    · rw [List.find?_cons_of_neg (by simpa using h), List.find?_cons_of_neg (by simpa using h)]
      exact ih
theorem putM_mv (M : List (ByteArray × Ac)) (k : ByteArray) (a : Ac) : putM (mv M) k a.v = mv (putM M k a) := by
  unfold putM mv
  rw [List.any_map]
  by_cases h : (M.any fun p => decide (p.1 = k)) = true
  · rw [if_pos h, if_pos (by simpa [Function.comp_def] using h), List.map_map, List.map_map]
    refine List.map_congr_left fun p _ => ?_
    simp only [Function.comp_def]
    split <;> rfl
  · rw [if_neg h, if_neg (by simpa [Function.comp_def] using h), List.map_append]
    rfl
/-- block g holds a chart, whose map lies in block b -/
structure ChIs (w : World) (g b : Nat) (M : List (ByteArray × Ac)) : Prop where
  ne : b ≠ g
  cell : w.heap[g]? = some (.cells #[.map (some b)] 198 (0, 0))
  map : MapIs Value.string w b (mv M)
theorem ChIs.kept {w w' : World} {g b : Nat} {M : List (ByteArray × Ac)} {row : Option Nat} (h : ChIs w g b M) (hk : w.grownBy w' row) (h1 : some g ≠ row) (h2 : some b ≠ row) : ChIs w' g b M :=
  ⟨h.ne, (hk.block g (Array.getElem?_eq_some_iff.1 h.cell).1 h1).trans h.cell, h.map.kept hk h2⟩
theorem ChIs.later {w w' : World} {g b : Nat} {M : List (ByteArray × Ac)} (h : ChIs w g b M) (hb : Below w.heap.size w w') : ChIs w' g b M := h.kept (grown_of_below hb none) (by simp) (by simp)
theorem ChIs.lt {w : World} {g b : Nat} {M : List (ByteArray × Ac)} (h : ChIs w g b M) : g < w.heap.size ∧ b < w.heap.size := ⟨(Array.getElem?_eq_some_iff.1 h.cell).1, h.map.lt⟩
set_option maxRecDepth 100000 in
set_option maxHeartbeats 2000000 in
theorem chnew_c (w : World) : Calls Tryz.prog 63 #[] w fun e w' => e = .returned (.pointer (some ⟨w.heap.size + 1, 0, none⟩)) ∧ ChIs w' (w.heap.size + 1) w.heap.size [] ∧ Below w.heap.size w w' := by
  have hmm := @run_makeMap Tryz.prog
  go_enter Tryz.func63, Tryz.ntmps63
  go_wp2
  go_ret
  have hB := ((Below.refl w.heap.size w).alloc (Nat.le_refl _) (.map #[] 0)).alloc (by simp) (.cells #[.map (some w.heap.size)] 198)
  exact ⟨rfl, ⟨by omega, heap_alloc2_new w _ _, (MapIs.made (enc := Value.string) w).later ((Below.refl _ _).alloc (Nat.le_refl _) _)⟩, hB⟩
def ac0 : Ac := ⟨⟨#[]⟩, 0, 0, 0⟩
/-- chart.Get -/
def getC (M : List (ByteArray × Ac)) (k : ByteArray) : Ac × Int := match getM M k with
  | some a => (a, 0)
  | none => (ac0, 6)
set_option maxRecDepth 100000 in
set_option maxHeartbeats 4000000 in
theorem get_c (g b : Nat) (M : List (ByteArray × Ac)) (k : ByteArray) (w : World) (h : ChIs w g b M) :
    Calls Tryz.prog 197 #[.pointer (some ⟨g, 0, none⟩), .string k] w fun e w' => e = .returned (.tuple #[(getC M k).1.v, i64 (getC M k).2]) ∧ Below w.heap.size w w' := by
  have hb0 := (Below.refl w.heap.size w).alloc (Nat.le_refl _) (.cells #[.string ⟨#[]⟩, i64 0, i64 0, i64 0] 113)
  have h1 := h.later hb0
  have hres := heap_alloc_new w (.cells #[.string ⟨#[]⟩, i64 0, i64 0, i64 0] 113)
  have c0 := cell_of_row _ g 0 _ _ (0, 0) h1.cell
  simp only [List.getElem?_toArray, List.getElem?_cons_zero] at c0
  have hlk := run_lookup (P := Tryz.prog) strKey Tryz.underlying196 h1.map k (ac0.v) (by kernel_rfl) true
  rw [getM_mv] at hlk
  have hb1 := fun o => hb0.alloc (by simp) o
  cases hm : getM M k with
  | none =>
    rw [hm] at hlk
    have HC := Lib.hid (show getC M k = (ac0, 6) by unfold getC; rw [hm])
    clear hm
    unfold ac0 at hlk
    go_enter Tryz.func197, Tryz.ntmps197
    go_wp2
    refine bodyPost_ret (results_cell_row_tmp rfl _ _ w.heap.size 113 _ (0, 0) _ rfl (heap_alloc2_old w _ _) Tryz.underlying113 rfl (by kernel_rfl)) rfl ?_
    exact ⟨by rw [HC.out]; rfl, hb1 _⟩
  | some a =>
    rw [hm] at hlk
    have HC := Lib.hid (show getC M k = (a, 0) by unfold getC; rw [hm])
    clear hm
    unfold ac0 at hlk
    go_enter Tryz.func197, Tryz.ntmps197
    go_wp2
    refine bodyPost_ret (results_cell_row_tmp rfl _ _ w.heap.size 113 _ (0, 0) _ rfl (heap_alloc2_old w _ _) Tryz.underlying113 rfl (by kernel_rfl)) rfl ?_
    exact ⟨by rw [HC.out]; rfl, ((Below.refl _ _).alloc (Nat.le_refl _) _).alloc (by simp) _⟩
/-- chart.free -/
def freeA (a : Ac) (x : Int) : Bool := decide ((sumR (a.hav - a.set_)).2 = 0) && (decide ((sumR ((sumR (a.hav - a.set_)).1 - x)).2 = 0) && decide (-a.lim ≤ (sumR ((sumR (a.hav - a.set_)).1 - x)).1))
set_option maxRecDepth 100000 in
set_option maxHeartbeats 4000000 in
theorem free_c (a : Ac) (x : Int) (w : World) (ha : InA a) (hx : R64 x) :
    Calls Tryz.prog 243 #[a.v, i64 x] w fun e w' => e = .returned (.bool (freeA a x)) ∧ Below w.heap.size w w' := by
  have hb0 := (Below.refl w.heap.size w).alloc (Nat.le_refl _) (.cells #[.string a.name, i64 a.hav, i64 a.set_, i64 a.lim] 113)
  have hg := heap_alloc_new w (.cells #[.string a.name, i64 a.hav, i64 a.set_, i64 a.lim] 113)
  have k1 := cell_of_row _ w.heap.size 1 _ _ (0, 0) hg
  have k2 := cell_of_row _ w.heap.size 2 _ _ (0, 0) hg
  have k3 := cell_of_row _ w.heap.size 3 _ _ (0, 0) hg
  simp only [List.getElem?_toArray, List.getElem?_cons_zero, List.getElem?_cons_succ] at k1 k2 k3
  have hz : w.heap.size < (w.alloc (.cells #[.string a.name, i64 a.hav, i64 a.set_, i64 a.lim] 113)).heap.size := by simp
  obtain ⟨h1, h2, h3, h4⟩ := ha
  have L1 := Lib.hid fun W => less_c a.hav a.set_ W h1 h2
  have L2 := Lib.hid fun W => less_c (sumR (a.hav - a.set_)).1 x W (sumR_R64 _) hx
  have hw : IntKind.i64.wrap (-a.lim) = -a.lim := by rw [IntKind.wrap_i64]; omega
  have HD := Lib.hid (show freeA a x = (decide ((sumR (a.hav - a.set_)).2 = 0) && (decide ((sumR ((sumR (a.hav - a.set_)).1 - x)).2 = 0) && decide (-a.lim ≤ (sumR ((sumR (a.hav - a.set_)).1 - x)).1))) from rfl)
  generalize freeA a x = F at *
  generalize sumR (a.hav - a.set_) = r1 at *
  generalize sumR (r1.1 - x) = r2 at *
  clear hg h1 h2
  go_enter Tryz.func243, Tryz.ntmps243
  go_wp2_with fail
  generalize w.alloc (.cells #[.string a.name, i64 a.hav, i64 a.set_, i64 a.lim] 113) = w0 at *
  refine (L1.out _).mono ?_
  rintro e w1 ⟨rfl, hF⟩
  have k3 := (hF.cell (p := ⟨w.heap.size, 3, none⟩) hz).trans k3
  have hb1 := below_on hb0 (Nat.le_refl _) hF
  have hz := Nat.lt_of_lt_of_le hz hF.size
  clear hF L1 k1 k2
  by_cases e1 : r1.2 = 0
  · have g1 : (r1.2 != 0) = false := by rw [e1]; rfl
    have E1 := Lib.hid (decide_eq_true e1)
    clear e1
    go_wp2_with fail
    refine (L2.out _).mono ?_
    rintro e w2 ⟨rfl, hF⟩
    have k3 := (hF.cell (p := ⟨w.heap.size, 3, none⟩) hz).trans k3
    have hb2 := below_on hb1 (Nat.le_refl _) hF
    clear hF L2
    by_cases e2 : r2.2 = 0
    · have g2 : (r2.2 == 0) = true := by rw [e2]; rfl
      have E2 := Lib.hid (decide_eq_true e2)
      clear e2
      by_cases e3 : -a.lim ≤ r2.1
      · have g3 : decide (-a.lim ≤ r2.1) = true := decide_eq_true e3
        have HF := Lib.hid (show F = true by rw [HD.out, E1.out, E2.out, g3]; rfl)
        clear e3
        go_wp2
        go_ret
        exact ⟨by rw [HF.out]; rfl, hb2⟩
      · have g3 : decide (-a.lim ≤ r2.1) = false := decide_eq_false e3
        have HF := Lib.hid (show F = false by rw [HD.out, E1.out, E2.out, g3]; rfl)
        clear e3
        go_wp2
        go_ret
        exact ⟨by rw [HF.out]; rfl, hb2⟩
    · have g2 : (r2.2 == 0) = false := beq_eq_false_iff_ne.2 e2
      have HF := Lib.hid (show F = false by rw [HD.out, E1.out, decide_eq_false e2]; rfl)
      clear e2
      go_wp2
      go_ret
      exact ⟨by rw [HF.out]; rfl, hb2⟩
  · have g1 : (r1.2 != 0) = true := by simpa using e1
    have HF := Lib.hid (show F = false by rw [HD.out, decide_eq_false e1]; rfl)
    clear e1
    go_wp2
    go_ret
    exact ⟨by rw [HF.out]; rfl, hb1⟩
end Go.Proofs.YtgholbeehkfbiaaGreat
