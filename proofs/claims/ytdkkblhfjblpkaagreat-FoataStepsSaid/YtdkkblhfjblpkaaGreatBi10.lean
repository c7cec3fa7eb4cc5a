/- Texts of this claim, laid together: Open, Shut, OpenRO, Ask10, SlB. -/
import Derived.Test.YtdkkblhfjblpkaaGreatRows
import Derived.Test.YtdkkblhfjblpkaaGreatBi9
import Derived.WalkKit
import Derived.WalkSpells
import Derived.WalkLawsBesides
import Derived.Deep.QuietTactic
import Derived.BigQuiet
import Derived.Laws.StructEq
import Derived.Deep.DeepFit
import Derived.StillTailTactics
import Derived.Test.YtdkkblhfjblpkaaGreatBi7
import Derived.Test.YtdkkblhfjblpkaaGreatBi1
import Derived.Test.YtdkkblhfjblpkaaGreatBi2

/- Arguments as data: an order, as the statement reads it -/
namespace Go.Proofs.YtdkkblhfjblpkaaGreat
open Go.RowKit
open Go.ChangeShapes Go.WideShapes Go.Deep
set_option maxRecDepth 100000 in
set_option maxHeartbeats 1000000 in
theorem cellsLeg : Tryz.prog.cellsOf 167 = 2 := by kernel_rfl
set_option maxRecDepth 100000 in
set_option maxHeartbeats 1000000 in
theorem cellsOd : Tryz.prog.cellsOf 50 = 10 := by kernel_rfl
set_option maxRecDepth 100000 in
set_option maxHeartbeats 1000000 in
theorem cellsId : Tryz.prog.cellsOf 47 = 2 := by kernel_rfl
set_option maxRecDepth 100000 in
set_option maxHeartbeats 1000000 in
theorem cellsS : Tryz.prog.cellsOf 9 = 1 := by kernel_rfl
set_option maxRecDepth 100000 in
set_option maxHeartbeats 1000000 in
theorem cellsN : Tryz.prog.cellsOf 3 = 1 := by kernel_rfl
set_option maxRecDepth 100000 in
set_option maxHeartbeats 1000000 in
theorem cellsJ : Tryz.prog.cellsOf 2 = 1 := by kernel_rfl
set_option maxRecDepth 100000 in
set_option maxHeartbeats 1000000 in
theorem cellsLs : Tryz.prog.cellsOf 48 = 1 := by kernel_rfl
set_option maxRecDepth 100000 in
set_option maxHeartbeats 1000000 in
theorem reads_leg : Reads Leg Tryz.prog 167 := fun _ _ _ _ _ _ _ cs _ h => by
  obtain ⟨xs, n, _, _, hl, hlen, hf⟩ := DataW.trod_struct Tryz.underlying167 h
  rw [cellsLeg] at hl
  match cs, hl with
  | [c0, c1], _ =>
    have h0 : DataW.trod _ Tryz.prog _ _ _ _ n 9 ((([c0, c1] : List Value).drop 0).take (Tryz.prog.cellsOf 9)) = xs[0]? := hf 0 _ rfl
    have h1 : DataW.trod _ Tryz.prog _ _ _ _ n 2 ((([c0, c1] : List Value).drop 1).take (Tryz.prog.cellsOf 2)) = xs[1]? := hf 1 _ rfl
    simp only [cellsS, cellsJ, List.drop_succ_cons, List.drop_zero, List.take_succ_cons, List.take_zero] at h0 h1
    rw [List.getElem?_eq_getElem (by rw [hlen]; decide)] at h0 h1
    obtain ⟨s, e0, _, hs⟩ := DataW.trod_string Tryz.underlying9 h0
    obtain ⟨m, e1, _, _⟩ := DataW.trod_int Tryz.underlying2 h1
    injection e0 with e0
    injection e1 with e1
    subst e0 e1
    exact ⟨⟨s, m⟩, rfl, hs⟩
set_option maxRecDepth 100000 in
set_option maxHeartbeats 1000000 in
theorem reads_od : Reads Od Tryz.prog 50 := fun _ _ _ _ _ _ _ cs _ h => by
  obtain ⟨xs, n, _, _, hl, hlen, hf⟩ := DataW.trod_struct Tryz.underlying50 h
  rw [cellsOd] at hl
  match cs, hl with
  | [c0, c1, c2, c3, c4, c5, c6, c7, c8, c9], _ =>
    have h0 : DataW.trod _ Tryz.prog _ _ _ _ n 47 ((([c0, c1, c2, c3, c4, c5, c6, c7, c8, c9] : List Value).drop 0).take (Tryz.prog.cellsOf 47)) = xs[0]? := hf 0 _ rfl
    have h1 : DataW.trod _ Tryz.prog _ _ _ _ n 3 ((([c0, c1, c2, c3, c4, c5, c6, c7, c8, c9] : List Value).drop 2).take (Tryz.prog.cellsOf 3)) = xs[1]? := hf 1 _ rfl
    have h2 : DataW.trod _ Tryz.prog _ _ _ _ n 9 ((([c0, c1, c2, c3, c4, c5, c6, c7, c8, c9] : List Value).drop 3).take (Tryz.prog.cellsOf 9)) = xs[2]? := hf 2 _ rfl
    have h3 : DataW.trod _ Tryz.prog _ _ _ _ n 9 ((([c0, c1, c2, c3, c4, c5, c6, c7, c8, c9] : List Value).drop 4).take (Tryz.prog.cellsOf 9)) = xs[3]? := hf 3 _ rfl
    have h4 : DataW.trod _ Tryz.prog _ _ _ _ n 2 ((([c0, c1, c2, c3, c4, c5, c6, c7, c8, c9] : List Value).drop 5).take (Tryz.prog.cellsOf 2)) = xs[4]? := hf 4 _ rfl
    have h5 : DataW.trod _ Tryz.prog _ _ _ _ n 48 ((([c0, c1, c2, c3, c4, c5, c6, c7, c8, c9] : List Value).drop 6).take (Tryz.prog.cellsOf 48)) = xs[5]? := hf 5 _ rfl
    have h6 : DataW.trod _ Tryz.prog _ _ _ _ n 3 ((([c0, c1, c2, c3, c4, c5, c6, c7, c8, c9] : List Value).drop 7).take (Tryz.prog.cellsOf 3)) = xs[6]? := hf 6 _ rfl
    have h7 : DataW.trod _ Tryz.prog _ _ _ _ n 3 ((([c0, c1, c2, c3, c4, c5, c6, c7, c8, c9] : List Value).drop 8).take (Tryz.prog.cellsOf 3)) = xs[7]? := hf 7 _ rfl
    have h8 : DataW.trod _ Tryz.prog _ _ _ _ n 9 ((([c0, c1, c2, c3, c4, c5, c6, c7, c8, c9] : List Value).drop 9).take (Tryz.prog.cellsOf 9)) = xs[8]? := hf 8 _ rfl
    simp only [cellsS, cellsJ, cellsN, cellsId, cellsLs, List.drop_succ_cons, List.drop_zero, List.take_succ_cons, List.take_zero] at h0 h1 h2 h3 h4 h5 h6 h7 h8
    rw [List.getElem?_eq_getElem (by rw [hlen]; decide)] at h0 h1 h2 h3 h4 h5 h6 h7 h8
    obtain ⟨ys, n', _, _, _, hlen', hf'⟩ := DataW.trod_struct Tryz.underlying47 h0
    have g0 : DataW.trod _ Tryz.prog _ _ _ _ n' 3 ((([c0, c1] : List Value).drop 0).take (Tryz.prog.cellsOf 3)) = ys[0]? := hf' 0 _ rfl
    have g1 : DataW.trod _ Tryz.prog _ _ _ _ n' 3 ((([c0, c1] : List Value).drop 1).take (Tryz.prog.cellsOf 3)) = ys[1]? := hf' 1 _ rfl
    simp only [cellsN, List.drop_succ_cons, List.drop_zero, List.take_succ_cons, List.take_zero] at g0 g1
    rw [List.getElem?_eq_getElem (by rw [hlen']; decide)] at g0 g1
    obtain ⟨v0, e0, _, _⟩ := DataW.trod_int Tryz.underlying3 g0
    obtain ⟨v1, e1, _, _⟩ := DataW.trod_int Tryz.underlying3 g1
    obtain ⟨v2, e2, _, _⟩ := DataW.trod_int Tryz.underlying3 h1
    obtain ⟨v3, e3, _, s3⟩ := DataW.trod_string Tryz.underlying9 h2
    obtain ⟨v4, e4, _, s4⟩ := DataW.trod_string Tryz.underlying9 h3
    obtain ⟨v5, e5, _, _⟩ := DataW.trod_int Tryz.underlying2 h4
    obtain ⟨A, c, l, e6, s6⟩ := reads_slice Tryz.underlying48 cellsLeg (by decide) reads_leg h5
    obtain ⟨v7, e7, _, _⟩ := DataW.trod_int Tryz.underlying3 h6
    obtain ⟨v8, e8, _, _⟩ := DataW.trod_int Tryz.underlying3 h7
    obtain ⟨v9, e9, _, s9⟩ := DataW.trod_string Tryz.underlying9 h8
    injection e0 with e0
    injection e1 with e1
    injection e2 with e2
    injection e3 with e3
    injection e4 with e4
    injection e5 with e5
    injection e6 with e6
    injection e7 with e7
    injection e8 with e8
    injection e9 with e9
    subst e0 e1 e2 e3 e4 e5 e6 e7 e8 e9
    exact ⟨⟨v0, v1, v2, v3, v4, v5, A, c, l, v7, v8, v9⟩, rfl, s3, s4, s9, s6⟩
end Go.Proofs.YtdkkblhfjblpkaaGreat

/- What the frames of the statements use: the arguments opened -/
namespace Go.Proofs.YtdkkblhfjblpkaaGreat
open Go.RowKit
open Go.ChangeShapes Go.WideShapes Go.Deep
section
variable {H : Type} {enc : TypeId × Value → H} {w : World} {base : Nat} {spare : Nat → Bool} {held : Bool} {r : Reach} {b0 : Nat} {v : Value} {d : DataW H} {p : List MemPlace}
set_option maxRecDepth 100000 in
set_option maxHeartbeats 1000000 in
theorem open_od (hv : Value.okWide Tryz.prog w r b0 50 v) (h : DataW.Trod enc Tryz.prog w base spare held 50 v d p) : ∃ x : Od, v = x.v ∧ Okb w w.heap.size x := by
  obtain ⟨cs, rfl, _⟩ := okWide_struct Tryz.underlying50 hv
  obtain ⟨fuel, hf⟩ := h
  obtain ⟨x, hx, hok⟩ := reads_od _ _ _ _ _ _ _ _ _ hf
  refine ⟨x, ?_, hok⟩
  have hx2 : cs.toList = Od.cells x := hx
  rw [← Array.toArray_toList (xs := cs), hx2]
  rfl
set_option maxRecDepth 100000 in
set_option maxHeartbeats 1000000 in
theorem open_ods (hv : Value.okWide Tryz.prog w r b0 22 v) (h : DataW.Trod enc Tryz.prog w base spare held 22 v d p) : ∃ A c, ∃ l : List Od, v = .slice A l.length c ∧ Sl w w.heap.size A c l := by
  obtain ⟨a, len, cap, rfl⟩ := okWide_slice Tryz.underlying22 hv
  obtain ⟨fuel, hf⟩ := h
  obtain ⟨A, c, l, hx, hs⟩ := reads_slice Tryz.underlying22 cellsOd (by decide) reads_od hf
  have hx2 : [Value.slice a len cap] = [.slice A l.length c] := hx
  injection hx2 with hx3
  exact ⟨A, c, l, hx3, hs⟩
end
end Go.Proofs.YtdkkblhfjblpkaaGreat

/- Arguments as data, with their ranges: an order, orders -/
namespace Go.Proofs.YtdkkblhfjblpkaaGreat
open Go.RowKit
open Go.ChangeShapes Go.WideShapes Go.Deep
theorem R64.of_wf {n : Int} (h : (Lit.int .i64 n).wf = true) : R64 n := by
  simpa [Lit.wf, IntKind.min, IntKind.max, IntKind.signed, IntKind.bits, R64] using h
/-- whatever reads as a datum of type t is one of α's, and Q -/
def ReadsQ (α : Type) [Enc α] (Q : α → Prop) (P : Program) (t : TypeId) : Prop :=
  ∀ (H : Type) (enc : TypeId × Value → H) (w : World) (base : Nat) (spare : Nat → Bool) (held : Bool) (fuel : Nat) (cs : List Value) (x : DataW H × List MemPlace), DataW.trod enc P w base spare held fuel t cs = some x → ∃ a : α, cs = Enc.cells a ∧ Okb w w.heap.size a ∧ Q a
section
variable {α : Type} [Enc α] {P : Program}
set_option maxRecDepth 100000 in
set_option maxHeartbeats 1000000 in
theorem readsQ_slice {Q : α → Prop} {t e : TypeId} (ht : P.underlying t = some (.slice e)) (hC : P.cellsOf e = Enc.size α) (hsz : 0 < Enc.size α) (hr : ReadsQ α Q P e) {H : Type} {enc : TypeId × Value → H} {w : World} {base : Nat} {spare : Nat → Bool} {held : Bool} {fuel : Nat} {cs : List Value} {x : DataW H × List MemPlace}
    (h : DataW.trod enc P w base spare held fuel t cs = some x) : ∃ A c, ∃ l : List α, cs = [.slice A l.length c] ∧ Sl w w.heap.size A c l ∧ ∀ y ∈ l, Q y := by
  rcases open_slice ht h with ⟨rfl, _⟩ | ⟨a, len, cap, m, n, D, Pl, rfl, hb, hl, hm, hmm, _, hi⟩
  · exact ⟨none, 0, [], rfl, SlS.nil_ _ _, by simp⟩
  · have hlm : len ≤ m := by rw [hmm]; split <;> omega
    obtain ⟨l, hll, hq⟩ := list_choose (Q := fun i (y : α) => ((∀ j, j < Enc.size α → w.cell? ((a.add (i * Enc.size α)).add j) = (Enc.cells y)[j]?) ∧ Okb w w.heap.size y) ∧ Q y) len (fun i hil => by
      obtain ⟨cs', hc, ht'⟩ := hi i (by omega)
      rw [hC] at hc
      obtain ⟨y, rfl, hy, hQ⟩ := hr _ _ _ _ _ _ _ _ _ ht'
      exact ⟨y, ⟨(World.cells?_some hc).2.2, hy⟩, hQ⟩)
    subst hll
    have hqq : ∀ y ∈ l, Q y := fun y hy => by obtain ⟨i, hi, rfl⟩ := List.getElem_of_mem hy; exact (hq i hi).2
    have hq := fun i hi => (hq i hi).1
    refine ⟨some a, cap, l, rfl, ⟨hl, hm, fun hn => ?_, fun y hy => ?_⟩, hqq⟩
    · obtain ⟨b, o, s⟩ := a
      have hc := fun i (hi : i < l.length) j (hj : j < Enc.size α) => (hq i hi).1 j hj
      have h0 := hc 0 hn 0 hsz
      rw [List.getElem?_eq_getElem (by rw [Enc.len]; exact hsz)] at h0
      rw [Nat.zero_mul, add_zero_, add_zero_] at h0
      have hs : s = none := World.cell?_spot h0
      subst hs
      have hlt := World.block_lt_of_cell? w _ h0
      refine ⟨b, o, rfl, hlt, fun j u hu => ?_⟩
      have hj := (List.getElem?_eq_some_iff.1 hu).1
      rw [flat_len] at hj
      have hjk : j / Enc.size α < l.length := by rw [Nat.div_lt_iff_lt_mul hsz]; exact hj
      have hjm : j % Enc.size α < Enc.size α := Nat.mod_lt _ hsz
      have e1 : j / Enc.size α * Enc.size α + j % Enc.size α = j := by rw [Nat.mul_comm]; exact Nat.div_add_mod _ _
      have h1 := hc _ hjk _ hjm
      rw [← flat_get l _ _ hjk hjm, e1, hu] at h1
      rw [add_none, add_none, Nat.add_assoc, e1] at h1
      exact h1
    · obtain ⟨i, hi, rfl⟩ := List.getElem_of_mem hy
      exact (hq i hi).2
end
set_option maxRecDepth 100000 in
set_option maxHeartbeats 1000000 in
theorem readsQ_leg : ReadsQ Leg (fun y => R64 y.sum) Tryz.prog 167 := fun _ _ _ _ _ _ _ cs _ h => by
  obtain ⟨xs, n, _, _, hl, hlen, hf⟩ := DataW.trod_struct Tryz.underlying167 h
  rw [cellsLeg] at hl
  match cs, hl with
  | [c0, c1], _ =>
    have h0 : DataW.trod _ Tryz.prog _ _ _ _ n 9 ((([c0, c1] : List Value).drop 0).take (Tryz.prog.cellsOf 9)) = xs[0]? := hf 0 _ rfl
    have h1 : DataW.trod _ Tryz.prog _ _ _ _ n 2 ((([c0, c1] : List Value).drop 1).take (Tryz.prog.cellsOf 2)) = xs[1]? := hf 1 _ rfl
    simp only [cellsS, cellsJ, List.drop_succ_cons, List.drop_zero, List.take_succ_cons, List.take_zero] at h0 h1
    rw [List.getElem?_eq_getElem (by rw [hlen]; decide)] at h0 h1
    obtain ⟨s, e0, _, hs⟩ := DataW.trod_string Tryz.underlying9 h0
    obtain ⟨m, e1, _, hm⟩ := DataW.trod_int Tryz.underlying2 h1
    injection e0 with e0
    injection e1 with e1
    subst e0 e1
    exact ⟨⟨s, m⟩, rfl, hs, R64.of_wf hm⟩
set_option maxRecDepth 100000 in
set_option maxHeartbeats 1000000 in
theorem readsQ_od : ReadsQ Od InR Tryz.prog 50 := fun _ _ _ _ _ _ _ cs _ h => by
  obtain ⟨xs, n, _, _, hl, hlen, hf⟩ := DataW.trod_struct Tryz.underlying50 h
  rw [cellsOd] at hl
  match cs, hl with
  | [c0, c1, c2, c3, c4, c5, c6, c7, c8, c9], _ =>
    have h0 : DataW.trod _ Tryz.prog _ _ _ _ n 47 ((([c0, c1, c2, c3, c4, c5, c6, c7, c8, c9] : List Value).drop 0).take (Tryz.prog.cellsOf 47)) = xs[0]? := hf 0 _ rfl
    have h1 : DataW.trod _ Tryz.prog _ _ _ _ n 3 ((([c0, c1, c2, c3, c4, c5, c6, c7, c8, c9] : List Value).drop 2).take (Tryz.prog.cellsOf 3)) = xs[1]? := hf 1 _ rfl
    have h2 : DataW.trod _ Tryz.prog _ _ _ _ n 9 ((([c0, c1, c2, c3, c4, c5, c6, c7, c8, c9] : List Value).drop 3).take (Tryz.prog.cellsOf 9)) = xs[2]? := hf 2 _ rfl
    have h3 : DataW.trod _ Tryz.prog _ _ _ _ n 9 ((([c0, c1, c2, c3, c4, c5, c6, c7, c8, c9] : List Value).drop 4).take (Tryz.prog.cellsOf 9)) = xs[3]? := hf 3 _ rfl
    have h4 : DataW.trod _ Tryz.prog _ _ _ _ n 2 ((([c0, c1, c2, c3, c4, c5, c6, c7, c8, c9] : List Value).drop 5).take (Tryz.prog.cellsOf 2)) = xs[4]? := hf 4 _ rfl
    have h5 : DataW.trod _ Tryz.prog _ _ _ _ n 48 ((([c0, c1, c2, c3, c4, c5, c6, c7, c8, c9] : List Value).drop 6).take (Tryz.prog.cellsOf 48)) = xs[5]? := hf 5 _ rfl
    have h6 : DataW.trod _ Tryz.prog _ _ _ _ n 3 ((([c0, c1, c2, c3, c4, c5, c6, c7, c8, c9] : List Value).drop 7).take (Tryz.prog.cellsOf 3)) = xs[6]? := hf 6 _ rfl
    have h7 : DataW.trod _ Tryz.prog _ _ _ _ n 3 ((([c0, c1, c2, c3, c4, c5, c6, c7, c8, c9] : List Value).drop 8).take (Tryz.prog.cellsOf 3)) = xs[7]? := hf 7 _ rfl
    have h8 : DataW.trod _ Tryz.prog _ _ _ _ n 9 ((([c0, c1, c2, c3, c4, c5, c6, c7, c8, c9] : List Value).drop 9).take (Tryz.prog.cellsOf 9)) = xs[8]? := hf 8 _ rfl
    simp only [cellsS, cellsJ, cellsN, cellsId, cellsLs, List.drop_succ_cons, List.drop_zero, List.take_succ_cons, List.take_zero] at h0 h1 h2 h3 h4 h5 h6 h7 h8
    rw [List.getElem?_eq_getElem (by rw [hlen]; decide)] at h0 h1 h2 h3 h4 h5 h6 h7 h8
    obtain ⟨ys, n', _, _, _, hlen', hf'⟩ := DataW.trod_struct Tryz.underlying47 h0
    have g0 : DataW.trod _ Tryz.prog _ _ _ _ n' 3 ((([c0, c1] : List Value).drop 0).take (Tryz.prog.cellsOf 3)) = ys[0]? := hf' 0 _ rfl
    have g1 : DataW.trod _ Tryz.prog _ _ _ _ n' 3 ((([c0, c1] : List Value).drop 1).take (Tryz.prog.cellsOf 3)) = ys[1]? := hf' 1 _ rfl
    simp only [cellsN, List.drop_succ_cons, List.drop_zero, List.take_succ_cons, List.take_zero] at g0 g1
    rw [List.getElem?_eq_getElem (by rw [hlen']; decide)] at g0 g1
    obtain ⟨v0, e0, _, q0⟩ := DataW.trod_int Tryz.underlying3 g0
    obtain ⟨v1, e1, _, q1⟩ := DataW.trod_int Tryz.underlying3 g1
    obtain ⟨v2, e2, _, q2⟩ := DataW.trod_int Tryz.underlying3 h1
    obtain ⟨v3, e3, _, s3⟩ := DataW.trod_string Tryz.underlying9 h2
    obtain ⟨v4, e4, _, s4⟩ := DataW.trod_string Tryz.underlying9 h3
    obtain ⟨v5, e5, _, q5⟩ := DataW.trod_int Tryz.underlying2 h4
    obtain ⟨A, c, l, e6, s6, q6⟩ := readsQ_slice Tryz.underlying48 cellsLeg (by decide) readsQ_leg h5
    obtain ⟨v7, e7, _, q7⟩ := DataW.trod_int Tryz.underlying3 h6
    obtain ⟨v8, e8, _, q8⟩ := DataW.trod_int Tryz.underlying3 h7
    obtain ⟨v9, e9, _, s9⟩ := DataW.trod_string Tryz.underlying9 h8
    injection e0 with e0
    injection e1 with e1
    injection e2 with e2
    injection e3 with e3
    injection e4 with e4
    injection e5 with e5
    injection e6 with e6
    injection e7 with e7
    injection e8 with e8
    injection e9 with e9
    subst e0 e1 e2 e3 e4 e5 e6 e7 e8 e9
    exact ⟨⟨v0, v1, v2, v3, v4, v5, A, c, l, v7, v8, v9⟩, rfl, ⟨s3, s4, s9, s6⟩, R64.of_wf q0, R64.of_wf q1, R64.of_wf q2, R64.of_wf q5, R64.of_wf q7, R64.of_wf q8, q6⟩
section
variable {H : Type} {enc : TypeId × Value → H} {w : World} {base : Nat} {spare : Nat → Bool} {held : Bool} {r : Reach} {b0 : Nat} {v : Value} {d : DataW H} {p : List MemPlace}
set_option maxRecDepth 100000 in
set_option maxHeartbeats 1000000 in
theorem open_odR (hv : Value.okWide Tryz.prog w r b0 50 v) (h : DataW.Trod enc Tryz.prog w base spare held 50 v d p) : ∃ x : Od, v = x.v ∧ Okb w w.heap.size x ∧ InR x := by
  obtain ⟨cs, rfl, _⟩ := okWide_struct Tryz.underlying50 hv
  obtain ⟨fuel, hf⟩ := h
  obtain ⟨x, hx, hok, hq⟩ := readsQ_od _ _ _ _ _ _ _ _ _ hf
  refine ⟨x, ?_, hok, hq⟩
  have hx2 : cs.toList = Od.cells x := hx
  rw [← Array.toArray_toList (xs := cs), hx2]
  rfl
set_option maxRecDepth 100000 in
set_option maxHeartbeats 1000000 in
theorem open_odsR (hv : Value.okWide Tryz.prog w r b0 22 v) (h : DataW.Trod enc Tryz.prog w base spare held 22 v d p) : ∃ A c, ∃ l : List Od, v = .slice A l.length c ∧ Sl w w.heap.size A c l ∧ ∀ x ∈ l, InR x := by
  obtain ⟨a, len, cap, rfl⟩ := okWide_slice Tryz.underlying22 hv
  obtain ⟨fuel, hf⟩ := h
  obtain ⟨A, c, l, hx, hs, hq⟩ := readsQ_slice Tryz.underlying22 cellsOd (by decide) readsQ_od hf
  have hx2 : [Value.slice a len cap] = [.slice A l.length c] := hx
  injection hx2 with hx3
  exact ⟨A, c, l, hx3, hs, hq⟩
end
end Go.Proofs.YtdkkblhfjblpkaaGreat

/- ask -/
namespace Go.Proofs.YtdkkblhfjblpkaaGreat
open Go.RowKit
/-- an Ask of an account -/
def askOd (seq : Int) (acct : ByteArray) : Od := ⟨0, seq, 7, acct, ⟨#[]⟩, 0, none, 0, [], 0, 0, ⟨#[]⟩⟩
end Go.Proofs.YtdkkblhfjblpkaaGreat

/- Clone, Grow, Concat at uint8 -/
namespace Go.Proofs.YtdkkblhfjblpkaaGreat
open Go.RowKit
theorem inf_byte : (Tryz.prog.info? 5).map (fun i => (i.zero, i.size, i.bytes)) = some (some (.int .u8 0), Enc.size UInt8, 1) := by kernel_rfl

set_option maxRecDepth 100000 in
set_option maxHeartbeats 400000 in
theorem grow_byte (n : Nat) (w : World) (hn : n ≤ 1000000000) :
    Calls Tryz.prog 224 #[.slice none 0 0, i64 n] w fun e w' => ∃ v, e = .returned v ∧ Own w' w.heap.size 5 v ([] : List UInt8) ∧ Below w.heap.size w w' := by
  rcases Nat.eq_zero_or_pos n with rfl | h0
  · go_enter Tryz.func224, Tryz.ntmps224
    go_wp2
    go_ret
    exact ⟨_, rfl, Own.nil_ _ _ _, Below.refl _ _⟩
  · obtain ⟨i, hi, hz, hz1, hz2⟩ := info_parts inf_byte
    have hrun := fun ty => Lib.run_append_nil_zeros (P := Tryz.prog) w 25 3 ty 5 i (.int .u8 0) .i64 .i64 Tryz.underlying25 Tryz.underlying3 hi hz n h0 (by rw [hz1]; decide) (by omega) (by rw [hz2]; omega)
    have hO := own_room (α := UInt8) w.drew w.heap.size 5 (grownCap w n 0 5) (Builtin.zeroCells (Value.cells (.int .u8 0)) n ++ Builtin.zeroCells (Value.cells (.int .u8 0)) (grownCap w n 0 5 - n)) (Nat.le_refl _) (grownCap_le_maxLen w n 0 _ (by simp only [maxLen]; omega)) (by
      rw [Array.size_append, size_zeroCells, size_zeroCells, show (Value.cells (.int .u8 0)).size = Enc.size UInt8 from rfl, ← Nat.add_mul]
      have := grownCap_ge w n 0 5
      rw [Nat.add_sub_cancel' this])
    have hb := ((Below.refl w.heap.size w).drew).alloc (Nat.le_refl _) (.cells (Builtin.zeroCells (Value.cells (.int .u8 0)) n ++ Builtin.zeroCells (Value.cells (.int .u8 0)) (grownCap w n 0 5 - n)) 5)
    have HO := Lib.hid hO
    have Hb := Lib.hid hb
    have Hrun := Lib.hid hrun
    clear hO hb hrun hi hz hz1 hz2
    generalize (Builtin.zeroCells (Value.cells (.int .u8 0)) n ++ Builtin.zeroCells (Value.cells (.int .u8 0)) (grownCap w n 0 5 - n)) = Z at *
    generalize grownCap w n 0 5 = gc at *
    go_enter Tryz.func224, Tryz.ntmps224
    go_wp2_with (at_builtin; refine Lib.wpList_append_run _ rfl (.tmp 20) (.tmp 21) _ _ rfl _ _ rfl rfl _ _ (Hrun.out _) ?_)
    go_ret
    exact ⟨_, rfl, HO.out, Hb.out⟩

set_option maxRecDepth 100000 in
set_option maxHeartbeats 1000000 in
theorem concat_byte (A : Option Addr) (c : Nat) (ss : List (SV UInt8)) (w : World) (h : Sl w w.heap.size A c ss) (hn : ss.length ≤ 65536) (ht : (ss.flatMap SV.l).length ≤ 65536) :
    Calls Tryz.prog 159 #[.slice A ss.length c] w fun e w' => ∃ v, e = .returned v ∧ Own w' w.heap.size 5 v (ss.flatMap SV.l) ∧ Below w.heap.size w w' := by
  have hpre : ∀ k, k ≤ ss.length → ((ss.take k).flatMap SV.l).length ≤ 65536 := fun k _ => by
    refine Nat.le_trans ?_ ht
    conv => rhs; rw [← List.take_append_drop k ss, List.flatMap_append, List.length_append]
    omega
  have hstep : ∀ k (hk : k < ss.length), (ss.take (k + 1)).flatMap SV.l = (ss.take k).flatMap SV.l ++ ss[k].l := fun k hk => by
    rw [List.take_succ_eq_append_getElem hk, List.flatMap_append]; simp
  have Hpre := Lib.hid hpre
  have Hstep := Lib.hid hstep
  clear hpre hstep
  go_enter Tryz.func159, Tryz.ntmps159
  go_wp2_with fail
  go_loop [3, 11] (fun sz i => ∃ k : Nat, k ≤ ss.length ∧ i = i64 k ∧ sz = i64 ((ss.take k).flatMap SV.l).length) (fun _ i => ss.length - (intOf i).toNat)
  case atStart => exact ⟨0, Nat.zero_le _, rfl, rfl⟩
  case round =>
    obtain ⟨k, hk, rfl, rfl⟩ := hrel
    have hpk := Hpre.out k hk
    by_cases hlt : k < ss.length
    · obtain ⟨b, o, rfl, hbb, -, d0⟩ := h.sv hlt
      have hpk1 := Hpre.out (k + 1) hlt
      have hl1 : ((ss.take (k + 1)).flatMap SV.l).length = ((ss.take k).flatMap SV.l).length + ss[k].l.length := by rw [Hstep.out k hlt, List.length_append]
      rw [hl1] at hpk1
      have Hl1 := Lib.hid hl1
      clear hl1
      generalize ((ss.take k).flatMap SV.l).length = p at *
      have hp1 : (p : Int) + (ss[k].l.length : Int) ≤ 65536 := by omega
      have hp0 : decide ((p : Int) + (ss[k].l.length : Int) < 0) = false := by rw [decide_eq_false_iff_not]; omega
      go_wp2
      go_round
      case rel => exact ⟨k + 1, by omega, by go_num, by rw [Hl1.out]; go_num⟩
      case measure => simp [intOf]; omega
    · obtain rfl : k = ss.length := by omega
      rw [List.take_length] at hpk ⊢
      clear ht
      generalize (ss.flatMap SV.l).length = q at *
      go_wp2_with fail
      refine (grow_byte _ _ (by omega)).mono ?_
      rintro e w1 ⟨v1, rfl, hO1, hb1⟩
      go_wp2_with fail
      go_loopw [6, 27] (fun v i wr => ∃ k : Nat, k ≤ ss.length ∧ i = i64 k ∧ Own wr w.heap.size 5 v ((ss.take k).flatMap SV.l) ∧ Below w.heap.size w wr) (fun _ i _ => ss.length - (intOf i).toNat)
      case atStart => exact ⟨0, Nat.zero_le _, rfl, hO1, hb1⟩
      case round =>
        obtain ⟨k, hk, rfl, hO, hb⟩ := hrel
        have hpk2 := Hpre.out k hk
        by_cases hlt : k < ss.length
        · obtain ⟨b, o, rfl, hbb, hok, d0⟩ := (h.below hb).sv hlt
          have hs := hok.mono (hO.oth (Nat.le_refl _) hb.size)
          have hpk1 := Hpre.out (k + 1) hlt
          rw [Hstep.out k hlt, List.length_append] at hpk1
          have HO := Lib.hid hO
          have Hs := Lib.hid hs
          clear hok hs hO1 hb1 hO
          go_wp2_with (at_builtin; refine wpList_append_slice rfl (some 33) (.tmp 31) (.tmp 32) 25 rfl rfl (.int .u8 0) 1 Tryz.underlying25 inf_byte rfl (by decide) (by decide) rfl HO.out ss[k].a ss[k].l.length ss[k].c ss[k].l rfl rfl Hs.out (by omega) hb.size ?_; intro v3 w3 hO3 hg3 hat3)
          go_roundw
          case rel => exact ⟨k + 1, by omega, by go_num, by rw [Hstep.out k hlt]; exact hO3, hb.trans (HO.out.below hg3 (Nat.le_refl _) hb.size)⟩
          case measure => simp [intOf]; omega
        · obtain rfl : k = ss.length := by omega
          rw [List.take_length] at hO
          go_wp2
          go_ret
          exact ⟨_, rfl, hO, hb⟩
end Go.Proofs.YtdkkblhfjblpkaaGreat
