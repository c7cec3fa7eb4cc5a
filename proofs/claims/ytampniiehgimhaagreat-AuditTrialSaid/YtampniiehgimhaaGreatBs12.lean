/- Texts of this claim, laid together. -/
import Derived.Test.YtampniiehgimhaaGreatRows
import Derived.Test.YtampniiehgimhaaGreatBs11
import Derived.WalkKit
import Derived.WalkSpells
import Derived.WalkLawsBesides
import Derived.Deep.QuietTactic
import Derived.BigQuiet
import Derived.Laws.StructEq
import Derived.Deep.DeepFit
import Derived.StillTailTactics
import Derived.ShutString
import Derived.Below
import Derived.Test.YtampniiehgimhaaGreatBs8

/- Arguments as data: an order, as the statement reads it -/
namespace Go.Proofs.YtampniiehgimhaaGreat
open Go.RowKit
open Go.ChangeShapes Go.WideShapes Go.Deep
set_option maxRecDepth 100000 in
set_option maxHeartbeats 1000000 in
theorem cellsLeg : Tryz.prog.cellsOf 167 = 2 := by kernel_rfl
set_option maxRecDepth 100000 in
set_option maxHeartbeats 1000000 in
theorem cellsOd : Tryz.prog.cellsOf 37 = 10 := by kernel_rfl
set_option maxRecDepth 100000 in
set_option maxHeartbeats 1000000 in
theorem cellsId : Tryz.prog.cellsOf 34 = 2 := by kernel_rfl
set_option maxRecDepth 100000 in
set_option maxHeartbeats 1000000 in
theorem cellsS : Tryz.prog.cellsOf 9 = 1 := by kernel_rfl
set_option maxRecDepth 100000 in
set_option maxHeartbeats 1000000 in
theorem cellsN : Tryz.prog.cellsOf 3 = 1 := by kernel_rfl
set_option maxRecDepth 100000 in
set_option maxHeartbeats 1000000 in
theorem cellsJ : Tryz.prog.cellsOf 2 = 1 := by kernel_rfl
set_option maxRecDepth 100000 in
set_option maxHeartbeats 1000000 in
theorem cellsLs : Tryz.prog.cellsOf 35 = 1 := by kernel_rfl
end Go.Proofs.YtampniiehgimhaaGreat
/- What the frames of the statements use -/
namespace Go.Proofs.YtampniiehgimhaaGreat
open Go.RowKit
open Go.ChangeShapes Go.WideShapes Go.Deep
set_option maxRecDepth 100000 in
set_option maxHeartbeats 1000000 in
theorem ownKnob_none : ownKnob Tryz.prog.godebug = none := by kernel_rfl
set_option maxRecDepth 100000 in
set_option maxHeartbeats 1000000 in
theorem laidOut : laidOutB Tryz.prog = true := by kernel_rfl
end Go.Proofs.YtampniiehgimhaaGreat
/- What the frames of the statements use: the arguments opened -/
namespace Go.Proofs.YtampniiehgimhaaGreat
open Go.RowKit
open Go.ChangeShapes Go.WideShapes Go.Deep
section
variable {H : Type} {enc : TypeId × Value → H} {w : World} {base : Nat} {spare : Nat → Bool} {held : Bool} {r : Reach} {b0 : Nat} {v : Value} {d : DataW H} {p : List MemPlace}
end
end Go.Proofs.YtampniiehgimhaaGreat
/- Arguments as data, with their ranges: an order, orders -/
namespace Go.Proofs.YtampniiehgimhaaGreat
open Go.RowKit
open Go.ChangeShapes Go.WideShapes Go.Deep
theorem R64.of_wf {n : Int} (h : (Lit.int .i64 n).wf = true) : R64 n := by
 simpa [Lit.wf, IntKind.min, IntKind.max, IntKind.signed, IntKind.bits, R64] using h
/-- whatever reads as a datum of type t is one of α's, and Q -/
def ReadsQ (α : Type) [Enc α] (Q : α → Prop) (P : Program) (t : TypeId) : Prop :=
 ∀ (H : Type) (enc : TypeId × Value → H) (w : World) (base : Nat) (spare : Nat → Bool) (held : Bool) (fuel : Nat) (cs : List Value) (x : DataW H × List MemPlace), DataW.trod enc P w base spare held fuel t cs = some x → ∃ a : α, cs = Enc.cells a ∧ Okb w w.heap.size a ∧ Q a
section
variable {α : Type} [Enc α] {P : Program}
set_option maxRecDepth 100000 in
set_option maxHeartbeats 1000000 in
theorem readsQ_slice {Q : α → Prop} {t e : TypeId} (ht : P.underlying t = some (.slice e)) (hC : P.cellsOf e = Enc.size α) (hsz : 0 < Enc.size α) (hr : ReadsQ α Q P e) {H : Type} {enc : TypeId × Value → H} {w : World} {base : Nat} {spare : Nat → Bool} {held : Bool} {fuel : Nat} {cs : List Value} {x : DataW H × List MemPlace}
  (h : DataW.trod enc P w base spare held fuel t cs = some x) : ∃ A c, ∃ l : List α, cs = [.slice A l.length c] ∧ Sl w w.heap.size A c l ∧ ∀ y ∈ l, Q y := by
 rcases open_slice ht h with ⟨rfl, _⟩ | ⟨a, len, cap, m, n, D, Pl, rfl, hb, hl, hm, hmm, _, hi⟩
 ·exact ⟨none, 0, [], rfl, SlS.nil_ _ _, by simp⟩
 ·have hlm : len ≤ m := by rw [hmm]; split <;> omega
  obtain ⟨l, hll, hq⟩ := list_choose (Q := fun i (y : α) => ((∀ j, j < Enc.size α → w.cell? ((a.add (i * Enc.size α)).add j) = (Enc.cells y)[j]?) ∧ Okb w w.heap.size y) ∧ Q y) len (fun i hil => by
   obtain ⟨cs', hc, ht'⟩ := hi i (by omega)
   rw [hC] at hc
   obtain ⟨y, rfl, hy, hQ⟩ := hr _ _ _ _ _ _ _ _ _ ht'
   exact ⟨y, ⟨(World.cells?_some hc).2.2, hy⟩, hQ⟩)
  subst hll
  have hqq : ∀ y ∈ l, Q y := fun y hy => by obtain ⟨i, hi, rfl⟩ := List.getElem_of_mem hy; exact (hq i hi).2
  have hq := fun i hi => (hq i hi).1
  refine ⟨some a, cap, l, rfl, ⟨hl, hm, fun hn => ?_, fun y hy => ?_⟩, hqq⟩
  ·obtain ⟨b, o, s⟩ := a
   have hc := fun i (hi : i < l.length) j (hj : j < Enc.size α) => (hq i hi).1 j hj
   have h0 := hc 0 hn 0 hsz
   rw [List.getElem?_eq_getElem (by rw [Enc.len]; exact hsz)] at h0
   rw [Nat.zero_mul, add_zero_, add_zero_] at h0
   have hs : s = none := World.cell?_spot h0
   subst hs
   have hlt := World.block_lt_of_cell? w _ h0
   refine ⟨b, o, rfl, hlt, fun j u hu => ?_⟩
   have hj := (List.getElem?_eq_some_iff.1 hu).1
   rw [flat_len] at hj
   have hjk : j / Enc.size α < l.length := by rw [Nat.div_lt_iff_lt_mul hsz]; exact hj
   have hjm : j % Enc.size α < Enc.size α := Nat.mod_lt _ hsz
   have e1 : j / Enc.size α * Enc.size α + j % Enc.size α = j := by rw [Nat.mul_comm]; exact Nat.div_add_mod _ _
   have h1 := hc _ hjk _ hjm
   rw [← flat_get l _ _ hjk hjm, e1, hu] at h1
   rw [add_none, add_none, Nat.add_assoc, e1] at h1
   exact h1
  ·obtain ⟨i, hi, rfl⟩ := List.getElem_of_mem hy
   exact (hq i hi).2
end
set_option maxRecDepth 100000 in
set_option maxHeartbeats 1000000 in
theorem readsQ_leg : ReadsQ Leg (fun y => R64 y.sum) Tryz.prog 167 := fun _ _ _ _ _ _ _ cs _ h => by
 obtain ⟨xs, n, _, _, hl, hlen, hf⟩ := DataW.trod_struct Tryz.underlying167 h
 rw [cellsLeg] at hl
 match cs, hl with
 | [c0, c1], _ =>
  have h0 : DataW.trod _ Tryz.prog _ _ _ _ n 9 ((([c0, c1] : List Value).drop 0).take (Tryz.prog.cellsOf 9)) = xs[0]? := hf 0 _ rfl
  have h1 : DataW.trod _ Tryz.prog _ _ _ _ n 2 ((([c0, c1] : List Value).drop 1).take (Tryz.prog.cellsOf 2)) = xs[1]? := hf 1 _ rfl
  simp only [cellsS, cellsJ, List.drop_succ_cons, List.drop_zero, List.take_succ_cons, List.take_zero] at h0 h1
  rw [List.getElem?_eq_getElem (by rw [hlen]; decide)] at h0 h1
  obtain ⟨s, e0, _, hs⟩ := DataW.trod_string Tryz.underlying9 h0
  obtain ⟨m, e1, _, hm⟩ := DataW.trod_int Tryz.underlying2 h1
  injection e0 with e0
  injection e1 with e1
  subst e0 e1
  exact ⟨⟨s, m⟩, rfl, hs, R64.of_wf hm⟩
set_option maxRecDepth 100000 in
set_option maxHeartbeats 1000000 in
theorem readsQ_od : ReadsQ Od InR Tryz.prog 37 := fun _ _ _ _ _ _ _ cs _ h => by
 obtain ⟨xs, n, _, _, hl, hlen, hf⟩ := DataW.trod_struct Tryz.underlying37 h
 rw [cellsOd] at hl
 match cs, hl with
 | [c0, c1, c2, c3, c4, c5, c6, c7, c8, c9], _ =>
  have h0 : DataW.trod _ Tryz.prog _ _ _ _ n 34 ((([c0, c1, c2, c3, c4, c5, c6, c7, c8, c9] : List Value).drop 0).take (Tryz.prog.cellsOf 34)) = xs[0]? := hf 0 _ rfl
  have h1 : DataW.trod _ Tryz.prog _ _ _ _ n 3 ((([c0, c1, c2, c3, c4, c5, c6, c7, c8, c9] : List Value).drop 2).take (Tryz.prog.cellsOf 3)) = xs[1]? := hf 1 _ rfl
  have h2 : DataW.trod _ Tryz.prog _ _ _ _ n 9 ((([c0, c1, c2, c3, c4, c5, c6, c7, c8, c9] : List Value).drop 3).take (Tryz.prog.cellsOf 9)) = xs[2]? := hf 2 _ rfl
  have h3 : DataW.trod _ Tryz.prog _ _ _ _ n 9 ((([c0, c1, c2, c3, c4, c5, c6, c7, c8, c9] : List Value).drop 4).take (Tryz.prog.cellsOf 9)) = xs[3]? := hf 3 _ rfl
  have h4 : DataW.trod _ Tryz.prog _ _ _ _ n 2 ((([c0, c1, c2, c3, c4, c5, c6, c7, c8, c9] : List Value).drop 5).take (Tryz.prog.cellsOf 2)) = xs[4]? := hf 4 _ rfl
  have h5 : DataW.trod _ Tryz.prog _ _ _ _ n 35 ((([c0, c1, c2, c3, c4, c5, c6, c7, c8, c9] : List Value).drop 6).take (Tryz.prog.cellsOf 35)) = xs[5]? := hf 5 _ rfl
  have h6 : DataW.trod _ Tryz.prog _ _ _ _ n 3 ((([c0, c1, c2, c3, c4, c5, c6, c7, c8, c9] : List Value).drop 7).take (Tryz.prog.cellsOf 3)) = xs[6]? := hf 6 _ rfl
  have h7 : DataW.trod _ Tryz.prog _ _ _ _ n 3 ((([c0, c1, c2, c3, c4, c5, c6, c7, c8, c9] : List Value).drop 8).take (Tryz.prog.cellsOf 3)) = xs[7]? := hf 7 _ rfl
  have h8 : DataW.trod _ Tryz.prog _ _ _ _ n 9 ((([c0, c1, c2, c3, c4, c5, c6, c7, c8, c9] : List Value).drop 9).take (Tryz.prog.cellsOf 9)) = xs[8]? := hf 8 _ rfl
  simp only [cellsS, cellsJ, cellsN, cellsId, cellsLs, List.drop_succ_cons, List.drop_zero, List.take_succ_cons, List.take_zero] at h0 h1 h2 h3 h4 h5 h6 h7 h8
  rw [List.getElem?_eq_getElem (by rw [hlen]; decide)] at h0 h1 h2 h3 h4 h5 h6 h7 h8
  obtain ⟨ys, n', _, _, _, hlen', hf'⟩ := DataW.trod_struct Tryz.underlying34 h0
  have g0 : DataW.trod _ Tryz.prog _ _ _ _ n' 3 ((([c0, c1] : List Value).drop 0).take (Tryz.prog.cellsOf 3)) = ys[0]? := hf' 0 _ rfl
  have g1 : DataW.trod _ Tryz.prog _ _ _ _ n' 3 ((([c0, c1] : List Value).drop 1).take (Tryz.prog.cellsOf 3)) = ys[1]? := hf' 1 _ rfl
  simp only [cellsN, List.drop_succ_cons, List.drop_zero, List.take_succ_cons, List.take_zero] at g0 g1
  rw [List.getElem?_eq_getElem (by rw [hlen']; decide)] at g0 g1
  obtain ⟨v0, e0, _, q0⟩ := DataW.trod_int Tryz.underlying3 g0
  obtain ⟨v1, e1, _, q1⟩ := DataW.trod_int Tryz.underlying3 g1
  obtain ⟨v2, e2, _, q2⟩ := DataW.trod_int Tryz.underlying3 h1
  obtain ⟨v3, e3, _, s3⟩ := DataW.trod_string Tryz.underlying9 h2
  obtain ⟨v4, e4, _, s4⟩ := DataW.trod_string Tryz.underlying9 h3
  obtain ⟨v5, e5, _, q5⟩ := DataW.trod_int Tryz.underlying2 h4
  obtain ⟨A, c, l, e6, s6, q6⟩ := readsQ_slice Tryz.underlying35 cellsLeg (by decide) readsQ_leg h5
  obtain ⟨v7, e7, _, q7⟩ := DataW.trod_int Tryz.underlying3 h6
  obtain ⟨v8, e8, _, q8⟩ := DataW.trod_int Tryz.underlying3 h7
  obtain ⟨v9, e9, _, s9⟩ := DataW.trod_string Tryz.underlying9 h8
  injection e0 with e0
  injection e1 with e1
  injection e2 with e2
  injection e3 with e3
  injection e4 with e4
  injection e5 with e5
  injection e6 with e6
  injection e7 with e7
  injection e8 with e8
  injection e9 with e9
  subst e0 e1 e2 e3 e4 e5 e6 e7 e8 e9
  exact ⟨⟨v0, v1, v2, v3, v4, v5, A, c, l, v7, v8, v9⟩, rfl, ⟨s3, s4, s9, s6⟩, R64.of_wf q0, R64.of_wf q1, R64.of_wf q2, R64.of_wf q5, R64.of_wf q7, R64.of_wf q8, q6⟩
section
variable {H : Type} {enc : TypeId × Value → H} {w : World} {base : Nat} {spare : Nat → Bool} {held : Bool} {r : Reach} {b0 : Nat} {v : Value} {d : DataW H} {p : List MemPlace}
end
end Go.Proofs.YtampniiehgimhaaGreat
/- replies: rows of them, and what is the same -/
namespace Go.Proofs.YtampniiehgimhaaGreat
open Go.RowKit
abbrev tA : ByteArray := ⟨#[97]⟩
theorem Rp.ext_ {a b : Rp} (h1 : a.err = b.err) (h2 : a.hav = b.hav) (h3 : a.set_ = b.set_) (h4 : a.num = b.num) : a = b := by cases a; cases b; simp_all
end Go.Proofs.YtampniiehgimhaaGreat
