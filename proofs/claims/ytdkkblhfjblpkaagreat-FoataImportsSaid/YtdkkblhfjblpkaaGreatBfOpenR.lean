/- Arguments as data, with their ranges: bytes, a reply, an Id -/
import Derived.Test.YtdkkblhfjblpkaaGreatRows
import Derived.Test.YtdkkblhfjblpkaaGreatBi10
import Derived.Test.YtdkkblhfjblpkaaGreatBi13
import Derived.WalkKit
import Derived.WalkSpells
import Derived.WalkLawsBesides
import Derived.Deep.QuietTactic
import Derived.BigQuiet
import Derived.Laws.StructEq
import Derived.Deep.DeepFit
import Derived.StillTailTactics
namespace Go.Proofs.YtdkkblhfjblpkaaGreat
open Go.RowKit
open Go.ChangeShapes Go.WideShapes Go.Deep
set_option maxRecDepth 100000 in
set_option maxHeartbeats 1000000 in
theorem cellsRp : Tryz.prog.cellsOf 44 = 4 := by kernel_rfl
set_option maxRecDepth 100000 in
set_option maxHeartbeats 1000000 in
theorem cellsU8 : Tryz.prog.cellsOf 5 = 1 := by kernel_rfl
set_option maxRecDepth 100000 in
set_option maxHeartbeats 1000000 in
theorem readsQ_u8 : ReadsQ UInt8 (fun _ => True) Tryz.prog 5 := fun _ _ _ _ _ _ _ _ _ h => by
  obtain ⟨n, rfl, _, hn⟩ := DataW.trod_int Tryz.underlying5 h
  have h2 : 0 ≤ n ∧ n ≤ 255 := by simpa [Lit.wf, IntKind.min, IntKind.max, IntKind.signed, IntKind.bits] using hn
  obtain ⟨h0, h1⟩ := h2
  refine ⟨n.toNat.toUInt8, ?_, trivial, trivial⟩
  have : (n.toNat.toUInt8).toNat = n.toNat := Lib.toUInt8_toNat (by omega)
  show [Value.int .u8 n] = [Value.int .u8 ((n.toNat.toUInt8).toNat : Int)]
  rw [this, Int.toNat_of_nonneg h0]
set_option maxRecDepth 100000 in
set_option maxHeartbeats 1000000 in
theorem reads_rp {H : Type} {enc : TypeId × Value → H} {w : World} {base : Nat} {spare : Nat → Bool} {held : Bool} {fuel : Nat} {cs : List Value} {x : DataW H × List MemPlace} (h : DataW.trod enc Tryz.prog w base spare held fuel 44 cs = some x) : ∃ r : Rp, cs = [i64 r.err, i64 r.hav, i64 r.set_, i64 r.num] ∧ InP r := by
  obtain ⟨xs, n, _, _, hl, hlen, hf⟩ := DataW.trod_struct Tryz.underlying44 h
  rw [cellsRp] at hl
  match cs, hl with
  | [c0, c1, c2, c3], _ =>
    have h0 : DataW.trod _ Tryz.prog _ _ _ _ n 26 ((([c0, c1, c2, c3] : List Value).drop 0).take (Tryz.prog.cellsOf 26)) = xs[0]? := hf 0 _ rfl
    have h1 : DataW.trod _ Tryz.prog _ _ _ _ n 2 ((([c0, c1, c2, c3] : List Value).drop 1).take (Tryz.prog.cellsOf 2)) = xs[1]? := hf 1 _ rfl
    have h2 : DataW.trod _ Tryz.prog _ _ _ _ n 2 ((([c0, c1, c2, c3] : List Value).drop 2).take (Tryz.prog.cellsOf 2)) = xs[2]? := hf 2 _ rfl
    have h3 : DataW.trod _ Tryz.prog _ _ _ _ n 3 ((([c0, c1, c2, c3] : List Value).drop 3).take (Tryz.prog.cellsOf 3)) = xs[3]? := hf 3 _ rfl
    simp only [show Tryz.prog.cellsOf 26 = 1 by kernel_rfl, cellsJ, cellsN, List.drop_succ_cons, List.drop_zero, List.take_succ_cons, List.take_zero] at h0 h1 h2 h3
    rw [List.getElem?_eq_getElem (by rw [hlen]; decide)] at h0 h1 h2 h3
    obtain ⟨v0, e0, _, q0⟩ := DataW.trod_int Tryz.underlying26 h0
    obtain ⟨v1, e1, _, q1⟩ := DataW.trod_int Tryz.underlying2 h1
    obtain ⟨v2, e2, _, q2⟩ := DataW.trod_int Tryz.underlying2 h2
    obtain ⟨v3, e3, _, q3⟩ := DataW.trod_int Tryz.underlying3 h3
    injection e0 with e0
    injection e1 with e1
    injection e2 with e2
    injection e3 with e3
    subst e0 e1 e2 e3
    exact ⟨⟨v0, v1, v2, v3⟩, rfl, R64.of_wf q0, R64.of_wf q1, R64.of_wf q2, R64.of_wf q3⟩
section
variable {H : Type} {enc : TypeId × Value → H} {w : World} {base : Nat} {spare : Nat → Bool} {held : Bool} {r : Reach} {b0 : Nat} {v : Value} {d : DataW H} {p : List MemPlace}
set_option maxRecDepth 100000 in
set_option maxHeartbeats 1000000 in
theorem open_rp (hv : Value.okWide Tryz.prog w r b0 44 v) (h : DataW.Trod enc Tryz.prog w base spare held 44 v d p) : ∃ x : Rp, v = x.v ∧ InP x := by
  obtain ⟨cs, rfl, _⟩ := okWide_struct Tryz.underlying44 hv
  obtain ⟨fuel, hf⟩ := h
  obtain ⟨x, hx, hq⟩ := reads_rp hf
  refine ⟨x, ?_, hq⟩
  have hx2 : cs.toList = [i64 x.err, i64 x.hav, i64 x.set_, i64 x.num] := hx
  rw [← Array.toArray_toList (xs := cs), hx2]
set_option maxRecDepth 100000 in
set_option maxHeartbeats 1000000 in
theorem open_bytes (hv : Value.okWide Tryz.prog w r b0 25 v) (h : DataW.Trod enc Tryz.prog w base spare held 25 v d p) : ∃ A c, ∃ l : List UInt8, v = .slice A l.length c ∧ Sl w w.heap.size A c l := by
  obtain ⟨a, len, cap, rfl⟩ := okWide_slice Tryz.underlying25 hv
  obtain ⟨fuel, hf⟩ := h
  obtain ⟨A, c, l, hx, hs, _⟩ := readsQ_slice Tryz.underlying25 cellsU8 (by decide) readsQ_u8 hf
  have hx2 : [Value.slice a len cap] = [.slice A l.length c] := hx
  injection hx2 with hx3
  exact ⟨A, c, l, hx3, hs⟩
end
end Go.Proofs.YtdkkblhfjblpkaaGreat
