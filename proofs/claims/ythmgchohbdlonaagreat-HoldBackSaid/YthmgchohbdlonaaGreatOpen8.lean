/- Arguments as data: law08.Op -/
import Derived.Test.YthmgchohbdlonaaGreatRows
import Derived.Test.YthmgchohbdlonaaGreatOpenB
import Derived.Test.YthmgchohbdlonaaGreatShutB
import Derived.Test.YthmgchohbdlonaaGreatHnil
import Derived.WalkKit
import Derived.WalkSpells
import Derived.WalkLawsBesides
import Derived.Deep.QuietTactic
import Derived.BigQuiet
import Derived.Laws.StructEq
import Derived.Deep.DeepFit
import Derived.StillTailTactics
namespace Go.Proofs.YthmgchohbdlonaaGreat
open Go.RowKit
open Go.ChangeShapes Go.WideShapes Go.Deep
theorem R64.of_wf8 {n : Int} (h : (Lit.int .i64 n).wf = true) : R64 n := by
  simpa [Lit.wf, IntKind.min, IntKind.max, IntKind.signed, IntKind.bits, R64] using h
set_option maxRecDepth 100000 in
set_option maxHeartbeats 1000000 in
theorem cellsOp8 : Tryz.prog.cellsOf 38 = 5 := by kernel_rfl
set_option maxRecDepth 100000 in
set_option maxHeartbeats 1000000 in
theorem cellsS8 : Tryz.prog.cellsOf 9 = 1 := by kernel_rfl
set_option maxRecDepth 100000 in
set_option maxHeartbeats 1000000 in
theorem cellsN8 : Tryz.prog.cellsOf 3 = 1 := by kernel_rfl
set_option maxRecDepth 100000 in
set_option maxHeartbeats 1000000 in
theorem cellsJ8 : Tryz.prog.cellsOf 2 = 1 := by kernel_rfl
set_option maxRecDepth 100000 in
set_option maxHeartbeats 1000000 in
theorem reads_op8 : Reads Op8 Tryz.prog 38 := fun _ _ _ _ _ _ _ cs _ h => by
  obtain ⟨xs, n, _, _, hl, hlen, hf⟩ := DataW.trod_struct Tryz.underlying38 h
  rw [cellsOp8] at hl
  match cs, hl with
  | [c0, c1, c2, c3, c4], _ =>
    have h0 : DataW.trod _ Tryz.prog _ _ _ _ n 3 ((([c0, c1, c2, c3, c4] : List Value).drop 0).take (Tryz.prog.cellsOf 3)) = xs[0]? := hf 0 _ rfl
    have h1 : DataW.trod _ Tryz.prog _ _ _ _ n 3 ((([c0, c1, c2, c3, c4] : List Value).drop 1).take (Tryz.prog.cellsOf 3)) = xs[1]? := hf 1 _ rfl
    have h2 : DataW.trod _ Tryz.prog _ _ _ _ n 9 ((([c0, c1, c2, c3, c4] : List Value).drop 2).take (Tryz.prog.cellsOf 9)) = xs[2]? := hf 2 _ rfl
    have h3 : DataW.trod _ Tryz.prog _ _ _ _ n 9 ((([c0, c1, c2, c3, c4] : List Value).drop 3).take (Tryz.prog.cellsOf 9)) = xs[3]? := hf 3 _ rfl
    have h4 : DataW.trod _ Tryz.prog _ _ _ _ n 2 ((([c0, c1, c2, c3, c4] : List Value).drop 4).take (Tryz.prog.cellsOf 2)) = xs[4]? := hf 4 _ rfl
    simp only [cellsS8, cellsJ8, cellsN8, List.drop_succ_cons, List.drop_zero, List.take_succ_cons, List.take_zero] at h0 h1 h2 h3 h4
    rw [List.getElem?_eq_getElem (by rw [hlen]; decide)] at h0 h1 h2 h3 h4
    obtain ⟨v0, e0, _, _⟩ := DataW.trod_int Tryz.underlying3 h0
    obtain ⟨v1, e1, _, _⟩ := DataW.trod_int Tryz.underlying3 h1
    obtain ⟨v2, e2, _, s2⟩ := DataW.trod_string Tryz.underlying9 h2
    obtain ⟨v3, e3, _, s3⟩ := DataW.trod_string Tryz.underlying9 h3
    obtain ⟨v4, e4, _, s4⟩ := DataW.trod_int Tryz.underlying2 h4
    injection e0 with e0
    injection e1 with e1
    injection e2 with e2
    injection e3 with e3
    injection e4 with e4
    subst e0 e1 e2 e3 e4
    exact ⟨⟨v0, v1, v2, v3, v4⟩, rfl, s2, s3, R64.of_wf8 s4⟩
section
variable {H : Type} {enc : TypeId × Value → H} {w : World} {base : Nat} {spare : Nat → Bool} {held : Bool} {r : Reach} {b0 : Nat} {v : Value} {d : DataW H} {p : List MemPlace}
set_option maxRecDepth 100000 in
set_option maxHeartbeats 1000000 in
theorem open_op8 (hv : Value.okWide Tryz.prog w r b0 38 v) (h : DataW.Trod enc Tryz.prog w base spare held 38 v d p) : ∃ x : Op8, v = x.v ∧ Okb w w.heap.size x := by
  obtain ⟨cs, rfl, _⟩ := okWide_struct Tryz.underlying38 hv
  obtain ⟨fuel, hf⟩ := h
  obtain ⟨x, hx, hok⟩ := reads_op8 _ _ _ _ _ _ _ _ _ hf
  refine ⟨x, ?_, hok⟩
  have hx2 : cs.toList = Enc.cells x := hx
  rw [← Array.toArray_toList (xs := cs), hx2]
  rfl
end
section
variable {H : Type} {enc : TypeId × Value → H} {w : World} {base : Nat} {spare : Nat → Bool} {held : Bool} {r : Reach} {b0 : Nat} {v : Value} {d : DataW H} {p : List MemPlace}
set_option maxRecDepth 100000 in
set_option maxHeartbeats 1000000 in
theorem open_num {t : TypeId} (ht : Tryz.prog.underlying t = some (.int .i64)) (hv : Value.okWide Tryz.prog w r b0 t v) (h : DataW.Trod enc Tryz.prog w base spare held t v d p) : ∃ n : Int, v = i64 n ∧ R64 n := by
  obtain ⟨n, rfl, _, _, hw⟩ := Go.ChangeShapes.open_int ht hv h
  exact ⟨n, rfl, R64.of_wf8 hw⟩
end
section
variable {H : Type} {enc : TypeId × Value → H} {w : World} {base : Nat} {spare : Nat → Bool} {held : Bool} {r : Reach} {b0 : Nat} {v : Value} {d : DataW H} {p : List MemPlace}
set_option maxRecDepth 100000 in
set_option maxHeartbeats 1000000 in
theorem open_op8s {t : TypeId} (ht : Tryz.prog.underlying t = some (.slice 38)) (hv : Value.okWide Tryz.prog w r b0 t v) (h : DataW.Trod enc Tryz.prog w base spare held t v d p) : ∃ A c, ∃ l : List Op8, v = .slice A l.length c ∧ Sl w w.heap.size A c l := by
  obtain ⟨a, len, cap, rfl⟩ := okWide_slice ht hv
  obtain ⟨fuel, hf⟩ := h
  obtain ⟨A, c, l, hx, hs⟩ := reads_slice ht cellsOp8 (by decide) reads_op8 hf
  have hx2 : [Value.slice a len cap] = [.slice A l.length c] := hx
  injection hx2 with hx3
  exact ⟨A, c, l, hx3, hs⟩
end
end Go.Proofs.YthmgchohbdlonaaGreat
