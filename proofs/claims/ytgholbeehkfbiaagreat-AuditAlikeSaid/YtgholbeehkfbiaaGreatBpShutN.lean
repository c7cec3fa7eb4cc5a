/- What the frames use: numbers opened -/
import Derived.Test.YtgholbeehkfbiaaGreatRows
import Derived.Test.YtgholbeehkfbiaaGreatBm10
import Derived.WalkKit
import Derived.WalkSpells
import Derived.WalkLawsBesides
import Derived.Deep.QuietTactic
import Derived.BigQuiet
import Derived.Laws.StructEq
import Derived.Deep.DeepFit
import Derived.StillTailTactics
namespace Go.Proofs.YtgholbeehkfbiaaGreat
open Go.RowKit
open Go.ChangeShapes Go.WideShapes Go.Deep
section
variable {H : Type} {enc : TypeId × Value → H} {P : Program} {w : World} {base : Nat} {spare : Nat → Bool} {held : Bool} {r : Reach} {b0 : Nat} {v : Value} {d : DataW H} {p : List MemPlace}
set_option maxRecDepth 100000 in
set_option maxHeartbeats 1000000 in
theorem open_ns_of {t e : TypeId} (ht : P.underlying t = some (.slice e)) (he : P.underlying e = some (.int .i64)) (hC : P.cellsOf e = 1) (hv : Value.okWide P w r b0 t v) (h : DataW.Trod enc P w base spare held t v d p) : ∃ A c, ∃ l : List Int, v = .slice A l.length c ∧ Sl w w.heap.size A c l := by
  obtain ⟨a, len, cap, rfl⟩ := okWide_slice ht hv
  obtain ⟨fuel, hf⟩ := h
  obtain ⟨A, c, l, hx, hs⟩ := reads_slice (α := Int) ht hC (by decide) (reads_int he) hf
  have hx2 : [Value.slice a len cap] = [.slice A l.length c] := hx
  injection hx2 with hx3
  exact ⟨A, c, l, hx3, hs⟩
set_option maxRecDepth 100000 in
set_option maxHeartbeats 1000000 in
theorem okWide_array {t : TypeId} {n : Nat} {e : TypeId} (ht : P.underlying t = some (.array n e)) (h : Value.okWide P w r b0 t v) : ∃ cs, v = .agg cs ∧ cs.size = P.cellsOf t := by
  simp only [Value.okWide, ht] at h
  cases v <;> simp_all
set_option maxRecDepth 100000 in
set_option maxHeartbeats 1000000 in
theorem open_two_of {t e : TypeId} (ht : P.underlying t = some (.array 2 e)) (he : P.underlying e = some (.int .i64)) (hC : P.cellsOf e = 1) (hC2 : P.cellsOf t = 2) (hv : Value.okWide P w r b0 t v) (h : DataW.Trod enc P w base spare held t v d p) : ∃ x y : Int, v = .agg #[.int .i64 x, .int .i64 y] := by
  obtain ⟨cs, rfl, hsz⟩ := okWide_array ht hv
  obtain ⟨fuel, hf⟩ := h
  obtain ⟨cs⟩ := cs
  match cs, hsz.trans hC2 with
  | [c0, c1], _ =>
    obtain ⟨xs, m, _, _, _, hlen, hg⟩ := DataW.trod_array ht hf
    have h0 := hg 0 (by decide)
    have h1 := hg 1 (by decide)
    rw [List.getElem?_eq_getElem (by rw [hlen]; decide), hC] at h0 h1
    obtain ⟨x, e0, _, _⟩ := DataW.trod_int he h0
    obtain ⟨y, e1, _, _⟩ := DataW.trod_int he h1
    have e2 : [c0] = [.int .i64 x] := e0
    have e3 : [c1] = [.int .i64 y] := e1
    injection e2 with e2
    injection e3 with e3
    subst e2 e3
    exact ⟨x, y, rfl⟩
end
end Go.Proofs.YtgholbeehkfbiaaGreat
