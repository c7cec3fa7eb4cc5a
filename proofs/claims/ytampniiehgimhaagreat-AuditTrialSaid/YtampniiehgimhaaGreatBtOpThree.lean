/- What AuditTrial's frame uses: an array of three -/
import Derived.Test.YtampniiehgimhaaGreatRows
import Derived.Test.YtampniiehgimhaaGreatBtShutN
import Derived.WalkKit
import Derived.WalkSpells
import Derived.WalkLawsBesides
import Derived.Deep.QuietTactic
import Derived.BigQuiet
import Derived.Laws.StructEq
import Derived.Deep.DeepFit
import Derived.StillTailTactics
import Derived.Test.YtampniiehgimhaaGreatBtX

namespace Go.Proofs.YtampniiehgimhaaGreat
open Go.RowKit
open Go.ChangeShapes Go.WideShapes Go.Deep
section
variable {H : Type} {enc : TypeId × Value → H} {P : Program} {w : World} {base : Nat} {spare : Nat → Bool} {held : Bool} {r : Reach} {b0 : Nat} {v : Value} {d : DataW H} {p : List MemPlace}
set_option maxRecDepth 100000 in
set_option maxHeartbeats 1000000 in
theorem open_three_of {t e : TypeId} (ht : P.underlying t = some (.array 3 e)) (he : P.underlying e = some (.int .i64)) (hC : P.cellsOf e = 1) (hC2 : P.cellsOf t = 3) (hv : Value.okWide P w r b0 t v) (h : DataW.Trod enc P w base spare held t v d p) : ∃ x y z : Int, v = .agg #[.int .i64 x, .int .i64 y, .int .i64 z] := by
 obtain ⟨cs, rfl, hsz⟩ := okWide_array ht hv
 obtain ⟨fuel, hf⟩ := h
 obtain ⟨cs⟩ := cs
 match cs, hsz.trans hC2 with
 | [c0, c1, c2], _ =>
  obtain ⟨xs, m, _, _, _, hlen, hg⟩ := DataW.trod_array ht hf
  have h0 := hg 0 (by decide)
  have h1 := hg 1 (by decide)
  have h2 := hg 2 (by decide)
  rw [List.getElem?_eq_getElem (by rw [hlen]; decide), hC] at h0 h1 h2
  obtain ⟨x, e0, _, _⟩ := DataW.trod_int he h0
  obtain ⟨y, e1, _, _⟩ := DataW.trod_int he h1
  obtain ⟨z, e9, _, _⟩ := DataW.trod_int he h2
  have e2 : [c0] = [.int .i64 x] := e0
  have e3 : [c1] = [.int .i64 y] := e1
  have e4 : [c2] = [.int .i64 z] := e9
  injection e2 with e2
  injection e3 with e3
  injection e4 with e4
  subst e2 e3 e4
  exact ⟨x, y, z, rfl⟩
end
section
variable {H : Type} {enc : TypeId × Value → H} {w : World} {base : Nat} {spare : Nat → Bool} {held : Bool} {r : Reach} {b0 : Nat} {v : Value} {d : DataW H} {p : List MemPlace}
set_option maxRecDepth 100000 in
set_option maxHeartbeats 1000000 in
theorem open_three (hv : Value.okWide Tryz.prog w r b0 94 v) (h : DataW.Trod enc Tryz.prog w base spare held 94 v d p) : ∃ x y z : Int, v = .agg #[.int .i64 x, .int .i64 y, .int .i64 z] :=
 open_three_of Tryz.underlying94 Tryz.underlying3 cellsN (by kernel_rfl) hv h
end
end Go.Proofs.YtampniiehgimhaaGreat
