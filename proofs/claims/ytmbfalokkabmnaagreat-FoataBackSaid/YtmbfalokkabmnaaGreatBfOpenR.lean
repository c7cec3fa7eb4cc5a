/- Arguments as data, with their ranges: bytes, a reply, an Id -/
import Derived.Test.YtmbfalokkabmnaaGreatRows
import Derived.Test.YtmbfalokkabmnaaGreatBh23
import Derived.Test.YtmbfalokkabmnaaGreatBh11
import Derived.WalkKit
import Derived.WalkSpells
import Derived.WalkLawsBesides
import Derived.Deep.QuietTactic
import Derived.BigQuiet
import Derived.Laws.StructEq
import Derived.Deep.DeepFit
import Derived.StillTailTactics
namespace Go.Proofs.YtmbfalokkabmnaaGreat
open Go.RowKit
open Go.ChangeShapes Go.WideShapes Go.Deep
set_option maxRecDepth 100000 in
set_option maxHeartbeats 1000000 in
theorem cellsU8 : Tryz.prog.cellsOf 5 = 1 := by kernel_rfl
set_option maxRecDepth 100000 in
set_option maxHeartbeats 1000000 in
theorem readsQ_u8 : ReadsQ UInt8 (fun _ => True) Tryz.prog 5 := fun _ _ _ _ _ _ _ _ _ h => by
  obtain ⟨n, rfl, _, hn⟩ := DataW.trod_int Tryz.underlying5 h
  have h2 : 0 ≤ n ∧ n ≤ 255 := by simpa [Lit.wf, IntKind.min, IntKind.max, IntKind.signed, IntKind.bits] using hn
  obtain ⟨h0, h1⟩ := h2
  refine ⟨n.toNat.toUInt8, ?_, trivial, trivial⟩
  have : (n.toNat.toUInt8).toNat = n.toNat := Lib.toUInt8_toNat (by omega)
  show [Value.int .u8 n] = [Value.int .u8 ((n.toNat.toUInt8).toNat : Int)]
  rw [this, Int.toNat_of_nonneg h0]
section
variable {H : Type} {enc : TypeId × Value → H} {w : World} {base : Nat} {spare : Nat → Bool} {held : Bool} {r : Reach} {b0 : Nat} {v : Value} {d : DataW H} {p : List MemPlace}
set_option maxRecDepth 100000 in
set_option maxHeartbeats 1000000 in
theorem open_bytes (hv : Value.okWide Tryz.prog w r b0 25 v) (h : DataW.Trod enc Tryz.prog w base spare held 25 v d p) : ∃ A c, ∃ l : List UInt8, v = .slice A l.length c ∧ Sl w w.heap.size A c l := by
  obtain ⟨a, len, cap, rfl⟩ := okWide_slice Tryz.underlying25 hv
  obtain ⟨fuel, hf⟩ := h
  obtain ⟨A, c, l, hx, hs, _⟩ := readsQ_slice Tryz.underlying25 cellsU8 (by decide) readsQ_u8 hf
  have hx2 : [Value.slice a len cap] = [.slice A l.length c] := hx
  injection hx2 with hx3
  exact ⟨A, c, l, hx3, hs⟩
end
end Go.Proofs.YtmbfalokkabmnaaGreat
