/- A slice that is made: so many equal cells. No program. -/
import Derived.Test.YtogipnfhcimeoaaGreatBc4
import Derived.Test.YtogipnfhcimeoaaGreatBc1
import Derived.Laws.MakeOwn
namespace Go.Proofs.YtogipnfhcimeoaaGreat
open Go.RowKit
theorem madeCells_one (c : Value) (n : Nat) : (madeCells #[c] n).toList = List.replicate n c := by
  refine List.ext_getElem (by simp [madeCells]) fun i h1 h2 => ?_
  simp [madeCells, Nat.mod_one]
section
variable {α : Type} [Enc α]
theorem flat_rep {z : α} {c : Value} (h : Enc.cells z = [c]) : ∀ n : Nat, (List.replicate n z).flatMap Enc.cells = List.replicate n c
  | 0 => rfl
  | n + 1 => by rw [List.replicate_succ, List.flatMap_cons, h, flat_rep h n]; rfl
/-- make([]T, n), of a type of one cell -/
theorem make_own {P : Program} (w : World) (base : Nat) (t e : TypeId) (z : Value) (bytes : Nat) (ht : P.underlying t = some (.slice e)) (hinf : (P.info? e).map (fun i => (i.zero, i.size, i.bytes)) = some (some z, Enc.size α, bytes)) (hby : bytes ≤ 1000)
    (z0 : α) (c : Value) (hz : z.cells = #[c]) (hc : Enc.cells z0 = [c]) (h1 : Enc.size α = 1) (hok : ∀ W S, Enc.ok W S z0) (n : Nat) (hn : n ≤ 65536) (hbase : base ≤ w.heap.size) :
    (Instr.makeSlice t (.int .i64 (n : Int)) (.int .i64 (n : Int))).run P w = .ok (.slice (some ⟨w.heap.size, 0, none⟩) n n) (w.alloc (.cells (Array.replicate n c) e)) ∧
      Own (w.alloc (.cells (Array.replicate n c) e)) base e (.slice (some ⟨w.heap.size, 0, none⟩) n n) (List.replicate n z0) := by
  obtain ⟨i, hi, hz0, hz1, hz2⟩ := info_parts hinf
  have hr := run_make (P := P) w t e i z ht hi hz0 .i64 .i64 n n (by omega) (Int.le_refl _) (by rw [hz2]; have : (bytes : Int) * (n : Int) ≤ 1000 * 1000000000 := Int.mul_le_mul (by omega) (by omega) (by omega) (by omega); omega) (by omega)
  rw [Int.toNat_natCast, hz1, h1, Nat.mul_one, hz] at hr
  have e1 : madeCells #[c] n = Array.replicate n c := by
    rw [← List.toArray_replicate, ← madeCells_one c n, Array.toArray_toList]
  rw [e1] at hr
  refine ⟨hr, ?_⟩
  have := own_lit (w := w) (base := base) e (Array.replicate n c) (List.replicate n z0) hbase (by rw [flat_rep hc, Array.toList_replicate]) (by rw [List.length_replicate]; exact hn) (fun x hx => by rw [List.eq_of_mem_replicate hx]; exact hok _ _)
  simpa using this
end
end Go.Proofs.YtogipnfhcimeoaaGreat
