/- pack.Text -/
import Derived.Test.YtogecfddkohigaaRows
import Derived.Test.YtogecfddkohigaaNum
import Derived.Lib.ConvBytes
import Derived.WalkKit
import Derived.WalkSpells
import Derived.WalkLawsBesides
import Derived.Deep.QuietTactic
import Derived.BigQuiet
import Derived.Laws.StructEq
import Derived.Deep.DeepFit
import Derived.StillTailTactics
namespace Go.Proofs.Ytogecfddkohigaa
open Go.RowKit
theorem below_bytes (w : World) (e : TypeId) (s : ByteArray) : Below w.heap.size w (Lib.bytesWorld w e s) := by
  have h := (Below.refl w.heap.size w).drew.alloc (Nat.le_refl _) (.cells (Lib.bytesCells w e s) e)
  exact ⟨h.os, h.tape, h.output, by rw [Lib.bytesWorld_size]; omega, fun b hb => Lib.bytesWorld_at_old w e s b hb⟩
theorem flat_byte (l : List UInt8) (j : Nat) : (l.flatMap (Enc.cells (α := UInt8)))[j]? = l[j]?.map fun b => Value.int .u8 b.toNat := by
  rw [show l.flatMap (Enc.cells (α := UInt8)) = l.map fun b => Value.int .u8 b.toNat from by
    induction l with
    | nil => rfl
    | cons x r ih => rw [List.flatMap_cons, List.map_cons, ih]; rfl, List.getElem?_map]
theorem sl_bytes (w : World) (e : TypeId) (s : ByteArray) (hs : s.size ≤ 60000) : Sl (Lib.bytesWorld w e s) (Lib.bytesWorld w e s).heap.size (some ⟨w.heap.size, 0, none⟩) (grownCap w s.size 0 e) s.data.toList := by
  refine ⟨?_, ?_, fun _ => ⟨w.heap.size, 0, rfl, ?_, fun j u hu => ?_⟩, fun _ _ => trivial⟩
  · have := grownCap_ge w s.size 0 e
    simpa using this
  · exact grownCap_le_maxLen w s.size 0 e (by simp only [maxLen]; omega)
  · rw [Lib.bytesWorld_size]; exact Nat.lt_succ_self _
  · rw [flat_byte] at hu
    have hj : j < s.data.toList.length := by
      rcases Nat.lt_or_ge j s.data.toList.length with h | h
      · exact h
      · rw [List.getElem?_eq_none h] at hu; simp at hu
    rw [List.getElem?_eq_getElem hj] at hu
    simp only [Option.map_some, Option.some.injEq] at hu
    rw [Nat.zero_add, Lib.bytesWorld_cell w e s j (by simpa using hj), ← hu, List.getD_eq_getElem?_getD, List.getElem?_eq_getElem hj]
    rfl
/-- a text's bytes -/
abbrev textB (s : ByteArray) : List UInt8 := numB s.size ++ s.data.toList
set_option maxRecDepth 100000 in
set_option maxHeartbeats 1000000 in
theorem text_c (s : ByteArray) (w : World) (hs : s.size ≤ 60000) :
    Calls Try.prog 60 #[.string s] w fun e w' => ∃ v, e = .returned v ∧ Own w' w.heap.size 5 v (textB s) ∧ Below w.heap.size w w' := by
  have hN := Lib.hid (num_c s.size w (by omega) (by omega))
  have hnl : (numB s.size).length ≤ 10 := uvarint_le (Lib.zigzag_lt (by omega) (by omega))
  have hc : ∀ W, (convert 9 36 (.string s)).run Try.prog W = .ok (.slice (some ⟨W.heap.size, 0, none⟩) s.size (grownCap W s.size 0 5)) (Lib.bytesWorld W 5 s) := fun W => Lib.run_convert_string_bytes W _ _ _ s Try.underlying9 Try.underlying36 Try.underlying5
  unfold textB
  generalize numB s.size = nb at hN hnl ⊢
  go_enter Try.func60, Try.ntmps60
  go_wp2_with fail
  refine hN.out.mono ?_
  rintro e w1 ⟨v, rfl, hO, hb⟩
  obtain ⟨A1, c1, rfl, hs1⟩ := hO.sl
  have hb2 := below_bytes w1 5 s
  have hs2 := hs1.later hb2
  have hs3 := sl_bytes w1 5 s hs
  have hb3 := below_on hb (Nat.le_refl _) hb2
  have hsl : s.data.toList.length = s.size := by simp
  generalize hw2 : Lib.bytesWorld w1 5 s = w2 at hb2 hs2 hs3 hb3
  generalize hgc : grownCap w1 s.size 0 5 = gc at hs3
  have hB3 := (Below.refl w2.heap.size w2).alloc (Nat.le_refl _) (.cells #[.slice A1 nb.length c1, .slice (some ⟨w1.heap.size, 0, none⟩) s.data.toList.length gc] 36)
  have hO2 := own_lit (w := w2) (base := w.heap.size) 36 #[.slice A1 nb.length c1, .slice (some ⟨w1.heap.size, 0, none⟩) s.data.toList.length gc] [(⟨A1, c1, nb⟩ : SV UInt8), ⟨some ⟨w1.heap.size, 0, none⟩, gc, s.data.toList⟩] hb3.size rfl (by simp) (by
    intro x hx
    simp only [List.mem_cons, List.not_mem_nil, or_false] at hx
    rcases hx with rfl | rfl
    · exact hs2
    · exact hs3)
  have hS := hO2.sl_of
  have hb4 := below_on hb3 (Nat.le_refl _) hB3
  have hC := concat_byte _ _ [(⟨A1, c1, nb⟩ : SV UInt8), ⟨some ⟨w1.heap.size, 0, none⟩, gc, s.data.toList⟩] _ hS (by simp) (by simp [hsl]; omega)
  rw [hsl] at hC hb4
  have HC := Lib.hid hC
  have Hb4 := Lib.hid hb4
  have HW := Lib.hid hw2
  have Hgc := Lib.hid hgc
  clear hC hb4 hw2 hgc hO2 hS hB3 hb3 hb2 hs2 hs3 hs1 hO hN hnl hb
  go_wp2_with fail
  rw [HW.out, Hgc.out]
  refine HC.out.mono ?_
  rintro e w3 ⟨v2, rfl, hO3, hb5⟩
  have e3 : [(⟨A1, c1, nb⟩ : SV UInt8), ⟨some ⟨w1.heap.size, 0, none⟩, gc, s.data.toList⟩].flatMap SV.l = nb ++ s.data.toList := by simp
  rw [e3] at hO3
  go_wp2
  go_ret
  exact ⟨_, rfl, hO3.mono Hb4.out.size, below_on Hb4.out (Nat.le_refl _) hb5⟩
end Go.Proofs.Ytogecfddkohigaa
