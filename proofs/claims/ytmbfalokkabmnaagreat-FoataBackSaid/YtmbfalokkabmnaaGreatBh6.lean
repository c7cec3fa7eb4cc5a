/- Texts of this claim, laid together: Num, Text, Rdr, RNum. -/
import Derived.Test.YtmbfalokkabmnaaGreatRows
import Derived.Test.YtmbfalokkabmnaaGreatBh5
import Derived.Lib.Zigzag
import Derived.Lib.VarintMem
import Derived.WalkKit
import Derived.WalkSpells
import Derived.WalkLawsBesides
import Derived.Deep.QuietTactic
import Derived.BigQuiet
import Derived.Laws.StructEq
import Derived.Deep.DeepFit
import Derived.StillTailTactics
import Derived.Lib.ConvBytes
import Derived.Lib.VarintDec

/- pack.fold, Num; order.num -/
namespace Go.Proofs.YtmbfalokkabmnaaGreat
open Go.RowKit
theorem fold_bits (n : Int) (h0 : -9223372036854775808 ≤ n) (h1 : n ≤ 9223372036854775807) : bits .xor .u64 (IntKind.u64.wrap (IntKind.u64.wrap n * 2)) (IntKind.u64.wrap (n / 9223372036854775808)) = ((Lib.zigzag n : Nat) : Int) := by
  by_cases hn : 0 ≤ n
  · have e1 : IntKind.u64.wrap (IntKind.u64.wrap n * 2) = (((2 * n).toNat : Nat) : Int) := by rw [IntKind.wrap_u64, IntKind.wrap_u64]; omega
    have e2 : IntKind.u64.wrap (n / 9223372036854775808) = ((0 : Nat) : Int) := by rw [IntKind.wrap_u64]; omega
    rw [e1, e2, bits_xor_u64_nat _ _ (by omega) (by decide), Nat.xor_zero]
    unfold Lib.zigzag
    rw [if_pos hn]
  · have e1 : IntKind.u64.wrap (IntKind.u64.wrap n * 2) = (((2 * n + 18446744073709551616).toNat : Nat) : Int) := by rw [IntKind.wrap_u64, IntKind.wrap_u64]; omega
    have e2 : IntKind.u64.wrap (n / 9223372036854775808) = ((2 ^ 64 - 1 : Nat) : Int) := by rw [IntKind.wrap_u64]; omega
    rw [e1, e2, bits_xor_u64_nat _ _ (by omega) (by decide), Nat.xor_comm, Lib.xor_ones64 _ (by omega)]
    unfold Lib.zigzag
    rw [if_neg hn]
    omega
set_option maxRecDepth 100000 in
set_option maxHeartbeats 400000 in
theorem fold_c (n : Int) (w : World) (h0 : -9223372036854775808 ≤ n) (h1 : n ≤ 9223372036854775807) :
    Calls Tryz.prog 93 #[.int .i64 n] w fun e w' => e = .returned (.int .u64 (Lib.zigzag n)) ∧ Below w.heap.size w w' := by
  have hf := Lib.hid (fold_bits n h0 h1)
  go_enter Tryz.func93, Tryz.ntmps93
  go_wp2
  go_ret
  exact ⟨by rw [← hf.out]; rfl, Below.refl _ _⟩
/-- a number's bytes -/
abbrev numB (n : Int) : List UInt8 := Lib.uvarint (Lib.zigzag n)
theorem uvarint_le {m : Nat} (h : m < 18446744073709551616) : (Lib.uvarint m).length ≤ 10 := Lib.uvarint_length64 h
set_option maxRecDepth 100000 in
set_option maxHeartbeats 1000000 in
theorem num_c (n : Int) (w : World) (h0 : -9223372036854775808 ≤ n) (h1 : n ≤ 9223372036854775807) :
    Calls Tryz.prog 70 #[.int .i64 n] w fun e w' => ∃ v, e = .returned v ∧ Own w' w.heap.size 5 v (numB n) ∧ Below w.heap.size w w' := by
  have hz := Lib.zigzag_lt h0 h1
  have hF := Lib.hid (fold_c n w h0 h1)
  unfold numB
  generalize Lib.zigzag n = z at hz hF ⊢
  clear h0 h1
  go_enter Tryz.func70, Tryz.ntmps70
  go_wp2_with fail
  refine hF.out.mono ?_
  rintro e w1 ⟨rfl, hb1⟩
  go_wp2_with fail
  go_loopw [3, 4] (fun v i wr => ∃ (m : Nat) (pre : List UInt8), i = .int .u64 (m : Int) ∧ m < 18446744073709551616 ∧ pre.length + (Lib.uvarint m).length ≤ 10 ∧ pre ++ Lib.uvarint m = Lib.uvarint z ∧ Own wr w.heap.size 5 v pre ∧ Below w.heap.size w wr) (fun _ i _ => (intOf i).toNat)
  case atStart => exact ⟨z, [], rfl, hz, by simpa using uvarint_le hz, rfl, Own.nil_ _ _ _, hb1⟩
  case round =>
    obtain ⟨m, pre, rfl, hm, hl, he, hO, hb⟩ := hrel
    by_cases hbig : 128 ≤ m
    · have g1 : decide ((128 : Int) ≤ (m : Int)) = true := decide_eq_true (by omega)
      rw [Lib.uvarint_big hbig] at he hl
      obtain ⟨y, hy⟩ : ∃ y : UInt8, y = (m % 128 + 128).toUInt8 := ⟨_, rfl⟩
      have hyn : y.toNat = m % 128 + 128 := by rw [hy, Lib.toUInt8_toNat (by omega)]
      have g2 : bits .or .u8 ((m : Int) % 256) 128 = ((y.toNat : Nat) : Int) := by
        rw [Lib.u8_or128_any _ (by omega) (by omega), hyn]
        omega
      rw [← hy] at he hl
      have He := Lib.hid he
      have Hl := Lib.hid hl
      have HB := (Below.refl wr.heap.size wr).alloc (Nat.le_refl _) (.cells #[.int .u8 y.toNat] 5)
      have HO2 := Lib.hid (hO.later HB)
      have HH := Lib.hid (heap_alloc_new wr (.cells #[.int .u8 y.toNat] 5))
      have Hne := Lib.hid (hO.new_ne (Nat.le_refl wr.heap.size))
      have hb3 := below_on hb (Nat.le_refl _) HB
      clear he hl hy hyn hO HB hF
      go_wp2_with (at_builtin; refine wpList_append_one rfl (some 16) (.tmp 11) (.tmp 15) 25 rfl rfl (.int .u8 0) 1 Tryz.underlying25 inf_byte rfl (by decide) (by decide) rfl HO2.out wr.heap.size y rfl _ 5 HH.out rfl Hne.out trivial (by have := Hl.out; simp only [List.length_cons] at this; omega) hb3.size ?_; intro v3 w3 hO3 hg3 hat3)
      go_roundw
      case rel => exact ⟨m / 128, pre ++ [y], by go_num, by omega, by have := Hl.out; simp only [List.length_append, List.length_cons, List.length_nil] at this ⊢; omega, by rw [List.append_assoc]; exact He.out, hO3, hb3.trans (HO2.out.below hg3 (Nat.le_refl _) hb3.size)⟩
      case measure => simp [intOf]; omega
    · have g1 : decide ((128 : Int) ≤ (m : Int)) = false := decide_eq_false (by omega)
      rw [Lib.uvarint_small (by omega)] at he hl
      obtain ⟨y, hy⟩ : ∃ y : UInt8, y = m.toUInt8 := ⟨_, rfl⟩
      have hyn : y.toNat = m := by rw [hy, Lib.toUInt8_toNat (by omega)]
      have hcs := Lib.hid (show [Value.int .u8 (m : Int)] = [Value.int .u8 ((y.toNat : Nat) : Int)] by rw [hyn])
      rw [← hy] at he hl
      have He := Lib.hid he
      have Hl := Lib.hid hl
      have HB := (Below.refl wr.heap.size wr).alloc (Nat.le_refl _) (.cells #[.int .u8 (m : Int)] 5)
      have HO2 := Lib.hid (hO.later HB)
      have HH := Lib.hid (heap_alloc_new wr (.cells #[.int .u8 (m : Int)] 5))
      have Hne := Lib.hid (hO.new_ne (Nat.le_refl wr.heap.size))
      have hb3 := below_on hb (Nat.le_refl _) HB
      clear he hl hy hyn hO HB hF
      go_wp2_with (at_builtin; refine wpList_append_one rfl (some 21) (.tmp 17) (.tmp 20) 25 rfl rfl (.int .u8 0) 1 Tryz.underlying25 inf_byte rfl (by decide) (by decide) rfl HO2.out wr.heap.size y rfl _ 5 HH.out hcs.out Hne.out trivial (by have := Hl.out; simp only [List.length_cons] at this; omega) hb3.size ?_; intro v3 w3 hO3 hg3 hat3)
      go_ret
      exact ⟨_, rfl, by rw [← He.out]; exact hO3, hb3.trans (HO2.out.below hg3 (Nat.le_refl _) hb3.size)⟩
set_option maxRecDepth 100000 in
set_option maxHeartbeats 400000 in
theorem onum_c (n : Int) (w : World) (h0 : -9223372036854775808 ≤ n) (h1 : n ≤ 9223372036854775807) :
    Calls Tryz.prog 96 #[.int .i64 n] w fun e w' => ∃ v, e = .returned v ∧ Own w' w.heap.size 5 v (numB n) ∧ Below w.heap.size w w' := by
  have H := Lib.hid (num_c n w h0 h1)
  clear h0 h1
  go_enter Tryz.func96, Tryz.ntmps96
  go_wp2_with fail
  refine H.out.mono ?_
  rintro e w1 ⟨v, rfl, hO, hb⟩
  go_wp2
  go_ret
  exact ⟨_, rfl, hO, hb⟩
end Go.Proofs.YtmbfalokkabmnaaGreat

/- pack.Text -/
namespace Go.Proofs.YtmbfalokkabmnaaGreat
open Go.RowKit
theorem below_bytes (w : World) (e : TypeId) (s : ByteArray) : Below w.heap.size w (Lib.bytesWorld w e s) := by
  have h := (Below.refl w.heap.size w).drew.alloc (Nat.le_refl _) (.cells (Lib.bytesCells w e s) e)
  exact ⟨h.os, h.tape, h.output, by rw [Lib.bytesWorld_size]; omega, fun b hb => Lib.bytesWorld_at_old w e s b hb⟩
theorem flat_byte (l : List UInt8) (j : Nat) : (l.flatMap (Enc.cells (α := UInt8)))[j]? = l[j]?.map fun b => Value.int .u8 b.toNat := by
  rw [show l.flatMap (Enc.cells (α := UInt8)) = l.map fun b => Value.int .u8 b.toNat from by
    induction l with
    | nil => rfl
    | cons x r ih => rw [List.flatMap_cons, List.map_cons, ih]; rfl, List.getElem?_map]
theorem sl_bytes (w : World) (e : TypeId) (s : ByteArray) (hs : s.size ≤ 60000) : Sl (Lib.bytesWorld w e s) (Lib.bytesWorld w e s).heap.size (some ⟨w.heap.size, 0, none⟩) (grownCap w s.size 0 e) s.data.toList := by
  refine ⟨?_, ?_, fun _ => ⟨w.heap.size, 0, rfl, ?_, fun j u hu => ?_⟩, fun _ _ => trivial⟩
  · have := grownCap_ge w s.size 0 e
    simpa using this
  · exact grownCap_le_maxLen w s.size 0 e (by simp only [maxLen]; omega)
  · rw [Lib.bytesWorld_size]; exact Nat.lt_succ_self _
  · rw [flat_byte] at hu
    have hj : j < s.data.toList.length := by
      rcases Nat.lt_or_ge j s.data.toList.length with h | h
      · exact h
      · rw [List.getElem?_eq_none h] at hu; simp at hu
    rw [List.getElem?_eq_getElem hj] at hu
    simp only [Option.map_some, Option.some.injEq] at hu
    rw [Nat.zero_add, Lib.bytesWorld_cell w e s j (by simpa using hj), ← hu, List.getD_eq_getElem?_getD, List.getElem?_eq_getElem hj]
    rfl
/-- a text's bytes -/
abbrev textB (s : ByteArray) : List UInt8 := numB s.size ++ s.data.toList
set_option maxRecDepth 100000 in
set_option maxHeartbeats 1000000 in
theorem text_c (s : ByteArray) (w : World) (hs : s.size ≤ 60000) :
    Calls Tryz.prog 72 #[.string s] w fun e w' => ∃ v, e = .returned v ∧ Own w' w.heap.size 5 v (textB s) ∧ Below w.heap.size w w' := by
  have hN := Lib.hid (num_c s.size w (by omega) (by omega))
  have hnl : (numB s.size).length ≤ 10 := uvarint_le (Lib.zigzag_lt (by omega) (by omega))
  have hc : ∀ W, (convert 9 25 (.string s)).run Tryz.prog W = .ok (.slice (some ⟨W.heap.size, 0, none⟩) s.size (grownCap W s.size 0 5)) (Lib.bytesWorld W 5 s) := fun W => Lib.run_convert_string_bytes W _ _ _ s Tryz.underlying9 Tryz.underlying25 Tryz.underlying5
  unfold textB
  generalize numB s.size = nb at hN hnl ⊢
  go_enter Tryz.func72, Tryz.ntmps72
  go_wp2_with fail
  refine hN.out.mono ?_
  rintro e w1 ⟨v, rfl, hO, hb⟩
  obtain ⟨A1, c1, rfl, hs1⟩ := hO.sl
  have hb2 := below_bytes w1 5 s
  have hs2 := hs1.later hb2
  have hs3 := sl_bytes w1 5 s hs
  have hb3 := below_on hb (Nat.le_refl _) hb2
  have hsl : s.data.toList.length = s.size := by simp
  generalize hw2 : Lib.bytesWorld w1 5 s = w2 at hb2 hs2 hs3 hb3
  generalize hgc : grownCap w1 s.size 0 5 = gc at hs3
  have hB3 := (Below.refl w2.heap.size w2).alloc (Nat.le_refl _) (.cells #[.slice A1 nb.length c1, .slice (some ⟨w1.heap.size, 0, none⟩) s.data.toList.length gc] 25)
  have hO2 := own_lit (w := w2) (base := w.heap.size) 25 #[.slice A1 nb.length c1, .slice (some ⟨w1.heap.size, 0, none⟩) s.data.toList.length gc] [(⟨A1, c1, nb⟩ : SV UInt8), ⟨some ⟨w1.heap.size, 0, none⟩, gc, s.data.toList⟩] hb3.size rfl (by simp) (by
    intro x hx
    simp only [List.mem_cons, List.not_mem_nil, or_false] at hx
    rcases hx with rfl | rfl
    · exact hs2
    · exact hs3)
  have hS := hO2.sl_of
  have hb4 := below_on hb3 (Nat.le_refl _) hB3
  have hC := concat_byte _ _ [(⟨A1, c1, nb⟩ : SV UInt8), ⟨some ⟨w1.heap.size, 0, none⟩, gc, s.data.toList⟩] _ hS (by simp) (by simp [hsl]; omega)
  rw [hsl] at hC hb4
  have HC := Lib.hid hC
  have Hb4 := Lib.hid hb4
  have HW := Lib.hid hw2
  have Hgc := Lib.hid hgc
  clear hC hb4 hw2 hgc hO2 hS hB3 hb3 hb2 hs2 hs3 hs1 hO hN hnl hb
  go_wp2_with fail
  rw [HW.out, Hgc.out]
  refine HC.out.mono ?_
  rintro e w3 ⟨v2, rfl, hO3, hb5⟩
  have e3 : [(⟨A1, c1, nb⟩ : SV UInt8), ⟨some ⟨w1.heap.size, 0, none⟩, gc, s.data.toList⟩].flatMap SV.l = nb ++ s.data.toList := by simp
  rw [e3] at hO3
  go_wp2
  go_ret
  exact ⟨_, rfl, hO3.mono Hb4.out.size, below_on Hb4.out (Nat.le_refl _) hb5⟩
end Go.Proofs.YtmbfalokkabmnaaGreat

/- pack.Reader: fail, long, unfold -/
namespace Go.Proofs.YtmbfalokkabmnaaGreat
open Go.RowKit
/-- block g holds a reader: its error, and what is left, which lies in block r -/
def Rd (w : World) (g r : Nat) (err : Int) (l : List UInt8) : Prop :=
  r ≠ g ∧ ∃ A c, w.heap[g]? = some (.cells #[.slice A l.length c, i64 err] 135 (0, 0)) ∧ SlS w (fun b => b = r) A c l
theorem Rd.lt {w : World} {g r : Nat} {err : Int} {l : List UInt8} (h : Rd w g r err l) : g < w.heap.size := by
  obtain ⟨_, _, _, hg, _⟩ := h
  exact (Array.getElem?_eq_some_iff.1 hg).1
theorem Rd.grown {w w' : World} {g r : Nat} {err : Int} {l : List UInt8} {row : Option Nat} (h : Rd w g r err l) (hk : w.grownBy w' row) (h1 : row ≠ some g) (h2 : row ≠ some r) (hr : r < w.heap.size) : Rd w' g r err l := by
  obtain ⟨hne, A, c, hg, hs⟩ := h
  refine ⟨hne, A, c, ?_, hs.keep (fun p hp => ?_) (fun _ h => h)⟩
  · rw [hk.block g (Array.getElem?_eq_some_iff.1 hg).1 (fun e => h1 e.symm), hg]
  · refine World.cell?_of_block (w := w) ?_
    rw [hp]
    exact hk.block r hr (fun e => h2 e.symm)
theorem Rd.later {w w' : World} {g r : Nat} {err : Int} {l : List UInt8} (h : Rd w g r err l) (hr : r < w.heap.size) (hb : Below w.heap.size w w') : Rd w' g r err l := h.grown (grown_of_below hb none) (by simp) (by simp) hr
set_option maxRecDepth 100000 in
set_option maxHeartbeats 400000 in
theorem rfail_c (g r : Nat) (err x : Int) (l : List UInt8) (w : World) (h : Rd w g r err l) :
    Calls Tryz.prog 115 #[.pointer (some ⟨g, 0, none⟩), i64 x] w fun e w' => e = .returned (i64 x) ∧ Rd w' g r x [] ∧ w.grownBy w' (some g) := by
  obtain ⟨hne, A, c, hg, hs⟩ := h
  have c0 := cell_of_row w g 0 _ _ (0, 0) hg
  have c1 := cell_of_row w g 1 _ _ (0, 0) hg
  have f0 := frozen_of_row w g 0 _ _ hg
  have f1 := frozen_of_row w g 1 _ _ hg
  have hS1 := heap_setCell_same w g 0 _ _ (.slice none 0 0) hg
  have hS2 := heap_setCell_same _ g 1 _ _ (i64 x) hS1
  have hG1 := grown_setCell (g := g) (World.grownBy.refl w (some g)) (p := ⟨g, 0, none⟩) (.inl rfl) (.slice none 0 0)
  have hG2 := grown_setCell (g := g) hG1 (p := ⟨g, 1, none⟩) (.inl rfl) (i64 x)
  have HS := Lib.hid hS2
  have HG := Lib.hid hG2
  clear hg hs hS1 hS2 hG1 hG2
  go_enter Tryz.func115, Tryz.ntmps115
  go_wp2
  go_ret
  refine ⟨rfl, ⟨hne, none, 0, ?_, SlS.nil_ _ _⟩, HG.out⟩
  rw [HS.out]
  rfl
theorem bits_xor_comm (k : IntKind) (x y : Int) : bits .xor k x y = bits .xor k y x := by
  unfold bits
  simp only
  rw [BitVec.xor_comm]
theorem unfold_bits (m : Nat) (hm : m < 18446744073709551616) : bits .xor .i64 (IntKind.i64.wrap ((m : Int) / 2)) (IntKind.i64.wrap (-IntKind.i64.wrap (bits .and .u64 (m : Int) 1))) = Lib.unzigzag m := by
  rw [Lib.u64_and1 _ (by omega) (by omega)]
  have e0 : IntKind.i64.wrap ((m : Int) / 2) = ((m / 2 : Nat) : Int) := by rw [IntKind.wrap_i64]; omega
  unfold Lib.unzigzag
  by_cases hp : m % 2 = 0
  · have e1 : IntKind.i64.wrap (-IntKind.i64.wrap ((m : Int) % 2)) = ((0 : Nat) : Int) := by rw [IntKind.wrap_i64, IntKind.wrap_i64]; omega
    rw [if_pos hp, e0, e1]
    show IntKind.i64.wrap ((BitVec.ofInt 64 ((m / 2 : Nat) : Int) ^^^ BitVec.ofInt 64 ((0 : Nat) : Int)).toNat : Int) = _
    rw [BitVec.toNat_xor, BitVec.ofInt_natCast, BitVec.ofInt_natCast, BitVec.toNat_ofNat, BitVec.toNat_ofNat, Nat.zero_mod, Nat.xor_zero, Nat.mod_eq_of_lt (by omega), IntKind.wrap_i64]
    omega
  · have e1 : IntKind.i64.wrap (-IntKind.i64.wrap ((m : Int) % 2)) = -1 := by rw [IntKind.wrap_i64, IntKind.wrap_i64]; omega
    rw [if_neg hp, e0, e1, bits_xor_comm, Lib.i64_not _ (by omega)]
set_option maxRecDepth 100000 in
set_option maxHeartbeats 400000 in
theorem unfold_c (m : Nat) (hm : m < 18446744073709551616) (w : World) :
    Calls Tryz.prog 137 #[.int .u64 (m : Int)] w fun e w' => e = .returned (i64 (Lib.unzigzag m)) ∧ Below w.heap.size w w' := by
  have h1 := unfold_bits m hm
  rw [IntWalk.i64_left, IntWalk.i64_left, IntWalk.i64_left, IntWalk.wrap64_in ((m : Int) / 2) (by omega)] at h1
  have H := Lib.hid h1
  clear h1
  go_enter Tryz.func137, Tryz.ntmps137
  go_wp2
  go_ret
  exact ⟨by rw [← H.out]; rfl, Below.refl _ _⟩
/-- the error of a number with too many bits -/
def longE (l : List UInt8) (i : Nat) (b : UInt8) : Int := if i + 1 = l.length ∧ 128 ≤ b.toNat ∧ i < 10 then 4 else 3
set_option maxRecDepth 100000 in
set_option maxHeartbeats 1000000 in
theorem long_c (g r : Nat) (err : Int) (l : List UInt8) (i : Nat) (hi : i < l.length) (w : World) (h : Rd w g r err l) (hn : l.length ≤ 65536) :
    Calls Tryz.prog 136 #[.pointer (some ⟨g, 0, none⟩), i64 i] w fun e w' => e = .returned (i64 (longE l i l[i])) ∧ Below w.heap.size w w' := by
  obtain ⟨hne, A, c, hg, hs⟩ := h
  have c0 := cell_of_row w g 0 _ _ (0, 0) hg
  obtain ⟨b, o, rfl, -, -, hc⟩ := hs.at_ hi
  have d0 := hc 0 _ rfl
  rw [show i * Enc.size UInt8 + 0 = i from Nat.mul_one i] at d0
  have hlb := l[i].toNat_lt
  simp only [List.getElem?_toArray, List.getElem?_cons_zero] at c0
  have i0 : (0 : Int) ≤ (i : Int) := by omega
  have i1 : (i : Int) < (l.length : Int) := by omega
  have HU : Hid (∀ v : Int, v = longE l i l[i] → (.returned (i64 v) : Ending) = .returned (i64 (longE l i l[i]))) := Lib.hid fun v e => by rw [e]
  clear hg hs hc
  by_cases h1 : i + 1 = l.length
  · have g1 : ((i : Int) == (l.length : Int) - 1) = true := by rw [beq_iff_eq]; omega
    have w1 : IntKind.i64.wrap ((l.length : Int) - 1) = (l.length : Int) - 1 := by rw [IntKind.wrap_i64]; omega
    by_cases h2 : 128 ≤ l[i].toNat
    · have g2 : decide ((128 : Int) ≤ (l[i].toNat : Int)) = true := decide_eq_true (by omega)
      by_cases h3 : i < 10
      · have g3 : decide ((i : Int) < 10) = true := decide_eq_true (by omega)
        have HS := Lib.hid (show longE l i l[i] = 4 by unfold longE; rw [if_pos ⟨h1, h2, h3⟩])
        clear h1 h2 h3
        go_enter Tryz.func136, Tryz.ntmps136
        go_wp2
        go_ret
        exact ⟨by rw [HS.out]; rfl, Below.refl _ _⟩
      · have g3 : decide ((i : Int) < 10) = false := decide_eq_false (by omega)
        have HS := Lib.hid (show longE l i l[i] = 3 by unfold longE; rw [if_neg (fun h => h3 h.2.2)])
        clear h1 h2 h3
        go_enter Tryz.func136, Tryz.ntmps136
        go_wp2
        go_ret
        exact ⟨by rw [HS.out]; rfl, Below.refl _ _⟩
    · have g2 : decide ((128 : Int) ≤ (l[i].toNat : Int)) = false := decide_eq_false (by omega)
      have HS := Lib.hid (show longE l i l[i] = 3 by unfold longE; rw [if_neg (fun h => h2 h.2.1)])
      clear h1 h2
      go_enter Tryz.func136, Tryz.ntmps136
      go_wp2
      go_ret
      exact ⟨by rw [HS.out]; rfl, Below.refl _ _⟩
  · have g1 : ((i : Int) == (l.length : Int) - 1) = false := by rw [beq_eq_false_iff_ne]; omega
    have w1 : IntKind.i64.wrap ((l.length : Int) - 1) = (l.length : Int) - 1 := by rw [IntKind.wrap_i64]; omega
    have HS := Lib.hid (show longE l i l[i] = 3 by unfold longE; rw [if_neg (fun h => h1 h.1)])
    clear h1
    go_enter Tryz.func136, Tryz.ntmps136
    go_wp2
    go_ret
    exact ⟨by rw [HS.out]; rfl, Below.refl _ _⟩
end Go.Proofs.YtmbfalokkabmnaaGreat

/- pack.Reader.Num -/
namespace Go.Proofs.YtmbfalokkabmnaaGreat
open Go.RowKit
/-- the next number's bytes: k are read, acc is what they spell -/
def uvR : Nat → Nat → List UInt8 → Except Int (Nat × List UInt8)
  | _, _, [] => .error 4
  | i, acc, b :: t =>
    if i = 10 ∨ (i = 9 ∧ 1 < b.toNat) then .error (if t = [] ∧ 128 ≤ b.toNat ∧ i < 10 then 4 else 3)
    else if b.toNat = 0 ∧ 0 < i then .error 3
    else if b.toNat < 128 then .ok (acc + b.toNat * 2 ^ (7 * i), t)
    else uvR (i + 1) (acc + b.toNat % 128 * 2 ^ (7 * i)) t
/-- the next number: what is told, and what is left -/
def numRd (err : Int) (l : List UInt8) : (Int × Int) × (Int × List UInt8) :=
  if err ≠ 0 then ((0, err), (err, l)) else match uvR 0 0 l with
    | .error e => ((0, e), (e, []))
    | .ok (m, t) => ((Lib.unzigzag m, 0), (0, t))
theorem numRd_err {err : Int} (h : err ≠ 0) (l : List UInt8) : numRd err l = ((0, err), (err, l)) := by unfold numRd; rw [if_pos h]
theorem numRd_bad {l : List UInt8} {e : Int} (h : uvR 0 0 l = .error e) : numRd 0 l = ((0, e), (e, [])) := by unfold numRd; rw [if_neg (by simp), h]
theorem numRd_ok {l t : List UInt8} {m : Nat} (h : uvR 0 0 l = .ok (m, t)) : numRd 0 l = ((Lib.unzigzag m, 0), (0, t)) := by unfold numRd; rw [if_neg (by simp), h]
theorem uvR_long {l : List UInt8} {k acc : Nat} (hk : k < l.length) (h : k = 10 ∨ (k = 9 ∧ 1 < l[k].toNat)) : uvR k acc (l.drop k) = .error (longE l k l[k]) := by
  rw [List.drop_eq_getElem_cons hk, uvR, if_pos h]
  unfold longE
  by_cases e : k + 1 = l.length
  · rw [List.drop_eq_nil_of_le (by omega)]; simp [e]
  · rw [if_neg (fun h => e (by have := congrArg List.length h.1; simp at this; omega)), if_neg (fun h => e h.1)]
theorem uvR_zero {l : List UInt8} {k acc : Nat} (hk : k < l.length) (h : ¬ (k = 10 ∨ (k = 9 ∧ 1 < l[k].toNat))) (hz : l[k].toNat = 0 ∧ 0 < k) : uvR k acc (l.drop k) = .error 3 := by
  rw [List.drop_eq_getElem_cons hk, uvR, if_neg h, if_pos hz]
theorem uvR_last {l : List UInt8} {k acc : Nat} (hk : k < l.length) (h : ¬ (k = 10 ∨ (k = 9 ∧ 1 < l[k].toNat))) (hz : ¬ (l[k].toNat = 0 ∧ 0 < k)) (hs : l[k].toNat < 128) : uvR k acc (l.drop k) = .ok (acc + l[k].toNat * 2 ^ (7 * k), l.drop (k + 1)) := by
  rw [List.drop_eq_getElem_cons hk, uvR, if_neg h, if_neg hz, if_pos hs]
theorem uvR_more {l : List UInt8} {k acc : Nat} (hk : k < l.length) (h : ¬ (k = 10 ∨ (k = 9 ∧ 1 < l[k].toNat))) (hs : ¬ l[k].toNat < 128) : uvR k acc (l.drop k) = uvR (k + 1) (acc + l[k].toNat % 128 * 2 ^ (7 * k)) (l.drop (k + 1)) := by
  rw [List.drop_eq_getElem_cons hk, uvR, if_neg h, if_neg (by omega), if_neg hs]

theorem or_step {acc k b : Nat} (hacc : acc < 2 ^ (7 * k)) (hk : k < 9 ∨ (k = 9 ∧ b ≤ 1)) (hb : b < 128) : bits .or .u64 (acc : Int) (IntKind.u64.wrap ((b : Int) * 2 ^ (7 * k))) = ((acc + b * 2 ^ (7 * k) : Nat) : Int) := by
  have hx : b * 2 ^ (7 * k) < 18446744073709551616 := by
    rcases hk with hk | ⟨rfl, hb1⟩
    · have h1 : 2 ^ (7 * k) ≤ 2 ^ 56 := Nat.pow_le_pow_right (by decide) (by omega)
      have h2 : b * 2 ^ (7 * k) ≤ 127 * 2 ^ 56 := Nat.mul_le_mul (by omega) h1
      exact Nat.lt_of_le_of_lt h2 (by decide)
    · exact Nat.lt_of_le_of_lt (Nat.mul_le_mul_right _ hb1) (by decide)
  have hy : acc < 18446744073709551616 := Nat.lt_of_lt_of_le hacc (Nat.le_trans (Nat.pow_le_pow_right (by decide) (show 7 * k ≤ 63 by omega)) (show 2 ^ 63 ≤ 18446744073709551616 by decide))
  have e1 : (b : Int) * 2 ^ (7 * k) = ((b * 2 ^ (7 * k) : Nat) : Int) := by rw [Int.natCast_mul, Int.natCast_pow]; rfl
  have e2 : IntKind.u64.wrap ((b : Int) * 2 ^ (7 * k)) = ((b * 2 ^ (7 * k) : Nat) : Int) := by
    rw [e1]
    generalize b * 2 ^ (7 * k) = X at hx ⊢
    rw [IntKind.wrap_u64]
    omega
  rw [e2, bits_join_low .u64 64 (by decide) wraps_u64 (7 * k) _ _ (by omega) (by exact_mod_cast hacc) (by omega) (by omega) (by exact_mod_cast Nat.mul_mod_left b (2 ^ (7 * k))) (by omega)]
  omega
theorem or_lt {acc k b : Nat} (hacc : acc < 2 ^ (7 * k)) (hk : k < 9 ∨ (k = 9 ∧ b ≤ 1)) (hb : b < 128) : acc + b * 2 ^ (7 * k) < 18446744073709551616 := by
  rcases hk with hk | ⟨rfl, hb1⟩
  · have h1 : 2 ^ (7 * k) ≤ 2 ^ 56 := Nat.pow_le_pow_right (by decide) (by omega)
    have h2 : b * 2 ^ (7 * k) ≤ 127 * 2 ^ 56 := Nat.mul_le_mul (by omega) h1
    have h3 : (2 : Nat) ^ 56 = 72057594037927936 := by decide
    omega
  · have h2 := Nat.mul_le_mul_right (2 ^ (7 * 9)) hb1
    have h3 : (2 : Nat) ^ (7 * 9) = 9223372036854775808 := by decide
    omega
theorem acc_step {acc k b : Nat} (hacc : acc < 2 ^ (7 * k)) (hb : b < 128) : acc + b * 2 ^ (7 * k) < 2 ^ (7 * (k + 1)) := by
  rw [Nat.mul_add, Nat.pow_add, show (2 : Nat) ^ (7 * 1) = 128 from rfl]
  generalize 2 ^ (7 * k) = P at *
  have h2 : b * P ≤ 127 * P := Nat.mul_le_mul_right _ (by omega)
  omega
theorem andNot128 (c : UInt8) : bits .andNot .u8 (c.toNat : Int) 128 = ((c.toNat % 128 : Nat) : Int) := by
  have h : ∀ a : Fin 256, bits .andNot .u8 ((a.val : Nat) : Int) 128 = ((a.val % 128 : Nat) : Int) := by decide +kernel
  exact h ⟨c.toNat, c.toNat_lt⟩
set_option maxRecDepth 100000 in
set_option maxHeartbeats 4000000 in
theorem rnum_c (g r : Nat) (err : Int) (l : List UInt8) (w : World) (h : Rd w g r err l) (hr : r < w.heap.size) (hn : l.length ≤ 65536) :
    Calls Tryz.prog 114 #[.pointer (some ⟨g, 0, none⟩)] w fun e w' => e = .returned (.tuple #[i64 (numRd err l).1.1, i64 (numRd err l).1.2]) ∧ Rd w' g r (numRd err l).2.1 (numRd err l).2.2 ∧ w.grownBy w' (some g) := by
  have H := Lib.hid h
  obtain ⟨hne, A, c, hg, hs⟩ := h
  have hglt := (Array.getElem?_eq_some_iff.1 hg).1
  have c0 := cell_of_row w g 0 _ _ (0, 0) hg
  have c1 := cell_of_row w g 1 _ _ (0, 0) hg
  simp only [List.getElem?_toArray, List.getElem?_cons_zero, List.getElem?_cons_succ] at c0 c1
  by_cases he : err = 0
  · subst he
    have HG := Lib.hid hg
    clear hg
    go_enter Tryz.func114, Tryz.ntmps114
    go_wp2_with fail
    go_loopw [4, 24] (fun m i wr => ∃ k acc : Nat, i = i64 k ∧ m = .int .u64 (acc : Int) ∧ k ≤ l.length ∧ k ≤ 10 ∧ acc < 2 ^ (7 * k) ∧ uvR 0 0 l = uvR k acc (l.drop k) ∧ Below w.heap.size w wr) (fun _ i _ => l.length - (intOf i).toNat)
    case atStart => exact ⟨0, 0, rfl, rfl, by omega, by omega, by decide, rfl, Below.refl _ _⟩
    case round =>
      obtain ⟨k, acc, rfl, rfl, hk, hk10, hacc, hu, hb⟩ := hrel
      have Hu := Lib.hid hu
      have Hacc := Lib.hid hacc
      clear hu hacc
      by_cases hlt : k < l.length
      · obtain ⟨b, o, rfl, hbr, -, hc⟩ := hs.at_ hlt
        have hbr := hbr.symm
        subst hbr
        have c0 := (hb.cell (p := ⟨g, 0, none⟩) hglt).trans c0
        have hgr := (hb.block g hglt).trans HG.out
        have f0 := frozen_of_row wr g 0 _ _ hgr
        have Hgr := Lib.hid hgr
        clear hgr
        have hlc : l.length ≤ c := hs.1
        have d0 := hc 0 _ rfl
        rw [show k * Enc.size UInt8 + 0 = k from Nat.mul_one k] at d0
        have d0 := (hb.cell (p := ⟨r, o + k, none⟩) hr).trans d0
        clear hc
        have i0 : (0 : Int) ≤ (k : Int) := by omega
        have i1 : (k : Int) < (l.length : Int) := by omega
        have hlb := l[k].toNat_lt
        by_cases k10 : k = 10
        · have t1 : ((k : Int) == 10) = true := by rw [beq_iff_eq]; omega
          have hu2 := Lib.hid (numRd_bad (Hu.out.trans (uvR_long hlt (.inl k10))))
          clear Hu Hacc
          try clear k10
          try clear k9
          go_wp2_with fail
          refine (long_c g r 0 l k hlt _ (H.out.later hr hb) hn).mono ?_
          rintro e w2 ⟨rfl, hb2⟩
          have hb3 := below_on hb (Nat.le_refl _) hb2
          go_wp2_with fail
          refine (rfail_c g r 0 _ l _ (H.out.later hr hb3)).mono ?_
          rintro e w3 ⟨rfl, hR, hG⟩
          go_wp2
          go_ret2
          rw [hu2.out]
          exact ⟨rfl, hR, grown_trans (grown_of_below hb3 _) hG⟩
        · have t1 : ((k : Int) == 10) = false := by rw [beq_eq_false_iff_ne]; omega
          by_cases k9 : k = 9
          · have t2 : ((k : Int) == 9) = true := by rw [beq_iff_eq]; omega
            by_cases hb1 : 1 < l[k].toNat
            · have t3 : decide ((1 : Int) < ((l[k].toNat : Nat) : Int)) = true := decide_eq_true (by omega)
              have hu2 := Lib.hid (numRd_bad (Hu.out.trans (uvR_long hlt (.inr ⟨k9, hb1⟩))))
              clear Hu Hacc
              try clear k10
              try clear k9
              go_wp2_with fail
              refine (long_c g r 0 l k hlt _ (H.out.later hr hb) hn).mono ?_
              rintro e w2 ⟨rfl, hb2⟩
              have hb3 := below_on hb (Nat.le_refl _) hb2
              go_wp2_with fail
              refine (rfail_c g r 0 _ l _ (H.out.later hr hb3)).mono ?_
              rintro e w3 ⟨rfl, hR, hG⟩
              go_wp2
              go_ret2
              rw [hu2.out]
              exact ⟨rfl, hR, grown_trans (grown_of_below hb3 _) hG⟩
            · have t3 : decide ((1 : Int) < ((l[k].toNat : Nat) : Int)) = false := decide_eq_false (by omega)
              have hnb := Lib.hid (show ¬ (k = 10 ∨ (k = 9 ∧ 1 < l[k].toNat)) from fun h => by omega)
              by_cases hs1 : l[k].toNat < 128
              · have g3 : decide (((l[k].toNat : Nat) : Int) < 128) = true := decide_eq_true (by omega)
                by_cases hz : l[k].toNat = 0 ∧ 0 < k
                · have g4 : (((l[k].toNat : Nat) : Int) == 0) = true := by rw [beq_iff_eq]; omega
                  have g5 : 0 < k := hz.2
                  have hu2 := Lib.hid (numRd_bad (Hu.out.trans (uvR_zero hlt hnb.out hz)))
                  clear Hu Hacc hnb hz
                  try clear k9
                  go_wp2_with fail
                  refine (rfail_c g r 0 3 l _ (H.out.later hr hb)).mono ?_
                  rintro e w3 ⟨rfl, hR, hG⟩
                  go_wp2
                  go_ret2
                  rw [hu2.out]
                  exact ⟨rfl, hR, grown_trans (grown_of_below hb _) hG⟩
                · by_cases hz0 : l[k].toNat = 0
                  · have g4 : (((l[k].toNat : Nat) : Int) == 0) = true := by rw [beq_iff_eq]; omega
                    have g5 : ¬ 0 < k := fun h => hz ⟨hz0, h⟩
                    have hu2 := Lib.hid (numRd_ok (Hu.out.trans (uvR_last hlt hnb.out hz hs1)))
                    clear Hu
                    have a1 := andNot128 l[k]
                    have hm := Nat.mod_eq_of_lt hs1
                    obtain ⟨X, hX⟩ : ∃ X : Nat, X = acc + l[k].toNat % 128 * 2 ^ (7 * k) := ⟨_, rfl⟩
                    have q := or_step (b := l[k].toNat % 128) Hacc.out (by omega) (Nat.mod_lt _ (by decide))
                    have hX64 := or_lt (b := l[k].toNat % 128) Hacc.out (by omega) (Nat.mod_lt _ (by decide))
                    rw [← hX] at q hX64
                    rw [hm] at q hX a1
                    rw [← hX] at hu2
                    have j1 : (k : Int) + 1 ≤ (l.length : Int) := by omega
                    have j2 : (l.length : Int) ≤ (c : Int) := by omega
                    have j3 : (k : Int) + 1 ≤ (c : Int) := by omega
                    clear Hacc hnb hs1 hm hX
                    try clear k9
                    try clear hz
                    try clear hz0
                    by_cases hcc : c = k + 1
                    · obtain rfl := hcc
                      have hset := Lib.hid (heap_setCell_same wr g 0 _ _ (.slice (some ⟨r, o, none⟩) 0 0) Hgr.out)
                      have hdr := Lib.hid (hs.drop (k := k + 1) (by omega))
                      have hG1 := grown_setCell (g := g) (World.grownBy.refl wr (some g)) (p := ⟨g, 0, none⟩) (.inl rfl) (.slice (some ⟨r, o, none⟩) 0 0)
                      go_wp2_with fail
                      refine (unfold_c X hX64 _).mono ?_
                      rintro e w3 ⟨rfl, hb3⟩
                      go_wp2
                      go_ret2
                      rw [hu2.out]
                      have hnd : (l.drop (k + 1)).length = 0 := by rw [List.length_drop]; omega
                      refine ⟨rfl, Rd.later ⟨hne, _, _, by rw [hset.out]; simp only [List.setIfInBounds_toArray, List.set_cons_zero, hnd]; rfl, ?_⟩ (Nat.lt_of_lt_of_le hr (by simpa [World.setCell] using hb.size)) hb3, grown_trans (grown_of_below hb _) (grown_trans hG1 (grown_of_below hb3 _))⟩
                      have := hdr.out
                      simp only [if_true, Nat.sub_self] at this
                      exact this.keep (fun p hp => World.cell?_of_block (w := w) (by rw [hp]; exact (hG1.block r (Nat.lt_of_lt_of_le hr hb.size) (fun e => hne (by injection e))).trans (hb.block r hr))) (fun _ h => h)
                    · skip
                      have hset := Lib.hid (heap_setCell_same wr g 0 _ _ (.slice (some ⟨r, o + (k + 1), none⟩) (l.length - (k + 1)) (c - (k + 1))) Hgr.out)
                      have hdr := Lib.hid (hs.drop (k := k + 1) (by omega))
                      have hG1 := grown_setCell (g := g) (World.grownBy.refl wr (some g)) (p := ⟨g, 0, none⟩) (.inl rfl) (.slice (some ⟨r, o + (k + 1), none⟩) (l.length - (k + 1)) (c - (k + 1)))
                      go_wp2_with fail
                      refine (unfold_c X hX64 _).mono ?_
                      rintro e w3 ⟨rfl, hb3⟩
                      go_wp2
                      go_ret2
                      rw [hu2.out]
                      have hnd : (l.drop (k + 1)).length = l.length - (k + 1) := by rw [List.length_drop]
                      refine ⟨rfl, Rd.later ⟨hne, _, _, by rw [hset.out]; simp only [List.setIfInBounds_toArray, List.set_cons_zero, hnd]; rfl, ?_⟩ (Nat.lt_of_lt_of_le hr (by simpa [World.setCell] using hb.size)) hb3, grown_trans (grown_of_below hb _) (grown_trans hG1 (grown_of_below hb3 _))⟩
                      have := hdr.out
                      rw [if_neg hcc, Option.map_some, show (⟨r, o, none⟩ : Addr).add ((k + 1) * Enc.size UInt8) = ⟨r, o + (k + 1), none⟩ from by rw [show Enc.size UInt8 = 1 from rfl, Nat.mul_one]; unfold Addr.add; rw [if_neg (by omega)]] at this
                      exact this.keep (fun p hp => World.cell?_of_block (w := w) (by rw [hp]; exact (hG1.block r (Nat.lt_of_lt_of_le hr hb.size) (fun e => hne (by injection e))).trans (hb.block r hr))) (fun _ h => h)
                  · have g4 : (((l[k].toNat : Nat) : Int) == 0) = false := by rw [beq_eq_false_iff_ne]; omega
                    have hu2 := Lib.hid (numRd_ok (Hu.out.trans (uvR_last hlt hnb.out hz hs1)))
                    clear Hu
                    have a1 := andNot128 l[k]
                    have hm := Nat.mod_eq_of_lt hs1
                    obtain ⟨X, hX⟩ : ∃ X : Nat, X = acc + l[k].toNat % 128 * 2 ^ (7 * k) := ⟨_, rfl⟩
                    have q := or_step (b := l[k].toNat % 128) Hacc.out (by omega) (Nat.mod_lt _ (by decide))
                    have hX64 := or_lt (b := l[k].toNat % 128) Hacc.out (by omega) (Nat.mod_lt _ (by decide))
                    rw [← hX] at q hX64
                    rw [hm] at q hX a1
                    rw [← hX] at hu2
                    have j1 : (k : Int) + 1 ≤ (l.length : Int) := by omega
                    have j2 : (l.length : Int) ≤ (c : Int) := by omega
                    have j3 : (k : Int) + 1 ≤ (c : Int) := by omega
                    clear Hacc hnb hs1 hm hX
                    try clear k9
                    try clear hz
                    try clear hz0
                    by_cases hcc : c = k + 1
                    · obtain rfl := hcc
                      have hset := Lib.hid (heap_setCell_same wr g 0 _ _ (.slice (some ⟨r, o, none⟩) 0 0) Hgr.out)
                      have hdr := Lib.hid (hs.drop (k := k + 1) (by omega))
                      have hG1 := grown_setCell (g := g) (World.grownBy.refl wr (some g)) (p := ⟨g, 0, none⟩) (.inl rfl) (.slice (some ⟨r, o, none⟩) 0 0)
                      go_wp2_with fail
                      refine (unfold_c X hX64 _).mono ?_
                      rintro e w3 ⟨rfl, hb3⟩
                      go_wp2
                      go_ret2
                      rw [hu2.out]
                      have hnd : (l.drop (k + 1)).length = 0 := by rw [List.length_drop]; omega
                      refine ⟨rfl, Rd.later ⟨hne, _, _, by rw [hset.out]; simp only [List.setIfInBounds_toArray, List.set_cons_zero, hnd]; rfl, ?_⟩ (Nat.lt_of_lt_of_le hr (by simpa [World.setCell] using hb.size)) hb3, grown_trans (grown_of_below hb _) (grown_trans hG1 (grown_of_below hb3 _))⟩
                      have := hdr.out
                      simp only [if_true, Nat.sub_self] at this
                      exact this.keep (fun p hp => World.cell?_of_block (w := w) (by rw [hp]; exact (hG1.block r (Nat.lt_of_lt_of_le hr hb.size) (fun e => hne (by injection e))).trans (hb.block r hr))) (fun _ h => h)
                    · skip
                      have hset := Lib.hid (heap_setCell_same wr g 0 _ _ (.slice (some ⟨r, o + (k + 1), none⟩) (l.length - (k + 1)) (c - (k + 1))) Hgr.out)
                      have hdr := Lib.hid (hs.drop (k := k + 1) (by omega))
                      have hG1 := grown_setCell (g := g) (World.grownBy.refl wr (some g)) (p := ⟨g, 0, none⟩) (.inl rfl) (.slice (some ⟨r, o + (k + 1), none⟩) (l.length - (k + 1)) (c - (k + 1)))
                      go_wp2_with fail
                      refine (unfold_c X hX64 _).mono ?_
                      rintro e w3 ⟨rfl, hb3⟩
                      go_wp2
                      go_ret2
                      rw [hu2.out]
                      have hnd : (l.drop (k + 1)).length = l.length - (k + 1) := by rw [List.length_drop]
                      refine ⟨rfl, Rd.later ⟨hne, _, _, by rw [hset.out]; simp only [List.setIfInBounds_toArray, List.set_cons_zero, hnd]; rfl, ?_⟩ (Nat.lt_of_lt_of_le hr (by simpa [World.setCell] using hb.size)) hb3, grown_trans (grown_of_below hb _) (grown_trans hG1 (grown_of_below hb3 _))⟩
                      have := hdr.out
                      rw [if_neg hcc, Option.map_some, show (⟨r, o, none⟩ : Addr).add ((k + 1) * Enc.size UInt8) = ⟨r, o + (k + 1), none⟩ from by rw [show Enc.size UInt8 = 1 from rfl, Nat.mul_one]; unfold Addr.add; rw [if_neg (by omega)]] at this
                      exact this.keep (fun p hp => World.cell?_of_block (w := w) (by rw [hp]; exact (hG1.block r (Nat.lt_of_lt_of_le hr hb.size) (fun e => hne (by injection e))).trans (hb.block r hr))) (fun _ h => h)
              · have g3 : decide (((l[k].toNat : Nat) : Int) < 128) = false := decide_eq_false (by omega)
                exfalso
                omega
          · have t2 : ((k : Int) == 9) = false := by rw [beq_eq_false_iff_ne]; omega
            have hnb := Lib.hid (show ¬ (k = 10 ∨ (k = 9 ∧ 1 < l[k].toNat)) from fun h => by omega)
            by_cases hs1 : l[k].toNat < 128
            · have g3 : decide (((l[k].toNat : Nat) : Int) < 128) = true := decide_eq_true (by omega)
              by_cases hz : l[k].toNat = 0 ∧ 0 < k
              · have g4 : (((l[k].toNat : Nat) : Int) == 0) = true := by rw [beq_iff_eq]; omega
                have g5 : 0 < k := hz.2
                have hu2 := Lib.hid (numRd_bad (Hu.out.trans (uvR_zero hlt hnb.out hz)))
                clear Hu Hacc hnb hz
                try clear k9
                go_wp2_with fail
                refine (rfail_c g r 0 3 l _ (H.out.later hr hb)).mono ?_
                rintro e w3 ⟨rfl, hR, hG⟩
                go_wp2
                go_ret2
                rw [hu2.out]
                exact ⟨rfl, hR, grown_trans (grown_of_below hb _) hG⟩
              · by_cases hz0 : l[k].toNat = 0
                · have g4 : (((l[k].toNat : Nat) : Int) == 0) = true := by rw [beq_iff_eq]; omega
                  have g5 : ¬ 0 < k := fun h => hz ⟨hz0, h⟩
                  have hu2 := Lib.hid (numRd_ok (Hu.out.trans (uvR_last hlt hnb.out hz hs1)))
                  clear Hu
                  have a1 := andNot128 l[k]
                  have hm := Nat.mod_eq_of_lt hs1
                  obtain ⟨X, hX⟩ : ∃ X : Nat, X = acc + l[k].toNat % 128 * 2 ^ (7 * k) := ⟨_, rfl⟩
                  have q := or_step (b := l[k].toNat % 128) Hacc.out (by omega) (Nat.mod_lt _ (by decide))
                  have hX64 := or_lt (b := l[k].toNat % 128) Hacc.out (by omega) (Nat.mod_lt _ (by decide))
                  rw [← hX] at q hX64
                  rw [hm] at q hX a1
                  rw [← hX] at hu2
                  have j1 : (k : Int) + 1 ≤ (l.length : Int) := by omega
                  have j2 : (l.length : Int) ≤ (c : Int) := by omega
                  have j3 : (k : Int) + 1 ≤ (c : Int) := by omega
                  clear Hacc hnb hs1 hm hX
                  try clear k9
                  try clear hz
                  try clear hz0
                  by_cases hcc : c = k + 1
                  · obtain rfl := hcc
                    have hset := Lib.hid (heap_setCell_same wr g 0 _ _ (.slice (some ⟨r, o, none⟩) 0 0) Hgr.out)
                    have hdr := Lib.hid (hs.drop (k := k + 1) (by omega))
                    have hG1 := grown_setCell (g := g) (World.grownBy.refl wr (some g)) (p := ⟨g, 0, none⟩) (.inl rfl) (.slice (some ⟨r, o, none⟩) 0 0)
                    go_wp2_with fail
                    refine (unfold_c X hX64 _).mono ?_
                    rintro e w3 ⟨rfl, hb3⟩
                    go_wp2
                    go_ret2
                    rw [hu2.out]
                    have hnd : (l.drop (k + 1)).length = 0 := by rw [List.length_drop]; omega
                    refine ⟨rfl, Rd.later ⟨hne, _, _, by rw [hset.out]; simp only [List.setIfInBounds_toArray, List.set_cons_zero, hnd]; rfl, ?_⟩ (Nat.lt_of_lt_of_le hr (by simpa [World.setCell] using hb.size)) hb3, grown_trans (grown_of_below hb _) (grown_trans hG1 (grown_of_below hb3 _))⟩
                    have := hdr.out
                    simp only [if_true, Nat.sub_self] at this
                    exact this.keep (fun p hp => World.cell?_of_block (w := w) (by rw [hp]; exact (hG1.block r (Nat.lt_of_lt_of_le hr hb.size) (fun e => hne (by injection e))).trans (hb.block r hr))) (fun _ h => h)
                  · skip
                    have hset := Lib.hid (heap_setCell_same wr g 0 _ _ (.slice (some ⟨r, o + (k + 1), none⟩) (l.length - (k + 1)) (c - (k + 1))) Hgr.out)
                    have hdr := Lib.hid (hs.drop (k := k + 1) (by omega))
                    have hG1 := grown_setCell (g := g) (World.grownBy.refl wr (some g)) (p := ⟨g, 0, none⟩) (.inl rfl) (.slice (some ⟨r, o + (k + 1), none⟩) (l.length - (k + 1)) (c - (k + 1)))
                    go_wp2_with fail
                    refine (unfold_c X hX64 _).mono ?_
                    rintro e w3 ⟨rfl, hb3⟩
                    go_wp2
                    go_ret2
                    rw [hu2.out]
                    have hnd : (l.drop (k + 1)).length = l.length - (k + 1) := by rw [List.length_drop]
                    refine ⟨rfl, Rd.later ⟨hne, _, _, by rw [hset.out]; simp only [List.setIfInBounds_toArray, List.set_cons_zero, hnd]; rfl, ?_⟩ (Nat.lt_of_lt_of_le hr (by simpa [World.setCell] using hb.size)) hb3, grown_trans (grown_of_below hb _) (grown_trans hG1 (grown_of_below hb3 _))⟩
                    have := hdr.out
                    rw [if_neg hcc, Option.map_some, show (⟨r, o, none⟩ : Addr).add ((k + 1) * Enc.size UInt8) = ⟨r, o + (k + 1), none⟩ from by rw [show Enc.size UInt8 = 1 from rfl, Nat.mul_one]; unfold Addr.add; rw [if_neg (by omega)]] at this
                    exact this.keep (fun p hp => World.cell?_of_block (w := w) (by rw [hp]; exact (hG1.block r (Nat.lt_of_lt_of_le hr hb.size) (fun e => hne (by injection e))).trans (hb.block r hr))) (fun _ h => h)
                · have g4 : (((l[k].toNat : Nat) : Int) == 0) = false := by rw [beq_eq_false_iff_ne]; omega
                  have hu2 := Lib.hid (numRd_ok (Hu.out.trans (uvR_last hlt hnb.out hz hs1)))
                  clear Hu
                  have a1 := andNot128 l[k]
                  have hm := Nat.mod_eq_of_lt hs1
                  obtain ⟨X, hX⟩ : ∃ X : Nat, X = acc + l[k].toNat % 128 * 2 ^ (7 * k) := ⟨_, rfl⟩
                  have q := or_step (b := l[k].toNat % 128) Hacc.out (by omega) (Nat.mod_lt _ (by decide))
                  have hX64 := or_lt (b := l[k].toNat % 128) Hacc.out (by omega) (Nat.mod_lt _ (by decide))
                  rw [← hX] at q hX64
                  rw [hm] at q hX a1
                  rw [← hX] at hu2
                  have j1 : (k : Int) + 1 ≤ (l.length : Int) := by omega
                  have j2 : (l.length : Int) ≤ (c : Int) := by omega
                  have j3 : (k : Int) + 1 ≤ (c : Int) := by omega
                  clear Hacc hnb hs1 hm hX
                  try clear k9
                  try clear hz
                  try clear hz0
                  by_cases hcc : c = k + 1
                  · obtain rfl := hcc
                    have hset := Lib.hid (heap_setCell_same wr g 0 _ _ (.slice (some ⟨r, o, none⟩) 0 0) Hgr.out)
                    have hdr := Lib.hid (hs.drop (k := k + 1) (by omega))
                    have hG1 := grown_setCell (g := g) (World.grownBy.refl wr (some g)) (p := ⟨g, 0, none⟩) (.inl rfl) (.slice (some ⟨r, o, none⟩) 0 0)
                    go_wp2_with fail
                    refine (unfold_c X hX64 _).mono ?_
                    rintro e w3 ⟨rfl, hb3⟩
                    go_wp2
                    go_ret2
                    rw [hu2.out]
                    have hnd : (l.drop (k + 1)).length = 0 := by rw [List.length_drop]; omega
                    refine ⟨rfl, Rd.later ⟨hne, _, _, by rw [hset.out]; simp only [List.setIfInBounds_toArray, List.set_cons_zero, hnd]; rfl, ?_⟩ (Nat.lt_of_lt_of_le hr (by simpa [World.setCell] using hb.size)) hb3, grown_trans (grown_of_below hb _) (grown_trans hG1 (grown_of_below hb3 _))⟩
                    have := hdr.out
                    simp only [if_true, Nat.sub_self] at this
                    exact this.keep (fun p hp => World.cell?_of_block (w := w) (by rw [hp]; exact (hG1.block r (Nat.lt_of_lt_of_le hr hb.size) (fun e => hne (by injection e))).trans (hb.block r hr))) (fun _ h => h)
                  · skip
                    have hset := Lib.hid (heap_setCell_same wr g 0 _ _ (.slice (some ⟨r, o + (k + 1), none⟩) (l.length - (k + 1)) (c - (k + 1))) Hgr.out)
                    have hdr := Lib.hid (hs.drop (k := k + 1) (by omega))
                    have hG1 := grown_setCell (g := g) (World.grownBy.refl wr (some g)) (p := ⟨g, 0, none⟩) (.inl rfl) (.slice (some ⟨r, o + (k + 1), none⟩) (l.length - (k + 1)) (c - (k + 1)))
                    go_wp2_with fail
                    refine (unfold_c X hX64 _).mono ?_
                    rintro e w3 ⟨rfl, hb3⟩
                    go_wp2
                    go_ret2
                    rw [hu2.out]
                    have hnd : (l.drop (k + 1)).length = l.length - (k + 1) := by rw [List.length_drop]
                    refine ⟨rfl, Rd.later ⟨hne, _, _, by rw [hset.out]; simp only [List.setIfInBounds_toArray, List.set_cons_zero, hnd]; rfl, ?_⟩ (Nat.lt_of_lt_of_le hr (by simpa [World.setCell] using hb.size)) hb3, grown_trans (grown_of_below hb _) (grown_trans hG1 (grown_of_below hb3 _))⟩
                    have := hdr.out
                    rw [if_neg hcc, Option.map_some, show (⟨r, o, none⟩ : Addr).add ((k + 1) * Enc.size UInt8) = ⟨r, o + (k + 1), none⟩ from by rw [show Enc.size UInt8 = 1 from rfl, Nat.mul_one]; unfold Addr.add; rw [if_neg (by omega)]] at this
                    exact this.keep (fun p hp => World.cell?_of_block (w := w) (by rw [hp]; exact (hG1.block r (Nat.lt_of_lt_of_le hr hb.size) (fun e => hne (by injection e))).trans (hb.block r hr))) (fun _ h => h)
            · have g3 : decide (((l[k].toNat : Nat) : Int) < 128) = false := decide_eq_false (by omega)
              have hu2 := Lib.hid (Hu.out.trans (uvR_more hlt hnb.out hs1))
              have a1 := andNot128 l[k]
              obtain ⟨X, hX⟩ : ∃ X : Nat, X = acc + l[k].toNat % 128 * 2 ^ (7 * k) := ⟨_, rfl⟩
              have q := or_step (b := l[k].toNat % 128) Hacc.out (by omega) (Nat.mod_lt _ (by decide))
              have hac := Lib.hid (acc_step (b := l[k].toNat % 128) Hacc.out (Nat.mod_lt _ (by decide)))
              rw [← hX] at q hac hu2
              push_cast at q
              clear Hacc hnb hs1 hX
              try clear k9
              go_wp2_with fail
              go_roundw
              case rel => exact ⟨k + 1, X, by go_num, by first | rfl | rw [q], by omega, by omega, hac.out, hu2.out, hb⟩
              case measure => simp [intOf] <;> omega
      · obtain rfl : k = l.length := by omega
        have hu2 := Lib.hid (numRd_bad (Hu.out.trans (by rw [List.drop_length, uvR])))
        clear Hu Hacc
        go_wp2_with fail
        refine (rfail_c g r 0 4 l _ (H.out.later hr hb)).mono ?_
        rintro e w3 ⟨rfl, hR, hG⟩
        go_wp2
        go_ret2
        rw [hu2.out]
        exact ⟨rfl, hR, grown_trans (grown_of_below hb _) hG⟩
  · have g1 : (err != 0) = true := by simpa using he
    have hu2 := Lib.hid (numRd_err he l)
    clear he
    go_enter Tryz.func114, Tryz.ntmps114
    go_wp2_with fail
    go_quiet (fail)
    go_wp2
    go_ret2
    rw [hu2.out]
    exact ⟨rfl, H.out.later hr (below_drewN (Below.refl _ _) _), grown_of_below (below_drewN (Below.refl _ _) _) _⟩
end Go.Proofs.YtmbfalokkabmnaaGreat
