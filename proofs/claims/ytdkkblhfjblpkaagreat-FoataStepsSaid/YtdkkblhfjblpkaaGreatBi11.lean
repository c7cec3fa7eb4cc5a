/- Texts of this claim, laid together: Num, Text, BytesO, BytesW, AppendG, Rdr. -/
import Derived.Test.YtdkkblhfjblpkaaGreatRows
import Derived.Test.YtdkkblhfjblpkaaGreatBi10
import Derived.Test.YtdkkblhfjblpkaaGreatBi5
import Derived.Lib.Zigzag
import Derived.Lib.VarintMem
import Derived.WalkKit
import Derived.WalkSpells
import Derived.WalkLawsBesides
import Derived.Deep.QuietTactic
import Derived.BigQuiet
import Derived.Laws.StructEq
import Derived.Deep.DeepFit
import Derived.StillTailTactics
import Derived.Lib.ConvBytes
import Derived.Test.YtdkkblhfjblpkaaGreatBi7
import Derived.Deep.RegionHeld3
import Derived.Test.YtdkkblhfjblpkaaGreatBi1
import Derived.Lib.VarintDec

/- pack.fold, Num; order.num -/
namespace Go.Proofs.YtdkkblhfjblpkaaGreat
open Go.RowKit
theorem fold_bits (n : Int) (h0 : -9223372036854775808 ≤ n) (h1 : n ≤ 9223372036854775807) : bits .xor .u64 (IntKind.u64.wrap (IntKind.u64.wrap n * 2)) (IntKind.u64.wrap (n / 9223372036854775808)) = ((Lib.zigzag n : Nat) : Int) := by
  by_cases hn : 0 ≤ n
  · have e1 : IntKind.u64.wrap (IntKind.u64.wrap n * 2) = (((2 * n).toNat : Nat) : Int) := by rw [IntKind.wrap_u64, IntKind.wrap_u64]; omega
    have e2 : IntKind.u64.wrap (n / 9223372036854775808) = ((0 : Nat) : Int) := by rw [IntKind.wrap_u64]; omega
    rw [e1, e2, bits_xor_u64_nat _ _ (by omega) (by decide), Nat.xor_zero]
    unfold Lib.zigzag
    rw [if_pos hn]
  · have e1 : IntKind.u64.wrap (IntKind.u64.wrap n * 2) = (((2 * n + 18446744073709551616).toNat : Nat) : Int) := by rw [IntKind.wrap_u64, IntKind.wrap_u64]; omega
    have e2 : IntKind.u64.wrap (n / 9223372036854775808) = ((2 ^ 64 - 1 : Nat) : Int) := by rw [IntKind.wrap_u64]; omega
    rw [e1, e2, bits_xor_u64_nat _ _ (by omega) (by decide), Nat.xor_comm, Lib.xor_ones64 _ (by omega)]
    unfold Lib.zigzag
    rw [if_neg hn]
    omega
set_option maxRecDepth 100000 in
set_option maxHeartbeats 400000 in
theorem fold_c (n : Int) (w : World) (h0 : -9223372036854775808 ≤ n) (h1 : n ≤ 9223372036854775807) :
    Calls Tryz.prog 158 #[.int .i64 n] w fun e w' => e = .returned (.int .u64 (Lib.zigzag n)) ∧ Below w.heap.size w w' := by
  have hf := Lib.hid (fold_bits n h0 h1)
  go_enter Tryz.func158, Tryz.ntmps158
  go_wp2
  go_ret
  exact ⟨by rw [← hf.out]; rfl, Below.refl _ _⟩
/-- a number's bytes -/
abbrev numB (n : Int) : List UInt8 := Lib.uvarint (Lib.zigzag n)
theorem uvarint_le {m : Nat} (h : m < 18446744073709551616) : (Lib.uvarint m).length ≤ 10 := Lib.uvarint_length64 h
set_option maxRecDepth 100000 in
set_option maxHeartbeats 1000000 in
theorem num_c (n : Int) (w : World) (h0 : -9223372036854775808 ≤ n) (h1 : n ≤ 9223372036854775807) :
    Calls Tryz.prog 115 #[.int .i64 n] w fun e w' => ∃ v, e = .returned v ∧ Own w' w.heap.size 5 v (numB n) ∧ Below w.heap.size w w' := by
  have hz := Lib.zigzag_lt h0 h1
  have hF := Lib.hid (fold_c n w h0 h1)
  unfold numB
  generalize Lib.zigzag n = z at hz hF ⊢
  clear h0 h1
  go_enter Tryz.func115, Tryz.ntmps115
  go_wp2_with fail
  refine hF.out.mono ?_
  rintro e w1 ⟨rfl, hb1⟩
  go_wp2_with fail
  go_loopw [3, 4] (fun v i wr => ∃ (m : Nat) (pre : List UInt8), i = .int .u64 (m : Int) ∧ m < 18446744073709551616 ∧ pre.length + (Lib.uvarint m).length ≤ 10 ∧ pre ++ Lib.uvarint m = Lib.uvarint z ∧ Own wr w.heap.size 5 v pre ∧ Below w.heap.size w wr) (fun _ i _ => (intOf i).toNat)
  case atStart => exact ⟨z, [], rfl, hz, by simpa using uvarint_le hz, rfl, Own.nil_ _ _ _, hb1⟩
  case round =>
    obtain ⟨m, pre, rfl, hm, hl, he, hO, hb⟩ := hrel
    by_cases hbig : 128 ≤ m
    · have g1 : decide ((128 : Int) ≤ (m : Int)) = true := decide_eq_true (by omega)
      rw [Lib.uvarint_big hbig] at he hl
      obtain ⟨y, hy⟩ : ∃ y : UInt8, y = (m % 128 + 128).toUInt8 := ⟨_, rfl⟩
      have hyn : y.toNat = m % 128 + 128 := by rw [hy, Lib.toUInt8_toNat (by omega)]
      have g2 : bits .or .u8 ((m : Int) % 256) 128 = ((y.toNat : Nat) : Int) := by
        rw [Lib.u8_or128_any _ (by omega) (by omega), hyn]
        omega
      rw [← hy] at he hl
      have He := Lib.hid he
      have Hl := Lib.hid hl
      have HB := (Below.refl wr.heap.size wr).alloc (Nat.le_refl _) (.cells #[.int .u8 y.toNat] 5)
      have HO2 := Lib.hid (hO.later HB)
      have HH := Lib.hid (heap_alloc_new wr (.cells #[.int .u8 y.toNat] 5))
      have Hne := Lib.hid (hO.new_ne (Nat.le_refl wr.heap.size))
      have hb3 := below_on hb (Nat.le_refl _) HB
      clear he hl hy hyn hO HB hF
      go_wp2_with (at_builtin; refine wpList_append_one rfl (some 16) (.tmp 11) (.tmp 15) 25 rfl rfl (.int .u8 0) 1 Tryz.underlying25 inf_byte rfl (by decide) (by decide) rfl HO2.out wr.heap.size y rfl _ 5 HH.out rfl Hne.out trivial (by have := Hl.out; simp only [List.length_cons] at this; omega) hb3.size ?_; intro v3 w3 hO3 hg3 hat3)
      go_roundw
      case rel => exact ⟨m / 128, pre ++ [y], by go_num, by omega, by have := Hl.out; simp only [List.length_append, List.length_cons, List.length_nil] at this ⊢; omega, by rw [List.append_assoc]; exact He.out, hO3, hb3.trans (HO2.out.below hg3 (Nat.le_refl _) hb3.size)⟩
      case measure => simp [intOf]; omega
    · have g1 : decide ((128 : Int) ≤ (m : Int)) = false := decide_eq_false (by omega)
      rw [Lib.uvarint_small (by omega)] at he hl
      obtain ⟨y, hy⟩ : ∃ y : UInt8, y = m.toUInt8 := ⟨_, rfl⟩
      have hyn : y.toNat = m := by rw [hy, Lib.toUInt8_toNat (by omega)]
      have hcs := Lib.hid (show [Value.int .u8 (m : Int)] = [Value.int .u8 ((y.toNat : Nat) : Int)] by rw [hyn])
      rw [← hy] at he hl
      have He := Lib.hid he
      have Hl := Lib.hid hl
      have HB := (Below.refl wr.heap.size wr).alloc (Nat.le_refl _) (.cells #[.int .u8 (m : Int)] 5)
      have HO2 := Lib.hid (hO.later HB)
      have HH := Lib.hid (heap_alloc_new wr (.cells #[.int .u8 (m : Int)] 5))
      have Hne := Lib.hid (hO.new_ne (Nat.le_refl wr.heap.size))
      have hb3 := below_on hb (Nat.le_refl _) HB
      clear he hl hy hyn hO HB hF
      go_wp2_with (at_builtin; refine wpList_append_one rfl (some 21) (.tmp 17) (.tmp 20) 25 rfl rfl (.int .u8 0) 1 Tryz.underlying25 inf_byte rfl (by decide) (by decide) rfl HO2.out wr.heap.size y rfl _ 5 HH.out hcs.out Hne.out trivial (by have := Hl.out; simp only [List.length_cons] at this; omega) hb3.size ?_; intro v3 w3 hO3 hg3 hat3)
      go_ret
      exact ⟨_, rfl, by rw [← He.out]; exact hO3, hb3.trans (HO2.out.below hg3 (Nat.le_refl _) hb3.size)⟩
set_option maxRecDepth 100000 in
set_option maxHeartbeats 400000 in
theorem onum_c (n : Int) (w : World) (h0 : -9223372036854775808 ≤ n) (h1 : n ≤ 9223372036854775807) :
    Calls Tryz.prog 160 #[.int .i64 n] w fun e w' => ∃ v, e = .returned v ∧ Own w' w.heap.size 5 v (numB n) ∧ Below w.heap.size w w' := by
  have H := Lib.hid (num_c n w h0 h1)
  clear h0 h1
  go_enter Tryz.func160, Tryz.ntmps160
  go_wp2_with fail
  refine H.out.mono ?_
  rintro e w1 ⟨v, rfl, hO, hb⟩
  go_wp2
  go_ret
  exact ⟨_, rfl, hO, hb⟩
end Go.Proofs.YtdkkblhfjblpkaaGreat

/- pack.Text -/
namespace Go.Proofs.YtdkkblhfjblpkaaGreat
open Go.RowKit
theorem below_bytes (w : World) (e : TypeId) (s : ByteArray) : Below w.heap.size w (Lib.bytesWorld w e s) := by
  have h := (Below.refl w.heap.size w).drew.alloc (Nat.le_refl _) (.cells (Lib.bytesCells w e s) e)
  exact ⟨h.os, h.tape, h.output, by rw [Lib.bytesWorld_size]; omega, fun b hb => Lib.bytesWorld_at_old w e s b hb⟩
theorem flat_byte (l : List UInt8) (j : Nat) : (l.flatMap (Enc.cells (α := UInt8)))[j]? = l[j]?.map fun b => Value.int .u8 b.toNat := by
  rw [show l.flatMap (Enc.cells (α := UInt8)) = l.map fun b => Value.int .u8 b.toNat from by
    induction l with
    | nil => rfl
    | cons x r ih => rw [List.flatMap_cons, List.map_cons, ih]; rfl, List.getElem?_map]
theorem sl_bytes (w : World) (e : TypeId) (s : ByteArray) (hs : s.size ≤ 60000) : Sl (Lib.bytesWorld w e s) (Lib.bytesWorld w e s).heap.size (some ⟨w.heap.size, 0, none⟩) (grownCap w s.size 0 e) s.data.toList := by
  refine ⟨?_, ?_, fun _ => ⟨w.heap.size, 0, rfl, ?_, fun j u hu => ?_⟩, fun _ _ => trivial⟩
  · have := grownCap_ge w s.size 0 e
    simpa using this
  · exact grownCap_le_maxLen w s.size 0 e (by simp only [maxLen]; omega)
  · rw [Lib.bytesWorld_size]; exact Nat.lt_succ_self _
  · rw [flat_byte] at hu
    have hj : j < s.data.toList.length := by
      rcases Nat.lt_or_ge j s.data.toList.length with h | h
      · exact h
      · rw [List.getElem?_eq_none h] at hu; simp at hu
    rw [List.getElem?_eq_getElem hj] at hu
    simp only [Option.map_some, Option.some.injEq] at hu
    rw [Nat.zero_add, Lib.bytesWorld_cell w e s j (by simpa using hj), ← hu, List.getD_eq_getElem?_getD, List.getElem?_eq_getElem hj]
    rfl
/-- a text's bytes -/
abbrev textB (s : ByteArray) : List UInt8 := numB s.size ++ s.data.toList
set_option maxRecDepth 100000 in
set_option maxHeartbeats 1000000 in
theorem text_c (s : ByteArray) (w : World) (hs : s.size ≤ 60000) :
    Calls Tryz.prog 117 #[.string s] w fun e w' => ∃ v, e = .returned v ∧ Own w' w.heap.size 5 v (textB s) ∧ Below w.heap.size w w' := by
  have hN := Lib.hid (num_c s.size w (by omega) (by omega))
  have hnl : (numB s.size).length ≤ 10 := uvarint_le (Lib.zigzag_lt (by omega) (by omega))
  have hc : ∀ W, (convert 9 25 (.string s)).run Tryz.prog W = .ok (.slice (some ⟨W.heap.size, 0, none⟩) s.size (grownCap W s.size 0 5)) (Lib.bytesWorld W 5 s) := fun W => Lib.run_convert_string_bytes W _ _ _ s Tryz.underlying9 Tryz.underlying25 Tryz.underlying5
  unfold textB
  generalize numB s.size = nb at hN hnl ⊢
  go_enter Tryz.func117, Tryz.ntmps117
  go_wp2_with fail
  refine hN.out.mono ?_
  rintro e w1 ⟨v, rfl, hO, hb⟩
  obtain ⟨A1, c1, rfl, hs1⟩ := hO.sl
  have hb2 := below_bytes w1 5 s
  have hs2 := hs1.later hb2
  have hs3 := sl_bytes w1 5 s hs
  have hb3 := below_on hb (Nat.le_refl _) hb2
  have hsl : s.data.toList.length = s.size := by simp
  generalize hw2 : Lib.bytesWorld w1 5 s = w2 at hb2 hs2 hs3 hb3
  generalize hgc : grownCap w1 s.size 0 5 = gc at hs3
  have hB3 := (Below.refl w2.heap.size w2).alloc (Nat.le_refl _) (.cells #[.slice A1 nb.length c1, .slice (some ⟨w1.heap.size, 0, none⟩) s.data.toList.length gc] 25)
  have hO2 := own_lit (w := w2) (base := w.heap.size) 25 #[.slice A1 nb.length c1, .slice (some ⟨w1.heap.size, 0, none⟩) s.data.toList.length gc] [(⟨A1, c1, nb⟩ : SV UInt8), ⟨some ⟨w1.heap.size, 0, none⟩, gc, s.data.toList⟩] hb3.size rfl (by simp) (by
    intro x hx
    simp only [List.mem_cons, List.not_mem_nil, or_false] at hx
    rcases hx with rfl | rfl
    · exact hs2
    · exact hs3)
  have hS := hO2.sl_of
  have hb4 := below_on hb3 (Nat.le_refl _) hB3
  have hC := concat_byte _ _ [(⟨A1, c1, nb⟩ : SV UInt8), ⟨some ⟨w1.heap.size, 0, none⟩, gc, s.data.toList⟩] _ hS (by simp) (by simp [hsl]; omega)
  rw [hsl] at hC hb4
  have HC := Lib.hid hC
  have Hb4 := Lib.hid hb4
  have HW := Lib.hid hw2
  have Hgc := Lib.hid hgc
  clear hC hb4 hw2 hgc hO2 hS hB3 hb3 hb2 hs2 hs3 hs1 hO hN hnl hb
  go_wp2_with fail
  rw [HW.out, Hgc.out]
  refine HC.out.mono ?_
  rintro e w3 ⟨v2, rfl, hO3, hb5⟩
  have e3 : [(⟨A1, c1, nb⟩ : SV UInt8), ⟨some ⟨w1.heap.size, 0, none⟩, gc, s.data.toList⟩].flatMap SV.l = nb ++ s.data.toList := by simp
  rw [e3] at hO3
  go_wp2
  go_ret
  exact ⟨_, rfl, hO3.mono Hb4.out.size, below_on Hb4.out (Nat.le_refl _) hb5⟩
end Go.Proofs.YtdkkblhfjblpkaaGreat

/- order.Bytes -/
namespace Go.Proofs.YtdkkblhfjblpkaaGreat
open Go.RowKit
def legBs (l : Leg) : List UInt8 := textB l.acct ++ numB l.sum
def headBs (x : Od) : List UInt8 := numB x.client ++ numB x.seq ++ numB x.kind ++ textB x.acct ++ textB x.peer ++ numB x.sum ++ numB x.legs.length
/-- an order's bytes -/
def bytesB (x : Od) : List UInt8 := (headBs x ++ x.legs.flatMap legBs) ++ numB x.period ++ numB x.hold ++ textB x.note
theorem numB_le {n : Int} (h : R64 n) : (numB n).length ≤ 10 := uvarint_le (Lib.zigzag_lt h.1 h.2)
theorem textB_le {s : ByteArray} (h : s.size ≤ 100) : (textB s).length ≤ 110 := by
  unfold textB
  rw [List.length_append]
  have := numB_le (n := s.size) ⟨by omega, by omega⟩
  simp; omega
/-- what a right order's parts are like -/
structure Fine (x : Od) : Prop where
  acct : x.acct.size ≤ 100
  peer : x.peer.size ≤ 100
  note : x.note.size ≤ 100
  legs : x.legs.length ≤ 10
  each : ∀ l ∈ x.legs, l.acct.size ≤ 100
theorem nameB_size {s : ByteArray} (h : nameB s = true) : s.size ≤ 8 := by
  unfold nameB at h
  simp only [Bool.and_eq_true, decide_eq_true_eq] at h
  exact h.2.2
theorem legsB_fine {l : List Leg} (h : legsB l = true) : l.length ≤ 6 ∧ ∀ y ∈ l, nameB y.acct = true := by
  unfold legsB at h
  simp only [Bool.and_eq_true, decide_eq_true_eq, List.all_eq_true] at h
  exact ⟨h.2.2, fun y hy => by have := h.1.2 y hy; unfold legB at this; simp only [Bool.and_eq_true] at this; exact this.1⟩
theorem fine_of {x : Od} (h : rightB x = true) : Fine x := by
  unfold rightB at h
  simp only [Bool.and_eq_true] at h
  obtain ⟨hk, _, hs, hf⟩ := h
  by_cases h1 : x.kind = 1
  · have e1 : bareO x = bare1 x := by unfold bareO; rw [if_pos h1]
    have e2 : fitsO x = fits1 x := by unfold fitsO; rw [if_pos h1]
    rw [e1] at hs
    rw [e2] at hf
    obtain ⟨ea, ep, en, -, -, -, -, -, el⟩ := of_decide_eq_true hs
    simp only [fits1, Bool.and_eq_true, decide_eq_true_eq] at hf
    exact ⟨Nat.le_trans (nameB_size (hf.1)) (by decide), by rw [show x.peer = ⟨#[]⟩ from ep]; decide, by rw [show x.note = ⟨#[]⟩ from en]; decide, by rw [show x.legs = [] from el]; decide, fun l hl => by rw [show x.legs = [] from el] at hl; simp at hl⟩
  by_cases h2 : x.kind = 2
  · have e1 : bareO x = bare2 x := by unfold bareO; rw [if_neg h1, if_pos h2]
    have e2 : fitsO x = fits2 x := by unfold fitsO; rw [if_neg h1, if_pos h2]
    rw [e1] at hs
    rw [e2] at hf
    obtain ⟨ea, ep, en, -, -, -, -, -, el⟩ := of_decide_eq_true hs
    simp only [fits2, Bool.and_eq_true, decide_eq_true_eq] at hf
    exact ⟨by rw [show x.acct = ⟨#[]⟩ from ea]; decide, by rw [show x.peer = ⟨#[]⟩ from ep]; decide, by have := hf.2; omega, Nat.le_trans (legsB_fine hf.1.1).1 (by decide), fun l hl => Nat.le_trans (nameB_size ((legsB_fine hf.1.1).2 l hl)) (by decide)⟩
  by_cases h3 : x.kind = 3
  · have e1 : bareO x = bare3 x := by unfold bareO; rw [if_neg h1, if_neg h2, if_pos h3]
    have e2 : fitsO x = fits3 x := by unfold fitsO; rw [if_neg h1, if_neg h2, if_pos h3]
    rw [e1] at hs
    rw [e2] at hf
    obtain ⟨ea, ep, en, -, -, -, -, -, el⟩ := of_decide_eq_true hs
    simp only [fits3, Bool.and_eq_true, decide_eq_true_eq] at hf
    exact ⟨Nat.le_trans (nameB_size (hf.1)) (by decide), by rw [show x.peer = ⟨#[]⟩ from ep]; decide, by rw [show x.note = ⟨#[]⟩ from en]; decide, by rw [show x.legs = [] from el]; decide, fun l hl => by rw [show x.legs = [] from el] at hl; simp at hl⟩
  by_cases h4 : x.kind = 4
  · have e1 : bareO x = bare4 x := by unfold bareO; rw [if_neg h1, if_neg h2, if_neg h3, if_pos h4]
    have e2 : fitsO x = fits4 x := by unfold fitsO; rw [if_neg h1, if_neg h2, if_neg h3, if_pos h4]
    rw [e1] at hs
    rw [e2] at hf
    obtain ⟨ea, ep, en, -, -, -, -, -, el⟩ := of_decide_eq_true hs
    simp only [fits4, Bool.and_eq_true, decide_eq_true_eq] at hf
    exact ⟨Nat.le_trans (nameB_size (hf.1.1.1.1.1)) (by decide), Nat.le_trans (nameB_size (hf.1.1.1.1.2)) (by decide), by rw [show x.note = ⟨#[]⟩ from en]; decide, by rw [show x.legs = [] from el]; decide, fun l hl => by rw [show x.legs = [] from el] at hl; simp at hl⟩
  by_cases h5 : x.kind = 5
  · have e1 : bareO x = bare5 x := by unfold bareO; rw [if_neg h1, if_neg h2, if_neg h3, if_neg h4, if_pos h5]
    have e2 : fitsO x = fits5 x := by unfold fitsO; rw [if_neg h1, if_neg h2, if_neg h3, if_neg h4, if_pos h5]
    rw [e1] at hs
    rw [e2] at hf
    obtain ⟨ea, ep, en, -, -, -, -, -, el⟩ := of_decide_eq_true hs
    simp only [fits5, Bool.and_eq_true] at hf
    exact ⟨Nat.le_trans (nameB_size (hf.1)) (by decide), by rw [show x.peer = ⟨#[]⟩ from ep]; decide, by rw [show x.note = ⟨#[]⟩ from en]; decide, by rw [show x.legs = [] from el]; decide, fun l hl => by rw [show x.legs = [] from el] at hl; simp at hl⟩
  by_cases h6 : x.kind = 6
  · have e1 : bareO x = bare6 x := by unfold bareO; rw [if_neg h1, if_neg h2, if_neg h3, if_neg h4, if_neg h5, if_pos h6]
    have e2 : fitsO x = fits6 x := by unfold fitsO; rw [if_neg h1, if_neg h2, if_neg h3, if_neg h4, if_neg h5, if_pos h6]
    rw [e1] at hs
    rw [e2] at hf
    obtain ⟨ea, ep, en, -, -, -, -, -, el⟩ := of_decide_eq_true hs
    exact ⟨by rw [show x.acct = ⟨#[]⟩ from ea]; decide, by rw [show x.peer = ⟨#[]⟩ from ep]; decide, by rw [show x.note = ⟨#[]⟩ from en]; decide, by rw [show x.legs = [] from el]; decide, fun l hl => by rw [show x.legs = [] from el] at hl; simp at hl⟩
  by_cases h7 : x.kind = 7
  · have e1 : bareO x = bare7 x := by unfold bareO; rw [if_neg h1, if_neg h2, if_neg h3, if_neg h4, if_neg h5, if_neg h6]
    have e2 : fitsO x = nameB x.acct := by unfold fitsO; rw [if_neg h1, if_neg h2, if_neg h3, if_neg h4, if_neg h5, if_neg h6]
    rw [e1] at hs
    rw [e2] at hf
    obtain ⟨ea, ep, en, -, -, -, -, -, el⟩ := of_decide_eq_true hs
    exact ⟨Nat.le_trans (nameB_size (hf)) (by decide), by rw [show x.peer = ⟨#[]⟩ from ep]; decide, by rw [show x.note = ⟨#[]⟩ from en]; decide, by rw [show x.legs = [] from el]; decide, fun l hl => by rw [show x.legs = [] from el] at hl; simp at hl⟩
  have := of_decide_eq_true hk
  omega
theorem flat_step {l : List Leg} {k : Nat} (hk : k < l.length) : (l.take (k + 1)).flatMap legBs = (l.take k).flatMap legBs ++ legBs l[k] := by
  rw [List.take_succ_eq_append_getElem hk, List.flatMap_append]; simp
theorem legs_le {x : Od} (he : ∀ l ∈ x.legs, l.acct.size ≤ 100) (k : Nat) (hr : ∀ l ∈ x.legs, R64 l.sum) (hn : x.legs.length ≤ 10) : ((x.legs.take k).flatMap legBs).length ≤ 1200 := by
  have h : ∀ l : List Leg, (∀ y ∈ l, (legBs y).length ≤ 120) → (l.flatMap legBs).length ≤ l.length * 120 := by
    intro l hl
    induction l with
    | nil => simp
    | cons y r ih =>
      rw [List.flatMap_cons, List.length_append, List.length_cons]
      have h1 := hl y (by simp)
      have h2 := ih fun z hz => hl z (by simp [hz])
      omega
  have h1 := h (x.legs.take k) fun y hy => by
    have hm := List.mem_of_mem_take hy
    unfold legBs
    rw [List.length_append]
    have := textB_le (he y hm)
    have := numB_le (hr y hm)
    omega
  have h2 := List.length_take_le k x.legs
  have h3 : (x.legs.take k).length ≤ 10 := by rw [List.length_take]; omega
  omega
theorem rightB_la (x : Od) (a : Option Addr) (c : Nat) : rightB { x with la := a, lc := c } = rightB x := by
  have key : ∀ B B' : Od, B.core = B'.core → sameB { x with la := a, lc := c } (dress { x with la := a, lc := c } B) = sameB x (dress x B') := fun B B' e => by
    rw [Bool.eq_iff_iff, sameB_core, sameB_core]
    have e2 : (dress { x with la := a, lc := c } B).core = (dress x B').core := by
      have := congrArg (fun z : Od => ({ z with client := x.client, seq := x.seq, kind := x.kind } : Od)) e
      exact this
    rw [e2]
    exact Iff.rfl
  unfold rightB
  have e : (bareO { x with la := a, lc := c }).core = (bareO x).core := by
    unfold bareO
    by_cases h1 : x.kind = 1
    · rw [if_pos h1, if_pos h1] <;> rfl
    rw [if_neg h1, if_neg h1]
    by_cases h2 : x.kind = 2
    · rw [if_pos h2, if_pos h2] <;> rfl
    rw [if_neg h2, if_neg h2]
  rw [key _ _ e] <;> rfl
end Go.Proofs.YtdkkblhfjblpkaaGreat

/- order.Bytes: the walk -/
namespace Go.Proofs.YtdkkblhfjblpkaaGreat
open Go.RowKit
set_option maxRecDepth 100000 in
set_option maxHeartbeats 8000000 in
theorem bytes_c (x : Od) (w : World) (hx : Okb w w.heap.size x) (hl : x.legs.length ≤ 65536) (hin : InR x) :
    Calls Tryz.prog 116 #[x.v] w fun e w' => ∃ v, e = .returned (.tuple #[v, i64 (if rightB x then 0 else 1)]) ∧ Own w' w.heap.size 5 v (if rightB x then bytesB x else []) ∧ Below w.heap.size w w' := by
  have hb1 := (Below.refl w.heap.size w).alloc (Nat.le_refl _) (.cells #[i64 x.client, i64 x.seq, i64 x.kind, .string x.acct, .string x.peer, i64 x.sum, .slice x.la x.legs.length x.lc, i64 x.period, i64 x.hold, .string x.note] 50)
  have hz1 : w.heap.size < (w.alloc (.cells #[i64 x.client, i64 x.seq, i64 x.kind, .string x.acct, .string x.peer, i64 x.sum, .slice x.la x.legs.length x.lc, i64 x.period, i64 x.hold, .string x.note] 50)).heap.size := by simp
  have k0 : (w.alloc (.cells #[i64 x.client, i64 x.seq, i64 x.kind, .string x.acct, .string x.peer, i64 x.sum, .slice x.la x.legs.length x.lc, i64 x.period, i64 x.hold, .string x.note] 50)).cell? ⟨w.heap.size, 0, none⟩ = some (i64 x.client) := cell_of_row _ w.heap.size 0 _ _ (0, 0) (heap_alloc_new w _)
  have k1 : (w.alloc (.cells #[i64 x.client, i64 x.seq, i64 x.kind, .string x.acct, .string x.peer, i64 x.sum, .slice x.la x.legs.length x.lc, i64 x.period, i64 x.hold, .string x.note] 50)).cell? ⟨w.heap.size, 1, none⟩ = some (i64 x.seq) := cell_of_row _ w.heap.size 1 _ _ (0, 0) (heap_alloc_new w _)
  have k2 : (w.alloc (.cells #[i64 x.client, i64 x.seq, i64 x.kind, .string x.acct, .string x.peer, i64 x.sum, .slice x.la x.legs.length x.lc, i64 x.period, i64 x.hold, .string x.note] 50)).cell? ⟨w.heap.size, 2, none⟩ = some (i64 x.kind) := cell_of_row _ w.heap.size 2 _ _ (0, 0) (heap_alloc_new w _)
  have k3 : (w.alloc (.cells #[i64 x.client, i64 x.seq, i64 x.kind, .string x.acct, .string x.peer, i64 x.sum, .slice x.la x.legs.length x.lc, i64 x.period, i64 x.hold, .string x.note] 50)).cell? ⟨w.heap.size, 3, none⟩ = some (.string x.acct) := cell_of_row _ w.heap.size 3 _ _ (0, 0) (heap_alloc_new w _)
  have k4 : (w.alloc (.cells #[i64 x.client, i64 x.seq, i64 x.kind, .string x.acct, .string x.peer, i64 x.sum, .slice x.la x.legs.length x.lc, i64 x.period, i64 x.hold, .string x.note] 50)).cell? ⟨w.heap.size, 4, none⟩ = some (.string x.peer) := cell_of_row _ w.heap.size 4 _ _ (0, 0) (heap_alloc_new w _)
  have k5 : (w.alloc (.cells #[i64 x.client, i64 x.seq, i64 x.kind, .string x.acct, .string x.peer, i64 x.sum, .slice x.la x.legs.length x.lc, i64 x.period, i64 x.hold, .string x.note] 50)).cell? ⟨w.heap.size, 5, none⟩ = some (i64 x.sum) := cell_of_row _ w.heap.size 5 _ _ (0, 0) (heap_alloc_new w _)
  have k6 : (w.alloc (.cells #[i64 x.client, i64 x.seq, i64 x.kind, .string x.acct, .string x.peer, i64 x.sum, .slice x.la x.legs.length x.lc, i64 x.period, i64 x.hold, .string x.note] 50)).cell? ⟨w.heap.size, 6, none⟩ = some (.slice x.la x.legs.length x.lc) := cell_of_row _ w.heap.size 6 _ _ (0, 0) (heap_alloc_new w _)
  have k7 : (w.alloc (.cells #[i64 x.client, i64 x.seq, i64 x.kind, .string x.acct, .string x.peer, i64 x.sum, .slice x.la x.legs.length x.lc, i64 x.period, i64 x.hold, .string x.note] 50)).cell? ⟨w.heap.size, 7, none⟩ = some (i64 x.period) := cell_of_row _ w.heap.size 7 _ _ (0, 0) (heap_alloc_new w _)
  have k8 : (w.alloc (.cells #[i64 x.client, i64 x.seq, i64 x.kind, .string x.acct, .string x.peer, i64 x.sum, .slice x.la x.legs.length x.lc, i64 x.period, i64 x.hold, .string x.note] 50)).cell? ⟨w.heap.size, 8, none⟩ = some (i64 x.hold) := cell_of_row _ w.heap.size 8 _ _ (0, 0) (heap_alloc_new w _)
  have k9 : (w.alloc (.cells #[i64 x.client, i64 x.seq, i64 x.kind, .string x.acct, .string x.peer, i64 x.sum, .slice x.la x.legs.length x.lc, i64 x.period, i64 x.hold, .string x.note] 50)).cell? ⟨w.heap.size, 9, none⟩ = some (.string x.note) := cell_of_row _ w.heap.size 9 _ _ (0, 0) (heap_alloc_new w _)
  have hR := Lib.hid (right_c0 x _ (Okb.later hx hb1) hl)
  unfold Od.v at hR ⊢
  go_enter Tryz.func116, Tryz.ntmps116
  go_wp2_with fail
  refine hR.out.mono ?_
  rintro e w1 ⟨rfl, hF⟩
  have k0 := (hF.cell (p := ⟨w.heap.size, 0, none⟩) hz1).trans k0
  have k1 := (hF.cell (p := ⟨w.heap.size, 1, none⟩) hz1).trans k1
  have k2 := (hF.cell (p := ⟨w.heap.size, 2, none⟩) hz1).trans k2
  have k3 := (hF.cell (p := ⟨w.heap.size, 3, none⟩) hz1).trans k3
  have k4 := (hF.cell (p := ⟨w.heap.size, 4, none⟩) hz1).trans k4
  have k5 := (hF.cell (p := ⟨w.heap.size, 5, none⟩) hz1).trans k5
  have k6 := (hF.cell (p := ⟨w.heap.size, 6, none⟩) hz1).trans k6
  have k7 := (hF.cell (p := ⟨w.heap.size, 7, none⟩) hz1).trans k7
  have k8 := (hF.cell (p := ⟨w.heap.size, 8, none⟩) hz1).trans k8
  have k9 := (hF.cell (p := ⟨w.heap.size, 9, none⟩) hz1).trans k9
  have hb2w := below_on hb1 (Nat.le_refl _) hF
  have hz1 := Nat.lt_of_lt_of_le hz1 hF.size
  clear hF hR
  by_cases hr : rightB x = true
  · rw [hr]
    have hx1 := Okb.later hx hb2w
    have f := fine_of hr
    obtain ⟨r1, r2, r3, r4, r5, r6, r7⟩ := hin
    have hfa := f.acct
    have hfp := f.peer
    have hfn := f.note
    have hfl := f.legs
    have hfe := f.each
    have HE : Hid (bytesB x = (headBs x ++ x.legs.flatMap legBs) ++ numB x.period ++ numB x.hold ++ textB x.note) := Lib.hid rfl
    have HH : Hid (headBs x = numB x.client ++ numB x.seq ++ numB x.kind ++ textB x.acct ++ textB x.peer ++ numB x.sum ++ numB x.legs.length) := Lib.hid rfl
    have l1 := numB_le r1
    have l2 := numB_le r2
    have l3 := numB_le r3
    have l4 := textB_le hfa
    have l5 := textB_le hfp
    have l6 := numB_le r4
    have l7 := numB_le (n := x.legs.length) ⟨by omega, by omega⟩
    have l8 := numB_le r5
    have l9 := numB_le r6
    have l10 := textB_le hfn
    have x1 : ∀ W, Calls Tryz.prog 160 #[i64 x.client] W fun e w' => ∃ v, e = .returned v ∧ Own w' W.heap.size 5 v (numB x.client) ∧ Below W.heap.size W w' := fun W => onum_c x.client W r1.1 r1.2
    have x2 : ∀ W, Calls Tryz.prog 160 #[i64 x.seq] W fun e w' => ∃ v, e = .returned v ∧ Own w' W.heap.size 5 v (numB x.seq) ∧ Below W.heap.size W w' := fun W => onum_c x.seq W r2.1 r2.2
    have x3 : ∀ W, Calls Tryz.prog 160 #[i64 x.kind] W fun e w' => ∃ v, e = .returned v ∧ Own w' W.heap.size 5 v (numB x.kind) ∧ Below W.heap.size W w' := fun W => onum_c x.kind W r3.1 r3.2
    have x4 : ∀ W, Calls Tryz.prog 117 #[.string x.acct] W fun e w' => ∃ v, e = .returned v ∧ Own w' W.heap.size 5 v (textB x.acct) ∧ Below W.heap.size W w' := fun W => text_c x.acct W (by omega)
    have x5 : ∀ W, Calls Tryz.prog 117 #[.string x.peer] W fun e w' => ∃ v, e = .returned v ∧ Own w' W.heap.size 5 v (textB x.peer) ∧ Below W.heap.size W w' := fun W => text_c x.peer W (by omega)
    have x6 : ∀ W, Calls Tryz.prog 115 #[i64 x.sum] W fun e w' => ∃ v, e = .returned v ∧ Own w' W.heap.size 5 v (numB x.sum) ∧ Below W.heap.size W w' := fun W => num_c x.sum W r4.1 r4.2
    have x7 : ∀ W, Calls Tryz.prog 160 #[i64 x.legs.length] W fun e w' => ∃ v, e = .returned v ∧ Own w' W.heap.size 5 v (numB x.legs.length) ∧ Below W.heap.size W w' := fun W => onum_c x.legs.length W (by omega) (by omega)
    have x8 : ∀ W, Calls Tryz.prog 160 #[i64 x.period] W fun e w' => ∃ v, e = .returned v ∧ Own w' W.heap.size 5 v (numB x.period) ∧ Below W.heap.size W w' := fun W => onum_c x.period W r5.1 r5.2
    have x9 : ∀ W, Calls Tryz.prog 160 #[i64 x.hold] W fun e w' => ∃ v, e = .returned v ∧ Own w' W.heap.size 5 v (numB x.hold) ∧ Below W.heap.size W w' := fun W => onum_c x.hold W r6.1 r6.2
    have x10 : ∀ W, Calls Tryz.prog 117 #[.string x.note] W fun e w' => ∃ v, e = .returned v ∧ Own w' W.heap.size 5 v (textB x.note) ∧ Below W.heap.size W w' := fun W => text_c x.note W (by omega)
    clear r1 r2 r3 r4 r5 r6 hfa hfp hfn f
    generalize numB x.client = n1 at *
    generalize numB x.seq = n2 at *
    generalize numB x.kind = n3 at *
    generalize textB x.acct = n4 at *
    generalize textB x.peer = n5 at *
    generalize numB x.sum = n6 at *
    generalize numB x.legs.length = n7 at *
    generalize numB x.period = n8 at *
    generalize numB x.hold = n9 at *
    generalize textB x.note = n10 at *
    have h0 := (Below.refl w1.heap.size w1).drew
    have hSS : ∀ V, Below w1.heap.size w1 V → (fun V : World => Below w1.heap.size w1 V ∧ V.cell? ⟨w.heap.size, 0, none⟩ = some (i64 x.client) ∧ V.cell? ⟨w.heap.size, 1, none⟩ = some (i64 x.seq) ∧ V.cell? ⟨w.heap.size, 2, none⟩ = some (i64 x.kind) ∧ V.cell? ⟨w.heap.size, 3, none⟩ = some (.string x.acct) ∧ V.cell? ⟨w.heap.size, 4, none⟩ = some (.string x.peer) ∧ V.cell? ⟨w.heap.size, 5, none⟩ = some (i64 x.sum) ∧ V.cell? ⟨w.heap.size, 6, none⟩ = some (.slice x.la x.legs.length x.lc)) V := fun V h => ⟨h, (h.cell (p := ⟨w.heap.size, 0, none⟩) hz1).trans k0, (h.cell (p := ⟨w.heap.size, 1, none⟩) hz1).trans k1, (h.cell (p := ⟨w.heap.size, 2, none⟩) hz1).trans k2, (h.cell (p := ⟨w.heap.size, 3, none⟩) hz1).trans k3, (h.cell (p := ⟨w.heap.size, 4, none⟩) hz1).trans k4, (h.cell (p := ⟨w.heap.size, 5, none⟩) hz1).trans k5, (h.cell (p := ⟨w.heap.size, 6, none⟩) hz1).trans k6⟩
    go_wp2_with fail
    go_region_held3 (fun V => Below w1.heap.size w1 V ∧ V.cell? ⟨w.heap.size, 0, none⟩ = some (i64 x.client) ∧ V.cell? ⟨w.heap.size, 1, none⟩ = some (i64 x.seq) ∧ V.cell? ⟨w.heap.size, 2, none⟩ = some (i64 x.kind) ∧ V.cell? ⟨w.heap.size, 3, none⟩ = some (.string x.acct) ∧ V.cell? ⟨w.heap.size, 4, none⟩ = some (.string x.peer) ∧ V.cell? ⟨w.heap.size, 5, none⟩ = some (i64 x.sum) ∧ V.cell? ⟨w.heap.size, 6, none⟩ = some (.slice x.la x.legs.length x.lc)) (first | exact hSS _ h0 | exact hSS _ (by assumption) | exact hSS _ (hb7.alloc hb7.size _))
      (first
        | (go_at_call 160; with_reducible refine (x1 _).mono ?_; rintro e u1 ⟨v, rfl, hO, hF⟩; obtain ⟨A1, c1, rfl, hs1⟩ := hO.sl; have hb1 := below_on h0 (Nat.le_refl _) hF; clear hO hF)
        | (go_at_call 160; with_reducible refine (x2 _).mono ?_; rintro e u2 ⟨v, rfl, hO, hF⟩; obtain ⟨A2, c2, rfl, hs2⟩ := hO.sl; have hb2 := below_on hb1 (Nat.le_refl _) hF; have hs1 := hs1.later hF; clear hO hF)
        | (go_at_call 160; with_reducible refine (x3 _).mono ?_; rintro e u3 ⟨v, rfl, hO, hF⟩; obtain ⟨A3, c3, rfl, hs3⟩ := hO.sl; have hb3 := below_on hb2 (Nat.le_refl _) hF; have hs1 := hs1.later hF; have hs2 := hs2.later hF; clear hO hF)
        | (go_at_call 117; with_reducible refine (x4 _).mono ?_; rintro e u4 ⟨v, rfl, hO, hF⟩; obtain ⟨A4, c4, rfl, hs4⟩ := hO.sl; have hb4 := below_on hb3 (Nat.le_refl _) hF; have hs1 := hs1.later hF; have hs2 := hs2.later hF; have hs3 := hs3.later hF; clear hO hF)
        | (go_at_call 117; with_reducible refine (x5 _).mono ?_; rintro e u5 ⟨v, rfl, hO, hF⟩; obtain ⟨A5, c5, rfl, hs5⟩ := hO.sl; have hb5 := below_on hb4 (Nat.le_refl _) hF; have hs1 := hs1.later hF; have hs2 := hs2.later hF; have hs3 := hs3.later hF; have hs4 := hs4.later hF; clear hO hF)
        | (go_at_call 115; with_reducible refine (x6 _).mono ?_; rintro e u6 ⟨v, rfl, hO, hF⟩; obtain ⟨A6, c6, rfl, hs6⟩ := hO.sl; have hb6 := below_on hb5 (Nat.le_refl _) hF; have hs1 := hs1.later hF; have hs2 := hs2.later hF; have hs3 := hs3.later hF; have hs4 := hs4.later hF; have hs5 := hs5.later hF; clear hO hF)
        | (go_at_call 160; with_reducible refine (x7 _).mono ?_; rintro e u7 ⟨v, rfl, hO, hF⟩; obtain ⟨A7, c7, rfl, hs7⟩ := hO.sl; have hb7 := below_on hb6 (Nat.le_refl _) hF; have hs1 := hs1.later hF; have hs2 := hs2.later hF; have hs3 := hs3.later hF; have hs4 := hs4.later hF; have hs5 := hs5.later hF; have hs6 := hs6.later hF; clear hO hF)
        | (go_at_call 159; refine (concat_byte _ _ [(⟨A1, c1, n1⟩ : SV UInt8), ⟨A2, c2, n2⟩, ⟨A3, c3, n3⟩, ⟨A4, c4, n4⟩, ⟨A5, c5, n5⟩, ⟨A6, c6, n6⟩, ⟨A7, c7, n7⟩] _ (own_lit (w := u7) (base := u7.heap.size) 25 #[.slice A1 n1.length c1, .slice A2 n2.length c2, .slice A3 n3.length c3, .slice A4 n4.length c4, .slice A5 n5.length c5, .slice A6 n6.length c6, .slice A7 n7.length c7] [(⟨A1, c1, n1⟩ : SV UInt8), ⟨A2, c2, n2⟩, ⟨A3, c3, n3⟩, ⟨A4, c4, n4⟩, ⟨A5, c5, n5⟩, ⟨A6, c6, n6⟩, ⟨A7, c7, n7⟩] (Nat.le_refl _) rfl (by simp) (by intro y hy; simp only [List.mem_cons, List.not_mem_nil, or_false] at hy; rcases hy with rfl | rfl | rfl | rfl | rfl | rfl | rfl <;> (first | exact hs1 | exact hs2 | exact hs3 | exact hs4 | exact hs5 | exact hs6 | exact hs7))).sl_of (by simp) (by simp; omega)).mono ?_; rintro e uc ⟨vc, rfl, hOc, hF⟩; have hbc := below_on (hb7.alloc hb7.size _) (Nat.le_refl _) hF; have hOc := hOc.mono (base' := w1.heap.size) (Nat.le_trans hb7.size (by simp)); clear hF))
    rename_i hh
    have eH : [(⟨A1, c1, n1⟩ : SV UInt8), ⟨A2, c2, n2⟩, ⟨A3, c3, n3⟩, ⟨A4, c4, n4⟩, ⟨A5, c5, n5⟩, ⟨A6, c6, n6⟩, ⟨A7, c7, n7⟩].flatMap SV.l = n1 ++ n2 ++ n3 ++ n4 ++ n5 ++ n6 ++ n7 := by simp
    rw [eH] at hOc
    have lH : (n1 ++ n2 ++ n3 ++ n4 ++ n5 ++ n6 ++ n7).length ≤ 770 := by simp; omega
    generalize n1 ++ n2 ++ n3 ++ n4 ++ n5 ++ n6 ++ n7 = H at *
    have k5 := (hbc.cell (p := ⟨w.heap.size, 6, none⟩) hz1).trans k6
    have k7 := (hbc.cell (p := ⟨w.heap.size, 7, none⟩) hz1).trans k7
    have k8 := (hbc.cell (p := ⟨w.heap.size, 8, none⟩) hz1).trans k8
    have k9 := (hbc.cell (p := ⟨w.heap.size, 9, none⟩) hz1).trans k9
    clear hh hSS h0 hb1 hb3 hb4 hb5 hb6 hb7 hs1 hs2 hs3 hs4 hs5 hs6 hs7 x1 x2 x3 x4 x5 x6 x7 l1 l2 l3 l4 l5 l6 l7 eH
    go_wp2_with fail
    have hlg : Sl uc uc.heap.size x.la x.lc x.legs := by obtain ⟨_, _, _, q⟩ := hx1; exact q.later hbc
    go_loopw [4, 39] (fun v i wr => ∃ k : Nat, i = i64 k ∧ k ≤ x.legs.length ∧ Own wr w1.heap.size 5 v (H ++ (x.legs.take k).flatMap legBs) ∧ Below uc.heap.size uc wr) (fun _ i _ => x.legs.length - (intOf i).toNat)
    case atStart => exact ⟨0, rfl, by omega, by simpa using hOc, Below.refl _ _⟩
    case round =>
      obtain ⟨k, rfl, hk, hO, hB⟩ := hrel
      clear hOc
      have lP := legs_le hfe k r7 hfl
      by_cases hlt : k < x.legs.length
      · obtain ⟨b, ob, hA, hbb, hsz, e0, e1⟩ := (hlg.later hB).leg hlt
        have hst := flat_step hlt
        have hac := hfe x.legs[k] (List.getElem_mem hlt)
        have hsm := r7 x.legs[k] (List.getElem_mem hlt)
        obtain ⟨P, hP⟩ : ∃ P, H ++ (x.legs.take k).flatMap legBs = P := ⟨_, rfl⟩
        have lP2 : P.length ≤ 2000 := by rw [← hP, List.length_append]; omega
        have HP := Lib.hid (show H ++ (x.legs.take (k + 1)).flatMap legBs = P ++ (textB x.legs[k].acct ++ numB x.legs[k].sum) by rw [hst, ← List.append_assoc, hP]; rfl)
        rw [hP] at hO
        have hO2 := hO
        obtain ⟨AP, cP, rfl, hsP⟩ := hO.sl
        have m1 := textB_le hac
        have m2 := numB_le hsm
        have y1 : ∀ W, Calls Tryz.prog 117 #[.string x.legs[k].acct] W fun e w' => ∃ v, e = .returned v ∧ Own w' W.heap.size 5 v (textB x.legs[k].acct) ∧ Below W.heap.size W w' := fun W => text_c _ W (by omega)
        have y2 : ∀ W, Calls Tryz.prog 115 #[i64 x.legs[k].sum] W fun e w' => ∃ v, e = .returned v ∧ Own w' W.heap.size 5 v (numB x.legs[k].sum) ∧ Below W.heap.size W w' := fun W => num_c _ W hsm.1 hsm.2
        generalize textB x.legs[k].acct = t1 at *
        generalize numB x.legs[k].sum = t2 at *
        have hB7 := (Below.refl wr.heap.size wr).alloc (Nat.le_refl _) (.cells #[.string x.legs[k].acct, i64 x.legs[k].sum] 167)
        have d0 : (wr.alloc (.cells #[.string x.legs[k].acct, i64 x.legs[k].sum] 167)).cell? ⟨wr.heap.size, 0, none⟩ = some (.string x.legs[k].acct) := by simp
        have d1 : (wr.alloc (.cells #[.string x.legs[k].acct, i64 x.legs[k].sum] 167)).cell? ⟨wr.heap.size, 1, none⟩ = some (i64 x.legs[k].sum) := by simp
        have hsP := hsP.later hB7
        have hlz : wr.heap.size < (wr.alloc (.cells #[.string x.legs[k].acct, i64 x.legs[k].sum] 167)).heap.size := by simp
        rw [hA]
        have HB := Lib.hid hB
        have hw1 : w1.heap.size ≤ wr.heap.size := Nat.le_trans hbc.size hB.size
        clear hP hst hac hsm hO hA hsz hB
        go_wp2_with fail
        generalize wr.alloc (.cells #[.string x.legs[k].acct, i64 x.legs[k].sum] 167) = W7 at *
        have h0 := (Below.refl W7.heap.size W7).drew
        have hsP := hsP.later h0
        have hSS : ∀ V, Below W7.heap.size W7 V → (fun V : World => Below W7.heap.size W7 V ∧ V.cell? ⟨wr.heap.size, 0, none⟩ = some (.string x.legs[k].acct) ∧ V.cell? ⟨wr.heap.size, 1, none⟩ = some (i64 x.legs[k].sum)) V := fun V h => ⟨h, (h.cell (p := ⟨wr.heap.size, 0, none⟩) hlz).trans d0, (h.cell (p := ⟨wr.heap.size, 1, none⟩) hlz).trans d1⟩
        go_region_held3 (fun V => Below W7.heap.size W7 V ∧ V.cell? ⟨wr.heap.size, 0, none⟩ = some (.string x.legs[k].acct) ∧ V.cell? ⟨wr.heap.size, 1, none⟩ = some (i64 x.legs[k].sum)) (first | exact hSS _ h0 | exact hSS _ (by assumption) | exact hSS _ (hb2.alloc hb2.size _))
          (first
            | (go_at_call 117; with_reducible refine (y1 _).mono ?_; rintro e u1 ⟨v, rfl, hO, hF⟩; obtain ⟨A1, c1, rfl, hs1⟩ := hO.sl; have hb1 := below_on h0 (Nat.le_refl _) hF; have hsP := hsP.later hF; clear hO hF)
            | (go_at_call 115; with_reducible refine (y2 _).mono ?_; rintro e u2 ⟨v, rfl, hO, hF⟩; obtain ⟨A2, c2, rfl, hs2⟩ := hO.sl; have hb2 := below_on hb1 (Nat.le_refl _) hF; have hsP := hsP.later hF; have hs1 := hs1.later hF; clear hO hF)
            | (go_at_call 159; refine (concat_byte _ _ [(⟨AP, cP, P⟩ : SV UInt8), ⟨A1, c1, t1⟩, ⟨A2, c2, t2⟩] _ (own_lit (w := u2) (base := u2.heap.size) 25 #[.slice AP P.length cP, .slice A1 t1.length c1, .slice A2 t2.length c2] [(⟨AP, cP, P⟩ : SV UInt8), ⟨A1, c1, t1⟩, ⟨A2, c2, t2⟩] (Nat.le_refl _) rfl (by simp) (by intro y hy; simp only [List.mem_cons, List.not_mem_nil, or_false] at hy; rcases hy with rfl | rfl | rfl <;> (first | exact hsP | exact hs1 | exact hs2))).sl_of (by simp) (by simp; omega)).mono ?_; rintro e uc ⟨vc, rfl, hOc, hF⟩; have hbc := below_on (hb2.alloc hb2.size _) (Nat.le_refl _) hF; have hOc := hOc.mono (base' := W7.heap.size) (Nat.le_trans hb2.size (by simp)); clear hF))
        have eP : [(⟨AP, cP, P⟩ : SV UInt8), ⟨A1, c1, t1⟩, ⟨A2, c2, t2⟩].flatMap SV.l = P ++ (t1 ++ t2) := by simp
        rw [eP] at hOc
        go_wp2
        go_roundw
        case rel => exact ⟨k + 1, by go_num, by omega, by rw [HP.out]; exact hOc.mono (Nat.le_trans hw1 (Nat.le_of_lt hlz)), below_on (below_on HB.out (Nat.le_refl _) hB7) (Nat.le_refl _) hbc⟩
        case measure => simp [intOf]; omega
      · obtain rfl : k = x.legs.length := by omega
        rw [List.take_length] at hO lP
        have HE2 := HE.out
        rw [HH.out] at HE2
        have HE := Lib.hid HE2
        have HB := Lib.hid (below_on hbc (Nat.le_refl _) hB)
        have k7 := (hB.cell (World.block_lt_of_cell? _ _ k7)).trans k7
        have k8 := (hB.cell (World.block_lt_of_cell? _ _ k8)).trans k8
        have k9 := (hB.cell (World.block_lt_of_cell? _ _ k9)).trans k9
        obtain ⟨P, hP⟩ : ∃ P, H ++ x.legs.flatMap legBs = P := ⟨_, rfl⟩
        have lP2 : P.length ≤ 2000 := by rw [← hP, List.length_append]; omega
        rw [hP] at hO HE
        obtain ⟨AP, cP, rfl, hsP⟩ := hO.sl
        have hw1 : w1.heap.size ≤ wr.heap.size := HB.out.size
        have hz2 : w.heap.size < wr.heap.size := World.block_lt_of_cell? _ _ k7
        clear hO hP HE2 hlg hB
        go_wp2_with fail
        have h0 := (Below.refl wr.heap.size wr).drew
        have hsP := hsP.later h0
        have hSS : ∀ V, Below wr.heap.size wr V → (fun V : World => Below wr.heap.size wr V ∧ V.cell? ⟨w.heap.size, 7, none⟩ = some (i64 x.period) ∧ V.cell? ⟨w.heap.size, 8, none⟩ = some (i64 x.hold) ∧ V.cell? ⟨w.heap.size, 9, none⟩ = some (.string x.note)) V := fun V h => ⟨h, (h.cell (p := ⟨w.heap.size, 7, none⟩) hz2).trans k7, (h.cell (p := ⟨w.heap.size, 8, none⟩) hz2).trans k8, (h.cell (p := ⟨w.heap.size, 9, none⟩) hz2).trans k9⟩
        go_region_held3 (fun V => Below wr.heap.size wr V ∧ V.cell? ⟨w.heap.size, 7, none⟩ = some (i64 x.period) ∧ V.cell? ⟨w.heap.size, 8, none⟩ = some (i64 x.hold) ∧ V.cell? ⟨w.heap.size, 9, none⟩ = some (.string x.note)) (first | exact hSS _ h0 | exact hSS _ (by assumption) | exact hSS _ (hb3.alloc hb3.size _))
          (first
            | (go_at_call 160; with_reducible refine (x8 _).mono ?_; rintro e u1 ⟨v, rfl, hO, hF⟩; obtain ⟨A1, c1, rfl, hs1⟩ := hO.sl; have hb1 := below_on h0 (Nat.le_refl _) hF; have hsP := hsP.later hF; clear hO hF)
            | (go_at_call 160; with_reducible refine (x9 _).mono ?_; rintro e u2 ⟨v, rfl, hO, hF⟩; obtain ⟨A2, c2, rfl, hs2⟩ := hO.sl; have hb2 := below_on hb1 (Nat.le_refl _) hF; have hsP := hsP.later hF; have hs1 := hs1.later hF; clear hO hF)
            | (go_at_call 117; with_reducible refine (x10 _).mono ?_; rintro e u3 ⟨v, rfl, hO, hF⟩; obtain ⟨A3, c3, rfl, hs3⟩ := hO.sl; have hb3 := below_on hb2 (Nat.le_refl _) hF; have hsP := hsP.later hF; have hs1 := hs1.later hF; have hs2 := hs2.later hF; clear hO hF)
            | (go_at_call 159; refine (concat_byte _ _ [(⟨AP, cP, P⟩ : SV UInt8), ⟨A1, c1, n8⟩, ⟨A2, c2, n9⟩, ⟨A3, c3, n10⟩] _ (own_lit (w := u3) (base := u3.heap.size) 25 #[.slice AP P.length cP, .slice A1 n8.length c1, .slice A2 n9.length c2, .slice A3 n10.length c3] [(⟨AP, cP, P⟩ : SV UInt8), ⟨A1, c1, n8⟩, ⟨A2, c2, n9⟩, ⟨A3, c3, n10⟩] (Nat.le_refl _) rfl (by simp) (by intro y hy; simp only [List.mem_cons, List.not_mem_nil, or_false] at hy; rcases hy with rfl | rfl | rfl | rfl <;> (first | exact hsP | exact hs1 | exact hs2 | exact hs3))).sl_of (by simp) (by simp; omega)).mono ?_; rintro e uc ⟨vc, rfl, hOc, hF⟩; have hbc := below_on (hb3.alloc hb3.size _) (Nat.le_refl _) hF; have hOc := hOc.mono (base' := wr.heap.size) (Nat.le_trans hb3.size (by simp)); clear hF))
        have eP : [(⟨AP, cP, P⟩ : SV UInt8), ⟨A1, c1, n8⟩, ⟨A2, c2, n9⟩, ⟨A3, c3, n10⟩].flatMap SV.l = P ++ n8 ++ n9 ++ n10 := by simp
        rw [eP] at hOc
        go_wp2
        go_ret2
        exact ⟨_, rfl, by show Own _ w.heap.size 5 _ (bytesB x); rw [HE.out]; exact hOc.mono (Nat.le_trans hb2w.size hw1), below_on (below_on hb2w (Nat.le_refl _) HB.out) (Nat.le_refl _) hbc⟩
  · have hr : rightB x = false := by simpa using hr
    rw [hr]
    clear hr
    go_wp2
    go_ret2
    exact ⟨_, rfl, Own.nil_ _ _ _, hb2w⟩
end Go.Proofs.YtdkkblhfjblpkaaGreat

/- append of a slice behind a guard that is met -/
namespace Go.Proofs.YtdkkblhfjblpkaaGreat
open Go.RowKit
section
variable {α : Type} [Enc α] {w : World} {base : Nat} {e : TypeId} {v : Value} {l : List α} {P : Program}
theorem wpList_append_guarded {ops : Array Oper} {rest : List Oper} {o : Oper} {a : Act} {Q : Exit → Act → World → Prop} (hgd : Region.wanted o (yielded ops a.tmps) = true) (d : Option Nat) (s x : Operand) (t : TypeId)
    (ho : o.op = .call { callee := .builtin .append, args := #[s, x], argTypes := #[t, t] }) (hd : o.dst = d) (z : Value) (bytes : Nat) (ht : P.underlying t = some (.slice e)) (hinf : (P.info? e).map (fun i => (i.zero, i.size, i.bytes)) = some (some z, Enc.size α, bytes)) (hzs : z.cells.size = Enc.size α) (hsz : 0 < Enc.size α) (hby : bytes ≤ 1000)
    (hs : a.eval s = v) (h : Own w base e v l) (A : Option Addr) (n c : Nat) (ys : List α) (hx : a.eval x = .slice A n c) (hn : n = ys.length) (hsl : SlS w (Oth w v) A c ys) (hlen : l.length + ys.length ≤ 4294967296) (hbase : base ≤ w.heap.size)
    (hK : ∀ v' w', Own w' base e v' (l ++ ys) → w.grownBy w' v.ownBlock → (v'.ownBlock = v.ownBlock ∨ v'.ownBlock = some w.heap.size) → wpList P ops Q rest (a.put d v') w') : wpList P ops Q (o :: rest) a w := by
  subst hd hn
  obtain ⟨v', w', hrun, h2, h3, h4⟩ := run_append_slice (P := P) t o.type z bytes ht hinf hzs hsz hby h A c ys hsl hlen hbase
  refine wpList_step fun K hk => ?_
  rw [if_pos hgd]
  unfold Oper.wp execOp
  simp only [ho, resolve, invoke, builtin, Sem.run_bind, Sem.run_pure, Result.andThen_ok, List.map_toArray, List.map_cons, List.map_nil, hs, hx, hrun]
  exact hk _ _ (hK v' w' h2 h3 h4)
/-- the same as one operation of a drawn region -/
theorem oper_append {o : Oper} {a : Act} {K : Act → World → Prop} {Q : Exit → Act → World → Prop} (s x : Operand) (t : TypeId)
    (ho : o.op = .call { callee := .builtin .append, args := #[s, x], argTypes := #[t, t] }) (z : Value) (bytes : Nat) (ht : P.underlying t = some (.slice e)) (hinf : (P.info? e).map (fun i => (i.zero, i.size, i.bytes)) = some (some z, Enc.size α, bytes)) (hzs : z.cells.size = Enc.size α) (hsz : 0 < Enc.size α) (hby : bytes ≤ 1000)
    (hs : a.eval s = v) (h : Own w base e v l) (A : Option Addr) (n c : Nat) (ys : List α) (hx : a.eval x = .slice A n c) (hn : n = ys.length) (hsl : SlS w (Oth w v) A c ys) (hlen : l.length + ys.length ≤ 4294967296) (hbase : base ≤ w.heap.size)
    (hK : ∀ v' w', Own w' base e v' (l ++ ys) → w.grownBy w' v.ownBlock → (v'.ownBlock = v.ownBlock ∨ v'.ownBlock = some w.heap.size) → K (a.put o.dst v') w') : Oper.wp P o a w K Q := by
  subst hn
  obtain ⟨v', w', hrun, h2, h3, h4⟩ := run_append_slice (P := P) t o.type z bytes ht hinf hzs hsz hby h A c ys hsl hlen hbase
  unfold Oper.wp execOp
  simp only [ho, resolve, invoke, builtin, Sem.run_bind, Sem.run_pure, Result.andThen_ok, List.map_toArray, List.map_cons, List.map_nil, hs, hx, hrun]
  exact hK v' w' h2 h3 h4
theorem oper_append_one {o : Oper} {a : Act} {K : Act → World → Prop} {Q : Exit → Act → World → Prop} (s x : Operand) (t : TypeId)
    (ho : o.op = .call { callee := .builtin .append, args := #[s, x], argTypes := #[t, t] }) (z : Value) (bytes : Nat) (ht : P.underlying t = some (.slice e)) (hinf : (P.info? e).map (fun i => (i.zero, i.size, i.bytes)) = some (some z, Enc.size α, bytes)) (hzs : z.cells.size = Enc.size α) (hsz : 0 < Enc.size α) (hby : bytes ≤ 1000)
    (hs : a.eval s = v) (h : Own w base e v l) (g : Nat) (y : α) (hx : a.eval x = .slice (some ⟨g, 0, none⟩) 1 1) (cs : Array Value) (te : TypeId) (hg : w.heap[g]? = some (.cells cs te (0, 0))) (hcs : cs.toList = Enc.cells y) (hne : some g ≠ v.ownBlock) (hy : Enc.ok w (Oth w v) y)
    (hlen : l.length + 1 ≤ 4294967296) (hbase : base ≤ w.heap.size)
    (hK : ∀ v' w', Own w' base e v' (l ++ [y]) → w.grownBy w' v.ownBlock → (v'.ownBlock = v.ownBlock ∨ v'.ownBlock = some w.heap.size) → K (a.put o.dst v') w') : Oper.wp P o a w K Q := by
  refine oper_append s x t ho z bytes ht hinf hzs hsz hby hs h (some ⟨g, 0, none⟩) 1 1 [y] hx rfl ⟨Nat.le_refl _, by simp [maxLen], fun _ => ⟨g, 0, rfl, ⟨(Array.getElem?_eq_some_iff.1 hg).1, hne⟩, fun j u hu => ?_⟩, fun x hx => ?_⟩ hlen hbase hK
  · rw [cell_of_row w g (0 + j) cs te (0, 0) hg, Nat.zero_add]
    simp only [List.flatMap_cons, List.flatMap_nil, List.append_nil, ← hcs] at hu
    simpa using hu
  · simp only [List.mem_singleton] at hx
    subst hx; exact hy
end
end Go.Proofs.YtdkkblhfjblpkaaGreat

/- pack.Reader: fail, long, unfold -/
namespace Go.Proofs.YtdkkblhfjblpkaaGreat
open Go.RowKit
/-- block g holds a reader: its error, and what is left, which lies in block r -/
def Rd (w : World) (g r : Nat) (err : Int) (l : List UInt8) : Prop :=
  r ≠ g ∧ ∃ A c, w.heap[g]? = some (.cells #[.slice A l.length c, i64 err] 239 (0, 0)) ∧ SlS w (fun b => b = r) A c l
theorem Rd.lt {w : World} {g r : Nat} {err : Int} {l : List UInt8} (h : Rd w g r err l) : g < w.heap.size := by
  obtain ⟨_, _, _, hg, _⟩ := h
  exact (Array.getElem?_eq_some_iff.1 hg).1
theorem Rd.grown {w w' : World} {g r : Nat} {err : Int} {l : List UInt8} {row : Option Nat} (h : Rd w g r err l) (hk : w.grownBy w' row) (h1 : row ≠ some g) (h2 : row ≠ some r) (hr : r < w.heap.size) : Rd w' g r err l := by
  obtain ⟨hne, A, c, hg, hs⟩ := h
  refine ⟨hne, A, c, ?_, hs.keep (fun p hp => ?_) (fun _ h => h)⟩
  · rw [hk.block g (Array.getElem?_eq_some_iff.1 hg).1 (fun e => h1 e.symm), hg]
  · refine World.cell?_of_block (w := w) ?_
    rw [hp]
    exact hk.block r hr (fun e => h2 e.symm)
theorem Rd.later {w w' : World} {g r : Nat} {err : Int} {l : List UInt8} (h : Rd w g r err l) (hr : r < w.heap.size) (hb : Below w.heap.size w w') : Rd w' g r err l := h.grown (grown_of_below hb none) (by simp) (by simp) hr
set_option maxRecDepth 100000 in
set_option maxHeartbeats 400000 in
theorem rfail_c (g r : Nat) (err x : Int) (l : List UInt8) (w : World) (h : Rd w g r err l) :
    Calls Tryz.prog 172 #[.pointer (some ⟨g, 0, none⟩), i64 x] w fun e w' => e = .returned (i64 x) ∧ Rd w' g r x [] ∧ w.grownBy w' (some g) := by
  obtain ⟨hne, A, c, hg, hs⟩ := h
  have c0 := cell_of_row w g 0 _ _ (0, 0) hg
  have c1 := cell_of_row w g 1 _ _ (0, 0) hg
  have f0 := frozen_of_row w g 0 _ _ hg
  have f1 := frozen_of_row w g 1 _ _ hg
  have hS1 := heap_setCell_same w g 0 _ _ (.slice none 0 0) hg
  have hS2 := heap_setCell_same _ g 1 _ _ (i64 x) hS1
  have hG1 := grown_setCell (g := g) (World.grownBy.refl w (some g)) (p := ⟨g, 0, none⟩) (.inl rfl) (.slice none 0 0)
  have hG2 := grown_setCell (g := g) hG1 (p := ⟨g, 1, none⟩) (.inl rfl) (i64 x)
  have HS := Lib.hid hS2
  have HG := Lib.hid hG2
  clear hg hs hS1 hS2 hG1 hG2
  go_enter Tryz.func172, Tryz.ntmps172
  go_wp2
  go_ret
  refine ⟨rfl, ⟨hne, none, 0, ?_, SlS.nil_ _ _⟩, HG.out⟩
  rw [HS.out]
  rfl
theorem bits_xor_comm (k : IntKind) (x y : Int) : bits .xor k x y = bits .xor k y x := by
  unfold bits
  simp only
  rw [BitVec.xor_comm]
theorem unfold_bits (m : Nat) (hm : m < 18446744073709551616) : bits .xor .i64 (IntKind.i64.wrap ((m : Int) / 2)) (IntKind.i64.wrap (-IntKind.i64.wrap (bits .and .u64 (m : Int) 1))) = Lib.unzigzag m := by
  rw [Lib.u64_and1 _ (by omega) (by omega)]
  have e0 : IntKind.i64.wrap ((m : Int) / 2) = ((m / 2 : Nat) : Int) := by rw [IntKind.wrap_i64]; omega
  unfold Lib.unzigzag
  by_cases hp : m % 2 = 0
  · have e1 : IntKind.i64.wrap (-IntKind.i64.wrap ((m : Int) % 2)) = ((0 : Nat) : Int) := by rw [IntKind.wrap_i64, IntKind.wrap_i64]; omega
    rw [if_pos hp, e0, e1]
    show IntKind.i64.wrap ((BitVec.ofInt 64 ((m / 2 : Nat) : Int) ^^^ BitVec.ofInt 64 ((0 : Nat) : Int)).toNat : Int) = _
    rw [BitVec.toNat_xor, BitVec.ofInt_natCast, BitVec.ofInt_natCast, BitVec.toNat_ofNat, BitVec.toNat_ofNat, Nat.zero_mod, Nat.xor_zero, Nat.mod_eq_of_lt (by omega), IntKind.wrap_i64]
    omega
  · have e1 : IntKind.i64.wrap (-IntKind.i64.wrap ((m : Int) % 2)) = -1 := by rw [IntKind.wrap_i64, IntKind.wrap_i64]; omega
    rw [if_neg hp, e0, e1, bits_xor_comm, Lib.i64_not _ (by omega)]
set_option maxRecDepth 100000 in
set_option maxHeartbeats 400000 in
theorem unfold_c (m : Nat) (hm : m < 18446744073709551616) (w : World) :
    Calls Tryz.prog 231 #[.int .u64 (m : Int)] w fun e w' => e = .returned (i64 (Lib.unzigzag m)) ∧ Below w.heap.size w w' := by
  have h1 := unfold_bits m hm
  rw [IntWalk.i64_left, IntWalk.i64_left, IntWalk.i64_left, IntWalk.wrap64_in ((m : Int) / 2) (by omega)] at h1
  have H := Lib.hid h1
  clear h1
  go_enter Tryz.func231, Tryz.ntmps231
  go_wp2
  go_ret
  exact ⟨by rw [← H.out]; rfl, Below.refl _ _⟩
/-- the error of a number with too many bits -/
def longE (l : List UInt8) (i : Nat) (b : UInt8) : Int := if i + 1 = l.length ∧ 128 ≤ b.toNat ∧ i < 10 then 4 else 3
set_option maxRecDepth 100000 in
set_option maxHeartbeats 1000000 in
theorem long_c (g r : Nat) (err : Int) (l : List UInt8) (i : Nat) (hi : i < l.length) (w : World) (h : Rd w g r err l) (hn : l.length ≤ 65536) :
    Calls Tryz.prog 230 #[.pointer (some ⟨g, 0, none⟩), i64 i] w fun e w' => e = .returned (i64 (longE l i l[i])) ∧ Below w.heap.size w w' := by
  obtain ⟨hne, A, c, hg, hs⟩ := h
  have c0 := cell_of_row w g 0 _ _ (0, 0) hg
  obtain ⟨b, o, rfl, -, -, hc⟩ := hs.at_ hi
  have d0 := hc 0 _ rfl
  rw [show i * Enc.size UInt8 + 0 = i from Nat.mul_one i] at d0
  have hlb := l[i].toNat_lt
  simp only [List.getElem?_toArray, List.getElem?_cons_zero] at c0
  have i0 : (0 : Int) ≤ (i : Int) := by omega
  have i1 : (i : Int) < (l.length : Int) := by omega
  have HU : Hid (∀ v : Int, v = longE l i l[i] → (.returned (i64 v) : Ending) = .returned (i64 (longE l i l[i]))) := Lib.hid fun v e => by rw [e]
  clear hg hs hc
  by_cases h1 : i + 1 = l.length
  · have g1 : ((i : Int) == (l.length : Int) - 1) = true := by rw [beq_iff_eq]; omega
    have w1 : IntKind.i64.wrap ((l.length : Int) - 1) = (l.length : Int) - 1 := by rw [IntKind.wrap_i64]; omega
    by_cases h2 : 128 ≤ l[i].toNat
    · have g2 : decide ((128 : Int) ≤ (l[i].toNat : Int)) = true := decide_eq_true (by omega)
      by_cases h3 : i < 10
      · have g3 : decide ((i : Int) < 10) = true := decide_eq_true (by omega)
        have HS := Lib.hid (show longE l i l[i] = 4 by unfold longE; rw [if_pos ⟨h1, h2, h3⟩])
        clear h1 h2 h3
        go_enter Tryz.func230, Tryz.ntmps230
        go_wp2
        go_ret
        exact ⟨by rw [HS.out]; rfl, Below.refl _ _⟩
      · have g3 : decide ((i : Int) < 10) = false := decide_eq_false (by omega)
        have HS := Lib.hid (show longE l i l[i] = 3 by unfold longE; rw [if_neg (fun h => h3 h.2.2)])
        clear h1 h2 h3
        go_enter Tryz.func230, Tryz.ntmps230
        go_wp2
        go_ret
        exact ⟨by rw [HS.out]; rfl, Below.refl _ _⟩
    · have g2 : decide ((128 : Int) ≤ (l[i].toNat : Int)) = false := decide_eq_false (by omega)
      have HS := Lib.hid (show longE l i l[i] = 3 by unfold longE; rw [if_neg (fun h => h2 h.2.1)])
      clear h1 h2
      go_enter Tryz.func230, Tryz.ntmps230
      go_wp2
      go_ret
      exact ⟨by rw [HS.out]; rfl, Below.refl _ _⟩
  · have g1 : ((i : Int) == (l.length : Int) - 1) = false := by rw [beq_eq_false_iff_ne]; omega
    have w1 : IntKind.i64.wrap ((l.length : Int) - 1) = (l.length : Int) - 1 := by rw [IntKind.wrap_i64]; omega
    have HS := Lib.hid (show longE l i l[i] = 3 by unfold longE; rw [if_neg (fun h => h1 h.1)])
    clear h1
    go_enter Tryz.func230, Tryz.ntmps230
    go_wp2
    go_ret
    exact ⟨by rw [HS.out]; rfl, Below.refl _ _⟩
end Go.Proofs.YtdkkblhfjblpkaaGreat
