/- pack.Reader: fail, long, unfold -/
import Derived.Test.YtogecfddkohigaaRows
import Derived.Test.YtogecfddkohigaaText
import Derived.Lib.VarintDec
import Derived.WalkKit
import Derived.WalkSpells
import Derived.WalkLawsBesides
import Derived.Deep.QuietTactic
import Derived.BigQuiet
import Derived.Laws.StructEq
import Derived.Deep.DeepFit
import Derived.StillTailTactics
namespace Go.Proofs.Ytogecfddkohigaa
open Go.RowKit
/-- block g holds a reader: its error, and what is left, which lies in block r -/
def Rd (w : World) (g r : Nat) (err : Int) (l : List UInt8) : Prop :=
  r ≠ g ∧ ∃ A c, w.heap[g]? = some (.cells #[.slice A l.length c, i64 err] 110 (0, 0)) ∧ SlS w (fun b => b = r) A c l
theorem Rd.lt {w : World} {g r : Nat} {err : Int} {l : List UInt8} (h : Rd w g r err l) : g < w.heap.size := by
  obtain ⟨_, _, _, hg, _⟩ := h
  exact (Array.getElem?_eq_some_iff.1 hg).1
theorem Rd.grown {w w' : World} {g r : Nat} {err : Int} {l : List UInt8} {row : Option Nat} (h : Rd w g r err l) (hk : w.grownBy w' row) (h1 : row ≠ some g) (h2 : row ≠ some r) (hr : r < w.heap.size) : Rd w' g r err l := by
  obtain ⟨hne, A, c, hg, hs⟩ := h
  refine ⟨hne, A, c, ?_, hs.keep (fun p hp => ?_) (fun _ h => h)⟩
  · rw [hk.block g (Array.getElem?_eq_some_iff.1 hg).1 (fun e => h1 e.symm), hg]
  · refine World.cell?_of_block (w := w) ?_
    rw [hp]
    exact hk.block r hr (fun e => h2 e.symm)
theorem Rd.later {w w' : World} {g r : Nat} {err : Int} {l : List UInt8} (h : Rd w g r err l) (hr : r < w.heap.size) (hb : Below w.heap.size w w') : Rd w' g r err l := h.grown (grown_of_below hb none) (by simp) (by simp) hr
set_option maxRecDepth 100000 in
set_option maxHeartbeats 400000 in
theorem rfail_c (g r : Nat) (err x : Int) (l : List UInt8) (w : World) (h : Rd w g r err l) :
    Calls Try.prog 92 #[.pointer (some ⟨g, 0, none⟩), i64 x] w fun e w' => e = .returned (i64 x) ∧ Rd w' g r x [] ∧ w.grownBy w' (some g) := by
  obtain ⟨hne, A, c, hg, hs⟩ := h
  have c0 := cell_of_row w g 0 _ _ (0, 0) hg
  have c1 := cell_of_row w g 1 _ _ (0, 0) hg
  have f0 := frozen_of_row w g 0 _ _ hg
  have f1 := frozen_of_row w g 1 _ _ hg
  have hS1 := heap_setCell_same w g 0 _ _ (.slice none 0 0) hg
  have hS2 := heap_setCell_same _ g 1 _ _ (i64 x) hS1
  have hG1 := grown_setCell (g := g) (World.grownBy.refl w (some g)) (p := ⟨g, 0, none⟩) (.inl rfl) (.slice none 0 0)
  have hG2 := grown_setCell (g := g) hG1 (p := ⟨g, 1, none⟩) (.inl rfl) (i64 x)
  have HS := Lib.hid hS2
  have HG := Lib.hid hG2
  clear hg hs hS1 hS2 hG1 hG2
  go_enter Try.func92, Try.ntmps92
  go_wp2
  go_ret
  refine ⟨rfl, ⟨hne, none, 0, ?_, SlS.nil_ _ _⟩, HG.out⟩
  rw [HS.out]
  rfl
theorem bits_xor_comm (k : IntKind) (x y : Int) : bits .xor k x y = bits .xor k y x := by
  unfold bits
  simp only
  rw [BitVec.xor_comm]
theorem unfold_bits (m : Nat) (hm : m < 18446744073709551616) : bits .xor .i64 (IntKind.i64.wrap ((m : Int) / 2)) (IntKind.i64.wrap (-IntKind.i64.wrap (bits .and .u64 (m : Int) 1))) = Lib.unzigzag m := by
  rw [Lib.u64_and1 _ (by omega) (by omega)]
  have e0 : IntKind.i64.wrap ((m : Int) / 2) = ((m / 2 : Nat) : Int) := by rw [IntKind.wrap_i64]; omega
  unfold Lib.unzigzag
  by_cases hp : m % 2 = 0
  · have e1 : IntKind.i64.wrap (-IntKind.i64.wrap ((m : Int) % 2)) = ((0 : Nat) : Int) := by rw [IntKind.wrap_i64, IntKind.wrap_i64]; omega
    rw [if_pos hp, e0, e1]
    show IntKind.i64.wrap ((BitVec.ofInt 64 ((m / 2 : Nat) : Int) ^^^ BitVec.ofInt 64 ((0 : Nat) : Int)).toNat : Int) = _
    rw [BitVec.toNat_xor, BitVec.ofInt_natCast, BitVec.ofInt_natCast, BitVec.toNat_ofNat, BitVec.toNat_ofNat, Nat.zero_mod, Nat.xor_zero, Nat.mod_eq_of_lt (by omega), IntKind.wrap_i64]
    omega
  · have e1 : IntKind.i64.wrap (-IntKind.i64.wrap ((m : Int) % 2)) = -1 := by rw [IntKind.wrap_i64, IntKind.wrap_i64]; omega
    rw [if_neg hp, e0, e1, bits_xor_comm, Lib.i64_not _ (by omega)]
set_option maxRecDepth 100000 in
set_option maxHeartbeats 400000 in
theorem unfold_c (m : Nat) (hm : m < 18446744073709551616) (w : World) :
    Calls Try.prog 94 #[.int .u64 (m : Int)] w fun e w' => e = .returned (i64 (Lib.unzigzag m)) ∧ Below w.heap.size w w' := by
  have h1 := unfold_bits m hm
  rw [IntWalk.i64_left, IntWalk.i64_left, IntWalk.i64_left, IntWalk.wrap64_in ((m : Int) / 2) (by omega)] at h1
  have H := Lib.hid h1
  clear h1
  go_enter Try.func94, Try.ntmps94
  go_wp2
  go_ret
  exact ⟨by rw [← H.out]; rfl, Below.refl _ _⟩
/-- the error of a number with too many bits -/
def longE (l : List UInt8) (i : Nat) (b : UInt8) : Int := if i + 1 = l.length ∧ 128 ≤ b.toNat ∧ i < 10 then 4 else 3
set_option maxRecDepth 100000 in
set_option maxHeartbeats 1000000 in
theorem long_c (g r : Nat) (err : Int) (l : List UInt8) (i : Nat) (hi : i < l.length) (w : World) (h : Rd w g r err l) (hn : l.length ≤ 65536) :
    Calls Try.prog 93 #[.pointer (some ⟨g, 0, none⟩), i64 i] w fun e w' => e = .returned (i64 (longE l i l[i])) ∧ Below w.heap.size w w' := by
  obtain ⟨hne, A, c, hg, hs⟩ := h
  have c0 := cell_of_row w g 0 _ _ (0, 0) hg
  obtain ⟨b, o, rfl, -, -, hc⟩ := hs.at_ hi
  have d0 := hc 0 _ rfl
  rw [show i * Enc.size UInt8 + 0 = i from Nat.mul_one i] at d0
  have hlb := l[i].toNat_lt
  simp only [List.getElem?_toArray, List.getElem?_cons_zero] at c0
  have i0 : (0 : Int) ≤ (i : Int) := by omega
  have i1 : (i : Int) < (l.length : Int) := by omega
  have HU : Hid (∀ v : Int, v = longE l i l[i] → (.returned (i64 v) : Ending) = .returned (i64 (longE l i l[i]))) := Lib.hid fun v e => by rw [e]
  clear hg hs hc
  by_cases h1 : i + 1 = l.length
  · have g1 : ((i : Int) == (l.length : Int) - 1) = true := by rw [beq_iff_eq]; omega
    have w1 : IntKind.i64.wrap ((l.length : Int) - 1) = (l.length : Int) - 1 := by rw [IntKind.wrap_i64]; omega
    by_cases h2 : 128 ≤ l[i].toNat
    · have g2 : decide ((128 : Int) ≤ (l[i].toNat : Int)) = true := decide_eq_true (by omega)
      by_cases h3 : i < 10
      · have g3 : decide ((i : Int) < 10) = true := decide_eq_true (by omega)
        have HS := Lib.hid (show longE l i l[i] = 4 by unfold longE; rw [if_pos ⟨h1, h2, h3⟩])
        clear h1 h2 h3
        go_enter Try.func93, Try.ntmps93
        go_wp2
        go_ret
        exact ⟨by rw [HS.out]; rfl, Below.refl _ _⟩
      · have g3 : decide ((i : Int) < 10) = false := decide_eq_false (by omega)
        have HS := Lib.hid (show longE l i l[i] = 3 by unfold longE; rw [if_neg (fun h => h3 h.2.2)])
        clear h1 h2 h3
        go_enter Try.func93, Try.ntmps93
        go_wp2
        go_ret
        exact ⟨by rw [HS.out]; rfl, Below.refl _ _⟩
    · have g2 : decide ((128 : Int) ≤ (l[i].toNat : Int)) = false := decide_eq_false (by omega)
      have HS := Lib.hid (show longE l i l[i] = 3 by unfold longE; rw [if_neg (fun h => h2 h.2.1)])
      clear h1 h2
      go_enter Try.func93, Try.ntmps93
      go_wp2
      go_ret
      exact ⟨by rw [HS.out]; rfl, Below.refl _ _⟩
  · have g1 : ((i : Int) == (l.length : Int) - 1) = false := by rw [beq_eq_false_iff_ne]; omega
    have w1 : IntKind.i64.wrap ((l.length : Int) - 1) = (l.length : Int) - 1 := by rw [IntKind.wrap_i64]; omega
    have HS := Lib.hid (show longE l i l[i] = 3 by unfold longE; rw [if_neg (fun h => h1 h.1)])
    clear h1
    go_enter Try.func93, Try.ntmps93
    go_wp2
    go_ret
    exact ⟨by rw [HS.out]; rfl, Below.refl _ _⟩
end Go.Proofs.Ytogecfddkohigaa
