/- law08: holds that aren't there -/
import Derived.Test.YthmgchohbdlonaaGreatRows
import Derived.Test.YthmgchohbdlonaaGreatHlives
import Derived.Test.YthmgchohbdlonaaGreatHoOf
import Derived.WalkKit
import Derived.WalkSpells
import Derived.WalkLawsBesides
import Derived.Deep.QuietTactic
import Derived.BigQuiet
import Derived.Laws.StructEq
import Derived.Deep.DeepFit
import Derived.StillTailTactics
namespace Go.Proofs.YthmgchohbdlonaaGreat
open Go.RowKit
/-- countinghouselaw08.Op -/
structure Op8 where
  kind : Int
  num : Int
  acct : ByteArray
  peer : ByteArray
  sum : Int
abbrev Op8.v (x : Op8) : Value := .agg #[i64 x.kind, i64 x.num, .string x.acct, .string x.peer, i64 x.sum]
instance encOp8 : Enc Op8 where
  size := 5
  cells x := [i64 x.kind, i64 x.num, .string x.acct, .string x.peer, i64 x.sum]
  val := Op8.v
  ok _ _ x := x.acct.size ≤ maxLen ∧ x.peer.size ≤ maxLen ∧ R64 x.sum
  len _ := rfl
  one _ v hv := by simp only [List.mem_cons, List.not_mem_nil, or_false] at hv; rcases hv with rfl | rfl | rfl | rfl | rfl <;> rfl
  keep h _ _ := h
/-- int(uint(x) % n) -/
def umod (x n : Int) : Int := x % 18446744073709551616 % n
set_option maxRecDepth 100000 in
set_option maxHeartbeats 2000000 in
theorem kind_c (x : Op8) (w : World) : Calls Tryz.prog 29 #[x.v] w fun e w' => e = .returned (i64 (umod x.kind 4)) ∧ Below w.heap.size w w' := by
  have hu : IntKind.u64.wrap x.kind = x.kind % 18446744073709551616 := by rw [IntKind.wrap_u64]
  have hd : umod x.kind 4 = x.kind % 18446744073709551616 % 4 := rfl
  have hp : 0 ≤ x.kind % 18446744073709551616 := by omega
  have hlt : x.kind % 18446744073709551616 < 18446744073709551616 := by omega
  generalize x.kind % 18446744073709551616 = u at *
  have hr : 0 ≤ u % 4 ∧ u % 4 < 4 := by omega
  have hw : IntKind.i64.wrap (u % 4) = u % 4 := by rw [IntKind.wrap_i64]; omega
  rw [hd]
  clear hd
  go_enter Tryz.func29, Tryz.ntmps29
  go_wp2
  go_ret
  trace_state
  exact ⟨rfl, (Below.refl _ _).alloc (Nat.le_refl _) _⟩
set_option maxRecDepth 100000 in
set_option maxHeartbeats 2000000 in
theorem put_nil0 (cp : Option Addr) (x : Held) (w : World) : Calls Tryz.prog 18 #[.pointer none, .pointer cp, x.v] w fun e w' => e = .returned (i64 1) ∧ Below w.heap.size w w' := by
  go_enter Tryz.func18, Tryz.ntmps18
  go_wp2
  go_ret
  exact ⟨rfl, (Below.refl _ _).alloc (Nat.le_refl _) _⟩
set_option maxRecDepth 100000 in
set_option maxHeartbeats 2000000 in
theorem put_nil1 (gh : Nat) (x : Held) (w : World) : Calls Tryz.prog 18 #[.pointer (some ⟨gh, 0, none⟩), .pointer none, x.v] w fun e w' => e = .returned (i64 1) ∧ Below w.heap.size w w' := by
  go_enter Tryz.func18, Tryz.ntmps18
  go_wp2
  go_ret
  exact ⟨rfl, (Below.refl _ _).alloc (Nat.le_refl _) _⟩
set_option maxRecDepth 100000 in
set_option maxHeartbeats 2000000 in
theorem take_nil0 (cp : Option Addr) (k p : ByteArray) (n s : Int) (w : World) : Calls Tryz.prog 23 #[.pointer none, .pointer cp, .string k, i64 n, .string p, i64 s] w fun e w' => e = .returned (i64 1) ∧ Below w.heap.size w w' := by
  go_enter Tryz.func23, Tryz.ntmps23
  go_wp2
  go_ret
  exact ⟨rfl, Below.refl _ _⟩
set_option maxRecDepth 100000 in
set_option maxHeartbeats 2000000 in
theorem take_nil1 (gh : Nat) (k p : ByteArray) (n s : Int) (w : World) : Calls Tryz.prog 23 #[.pointer (some ⟨gh, 0, none⟩), .pointer none, .string k, i64 n, .string p, i64 s] w fun e w' => e = .returned (i64 1) ∧ Below w.heap.size w w' := by
  go_enter Tryz.func23, Tryz.ntmps23
  go_wp2
  go_ret
  exact ⟨rfl, Below.refl _ _⟩
set_option maxRecDepth 100000 in
set_option maxHeartbeats 2000000 in
theorem free_nil0 (cp : Option Addr) (k : ByteArray) (n : Int) (w : World) : Calls Tryz.prog 21 #[.pointer none, .pointer cp, .string k, i64 n] w fun e w' => e = .returned (i64 1) ∧ Below w.heap.size w w' := by
  go_enter Tryz.func21, Tryz.ntmps21
  go_wp2
  go_ret
  exact ⟨rfl, Below.refl _ _⟩
set_option maxRecDepth 100000 in
set_option maxHeartbeats 2000000 in
theorem free_nil1 (gh : Nat) (k : ByteArray) (n : Int) (w : World) : Calls Tryz.prog 21 #[.pointer (some ⟨gh, 0, none⟩), .pointer none, .string k, i64 n] w fun e w' => e = .returned (i64 1) ∧ Below w.heap.size w w' := by
  go_enter Tryz.func21, Tryz.ntmps21
  go_wp2
  go_ret
  exact ⟨rfl, Below.refl _ _⟩
set_option maxRecDepth 100000 in
set_option maxHeartbeats 2000000 in
theorem all_nil (w : World) : Calls Tryz.prog 13 #[.pointer none] w fun e w' => e = .returned (.slice none 0 0) ∧ Below w.heap.size w w' := by
  go_enter Tryz.func13, Tryz.ntmps13
  go_wp2
  go_ret
  exact ⟨rfl, Below.refl _ _⟩
set_option maxRecDepth 100000 in
set_option maxHeartbeats 2000000 in
theorem copy_nil (w : World) : Calls Tryz.prog 20 #[.pointer none] w fun e w' => e = .returned (.pointer none) ∧ Below w.heap.size w w' := by
  go_enter Tryz.func20, Tryz.ntmps20
  go_wp2
  go_ret
  exact ⟨rfl, Below.refl _ _⟩
set_option maxRecDepth 100000 in
set_option maxHeartbeats 4000000 in
theorem of_nil (s : ByteArray) (w : World) : Calls Tryz.prog 14 #[.pointer none, .string s] w fun e w' => ∃ A c, e = .returned (.slice A 0 c) ∧ Below w.heap.size w w' := by
  have hb0 := (Below.refl w.heap.size w).alloc (Nat.le_refl _) (.cells #[.string s] 9)
  have hA := Lib.hid (fun W => all_nil W)
  go_enter Tryz.func14, Tryz.ntmps14
  go_wp2_with fail
  generalize w.alloc (.cells #[.string s] 9) = w0 at *
  refine (hA.out _).mono ?_
  rintro e w1 ⟨rfl, hF⟩
  have hb1 := below_on hb0 (Nat.le_refl _) hF
  have HD := Lib.hid (deleteFunc_held w1.heap.size (.slice none 0 0) ([] : List Held) 39 #[.pointer (some ⟨w.heap.size, 0, none⟩)] (fun x => !decide (x.acct = s)) w1 (Own.nil_ _ _ _) (by decide) (enters_of Tryz.func39 (by kernel_rfl) rfl) (fun x hx => by simp at hx))
  clear hA hF
  go_wp2_with fail
  refine HD.out.mono ?_
  rintro e w2 ⟨v2, rfl, hO2, hg2, hv2⟩
  obtain ⟨A, c, rfl, -⟩ := hO2.sl
  have hb2 := hb1.trans (below_of_grown hg2 hb1.size (fun g e => by cases e))
  go_wp2
  go_ret
  exact ⟨A, c, rfl, hb2⟩
set_option maxRecDepth 100000 in
set_option maxHeartbeats 4000000 in
theorem does_nil0 (cp : Option Addr) (x : Op8) (w : World) (hx : 0 ≤ x.kind ∧ x.kind < 3) : Calls Tryz.prog 10 #[.pointer none, .pointer cp, x.v] w fun e w' => e = .returned (i64 1) ∧ Below w.heap.size w w' := by
  have hb0 := (Below.refl w.heap.size w).alloc (Nat.le_refl _) (.cells #[i64 x.kind, i64 x.num, .string x.acct, .string x.peer, i64 x.sum] 38)
  have hg := heap_alloc_new w (.cells #[i64 x.kind, i64 x.num, .string x.acct, .string x.peer, i64 x.sum] 38)
  have hK := Lib.hid fun W => kind_c x W
  have hu : umod x.kind 4 = x.kind := by unfold umod; omega
  rw [hu] at hK
  have k1 := Lib.hid fun (y : Held) W => put_nil0 cp y W
  have k2 := Lib.hid fun (k p : ByteArray) (n s : Int) W => take_nil0 cp k p n s W
  have k3 := Lib.hid fun (k : ByteArray) (n : Int) W => free_nil0 cp k n W
  have Hx := Lib.hid hx
  clear hu hx
  go_enter Tryz.func10, Tryz.ntmps10
  go_wp2_with fail
  generalize w.alloc (.cells #[i64 x.kind, i64 x.num, .string x.acct, .string x.peer, i64 x.sum] 38) = w0 at *
  refine (hK.out _).mono ?_
  rintro e w1 ⟨rfl, hF⟩
  have hg1 := (hF.block _ (Array.getElem?_eq_some_iff.1 hg).1).trans hg
  have hb1 := below_on hb0 (Nat.le_refl _) hF
  have m1 := cell_of_row _ w.heap.size 1 _ _ (0, 0) hg1
  have m2 := cell_of_row _ w.heap.size 2 _ _ (0, 0) hg1
  have m3 := cell_of_row _ w.heap.size 3 _ _ (0, 0) hg1
  have m4 := cell_of_row _ w.heap.size 4 _ _ (0, 0) hg1
  simp only [List.getElem?_toArray, List.getElem?_cons_zero, List.getElem?_cons_succ] at m1 m2 m3 m4
  clear hK hF hg hb0 hg1
  by_cases h0 : x.kind = 0
  · have g0 : (x.kind == 0) = true := by rw [h0]; rfl
    clear h0
    go_wp2_with fail
    refine (k1.out ⟨x.num, x.acct, x.sum⟩ _).mono ?_
    rintro e w2 ⟨rfl, hF⟩
    go_wp2
    go_ret
    exact ⟨rfl, below_on hb1 (Nat.le_refl _) hF⟩
  · have g0 : (x.kind == 0) = false := beq_eq_false_iff_ne.2 h0
    by_cases h1 : x.kind = 1
    · have g1 : (x.kind == 1) = true := by rw [h1]; rfl
      clear h0 h1
      go_wp2_with fail
      refine (k2.out x.acct x.peer x.num x.sum _).mono ?_
      rintro e w2 ⟨rfl, hF⟩
      go_wp2
      go_ret
      exact ⟨rfl, below_on hb1 (Nat.le_refl _) hF⟩
    · have g1 : (x.kind == 1) = false := beq_eq_false_iff_ne.2 h1
      have g2 : (x.kind == 2) = true := by rw [beq_iff_eq]; have := Hx.out; omega
      clear h0 h1
      go_wp2_with fail
      refine (k3.out x.acct x.num _).mono ?_
      rintro e w2 ⟨rfl, hF⟩
      go_wp2
      go_ret
      exact ⟨rfl, below_on hb1 (Nat.le_refl _) hF⟩
set_option maxRecDepth 100000 in
set_option maxHeartbeats 4000000 in
theorem does_nil1 (gh : Nat) (x : Op8) (w : World) (hx : 0 ≤ x.kind ∧ x.kind < 3) : Calls Tryz.prog 10 #[.pointer (some ⟨gh, 0, none⟩), .pointer none, x.v] w fun e w' => e = .returned (i64 1) ∧ Below w.heap.size w w' := by
  have hb0 := (Below.refl w.heap.size w).alloc (Nat.le_refl _) (.cells #[i64 x.kind, i64 x.num, .string x.acct, .string x.peer, i64 x.sum] 38)
  have hg := heap_alloc_new w (.cells #[i64 x.kind, i64 x.num, .string x.acct, .string x.peer, i64 x.sum] 38)
  have hK := Lib.hid fun W => kind_c x W
  have hu : umod x.kind 4 = x.kind := by unfold umod; omega
  rw [hu] at hK
  have k1 := Lib.hid fun (y : Held) W => put_nil1 gh y W
  have k2 := Lib.hid fun (k p : ByteArray) (n s : Int) W => take_nil1 gh k p n s W
  have k3 := Lib.hid fun (k : ByteArray) (n : Int) W => free_nil1 gh k n W
  have Hx := Lib.hid hx
  clear hu hx
  go_enter Tryz.func10, Tryz.ntmps10
  go_wp2_with fail
  generalize w.alloc (.cells #[i64 x.kind, i64 x.num, .string x.acct, .string x.peer, i64 x.sum] 38) = w0 at *
  refine (hK.out _).mono ?_
  rintro e w1 ⟨rfl, hF⟩
  have hg1 := (hF.block _ (Array.getElem?_eq_some_iff.1 hg).1).trans hg
  have hb1 := below_on hb0 (Nat.le_refl _) hF
  have m1 := cell_of_row _ w.heap.size 1 _ _ (0, 0) hg1
  have m2 := cell_of_row _ w.heap.size 2 _ _ (0, 0) hg1
  have m3 := cell_of_row _ w.heap.size 3 _ _ (0, 0) hg1
  have m4 := cell_of_row _ w.heap.size 4 _ _ (0, 0) hg1
  simp only [List.getElem?_toArray, List.getElem?_cons_zero, List.getElem?_cons_succ] at m1 m2 m3 m4
  clear hK hF hg hb0 hg1
  by_cases h0 : x.kind = 0
  · have g0 : (x.kind == 0) = true := by rw [h0]; rfl
    clear h0
    go_wp2_with fail
    refine (k1.out ⟨x.num, x.acct, x.sum⟩ _).mono ?_
    rintro e w2 ⟨rfl, hF⟩
    go_wp2
    go_ret
    exact ⟨rfl, below_on hb1 (Nat.le_refl _) hF⟩
  · have g0 : (x.kind == 0) = false := beq_eq_false_iff_ne.2 h0
    by_cases h1 : x.kind = 1
    · have g1 : (x.kind == 1) = true := by rw [h1]; rfl
      clear h0 h1
      go_wp2_with fail
      refine (k2.out x.acct x.peer x.num x.sum _).mono ?_
      rintro e w2 ⟨rfl, hF⟩
      go_wp2
      go_ret
      exact ⟨rfl, below_on hb1 (Nat.le_refl _) hF⟩
    · have g1 : (x.kind == 1) = false := beq_eq_false_iff_ne.2 h1
      have g2 : (x.kind == 2) = true := by rw [beq_iff_eq]; have := Hx.out; omega
      clear h0 h1
      go_wp2_with fail
      refine (k3.out x.acct x.num _).mono ?_
      rintro e w2 ⟨rfl, hF⟩
      go_wp2
      go_ret
      exact ⟨rfl, below_on hb1 (Nat.le_refl _) hF⟩
end Go.Proofs.YthmgchohbdlonaaGreat
