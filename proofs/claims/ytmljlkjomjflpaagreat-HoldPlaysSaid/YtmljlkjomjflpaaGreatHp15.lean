/- Texts of this claim, laid together: Hnil, Hdoes, TurnC, Hinv. -/
import Derived.Test.YtmljlkjomjflpaaGreatRows
import Derived.Test.YtmljlkjomjflpaaGreatHp14
import Derived.Test.YtmljlkjomjflpaaGreatHp12
import Derived.WalkKit
import Derived.WalkSpells
import Derived.WalkLawsBesides
import Derived.Deep.QuietTactic
import Derived.BigQuiet
import Derived.Laws.StructEq
import Derived.Deep.DeepFit
import Derived.StillTailTactics
import Derived.Test.YtmljlkjomjflpaaGreatHp13
import Derived.Test.YtmljlkjomjflpaaGreatHp6

/- law08: holds that aren't there -/
namespace Go.Proofs.YtmljlkjomjflpaaGreat
open Go.RowKit
/-- countinghouselaw08.Op -/
structure Op8 where
  kind : Int
  num : Int
  acct : ByteArray
  peer : ByteArray
  sum : Int
abbrev Op8.v (x : Op8) : Value := .agg #[i64 x.kind, i64 x.num, .string x.acct, .string x.peer, i64 x.sum]
instance encOp8 : Enc Op8 where
  size := 5
  cells x := [i64 x.kind, i64 x.num, .string x.acct, .string x.peer, i64 x.sum]
  val := Op8.v
  ok _ _ x := x.acct.size ≤ maxLen ∧ x.peer.size ≤ maxLen ∧ R64 x.sum
  len _ := rfl
  one _ v hv := by simp only [List.mem_cons, List.not_mem_nil, or_false] at hv; rcases hv with rfl | rfl | rfl | rfl | rfl <;> rfl
  keep h _ _ := h
/-- int(uint(x) % n) -/
def umod (x n : Int) : Int := x % 18446744073709551616 % n
set_option maxRecDepth 100000 in
set_option maxHeartbeats 2000000 in
theorem kind_c (x : Op8) (w : World) : Calls Tryz.prog 56 #[x.v] w fun e w' => e = .returned (i64 (umod x.kind 4)) ∧ Below w.heap.size w w' := by
  have hu : IntKind.u64.wrap x.kind = x.kind % 18446744073709551616 := by rw [IntKind.wrap_u64]
  have hd : umod x.kind 4 = x.kind % 18446744073709551616 % 4 := rfl
  have hp : 0 ≤ x.kind % 18446744073709551616 := by omega
  have hlt : x.kind % 18446744073709551616 < 18446744073709551616 := by omega
  generalize x.kind % 18446744073709551616 = u at *
  have hr : 0 ≤ u % 4 ∧ u % 4 < 4 := by omega
  have hw : IntKind.i64.wrap (u % 4) = u % 4 := by rw [IntKind.wrap_i64]; omega
  rw [hd]
  clear hd
  go_enter Tryz.func56, Tryz.ntmps56
  go_wp2
  go_ret
  trace_state
  exact ⟨rfl, (Below.refl _ _).alloc (Nat.le_refl _) _⟩
set_option maxRecDepth 100000 in
set_option maxHeartbeats 2000000 in
theorem put_nil0 (cp : Option Addr) (x : Held) (w : World) : Calls Tryz.prog 48 #[.pointer none, .pointer cp, x.v] w fun e w' => e = .returned (i64 1) ∧ Below w.heap.size w w' := by
  go_enter Tryz.func48, Tryz.ntmps48
  go_wp2
  go_ret
  exact ⟨rfl, (Below.refl _ _).alloc (Nat.le_refl _) _⟩
set_option maxRecDepth 100000 in
set_option maxHeartbeats 2000000 in
theorem put_nil1 (gh : Nat) (x : Held) (w : World) : Calls Tryz.prog 48 #[.pointer (some ⟨gh, 0, none⟩), .pointer none, x.v] w fun e w' => e = .returned (i64 1) ∧ Below w.heap.size w w' := by
  go_enter Tryz.func48, Tryz.ntmps48
  go_wp2
  go_ret
  exact ⟨rfl, (Below.refl _ _).alloc (Nat.le_refl _) _⟩
set_option maxRecDepth 100000 in
set_option maxHeartbeats 2000000 in
theorem take_nil0 (cp : Option Addr) (k p : ByteArray) (n s : Int) (w : World) : Calls Tryz.prog 49 #[.pointer none, .pointer cp, .string k, i64 n, .string p, i64 s] w fun e w' => e = .returned (i64 1) ∧ Below w.heap.size w w' := by
  go_enter Tryz.func49, Tryz.ntmps49
  go_wp2
  go_ret
  exact ⟨rfl, Below.refl _ _⟩
set_option maxRecDepth 100000 in
set_option maxHeartbeats 2000000 in
theorem take_nil1 (gh : Nat) (k p : ByteArray) (n s : Int) (w : World) : Calls Tryz.prog 49 #[.pointer (some ⟨gh, 0, none⟩), .pointer none, .string k, i64 n, .string p, i64 s] w fun e w' => e = .returned (i64 1) ∧ Below w.heap.size w w' := by
  go_enter Tryz.func49, Tryz.ntmps49
  go_wp2
  go_ret
  exact ⟨rfl, Below.refl _ _⟩
set_option maxRecDepth 100000 in
set_option maxHeartbeats 2000000 in
theorem free_nil0 (cp : Option Addr) (k : ByteArray) (n : Int) (w : World) : Calls Tryz.prog 57 #[.pointer none, .pointer cp, .string k, i64 n] w fun e w' => e = .returned (i64 1) ∧ Below w.heap.size w w' := by
  go_enter Tryz.func57, Tryz.ntmps57
  go_wp2
  go_ret
  exact ⟨rfl, Below.refl _ _⟩
set_option maxRecDepth 100000 in
set_option maxHeartbeats 2000000 in
theorem free_nil1 (gh : Nat) (k : ByteArray) (n : Int) (w : World) : Calls Tryz.prog 57 #[.pointer (some ⟨gh, 0, none⟩), .pointer none, .string k, i64 n] w fun e w' => e = .returned (i64 1) ∧ Below w.heap.size w w' := by
  go_enter Tryz.func57, Tryz.ntmps57
  go_wp2
  go_ret
  exact ⟨rfl, Below.refl _ _⟩
set_option maxRecDepth 100000 in
set_option maxHeartbeats 2000000 in
theorem all_nil (w : World) : Calls Tryz.prog 19 #[.pointer none] w fun e w' => e = .returned (.slice none 0 0) ∧ Below w.heap.size w w' := by
  go_enter Tryz.func19, Tryz.ntmps19
  go_wp2
  go_ret
  exact ⟨rfl, Below.refl _ _⟩
set_option maxRecDepth 100000 in
set_option maxHeartbeats 2000000 in
theorem copy_nil (w : World) : Calls Tryz.prog 71 #[.pointer none] w fun e w' => e = .returned (.pointer none) ∧ Below w.heap.size w w' := by
  go_enter Tryz.func71, Tryz.ntmps71
  go_wp2
  go_ret
  exact ⟨rfl, Below.refl _ _⟩
set_option maxRecDepth 100000 in
set_option maxHeartbeats 4000000 in
theorem of_nil (s : ByteArray) (w : World) : Calls Tryz.prog 20 #[.pointer none, .string s] w fun e w' => ∃ A c, e = .returned (.slice A 0 c) ∧ Below w.heap.size w w' := by
  have hb0 := (Below.refl w.heap.size w).alloc (Nat.le_refl _) (.cells #[.string s] 9)
  have hA := Lib.hid (fun W => all_nil W)
  go_enter Tryz.func20, Tryz.ntmps20
  go_wp2_with fail
  generalize w.alloc (.cells #[.string s] 9) = w0 at *
  refine (hA.out _).mono ?_
  rintro e w1 ⟨rfl, hF⟩
  have hb1 := below_on hb0 (Nat.le_refl _) hF
  have HD := Lib.hid (deleteFunc_held w1.heap.size (.slice none 0 0) ([] : List Held) 67 #[.pointer (some ⟨w.heap.size, 0, none⟩)] (fun x => !decide (x.acct = s)) w1 (Own.nil_ _ _ _) (by decide) (enters_of Tryz.func67 (by kernel_rfl) rfl) (fun x hx => by simp at hx))
  clear hA hF
  go_wp2_with fail
  refine HD.out.mono ?_
  rintro e w2 ⟨v2, rfl, hO2, hg2, hv2⟩
  obtain ⟨A, c, rfl, -⟩ := hO2.sl
  have hb2 := hb1.trans (below_of_grown hg2 hb1.size (fun g e => by cases e))
  go_wp2
  go_ret
  exact ⟨A, c, rfl, hb2⟩
set_option maxRecDepth 100000 in
set_option maxHeartbeats 4000000 in
theorem does_nil0 (cp : Option Addr) (x : Op8) (w : World) (hx : 0 ≤ x.kind ∧ x.kind < 3) : Calls Tryz.prog 16 #[.pointer none, .pointer cp, x.v] w fun e w' => e = .returned (i64 1) ∧ Below w.heap.size w w' := by
  have hb0 := (Below.refl w.heap.size w).alloc (Nat.le_refl _) (.cells #[i64 x.kind, i64 x.num, .string x.acct, .string x.peer, i64 x.sum] 38)
  have hg := heap_alloc_new w (.cells #[i64 x.kind, i64 x.num, .string x.acct, .string x.peer, i64 x.sum] 38)
  have hK := Lib.hid fun W => kind_c x W
  have hu : umod x.kind 4 = x.kind := by unfold umod; omega
  rw [hu] at hK
  have k1 := Lib.hid fun (y : Held) W => put_nil0 cp y W
  have k2 := Lib.hid fun (k p : ByteArray) (n s : Int) W => take_nil0 cp k p n s W
  have k3 := Lib.hid fun (k : ByteArray) (n : Int) W => free_nil0 cp k n W
  have Hx := Lib.hid hx
  clear hu hx
  go_enter Tryz.func16, Tryz.ntmps16
  go_wp2_with fail
  generalize w.alloc (.cells #[i64 x.kind, i64 x.num, .string x.acct, .string x.peer, i64 x.sum] 38) = w0 at *
  refine (hK.out _).mono ?_
  rintro e w1 ⟨rfl, hF⟩
  have hg1 := (hF.block _ (Array.getElem?_eq_some_iff.1 hg).1).trans hg
  have hb1 := below_on hb0 (Nat.le_refl _) hF
  have m1 := cell_of_row _ w.heap.size 1 _ _ (0, 0) hg1
  have m2 := cell_of_row _ w.heap.size 2 _ _ (0, 0) hg1
  have m3 := cell_of_row _ w.heap.size 3 _ _ (0, 0) hg1
  have m4 := cell_of_row _ w.heap.size 4 _ _ (0, 0) hg1
  simp only [List.getElem?_toArray, List.getElem?_cons_zero, List.getElem?_cons_succ] at m1 m2 m3 m4
  clear hK hF hg hb0 hg1
  by_cases h0 : x.kind = 0
  · have g0 : (x.kind == 0) = true := by rw [h0]; rfl
    clear h0
    go_wp2_with fail
    refine (k1.out ⟨x.num, x.acct, x.sum⟩ _).mono ?_
    rintro e w2 ⟨rfl, hF⟩
    go_wp2
    go_ret
    exact ⟨rfl, below_on hb1 (Nat.le_refl _) hF⟩
  · have g0 : (x.kind == 0) = false := beq_eq_false_iff_ne.2 h0
    by_cases h1 : x.kind = 1
    · have g1 : (x.kind == 1) = true := by rw [h1]; rfl
      clear h0 h1
      go_wp2_with fail
      refine (k2.out x.acct x.peer x.num x.sum _).mono ?_
      rintro e w2 ⟨rfl, hF⟩
      go_wp2
      go_ret
      exact ⟨rfl, below_on hb1 (Nat.le_refl _) hF⟩
    · have g1 : (x.kind == 1) = false := beq_eq_false_iff_ne.2 h1
      have g2 : (x.kind == 2) = true := by rw [beq_iff_eq]; have := Hx.out; omega
      clear h0 h1
      go_wp2_with fail
      refine (k3.out x.acct x.num _).mono ?_
      rintro e w2 ⟨rfl, hF⟩
      go_wp2
      go_ret
      exact ⟨rfl, below_on hb1 (Nat.le_refl _) hF⟩
set_option maxRecDepth 100000 in
set_option maxHeartbeats 4000000 in
theorem does_nil1 (gh : Nat) (x : Op8) (w : World) (hx : 0 ≤ x.kind ∧ x.kind < 3) : Calls Tryz.prog 16 #[.pointer (some ⟨gh, 0, none⟩), .pointer none, x.v] w fun e w' => e = .returned (i64 1) ∧ Below w.heap.size w w' := by
  have hb0 := (Below.refl w.heap.size w).alloc (Nat.le_refl _) (.cells #[i64 x.kind, i64 x.num, .string x.acct, .string x.peer, i64 x.sum] 38)
  have hg := heap_alloc_new w (.cells #[i64 x.kind, i64 x.num, .string x.acct, .string x.peer, i64 x.sum] 38)
  have hK := Lib.hid fun W => kind_c x W
  have hu : umod x.kind 4 = x.kind := by unfold umod; omega
  rw [hu] at hK
  have k1 := Lib.hid fun (y : Held) W => put_nil1 gh y W
  have k2 := Lib.hid fun (k p : ByteArray) (n s : Int) W => take_nil1 gh k p n s W
  have k3 := Lib.hid fun (k : ByteArray) (n : Int) W => free_nil1 gh k n W
  have Hx := Lib.hid hx
  clear hu hx
  go_enter Tryz.func16, Tryz.ntmps16
  go_wp2_with fail
  generalize w.alloc (.cells #[i64 x.kind, i64 x.num, .string x.acct, .string x.peer, i64 x.sum] 38) = w0 at *
  refine (hK.out _).mono ?_
  rintro e w1 ⟨rfl, hF⟩
  have hg1 := (hF.block _ (Array.getElem?_eq_some_iff.1 hg).1).trans hg
  have hb1 := below_on hb0 (Nat.le_refl _) hF
  have m1 := cell_of_row _ w.heap.size 1 _ _ (0, 0) hg1
  have m2 := cell_of_row _ w.heap.size 2 _ _ (0, 0) hg1
  have m3 := cell_of_row _ w.heap.size 3 _ _ (0, 0) hg1
  have m4 := cell_of_row _ w.heap.size 4 _ _ (0, 0) hg1
  simp only [List.getElem?_toArray, List.getElem?_cons_zero, List.getElem?_cons_succ] at m1 m2 m3 m4
  clear hK hF hg hb0 hg1
  by_cases h0 : x.kind = 0
  · have g0 : (x.kind == 0) = true := by rw [h0]; rfl
    clear h0
    go_wp2_with fail
    refine (k1.out ⟨x.num, x.acct, x.sum⟩ _).mono ?_
    rintro e w2 ⟨rfl, hF⟩
    go_wp2
    go_ret
    exact ⟨rfl, below_on hb1 (Nat.le_refl _) hF⟩
  · have g0 : (x.kind == 0) = false := beq_eq_false_iff_ne.2 h0
    by_cases h1 : x.kind = 1
    · have g1 : (x.kind == 1) = true := by rw [h1]; rfl
      clear h0 h1
      go_wp2_with fail
      refine (k2.out x.acct x.peer x.num x.sum _).mono ?_
      rintro e w2 ⟨rfl, hF⟩
      go_wp2
      go_ret
      exact ⟨rfl, below_on hb1 (Nat.le_refl _) hF⟩
    · have g1 : (x.kind == 1) = false := beq_eq_false_iff_ne.2 h1
      have g2 : (x.kind == 2) = true := by rw [beq_iff_eq]; have := Hx.out; omega
      clear h0 h1
      go_wp2_with fail
      refine (k3.out x.acct x.num _).mono ?_
      rintro e w2 ⟨rfl, hF⟩
      go_wp2
      go_ret
      exact ⟨rfl, below_on hb1 (Nat.le_refl _) hF⟩
end Go.Proofs.YtmljlkjomjflpaaGreat

/- law08.does, early -/
namespace Go.Proofs.YtmljlkjomjflpaaGreat
open Go.RowKit
/-- countinghouselaw08.does -/
def stepH (L : List Ac) (H : List Held) (x : Op8) : Int × List Ac × List Held :=
  if umod x.kind 4 = 0 then putH L H ⟨x.num, x.acct, x.sum⟩ else if umod x.kind 4 = 1 then takeH L H x.acct x.num x.peer x.sum else if umod x.kind 4 = 2 then freeHL L H x.acct x.num
  else ((turnL (givD x.sum) L x.acct x.sum).1, (turnL (givD x.sum) L x.acct x.sum).2, H)
def GH (b bh : Nat) : Nat → Prop := fun k => k = b ∨ k = bh
theorem gh_trans {w w1 w2 : World} {b bh : Nat} (h : Below w.heap.size w w1) (k : Gr w1 w2 (GH b bh)) : Gr w w2 (GH b bh) := (Gr.of_below h (GH b bh)).trans k (fun _ e => .inl e)
set_option maxRecDepth 100000 in
set_option maxHeartbeats 4000000 in
theorem does_c (g b gh bh : Nat) (L : List Ac) (H : List Held) (x : Op8) (w : World) (hc : ChA w g b L) (hh : HoA w gh bh H) (hd : gh ≠ b ∧ bh ≠ b ∧ g ≠ bh) (hL : OkA L) (hH : OkH H) (hn : H.length ≤ 65536) (hok : x.acct.size ≤ maxLen ∧ x.peer.size ≤ maxLen ∧ R64 x.sum) :
    Calls Tryz.prog 16 #[.pointer (some ⟨gh, 0, none⟩), .pointer (some ⟨g, 0, none⟩), x.v] w fun e w' => e = .returned (i64 (stepH L H x).1) ∧ ChA w' g b (stepH L H x).2.1 ∧ HoA w' gh bh (stepH L H x).2.2 ∧ Gr w w' (GH b bh) := by
  have hb0 := (Below.refl w.heap.size w).alloc (Nat.le_refl _) (.cells #[i64 x.kind, i64 x.num, .string x.acct, .string x.peer, i64 x.sum] 38)
  have hg := heap_alloc_new w (.cells #[i64 x.kind, i64 x.num, .string x.acct, .string x.peer, i64 x.sum] 38)
  have hK := Lib.hid fun W => kind_c x W
  have hu : 0 ≤ umod x.kind 4 ∧ umod x.kind 4 < 4 := by unfold umod; omega
  have hc0 := hc.later hb0
  have hh0 := hh.later hb0
  have Hk := Lib.hid (⟨hd, hL, hH, hn, hok⟩ : (gh ≠ b ∧ bh ≠ b ∧ g ≠ bh) ∧ OkA L ∧ OkH H ∧ H.length ≤ 65536 ∧ (x.acct.size ≤ maxLen ∧ x.peer.size ≤ maxLen ∧ R64 x.sum))
  obtain ⟨R, hR⟩ : ∃ R, stepH L H x = R := ⟨_, rfl⟩
  rw [hR]
  unfold stepH at hR
  generalize umod x.kind 4 = u at *
  have HR := Lib.hid hR.symm
  clear hc hh hd hL hH hn hok hR
  go_enter Tryz.func16, Tryz.ntmps16
  go_wp2_with fail
  generalize w.alloc (.cells #[i64 x.kind, i64 x.num, .string x.acct, .string x.peer, i64 x.sum] 38) = w0 at *
  refine (hK.out _).mono ?_
  rintro e w1 ⟨rfl, hF⟩
  have hg1 := (hF.block _ (Array.getElem?_eq_some_iff.1 hg).1).trans hg
  have hb1 := below_on hb0 (Nat.le_refl _) hF
  have hc1 := hc0.later hF
  have hh1 := hh0.later hF
  have m1 := cell_of_row _ w.heap.size 1 _ _ (0, 0) hg1
  have m2 := cell_of_row _ w.heap.size 2 _ _ (0, 0) hg1
  have m3 := cell_of_row _ w.heap.size 3 _ _ (0, 0) hg1
  have m4 := cell_of_row _ w.heap.size 4 _ _ (0, 0) hg1
  simp only [List.getElem?_toArray, List.getElem?_cons_zero, List.getElem?_cons_succ] at m1 m2 m3 m4
  clear hK hF hg hb0 hg1 hc0 hh0
  by_cases h0 : u = 0
  · have g0 : (u == 0) = true := by rw [h0]; rfl
    have hP := Lib.hid (hoput_c g b gh bh L H ⟨x.num, x.acct, x.sum⟩ w1 hc1 hh1 Hk.out.1 Hk.out.2.1 Hk.out.2.2.1 Hk.out.2.2.2.2.2.2 Hk.out.2.2.2.1)
    have HR2 := Lib.hid (show R = putH L H ⟨x.num, x.acct, x.sum⟩ by rw [HR.out, if_pos h0])
    clear h0 hu HR hc1 hh1
    go_wp2_with fail
    refine hP.out.mono ?_
    rintro e w2 ⟨rfl, q1, q2, q3⟩
    clear hP
    go_wp2
    go_ret
    exact ⟨by rw [HR2.out]; rfl, by rw [HR2.out]; exact q1, by rw [HR2.out]; exact q2, gh_trans hb1 (Gr.of_g2 q3)⟩
  · have g0 : (u == 0) = false := beq_eq_false_iff_ne.2 h0
    by_cases h1 : u = 1
    · have g1 : (u == 1) = true := by rw [h1]; rfl
      have hP := Lib.hid (hotake_c g b gh bh L H x.acct x.num x.peer x.sum w1 hc1 hh1 Hk.out.1 Hk.out.2.1 Hk.out.2.2.1 Hk.out.2.2.2.2.2.2 Hk.out.2.2.2.2.1 Hk.out.2.2.2.2.2.1)
      have HR2 := Lib.hid (show R = takeH L H x.acct x.num x.peer x.sum by rw [HR.out, if_neg h0, if_pos h1])
      clear h0 h1 hu HR hc1 hh1
      go_wp2_with fail
      refine hP.out.mono ?_
      rintro e w2 ⟨rfl, q1, q2, q3⟩
      clear hP
      go_wp2
      go_ret
      exact ⟨by rw [HR2.out]; rfl, by rw [HR2.out]; exact q1, by rw [HR2.out]; exact q2, gh_trans hb1 (Gr.of_g2 q3)⟩
    · have g1 : (u == 1) = false := beq_eq_false_iff_ne.2 h1
      by_cases h2 : u = 2
      · have g2 : (u == 2) = true := by rw [h2]; rfl
        have hP := Lib.hid (hofreeA_c g b gh bh L H x.acct x.num w1 hc1 hh1 Hk.out.1 Hk.out.2.1 Hk.out.2.2.1)
        have HR2 := Lib.hid (show R = freeHL L H x.acct x.num by rw [HR.out, if_neg h0, if_neg h1, if_pos h2])
        clear h0 h1 h2 hu HR hc1 hh1
        go_wp2_with fail
        refine hP.out.mono ?_
        rintro e w2 ⟨rfl, q1, q2, q3⟩
        clear hP
        go_wp2
        go_ret
        exact ⟨by rw [HR2.out]; rfl, by rw [HR2.out]; exact q1, by rw [HR2.out]; exact q2, gh_trans hb1 (Gr.of_g2 q3)⟩
      · have g2 : (u == 2) = false := beq_eq_false_iff_ne.2 h2
        have hP := Lib.hid (giveA_c g b L x.acct x.sum w1 hc1 Hk.out.2.1 Hk.out.2.2.2.2.2.2)
        have HR2 := Lib.hid (show R = ((turnL (givD x.sum) L x.acct x.sum).1, (turnL (givD x.sum) L x.acct x.sum).2, H) by rw [HR.out, if_neg h0, if_neg h1, if_neg h2])
        clear h0 h1 h2 hu HR hc1
        go_wp2_with fail
        refine hP.out.mono ?_
        rintro e w2 ⟨rfl, q1, q3⟩
        have q2 := hh1.kept (Gr.of_grown q3) (fun e => Hk.out.1.1 (by injection e with e; exact e.symm)) (fun e => Hk.out.1.2.1 (by injection e with e; exact e.symm))
        clear hP hh1
        go_wp2
        go_ret
        exact ⟨by rw [HR2.out]; rfl, by rw [HR2.out]; exact q1, by rw [HR2.out]; exact q2, gh_trans hb1 ((Gr.of_grown q3).mono (fun k _ e => .inl (by injection e with e; exact e.symm)))⟩
set_option maxRecDepth 100000 in
set_option maxHeartbeats 2000000 in
theorem early_c (A : Option Addr) (c : Nat) (l : List Op8) (w : World) (h : Sl w w.heap.size A c l) :
    Calls Tryz.prog 15 #[.slice A l.length c] w fun e w' => ∃ n : Nat, e = .returned (.slice A (l.take n).length c) ∧ (l.take n).length ≤ 120 ∧ Below w.heap.size w w' := by
  have hlc : l.length ≤ c := h.1
  have hcm : c ≤ maxLen := h.2.1
  unfold maxLen at hcm
  obtain ⟨n, hn⟩ : ∃ n, min l.length 120 = n := ⟨_, rfl⟩
  have hm : min (l.length : Int) 120 = (n : Int) := by omega
  have hl : (l.take n).length = n := by rw [List.length_take]; omega
  have g1 : (0 : Int) ≤ (n : Int) := by omega
  have g2 : (n : Int) ≤ (c : Int) := by omega
  have Hn := Lib.hid (show n ≤ 120 by omega)
  have HL := Lib.hid hl
  clear h hn hl
  go_enter Tryz.func15, Tryz.ntmps15
  go_wp2
  go_ret
  refine ⟨n, ?_, by rw [HL.out]; exact Hn.out, Below.refl _ _⟩
  rw [HL.out]
  rfl
end Go.Proofs.YtmljlkjomjflpaaGreat

/- chart: what a turn may be -/
namespace Go.Proofs.YtmljlkjomjflpaaGreat
open Go.RowKit
theorem sumR_0 {n : Int} (h : (sumR n).2 = 0) : (sumR n).1 = n := by
  unfold sumR at *
  split at h
  · cases h
  · rw [if_neg (by assumption)]
theorem turnL_cases (D : Ac → Ac × Int) (L : List Ac) (k : ByteArray) (x : Int) : ((turnL D L k x).1 ≠ 0 ∧ (turnL D L k x).2 = L) ∨ ((turnL D L k x).1 = 0 ∧ ∃ a, getK Ac.name L k = some a ∧ (D a).2 = 0 ∧ 0 ≤ (D a).1.set_ ∧ (0 < x → freeA a x = true) ∧ (turnL D L k x).2 = setK Ac.name L (D a).1) := by
  unfold turnL
  cases hg : getK Ac.name L k with
  | none => exact .inl ⟨by show (6 : Int) ≠ 0; decide, rfl⟩
  | some a =>
    dsimp only
    by_cases h1 : (D a).2 ≠ 0
    · rw [if_pos h1]; exact .inl ⟨h1, rfl⟩
    · rw [if_neg h1]
      by_cases h2 : 0 < x ∧ freeA a x = false
      · rw [if_pos h2]; exact .inl ⟨by show (9 : Int) ≠ 0; decide, rfl⟩
      · rw [if_neg h2]
        by_cases h3 : (D a).1.set_ < 0
        · rw [if_pos h3]; exact .inl ⟨by show (13 : Int) ≠ 0; decide, rfl⟩
        · rw [if_neg h3]
          exact .inr ⟨rfl, a, rfl, by simpa using h1, by omega, fun h => by
            cases hf : freeA a x with
            | true => rfl
            | false => exact absurd ⟨h, hf⟩ h2, rfl⟩
end Go.Proofs.YtmljlkjomjflpaaGreat

/- law08: what holds and accounts keep -/
namespace Go.Proofs.YtmljlkjomjflpaaGreat
open Go.RowKit
def sumH : List Held → Int
  | [] => 0
  | x :: r => x.sum + sumH r
theorem sumH_perm {l m : List Held} (h : l.Perm m) : sumH l = sumH m := by
  induction h with
  | nil => rfl
  | cons x _ ih => unfold sumH; rw [ih]
  | swap x y l => unfold sumH; unfold sumH; omega
  | trans _ _ h1 h2 => rw [h1, h2]
theorem turnL_srt {D : Ac → Ac × Int} {L : List Ac} (h : SrtL ltA L) (k : ByteArray) (x : Int) : SrtL ltA (turnL D L k x).2 := by
  rcases turnL_cases D L k x with ⟨_, e⟩ | ⟨_, a, _, _, _, _, e⟩
  · rw [e]; exact h
  · rw [e]; exact setK_srt keyA h _
/-- name, set aside, limit -/
def nsl (a : Ac) : ByteArray × Int × Int := (a.name, a.set_, a.lim)
/-- all but what they have -/
def SS (L L' : List Ac) : Prop := L.map nsl = L'.map nsl
theorem setK_ss {L : List Ac} (h : SrtL ltA L) {a a' : Ac} (ha : a ∈ L) (e : nsl a' = nsl a) : SS L (setK Ac.name L a') := by
  have hn : a'.name = a.name := congrArg Prod.fst e
  unfold SS setK
  rw [List.map_map]
  refine (List.map_congr_left fun x hx => ?_).symm
  simp only [Function.comp_def]
  by_cases hx' : x.name = a'.name
  · rw [if_pos hx', h.one keyA hx ha (by rw [hx', hn]), e]
  · rw [if_neg hx']
theorem turnL_ss {L : List Ac} (h : SrtL ltA L) (k : ByteArray) (x y : Int) : SS L (turnL (givD y) L k x).2 := by
  rcases turnL_cases (givD y) L k x with ⟨_, e⟩ | ⟨_, a, hg, _, _, _, e⟩
  · rw [e]; rfl
  · rw [e]; exact setK_ss h (getK_mem hg).1 rfl
theorem postL_ss {L : List Ac} (h : SrtL ltA L) (x : Leg) : SS L (postL L x).2 ∧ SrtL ltA (postL L x).2 := by
  unfold postL
  split
  · exact ⟨rfl, h⟩
  · split
    · exact ⟨rfl, h⟩
    · exact ⟨turnL_ss h _ _ _, turnL_srt h _ _⟩
theorem allL_ss : ∀ (l : List Leg) {L : List Ac}, SrtL ltA L → SS L (allL L l).2 ∧ SrtL ltA (allL L l).2
  | [], _, h => ⟨rfl, h⟩
  | x :: r, L, h => by
    obtain ⟨h1, h2⟩ := postL_ss h x
    unfold allL
    split
    · exact ⟨h1, h2⟩
    · obtain ⟨h3, h4⟩ := allL_ss r h2
      exact ⟨Eq.trans h1 h3, h4⟩
theorem makeL_ss {L : List Ac} (h : SrtL ltA L) (l : List Leg) : SS L (makeL L l).2 ∧ SrtL ltA (makeL L l).2 := by
  unfold makeL
  split
  · exact ⟨rfl, h⟩
  · exact allL_ss l h
theorem SS.mem {L L' : List Ac} (h : SS L L') {a : Ac} (ha : a ∈ L') : ∃ b ∈ L, nsl b = nsl a := by
  have : nsl a ∈ L'.map nsl := List.mem_map.2 ⟨a, ha, rfl⟩
  rw [← h] at this
  obtain ⟨b, hb, e⟩ := List.mem_map.1 this
  exact ⟨b, hb, e⟩
theorem SS.symm {L L' : List Ac} (h : SS L L') : SS L' L := Eq.symm h
/-- what a chart and holds keep -/
structure InvH (L : List Ac) (H : List Held) : Prop where
  okA : OkA L
  srtA : SrtL ltA L
  okH : OkH H
  srtH : SrtL ltH H
  set : ∀ a ∈ L, a.set_ = sumH (ofL H a.name)
  few : ∀ s, (ofL H s).length ≤ 8
  at_ : ∀ x ∈ H, ∃ a ∈ L, a.name = x.acct
theorem InvH.ss {L L' : List Ac} {H : List Held} (h : InvH L H) (hs : SS L L') (hok : OkA L') (hsr : SrtL ltA L') : InvH L' H where
  okA := hok
  srtA := hsr
  okH := h.okH
  srtH := h.srtH
  few := h.few
  set a ha := by
    obtain ⟨b, hb, e⟩ := hs.mem ha
    have e1 : b.name = a.name := congrArg Prod.fst e
    have e2 : b.set_ = a.set_ := congrArg (fun p => p.2.1) e
    rw [← e1, ← e2]; exact h.set b hb
  at_ x hx := by
    obtain ⟨a, ha, e⟩ := h.at_ x hx
    obtain ⟨b, hb, e2⟩ := hs.symm.mem ha
    exact ⟨b, hb, (congrArg Prod.fst e2).trans e⟩
theorem ofL_perm {l m : List Held} (h : l.Perm m) (s : ByteArray) : (ofL l s).Perm (ofL m s) := h.filter _
theorem ofL_cons (x : Held) (l : List Held) (s : ByteArray) : ofL (x :: l) s = if x.acct = s then x :: ofL l s else ofL l s := by
  unfold ofL
  by_cases h : x.acct = s
  · rw [if_pos h, List.filter_cons_of_pos (by simpa using h)]
  · rw [if_neg h, List.filter_cons_of_neg (by simpa using h)]
/-- an account's set aside, and a hold: both turn alike -/
theorem InvH.turn {L : List Ac} {H H' : List Held} (h : InvH L H) {a : Ac} {k : ByteArray} (hg : getK Ac.name L k = some a) {d : Int} {v : Ac} (hv : v = { a with set_ := a.set_ + d }) (hok : OkA (setK Ac.name L v))
    (h1 : OkH H') (h2 : SrtL ltH H') (h3 : ∀ s, (ofL H' s).length ≤ 8) (h4 : ∀ s, sumH (ofL H' s) = sumH (ofL H s) + if s = k then d else 0) (h5 : ∀ x ∈ H', x ∈ H ∨ x.acct = k) : InvH (setK Ac.name L v) H' where
  okA := hok
  srtA := setK_srt keyA h.srtA _
  okH := h1
  srtH := h2
  few := h3
  set b hb := by
    obtain ⟨ha, hk⟩ := getK_mem hg
    have hvn : v.name = k := by rw [hv]; exact hk
    rw [h4]
    rcases setK_mem hb with rfl | ⟨hb, hne⟩
    · rw [if_pos hvn, hvn, ← hk, ← h.set a ha, hv]
    · rw [if_neg (fun e => hne (by rw [e, hvn])), Int.add_zero]
      exact h.set b hb
  at_ x hx := by
    obtain ⟨ha, hk⟩ := getK_mem hg
    have hvn : v.name = a.name := by rw [hv]
    have key : ∀ b ∈ L, ∃ c ∈ setK Ac.name L v, c.name = b.name := fun b hb => by
      by_cases he : b.name = v.name
      · exact ⟨v, List.mem_map.2 ⟨b, hb, by rw [if_pos he]⟩, he.symm⟩
      · exact ⟨b, List.mem_map.2 ⟨b, hb, by rw [if_neg he]⟩, rfl⟩
    rcases h5 x hx with hx | hx
    · obtain ⟨b, hb, e⟩ := h.at_ x hx
      obtain ⟨c, hc, e2⟩ := key b hb
      exact ⟨c, hc, e2.trans e⟩
    · obtain ⟨c, hc, e2⟩ := key a ha
      exact ⟨c, hc, by rw [e2, hk, hx]⟩
/-- one hold taken out -/
theorem del_perm {H : List Held} (h : SrtL ltH H) {k : Hk} {y : Held} (hg : getK Held.key H k = some y) : H.Perm (y :: delK Held.key H k) := by
  obtain ⟨hy, hk⟩ := getK_mem hg
  obtain ⟨i, hi, rfl⟩ := List.getElem_of_mem hy
  rw [← hk, delK_at keyH h hi]
  have e : H = H.take i ++ H[i] :: H.drop (i + 1) := by rw [← List.drop_eq_getElem_cons hi, List.take_append_drop]
  conv => lhs; rw [e]
  exact List.perm_middle
theorem asiD_0 {x : Int} {a : Ac} (h : (asiD x a).2 = 0) : (asiD x a).1 = { a with set_ := a.set_ + x } := by
  have h1 : (sumR (a.set_ + x)).2 = 0 := h
  show ({ a with set_ := (sumR (a.set_ + x)).1 } : Ac) = _
  rw [sumR_0 h1]
theorem InvH.free {L : List Ac} {H : List Held} (h : InvH L H) (k : ByteArray) (n : Int) : InvH (freeHL L H k n).2.1 (freeHL L H k n).2.2 := by
  have hokA := freeHL_ok h.okA H k n
  have hokH := freeHL_okH h.okH L k n
  unfold freeHL at *
  cases hg : getK Held.key H ⟨k, n⟩ with
  | none => rw [hg] at hokA hokH; exact h
  | some y =>
    rw [hg] at hokA hokH
    dsimp only at *
    rcases turnL_cases (asiD (-y.sum)) L k (-y.sum) with ⟨e0, e⟩ | ⟨e0, a, ha, hz, _, _, e⟩
    · rw [if_neg e0, e]; exact h
    · rw [if_pos e0] at hokH ⊢
      rw [e] at hokA ⊢
      have hp := del_perm h.srtH hg
      have hyk : y.acct = k := congrArg Hk.acct (getK_mem hg).2
      refine h.turn ha (asiD_0 hz) hokA hokH (delK_srt h.srtH _) (fun s => ?_) (fun s => ?_) (fun x hx => .inl (List.mem_filter.1 hx).1)
      · have h1 := (ofL_perm hp s).length_eq
        have h2 := h.few s
        rw [ofL_cons] at h1
        split at h1
        · rw [List.length_cons] at h1; omega
        · omega
      · have h1 := sumH_perm (ofL_perm hp s)
        rw [ofL_cons] at h1
        by_cases hs : s = k
        · rw [if_pos (by rw [hyk, hs])] at h1
          rw [if_pos hs, h1]
          show _ = y.sum + _ + -y.sum
          omega
        · rw [if_neg (by rw [hyk]; exact fun e => hs e.symm)] at h1
          rw [if_neg hs, h1, Int.add_zero]
theorem InvH.put {L : List Ac} {H : List Held} (h : InvH L H) (x : Held) (hx : R64 x.sum) (hk : x.acct.size ≤ maxLen) : InvH (putH L H x).2.1 (putH L H x).2.2 := by
  unfold putH
  by_cases h1 : x.num < 1 ∨ 9999 < x.num ∨ x.sum < 1
  · rw [if_pos h1]; exact h
  · rw [if_neg h1]
    by_cases h2 : (getK Held.key H x.key).isSome = true
    · rw [if_pos h2]; exact h
    · rw [if_neg h2]
      by_cases h3 : (ofL H x.acct).length = 8
      · rw [if_pos h3]; exact h
      · rw [if_neg h3]
        have hok := turnL_ok (asiD_ok x.sum) h.okA x.acct x.sum
        dsimp only
        rcases turnL_cases (asiD x.sum) L x.acct x.sum with ⟨e0, e⟩ | ⟨e0, a, ha, hz, _, _, e⟩
        · rw [if_neg e0, e]; exact h
        · rw [if_pos e0]
          rw [e] at hok ⊢
          have hp := insB_perm (lt := ltH) x H
          have hno : getK Held.key H x.key = none := by simpa using h2
          refine h.turn ha (asiD_0 hz) hok (fun y hy => ?_) (insB_srt keyH.strict x H h.srtH fun y hy => keyH.co _ _ fun e => getK_none.1 hno y hy e.symm) (fun s => ?_) (fun s => ?_) (fun y hy => ?_)
          · rcases List.mem_cons.1 (hp.mem_iff.1 hy) with rfl | hy
            · obtain ⟨g1, g2⟩ := hx
              exact ⟨by omega, by omega, by omega, g2, hk⟩
            · exact h.okH y hy
          · have h4 := (ofL_perm hp s).length_eq
            have h5 := h.few s
            rw [ofL_cons] at h4
            split at h4
            · rename_i hs
              have := h.few x.acct
              rw [hs] at this h3
              simp only [List.length_cons] at h4
              omega
            · omega
          · have h4 := sumH_perm (ofL_perm hp s)
            rw [ofL_cons] at h4
            by_cases hs : s = x.acct
            · rw [if_pos hs.symm] at h4
              rw [if_pos hs, h4]
              show x.sum + _ = _
              omega
            · rw [if_neg (fun e => hs e.symm)] at h4
              rw [if_neg hs, h4, Int.add_zero]
          · rcases List.mem_cons.1 (hp.mem_iff.1 hy) with rfl | hy
            · exact .inr rfl
            · exact .inl hy
theorem InvH.take {L : List Ac} {H : List Held} (h : InvH L H) (k : ByteArray) (n : Int) (p : ByteArray) (s : Int) : InvH (takeH L H k n p s).2.1 (takeH L H k n p s).2.2 := by
  unfold takeH
  cases hg : getK Held.key H ⟨k, n⟩ with
  | none => exact h
  | some y =>
    dsimp only
    by_cases h1 : s < 1 ∨ y.sum < s
    · rw [if_pos h1]; exact h
    · rw [if_neg h1]
      by_cases h2 : (turnL (asiD (-y.sum)) L k (-y.sum)).1 ≠ 0
      · rw [if_pos h2]; exact h
      · rw [if_neg h2]
        by_cases h3 : checkL (turnL (asiD (-y.sum)) L k (-y.sum)).2 (legs2 k p s) ≠ 0
        · rw [if_pos h3]; exact h
        · rw [if_neg h3]
          have hf := h.free k n
          obtain ⟨g1, g2⟩ := makeL_ss hf.srtA (legs2 k p s)
          exact hf.ss g1 (makeL_ok hf.okA _) g2
theorem InvH.step {L : List Ac} {H : List Held} (h : InvH L H) (x : Op8) (hx : x.acct.size ≤ maxLen ∧ x.peer.size ≤ maxLen ∧ R64 x.sum) : InvH (stepH L H x).2.1 (stepH L H x).2.2 := by
  unfold stepH
  split
  · exact h.put _ hx.2.2 hx.1
  · split
    · exact h.take _ _ _ _
    · split
      · exact h.free _ _
      · exact h.ss (turnL_ss h.srtA _ _ _) (turnL_ok (givD_ok _) h.okA _ _) (turnL_srt h.srtA _ _)
theorem freeHL_err {L : List Ac} {H : List Held} {k : ByteArray} {n : Int} (h : (freeHL L H k n).1 ≠ 0) : (freeHL L H k n).2 = (L, H) := by
  unfold freeHL at *
  cases hg : getK Held.key H ⟨k, n⟩ with
  | none => rfl
  | some y =>
    rw [hg] at h
    dsimp only at *
    rcases turnL_cases (asiD (-y.sum)) L k (-y.sum) with ⟨e0, e⟩ | ⟨e0, _⟩
    · rw [if_neg e0, e]
    · exact absurd e0 h
theorem putH_err {L : List Ac} {H : List Held} {x : Held} (h : (putH L H x).1 ≠ 0) : (putH L H x).2 = (L, H) := by
  unfold putH at *
  split
  · rfl
  · rename_i h1
    rw [if_neg h1] at h
    split
    · rfl
    · rename_i h2
      rw [if_neg h2] at h
      split
      · rfl
      · rename_i h3
        rw [if_neg h3] at h
        dsimp only at *
        rcases turnL_cases (asiD x.sum) L x.acct x.sum with ⟨e0, e⟩ | ⟨e0, _⟩
        · rw [if_neg e0, e]
        · exact absurd e0 h
/-- behind a check that found nothing, legs are posted -/
theorem make_of_check {L : List Ac} {l : List Leg} (h : checkL L l = 0) : makeL L l = allL L l ∧ (makeL L l).1 = 0 := by
  have h1 : makeL L l = allL L l := by unfold makeL; rw [if_neg (by rw [h]; simp)]
  refine ⟨h1, ?_⟩
  rw [h1]
  unfold checkL at h
  split at h
  · cases h
  · split at h
    · cases h
    · exact h
theorem freeHL_of {L : List Ac} {H : List Held} {k : ByteArray} {n : Int} {y : Held} (hg : getK Held.key H ⟨k, n⟩ = some y) (h : ¬ (turnL (asiD (-y.sum)) L k (-y.sum)).1 ≠ 0) : freeHL L H k n = (0, (turnL (asiD (-y.sum)) L k (-y.sum)).2, delK Held.key H ⟨k, n⟩) := by
  have h0 : (turnL (asiD (-y.sum)) L k (-y.sum)).1 = 0 := by simpa using h
  unfold freeHL
  rw [hg]
  dsimp only
  rw [if_pos h0, h0]
theorem takeH_err {L : List Ac} {H : List Held} {k p : ByteArray} {n s : Int} (h : (takeH L H k n p s).1 ≠ 0) : (takeH L H k n p s).2 = (L, H) := by
  unfold takeH at *
  cases hg : getK Held.key H ⟨k, n⟩ with
  | none => rfl
  | some y =>
    rw [hg] at h
    dsimp only at *
    split
    · rfl
    · rename_i h1
      rw [if_neg h1] at h
      split
      · rfl
      · rename_i h2
        rw [if_neg h2] at h
        split
        · rfl
        · rename_i h3
          rw [if_neg h3] at h
          rw [freeHL_of hg h2] at h
          exact absurd (make_of_check (by simpa using h3)).2 h
theorem stepH_err {L : List Ac} {H : List Held} {x : Op8} (h : (stepH L H x).1 ≠ 0) : (stepH L H x).2 = (L, H) := by
  unfold stepH at *
  split
  · rename_i h1; rw [if_pos h1] at h; exact putH_err h
  · rename_i h1
    rw [if_neg h1] at h
    split
    · rename_i h2; rw [if_pos h2] at h; exact takeH_err h
    · rename_i h2
      rw [if_neg h2] at h
      split
      · rename_i h3; rw [if_pos h3] at h; exact freeHL_err h
      · rename_i h3
        rw [if_neg h3] at h
        dsimp only at *
        rcases turnL_cases (givD x.sum) L x.acct x.sum with ⟨e0, e⟩ | ⟨e0, _⟩
        · rw [e]
        · exact absurd e0 h
theorem freeHL_len (L : List Ac) (H : List Held) (k : ByteArray) (n : Int) : (freeHL L H k n).2.2.length ≤ H.length := by
  unfold freeHL
  cases getK Held.key H ⟨k, n⟩ with
  | none => exact Nat.le_refl _
  | some y =>
    dsimp only
    split
    · exact List.length_filter_le _ _
    · exact Nat.le_refl _
theorem stepH_len (L : List Ac) (H : List Held) (x : Op8) : (stepH L H x).2.2.length ≤ H.length + 1 := by
  unfold stepH
  split
  · unfold putH
    split
    · exact Nat.le_succ _
    · split
      · exact Nat.le_succ _
      · split
        · exact Nat.le_succ _
        · dsimp only
          split
          · rw [(insB_perm _ H).length_eq, List.length_cons]; exact Nat.le_refl _
          · exact Nat.le_succ _
  · split
    · unfold takeH
      cases getK Held.key H ⟨x.acct, x.num⟩ with
      | none => exact Nat.le_succ _
      | some y =>
        dsimp only
        split
        · exact Nat.le_succ _
        · split
          · exact Nat.le_succ _
          · split
            · exact Nat.le_succ _
            · exact Nat.le_succ_of_le (freeHL_len L H _ _)
    · split
      · exact Nat.le_succ_of_le (freeHL_len L H _ _)
      · exact Nat.le_succ _
theorem inv_L0 : InvH L0 [] where
  okA := ok_L0
  srtA := srt_L0
  okH := okH_nil
  srtH := List.Pairwise.nil
  set a ha := by
    have : a.set_ = 0 := by
      unfold L0 at ha
      simp only [List.mem_cons, List.not_mem_nil, or_false] at ha
      rcases ha with rfl | rfl | rfl <;> rfl
    rw [this]; rfl
  few s := Nat.zero_le _
  at_ x hx := by cases hx
theorem turnL_len (D : Ac → Ac × Int) (L : List Ac) (k : ByteArray) (x : Int) : (turnL D L k x).2.length = L.length := by
  rcases turnL_cases D L k x with ⟨_, e⟩ | ⟨_, a, _, _, _, _, e⟩
  · rw [e]
  · rw [e, setK_len]
theorem SS.len {L L' : List Ac} (h : SS L L') : L'.length = L.length := by
  have := congrArg List.length h
  simpa using this.symm
theorem freeHL_lenA (L : List Ac) (H : List Held) (k : ByteArray) (n : Int) : (freeHL L H k n).2.1.length = L.length := by
  unfold freeHL
  cases getK Held.key H ⟨k, n⟩ with
  | none => rfl
  | some y => exact turnL_len _ _ _ _
theorem stepH_lenA {L : List Ac} {H : List Held} (h : InvH L H) (x : Op8) : (stepH L H x).2.1.length = L.length := by
  unfold stepH
  split
  · unfold putH
    split
    · rfl
    · split
      · rfl
      · split
        · rfl
        · exact turnL_len _ _ _ _
  · split
    · unfold takeH
      cases getK Held.key H ⟨x.acct, x.num⟩ with
      | none => rfl
      | some y =>
        dsimp only
        split
        · rfl
        · split
          · rfl
          · split
            · rfl
            · rw [(makeL_ss (h.free _ _).srtA _).1.len, freeHL_lenA]
    · split
      · exact freeHL_lenA _ _ _ _
      · exact turnL_len _ _ _ _
/-- the loop's sum -/
theorem sumH_snoc (l : List Held) (x : Held) : sumH (l ++ [x]) = sumH l + x.sum := by
  induction l with
  | nil => show x.sum + 0 = 0 + x.sum; omega
  | cons y r ih => rw [List.cons_append]; unfold sumH; rw [ih]; omega
theorem sumH_pos {l : List Held} (h : ∀ x ∈ l, 1 ≤ x.sum) : 0 ≤ sumH l := by
  induction l with
  | nil => exact Int.le_refl _
  | cons y r ih =>
    unfold sumH
    have := ih fun x hx => h x (List.mem_cons_of_mem _ hx)
    have := h y (List.mem_cons_self ..)
    omega
theorem sumH_take_le {l : List Held} (h : ∀ x ∈ l, 1 ≤ x.sum) (k : Nat) : 0 ≤ sumH (l.take k) ∧ sumH (l.take k) ≤ sumH l := by
  refine ⟨sumH_pos fun x hx => h x (List.mem_of_mem_take hx), ?_⟩
  induction l generalizing k with
  | nil => simp
  | cons y r ih =>
    cases k with
    | zero => exact sumH_pos h
    | succ k =>
      rw [List.take_succ_cons]
      unfold sumH
      have := ih (fun x hx => h x (List.mem_cons_of_mem _ hx)) k
      omega
theorem ofL_sums {H : List Held} (h : OkH H) (s : ByteArray) : ∀ x ∈ ofL H s, 1 ≤ x.sum := fun x hx => (h x (List.mem_filter.1 hx).1).2.2.1
end Go.Proofs.YtmljlkjomjflpaaGreat
