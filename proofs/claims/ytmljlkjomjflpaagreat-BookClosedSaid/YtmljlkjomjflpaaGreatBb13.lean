/- Texts of this claim, laid together: Hlives, Hnil, Hdoes, TurnC. -/
import Derived.Test.YtmljlkjomjflpaaGreatRows
import Derived.Test.YtmljlkjomjflpaaGreatBb9
import Derived.Test.YtmljlkjomjflpaaGreatBb12
import Derived.Laws.StructEq
import Derived.WalkKit
import Derived.WalkSpells
import Derived.WalkLawsBesides
import Derived.Deep.QuietTactic
import Derived.BigQuiet
import Derived.Deep.DeepFit
import Derived.StillTailTactics
import Derived.Test.YtmljlkjomjflpaaGreatBb11
import Derived.Test.YtmljlkjomjflpaaGreatBb5

/- law08.lives -/
namespace Go.Proofs.YtmljlkjomjflpaaGreat
open Go.RowKit
def LP : List Ac := [⟨sA, 30, 20, 0⟩, ⟨sB, 10, 0, 5⟩, ⟨sC, 0, 0, 10⟩]
def LT : List Ac := [⟨sA, 26, 0, 0⟩, ⟨sB, 10, 0, 5⟩, ⟨sC, 4, 0, 10⟩]
theorem ok_LP : OkA LP := ok_of fun x hx => by
  simp only [LP, List.mem_cons, List.not_mem_nil, or_false] at hx
  rcases hx with rfl | rfl | rfl
  · exact ⟨⟨by decide, by decide⟩, ⟨by decide, by decide⟩, ⟨by decide, by decide⟩, nameA⟩
  · exact ⟨⟨by decide, by decide⟩, ⟨by decide, by decide⟩, ⟨by decide, by decide⟩, nameBb⟩
  · exact ⟨⟨by decide, by decide⟩, ⟨by decide, by decide⟩, ⟨by decide, by decide⟩, nameC⟩
theorem pu1 : putH L0 [] ⟨1, sA, 20⟩ = (0, LP, [⟨1, sA, 20⟩]) := by rfl
theorem pu2 : putH LP [⟨1, sA, 20⟩] ⟨2, sA, 11⟩ = (9, LP, [⟨1, sA, 20⟩]) := by rfl
theorem lgB : legsB (legs2 sA sC 4) = true := by
  unfold legsB legs2
  simp only [List.all_cons, List.all_nil, legB, nameA, nameC]
  rfl
theorem mk1 : makeL [⟨sA, 30, 0, 0⟩, ⟨sB, 10, 0, 5⟩, ⟨sC, 0, 0, 10⟩] (legs2 sA sC 4) = (0, LT) := by
  unfold makeL
  have h : checkL [⟨sA, 30, 0, 0⟩, ⟨sB, 10, 0, 5⟩, ⟨sC, 0, 0, 10⟩] (legs2 sA sC 4) = 0 := by
    unfold checkL
    rw [if_neg (by rw [lgB]; decide)]
    rfl
  rw [if_neg (by rw [h]; decide)]
  rfl
theorem ta1 : takeH LP [⟨1, sA, 20⟩] sA 1 sC 4 = (0, LT, []) := by
  unfold takeH
  have h0 : getK Held.key [⟨1, sA, 20⟩] ⟨sA, 1⟩ = some ⟨1, sA, 20⟩ := by rfl
  rw [h0]
  dsimp only
  have h1 : turnL (asiD (-20)) LP sA (-20) = (0, [⟨sA, 30, 0, 0⟩, ⟨sB, 10, 0, 5⟩, ⟨sC, 0, 0, 10⟩]) := by rfl
  have h2 : freeHL LP [⟨1, sA, 20⟩] sA 1 = (0, [⟨sA, 30, 0, 0⟩, ⟨sB, 10, 0, 5⟩, ⟨sC, 0, 0, 10⟩], []) := by rfl
  have h3 : checkL [⟨sA, 30, 0, 0⟩, ⟨sB, 10, 0, 5⟩, ⟨sC, 0, 0, 10⟩] (legs2 sA sC 4) = 0 := by
    unfold checkL
    rw [if_neg (by rw [lgB]; decide)]
    rfl
  rw [if_neg (by decide), h1, if_neg (by decide), h3, if_neg (by decide), h2, mk1]
theorem eq_ac (a b : Ac) (w : World) : (binOp .eql 70 (.agg #[.string a.name, i64 a.hav, i64 a.set_, i64 a.lim]) (.agg #[.string b.name, i64 b.hav, i64 b.set_, i64 b.lim])).run Tryz.prog w = .ok (.bool (decide (a = b))) w := by
  have u3 := Tryz.underlying2
  have a3 := Tryz.isAgg2
  have z3 := Tryz.sizeOf2
  have u9 := Tryz.underlying9
  have a9 := Tryz.isAgg9
  have z9 := Tryz.sizeOf9
  have hS : Tryz.prog.underlying 70 = some (.struct (Tryz.prog.fieldsOf 70)) := by kernel_rfl
  have hp : Tryz.prog.stoodInHeld 70 = false := by kernel_rfl
  rw [run_eql_struct, show (10000 : Nat) = 9999 + 1 from rfl, run_equalIn_agg w 9999 70 _ _ hS hp]
  simp only [Program.fieldsOf, Tryz.underlying70]
  go_simp
  by_cases h1 : a.name = b.name
  · have t1 := beqS_of_eq h1
    by_cases h2 : a.hav = b.hav
    · by_cases h3 : a.set_ = b.set_
      · by_cases h4 : a.lim = b.lim
        · rw [decide_eq_true (Ac.ext_ h1 h2 h3 h4)]; simp [h1, h2, h3, h4]
        · rw [decide_eq_false (fun e => h4 (by rw [e]))]; simp [h1, h2, h3, h4]
      · rw [decide_eq_false (fun e => h3 (by rw [e]))]; simp [h1, h2, h3]
    · rw [decide_eq_false (fun e => h2 (by rw [e]))]; simp [h1, h2]
  · have t1 := beqS_of_ne h1
    have t2 : ¬ a.name.toList = b.name.toList := by simpa using t1
    rw [decide_eq_false (fun e => h1 (by rw [e]))]; simp [t2]
theorem okH_one {x : Held} (h : 1 ≤ x.num ∧ x.num ≤ 9999 ∧ 1 ≤ x.sum ∧ x.sum ≤ 9223372036854775807 ∧ x.acct.size ≤ maxLen) : OkH [x] := fun y hy => by
  simp only [List.mem_singleton] at hy
  subst hy
  exact h
theorem okH_nil : OkH [] := fun y hy => by simp at hy
set_option maxRecDepth 100000 in
set_option maxHeartbeats 8000000 in
theorem lives8_c (w : World) : Calls Tryz.prog 12 #[] w fun e w' => e = .returned (.bool true) ∧ Below w.heap.size w w' := by
  have hb := Lib.hid (begin_c w)
  go_enter Tryz.func12, Tryz.ntmps12
  go_wp2_with fail
  refine hb.out.mono ?_
  rintro e w1 ⟨g, b, r, rfl, hB⟩
  have hH := Lib.hid (honewA_c w1)
  have HB := Lib.hid hB
  have hltc := hB.ch.lt
  have hb1 := hB.be
  have hge := hB.ge
  clear hb hB
  go_wp2_with fail
  refine hH.out.mono ?_
  rintro e w2 ⟨rfl, hh, hF⟩
  have hb2 := below_on hb1 (Nat.le_refl _) hF
  have hc2 := HB.out.ch.later hF
  have hsz := hb1.size
  have hd : (w1.heap.size + 1 ≠ b ∧ w1.heap.size ≠ b ∧ g ≠ w1.heap.size) := by omega
  have Hd := Lib.hid hd
  have hP := Lib.hid (hoput_c g b (w1.heap.size + 1) w1.heap.size L0 [] ⟨1, sA, 20⟩ w2 hc2 hh hd ok_L0 okH_nil (r64_small ⟨by decide, by decide⟩) (by decide))
  rw [pu1] at hP
  clear hH HB hh hF hc2 hd hb1
  go_wp2_with fail
  refine hP.out.mono ?_
  rintro e w3 ⟨rfl, hc3, hh3, hg3⟩
  have hb3 := hb2.trans ((Gr.of_g2 hg3).below hb2.size (fun k hk => by rcases hk with rfl | rfl <;> omega))
  have hP := Lib.hid (hoput_c g b (w1.heap.size + 1) w1.heap.size LP [⟨1, sA, 20⟩] ⟨2, sA, 11⟩ w3 hc3 hh3 Hd.out ok_LP (okH_one ⟨by decide, by decide, by decide, by decide, sz_s _⟩) (r64_small ⟨by decide, by decide⟩) (by decide))
  rw [pu2] at hP
  clear hc3 hh3 hg3 hb2
  go_wp2_with fail
  refine hP.out.mono ?_
  rintro e w4 ⟨rfl, hc4, hh4, hg4⟩
  have hb4 := hb3.trans ((Gr.of_g2 hg4).below hb3.size (fun k hk => by rcases hk with rfl | rfl <;> omega))
  have hT := Lib.hid (hotake_c g b (w1.heap.size + 1) w1.heap.size LP [⟨1, sA, 20⟩] sA 1 sC 4 w4 hc4 hh4 Hd.out ok_LP (okH_one ⟨by decide, by decide, by decide, by decide, sz_s _⟩) (r64_small ⟨by decide, by decide⟩) (sz_s _) (sz_s _))
  rw [ta1] at hT
  clear hP hc4 hh4 hg4 hb3
  go_wp2_with fail
  refine hT.out.mono ?_
  rintro e w5 ⟨rfl, hc5, hh5, hg5⟩
  have hb5 := hb4.trans ((Gr.of_g2 hg5).below hb4.size (fun k hk => by rcases hk with rfl | rfl <;> omega))
  have hG := Lib.hid (getA_c g b LT sA w5 hc5)
  rw [show getLR LT sA = (⟨sA, 26, 0, 0⟩, 0) by rfl] at hG
  clear hT hc5 hg5 hb4
  go_wp2_with fail
  refine hG.out.mono ?_
  rintro e w6 ⟨rfl, hF⟩
  have hb6 := below_on hb5 (Nat.le_refl _) hF
  have hh6 := hh5.later hF
  have hb7 := hb6.alloc hb6.size (.cells #[.string sA, i64 26, i64 0, i64 0] 70)
  have hA := Lib.hid (hoall_c (w1.heap.size + 1) w1.heap.size [] _ (hh6.later ((Below.refl _ _).alloc (Nat.le_refl _) (.cells #[.string sA, i64 26, i64 0, i64 0] 70))) okH_nil (by decide))
  have heq : ∀ W : World, (binOp .eql 70 (.agg #[.string sA, i64 26, i64 0, i64 0]) (.agg #[.string sA, i64 26, i64 0, i64 0])).run Tryz.prog W = .ok (.bool true) W := fun W => eq_ac ⟨sA, 26, 0, 0⟩ ⟨sA, 26, 0, 0⟩ W
  clear hG hF hh5 hh6 hb5 hb6 hltc hge
  go_wp2_with fail
  refine hA.out.mono ?_
  rintro e w7 ⟨v, rfl, hO, hF⟩
  obtain ⟨A, c, rfl, -⟩ := hO.sl
  have hb8 := below_on hb7 (Nat.le_refl _) hF
  clear hO hF hA hb7
  go_wp2
  go_ret
  exact ⟨rfl, hb8⟩
end Go.Proofs.YtmljlkjomjflpaaGreat

/- law08: holds that aren't there -/
namespace Go.Proofs.YtmljlkjomjflpaaGreat
open Go.RowKit
/-- countinghouselaw08.Op -/
structure Op8 where
  kind : Int
  num : Int
  acct : ByteArray
  peer : ByteArray
  sum : Int
abbrev Op8.v (x : Op8) : Value := .agg #[i64 x.kind, i64 x.num, .string x.acct, .string x.peer, i64 x.sum]
instance encOp8 : Enc Op8 where
  size := 5
  cells x := [i64 x.kind, i64 x.num, .string x.acct, .string x.peer, i64 x.sum]
  val := Op8.v
  ok _ _ x := x.acct.size ≤ maxLen ∧ x.peer.size ≤ maxLen ∧ R64 x.sum
  len _ := rfl
  one _ v hv := by simp only [List.mem_cons, List.not_mem_nil, or_false] at hv; rcases hv with rfl | rfl | rfl | rfl | rfl <;> rfl
  keep h _ _ := h
/-- int(uint(x) % n) -/
def umod (x n : Int) : Int := x % 18446744073709551616 % n
set_option maxRecDepth 100000 in
set_option maxHeartbeats 2000000 in
theorem kind_c (x : Op8) (w : World) : Calls Tryz.prog 56 #[x.v] w fun e w' => e = .returned (i64 (umod x.kind 4)) ∧ Below w.heap.size w w' := by
  have hu : IntKind.u64.wrap x.kind = x.kind % 18446744073709551616 := by rw [IntKind.wrap_u64]
  have hd : umod x.kind 4 = x.kind % 18446744073709551616 % 4 := rfl
  have hp : 0 ≤ x.kind % 18446744073709551616 := by omega
  have hlt : x.kind % 18446744073709551616 < 18446744073709551616 := by omega
  generalize x.kind % 18446744073709551616 = u at *
  have hr : 0 ≤ u % 4 ∧ u % 4 < 4 := by omega
  have hw : IntKind.i64.wrap (u % 4) = u % 4 := by rw [IntKind.wrap_i64]; omega
  rw [hd]
  clear hd
  go_enter Tryz.func56, Tryz.ntmps56
  go_wp2
  go_ret
  trace_state
  exact ⟨rfl, (Below.refl _ _).alloc (Nat.le_refl _) _⟩
set_option maxRecDepth 100000 in
set_option maxHeartbeats 2000000 in
theorem put_nil0 (cp : Option Addr) (x : Held) (w : World) : Calls Tryz.prog 48 #[.pointer none, .pointer cp, x.v] w fun e w' => e = .returned (i64 1) ∧ Below w.heap.size w w' := by
  go_enter Tryz.func48, Tryz.ntmps48
  go_wp2
  go_ret
  exact ⟨rfl, (Below.refl _ _).alloc (Nat.le_refl _) _⟩
set_option maxRecDepth 100000 in
set_option maxHeartbeats 2000000 in
theorem put_nil1 (gh : Nat) (x : Held) (w : World) : Calls Tryz.prog 48 #[.pointer (some ⟨gh, 0, none⟩), .pointer none, x.v] w fun e w' => e = .returned (i64 1) ∧ Below w.heap.size w w' := by
  go_enter Tryz.func48, Tryz.ntmps48
  go_wp2
  go_ret
  exact ⟨rfl, (Below.refl _ _).alloc (Nat.le_refl _) _⟩
set_option maxRecDepth 100000 in
set_option maxHeartbeats 2000000 in
theorem take_nil0 (cp : Option Addr) (k p : ByteArray) (n s : Int) (w : World) : Calls Tryz.prog 49 #[.pointer none, .pointer cp, .string k, i64 n, .string p, i64 s] w fun e w' => e = .returned (i64 1) ∧ Below w.heap.size w w' := by
  go_enter Tryz.func49, Tryz.ntmps49
  go_wp2
  go_ret
  exact ⟨rfl, Below.refl _ _⟩
set_option maxRecDepth 100000 in
set_option maxHeartbeats 2000000 in
theorem take_nil1 (gh : Nat) (k p : ByteArray) (n s : Int) (w : World) : Calls Tryz.prog 49 #[.pointer (some ⟨gh, 0, none⟩), .pointer none, .string k, i64 n, .string p, i64 s] w fun e w' => e = .returned (i64 1) ∧ Below w.heap.size w w' := by
  go_enter Tryz.func49, Tryz.ntmps49
  go_wp2
  go_ret
  exact ⟨rfl, Below.refl _ _⟩
set_option maxRecDepth 100000 in
set_option maxHeartbeats 2000000 in
theorem free_nil0 (cp : Option Addr) (k : ByteArray) (n : Int) (w : World) : Calls Tryz.prog 57 #[.pointer none, .pointer cp, .string k, i64 n] w fun e w' => e = .returned (i64 1) ∧ Below w.heap.size w w' := by
  go_enter Tryz.func57, Tryz.ntmps57
  go_wp2
  go_ret
  exact ⟨rfl, Below.refl _ _⟩
set_option maxRecDepth 100000 in
set_option maxHeartbeats 2000000 in
theorem free_nil1 (gh : Nat) (k : ByteArray) (n : Int) (w : World) : Calls Tryz.prog 57 #[.pointer (some ⟨gh, 0, none⟩), .pointer none, .string k, i64 n] w fun e w' => e = .returned (i64 1) ∧ Below w.heap.size w w' := by
  go_enter Tryz.func57, Tryz.ntmps57
  go_wp2
  go_ret
  exact ⟨rfl, Below.refl _ _⟩
set_option maxRecDepth 100000 in
set_option maxHeartbeats 2000000 in
theorem all_nil (w : World) : Calls Tryz.prog 19 #[.pointer none] w fun e w' => e = .returned (.slice none 0 0) ∧ Below w.heap.size w w' := by
  go_enter Tryz.func19, Tryz.ntmps19
  go_wp2
  go_ret
  exact ⟨rfl, Below.refl _ _⟩
set_option maxRecDepth 100000 in
set_option maxHeartbeats 2000000 in
theorem copy_nil (w : World) : Calls Tryz.prog 71 #[.pointer none] w fun e w' => e = .returned (.pointer none) ∧ Below w.heap.size w w' := by
  go_enter Tryz.func71, Tryz.ntmps71
  go_wp2
  go_ret
  exact ⟨rfl, Below.refl _ _⟩
set_option maxRecDepth 100000 in
set_option maxHeartbeats 4000000 in
theorem of_nil (s : ByteArray) (w : World) : Calls Tryz.prog 20 #[.pointer none, .string s] w fun e w' => ∃ A c, e = .returned (.slice A 0 c) ∧ Below w.heap.size w w' := by
  have hb0 := (Below.refl w.heap.size w).alloc (Nat.le_refl _) (.cells #[.string s] 9)
  have hA := Lib.hid (fun W => all_nil W)
  go_enter Tryz.func20, Tryz.ntmps20
  go_wp2_with fail
  generalize w.alloc (.cells #[.string s] 9) = w0 at *
  refine (hA.out _).mono ?_
  rintro e w1 ⟨rfl, hF⟩
  have hb1 := below_on hb0 (Nat.le_refl _) hF
  have HD := Lib.hid (deleteFunc_held w1.heap.size (.slice none 0 0) ([] : List Held) 67 #[.pointer (some ⟨w.heap.size, 0, none⟩)] (fun x => !decide (x.acct = s)) w1 (Own.nil_ _ _ _) (by decide) (enters_of Tryz.func67 (by kernel_rfl) rfl) (fun x hx => by simp at hx))
  clear hA hF
  go_wp2_with fail
  refine HD.out.mono ?_
  rintro e w2 ⟨v2, rfl, hO2, hg2, hv2⟩
  obtain ⟨A, c, rfl, -⟩ := hO2.sl
  have hb2 := hb1.trans (below_of_grown hg2 hb1.size (fun g e => by cases e))
  go_wp2
  go_ret
  exact ⟨A, c, rfl, hb2⟩
set_option maxRecDepth 100000 in
set_option maxHeartbeats 4000000 in
theorem does_nil0 (cp : Option Addr) (x : Op8) (w : World) (hx : 0 ≤ x.kind ∧ x.kind < 3) : Calls Tryz.prog 16 #[.pointer none, .pointer cp, x.v] w fun e w' => e = .returned (i64 1) ∧ Below w.heap.size w w' := by
  have hb0 := (Below.refl w.heap.size w).alloc (Nat.le_refl _) (.cells #[i64 x.kind, i64 x.num, .string x.acct, .string x.peer, i64 x.sum] 38)
  have hg := heap_alloc_new w (.cells #[i64 x.kind, i64 x.num, .string x.acct, .string x.peer, i64 x.sum] 38)
  have hK := Lib.hid fun W => kind_c x W
  have hu : umod x.kind 4 = x.kind := by unfold umod; omega
  rw [hu] at hK
  have k1 := Lib.hid fun (y : Held) W => put_nil0 cp y W
  have k2 := Lib.hid fun (k p : ByteArray) (n s : Int) W => take_nil0 cp k p n s W
  have k3 := Lib.hid fun (k : ByteArray) (n : Int) W => free_nil0 cp k n W
  have Hx := Lib.hid hx
  clear hu hx
  go_enter Tryz.func16, Tryz.ntmps16
  go_wp2_with fail
  generalize w.alloc (.cells #[i64 x.kind, i64 x.num, .string x.acct, .string x.peer, i64 x.sum] 38) = w0 at *
  refine (hK.out _).mono ?_
  rintro e w1 ⟨rfl, hF⟩
  have hg1 := (hF.block _ (Array.getElem?_eq_some_iff.1 hg).1).trans hg
  have hb1 := below_on hb0 (Nat.le_refl _) hF
  have m1 := cell_of_row _ w.heap.size 1 _ _ (0, 0) hg1
  have m2 := cell_of_row _ w.heap.size 2 _ _ (0, 0) hg1
  have m3 := cell_of_row _ w.heap.size 3 _ _ (0, 0) hg1
  have m4 := cell_of_row _ w.heap.size 4 _ _ (0, 0) hg1
  simp only [List.getElem?_toArray, List.getElem?_cons_zero, List.getElem?_cons_succ] at m1 m2 m3 m4
  clear hK hF hg hb0 hg1
  by_cases h0 : x.kind = 0
  · have g0 : (x.kind == 0) = true := by rw [h0]; rfl
    clear h0
    go_wp2_with fail
    refine (k1.out ⟨x.num, x.acct, x.sum⟩ _).mono ?_
    rintro e w2 ⟨rfl, hF⟩
    go_wp2
    go_ret
    exact ⟨rfl, below_on hb1 (Nat.le_refl _) hF⟩
  · have g0 : (x.kind == 0) = false := beq_eq_false_iff_ne.2 h0
    by_cases h1 : x.kind = 1
    · have g1 : (x.kind == 1) = true := by rw [h1]; rfl
      clear h0 h1
      go_wp2_with fail
      refine (k2.out x.acct x.peer x.num x.sum _).mono ?_
      rintro e w2 ⟨rfl, hF⟩
      go_wp2
      go_ret
      exact ⟨rfl, below_on hb1 (Nat.le_refl _) hF⟩
    · have g1 : (x.kind == 1) = false := beq_eq_false_iff_ne.2 h1
      have g2 : (x.kind == 2) = true := by rw [beq_iff_eq]; have := Hx.out; omega
      clear h0 h1
      go_wp2_with fail
      refine (k3.out x.acct x.num _).mono ?_
      rintro e w2 ⟨rfl, hF⟩
      go_wp2
      go_ret
      exact ⟨rfl, below_on hb1 (Nat.le_refl _) hF⟩
set_option maxRecDepth 100000 in
set_option maxHeartbeats 4000000 in
theorem does_nil1 (gh : Nat) (x : Op8) (w : World) (hx : 0 ≤ x.kind ∧ x.kind < 3) : Calls Tryz.prog 16 #[.pointer (some ⟨gh, 0, none⟩), .pointer none, x.v] w fun e w' => e = .returned (i64 1) ∧ Below w.heap.size w w' := by
  have hb0 := (Below.refl w.heap.size w).alloc (Nat.le_refl _) (.cells #[i64 x.kind, i64 x.num, .string x.acct, .string x.peer, i64 x.sum] 38)
  have hg := heap_alloc_new w (.cells #[i64 x.kind, i64 x.num, .string x.acct, .string x.peer, i64 x.sum] 38)
  have hK := Lib.hid fun W => kind_c x W
  have hu : umod x.kind 4 = x.kind := by unfold umod; omega
  rw [hu] at hK
  have k1 := Lib.hid fun (y : Held) W => put_nil1 gh y W
  have k2 := Lib.hid fun (k p : ByteArray) (n s : Int) W => take_nil1 gh k p n s W
  have k3 := Lib.hid fun (k : ByteArray) (n : Int) W => free_nil1 gh k n W
  have Hx := Lib.hid hx
  clear hu hx
  go_enter Tryz.func16, Tryz.ntmps16
  go_wp2_with fail
  generalize w.alloc (.cells #[i64 x.kind, i64 x.num, .string x.acct, .string x.peer, i64 x.sum] 38) = w0 at *
  refine (hK.out _).mono ?_
  rintro e w1 ⟨rfl, hF⟩
  have hg1 := (hF.block _ (Array.getElem?_eq_some_iff.1 hg).1).trans hg
  have hb1 := below_on hb0 (Nat.le_refl _) hF
  have m1 := cell_of_row _ w.heap.size 1 _ _ (0, 0) hg1
  have m2 := cell_of_row _ w.heap.size 2 _ _ (0, 0) hg1
  have m3 := cell_of_row _ w.heap.size 3 _ _ (0, 0) hg1
  have m4 := cell_of_row _ w.heap.size 4 _ _ (0, 0) hg1
  simp only [List.getElem?_toArray, List.getElem?_cons_zero, List.getElem?_cons_succ] at m1 m2 m3 m4
  clear hK hF hg hb0 hg1
  by_cases h0 : x.kind = 0
  · have g0 : (x.kind == 0) = true := by rw [h0]; rfl
    clear h0
    go_wp2_with fail
    refine (k1.out ⟨x.num, x.acct, x.sum⟩ _).mono ?_
    rintro e w2 ⟨rfl, hF⟩
    go_wp2
    go_ret
    exact ⟨rfl, below_on hb1 (Nat.le_refl _) hF⟩
  · have g0 : (x.kind == 0) = false := beq_eq_false_iff_ne.2 h0
    by_cases h1 : x.kind = 1
    · have g1 : (x.kind == 1) = true := by rw [h1]; rfl
      clear h0 h1
      go_wp2_with fail
      refine (k2.out x.acct x.peer x.num x.sum _).mono ?_
      rintro e w2 ⟨rfl, hF⟩
      go_wp2
      go_ret
      exact ⟨rfl, below_on hb1 (Nat.le_refl _) hF⟩
    · have g1 : (x.kind == 1) = false := beq_eq_false_iff_ne.2 h1
      have g2 : (x.kind == 2) = true := by rw [beq_iff_eq]; have := Hx.out; omega
      clear h0 h1
      go_wp2_with fail
      refine (k3.out x.acct x.num _).mono ?_
      rintro e w2 ⟨rfl, hF⟩
      go_wp2
      go_ret
      exact ⟨rfl, below_on hb1 (Nat.le_refl _) hF⟩
end Go.Proofs.YtmljlkjomjflpaaGreat

/- law08.does, early -/
namespace Go.Proofs.YtmljlkjomjflpaaGreat
open Go.RowKit
/-- countinghouselaw08.does -/
def stepH (L : List Ac) (H : List Held) (x : Op8) : Int × List Ac × List Held :=
  if umod x.kind 4 = 0 then putH L H ⟨x.num, x.acct, x.sum⟩ else if umod x.kind 4 = 1 then takeH L H x.acct x.num x.peer x.sum else if umod x.kind 4 = 2 then freeHL L H x.acct x.num
  else ((turnL (givD x.sum) L x.acct x.sum).1, (turnL (givD x.sum) L x.acct x.sum).2, H)
def GH (b bh : Nat) : Nat → Prop := fun k => k = b ∨ k = bh
theorem gh_trans {w w1 w2 : World} {b bh : Nat} (h : Below w.heap.size w w1) (k : Gr w1 w2 (GH b bh)) : Gr w w2 (GH b bh) := (Gr.of_below h (GH b bh)).trans k (fun _ e => .inl e)
set_option maxRecDepth 100000 in
set_option maxHeartbeats 4000000 in
theorem does_c (g b gh bh : Nat) (L : List Ac) (H : List Held) (x : Op8) (w : World) (hc : ChA w g b L) (hh : HoA w gh bh H) (hd : gh ≠ b ∧ bh ≠ b ∧ g ≠ bh) (hL : OkA L) (hH : OkH H) (hn : H.length ≤ 65536) (hok : x.acct.size ≤ maxLen ∧ x.peer.size ≤ maxLen ∧ R64 x.sum) :
    Calls Tryz.prog 16 #[.pointer (some ⟨gh, 0, none⟩), .pointer (some ⟨g, 0, none⟩), x.v] w fun e w' => e = .returned (i64 (stepH L H x).1) ∧ ChA w' g b (stepH L H x).2.1 ∧ HoA w' gh bh (stepH L H x).2.2 ∧ Gr w w' (GH b bh) := by
  have hb0 := (Below.refl w.heap.size w).alloc (Nat.le_refl _) (.cells #[i64 x.kind, i64 x.num, .string x.acct, .string x.peer, i64 x.sum] 38)
  have hg := heap_alloc_new w (.cells #[i64 x.kind, i64 x.num, .string x.acct, .string x.peer, i64 x.sum] 38)
  have hK := Lib.hid fun W => kind_c x W
  have hu : 0 ≤ umod x.kind 4 ∧ umod x.kind 4 < 4 := by unfold umod; omega
  have hc0 := hc.later hb0
  have hh0 := hh.later hb0
  have Hk := Lib.hid (⟨hd, hL, hH, hn, hok⟩ : (gh ≠ b ∧ bh ≠ b ∧ g ≠ bh) ∧ OkA L ∧ OkH H ∧ H.length ≤ 65536 ∧ (x.acct.size ≤ maxLen ∧ x.peer.size ≤ maxLen ∧ R64 x.sum))
  obtain ⟨R, hR⟩ : ∃ R, stepH L H x = R := ⟨_, rfl⟩
  rw [hR]
  unfold stepH at hR
  generalize umod x.kind 4 = u at *
  have HR := Lib.hid hR.symm
  clear hc hh hd hL hH hn hok hR
  go_enter Tryz.func16, Tryz.ntmps16
  go_wp2_with fail
  generalize w.alloc (.cells #[i64 x.kind, i64 x.num, .string x.acct, .string x.peer, i64 x.sum] 38) = w0 at *
  refine (hK.out _).mono ?_
  rintro e w1 ⟨rfl, hF⟩
  have hg1 := (hF.block _ (Array.getElem?_eq_some_iff.1 hg).1).trans hg
  have hb1 := below_on hb0 (Nat.le_refl _) hF
  have hc1 := hc0.later hF
  have hh1 := hh0.later hF
  have m1 := cell_of_row _ w.heap.size 1 _ _ (0, 0) hg1
  have m2 := cell_of_row _ w.heap.size 2 _ _ (0, 0) hg1
  have m3 := cell_of_row _ w.heap.size 3 _ _ (0, 0) hg1
  have m4 := cell_of_row _ w.heap.size 4 _ _ (0, 0) hg1
  simp only [List.getElem?_toArray, List.getElem?_cons_zero, List.getElem?_cons_succ] at m1 m2 m3 m4
  clear hK hF hg hb0 hg1 hc0 hh0
  by_cases h0 : u = 0
  · have g0 : (u == 0) = true := by rw [h0]; rfl
    have hP := Lib.hid (hoput_c g b gh bh L H ⟨x.num, x.acct, x.sum⟩ w1 hc1 hh1 Hk.out.1 Hk.out.2.1 Hk.out.2.2.1 Hk.out.2.2.2.2.2.2 Hk.out.2.2.2.1)
    have HR2 := Lib.hid (show R = putH L H ⟨x.num, x.acct, x.sum⟩ by rw [HR.out, if_pos h0])
    clear h0 hu HR hc1 hh1
    go_wp2_with fail
    refine hP.out.mono ?_
    rintro e w2 ⟨rfl, q1, q2, q3⟩
    clear hP
    go_wp2
    go_ret
    exact ⟨by rw [HR2.out]; rfl, by rw [HR2.out]; exact q1, by rw [HR2.out]; exact q2, gh_trans hb1 (Gr.of_g2 q3)⟩
  · have g0 : (u == 0) = false := beq_eq_false_iff_ne.2 h0
    by_cases h1 : u = 1
    · have g1 : (u == 1) = true := by rw [h1]; rfl
      have hP := Lib.hid (hotake_c g b gh bh L H x.acct x.num x.peer x.sum w1 hc1 hh1 Hk.out.1 Hk.out.2.1 Hk.out.2.2.1 Hk.out.2.2.2.2.2.2 Hk.out.2.2.2.2.1 Hk.out.2.2.2.2.2.1)
      have HR2 := Lib.hid (show R = takeH L H x.acct x.num x.peer x.sum by rw [HR.out, if_neg h0, if_pos h1])
      clear h0 h1 hu HR hc1 hh1
      go_wp2_with fail
      refine hP.out.mono ?_
      rintro e w2 ⟨rfl, q1, q2, q3⟩
      clear hP
      go_wp2
      go_ret
      exact ⟨by rw [HR2.out]; rfl, by rw [HR2.out]; exact q1, by rw [HR2.out]; exact q2, gh_trans hb1 (Gr.of_g2 q3)⟩
    · have g1 : (u == 1) = false := beq_eq_false_iff_ne.2 h1
      by_cases h2 : u = 2
      · have g2 : (u == 2) = true := by rw [h2]; rfl
        have hP := Lib.hid (hofreeA_c g b gh bh L H x.acct x.num w1 hc1 hh1 Hk.out.1 Hk.out.2.1 Hk.out.2.2.1)
        have HR2 := Lib.hid (show R = freeHL L H x.acct x.num by rw [HR.out, if_neg h0, if_neg h1, if_pos h2])
        clear h0 h1 h2 hu HR hc1 hh1
        go_wp2_with fail
        refine hP.out.mono ?_
        rintro e w2 ⟨rfl, q1, q2, q3⟩
        clear hP
        go_wp2
        go_ret
        exact ⟨by rw [HR2.out]; rfl, by rw [HR2.out]; exact q1, by rw [HR2.out]; exact q2, gh_trans hb1 (Gr.of_g2 q3)⟩
      · have g2 : (u == 2) = false := beq_eq_false_iff_ne.2 h2
        have hP := Lib.hid (giveA_c g b L x.acct x.sum w1 hc1 Hk.out.2.1 Hk.out.2.2.2.2.2.2)
        have HR2 := Lib.hid (show R = ((turnL (givD x.sum) L x.acct x.sum).1, (turnL (givD x.sum) L x.acct x.sum).2, H) by rw [HR.out, if_neg h0, if_neg h1, if_neg h2])
        clear h0 h1 h2 hu HR hc1
        go_wp2_with fail
        refine hP.out.mono ?_
        rintro e w2 ⟨rfl, q1, q3⟩
        have q2 := hh1.kept (Gr.of_grown q3) (fun e => Hk.out.1.1 (by injection e with e; exact e.symm)) (fun e => Hk.out.1.2.1 (by injection e with e; exact e.symm))
        clear hP hh1
        go_wp2
        go_ret
        exact ⟨by rw [HR2.out]; rfl, by rw [HR2.out]; exact q1, by rw [HR2.out]; exact q2, gh_trans hb1 ((Gr.of_grown q3).mono (fun k _ e => .inl (by injection e with e; exact e.symm)))⟩
set_option maxRecDepth 100000 in
set_option maxHeartbeats 2000000 in
theorem early_c (A : Option Addr) (c : Nat) (l : List Op8) (w : World) (h : Sl w w.heap.size A c l) :
    Calls Tryz.prog 15 #[.slice A l.length c] w fun e w' => ∃ n : Nat, e = .returned (.slice A (l.take n).length c) ∧ (l.take n).length ≤ 120 ∧ Below w.heap.size w w' := by
  have hlc : l.length ≤ c := h.1
  have hcm : c ≤ maxLen := h.2.1
  unfold maxLen at hcm
  obtain ⟨n, hn⟩ : ∃ n, min l.length 120 = n := ⟨_, rfl⟩
  have hm : min (l.length : Int) 120 = (n : Int) := by omega
  have hl : (l.take n).length = n := by rw [List.length_take]; omega
  have g1 : (0 : Int) ≤ (n : Int) := by omega
  have g2 : (n : Int) ≤ (c : Int) := by omega
  have Hn := Lib.hid (show n ≤ 120 by omega)
  have HL := Lib.hid hl
  clear h hn hl
  go_enter Tryz.func15, Tryz.ntmps15
  go_wp2
  go_ret
  refine ⟨n, ?_, by rw [HL.out]; exact Hn.out, Below.refl _ _⟩
  rw [HL.out]
  rfl
end Go.Proofs.YtmljlkjomjflpaaGreat

/- chart: what a turn may be -/
namespace Go.Proofs.YtmljlkjomjflpaaGreat
open Go.RowKit
theorem sumR_0 {n : Int} (h : (sumR n).2 = 0) : (sumR n).1 = n := by
  unfold sumR at *
  split at h
  · cases h
  · rw [if_neg (by assumption)]
theorem turnL_cases (D : Ac → Ac × Int) (L : List Ac) (k : ByteArray) (x : Int) : ((turnL D L k x).1 ≠ 0 ∧ (turnL D L k x).2 = L) ∨ ((turnL D L k x).1 = 0 ∧ ∃ a, getK Ac.name L k = some a ∧ (D a).2 = 0 ∧ 0 ≤ (D a).1.set_ ∧ (0 < x → freeA a x = true) ∧ (turnL D L k x).2 = setK Ac.name L (D a).1) := by
  unfold turnL
  cases hg : getK Ac.name L k with
  | none => exact .inl ⟨by show (6 : Int) ≠ 0; decide, rfl⟩
  | some a =>
    dsimp only
    by_cases h1 : (D a).2 ≠ 0
    · rw [if_pos h1]; exact .inl ⟨h1, rfl⟩
    · rw [if_neg h1]
      by_cases h2 : 0 < x ∧ freeA a x = false
      · rw [if_pos h2]; exact .inl ⟨by show (9 : Int) ≠ 0; decide, rfl⟩
      · rw [if_neg h2]
        by_cases h3 : (D a).1.set_ < 0
        · rw [if_pos h3]; exact .inl ⟨by show (13 : Int) ≠ 0; decide, rfl⟩
        · rw [if_neg h3]
          exact .inr ⟨rfl, a, rfl, by simpa using h1, by omega, fun h => by
            cases hf : freeA a x with
            | true => rfl
            | false => exact absurd ⟨h, hf⟩ h2, rfl⟩
end Go.Proofs.YtmljlkjomjflpaaGreat
