/- law08.lives -/
import Derived.Test.YthmgchohbdlonaaGreatRows
import Derived.Test.YthmgchohbdlonaaGreatHbegin
import Derived.Test.YthmgchohbdlonaaGreatHoTake
import Derived.Laws.StructEq
import Derived.WalkKit
import Derived.WalkSpells
import Derived.WalkLawsBesides
import Derived.Deep.QuietTactic
import Derived.BigQuiet
import Derived.Laws.StructEq
import Derived.Deep.DeepFit
import Derived.StillTailTactics
namespace Go.Proofs.YthmgchohbdlonaaGreat
open Go.RowKit
def LP : List Ac := [⟨sA, 30, 20, 0⟩, ⟨sB, 10, 0, 5⟩, ⟨sC, 0, 0, 10⟩]
def LT : List Ac := [⟨sA, 26, 0, 0⟩, ⟨sB, 10, 0, 5⟩, ⟨sC, 4, 0, 10⟩]
theorem ok_LP : OkA LP := ok_of fun x hx => by
  simp only [LP, List.mem_cons, List.not_mem_nil, or_false] at hx
  rcases hx with rfl | rfl | rfl
  · exact ⟨⟨by decide, by decide⟩, ⟨by decide, by decide⟩, ⟨by decide, by decide⟩, nameA⟩
  · exact ⟨⟨by decide, by decide⟩, ⟨by decide, by decide⟩, ⟨by decide, by decide⟩, nameBb⟩
  · exact ⟨⟨by decide, by decide⟩, ⟨by decide, by decide⟩, ⟨by decide, by decide⟩, nameC⟩
theorem pu1 : putH L0 [] ⟨1, sA, 20⟩ = (0, LP, [⟨1, sA, 20⟩]) := by rfl
theorem pu2 : putH LP [⟨1, sA, 20⟩] ⟨2, sA, 11⟩ = (9, LP, [⟨1, sA, 20⟩]) := by rfl
theorem lgB : legsB (legs2 sA sC 4) = true := by
  unfold legsB legs2
  simp only [List.all_cons, List.all_nil, legB, nameA, nameC]
  rfl
theorem mk1 : makeL [⟨sA, 30, 0, 0⟩, ⟨sB, 10, 0, 5⟩, ⟨sC, 0, 0, 10⟩] (legs2 sA sC 4) = (0, LT) := by
  unfold makeL
  have h : checkL [⟨sA, 30, 0, 0⟩, ⟨sB, 10, 0, 5⟩, ⟨sC, 0, 0, 10⟩] (legs2 sA sC 4) = 0 := by
    unfold checkL
    rw [if_neg (by rw [lgB]; decide)]
    rfl
  rw [if_neg (by rw [h]; decide)]
  rfl
theorem ta1 : takeH LP [⟨1, sA, 20⟩] sA 1 sC 4 = (0, LT, []) := by
  unfold takeH
  have h0 : getK Held.key [⟨1, sA, 20⟩] ⟨sA, 1⟩ = some ⟨1, sA, 20⟩ := by rfl
  rw [h0]
  dsimp only
  have h1 : turnL (asiD (-20)) LP sA (-20) = (0, [⟨sA, 30, 0, 0⟩, ⟨sB, 10, 0, 5⟩, ⟨sC, 0, 0, 10⟩]) := by rfl
  have h2 : freeHL LP [⟨1, sA, 20⟩] sA 1 = (0, [⟨sA, 30, 0, 0⟩, ⟨sB, 10, 0, 5⟩, ⟨sC, 0, 0, 10⟩], []) := by rfl
  have h3 : checkL [⟨sA, 30, 0, 0⟩, ⟨sB, 10, 0, 5⟩, ⟨sC, 0, 0, 10⟩] (legs2 sA sC 4) = 0 := by
    unfold checkL
    rw [if_neg (by rw [lgB]; decide)]
    rfl
  rw [if_neg (by decide), h1, if_neg (by decide), h3, if_neg (by decide), h2, mk1]
theorem eq_ac (a b : Ac) (w : World) : (binOp .eql 52 (.agg #[.string a.name, i64 a.hav, i64 a.set_, i64 a.lim]) (.agg #[.string b.name, i64 b.hav, i64 b.set_, i64 b.lim])).run Tryz.prog w = .ok (.bool (decide (a = b))) w := by
  have u3 := Tryz.underlying2
  have a3 := Tryz.isAgg2
  have z3 := Tryz.sizeOf2
  have u9 := Tryz.underlying9
  have a9 := Tryz.isAgg9
  have z9 := Tryz.sizeOf9
  have hS : Tryz.prog.underlying 52 = some (.struct (Tryz.prog.fieldsOf 52)) := by kernel_rfl
  have hp : Tryz.prog.stoodInHeld 52 = false := by kernel_rfl
  rw [run_eql_struct, show (10000 : Nat) = 9999 + 1 from rfl, run_equalIn_agg w 9999 52 _ _ hS hp]
  simp only [Program.fieldsOf, Tryz.underlying52]
  go_simp
  by_cases h1 : a.name = b.name
  · have t1 := beqS_of_eq h1
    by_cases h2 : a.hav = b.hav
    · by_cases h3 : a.set_ = b.set_
      · by_cases h4 : a.lim = b.lim
        · rw [decide_eq_true (Ac.ext_ h1 h2 h3 h4)]; simp [h1, h2, h3, h4]
        · rw [decide_eq_false (fun e => h4 (by rw [e]))]; simp [h1, h2, h3, h4]
      · rw [decide_eq_false (fun e => h3 (by rw [e]))]; simp [h1, h2, h3]
    · rw [decide_eq_false (fun e => h2 (by rw [e]))]; simp [h1, h2]
  · have t1 := beqS_of_ne h1
    have t2 : ¬ a.name.toList = b.name.toList := by simpa using t1
    rw [decide_eq_false (fun e => h1 (by rw [e]))]; simp [t2]
theorem okH_one {x : Held} (h : 1 ≤ x.num ∧ x.num ≤ 9999 ∧ 1 ≤ x.sum ∧ x.sum ≤ 9223372036854775807 ∧ x.acct.size ≤ maxLen) : OkH [x] := fun y hy => by
  simp only [List.mem_singleton] at hy
  subst hy
  exact h
theorem okH_nil : OkH [] := fun y hy => by simp at hy
set_option maxRecDepth 100000 in
set_option maxHeartbeats 8000000 in
theorem lives8_c (w : World) : Calls Tryz.prog 6 #[] w fun e w' => e = .returned (.bool true) ∧ Below w.heap.size w w' := by
  have hb := Lib.hid (begin_c w)
  go_enter Tryz.func6, Tryz.ntmps6
  go_wp2_with fail
  refine hb.out.mono ?_
  rintro e w1 ⟨g, b, r, rfl, hB⟩
  have hH := Lib.hid (honewA_c w1)
  have HB := Lib.hid hB
  have hltc := hB.ch.lt
  have hb1 := hB.be
  have hge := hB.ge
  clear hb hB
  go_wp2_with fail
  refine hH.out.mono ?_
  rintro e w2 ⟨rfl, hh, hF⟩
  have hb2 := below_on hb1 (Nat.le_refl _) hF
  have hc2 := HB.out.ch.later hF
  have hsz := hb1.size
  have hd : (w1.heap.size + 1 ≠ b ∧ w1.heap.size ≠ b ∧ g ≠ w1.heap.size) := by omega
  have Hd := Lib.hid hd
  have hP := Lib.hid (hoput_c g b (w1.heap.size + 1) w1.heap.size L0 [] ⟨1, sA, 20⟩ w2 hc2 hh hd ok_L0 okH_nil (r64_small ⟨by decide, by decide⟩) (by decide))
  rw [pu1] at hP
  clear hH HB hh hF hc2 hd hb1
  go_wp2_with fail
  refine hP.out.mono ?_
  rintro e w3 ⟨rfl, hc3, hh3, hg3⟩
  have hb3 := hb2.trans ((Gr.of_g2 hg3).below hb2.size (fun k hk => by rcases hk with rfl | rfl <;> omega))
  have hP := Lib.hid (hoput_c g b (w1.heap.size + 1) w1.heap.size LP [⟨1, sA, 20⟩] ⟨2, sA, 11⟩ w3 hc3 hh3 Hd.out ok_LP (okH_one ⟨by decide, by decide, by decide, by decide, sz_s _⟩) (r64_small ⟨by decide, by decide⟩) (by decide))
  rw [pu2] at hP
  clear hc3 hh3 hg3 hb2
  go_wp2_with fail
  refine hP.out.mono ?_
  rintro e w4 ⟨rfl, hc4, hh4, hg4⟩
  have hb4 := hb3.trans ((Gr.of_g2 hg4).below hb3.size (fun k hk => by rcases hk with rfl | rfl <;> omega))
  have hT := Lib.hid (hotake_c g b (w1.heap.size + 1) w1.heap.size LP [⟨1, sA, 20⟩] sA 1 sC 4 w4 hc4 hh4 Hd.out ok_LP (okH_one ⟨by decide, by decide, by decide, by decide, sz_s _⟩) (r64_small ⟨by decide, by decide⟩) (sz_s _) (sz_s _))
  rw [ta1] at hT
  clear hP hc4 hh4 hg4 hb3
  go_wp2_with fail
  refine hT.out.mono ?_
  rintro e w5 ⟨rfl, hc5, hh5, hg5⟩
  have hb5 := hb4.trans ((Gr.of_g2 hg5).below hb4.size (fun k hk => by rcases hk with rfl | rfl <;> omega))
  have hG := Lib.hid (getA_c g b LT sA w5 hc5)
  rw [show getLR LT sA = (⟨sA, 26, 0, 0⟩, 0) by rfl] at hG
  clear hT hc5 hg5 hb4
  go_wp2_with fail
  refine hG.out.mono ?_
  rintro e w6 ⟨rfl, hF⟩
  have hb6 := below_on hb5 (Nat.le_refl _) hF
  have hh6 := hh5.later hF
  have hb7 := hb6.alloc hb6.size (.cells #[.string sA, i64 26, i64 0, i64 0] 52)
  have hA := Lib.hid (hoall_c (w1.heap.size + 1) w1.heap.size [] _ (hh6.later ((Below.refl _ _).alloc (Nat.le_refl _) (.cells #[.string sA, i64 26, i64 0, i64 0] 52))) okH_nil (by decide))
  have heq : ∀ W : World, (binOp .eql 52 (.agg #[.string sA, i64 26, i64 0, i64 0]) (.agg #[.string sA, i64 26, i64 0, i64 0])).run Tryz.prog W = .ok (.bool true) W := fun W => eq_ac ⟨sA, 26, 0, 0⟩ ⟨sA, 26, 0, 0⟩ W
  clear hG hF hh5 hh6 hb5 hb6 hltc hge
  go_wp2_with fail
  refine hA.out.mono ?_
  rintro e w7 ⟨v, rfl, hO, hF⟩
  obtain ⟨A, c, rfl, -⟩ := hO.sl
  have hb8 := below_on hb7 (Nat.le_refl _) hF
  clear hO hF hA hb7
  go_wp2
  go_ret
  exact ⟨rfl, hb8⟩
end Go.Proofs.YthmgchohbdlonaaGreat
