/- HoldNumbers: the walk -/
import Derived.Test.YthmgchohbdlonaaRows
import Derived.Test.YthmgchohbdlonaaHnil
import Derived.Test.YthmgchohbdlonaaRegL
import Derived.WalkKit
import Derived.WalkSpells
import Derived.WalkLawsBesides
import Derived.Deep.QuietTactic
import Derived.BigQuiet
import Derived.Laws.StructEq
import Derived.Deep.DeepFit
import Derived.StillTailTactics
namespace Go.Proofs.Ythmgchohbdlonaa
open Go.RowKit
theorem sumR_sm {n : Int} (h : -1000000 ≤ n ∧ n ≤ 1000000) : sumR n = (n, 0) := by
  unfold sumR overB
  rw [decide_eq_true (show -9223372036854775808 ≤ n by omega), decide_eq_true (show n ≤ 9223372036854775807 by omega)]
  rfl
/-- numbers that are small -/
def Sm (a : Ac) : Prop := (-10000 ≤ a.hav ∧ a.hav ≤ 10000) ∧ (0 ≤ a.set_ ∧ a.set_ ≤ 10000) ∧ (0 ≤ a.lim ∧ a.lim ≤ 10000)
theorem free_sm {a : Ac} (h : Sm a) {x : Int} (hx : -10000 ≤ x ∧ x ≤ 10000) (hf : x ≤ a.hav - a.set_ + a.lim) : freeA a x = true := by
  obtain ⟨h1, h2, h3⟩ := h
  unfold freeA
  rw [sumR_sm (n := a.hav - a.set_) (by omega)]
  dsimp only
  rw [sumR_sm (by omega)]
  simp
  omega
theorem turn_aside {L : List Ac} {k : ByteArray} {a : Ac} (hg : getK Ac.name L k = some a) (h : Sm a) {x : Int} (hx : -10000 ≤ x ∧ x ≤ 10000) (hf : 0 < x → x ≤ a.hav - a.set_ + a.lim) (h0 : 0 ≤ a.set_ + x) : turnL (asiD x) L k x = (0, setK Ac.name L { a with set_ := a.set_ + x }) := by
  obtain ⟨h1, h2, h3⟩ := h
  have hd : asiD x a = ({ a with set_ := a.set_ + x }, 0) := by unfold asiD; rw [sumR_sm (by omega)]
  unfold turnL
  rw [hg]
  dsimp only
  rw [hd, if_neg (by simp), if_neg (fun hh => by rw [free_sm ⟨h1, h2, h3⟩ hx (hf hh.1)] at hh; cases hh.2), if_neg (by show ¬ a.set_ + x < 0; omega)]
theorem turn_give {L : List Ac} {k : ByteArray} {a : Ac} (hg : getK Ac.name L k = some a) (h : Sm a) {x : Int} (hx : -10000 ≤ x ∧ x ≤ 10000) (hf : 0 < x → x ≤ a.hav - a.set_ + a.lim) : turnL (givD x) L k x = (0, setK Ac.name L { a with hav := a.hav - x }) := by
  obtain ⟨h1, h2, h3⟩ := h
  have hd : givD x a = ({ a with hav := a.hav - x }, 0) := by unfold givD; rw [sumR_sm (by omega)]
  unfold turnL
  rw [hg]
  dsimp only
  rw [hd, if_neg (by simp), if_neg (fun hh => by rw [free_sm ⟨h1, h2, h3⟩ hx (hf hh.1)] at hh; cases hh.2), if_neg (by show ¬ a.set_ < 0; omega)]
theorem neBA : sB ≠ sA := by decide
theorem neCA : sC ≠ sA := by decide
theorem neCB : sC ≠ sB := by decide
theorem get3 (x y z : Ac) (hx : x.name = sA) (hy : y.name = sB) (hz : z.name = sC) : getK Ac.name [x, y, z] sA = some x ∧ getK Ac.name [x, y, z] sB = some y ∧ getK Ac.name [x, y, z] sC = some z := by
  unfold getK
  simp [hx, hy, hz, neAB, neAC, neBC]
theorem set3 (x y z a : Ac) (hx : x.name = sA) (hy : y.name = sB) (hz : z.name = sC) : (a.name = sA → setK Ac.name [x, y, z] a = [a, y, z]) ∧ (a.name = sB → setK Ac.name [x, y, z] a = [x, a, z]) ∧ (a.name = sC → setK Ac.name [x, y, z] a = [x, y, a]) := by
  unfold setK
  refine ⟨fun h => ?_, fun h => ?_, fun h => ?_⟩ <;> simp [hx, hy, hz, h, neAB, neAC, neBC, neBA, neCA, neCB]
theorem sm_mk {k : ByteArray} {x y z : Int} (h : (-10000 ≤ x ∧ x ≤ 10000) ∧ (0 ≤ y ∧ y ≤ 10000) ∧ (0 ≤ z ∧ z ≤ 10000)) : Sm ⟨k, x, y, z⟩ := h
theorem ok3 {x1 y1 z1 x2 y2 z2 x3 y3 z3 : Int} (h1 : (-1000 ≤ x1 ∧ x1 ≤ 1000) ∧ (0 ≤ y1 ∧ y1 ≤ 1000) ∧ (0 ≤ z1 ∧ z1 ≤ 1000)) (h2 : (-1000 ≤ x2 ∧ x2 ≤ 1000) ∧ (0 ≤ y2 ∧ y2 ≤ 1000) ∧ (0 ≤ z2 ∧ z2 ≤ 1000)) (h3 : (-1000 ≤ x3 ∧ x3 ≤ 1000) ∧ (0 ≤ y3 ∧ y3 ≤ 1000) ∧ (0 ≤ z3 ∧ z3 ≤ 1000)) : OkA [⟨sA, x1, y1, z1⟩, ⟨sB, x2, y2, z2⟩, ⟨sC, x3, y3, z3⟩] := ok_of fun x hx => by
  simp only [List.mem_cons, List.not_mem_nil, or_false] at hx
  rcases hx with rfl | rfl | rfl
  · exact ⟨h1.1, h1.2.1, h1.2.2, nameA⟩
  · exact ⟨h2.1, h2.2.1, h2.2.2, nameBb⟩
  · exact ⟨h3.1, h3.2.1, h3.2.2, nameC⟩
section
variable {n a b : Int}
abbrev LX (a b : Int) : List Ac := [⟨sA, 30, a, 0⟩, ⟨sB, 10, b, 5⟩, ⟨sC, 0, 0, 10⟩]
abbrev LY (a b : Int) : List Ac := [⟨sA, 30 - a, 0, 0⟩, ⟨sB, 10, b, 5⟩, ⟨sC, a, 0, 10⟩]
theorem pn1 (hn : 1 ≤ n ∧ n ≤ 9999) (ha : 1 ≤ a ∧ a ≤ 30) (hb : 1 ≤ b ∧ b ≤ 10) : putH L0 [] ⟨n, sA, a⟩ = (0, LX a 0, [⟨n, sA, a⟩]) := by
  have ht : turnL (asiD a) L0 sA a = (0, LX a 0) := by
    unfold L0
    rw [turn_aside (get3 _ _ _ rfl rfl rfl).1 (sm_mk (by omega)) (by omega) (by intro _; show a ≤ 30 - 0 + 0; omega) (by show 0 ≤ 0 + a; omega), (set3 _ _ _ _ rfl rfl rfl).1 rfl]
    simp
  unfold putH
  rw [if_neg (by simp only; omega), if_neg (by simp [getK]), if_neg (by simp [ofL])]
  simp only [ht]
  rfl
theorem lt_hab (hn : 1 ≤ n ∧ n ≤ 9999) (ha : 1 ≤ a ∧ a ≤ 30) (hb : 1 ≤ b ∧ b ≤ 10) : ltH ⟨n, sA, a⟩ ⟨n, sB, b⟩ = true := by unfold ltH; rw [ltAB]; rfl
theorem pn2 (hn : 1 ≤ n ∧ n ≤ 9999) (ha : 1 ≤ a ∧ a ≤ 30) (hb : 1 ≤ b ∧ b ≤ 10) : putH (LX a 0) [⟨n, sA, a⟩] ⟨n, sB, b⟩ = (0, LX a b, [⟨n, sA, a⟩, ⟨n, sB, b⟩]) := by
  have ht : turnL (asiD b) (LX a 0) sB b = (0, LX a b) := by
    rw [turn_aside (get3 _ _ _ rfl rfl rfl).2.1 (sm_mk (by omega)) (by omega) (by intro _; show b ≤ 10 - 0 + 5; omega) (by show 0 ≤ 0 + b; omega), (set3 _ _ _ _ rfl rfl rfl).2.1 rfl]
    simp
  unfold putH
  rw [if_neg (by simp only; omega), if_neg (by simp [getK, Held.key, neAB]), if_neg (by simp [ofL, neAB])]
  simp only [ht, if_true, insB, lt_hab hn ha hb]
theorem pn3 (hn : 1 ≤ n ∧ n ≤ 9999) (ha : 1 ≤ a ∧ a ≤ 30) (hb : 1 ≤ b ∧ b ≤ 10) : putH (LX a b) [⟨n, sA, a⟩, ⟨n, sB, b⟩] ⟨n, sA, 1⟩ = (7, LX a b, [⟨n, sA, a⟩, ⟨n, sB, b⟩]) := by
  unfold putH
  rw [if_neg (by simp only; omega), if_pos (by simp [getK, Held.key])]
theorem fr1 (hn : 1 ≤ n ∧ n ≤ 9999) (ha : 1 ≤ a ∧ a ≤ 30) (hb : 1 ≤ b ∧ b ≤ 10) : freeHL (LX a b) [⟨n, sA, a⟩, ⟨n, sB, b⟩] sA n = (0, LX 0 b, [⟨n, sB, b⟩]) := by
  have ht : turnL (asiD (-a)) (LX a b) sA (-a) = (0, LX 0 b) := by
    rw [turn_aside (get3 _ _ _ rfl rfl rfl).1 (sm_mk (by omega)) (by omega) (by intro h; omega) (by show 0 ≤ a + -a; omega), (set3 _ _ _ _ rfl rfl rfl).1 rfl]
    simp [Int.add_right_neg]
  unfold freeHL
  rw [show getK Held.key [⟨n, sA, a⟩, ⟨n, sB, b⟩] ⟨sA, n⟩ = some ⟨n, sA, a⟩ by simp [getK, Held.key]]
  simp only [ht, if_true]
  simp [delK, Held.key, neBA]
theorem fr2 (hn : 1 ≤ n ∧ n ≤ 9999) (ha : 1 ≤ a ∧ a ≤ 30) (hb : 1 ≤ b ∧ b ≤ 10) : freeHL (LY a b) [⟨n, sB, b⟩] sA n = (6, LY a b, [⟨n, sB, b⟩]) := by
  unfold freeHL
  rw [show getK Held.key [⟨n, sB, b⟩] ⟨sA, n⟩ = none by simp [getK, Held.key, neBA]]
theorem fr3 (hn : 1 ≤ n ∧ n ≤ 9999) (ha : 1 ≤ a ∧ a ≤ 30) (hb : 1 ≤ b ∧ b ≤ 10) : freeHL (LY a b) [⟨n, sB, b⟩] sB n = (0, LY a 0, []) := by
  have ht : turnL (asiD (-b)) (LY a b) sB (-b) = (0, LY a 0) := by
    rw [turn_aside (get3 _ _ _ rfl rfl rfl).2.1 (sm_mk (by omega)) (by omega) (by intro h; omega) (by show 0 ≤ b + -b; omega), (set3 _ _ _ _ rfl rfl rfl).2.1 rfl]
    simp [Int.add_right_neg]
  unfold freeHL
  rw [show getK Held.key [⟨n, sB, b⟩] ⟨sB, n⟩ = some ⟨n, sB, b⟩ by simp [getK, Held.key]]
  simp only [ht, if_true]
  simp [delK, Held.key]
theorem lg2 (hn : 1 ≤ n ∧ n ≤ 9999) (ha : 1 ≤ a ∧ a ≤ 30) (hb : 1 ≤ b ∧ b ≤ 10) : legsB (legs2 sA sC a) = true := by
  unfold legsB legs2
  simp only [List.all_cons, List.all_nil, legB, nameA, nameC]
  rw [decide_eq_true (show ([⟨sA, -a⟩, ⟨sC, a⟩] : List Leg).map Leg.acct |>.Nodup by simp [neAC]), decide_eq_true (show -a ≠ 0 by omega), decide_eq_true (show a ≠ 0 by omega)]
  rfl
theorem we2 (hn : 1 ≤ n ∧ n ≤ 9999) (ha : 1 ≤ a ∧ a ≤ 30) (hb : 1 ≤ b ∧ b ≤ 10) : weighB (legs2 sA sC a) = true := by
  unfold weighB legs2
  rw [show sumL (([⟨sA, -a⟩, ⟨sC, a⟩] : List Leg).map Leg.sum) = 0 by simp only [List.map_cons, List.map_nil, sumL]; omega]
  rfl
theorem al2 (hn : 1 ≤ n ∧ n ≤ 9999) (ha : 1 ≤ a ∧ a ≤ 30) (hb : 1 ≤ b ∧ b ≤ 10) : allL (LX 0 b) (legs2 sA sC a) = (0, LY a b) := by
  have h1 : postL (LX 0 b) ⟨sA, -a⟩ = (0, [⟨sA, 30 - a, 0, 0⟩, ⟨sB, 10, b, 5⟩, ⟨sC, 0, 0, 10⟩]) := by
    unfold postL getLR
    rw [(get3 _ _ _ rfl rfl rfl).1]
    dsimp only
    rw [if_neg (by simp), sumR_sm (by omega), if_neg (by simp), show (0 - -a : Int) = a by omega, turn_give (get3 _ _ _ rfl rfl rfl).1 (sm_mk (by omega)) (by omega) (by intro _; show a ≤ 30 - 0 + 0; omega), (set3 _ _ _ _ rfl rfl rfl).1 rfl]
  have h2 : postL [⟨sA, 30 - a, 0, 0⟩, ⟨sB, 10, b, 5⟩, ⟨sC, 0, 0, 10⟩] ⟨sC, a⟩ = (0, LY a b) := by
    unfold postL getLR
    rw [(get3 _ _ _ rfl rfl rfl).2.2]
    dsimp only
    rw [if_neg (by simp), sumR_sm (by omega), if_neg (by simp), turn_give (get3 _ _ _ rfl rfl rfl).2.2 (sm_mk (by omega)) (by omega) (by intro h; omega), (set3 _ _ _ _ rfl rfl rfl).2.2 rfl]
    simp

  unfold legs2 allL
  rw [h1, if_neg (by simp)]
  unfold allL
  rw [h2, if_neg (by simp)]
  rfl
theorem tk1 (hn : 1 ≤ n ∧ n ≤ 9999) (ha : 1 ≤ a ∧ a ≤ 30) (hb : 1 ≤ b ∧ b ≤ 10) : takeH (LX a b) [⟨n, sA, a⟩, ⟨n, sB, b⟩] sA n sC a = (0, LY a b, [⟨n, sB, b⟩]) := by
  have hc : checkL (LX 0 b) (legs2 sA sC a) = 0 := by
    unfold checkL
    rw [if_neg (by rw [lg2 hn ha hb]; decide), if_neg (by rw [we2 hn ha hb]; decide), al2 hn ha hb]
  have hm : makeL (LX 0 b) (legs2 sA sC a) = (0, LY a b) := by
    unfold makeL
    rw [if_neg (by rw [hc]; decide), al2 hn ha hb]
  have ht : turnL (asiD (-a)) (LX a b) sA (-a) = (0, LX 0 b) := by
    rw [turn_aside (get3 _ _ _ rfl rfl rfl).1 (sm_mk (by omega)) (by omega) (by intro h; omega) (by show 0 ≤ a + -a; omega), (set3 _ _ _ _ rfl rfl rfl).1 rfl]
    simp [Int.add_right_neg]
  unfold takeH
  rw [show getK Held.key [⟨n, sA, a⟩, ⟨n, sB, b⟩] ⟨sA, n⟩ = some ⟨n, sA, a⟩ by simp [getK, Held.key]]
  dsimp only
  rw [if_neg (by omega), ht, if_neg (by simp), hc, if_neg (by simp), fr1 hn ha hb, hm]
theorem ok_LX (hn : 1 ≤ n ∧ n ≤ 9999) (ha : 1 ≤ a ∧ a ≤ 30) (hb : 1 ≤ b ∧ b ≤ 10) : OkA (LX a b) := ok3 (by omega) (by omega) (by omega)
theorem ok_LX0 (hn : 1 ≤ n ∧ n ≤ 9999) (ha : 1 ≤ a ∧ a ≤ 30) (hb : 1 ≤ b ∧ b ≤ 10) : OkA (LX a 0) := ok3 (by omega) (by omega) (by omega)
theorem ok_LY (hn : 1 ≤ n ∧ n ≤ 9999) (ha : 1 ≤ a ∧ a ≤ 30) (hb : 1 ≤ b ∧ b ≤ 10) : OkA (LY a b) := ok3 (by omega) (by omega) (by omega)
theorem okH_a (hn : 1 ≤ n ∧ n ≤ 9999) (ha : 1 ≤ a ∧ a ≤ 30) (hb : 1 ≤ b ∧ b ≤ 10) : OkH [⟨n, sA, a⟩] := okH_one ⟨hn.1, hn.2, ha.1, by show a ≤ 9223372036854775807; omega, sz_s _⟩
theorem okH_b (hn : 1 ≤ n ∧ n ≤ 9999) (ha : 1 ≤ a ∧ a ≤ 30) (hb : 1 ≤ b ∧ b ≤ 10) : OkH [⟨n, sB, b⟩] := okH_one ⟨hn.1, hn.2, hb.1, by show b ≤ 9223372036854775807; omega, sz_s _⟩
theorem okH_ab (hn : 1 ≤ n ∧ n ≤ 9999) (ha : 1 ≤ a ∧ a ≤ 30) (hb : 1 ≤ b ∧ b ≤ 10) : OkH [⟨n, sA, a⟩, ⟨n, sB, b⟩] := fun x hx => by
  simp only [List.mem_cons, List.not_mem_nil, or_false] at hx
  rcases hx with rfl | rfl
  · exact okH_a hn ha hb _ (by simp)
  · exact okH_b hn ha hb _ (by simp)
end
end Go.Proofs.Ythmgchohbdlonaa
