/- ClashMeets -/
import Derived.Test.YtcpjopmgiogfkaaRows
import Derived.Test.YtcpjopmgiogfkaaLives
import Derived.Test.YtcpjopmgiogfkaaFew10
import Derived.Test.YtcpjopmgiogfkaaLaw10
import Derived.Test.YtcpjopmgiogfkaaSameL
import Derived.Test.YtcpjopmgiogfkaaOthers
import Derived.WalkKit
import Derived.WalkSpells
import Derived.WalkLawsBesides
import Derived.Deep.QuietTactic
import Derived.BigQuiet
import Derived.Laws.StructEq
import Derived.Deep.DeepFit
import Derived.StillTailTactics
namespace Go.Proofs.Ytcpjopmgiogfkaa
open Go.RowKit
set_option maxRecDepth 100000 in
set_option maxHeartbeats 4000000 in
theorem claMeets_c (A B : Option Addr) (c d : Nat) (a b : List Od) (at_ : Int) (w : World) (ha : Sl w w.heap.size A c a) (hb : Sl w w.heap.size B d b) (_ : (Lit.int .i64 at_).wf = true) :
    Calls Try.prog 5 #[.slice A a.length c, .slice B b.length d, .int .i64 at_] w fun e w' => e = .returned (.bool true) ∧ Below w.heap.size w w' := by
  go_enter Try.func5, Try.ntmps5
  go_wp2_with fail
  refine (lives_10 _).mono ?_
  rintro e w1 ⟨rfl, hB⟩
  have ha := ha.later hB
  have hb := hb.later hB
  go_wp2_with fail
  refine (few_10 A c 25 a _ ha (by decide)).mono ?_
  rintro e wfFL ⟨v, rfl, hO, hF⟩
  have hB := below_on hB (by omega) hF
  have hb := hb.later hF
  have nFL := fewL_le 25 a
  have lFL : fewLegs (fewL 25 a) := fun x hx => Nat.le_trans (fewL_legs 25 a x hx) (by decide)
  clear hF
  generalize fewL 25 a = FL at hO nFL lFL
  obtain ⟨AFL, cFL, rfl, hFL⟩ := hO.sl
  clear hO
  go_wp2_with fail
  refine (own_10 AFL cFL FL _ hFL (Nat.le_trans nFL (by decide))).mono ?_
  rintro e woL ⟨v, rfl, hO, hF⟩
  have hB := below_on hB (by omega) hF
  have hb := hb.later hF
  have vL := val_own FL
  have nL : (ownL FL).length ≤ 25 := Nat.le_trans (ownK_len FL FL.length) nFL
  have lL : fewLegs (ownL FL) := fun x hx => lFL x (ownK_sub FL _ x hx)
  clear hF hFL
  generalize ownL FL = L at hO vL nL lL
  obtain ⟨AL, cL, rfl, hL⟩ := hO.sl
  clear hO lFL nFL
  have VL := Lib.hid vL
  clear vL
  go_wp2_with fail
  refine (few_10 B d 25 b _ hb (by decide)).mono ?_
  rintro e wfFM ⟨v, rfl, hO, hF⟩
  have hB := below_on hB (by omega) hF
  have hL := hL.later hF
  have nFM := fewL_le 25 b
  have lFM : fewLegs (fewL 25 b) := fun x hx => Nat.le_trans (fewL_legs 25 b x hx) (by decide)
  clear hF
  generalize fewL 25 b = FM at hO nFM lFM
  obtain ⟨AFM, cFM, rfl, hFM⟩ := hO.sl
  clear hO
  go_wp2_with fail
  refine (own_10 AFM cFM FM _ hFM (Nat.le_trans nFM (by decide))).mono ?_
  rintro e woM ⟨v, rfl, hO, hF⟩
  have hB := below_on hB (by omega) hF
  have hL := hL.later hF
  have vM := val_own FM
  have nM : (ownL FM).length ≤ 25 := Nat.le_trans (ownK_len FM FM.length) nFM
  have lM : fewLegs (ownL FM) := fun x hx => lFM x (ownK_sub FM _ x hx)
  clear hF hFM
  generalize ownL FM = M at hO vM nM lM
  obtain ⟨AM, cM, rfl, hM⟩ := hO.sl
  clear hO lFM nFM
  have VM := Lib.hid vM
  clear vM
  obtain ⟨heq, hal⟩ := law_meet VL.out VM.out
  have fR := meetR_few lL lM
  have fS := meetR_few lM lL
  have nR := meetR_len L M
  have nS := meetR_len M L
  have y1 : ∀ W : World, Sl W W.heap.size AL cL L → Sl W W.heap.size AM cM M → Calls Try.prog 17 #[.slice AL L.length cL, .slice AM M.length cM] W fun e w' => ∃ v, e = .returned (.tuple #[v, .bool (meetOk L M)]) ∧ Own w' W.heap.size 26 v (meetR L M) ∧ Below W.heap.size W w' := fun W h k => meet_c AL AM cL cM L M W h k (by omega) (by omega) lL lM
  have y2 : ∀ W : World, Sl W W.heap.size AL cL L → Sl W W.heap.size AM cM M → Calls Try.prog 17 #[.slice AM M.length cM, .slice AL L.length cL] W fun e w' => ∃ v, e = .returned (.tuple #[v, .bool (meetOk L M)]) ∧ Own w' W.heap.size 26 v (meetR M L) ∧ Below W.heap.size W w' := fun W h k => by
    have := meet_c AM AL cM cL M L W k h (by omega) (by omega) lM lL
    rw [← heq] at this
    exact this
  clear heq
  generalize meetR L M = R at hal fR nR y1
  generalize meetR M L = S at hal fS nS y2
  generalize meetOk L M = ok at hal y1 y2
  have Hal := Lib.hid hal
  clear hal VM
  go_wp2_with fail
  with_reducible refine (y1 _ hL hM).mono ?_
  rintro e w5 ⟨v, rfl, hO, hF⟩
  have hB := below_on hB (by omega) hF
  have hL := hL.later hF
  have hM := hM.later hF
  obtain ⟨AR, cR, rfl, hR⟩ := hO.sl
  clear hO hF y1
  go_wp2_with fail
  with_reducible refine (y2 _ hL hM).mono ?_
  rintro e w6 ⟨v, rfl, hO, hF⟩
  have hB := below_on hB (by omega) hF
  have hL := hL.later hF
  have hR := hR.later hF
  obtain ⟨AS, cS, rfl, hS⟩ := hO.sl
  clear hO hF y2 hM lM
  obtain ⟨k, hk, hkl⟩ := place_mod at_ L.length (by omega)
  obtain ⟨t1, t2, t3, t4⟩ := law_meet_take VL.out k
  have z1 : ∀ W : World, Sl W W.heap.size AL cL L → Calls Try.prog 17 #[.slice AL L.length cL, .slice AL k cL] W fun e w' => ∃ v, e = .returned (.tuple #[v, .bool true]) ∧ Own w' W.heap.size 26 v L ∧ Below W.heap.size W w' := fun W h => by
    have := meet_c AL AL cL cL L (L.take k) W h (h.take k) (by omega) (by simp only [List.length_take]; omega) lL (fun x hx => lL x (List.mem_of_mem_take hx))
    rw [t1, t2, List.length_take, Nat.min_eq_left hkl] at this
    exact this
  have z2 : ∀ W : World, Sl W W.heap.size AL cL L → Calls Try.prog 17 #[.slice AL k cL, .slice AL L.length cL] W fun e w' => ∃ v, e = .returned (.tuple #[v, .bool true]) ∧ Own w' W.heap.size 26 v (meetR (L.take k) L) ∧ Below W.heap.size W w' := fun W h => by
    have := meet_c AL AL cL cL (L.take k) L W (h.take k) h (by simp only [List.length_take]; omega) (by omega) (fun x hx => lL x (List.mem_of_mem_take hx)) lL
    rw [t3, List.length_take, Nat.min_eq_left hkl] at this
    exact this
  have fY := meetR_few (a := L.take k) (fun x hx => lL x (List.mem_of_mem_take hx)) lL
  have nY := meetR_len (L.take k) L
  rw [List.length_take, Nat.min_eq_left hkl] at nY
  generalize meetR (L.take k) L = Y at z2 t4 fY nY
  have z3 : ∀ (W : World) A c, Sl W W.heap.size A c L → Sl W W.heap.size AL cL L → Calls Try.prog 16 #[.slice A L.length c, .slice AL L.length cL] W fun e w' => e = .returned (.bool true) ∧ Below W.heap.size W w' := fun W A c h k => by
    have := sameL_c A AL c cL L L W h k (by omega) (by omega) (fun x hx => Nat.le_trans (lL x hx) (by decide)) (fun x hx => Nat.le_trans (lL x hx) (by decide))
    rw [sameL_self] at this
    exact this
  have z4 : ∀ (W : World) A c, Sl W W.heap.size A c Y → Sl W W.heap.size AL cL L → Calls Try.prog 18 #[.slice A Y.length c, .slice AL L.length cL] W fun e w' => e = .returned (.bool true) ∧ Below W.heap.size W w' := fun W A c h k => by
    have := alike_c A AL c cL Y L W h k (by omega) (by omega) fY lL
    rw [t4] at this
    exact this
  have Hk := Lib.hid hk
  have hki : (k : Int) ≤ (L.length : Int) := by omega
  have hki0 : (0 : Int) ≤ (k : Int) := by omega
  have hcap : L.length ≤ cL := hL.1
  have hki1 : (k : Int) ≤ (cL : Int) := by omega
  clear t1 t2 t3 t4 fY VL lL hk
  cases ok
  · clear Hal hR hS fR fS
    go_upto_region 9 with (fail)
    simp only [Hk.out]
    clear Hk
    go_wp2_with fail
    with_reducible refine (z1 _ hL).mono ?_
    rintro e w8 ⟨v, rfl, hO, hF⟩
    have hB := below_on hB (by omega) hF
    have hL := hL.later hF
    obtain ⟨AX, cX, rfl, hX⟩ := hO.sl
    clear hO hF z1
    go_wp2_with fail
    with_reducible refine (z2 _ hL).mono ?_
    rintro e w9 ⟨v, rfl, hO, hF⟩
    have hB := below_on hB (by omega) hF
    have hL := hL.later hF
    have hX := hX.later hF
    obtain ⟨AY, cY, rfl, hY⟩ := hO.sl
    clear hO hF z2
    go_wp2_with fail
    with_reducible refine (z3 _ _ _ hX hL).mono ?_
    rintro e w10 ⟨rfl, hF⟩
    have hB := below_on hB (by omega) hF
    have hL := hL.later hF
    have hY := hY.later hF
    clear hF z3 hX
    go_wp2_with fail
    with_reducible refine (z4 _ _ _ hY hL).mono ?_
    rintro e w11 ⟨rfl, hF⟩
    have hB := below_on hB (by omega) hF
    clear hF z4 hL hY
    go_wp2
    go_ret
    exact ⟨rfl, hB⟩
  · have hal := Hal.out rfl
    have y3 : ∀ W : World, Sl W W.heap.size AR cR R → Sl W W.heap.size AS cS S → Calls Try.prog 18 #[.slice AR R.length cR, .slice AS S.length cS] W fun e w' => e = .returned (.bool true) ∧ Below W.heap.size W w' := fun W h k => by
      have := alike_c AR AS cR cS R S W h k (by omega) (by omega) fR fS
      rw [hal] at this
      exact this
    clear Hal hal fR fS
    go_wp2_with fail
    with_reducible refine (y3 _ hR hS).mono ?_
    rintro e w7 ⟨rfl, hF⟩
    have hB := below_on hB (by omega) hF
    have hL := hL.later hF
    clear hF hR hS y3
    go_upto_region 9 with (fail)
    simp only [Hk.out]
    clear Hk
    go_wp2_with fail
    with_reducible refine (z1 _ hL).mono ?_
    rintro e w8 ⟨v, rfl, hO, hF⟩
    have hB := below_on hB (by omega) hF
    have hL := hL.later hF
    obtain ⟨AX, cX, rfl, hX⟩ := hO.sl
    clear hO hF z1
    go_wp2_with fail
    with_reducible refine (z2 _ hL).mono ?_
    rintro e w9 ⟨v, rfl, hO, hF⟩
    have hB := below_on hB (by omega) hF
    have hL := hL.later hF
    have hX := hX.later hF
    obtain ⟨AY, cY, rfl, hY⟩ := hO.sl
    clear hO hF z2
    go_wp2_with fail
    with_reducible refine (z3 _ _ _ hX hL).mono ?_
    rintro e w10 ⟨rfl, hF⟩
    have hB := below_on hB (by omega) hF
    have hL := hL.later hF
    have hY := hY.later hF
    clear hF z3 hX
    go_wp2_with fail
    with_reducible refine (z4 _ _ _ hY hL).mono ?_
    rintro e w11 ⟨rfl, hF⟩
    have hB := below_on hB (by omega) hF
    clear hF z4 hL hY
    go_wp2
    go_ret
    exact ⟨rfl, hB⟩
end Go.Proofs.Ytcpjopmgiogfkaa
