/- ClashRest -/
import Derived.Test.YtcpjopmgiogfkaaRows
import Derived.Test.YtcpjopmgiogfkaaLives
import Derived.Test.YtcpjopmgiogfkaaFew10
import Derived.Test.YtcpjopmgiogfkaaLaw10
import Derived.Test.YtcpjopmgiogfkaaSameL
import Derived.Test.YtcpjopmgiogfkaaOthers
import Derived.WalkKit
import Derived.WalkSpells
import Derived.WalkLawsBesides
import Derived.Deep.QuietTactic
import Derived.BigQuiet
import Derived.Laws.StructEq
import Derived.Deep.DeepFit
import Derived.StillTailTactics
namespace Go.Proofs.Ytcpjopmgiogfkaa
open Go.RowKit
set_option maxRecDepth 100000 in
set_option maxHeartbeats 4000000 in
theorem claRest_c (A B : Option Addr) (c d : Nat) (a b : List Od) (w : World) (ha : Sl w w.heap.size A c a) (hb : Sl w w.heap.size B d b) :
    Calls Try.prog 4 #[.slice A a.length c, .slice B b.length d] w fun e w' => e = .returned (.bool true) ∧ Below w.heap.size w w' := by
  go_enter Try.func4, Try.ntmps4
  go_wp2_with fail
  refine (lives_10 _).mono ?_
  rintro e w1 ⟨rfl, hB⟩
  have ha := ha.later hB
  have hb := hb.later hB
  go_wp2_with fail
  refine (few_10 A c 25 a _ ha (by decide)).mono ?_
  rintro e wfFL ⟨v, rfl, hO, hF⟩
  have hB := below_on hB (by omega) hF
  have hb := hb.later hF
  have nFL := fewL_le 25 a
  have lFL : fewLegs (fewL 25 a) := fun x hx => Nat.le_trans (fewL_legs 25 a x hx) (by decide)
  clear hF
  generalize fewL 25 a = FL at hO nFL lFL
  obtain ⟨AFL, cFL, rfl, hFL⟩ := hO.sl
  clear hO
  go_wp2_with fail
  refine (own_10 AFL cFL FL _ hFL (Nat.le_trans nFL (by decide))).mono ?_
  rintro e woL ⟨v, rfl, hO, hF⟩
  have hB := below_on hB (by omega) hF
  have hb := hb.later hF
  have vL := val_own FL
  have nL : (ownL FL).length ≤ 25 := Nat.le_trans (ownK_len FL FL.length) nFL
  have lL : fewLegs (ownL FL) := fun x hx => lFL x (ownK_sub FL _ x hx)
  clear hF hFL
  generalize ownL FL = L at hO vL nL lL
  obtain ⟨AL, cL, rfl, hL⟩ := hO.sl
  clear hO lFL nFL
  have VL := Lib.hid vL
  clear vL
  go_wp2_with fail
  refine (few_10 B d 25 b _ hb (by decide)).mono ?_
  rintro e wfFM ⟨v, rfl, hO, hF⟩
  have hB := below_on hB (by omega) hF
  have hL := hL.later hF
  have nFM := fewL_le 25 b
  have lFM : fewLegs (fewL 25 b) := fun x hx => Nat.le_trans (fewL_legs 25 b x hx) (by decide)
  clear hF
  generalize fewL 25 b = FM at hO nFM lFM
  obtain ⟨AFM, cFM, rfl, hFM⟩ := hO.sl
  clear hO
  go_wp2_with fail
  refine (own_10 AFM cFM FM _ hFM (Nat.le_trans nFM (by decide))).mono ?_
  rintro e woM ⟨v, rfl, hO, hF⟩
  have hB := below_on hB (by omega) hF
  have hL := hL.later hF
  have vM := val_own FM
  have nM : (ownL FM).length ≤ 25 := Nat.le_trans (ownK_len FM FM.length) nFM
  have lM : fewLegs (ownL FM) := fun x hx => lFM x (ownK_sub FM _ x hx)
  clear hF hFM
  generalize ownL FM = M at hO vM nM lM
  obtain ⟨AM, cM, rfl, hM⟩ := hO.sl
  clear hO lFM nFM
  have VM := Lib.hid vM
  clear vM
  go_wp2_with fail
  refine (rest_c AL AM cL cM L M _ hL hM (by omega) (by omega) lL lM).mono ?_
  rintro e wr ⟨v, rfl, hO, hF⟩
  have hB := below_on hB (by omega) hF
  have hL := hL.later hF
  have hM := hM.later hF
  have HR := Lib.hid (show beginsB L M = false → restL L M = [] from fun h => by rw [restL, if_neg (by simp [h])])
  have HR2 := Lib.hid (show beginsB L M = true → L.length + (restL L M).length = M.length from rest_len)
  have HR3 := Lib.hid (show ∀ x ∈ restL L M, atIdx L x.id < 0 ∧ 0 ≤ atIdx M x.id from fun x hx => rest_at hx)
  generalize restL L M = r at hO HR HR2 HR3
  obtain ⟨AR, cR, rfl, hR⟩ := hO.sl
  clear hO hF
  go_wp2_with fail
  refine (begins_c AL AM cL cM L M _ hL hM (by omega) (by omega) lL lM).mono ?_
  rintro e wb ⟨rfl, hF⟩
  have hB := below_on hB (by omega) hF
  have hL := hL.later hF
  have hM := hM.later hF
  have hR := hR.later hF
  clear hF
  by_cases hbg : beginsB L M = true
  · rw [hbg]
    have hlen := HR2.out hbg
    clear hbg HR HR2
    go_wp2_with fail
    go_loopw [6] (fun i W => ∃ k : Nat, i = i64 k ∧ k ≤ r.length ∧ Below wb.heap.size wb W) (fun i _ => r.length - (intOf i).toNat)
    case atStart => exact ⟨0, rfl, by omega, Below.refl _ _⟩
    case round =>
      obtain ⟨k, rfl, hk, hW⟩ := hrel
      by_cases hlt : k < r.length
      · obtain ⟨b1, o1, rfl, -, -, c0, c1, -⟩ := (hR.later hW).od hlt
        obtain ⟨z1, z2⟩ := HR3.out r[k] (List.getElem_mem hlt)
        have HW := Lib.hid hW
        have hL1 := hL.later hW
        have hM1 := hM.later hW
        clear hW
        have x1 : ∀ W : World, Sl W W.heap.size AL cL L → Calls Try.prog 15 #[.slice AL L.length cL, .agg #[i64 r[k].client, i64 r[k].seq]] W fun e w' => e = .returned (i64 (atIdx L r[k].id)) ∧ Below W.heap.size W w' := fun W h => at_any AL cL L r[k].id W h (by omega)
        have x2 : ∀ W : World, Sl W W.heap.size AM cM M → Calls Try.prog 15 #[.slice AM M.length cM, .agg #[i64 r[k].client, i64 r[k].seq]] W fun e w' => e = .returned (i64 (atIdx M r[k].id)) ∧ Below W.heap.size W w' := fun W h => at_any AM cM M r[k].id W h (by omega)
        generalize atIdx L r[k].id = p1 at x1 z1
        generalize atIdx M r[k].id = p2 at x2 z2
        have g1 : decide ((0 : Int) ≤ p1) = false := decide_eq_false (by omega)
        have g2 : decide (p2 < 0) = false := decide_eq_false (by omega)
        go_wp2_with fail
        with_reducible refine (x1 _ hL1).mono ?_
        rintro e w5 ⟨rfl, hF⟩
        have hM2 := hM1.later hF
        have hW5 := below_on HW.out (Nat.le_refl _) hF
        have d0 := (hF.cell (p := ⟨b1, o1 + k * 10, none⟩) (World.block_lt_of_cell? _ _ c0)).trans c0
        have d1 := (hF.cell (p := ⟨b1, o1 + k * 10 + 1, none⟩) (World.block_lt_of_cell? _ _ c1)).trans c1
        clear c0 c1 hF hL1 hM1 x1
        go_wp2_with fail
        with_reducible refine (x2 _ hM2).mono ?_
        rintro e w6 ⟨rfl, hF⟩
        have hW6 := below_on hW5 (Nat.le_refl _) hF
        clear d0 d1 hF hM2 x2 hW5
        go_wp2
        go_roundw
        case rel => exact ⟨k + 1, by go_num, by omega, hW6⟩
        case measure => simp [intOf]; omega
      · obtain rfl : k = r.length := by omega
        have hB1 := below_on hB (by omega) hW
        have hM1 := hM.later hW
        have f1 := rest_nil VM.out
        have f2 := sameL_self M
        have f3 := rest_self M
        have f4 := begins_nil VM.out
        have f5 := begins_self VM.out
        have y1 : ∀ W : World, Sl W W.heap.size AM cM M → Calls Try.prog 13 #[.slice none 0 0, .slice AM M.length cM] W fun e w' => ∃ v, e = .returned v ∧ Own w' W.heap.size 26 v M ∧ Below W.heap.size W w' := fun W h => by
          have := rest_c none AM 0 cM [] M W (SlS.nil_ _ _) h (by simp) (by omega) (fun _ h => absurd h (by simp)) lM
          rw [f1] at this
          exact this
        have y2 : ∀ (W : World) A c, Sl W W.heap.size A c M → Sl W W.heap.size AM cM M → Calls Try.prog 16 #[.slice A M.length c, .slice AM M.length cM] W fun e w' => e = .returned (.bool true) ∧ Below W.heap.size W w' := fun W A c h k => by
          have := sameL_c A AM c cM M M W h k (by omega) (by omega) (fun x hx => Nat.le_trans (lM x hx) (by decide)) (fun x hx => Nat.le_trans (lM x hx) (by decide))
          rw [f2] at this
          exact this
        have y3 : ∀ W : World, Sl W W.heap.size AM cM M → Calls Try.prog 13 #[.slice AM M.length cM, .slice AM M.length cM] W fun e w' => ∃ v, e = .returned v ∧ Own w' W.heap.size 26 v ([] : List Od) ∧ Below W.heap.size W w' := fun W h => by
          have := rest_c AM AM cM cM M M W h h (by omega) (by omega) lM lM
          rw [f3] at this
          exact this
        have y4 : ∀ W : World, Sl W W.heap.size AM cM M → Calls Try.prog 14 #[.slice none 0 0, .slice AM M.length cM] W fun e w' => e = .returned (.bool true) ∧ Below W.heap.size W w' := fun W h => by
          have := begins_c none AM 0 cM [] M W (SlS.nil_ _ _) h (by simp) (by omega) (fun _ h => absurd h (by simp)) lM
          rw [f4] at this
          exact this
        have y5 : ∀ W : World, Sl W W.heap.size AM cM M → Calls Try.prog 14 #[.slice AM M.length cM, .slice AM M.length cM] W fun e w' => e = .returned (.bool true) ∧ Below W.heap.size W w' := fun W h => by
          have := begins_c AM AM cM cM M M W h h (by omega) (by omega) lM lM
          rw [f5] at this
          exact this
        have g1 : (((L.length : Int) + (r.length : Int)) == (M.length : Int)) = true := by rw [beq_iff_eq]; omega
        clear f1 f2 f3 f4 f5 hL hM hR hW hB HR3 VM VL lL lM
        go_wp2_with fail
        with_reducible refine (y1 _ hM1).mono ?_
        rintro e w5 ⟨v, rfl, hO, hF⟩
        have hM2 := hM1.later hF
        have hB2 := below_on hB1 (by omega) hF
        obtain ⟨A5, c5, rfl, h5⟩ := hO.sl
        clear hF hO hM1 hB1 y1
        go_wp2_with fail
        with_reducible refine (y2 _ _ _ h5 hM2).mono ?_
        rintro e w6 ⟨rfl, hF⟩
        have hM3 := hM2.later hF
        have hB3 := below_on hB2 (by omega) hF
        clear hF h5 hM2 hB2 y2
        go_wp2_with fail
        with_reducible refine (y3 _ hM3).mono ?_
        rintro e w7 ⟨v, rfl, hO, hF⟩
        have hM4 := hM3.later hF
        have hB4 := below_on hB3 (by omega) hF
        obtain ⟨A7, c7, rfl, -⟩ : ∃ A c, v = .slice A 0 c ∧ Sl w7 w7.heap.size A c ([] : List Od) := hO.sl
        clear hF hO hM3 hB3 y3
        go_wp2_with fail
        with_reducible refine (y4 _ hM4).mono ?_
        rintro e w8 ⟨rfl, hF⟩
        have hM5 := hM4.later hF
        have hB5 := below_on hB4 (by omega) hF
        clear hF hM4 hB4 y4
        go_wp2_with fail
        with_reducible refine (y5 _ hM5).mono ?_
        rintro e w9 ⟨rfl, hF⟩
        have hB6 := below_on hB5 (by omega) hF
        clear hF hM5 hB5 y5
        go_wp2
        go_ret
        exact ⟨rfl, hB6⟩
  · have hbg : beginsB L M = false := by simpa using hbg
    rw [hbg]
    have hr := HR.out hbg
    clear HR HR2 HR3 hbg
    subst hr
    go_wp2
    go_ret
    exact ⟨rfl, hB⟩
end Go.Proofs.Ytcpjopmgiogfkaa
