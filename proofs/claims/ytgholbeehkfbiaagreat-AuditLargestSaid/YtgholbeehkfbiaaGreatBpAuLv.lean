/- law22.lives -/
import Derived.Test.YtgholbeehkfbiaaGreatRows
import Derived.Test.YtgholbeehkfbiaaGreatBpAuL
import Derived.Test.YtgholbeehkfbiaaGreatBpAuE2
import Derived.Test.YtgholbeehkfbiaaGreatBpFew22
import Derived.Test.YtgholbeehkfbiaaGreatBm18
import Derived.WalkKit
import Derived.WalkSpells
import Derived.WalkLawsBesides
import Derived.Deep.QuietTactic
import Derived.BigQuiet
import Derived.Laws.StructEq
import Derived.Deep.DeepFit
import Derived.StillTailTactics
namespace Go.Proofs.YtgholbeehkfbiaaGreat
open Go.RowKit
abbrev tB : ByteArray := ⟨#[98]⟩
abbrev tX : ByteArray := ⟨#[120]⟩
def od3 (la : Option Addr) (lc : Nat) : Od := ⟨0, 3, 2, ⟨#[]⟩, ⟨#[]⟩, 0, la, lc, [⟨tA, -5⟩, ⟨tB, 5⟩], 1, 0, tX⟩
def twoL (la : Option Addr) (lc : Nat) : List Od := [⟨0, 1, 1, tA, ⟨#[]⟩, 9, none, 0, [], 0, 0, ⟨#[]⟩⟩, ⟨0, 2, 1, tB, ⟨#[]⟩, 0, none, 0, [], 0, 0, ⟨#[]⟩⟩, od3 la lc]
theorem two_told (la : Option Addr) (lc : Nat) : toldL bk0 (twoL la lc) = [⟨0, 0, 0, 0⟩, ⟨0, 0, 0, 0⟩, ⟨0, 0, 0, 0⟩] := by kernel_rfl
theorem two_moved (la : Option Addr) (lc : Nat) : movedL (twoL la lc) = [od3 la lc] := by
  unfold movedL toldZ
  rw [two_told]
  rfl
theorem two_trial (la : Option Addr) (lc : Nat) : trialL (legsR [od3 la lc] 0 1) = ([⟨tA, 0, 5⟩, ⟨tB, 5, 0⟩], 0) := by kernel_rfl
theorem two_betw (la : Option Addr) (lc : Nat) : betwL (legsR [od3 la lc] 0 9) tA = (-5, 0) := by kernel_rfl
theorem two_errs : errsL [⟨0, 0, 0, 0⟩, ⟨0, 0, 0, 0⟩, ⟨0, 0, 0, 0⟩] = [3, 0, 0, 0, 0, 0, 0, 0, 0, 0, 0, 0, 0, 0, 0] := by kernel_rfl
theorem two_notes (la : Option Addr) (lc : Nat) : (([od3 la lc].filter fun x => decide (x.note = tX)).map Od.id) = [⟨0, 3⟩] := by kernel_rfl
theorem tA_sz : tA.size ≤ maxLen := by show 1 ≤ maxLen; decide
theorem tB_sz : tB.size ≤ maxLen := by show 1 ≤ maxLen; decide
theorem tX_sz : tX.size ≤ maxLen := by show 1 ≤ maxLen; decide
theorem two_odB (la : Option Addr) (lc : Nat) : ∀ x ∈ twoL la lc, OdB x := fun x hx => by
  have r : ∀ n : Int, -100 ≤ n ∧ n ≤ 100 → R64 n := fun n h => by unfold R64; omega
  simp only [twoL, List.mem_cons, List.not_mem_nil, or_false] at hx
  rcases hx with rfl | rfl | rfl
  · exact ⟨tA_sz, Nat.zero_le _, r _ (by decide), r _ (by decide), r _ (by decide), r _ (by decide), r _ (by decide), r _ (by decide), fun _ h => by cases h⟩
  · exact ⟨tB_sz, Nat.zero_le _, r _ (by decide), r _ (by decide), r _ (by decide), r _ (by decide), r _ (by decide), r _ (by decide), fun _ h => by cases h⟩
  · refine ⟨Nat.zero_le _, Nat.zero_le _, r 0 (by decide), r 3 (by decide), r 2 (by decide), r 0 (by decide), r 1 (by decide), r 0 (by decide), fun y hy => ?_⟩
    simp only [od3, List.mem_cons, List.not_mem_nil, or_false] at hy
    rcases hy with rfl | rfl
    · exact r _ (by decide)
    · exact r _ (by decide)
theorem two_legs (la : Option Addr) (lc : Nat) : ∀ x ∈ twoL la lc, x.legs.length ≤ 65536 := fun x hx => by
  simp only [twoL, List.mem_cons, List.not_mem_nil, or_false] at hx
  rcases hx with rfl | rfl | rfl
  · exact Nat.zero_le _
  · exact Nat.zero_le _
  · show 2 ≤ 65536; decide
theorem two_larg (la : Option Addr) (lc : Nat) : ((([od3 la lc].map coreM).take (max (5 : Int) 0).toNat).map (·.1)) = [⟨0, 3⟩] := by kernel_rfl
set_option maxRecDepth 100000 in
set_option maxHeartbeats 4000000 in
theorem two_c (w : World) : Calls Tryz.prog 85 #[] w fun e w' => ∃ A c la lc, e = .returned (.slice A 3 c) ∧ Sl w' w'.heap.size A c (twoL la lc) ∧ Below w.heap.size w w' := by
  have hO1 := own_lit (w := w) (base := w.heap.size) 173 #[.string tA, i64 (-5), .string tB, i64 5] [(⟨tA, -5⟩ : Leg), ⟨tB, 5⟩] (Nat.le_refl _) rfl (by decide) (fun x hx => by
    rcases List.mem_cons.1 hx with rfl | hx
    · exact tA_sz
    · rw [List.mem_singleton.1 hx]; exact tB_sz)
  have hb1 := (Below.refl w.heap.size w).alloc (Nat.le_refl _) (.cells #[.string tA, i64 (-5), .string tB, i64 5] 173)
  have hb2 := hb1.alloc hb1.size (.cells #[i64 0, i64 1, i64 1, .string tA, .string ⟨#[]⟩, i64 9, .slice none 0 0, i64 0, i64 0, .string ⟨#[]⟩, i64 0, i64 2, i64 1, .string tB, .string ⟨#[]⟩, i64 0, .slice none 0 0, i64 0, i64 0, .string ⟨#[]⟩, i64 0, i64 3, i64 2, .string ⟨#[]⟩, .string ⟨#[]⟩, i64 0, .slice (some ⟨w.heap.size, 0, none⟩) 2 2, i64 1, i64 0, .string tX] 37)
  obtain ⟨A1, c1, hv1, hs1⟩ := hO1.sl
  injection hv1 with e1 e2 e3
  subst e1
  have hO2 := own_lit (w := (w.alloc (.cells #[.string tA, i64 (-5), .string tB, i64 5] 173))) (base := (w.alloc (.cells #[.string tA, i64 (-5), .string tB, i64 5] 173)).heap.size) 37 #[i64 0, i64 1, i64 1, .string tA, .string ⟨#[]⟩, i64 9, .slice none 0 0, i64 0, i64 0, .string ⟨#[]⟩, i64 0, i64 2, i64 1, .string tB, .string ⟨#[]⟩, i64 0, .slice none 0 0, i64 0, i64 0, .string ⟨#[]⟩, i64 0, i64 3, i64 2, .string ⟨#[]⟩, .string ⟨#[]⟩, i64 0, .slice (some ⟨w.heap.size, 0, none⟩) 2 2, i64 1, i64 0, .string tX] (twoL (some ⟨w.heap.size, 0, none⟩) 2) (Nat.le_refl _) rfl (by show 3 ≤ 65536; decide) (fun x hx => by
    simp only [twoL, List.mem_cons, List.not_mem_nil, or_false] at hx
    rcases hx with rfl | rfl | rfl
    · exact (⟨tA_sz, Nat.zero_le _, Nat.zero_le _, SlS.nil_ _ _⟩ : Od.Ok _ _ ⟨0, 1, 1, tA, ⟨#[]⟩, 9, none, 0, [], 0, 0, ⟨#[]⟩⟩)
    · exact (⟨tB_sz, Nat.zero_le _, Nat.zero_le _, SlS.nil_ _ _⟩ : Od.Ok _ _ ⟨0, 2, 1, tB, ⟨#[]⟩, 0, none, 0, [], 0, 0, ⟨#[]⟩⟩)
    · exact (⟨Nat.zero_le _, Nat.zero_le _, tX_sz, by rw [← e3] at hs1; exact hs1⟩ : Od.Ok _ _ (od3 (some ⟨w.heap.size, 0, none⟩) 2)))
  obtain ⟨A2, c2, hv2, hs2⟩ := hO2.sl
  have hz : (w.alloc (.cells #[.string tA, i64 (-5), .string tB, i64 5] 173)).heap.size = w.heap.size + 1 := by simp
  have HS := Lib.hid hs2
  have Hv := Lib.hid hv2
  rw [hz] at Hv
  have Hb2 := Lib.hid hb2
  clear hO1 hb1 hb2 hs1 hO2 hs2 hv2 e2 e3 hz
  go_enter Tryz.func85, Tryz.ntmps85
  go_wp2
  go_ret
  exact ⟨A2, c2, _, _, congrArg Ending.returned (show _ = _ from Hv.out), HS.out, Hb2.out⟩
theorem Ln.ext_ {a b : Ln} (h1 : a.acct = b.acct) (h2 : a.inn = b.inn) (h3 : a.out = b.out) : a = b := by cases a; cases b; simp_all
set_option maxRecDepth 100000 in
set_option maxHeartbeats 4000000 in
theorem eq_ln (a b : Ln) (w : World) : (binOp .eql 104 (.agg #[.string a.acct, i64 a.inn, i64 a.out]) (.agg #[.string b.acct, i64 b.inn, i64 b.out])).run Tryz.prog w = .ok (.bool (decide (a = b))) w := by
  have u3 := Tryz.underlying2
  have a3 := Tryz.isAgg2
  have z3 := Tryz.sizeOf2
  have u9 := Tryz.underlying9
  have a9 := Tryz.isAgg9
  have z9 := Tryz.sizeOf9
  have hS : Tryz.prog.underlying 104 = some (.struct (Tryz.prog.fieldsOf 104)) := by kernel_rfl
  have hp : Tryz.prog.stoodInHeld 104 = false := by kernel_rfl
  rw [run_eql_struct, show (10000 : Nat) = 9999 + 1 from rfl, run_equalIn_agg w 9999 104 _ _ hS hp]
  simp only [Program.fieldsOf, Tryz.underlying104]
  go_simp
  by_cases h1 : a.acct = b.acct
  · have t1 := beqS_of_eq h1
    by_cases h2 : a.inn = b.inn
    · by_cases h3 : a.out = b.out
      · rw [decide_eq_true (Ln.ext_ h1 h2 h3)]; simp [h1, h2, h3]
      · rw [decide_eq_false (fun e => h3 (by rw [e]))]; simp [h1, h2, h3]
    · rw [decide_eq_false (fun e => h2 (by rw [e]))]; simp [h1, h2]
  · have t1 := beqS_of_ne h1
    have t2 : ¬ a.acct.toList = b.acct.toList := by simpa using t1
    rw [decide_eq_false (fun e => h1 (by rw [e]))]; simp [t2]
set_option maxRecDepth 100000 in
set_option maxHeartbeats 4000000 in
theorem neq_ln (a b : Ln) (w : World) : (binOp .neq 104 (.agg #[.string a.acct, i64 a.inn, i64 a.out]) (.agg #[.string b.acct, i64 b.inn, i64 b.out])).run Tryz.prog w = .ok (.bool (!decide (a = b))) w := by
  have u3 := Tryz.underlying2
  have a3 := Tryz.isAgg2
  have z3 := Tryz.sizeOf2
  have u9 := Tryz.underlying9
  have a9 := Tryz.isAgg9
  have z9 := Tryz.sizeOf9
  have hS : Tryz.prog.underlying 104 = some (.struct (Tryz.prog.fieldsOf 104)) := by kernel_rfl
  have hp : Tryz.prog.stoodInHeld 104 = false := by kernel_rfl
  rw [run_neq_struct, show (10000 : Nat) = 9999 + 1 from rfl, run_equalIn_agg w 9999 104 _ _ hS hp]
  simp only [Program.fieldsOf, Tryz.underlying104]
  go_simp
  by_cases h1 : a.acct = b.acct
  · have t1 := beqS_of_eq h1
    by_cases h2 : a.inn = b.inn
    · by_cases h3 : a.out = b.out
      · rw [decide_eq_true (Ln.ext_ h1 h2 h3)]; simp [h1, h2, h3]
      · rw [decide_eq_false (fun e => h3 (by rw [e]))]; simp [h1, h2, h3]
    · rw [decide_eq_false (fun e => h2 (by rw [e]))]; simp [h1, h2]
  · have t1 := beqS_of_ne h1
    have t2 : ¬ a.acct.toList = b.acct.toList := by simpa using t1
    rw [decide_eq_false (fun e => h1 (by rw [e]))]; simp [t2]
set_option maxRecDepth 100000 in
set_option maxHeartbeats 1000000 in
theorem index_errs (W : World) : (Instr.index 82 (.agg #[i64 3, i64 0, i64 0, i64 0, i64 0, i64 0, i64 0, i64 0, i64 0, i64 0, i64 0, i64 0, i64 0, i64 0, i64 0]) (.int .i64 0)).run Tryz.prog W = .ok (i64 3) W := by
  have u := Tryz.underlying82
  have z := Tryz.sizeOf3
  have q := Tryz.isAgg3
  unfold Instr.index
  go_simp
set_option maxRecDepth 100000 in
set_option maxHeartbeats 16000000 in
theorem lives_22 (w : World) : Calls Tryz.prog 41 #[] w fun e w' => e = .returned (.bool true) ∧ Below w.heap.size w w' := by
  have H2 := Lib.hid fun W => two_c W
  have e1 := fun W => eq_ln ⟨tA, 0, 5⟩ ⟨tA, 0, 5⟩ W
  have e2 := fun W => eq_ln ⟨tB, 5, 0⟩ ⟨tB, 5, 0⟩ W
  rw [decide_eq_true rfl] at e1 e2
  have hix := fun W => index_errs W
  go_enter Tryz.func41, Tryz.ntmps41
  go_wp2_with fail
  refine (H2.out _).mono ?_
  rintro e w1 ⟨A, c, la, lc, rfl, hs, hF⟩
  have hb := hF
  have HC := Lib.hid (atrial_c A c (twoL la lc) 1 w1 hs (two_odB la lc) (two_legs la lc) (by show 3 ≤ 10000; decide))
  rw [two_moved, two_trial] at HC
  clear hs hF
  go_wp2_with fail
  refine HC.out.mono ?_
  rintro e w2 ⟨v, rfl, hO, hF⟩
  have hb := below_on hb (Nat.le_refl _) hF
  obtain ⟨AL, cL, rfl, hsL⟩ := hO.sl
  have HL := Lib.hid (fun V (hV : Below w2.heap.size w2 V) => hsL.later hV)
  clear HC hO hF hsL
  go_wp2_with fail
  refine (H2.out _).mono ?_
  rintro e w3 ⟨A, c, la, lc, rfl, hs, hF⟩
  have hb := below_on hb (Nat.le_refl _) hF
  have hb3 := hF
  have HC := Lib.hid (abetw_c A c (twoL la lc) tA 0 9 w3 hs (two_odB la lc) (two_legs la lc) (by show 3 ≤ 5000; decide))
  rw [two_moved, two_betw] at HC
  clear hs hF
  go_wp2_with fail
  refine HC.out.mono ?_
  rintro e w4 ⟨rfl, hF⟩
  have hb := below_on hb (Nat.le_refl _) hF
  have hb3 := below_on hb3 (Nat.le_refl _) hF
  clear HC hF
  have hsL := HL.out _ hb3
  have hcL : 2 ≤ cL := hsL.1
  obtain ⟨b, o, rfl, -, -, r0, r1, r2⟩ := hsL.ln (k := 0) (by simp)
  obtain ⟨b', o', hA', -, -, s0, s1, s2⟩ := hsL.ln (k := 1) (by simp)
  injection hA' with hA'
  injection hA' with q1 q2
  subst q1 q2
  simp only [List.getElem_cons_zero, List.getElem_cons_succ, Nat.zero_mul, Nat.add_zero, Nat.one_mul] at r0 r1 r2 s0 s1 s2
  clear hsL HL hb3
  go_wp2_with fail
  refine (H2.out _).mono ?_
  rintro e w5 ⟨A, c, la, lc, rfl, hs, hF⟩
  have hb := below_on hb (Nat.le_refl _) hF
  have HC := Lib.hid (amoves_c A c (twoL la lc) w5 hs (two_odB la lc) (two_legs la lc) (by show 3 ≤ 60000; decide))
  rw [two_moved] at HC
  clear hs hF
  go_wp2_with fail
  refine HC.out.mono ?_
  rintro e w6 ⟨v, M, rfl, hM, hO, hF⟩
  have hb := below_on hb (Nat.le_refl _) hF
  obtain ⟨AM, cM, rfl, -⟩ := hO.sl
  have hM1 : M.length = 1 := by have := congrArg List.length hM; rwa [List.length_map] at this
  rw [hM1]
  clear hM hO hF HC hM1
  go_wp2_with fail
  refine (H2.out _).mono ?_
  rintro e w7 ⟨A, c, la, lc, rfl, hs, hF⟩
  have hb := below_on hb (Nat.le_refl _) hF
  have HC := Lib.hid (anotes_c A c (twoL la lc) tX w7 hs (two_odB la lc) (two_legs la lc) (by show 3 ≤ 60000; decide))
  rw [two_moved, two_notes] at HC
  clear hs hF
  go_wp2_with fail
  refine HC.out.mono ?_
  rintro e w8 ⟨v, rfl, hO, hF⟩
  have hb := below_on hb (Nat.le_refl _) hF
  obtain ⟨AN, cN, rfl, -⟩ := hO.sl
  clear hO hF HC
  go_wp2_with fail
  refine (H2.out _).mono ?_
  rintro e w9 ⟨A, c, la, lc, rfl, hs, hF⟩
  have hb := below_on hb (Nat.le_refl _) hF
  have HC := Lib.hid (aerrors_c A c (twoL la lc) w9 hs (two_odB la lc) (two_legs la lc) (by show 3 ≤ 60000; decide))
  rw [two_told, two_errs] at HC
  clear hs hF
  go_wp2_with fail
  refine HC.out.mono ?_
  rintro e w10 ⟨rfl, hF⟩
  have hb := below_on hb (Nat.le_refl _) hF
  simp only [List.map_cons, List.map_nil]
  clear hF HC
  go_wp2_with fail
  refine (H2.out _).mono ?_
  rintro e w11 ⟨A, c, la, lc, rfl, hs, hF⟩
  have hb := below_on hb (Nat.le_refl _) hF
  have HC := Lib.hid (alarg1_c A c (twoL la lc) 5 w11 hs (two_odB la lc) (two_legs la lc) (by show 3 ≤ 60000; decide) (by rw [two_moved]; exact Nat.le_refl _))
  rw [two_moved, two_larg] at HC
  clear hs hF
  go_wp2_with fail
  refine HC.out.mono ?_
  rintro e w12 ⟨v, rfl, hO, hF⟩
  have hb := below_on hb (Nat.le_refl _) hF
  obtain ⟨AG, cG, rfl, -⟩ := hO.sl
  clear hO hF HC
  go_wp2
  go_ret
  exact ⟨rfl, hb⟩
end Go.Proofs.YtgholbeehkfbiaaGreat
