/- Texts of this claim, laid together. -/
import Derived.Test.YtampniiehgimhaaGreatRows
import Derived.Test.YtampniiehgimhaaGreatBt32
import Derived.Test.YtampniiehgimhaaGreatBt30
import Derived.Test.YtampniiehgimhaaGreatBs11
import Derived.WalkKit
import Derived.WalkSpells
import Derived.WalkLawsBesides
import Derived.Deep.QuietTactic
import Derived.BigQuiet
import Derived.Laws.StructEq
import Derived.Deep.DeepFit
import Derived.StillTailTactics
import Derived.Test.YtampniiehgimhaaGreatBs3
import Derived.Test.YtampniiehgimhaaGreatBs13
import Derived.Test.YtampniiehgimhaaGreatBs1
import Derived.Laws.MakeOwn
import Derived.Test.YtampniiehgimhaaGreatBs4
import Derived.Test.YtampniiehgimhaaGreatBs5
import Derived.Test.YtampniiehgimhaaGreatBt31
import Derived.Test.YtampniiehgimhaaGreatBtX

/- law22.lives -/
namespace Go.Proofs.YtampniiehgimhaaGreat
open Go.RowKit
abbrev tB : ByteArray := ⟨#[98]⟩
abbrev tX : ByteArray := ⟨#[120]⟩
def od3 (la : Option Addr) (lc : Nat) : Od := ⟨0, 3, 2, ⟨#[]⟩, ⟨#[]⟩, 0, la, lc, [⟨tA, -5⟩, ⟨tB, 5⟩], 1, 0, tX⟩
def twoL (la : Option Addr) (lc : Nat) : List Od := [⟨0, 1, 1, tA, ⟨#[]⟩, 9, none, 0, [], 0, 0, ⟨#[]⟩⟩, ⟨0, 2, 1, tB, ⟨#[]⟩, 0, none, 0, [], 0, 0, ⟨#[]⟩⟩, od3 la lc]
theorem two_told (la : Option Addr) (lc : Nat) : toldL bk0 (twoL la lc) = [⟨0, 0, 0, 0⟩, ⟨0, 0, 0, 0⟩, ⟨0, 0, 0, 0⟩] := by kernel_rfl
theorem two_moved (la : Option Addr) (lc : Nat) : movedL (twoL la lc) = [od3 la lc] := by
 unfold movedL toldZ
 rw [two_told]
 rfl
theorem two_trial (la : Option Addr) (lc : Nat) : trialL (legsR [od3 la lc] 0 1) = ([⟨tA, 0, 5⟩, ⟨tB, 5, 0⟩], 0) := by kernel_rfl
theorem two_betw (la : Option Addr) (lc : Nat) : betwL (legsR [od3 la lc] 0 9) tA = (-5, 0) := by kernel_rfl
theorem two_errs : errsL [⟨0, 0, 0, 0⟩, ⟨0, 0, 0, 0⟩, ⟨0, 0, 0, 0⟩] = [3, 0, 0, 0, 0, 0, 0, 0, 0, 0, 0, 0, 0, 0, 0] := by kernel_rfl
theorem two_notes (la : Option Addr) (lc : Nat) : (([od3 la lc].filter fun x => decide (x.note = tX)).map Od.id) = [⟨0, 3⟩] := by kernel_rfl
theorem tA_sz : tA.size ≤ maxLen := by show 1 ≤ maxLen; decide
theorem tB_sz : tB.size ≤ maxLen := by show 1 ≤ maxLen; decide
theorem tX_sz : tX.size ≤ maxLen := by show 1 ≤ maxLen; decide
theorem two_odB (la : Option Addr) (lc : Nat) : ∀ x ∈ twoL la lc, OdB x := fun x hx => by
 have r : ∀ n : Int, -100 ≤ n ∧ n ≤ 100 → R64 n := fun n h => by unfold R64; omega
 simp only [twoL, List.mem_cons, List.not_mem_nil, or_false] at hx
 rcases hx with rfl | rfl | rfl
 ·exact ⟨tA_sz, Nat.zero_le _, r _ (by decide), r _ (by decide), r _ (by decide), r _ (by decide), r _ (by decide), r _ (by decide), fun _ h => by cases h⟩
 ·exact ⟨tB_sz, Nat.zero_le _, r _ (by decide), r _ (by decide), r _ (by decide), r _ (by decide), r _ (by decide), r _ (by decide), fun _ h => by cases h⟩
 ·refine ⟨Nat.zero_le _, Nat.zero_le _, r 0 (by decide), r 3 (by decide), r 2 (by decide), r 0 (by decide), r 1 (by decide), r 0 (by decide), fun y hy => ?_⟩
  simp only [od3, List.mem_cons, List.not_mem_nil, or_false] at hy
  rcases hy with rfl | rfl
  ·exact r _ (by decide)
  ·exact r _ (by decide)
theorem two_legs (la : Option Addr) (lc : Nat) : ∀ x ∈ twoL la lc, x.legs.length ≤ 65536 := fun x hx => by
 simp only [twoL, List.mem_cons, List.not_mem_nil, or_false] at hx
 rcases hx with rfl | rfl | rfl
 ·exact Nat.zero_le _
 ·exact Nat.zero_le _
 ·show 2 ≤ 65536; decide
theorem two_larg (la : Option Addr) (lc : Nat) : ((([od3 la lc].map coreM).take (max (5 : Int) 0).toNat).map (·.1)) = [⟨0, 3⟩] := by kernel_rfl
set_option maxRecDepth 100000 in
set_option maxHeartbeats 4000000 in
theorem two_c (w : World) : Calls Tryz.prog 79 #[] w fun e w' => ∃ A c la lc, e = .returned (.slice A 3 c) ∧ Sl w' w'.heap.size A c (twoL la lc) ∧ Below w.heap.size w w' := by
 have hO1 := own_lit (w := w) (base := w.heap.size) 167 #[.string tA, i64 (-5), .string tB, i64 5] [(⟨tA, -5⟩ : Leg), ⟨tB, 5⟩] (Nat.le_refl _) rfl (by decide) (fun x hx => by
  rcases List.mem_cons.1 hx with rfl | hx
  ·exact tA_sz
  ·rw [List.mem_singleton.1 hx]; exact tB_sz)
 have hb1 := (Below.refl w.heap.size w).alloc (Nat.le_refl _) (.cells #[.string tA, i64 (-5), .string tB, i64 5] 167)
 have hb2 := hb1.alloc hb1.size (.cells #[i64 0, i64 1, i64 1, .string tA, .string ⟨#[]⟩, i64 9, .slice none 0 0, i64 0, i64 0, .string ⟨#[]⟩, i64 0, i64 2, i64 1, .string tB, .string ⟨#[]⟩, i64 0, .slice none 0 0, i64 0, i64 0, .string ⟨#[]⟩, i64 0, i64 3, i64 2, .string ⟨#[]⟩, .string ⟨#[]⟩, i64 0, .slice (some ⟨w.heap.size, 0, none⟩) 2 2, i64 1, i64 0, .string tX] 37)
 obtain ⟨A1, c1, hv1, hs1⟩ := hO1.sl
 injection hv1 with e1 e2 e3
 subst e1
 have hO2 := own_lit (w := (w.alloc (.cells #[.string tA, i64 (-5), .string tB, i64 5] 167))) (base := (w.alloc (.cells #[.string tA, i64 (-5), .string tB, i64 5] 167)).heap.size) 37 #[i64 0, i64 1, i64 1, .string tA, .string ⟨#[]⟩, i64 9, .slice none 0 0, i64 0, i64 0, .string ⟨#[]⟩, i64 0, i64 2, i64 1, .string tB, .string ⟨#[]⟩, i64 0, .slice none 0 0, i64 0, i64 0, .string ⟨#[]⟩, i64 0, i64 3, i64 2, .string ⟨#[]⟩, .string ⟨#[]⟩, i64 0, .slice (some ⟨w.heap.size, 0, none⟩) 2 2, i64 1, i64 0, .string tX] (twoL (some ⟨w.heap.size, 0, none⟩) 2) (Nat.le_refl _) rfl (by show 3 ≤ 65536; decide) (fun x hx => by
  simp only [twoL, List.mem_cons, List.not_mem_nil, or_false] at hx
  rcases hx with rfl | rfl | rfl
  ·exact (⟨tA_sz, Nat.zero_le _, Nat.zero_le _, SlS.nil_ _ _⟩ : Od.Ok _ _ ⟨0, 1, 1, tA, ⟨#[]⟩, 9, none, 0, [], 0, 0, ⟨#[]⟩⟩)
  ·exact (⟨tB_sz, Nat.zero_le _, Nat.zero_le _, SlS.nil_ _ _⟩ : Od.Ok _ _ ⟨0, 2, 1, tB, ⟨#[]⟩, 0, none, 0, [], 0, 0, ⟨#[]⟩⟩)
  ·exact (⟨Nat.zero_le _, Nat.zero_le _, tX_sz, by rw [← e3] at hs1; exact hs1⟩ : Od.Ok _ _ (od3 (some ⟨w.heap.size, 0, none⟩) 2)))
 obtain ⟨A2, c2, hv2, hs2⟩ := hO2.sl
 have hz : (w.alloc (.cells #[.string tA, i64 (-5), .string tB, i64 5] 167)).heap.size = w.heap.size + 1 := by simp
 have HS := Lib.hid hs2
 have Hv := Lib.hid hv2
 rw [hz] at Hv
 have Hb2 := Lib.hid hb2
 clear hO1 hb1 hb2 hs1 hO2 hs2 hv2 e2 e3 hz
 go_enter Tryz.func79, Tryz.ntmps79
 go_wp2
 go_ret
 exact ⟨A2, c2, _, _, congrArg Ending.returned (show _ = _ from Hv.out), HS.out, Hb2.out⟩
theorem Ln.ext_ {a b : Ln} (h1 : a.acct = b.acct) (h2 : a.inn = b.inn) (h3 : a.out = b.out) : a = b := by cases a; cases b; simp_all
set_option maxRecDepth 100000 in
set_option maxHeartbeats 4000000 in
theorem eq_ln (a b : Ln) (w : World) : (binOp .eql 104 (.agg #[.string a.acct, i64 a.inn, i64 a.out]) (.agg #[.string b.acct, i64 b.inn, i64 b.out])).run Tryz.prog w = .ok (.bool (decide (a = b))) w := by
 have u3 := Tryz.underlying2
 have a3 := Tryz.isAgg2
 have z3 := Tryz.sizeOf2
 have u9 := Tryz.underlying9
 have a9 := Tryz.isAgg9
 have z9 := Tryz.sizeOf9
 have hS : Tryz.prog.underlying 104 = some (.struct (Tryz.prog.fieldsOf 104)) := by kernel_rfl
 have hp : Tryz.prog.stoodInHeld 104 = false := by kernel_rfl
 rw [run_eql_struct, show (10000 : Nat) = 9999 + 1 from rfl, run_equalIn_agg w 9999 104 _ _ hS hp]
 simp only [Program.fieldsOf, Tryz.underlying104]
 go_simp
 by_cases h1 : a.acct = b.acct
 ·have t1 := beqS_of_eq h1
  by_cases h2 : a.inn = b.inn
  ·by_cases h3 : a.out = b.out
   ·rw [decide_eq_true (Ln.ext_ h1 h2 h3)]; simp [h1, h2, h3]
   ·rw [decide_eq_false (fun e => h3 (by rw [e]))]; simp [h1, h2, h3]
  ·rw [decide_eq_false (fun e => h2 (by rw [e]))]; simp [h1, h2]
 ·have t1 := beqS_of_ne h1
  have t2 : ¬ a.acct.toList = b.acct.toList := by simpa using t1
  rw [decide_eq_false (fun e => h1 (by rw [e]))]; simp [t2]
set_option maxRecDepth 100000 in
set_option maxHeartbeats 1000000 in
theorem index_errs (W : World) : (Instr.index 82 (.agg #[i64 3, i64 0, i64 0, i64 0, i64 0, i64 0, i64 0, i64 0, i64 0, i64 0, i64 0, i64 0, i64 0, i64 0, i64 0]) (.int .i64 0)).run Tryz.prog W = .ok (i64 3) W := by
 have u := Tryz.underlying82
 have z := Tryz.sizeOf3
 have q := Tryz.isAgg3
 unfold Instr.index
 go_simp
set_option maxRecDepth 100000 in
set_option maxHeartbeats 16000000 in
theorem lives_22 (w : World) : Calls Tryz.prog 37 #[] w fun e w' => e = .returned (.bool true) ∧ Below w.heap.size w w' := by
 have H2 := Lib.hid fun W => two_c W
 have e1 := fun W => eq_ln ⟨tA, 0, 5⟩ ⟨tA, 0, 5⟩ W
 have e2 := fun W => eq_ln ⟨tB, 5, 0⟩ ⟨tB, 5, 0⟩ W
 rw [decide_eq_true rfl] at e1 e2
 have hix := fun W => index_errs W
 go_enter Tryz.func37, Tryz.ntmps37
 go_wp2_with fail
 refine (H2.out _).mono ?_
 rintro e w1 ⟨A, c, la, lc, rfl, hs, hF⟩
 have hb := hF
 have HC := Lib.hid (atrial_c A c (twoL la lc) 1 w1 hs (two_odB la lc) (two_legs la lc) (by show 3 ≤ 10000; decide))
 rw [two_moved, two_trial] at HC
 clear hs hF
 go_wp2_with fail
 refine HC.out.mono ?_
 rintro e w2 ⟨v, rfl, hO, hF⟩
 have hb := below_on hb (Nat.le_refl _) hF
 obtain ⟨AL, cL, rfl, hsL⟩ := hO.sl
 have HL := Lib.hid (fun V (hV : Below w2.heap.size w2 V) => hsL.later hV)
 clear HC hO hF hsL
 go_wp2_with fail
 refine (H2.out _).mono ?_
 rintro e w3 ⟨A, c, la, lc, rfl, hs, hF⟩
 have hb := below_on hb (Nat.le_refl _) hF
 have hb3 := hF
 have HC := Lib.hid (abetw_c A c (twoL la lc) tA 0 9 w3 hs (two_odB la lc) (two_legs la lc) (by show 3 ≤ 5000; decide))
 rw [two_moved, two_betw] at HC
 clear hs hF
 go_wp2_with fail
 refine HC.out.mono ?_
 rintro e w4 ⟨rfl, hF⟩
 have hb := below_on hb (Nat.le_refl _) hF
 have hb3 := below_on hb3 (Nat.le_refl _) hF
 clear HC hF
 have hsL := HL.out _ hb3
 have hcL : 2 ≤ cL := hsL.1
 obtain ⟨b, o, rfl, -, -, r0, r1, r2⟩ := hsL.ln (k := 0) (by simp)
 obtain ⟨b', o', hA', -, -, s0, s1, s2⟩ := hsL.ln (k := 1) (by simp)
 injection hA' with hA'
 injection hA' with q1 q2
 subst q1 q2
 simp only [List.getElem_cons_zero, List.getElem_cons_succ, Nat.zero_mul, Nat.add_zero, Nat.one_mul] at r0 r1 r2 s0 s1 s2
 clear hsL HL hb3
 go_wp2_with fail
 refine (H2.out _).mono ?_
 rintro e w5 ⟨A, c, la, lc, rfl, hs, hF⟩
 have hb := below_on hb (Nat.le_refl _) hF
 have HC := Lib.hid (amoves_c A c (twoL la lc) w5 hs (two_odB la lc) (two_legs la lc) (by show 3 ≤ 60000; decide))
 rw [two_moved] at HC
 clear hs hF
 go_wp2_with fail
 refine HC.out.mono ?_
 rintro e w6 ⟨v, M, rfl, hM, hO, hF⟩
 have hb := below_on hb (Nat.le_refl _) hF
 obtain ⟨AM, cM, rfl, -⟩ := hO.sl
 have hM1 : M.length = 1 := by have := congrArg List.length hM; rwa [List.length_map] at this
 rw [hM1]
 clear hM hO hF HC hM1
 go_wp2_with fail
 refine (H2.out _).mono ?_
 rintro e w7 ⟨A, c, la, lc, rfl, hs, hF⟩
 have hb := below_on hb (Nat.le_refl _) hF
 have HC := Lib.hid (anotes_c A c (twoL la lc) tX w7 hs (two_odB la lc) (two_legs la lc) (by show 3 ≤ 60000; decide))
 rw [two_moved, two_notes] at HC
 clear hs hF
 go_wp2_with fail
 refine HC.out.mono ?_
 rintro e w8 ⟨v, rfl, hO, hF⟩
 have hb := below_on hb (Nat.le_refl _) hF
 obtain ⟨AN, cN, rfl, -⟩ := hO.sl
 clear hO hF HC
 go_wp2_with fail
 refine (H2.out _).mono ?_
 rintro e w9 ⟨A, c, la, lc, rfl, hs, hF⟩
 have hb := below_on hb (Nat.le_refl _) hF
 have HC := Lib.hid (aerrors_c A c (twoL la lc) w9 hs (two_odB la lc) (two_legs la lc) (by show 3 ≤ 60000; decide))
 rw [two_told, two_errs] at HC
 clear hs hF
 go_wp2_with fail
 refine HC.out.mono ?_
 rintro e w10 ⟨rfl, hF⟩
 have hb := below_on hb (Nat.le_refl _) hF
 simp only [List.map_cons, List.map_nil]
 clear hF HC
 go_wp2_with fail
 refine (H2.out _).mono ?_
 rintro e w11 ⟨A, c, la, lc, rfl, hs, hF⟩
 have hb := below_on hb (Nat.le_refl _) hF
 have HC := Lib.hid (alarg1_c A c (twoL la lc) 5 w11 hs (two_odB la lc) (two_legs la lc) (by show 3 ≤ 60000; decide) (by rw [two_moved]; exact Nat.le_refl _))
 rw [two_moved, two_larg] at HC
 clear hs hF
 go_wp2_with fail
 refine HC.out.mono ?_
 rintro e w12 ⟨v, rfl, hO, hF⟩
 have hb := below_on hb (Nat.le_refl _) hF
 obtain ⟨AG, cG, rfl, -⟩ := hO.sl
 clear hO hF HC
 go_wp2
 go_ret
 exact ⟨rfl, hb⟩
end Go.Proofs.YtampniiehgimhaaGreat
/- Stable merging of lists: what splits, and that it is associative. No program. -/
namespace Go.Proofs.YtampniiehgimhaaGreat
section
variable {α : Type} {lt : α → α → Bool}
end
end Go.Proofs.YtampniiehgimhaaGreat
/- A slice that is made: so many equal cells. No program. -/
namespace Go.Proofs.YtampniiehgimhaaGreat
open Go.RowKit
section
variable {α : Type} [Enc α]
end
end Go.Proofs.YtampniiehgimhaaGreat
/- Rows of rows: a row of slices, each of the call's own, that grows. No program. -/
namespace Go.Proofs.YtampniiehgimhaaGreat
open Go.RowKit
/-- a value of one cell, as it lies there -/
structure VV where
 v : Value
 one : v.oneCell' = true
instance encVV : Enc VV where
 size := 1
 cells x := [x.v]
 val x := x.v
 ok _ _ _ := True
 len _ := rfl
 one x v hv := by simp only [List.mem_singleton] at hv; subst hv; exact x.one
 keep h _ _ := h
theorem Own.vv_at {w : World} {base : Nat} {e : TypeId} {l : List VV} {g n cap : Nat} (h : Own w base e (.slice (some ⟨g, 0, none⟩) n cap) l) {k : Nat} (hk : k < l.length) : w.cell? ⟨g, k, none⟩ = some l[k].v := by
 have := h.at_ hk 0 _ rfl
 rwa [show k * Enc.size VV + 0 = k from Nat.mul_one k] at this
abbrev SV.v {α : Type} (x : SV α) : Value := .slice x.a x.l.length x.c
def SV.vv {α : Type} (x : SV α) : VV := ⟨x.v, rfl⟩
section
variable {α : Type} [Enc α] {w w' : World} {base : Nat} {e : TypeId} {v : Value} {l : List α}
theorem Own.sl_in {S : Nat → Prop} (h : Own w base e v l) (hb : ∀ b, v.ownBlock = some b → S b) (hx : ∀ x ∈ l, Enc.ok w S x) : ∃ A c, v = .slice A l.length c ∧ SlS w S A c l := by
 obtain ⟨⟨h1, h2⟩, h3⟩ := h
 rcases h2 with ⟨rfl, h0⟩ | ⟨g, cap, cur, rfl, hg, hh, hn, hm, hz, ht⟩
 ·have : l = [] := List.length_eq_zero_iff.1 h0
  subst this
  exact ⟨none, 0, rfl, SlS.nil_ _ _⟩
 ·refine ⟨_, _, rfl, hn, hm, fun _ => ⟨g, 0, rfl, hb g rfl, fun j u hu => ?_⟩, hx⟩
  rw [cell_of_row w g (0 + j) cur e (0, 0) hh, Nat.zero_add]
  rw [← ht, List.getElem?_take] at hu
  split at hu
  ·rw [← hu]; simp
  ·cases hu
theorem flat_vv (L : List (SV α)) : (L.map SV.vv).flatMap Enc.cells = L.flatMap Enc.cells := by
 induction L with
 | nil => rfl
 | cons x r ih => rw [List.map_cons, List.flatMap_cons, List.flatMap_cons, ih]; rfl
/-- the outer row read as slices -/
theorem Own.of_vv {L : List (SV α)} (h : Own w base e v (L.map SV.vv)) (hok : ∀ x ∈ L, Enc.ok w (Oth w v) x) : Own w base e v L := by
 obtain ⟨h1, _⟩ := h
 rw [List.length_map, flat_vv] at h1
 exact ⟨h1, hok⟩
end
/-- block g holds a row of slices, each a row of the call's own (blocks from base on), no two in one block -/
structure RowsW {α : Type} [Enc α] (w : World) (base g : Nat) (tO ti : TypeId) (L : List (SV α)) : Prop where
 out : Own w base tO (.slice (some ⟨g, 0, none⟩) L.length L.length) (L.map SV.vv)
 own : ∀ x ∈ L, Own w base ti x.v x.l
 apart : L.Pairwise fun x y => ∀ b, x.v.ownBlock = some b → y.v.ownBlock ≠ some b
 off : ∀ x ∈ L, x.v.ownBlock ≠ some g
section
variable {α : Type} [Enc α] {w w' : World} {base g : Nat} {tO ti : TypeId} {L : List (SV α)}
theorem RowsW.later (h : RowsW w base g tO ti L) (hb : Below w.heap.size w w') : RowsW w' base g tO ti L := ⟨h.out.later hb, fun x hx => (h.own x hx).later hb, h.apart, h.off⟩
theorem RowsW.lt (h : RowsW w base g tO ti L) : base ≤ g ∧ g < w.heap.size := h.out.base_le
theorem RowsW.get (h : RowsW w base g tO ti L) {s : Nat} (hs : s < L.length) : w.cell? ⟨g, s, none⟩ = some L[s].v := by
 have := h.out.vv_at (k := s) (by rw [List.length_map]; exact hs)
 rw [List.getElem_map] at this
 exact this
/-- one of the rows has grown and its new value is stored -/
theorem RowsW.grow {w1 w2 : World} (h : RowsW w base g tO ti L) {s : Nat} (hs : s < L.length) {x' : SV α} (hx : Own w1 base ti x'.v x'.l) (hg : w.grownBy w1 L[s].v.ownBlock) (hat : x'.v.ownBlock = L[s].v.ownBlock ∨ ∃ b, x'.v.ownBlock = some b ∧ w.heap.size ≤ b)
  (hok : ∀ W S x, x ∈ L → (∀ b, b < base → S b) → (Below base w W) → ∀ y ∈ x.l, Enc.ok W S y) (hok' : ∀ y ∈ x'.l, ∀ W S, (∀ b, b < base → S b) → (Below base w W) → Enc.ok W S y)
  (hO : Own w2 base tO (.slice (some ⟨g, 0, none⟩) L.length L.length) ((L.map SV.vv).set s x'.vv)) (hg2 : w1.grownBy w2 (some g)) (hbw : base ≤ w.heap.size) : RowsW w2 base g tO ti (L.set s x') := by
 have hlt := h.lt
 have hsb : ∀ b, L[s].v.ownBlock = some b → base ≤ b ∧ b < w.heap.size := fun b e => (h.own _ (List.getElem_mem hs)).1.lt b e
 have hb1 : Below base w w1 := below_of_grown hg hbw fun b e => (hsb b e).1
 have hb2 : Below base w w2 := hb1.trans (below_of_grown hg2 (Nat.le_trans hbw hg.size) fun b e => by injection e with e; omega)
 have hxne : x'.v.ownBlock ≠ some g := by
  rcases hat with e | ⟨b, e, hb⟩
  ·rw [e]; exact h.off _ (List.getElem_mem hs)
  ·rw [e]; intro e2; injection e2 with e2; omega
 have hx2 : Own w2 base ti x'.v x'.l := by
  refine hx.grown hg2 (.inr hxne) fun y hy => hok' y hy w1 _ (fun b hb => ⟨by have := hg.size; omega, fun e => ?_, fun e => ?_⟩) hb1
  ·have := (hx.1.lt b e.symm).1; omega
  ·injection e with e; omega
 have hap := h.apart
 rw [List.pairwise_iff_getElem] at hap
 have hoth : ∀ (i : Nat) (hi : i < L.length), i ≠ s → ∀ b, L[i].v.ownBlock = some b → L[s].v.ownBlock ≠ some b := fun i hi hne b e => by
  rcases Nat.lt_or_gt_of_ne hne with hl | hl
  ·exact hap i s hi hs hl b e
  ·intro e2; exact hap s i hs hi hl b e2 e
 have hi2 : ∀ (i : Nat) (hi : i < L.length), i ≠ s → Own w2 base ti L[i].v L[i].l := fun i hi hne => by
  have ho := h.own _ (List.getElem_mem hi)
  have hr : L[i].v.ownBlock = none ∨ L[i].v.ownBlock ≠ L[s].v.ownBlock := by
   cases hv : L[i].v.ownBlock with
   | none => exact .inl rfl
   | some b => exact .inr fun e => hoth i hi hne b hv e.symm
  have h1 : Own w1 base ti L[i].v L[i].l := ho.grown hg hr fun y hy => hok w _ _ (List.getElem_mem hi) (fun b hb => ⟨by omega, fun e => by have := (ho.1.lt b e.symm).1; omega, fun e => by have := (hsb b e.symm).1; omega⟩) (Below.refl _ _) y hy
  refine h1.grown hg2 (.inr (h.off _ (List.getElem_mem hi))) fun y hy => hok w1 _ _ (List.getElem_mem hi) (fun b hb => ⟨by have := hg.size; omega, fun e => by have := (ho.1.lt b e.symm).1; omega, fun e => by injection e with e; omega⟩) hb1 y hy
 have hnew : ∀ (i : Nat) (hi : i < L.length), i ≠ s → ∀ b, L[i].v.ownBlock = some b → x'.v.ownBlock ≠ some b := fun i hi hne b e e2 => by
  rcases hat with e3 | ⟨c, e3, hc⟩
  ·exact hoth i hi hne b e (e3.symm.trans e2)
  ·rw [e3] at e2
   injection e2 with e2
   have := ((h.own _ (List.getElem_mem hi)).1.lt b e).2
   omega
 have hset : (L.set s x').length = L.length := List.length_set
 refine ⟨by rw [hset, List.map_set]; exact hO, fun x hx => ?_, ?_, fun x hx => ?_⟩
 ·obtain ⟨i, hi, rfl⟩ := List.getElem_of_mem hx
  rw [hset] at hi
  rw [List.getElem_set]
  split
  ·exact hx2
  ·rename_i hne; exact hi2 i hi (fun e => hne e.symm)
 ·rw [List.pairwise_iff_getElem]
  intro i j hi hj hij b
  rw [hset] at hi hj
  rw [List.getElem_set, List.getElem_set]
  split
  ·rename_i e; subst e
   rw [if_neg (by omega)]
   intro e1 e2
   exact hnew j hj (by omega) b e2 e1
  ·rename_i hne
   split
   ·rename_i e; subst e
    exact fun e1 => hnew i hi (by omega) b e1
   ·exact hap i j hi hj hij b
 ·obtain ⟨i, hi, rfl⟩ := List.getElem_of_mem hx
  rw [hset] at hi
  rw [List.getElem_set]
  split
  ·exact hxne
  ·exact h.off _ (List.getElem_mem hi)
/-- read as a whole -/
theorem RowsW.whole (h : RowsW w base g tO ti L) (hok : ∀ x ∈ L, ∀ y ∈ x.l, Enc.ok w (Oth w (.slice (some ⟨g, 0, none⟩) L.length L.length)) y) : Own w base tO (.slice (some ⟨g, 0, none⟩) L.length L.length) L := by
 refine h.out.of_vv fun x hx => ?_
 obtain ⟨A, c, hv, hs⟩ := (h.own x hx).sl_in (S := Oth w (.slice (some ⟨g, 0, none⟩) L.length L.length)) (fun b e => ⟨((h.own x hx).1.lt b e).2, fun e2 => h.off x hx (e.trans e2)⟩) (hok x hx)
 injection hv with h1 h2 h3
 subst h1 h3
 exact hs
/-- one of the rows is turned in place -/
theorem RowsW.turn {w1 : World} (h : RowsW w base g tO ti L) {s : Nat} (hs : s < L.length) {l' : List α} (hlen : l'.length = L[s].l.length) (hx : Own w1 base ti L[s].v l') (hg : w.grownBy w1 L[s].v.ownBlock)
  (hok : ∀ W S x, x ∈ L → (∀ b, b < base → S b) → (Below base w W) → ∀ y ∈ x.l, Enc.ok W S y) (hbw : base ≤ w.heap.size) : RowsW w1 base g tO ti (L.set s ⟨L[s].a, L[s].c, l'⟩) := by
 have hsb : ∀ b, L[s].v.ownBlock = some b → base ≤ b ∧ b < w.heap.size := fun b e => (h.own _ (List.getElem_mem hs)).1.lt b e
 have hap := h.apart
 rw [List.pairwise_iff_getElem] at hap
 have hoth : ∀ (i : Nat) (hi : i < L.length), i ≠ s → ∀ b, L[i].v.ownBlock = some b → L[s].v.ownBlock ≠ some b := fun i hi hne b e => by
  rcases Nat.lt_or_gt_of_ne hne with hl | hl
  ·exact hap i s hi hs hl b e
  ·intro e2; exact hap s i hs hi hl b e2 e
 have hi1 : ∀ (i : Nat) (hi : i < L.length), i ≠ s → Own w1 base ti L[i].v L[i].l := fun i hi hne => by
  have ho := h.own _ (List.getElem_mem hi)
  have hr : L[i].v.ownBlock = none ∨ L[i].v.ownBlock ≠ L[s].v.ownBlock := by
   cases hv : L[i].v.ownBlock with
   | none => exact .inl rfl
   | some b => exact .inr fun e => hoth i hi hne b hv e.symm
  exact ho.grown hg hr fun y hy => hok w _ _ (List.getElem_mem hi) (fun b hb => ⟨by omega, fun e => by have := (ho.1.lt b e.symm).1; omega, fun e => by have := (hsb b e.symm).1; omega⟩) (Below.refl _ _) y hy
 have hset : (L.set s (⟨L[s].a, L[s].c, l'⟩ : SV α)).length = L.length := List.length_set
 have hvv : (⟨L[s].a, L[s].c, l'⟩ : SV α).v = L[s].v := by show Value.slice _ l'.length _ = _; rw [hlen]
 have hmap : (L.set s (⟨L[s].a, L[s].c, l'⟩ : SV α)).map SV.vv = L.map SV.vv := by
  rw [List.map_set]
  have : (⟨L[s].a, L[s].c, l'⟩ : SV α).vv = (L.map SV.vv)[s]'(by rw [List.length_map]; exact hs) := by
   rw [List.getElem_map]
   unfold SV.vv
   congr 1
  rw [this, List.set_getElem_self]
 refine ⟨by rw [hset, hmap]; exact h.out.grown hg (.inr (fun e => h.off _ (List.getElem_mem hs) e.symm)) (fun _ _ => trivial), fun x hx' => ?_, ?_, fun x hx' => ?_⟩
 ·obtain ⟨i, hi, rfl⟩ := List.getElem_of_mem hx'
  rw [hset] at hi
  rw [List.getElem_set]
  split
  ·rw [hvv]; exact hx
  ·rename_i hne; exact hi1 i hi (fun e => hne e.symm)
 ·rw [List.pairwise_iff_getElem]
  intro i j hi hj hij b
  rw [hset] at hi hj
  rw [List.getElem_set, List.getElem_set]
  split
  ·rename_i e; subst e
   rw [if_neg (by omega), hvv]
   exact hap s j hs hj hij b
  ·split
   ·rename_i e; subst e
    rw [hvv]
    exact hap i s hi hs hij b
   ·exact hap i j hi hj hij b
 ·obtain ⟨i, hi, rfl⟩ := List.getElem_of_mem hx'
  rw [hset] at hi
  rw [List.getElem_set]
  split
  ·rw [hvv]; exact h.off _ (List.getElem_mem hs)
  ·exact h.off _ (List.getElem_mem hi)
end
end Go.Proofs.YtampniiehgimhaaGreat
/- audit: sorting moves: the row, one comparison -/
namespace Go.Proofs.YtampniiehgimhaaGreat
open Go.RowKit
/-- the row that is sorted -/
structure RowM (V : World) (B g n cap : Nat) (l : List Mv) : Prop where
 own : Own V B 85 (.slice (some ⟨g, 0, none⟩) n cap) l
 len : l.length = n
theorem RowM.later {V V' : World} {B g n cap : Nat} {l : List Mv} (h : RowM V B g n cap l) (hb : Below V.heap.size V V') : RowM V' B g n cap l := ⟨h.own.later hb, h.len⟩
theorem RowM.lo {V : World} {B g n cap : Nat} {l : List Mv} (h : RowM V B g n cap l) : B ≤ g ∧ g < V.heap.size := by
 obtain ⟨cur, hg, hb, _⟩ := h.own.cells
 exact ⟨hb, (Array.getElem?_eq_some_iff.1 hg).1⟩
theorem RowM.at_ {V : World} {B g n cap : Nat} {l : List Mv} (h : RowM V B g n cap l) {i : Nat} (hi : i < l.length) : Mv.Ok V (Oth V (.slice (some ⟨g, 0, none⟩) n cap)) l[i] ∧ V.cell? ⟨g, i * 4, none⟩ = some (i64 l[i].client) ∧ V.cell? ⟨g, i * 4 + 1, none⟩ = some (i64 l[i].seq) ∧ V.cell? ⟨g, i * 4 + 2, none⟩ = some (i64 l[i].period) ∧ V.cell? ⟨g, i * 4 + 3, none⟩ = some (.slice l[i].la l[i].legs.length l[i].lc) := by
 obtain ⟨A, c, hv, hs⟩ := h.own.sl
 injection hv with e1 e2 e3
 obtain ⟨b, o, hA, -, -, c0, c1, c2, c3⟩ := hs.mv hi
 rw [hA] at e1
 injection e1 with e1
 injection e1 with e1 e4
 subst e1 e4
 rw [Nat.zero_add] at c0 c1 c2 c3
 exact ⟨h.own.2 l[i] (List.getElem_mem hi), c0, c1, c2, c3⟩
abbrev Mv.v (x : Mv) : Value := .agg #[i64 x.client, i64 x.seq, i64 x.period, .slice x.la x.legs.length x.lc]
end Go.Proofs.YtampniiehgimhaaGreat
