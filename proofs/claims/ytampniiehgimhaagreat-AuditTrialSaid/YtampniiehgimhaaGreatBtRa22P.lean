/- ref22.part -/
import Derived.Test.YtampniiehgimhaaGreatRows
import Derived.Test.YtampniiehgimhaaGreatBtRa22
import Derived.Test.YtampniiehgimhaaGreatBt30
import Derived.Test.YtampniiehgimhaaGreatBs14
import Derived.WalkKit
import Derived.WalkSpells
import Derived.WalkLawsBesides
import Derived.Deep.QuietTactic
import Derived.BigQuiet
import Derived.Laws.StructEq
import Derived.Deep.DeepFit
import Derived.StillTailTactics
import Derived.Test.YtampniiehgimhaaGreatBtX

namespace Go.Proofs.YtampniiehgimhaaGreat
open Go.RowKit
/-- the sums of an account of some legs: those above 0, or those below -/
def pK (up : Bool) (ls : List Leg) (k : ByteArray) : List Int := if up = true then inK ls k else outK ls k
theorem pK_true (ls : List Leg) (k : ByteArray) : pK true ls k = inK ls k := if_pos rfl
theorem pK_false (ls : List Leg) (k : ByteArray) : pK false ls k = outK ls k := if_neg (by decide)
theorem pK_snoc (up : Bool) (ls : List Leg) (x : Leg) (k : ByteArray) : pK up (ls ++ [x]) k = if x.acct = k ∧ decide (0 < x.sum) = up then pK up ls k ++ [x.sum] else pK up ls k := by
 cases up with
 | true =>
  rw [pK_true, pK_true, inK_snoc]
  by_cases h : x.acct = k ∧ 0 < x.sum
  ·rw [if_pos h, if_pos ⟨h.1, decide_eq_true h.2⟩]
  ·rw [if_neg h, if_neg (fun e => h ⟨e.1, of_decide_eq_true e.2⟩)]
 | false =>
  rw [pK_false, pK_false, outK_snoc]
  by_cases h : x.acct = k ∧ ¬ 0 < x.sum
  ·rw [if_pos h, if_pos ⟨h.1, decide_eq_false h.2⟩]
  ·rw [if_neg h, if_neg (fun e => h ⟨e.1, of_decide_eq_false e.2⟩)]
theorem pK_nil (up : Bool) (k : ByteArray) : pK up [] k = [] := by unfold pK; split <;> rfl
def partL (M : List Rv) (k : ByteArray) (a b : Int) (up : Bool) : List Int := M.flatMap fun x => if a ≤ x.period ∧ x.period ≤ b then pK up x.legs k else []
def partK (x : Rv) (k : ByteArray) (a b : Int) (up : Bool) (q : Nat) : List Int := if a ≤ x.period ∧ x.period ≤ b then pK up (x.legs.take q) k else []
theorem partL_snoc {M : List Rv} {j : Nat} (hj : j < M.length) (k : ByteArray) (a b : Int) (up : Bool) : partL (M.take (j + 1)) k a b up = partL (M.take j) k a b up ++ partK M[j] k a b up M[j].legs.length := by
 unfold partL partK
 rw [List.take_succ_eq_append_getElem hj, List.flatMap_append, List.take_length]
 simp
theorem pK_len (up : Bool) (ls : List Leg) (k : ByteArray) : (pK up ls k).length ≤ ls.length := by
 unfold pK
 split
 ·exact inK_len _ _
 ·exact outK_len _ _
theorem partL_len {n : Nat} (k : ByteArray) (a b : Int) (up : Bool) (M : List Rv) (h : ∀ x ∈ M, x.legs.length ≤ n) : (partL M k a b up).length ≤ M.length * n :=
 flat_le _ n M fun x hx => by
  split
  ·exact Nat.le_trans (pK_len _ _ _) (h x hx)
  ·exact Nat.zero_le _
set_option maxRecDepth 100000 in
set_option maxHeartbeats 8000000 in
theorem rpart_c (A : Option Addr) (c : Nat) (M : List Rv) (k : ByteArray) (fa fb : Int) (up : Bool) (w : World) (h : Sl w w.heap.size A c M) (hn : M.length ≤ 1000) (hl : ∀ x ∈ M, x.legs.length ≤ 1000) :
  Calls Tryz.prog 95 #[.slice A M.length c, .string k, i64 fa, i64 fb, .bool up] w fun e w' => ∃ v, e = .returned v ∧ Own w' w.heap.size 2 v (partL M k fa fb up) ∧ Below w.heap.size w w' := by
 have H := Lib.hid h
 have Hl := Lib.hid hl
 have hlc : M.length ≤ c := h.1
 clear h hl
 go_enter Tryz.func95, Tryz.ntmps95
 go_wp2_with fail
 go_loopw [11, 12] (fun v i wr => ∃ j : Nat, i = i64 j ∧ j ≤ M.length ∧ Own wr w.heap.size 2 v (partL (M.take j) k fa fb up) ∧ Below w.heap.size w wr ∧ w.heap.size ≤ wr.heap.size) (fun _ i _ => M.length - (intOf i).toNat)
 case atStart => exact ⟨0, rfl, Nat.zero_le _, Own.nil_ _ _ _, Below.refl _ _, Nat.le_refl _⟩
 case round =>
  obtain ⟨j, rfl, hj, hO, hb, hz⟩ := hrel
  by_cases hlt : j < M.length
  ·have g1 : decide ((j : Int) < (M.length : Int)) = true := decide_eq_true (by omega)
   have g2 : decide (j < M.length) = true := decide_eq_true hlt
   have i0 : (0 : Int) ≤ (j : Int) := by omega
   have i1 : (j : Int) < (M.length : Int) := by omega
   have Hrv := Lib.hid (fun V (hV : Below w.heap.size w V) => (H.out.below hV).rv hlt)
   obtain ⟨b, o, rfl, -, -, -⟩ := Hrv.out wr hb
   have Hj := Lib.hid (partL_snoc hlt k fa fb up)
   have hxl := Hl.out M[j] (List.getElem_mem hlt)
   have HBl := Lib.hid (show (partL (M.take j) k fa fb up).length ≤ 1000000 by
    have h1 := partL_len (n := 1000) k fa fb up (M.take j) (fun x hx => Hl.out x (List.mem_of_mem_take hx))
    rw [List.length_take] at h1
    have h2 : min j M.length * 1000 ≤ 1000 * 1000 := Nat.mul_le_mul_right _ (by omega)
    omega)
   generalize partL (M.take j) k fa fb up = base at *
   obtain ⟨x, hxk⟩ : ∃ x, M[j] = x := ⟨_, rfl⟩
   simp only [hxk] at Hj hxl
   have HC := Lib.hid (show ∀ V, Below w.heap.size w V → V.cell? ⟨b, o + j * 5 + 2, none⟩ = some (i64 x.period) ∧ V.cell? ⟨b, o + j * 5 + 3, none⟩ = some (.slice x.la x.legs.length x.lc) ∧ SlS V (fun p => p < w.heap.size) x.la x.lc x.legs from fun V hV => by
    obtain ⟨b', o', hA, -, hok, -, -, c2, c3, -⟩ := Hrv.out V hV
    injection hA with hA
    injection hA with hA1 hA2
    subst hA1 hA2
    rw [hxk] at c2 c3 hok
    exact ⟨c2, c3, hok.legs⟩)
   obtain ⟨PK, hPK⟩ : ∃ PK, PK = partK x k fa fb up := ⟨_, rfl⟩
   have HPK := Lib.hid hPK
   rw [← hPK] at Hj
   have HP0 := Lib.hid (show PK 0 = [] by rw [hPK]; unfold partK; rw [List.take_zero, pK_nil]; split <;> rfl)
   have hO0 : Own wr w.heap.size 2 _ (base ++ PK 0) := (by rw [HP0.out, List.append_nil]; exact hO)
   clear hxk hPK hO Hrv
   go_wp2_with fail
   go_loopw [11, 13] (fun v i wq => ∃ q : Nat, i = i64 q ∧ q ≤ x.legs.length ∧ Own wq w.heap.size 2 v (base ++ PK q) ∧ Below w.heap.size w wq ∧ w.heap.size ≤ wq.heap.size) (fun _ i _ => x.legs.length - (intOf i).toNat)
   case atStart => exact ⟨0, rfl, Nat.zero_le _, hO0, hb, hz⟩
   case round =>
    clear hO0 hb hz
    obtain ⟨q, rfl, hq, hO, hb, hz⟩ := hrel
    obtain ⟨d2, d3, hlg⟩ := HC.out wr hb
    have hlgc : x.legs.length ≤ x.lc := hlg.1
    by_cases hqt : q < x.legs.length
    ·have g3 : decide ((q : Int) < (x.legs.length : Int)) = true := decide_eq_true (by omega)
     have g4 : decide (q < x.legs.length) = true := decide_eq_true hqt
     have j0 : (0 : Int) ≤ (q : Int) := by omega
     have j1 : (q : Int) < (x.legs.length : Int) := by omega
     by_cases h1 : fa ≤ x.period
     ·have e1 : decide (fa ≤ x.period) = true := decide_eq_true h1
      by_cases h2 : x.period ≤ fb
      ·have e2 : decide (x.period ≤ fb) = true := decide_eq_true h2
       obtain ⟨b2, o2, hA2, -, -, l0, l1⟩ := hlg.leg hqt
       have Hsn := Lib.hid (show PK (q + 1) = if x.legs[q].acct = k ∧ decide (0 < x.legs[q].sum) = up then PK q ++ [x.legs[q].sum] else PK q by
        have p1 : partK x k fa fb up (q + 1) = pK up (x.legs.take (q + 1)) k := if_pos ⟨h1, h2⟩
        have p2 : partK x k fa fb up q = pK up (x.legs.take q) k := if_pos ⟨h1, h2⟩
        rw [HPK.out, p1, p2, List.take_succ_eq_append_getElem hqt, pK_snoc])
       have HPl := Lib.hid (show (base ++ PK q).length + 1 ≤ 4294967296 by
        have h3 : (PK q).length ≤ 1000 := by
         rw [HPK.out]
         unfold partK
         rw [if_pos ⟨h1, h2⟩]
         exact Nat.le_trans (pK_len _ _ _) (by rw [List.length_take]; omega)
        rw [List.length_append]
        have := HBl.out
        omega)
       rw [hA2] at d3
       generalize x.legs[q] = y at *
       clear h1 h2 hlg
       by_cases ha : y.acct = k
       ·have e3 := beqS_of_eq ha
        by_cases hu : decide (0 < y.sum) = up
        ·have Hs2 := Lib.hid (show PK (q + 1) = PK q ++ [y.sum] by rw [Hsn.out, if_pos ⟨ha, hu⟩])
         have e4 : (decide (0 < y.sum) == up) = true := by rw [hu]; simp
         have HO1 := Lib.hid (hO.later ((Below.refl _ _).alloc (Nat.le_refl _) (.cells #[i64 y.sum] 2)))
         have HH := Lib.hid (heap_alloc_new wr (.cells #[i64 y.sum] 2))
         have Hne := Lib.hid (hO.new_ne (Nat.le_refl wr.heap.size))
         have Hb1 := Lib.hid (hb.alloc hz (.cells #[i64 y.sum] 2))
         clear ha hu hO hb Hsn
         go_wp2_with (at_builtin; refine wpList_append_one rfl (some 84) (.tmp 73) (.tmp 83) 181 rfl rfl (i64 0) 8 Tryz.underlying181 inf_i64 rfl (by decide) (by decide) rfl HO1.out wr.heap.size y.sum rfl _ 2 HH.out rfl Hne.out trivial HPl.out Hb1.out.size ?_; intro v3 w3 hO3 hg3 hat3)
         rw [List.append_assoc, ← Hs2.out] at hO3
         have hb3 := Hb1.out.trans (HO1.out.below hg3 (Nat.le_refl _) Hb1.out.size)
         have HO3 := Lib.hid hO3
         clear hg3 hat3 HO1 HH Hne hO3
         go_roundw
         case rel => exact ⟨q + 1, by go_num, by omega, HO3.out, hb3, hb3.size⟩
         case measure => simp [intOf]; omega
        ·have e4 : (decide (0 < y.sum) == up) = false := beq_eq_false_iff_ne.2 hu
         have Hs2 := Lib.hid (show PK (q + 1) = PK q by rw [Hsn.out, if_neg (fun e => hu e.2)])
         rw [← Hs2.out] at hO
         have HO := Lib.hid hO
         clear ha hu hO Hsn
         go_wp2
         go_roundw
         case rel => exact ⟨q + 1, by go_num, by omega, HO.out, hb, hz⟩
         case measure => simp [intOf]; omega
       ·have e3 := beqS_of_ne ha
        have Hs2 := Lib.hid (show PK (q + 1) = PK q by rw [Hsn.out, if_neg (fun e => ha e.1)])
        rw [← Hs2.out] at hO
        have HO := Lib.hid hO
        clear ha hO Hsn
        go_wp2
        go_roundw
        case rel => exact ⟨q + 1, by go_num, by omega, HO.out, hb, hz⟩
        case measure => simp [intOf]; omega
      ·have e2 : decide (x.period ≤ fb) = false := decide_eq_false h2
       clear hlg
       have HPx := Lib.hid (show base ++ PK q = partL (M.take (j + 1)) k fa fb up by rw [Hj.out, HPK.out]; unfold partK; rw [if_neg (fun e => h2 e.2), if_neg (fun e => h2 e.2)])
       rw [HPx.out] at hO
       have HO := Lib.hid hO
       clear hO
       go_wp2
       go_roundw
       case rel => exact ⟨j + 1, by go_num, by omega, HO.out, hb, by omega⟩
       case measure => simp [intOf]; omega
     ·have e1 : decide (fa ≤ x.period) = false := decide_eq_false h1
      clear hlg
      have HPx := Lib.hid (show base ++ PK q = partL (M.take (j + 1)) k fa fb up by rw [Hj.out, HPK.out]; unfold partK; rw [if_neg (fun e => h1 e.1), if_neg (fun e => h1 e.1)])
      rw [HPx.out] at hO
      have HO := Lib.hid hO
      clear hO
      go_wp2
      go_roundw
      case rel => exact ⟨j + 1, by go_num, by omega, HO.out, hb, by omega⟩
      case measure => simp [intOf]; omega
    ·have g3 : decide ((q : Int) < (x.legs.length : Int)) = false := decide_eq_false (by omega)
     have g4 : decide (q < x.legs.length) = false := decide_eq_false hqt
     have hqe : q = x.legs.length := by omega
     clear hlg
     have HPx := Lib.hid (show base ++ PK q = partL (M.take (j + 1)) k fa fb up by rw [Hj.out, hqe])
     rw [HPx.out] at hO
     have HO := Lib.hid hO
     clear hO
     go_wp2
     go_roundw
     case rel => exact ⟨j + 1, by go_num, by omega, HO.out, hb, by omega⟩
     case measure => simp [intOf]; omega
  ·obtain rfl : j = M.length := by omega
   have g1 : decide ((M.length : Int) < (M.length : Int)) = false := decide_eq_false (by omega)
   rw [List.take_length] at hO
   have HO := Lib.hid hO
   clear hO
   go_wp2
   go_ret
   exact ⟨_, rfl, HO.out, hb⟩
end Go.Proofs.YtampniiehgimhaaGreat
