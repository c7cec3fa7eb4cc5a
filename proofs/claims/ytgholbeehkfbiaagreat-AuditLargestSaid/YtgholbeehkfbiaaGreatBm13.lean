/- Texts of this claim, laid together: HoPut, SumL, Total, Vou, VouB, HoTake, TurnC. -/
import Derived.Test.YtgholbeehkfbiaaGreatRows
import Derived.Test.YtgholbeehkfbiaaGreatBm12
import Derived.Test.YtgholbeehkfbiaaGreatBm11
import Derived.WalkKit
import Derived.WalkSpells
import Derived.WalkLawsBesides
import Derived.Deep.QuietTactic
import Derived.BigQuiet
import Derived.Laws.StructEq
import Derived.Deep.DeepFit
import Derived.StillTailTactics
import Derived.Test.YtgholbeehkfbiaaGreatBm1
import Derived.Test.YtgholbeehkfbiaaGreatBm10
import Derived.Test.YtgholbeehkfbiaaGreatBm4
import Derived.Test.YtgholbeehkfbiaaGreatShelf
import Derived.Shelf.Spec.BitsCarry
import Derived.Test.YtgholbeehkfbiaaGreatBm5

/- hold: New, Free, Put, as holds in order -/
namespace Go.Proofs.YtgholbeehkfbiaaGreat
open Go.RowKit
theorem R64_neg {s : Int} (h : 1 ≤ s ∧ s ≤ 9223372036854775807) : R64 (-s) := ⟨by omega, by omega⟩
def freeHL (L : List Ac) (H : List Held) (k : ByteArray) (n : Int) : Int × List Ac × List Held := match getK Held.key H ⟨k, n⟩ with
  | none => (6, L, H)
  | some y => ((turnL (asiD (-y.sum)) L k (-y.sum)).1, (turnL (asiD (-y.sum)) L k (-y.sum)).2, if (turnL (asiD (-y.sum)) L k (-y.sum)).1 = 0 then delK Held.key H ⟨k, n⟩ else H)
def putH (L : List Ac) (H : List Held) (x : Held) : Int × List Ac × List Held :=
  if x.num < 1 ∨ 9999 < x.num ∨ x.sum < 1 then (1, L, H) else if (getK Held.key H x.key).isSome = true then (7, L, H) else if (ofL H x.acct).length = 8 then (5, L, H)
  else ((turnL (asiD x.sum) L x.acct x.sum).1, (turnL (asiD x.sum) L x.acct x.sum).2, if (turnL (asiD x.sum) L x.acct x.sum).1 = 0 then insB ltH x H else H)
theorem RkH.get_ {M : List (Hk × Int)} {L : List Held} (h : RkH M L) (k : Hk) : getM M k = (getK Held.key L k).map Held.sum := by
  have := RK.get keyH h k
  rw [← this, Option.map_map]
  cases getM M k <;> rfl
theorem RkH.sums {M : List (Hk × Int)} {L : List Held} (hr : RkH M L) (hok : OkH L) : ∀ y ∈ M, 1 ≤ y.2 ∧ y.2 ≤ 9223372036854775807 := fun y hy => by
  have := hok (gH y) (hr.perm.mem_iff.1 (List.mem_map.2 ⟨y, hy, rfl⟩))
  exact ⟨this.2.2.1, this.2.2.2.1⟩
theorem honewA_c (w : World) : Calls Tryz.prog 64 #[] w fun e w' => e = .returned (.pointer (some ⟨w.heap.size + 1, 0, none⟩)) ∧ HoA w' (w.heap.size + 1) w.heap.size [] ∧ Below w.heap.size w w' :=
  (honew_c w).mono fun _ _ ⟨h1, h2, h3⟩ => ⟨h1, ⟨[], h2, RK.nil⟩, h3⟩
theorem freeH_eq {MC : List (ByteArray × Ac)} {MH : List (Hk × Int)} {L : List Ac} {H : List Held} (hc : RkA MC L) (hh : RkH MH H) (k : ByteArray) (n : Int) :
    (freeH MC MH k n).1 = (freeHL L H k n).1 ∧ RkA (freeH MC MH k n).2.1 (freeHL L H k n).2.1 ∧ RkH (freeH MC MH k n).2.2 (freeHL L H k n).2.2 := by
  unfold freeH freeHL
  rw [hh.get_ ⟨k, n⟩]
  cases hg : getK Held.key H ⟨k, n⟩ with
  | none => exact ⟨rfl, hc, hh⟩
  | some y =>
    simp only [Option.map_some]
    obtain ⟨e1, e2⟩ := hc.turn (asiD (-y.sum)) (fun _ => rfl) k (-y.sum)
    refine ⟨e1, e2, ?_⟩
    rw [e1]
    split
    · exact RK.del hh ⟨k, n⟩
    · exact hh
theorem hofreeA_c (g b gh bh : Nat) (L : List Ac) (H : List Held) (k : ByteArray) (n : Int) (w : World) (h : ChA w g b L) (hh : HoA w gh bh H) (hd : gh ≠ b ∧ bh ≠ b ∧ g ≠ bh) (hL : OkA L) (hH : OkH H) :
    Calls Tryz.prog 178 #[.pointer (some ⟨gh, 0, none⟩), .pointer (some ⟨g, 0, none⟩), .string k, i64 n] w fun e w' => e = .returned (i64 (freeHL L H k n).1) ∧ ChA w' g b (freeHL L H k n).2.1 ∧ HoA w' gh bh (freeHL L H k n).2.2 ∧ G2 w w' b bh := by
  obtain ⟨MC, h, hr⟩ := h
  obtain ⟨MH, hh, hrh⟩ := hh
  obtain ⟨e1, e2, e3⟩ := freeH_eq hr hrh k n
  exact (hofree_c g b gh bh MC MH k n w h hh hd (hL.inM hr) (hrh.sums hH)).mono fun _ _ ⟨h1, h2, h3, h4⟩ => ⟨by rw [← e1]; exact h1, ⟨_, h2, e2⟩, ⟨_, h3, e3⟩, h4⟩
theorem Gr.of_g2 {w w' : World} {b c : Nat} (h : G2 w w' b c) : Gr w w' (fun k => k = b ∨ k = c) := ⟨h.os, h.tape, h.output, h.size, fun k hk hn => h.block k hk (fun e => hn (.inl e)) (fun e => hn (.inr e))⟩
set_option maxRecDepth 100000 in
set_option maxHeartbeats 8000000 in
theorem hoput_c (g b gh bh : Nat) (L : List Ac) (H : List Held) (x : Held) (w : World) (h : ChA w g b L) (hh : HoA w gh bh H) (hd : gh ≠ b ∧ bh ≠ b ∧ g ≠ bh) (hL : OkA L) (hH : OkH H) (hx : R64 x.sum) (hn : H.length ≤ 65536) :
    Calls Tryz.prog 176 #[.pointer (some ⟨gh, 0, none⟩), .pointer (some ⟨g, 0, none⟩), x.v] w fun e w' => e = .returned (i64 (putH L H x).1) ∧ ChA w' g b (putH L H x).2.1 ∧ HoA w' gh bh (putH L H x).2.2 ∧ G2 w w' b bh := by
  obtain ⟨R, hR⟩ : ∃ R, putH L H x = R := ⟨_, rfl⟩
  rw [hR]
  unfold putH at hR
  have HR := Lib.hid hR.symm
  have Hx := Lib.hid hx
  have HL := Lib.hid hL
  have HH := Lib.hid hH
  have Hd := Lib.hid hd
  have Hn := Lib.hid hn
  have hb0 := (Below.refl w.heap.size w).alloc (Nat.le_refl _) (.cells #[i64 x.num, .string x.acct, i64 x.sum] 151)
  have H0 := Lib.hid (h.later hb0)
  have HH0 := Lib.hid (hh.later hb0)
  have hlg := Lib.hid h.lt
  have hlh := Lib.hid hh.lt
  clear hR hL hH hd hx hn h hh
  by_cases hbad : x.num < 1 ∨ 9999 < x.num ∨ x.sum < 1
  · have HR1 := Lib.hid (show R = (1, L, H) by rw [HR.out, if_pos hbad])
    clear HR
    by_cases h1 : x.num < 1
    · have g1 : decide (x.num < 1) = true := decide_eq_true h1
      clear h1 hbad
      go_enter Tryz.func176, Tryz.ntmps176
      go_wp2
      go_ret
      exact ⟨by rw [HR1.out]; rfl, by rw [HR1.out]; exact H0.out, by rw [HR1.out]; exact HH0.out, G2.of_below hb0 _ _⟩
    · have g1 : decide (x.num < 1) = false := decide_eq_false h1
      by_cases h2 : 9999 < x.num
      · have g2 : decide (9999 < x.num) = true := decide_eq_true h2
        clear h1 h2 hbad
        go_enter Tryz.func176, Tryz.ntmps176
        go_wp2
        go_ret
        exact ⟨by rw [HR1.out]; rfl, by rw [HR1.out]; exact H0.out, by rw [HR1.out]; exact HH0.out, G2.of_below hb0 _ _⟩
      · have g2 : decide (9999 < x.num) = false := decide_eq_false h2
        have g3 : decide (x.sum < 1) = true := decide_eq_true ((hbad.resolve_left h1).resolve_left h2)
        clear h1 h2 hbad
        go_enter Tryz.func176, Tryz.ntmps176
        go_wp2
        go_ret
        exact ⟨by rw [HR1.out]; rfl, by rw [HR1.out]; exact H0.out, by rw [HR1.out]; exact HH0.out, G2.of_below hb0 _ _⟩
  · have g1 : decide (x.num < 1) = false := decide_eq_false (fun e => hbad (.inl e))
    have g2 : decide (9999 < x.num) = false := decide_eq_false (fun e => hbad (.inr (.inl e)))
    have g3 : decide (x.sum < 1) = false := decide_eq_false (fun e => hbad (.inr (.inr e)))
    have HR1 := Lib.hid (show R = _ by rw [HR.out, if_neg hbad])
    clear HR hbad
    have hb1 := hb0.alloc (by simp) (.cells #[.string x.acct, i64 x.num] 234)
    have h1 := H0.out.later ((Below.refl _ _).alloc (Nat.le_refl _) (.cells #[.string x.acct, i64 x.num] 234))
    have hh1 := HH0.out.later ((Below.refl _ _).alloc (Nat.le_refl _) (.cells #[.string x.acct, i64 x.num] 234))
    have hx1 := heap_alloc2_old w (.cells #[i64 x.num, .string x.acct, i64 x.sum] 151) (.cells #[.string x.acct, i64 x.num] 234)
    have hk1 := heap_alloc2_new w (.cells #[i64 x.num, .string x.acct, i64 x.sum] 151) (.cells #[.string x.acct, i64 x.num] 234)
    obtain ⟨MH, hhi, hrh⟩ := hh1
    have c0 := cell_of_row _ gh 0 _ _ (0, 0) hhi.cell
    have c1 := cell_of_row _ (w.heap.size + 1) 0 _ _ (0, 0) hk1
    have c2 := cell_of_row _ (w.heap.size + 1) 1 _ _ (0, 0) hk1
    simp only [List.getElem?_toArray, List.getElem?_cons_zero, List.getElem?_cons_succ] at c0 c1 c2
    have hlk := run_lookup (P := Tryz.prog) hkKey Tryz.underlying199 (hhi.later (Below.refl _ _).drew).map x.key (i64 0) (by kernel_rfl) true
    rw [getM_hv, hrh.get_] at hlk
    obtain ⟨o, ho⟩ : ∃ o, getK Held.key H x.key = o := ⟨_, rfl⟩
    rw [ho] at hlk
    have HM := Lib.hid (show HoA _ gh bh H from ⟨MH, hhi, hrh⟩)
    have HC := Lib.hid h1
    have Ho := Lib.hid ho
    unfold Held.key Hk.v at hlk
    clear h1 hhi hrh H0 HH0 hb0 ho
    go_enter Tryz.func176, Tryz.ntmps176
    go_upto_region 4 with fail
    generalize (w.alloc (.cells #[i64 x.num, .string x.acct, i64 x.sum] 151)).alloc (.cells #[.string x.acct, i64 x.num] 234) = w0 at *
    go_cut [8, 9] from 11 (fun s8 s9 wx => s8 = i64 ((o.map Held.sum).getD 0) ∧ s9 = .bool o.isSome ∧ w0.drew = wx)
    case first =>
      go_region_with fail
      all_goals (go_wp2_with fail; go_meet; exact ⟨by cases o <;> rfl, by simp, rfl⟩)
    case rest =>
    obtain ⟨rfl, rfl, rfl⟩ := hcut
    have HC2 := Lib.hid (HC.out.later (Below.refl _ _).drew)
    have HM2 := Lib.hid (HM.out.later (Below.refl _ _).drew)
    have hb2 := hb1.drew
    have hx2 : w0.drew.heap[w.heap.size]? = some (.cells #[i64 x.num, .string x.acct, i64 x.sum] 151 (0, 0)) := hx1
    have hk2 : w0.drew.heap[w.heap.size + 1]? = some (.cells #[.string x.acct, i64 x.num] 234 (0, 0)) := hk1
    generalize w0.drew = w1 at *
    have n0 := cell_of_row _ w.heap.size 0 _ _ (0, 0) hx2
    have n1 := cell_of_row _ w.heap.size 1 _ _ (0, 0) hx2
    have n2 := cell_of_row _ w.heap.size 2 _ _ (0, 0) hx2
    simp only [List.getElem?_toArray, List.getElem?_cons_zero, List.getElem?_cons_succ] at n0 n1 n2
    clear hlk c0 c1 c2 hb1 hx1 hk1 HC HM
    cases o with
    | some y =>
      have HR2 := Lib.hid (show R = (7, L, H) by rw [HR1.out, Ho.out]; rfl)
      clear HR1
      go_wp2
      go_ret
      exact ⟨by rw [HR2.out]; rfl, by rw [HR2.out]; exact HC2.out, by rw [HR2.out]; exact HM2.out, G2.of_below hb2 _ _⟩
    | none =>
      have hOf := Lib.hid (hoof_c gh bh H x.acct w1 HM2.out HH.out Hn.out)
      have HR2 := Lib.hid (show R = (if (ofL H x.acct).length = 8 then (5, L, H) else ((turnL (asiD x.sum) L x.acct x.sum).1, (turnL (asiD x.sum) L x.acct x.sum).2, if (turnL (asiD x.sum) L x.acct x.sum).1 = 0 then insB ltH x H else H)) by rw [HR1.out, Ho.out]; rfl)
      clear HR1
      go_wp2_with fail
      refine hOf.out.mono ?_
      rintro e w2 ⟨v, rfl, hO, hF⟩
      obtain ⟨A, c, rfl, -⟩ := hO.sl
      have hb3 := below_on hb2 (Nat.le_refl _) hF
      have HC3 := Lib.hid (HC2.out.later hF)
      have HM3 := Lib.hid (HM2.out.later hF)
      have hx3 := (hF.block _ (Array.getElem?_eq_some_iff.1 hx2).1).trans hx2
      have hk3 := (hF.block _ (Array.getElem?_eq_some_iff.1 hk2).1).trans hk2
      have n1 := (hF.cell (p := ⟨w.heap.size, 1, none⟩) (Array.getElem?_eq_some_iff.1 hx2).1).trans n1
      have n2 := (hF.cell (p := ⟨w.heap.size, 2, none⟩) (Array.getElem?_eq_some_iff.1 hx2).1).trans n2
      clear hF hO hOf hb2 HC2 HM2 hx2 hk2 n0
      generalize (ofL H x.acct).length = m at *
      by_cases h8 : m = 8
      · have g4 : ((m : Int) == 8) = true := by rw [h8]; rfl
        have HR3 := Lib.hid (show R = (5, L, H) by rw [HR2.out, if_pos h8])
        clear HR2 h8
        go_wp2
        go_ret
        exact ⟨by rw [HR3.out]; rfl, by rw [HR3.out]; exact HC3.out, by rw [HR3.out]; exact HM3.out, G2.of_below hb3 _ _⟩
      · have g4 : ((m : Int) == 8) = false := by rw [beq_eq_false_iff_ne]; omega
        have HR3 := Lib.hid (show R = _ by rw [HR2.out, if_neg h8])
        have hT := Lib.hid (asideA_c g b L x.acct x.sum w2 HC3.out HL.out Hx.out)
        generalize turnL (asiD x.sum) L x.acct x.sum = q at *
        clear HR2 h8
        go_wp2_with fail
        refine hT.out.mono ?_
        rintro e w3 ⟨rfl, hc4, hg4⟩
        have hh4 := HM3.out.kept (Gr.of_grown hg4) (fun e => by injection e with e; exact Hd.out.1 e.symm) (fun e => by injection e with e; exact Hd.out.2.1 e.symm)
        have hx4 := (hg4.block _ (Array.getElem?_eq_some_iff.1 hx3).1 (fun e => by injection e with e; have := hlg.out.2.1; omega)).trans hx3
        have hk4 := (hg4.block _ (Array.getElem?_eq_some_iff.1 hk3).1 (fun e => by injection e with e; have := hlg.out.2.1; omega)).trans hk3
        have hg5 := (G2.of_below hb3 b bh).trans (G2.fst hg4 bh)
        clear hT HC3 HM3 hx3 hk3 hg4 hb3 n1 n2
        by_cases hq : q.1 = 0
        · have g5 : (q.1 == 0) = true := by rw [hq]; rfl
          have HR4 := Lib.hid (show R = (q.1, q.2, insB ltH x H) by rw [HR3.out, if_pos hq])
          clear hq HR3
          obtain ⟨MH4, hhi, hrh⟩ := hh4
          have c0 := cell_of_row _ gh 0 _ _ (0, 0) hhi.cell
          have c1 := cell_of_row _ (w.heap.size + 1) 0 _ _ (0, 0) hk4
          have c2 := cell_of_row _ (w.heap.size + 1) 1 _ _ (0, 0) hk4
          have n2 := cell_of_row _ w.heap.size 2 _ _ (0, 0) hx4
          simp only [List.getElem?_toArray, List.getElem?_cons_zero, List.getElem?_cons_succ] at c0 c1 c2 n2
          have hh5 := hhi.later (Below.refl _ _).drew
          have hc5 := hc4.later (Below.refl _ _).drew
          obtain ⟨w5, hrun, hm5, hg6⟩ := run_put (P := Tryz.prog) hkKey Tryz.underlying199 hh5.map x.key (i64 x.sum)
          rw [putM_hv] at hm5
          unfold Held.key Hk.v at hrun
          have HM5 := Lib.hid hm5
          have HG := Lib.hid hg6
          have HRH := Lib.hid (RK.add keyH hrh (k := x.key) (v := x.sum) rfl Ho.out)
          clear hm5 hg6 hrh
          go_wp2_with fail
          go_region_with fail
          all_goals (
            go_wp2
            go_ret
            exact ⟨by rw [HR4.out]; rfl, by rw [HR4.out]; exact hc5.kept (Gr.of_grown HG.out) (fun e => by injection e with e; exact Hd.out.2.2 e.symm) (fun e => by injection e with e; exact Hd.out.2.1 e), by
              rw [HR4.out]
              exact ⟨_, ⟨hh5.ne, (HG.out.block gh hh5.lt.1 (fun e => hh5.ne (by injection e with e; exact e.symm))).trans hh5.cell, HM5.out⟩, HRH.out⟩, (hg5.trans (G2.of_below (Below.refl _ _).drew _ _)).trans (G2.snd HG.out b)⟩)
        · have g5 : (q.1 == 0) = false := beq_eq_false_iff_ne.2 hq
          have HR4 := Lib.hid (show R = (q.1, q.2, H) by rw [HR3.out, if_neg hq])
          clear hq HR3
          go_wp2
          go_ret
          exact ⟨by rw [HR4.out]; rfl, by rw [HR4.out]; exact hc4, by rw [HR4.out]; exact hh4, hg5⟩
end Go.Proofs.YtgholbeehkfbiaaGreat

/- Sums of lists -/
namespace Go.Proofs.YtgholbeehkfbiaaGreat
open Go.RowKit
def sumL : List Int → Int
  | [] => 0
  | a :: r => a + sumL r
theorem sumL_app (l m : List Int) : sumL (l ++ m) = sumL l + sumL m := by
  induction l with
  | nil => simp [sumL]
  | cons b r ih => rw [List.cons_append, sumL, sumL, ih]; omega
theorem sumL_one (a : Int) : sumL [a] = a := by simp [sumL]
theorem sumL_perm {l m : List Int} (h : l.Perm m) : sumL l = sumL m := by
  induction h with
  | nil => rfl
  | cons x _ ih => rw [sumL, sumL, ih]
  | swap x y l => simp only [sumL]; omega
  | trans _ _ h1 h2 => rw [h1, h2]
theorem sumL_in : ∀ (l : List Int), (∀ a ∈ l, R64 a) → -(l.length * 9223372036854775808 : Int) ≤ sumL l ∧ sumL l ≤ l.length * 9223372036854775808
  | [], _ => by simp [sumL]
  | a :: r, h => by
    have h1 := sumL_in r fun b hb => h b (by simp [hb])
    have h2 := h a (by simp)
    unfold R64 at h2
    rw [sumL, List.length_cons]
    push_cast
    omega
theorem sumL_take {l : List Int} {k : Nat} (h : k < l.length) : sumL (l.take (k + 1)) = sumL (l.take k) + l[k] := by rw [List.take_succ_eq_append_getElem h, sumL_app, sumL_one]
end Go.Proofs.YtgholbeehkfbiaaGreat

/- coins.Total -/
namespace Go.Proofs.YtgholbeehkfbiaaGreat
open Go.RowKit
theorem shr63 {a : Int} (h : R64 a) : a / 9223372036854775808 = if a < 0 then -1 else 0 := by unfold R64 at h; split <;> omega
set_option maxRecDepth 100000 in
set_option maxHeartbeats 4000000 in
theorem total_c (A : Option Addr) (c : Nat) (l : List Int) (w : World) (h : Sl w w.heap.size A c l) (hl : l.length ≤ 1000000) (hr : ∀ a ∈ l, R64 a) :
    Calls Tryz.prog 96 #[.slice A l.length c] w fun e w' => e = .returned (.tuple #[i64 (sumR (sumL l)).1, i64 (sumR (sumL l)).2]) ∧ Below w.heap.size w w' := by
  have hadd : ∀ (x y : Nat) (W : World), (callFunc 138 #[.int .u64 x, .int .u64 y, .int .u64 0]).run Tryz.prog W = .ok (.value (.tuple #[.int .u64 (((x + y) % 18446744073709551616 : Nat) : Int), .int .u64 (((x + y) / 18446744073709551616 : Nat) : Int)])) W := fun x y W => Any7.bits_Add64 Tryz.ladd64 x y 0 (by decide) W
  have Hadd := Lib.hid hadd
  obtain ⟨R, hR⟩ : ∃ R, sumR (sumL l) = R := ⟨_, rfl⟩
  rw [hR]
  have HR := Lib.hid hR
  clear hR
  clear hadd
  go_enter Tryz.func96, Tryz.ntmps96
  go_wp2_with fail
  go_loopw [4, 5, 11] (fun hi lo i wr => ∃ (k : Nat) (x : Int) (y : Nat), i = i64 k ∧ hi = i64 x ∧ lo = .int .u64 (y : Int) ∧ k ≤ l.length ∧ y < 18446744073709551616 ∧ x * 18446744073709551616 + y = sumL (l.take k) ∧ Below w.heap.size w wr) (fun _ _ i _ => l.length - (intOf i).toNat)
  case atStart => exact ⟨0, 0, 0, rfl, rfl, rfl, by omega, by decide, by simp [sumL], Below.refl _ _⟩
  case round =>
    obtain ⟨k, x, y, rfl, rfl, rfl, hk, hy, hs, hB⟩ := hrel
    by_cases hlt : k < l.length
    · have ha := hr l[k] (List.getElem_mem hlt)
      obtain ⟨b, o, rfl, -, -, hc⟩ := (h.later hB).at_ hlt
      have d0 := hc 0 _ rfl
      rw [show k * Enc.size Int + 0 = k from Nat.mul_one k] at d0
      have i0 : (0 : Int) ≤ (k : Int) := by omega
      have i1 : (k : Int) < (l.length : Int) := by omega
      have hlc : l.length ≤ c := h.1
      have hst := sumL_take hlt
      have hin := sumL_in (l.take k) fun a h => hr a (List.mem_of_mem_take h)
      have htk : (l.take k).length = k := by rw [List.length_take]; omega
      rw [htk] at hin
      have hx : -1000001 ≤ x ∧ x ≤ 1000001 := by omega
      have h63 := shr63 ha
      obtain ⟨u, hu⟩ : ∃ u : Nat, (u : Int) = l[k] % 18446744073709551616 := ⟨(l[k] % 18446744073709551616).toNat, by omega⟩
      have hu2 : IntKind.u64.wrap l[k] = (u : Int) := by rw [IntKind.wrap_u64, hu]
      have had := fun W => Hadd.out y u W
      obtain ⟨s, es⟩ : ∃ s, (y + u) % 18446744073709551616 = s := ⟨_, rfl⟩
      obtain ⟨t, et⟩ : ∃ t, (y + u) / 18446744073709551616 = t := ⟨_, rfl⟩
      simp only [es, et] at had
      have ht2 : IntKind.i64.wrap (t : Int) = t := by rw [IntKind.wrap_i64]; omega
      have Hst : Hid ((x + (l[k] / 9223372036854775808 + t)) * 18446744073709551616 + (s : Int) = sumL (l.take (k + 1)) ∧ s < 18446744073709551616) := Lib.hid (by
        unfold R64 at ha
        rw [hst, ← hs, h63]
        split <;> omega)
      obtain ⟨p, ep⟩ : ∃ p, l[k] / 9223372036854775808 = p := ⟨_, rfl⟩
      rw [ep] at Hst
      have hp : -1 ≤ p ∧ p ≤ 0 := by rw [← ep, h63]; split <;> omega
      have hp0 := hp.1
      have hp1 := hp.2
      have htn : t ≤ 1 := by omega
      have e1 : IntKind.i64.wrap (p + t) = p + t := by rw [IntKind.wrap_i64]; omega
      have e2 : IntKind.i64.wrap (x + (p + t)) = x + (p + t) := by rw [IntKind.wrap_i64]; omega
      have EP := Lib.hid ep
      have E1 := Lib.hid e1
      have E2 := Lib.hid e2
      clear hs hc hin htk h63 hst es et hu ep e1 e2
      generalize l[k] = a at *
      go_wp2
      go_roundw
      case rel => exact ⟨k + 1, x + (p + t), s, by go_num, by rw [EP.out, ← IntWalk.i64_left, ← IntWalk.i64_left, E1.out, E2.out], rfl, by omega, Hst.out.2, Hst.out.1, hB⟩
      case measure => simp [intOf]; omega
    · obtain rfl : k = l.length := by omega
      rw [List.take_length] at hs
      obtain ⟨v, hv⟩ : ∃ v, IntKind.i64.wrap (y : Int) = v := ⟨_, rfl⟩
      have hv2 : v = if (y : Int) < 9223372036854775808 then (y : Int) else (y : Int) - 18446744073709551616 := by
        rw [← hv, IntKind.wrap_i64]
        split <;> omega
      have hv64 : R64 v := by rw [← hv]; exact wrap_R64 _
      have hd := shr63 hv64
      obtain ⟨q, hq⟩ : ∃ q, v / 9223372036854775808 = q := ⟨_, rfl⟩
      have hR := HR.out
      have hv3 : wrap64 (y : Int) = v := by rw [← IntWalk.i64_left]; exact hv
      by_cases hx : x = q
      · have g1 : (x != q) = false := by rw [hx]; simp
        have hT := Lib.hid (show R = (v, 0) by
          rw [← hR]
          unfold sumR overB
          unfold R64 at hv64
          have e : sumL l = v := by
            rw [← hs, hx, ← hq, hd, hv2]
            split <;> split <;> omega
          rw [e, decide_eq_true hv64.1, decide_eq_true hv64.2]
          rfl)
        clear hs hv2 hd hR hx hv64
        go_wp2
        all_goals (
          go_ret2
          exact ⟨by rw [hT.out]; rfl, hB⟩)
      · have g1 : (x != q) = true := by simpa using hx
        have hT := Lib.hid (show R = (0, 2) by
          rw [← hR]
          unfold sumR
          rw [if_pos]
          unfold overB
          rw [Bool.not_eq_true', Bool.and_eq_false_iff, decide_eq_false_iff_not, decide_eq_false_iff_not]
          rw [← hq, hd] at hx
          split at hv2 <;> split at hx <;> omega)
        clear hs hv2 hd hR hx hv64
        go_wp2
        all_goals (
          go_ret2
          exact ⟨by rw [hT.out]; rfl, hB⟩)
end Go.Proofs.YtgholbeehkfbiaaGreat

/- voucher: right, weigh -/
namespace Go.Proofs.YtgholbeehkfbiaaGreat
open Go.RowKit
theorem legsTo_len {l : List Leg} (h : ∀ x ∈ l, legB x = true) : legsB l = (decide ((seenM l).length = l.length) && (decide (2 ≤ l.length) && decide (l.length ≤ 6))) := by
  unfold legsB
  rw [List.all_eq_true.2 h, Bool.and_true]
  congr 1
  rw [decide_eq_decide]
  exact (seenM_len l).2.symm
set_option maxRecDepth 100000 in
set_option maxHeartbeats 4000000 in
theorem vright_c (A : Option Addr) (c : Nat) (l : List Leg) (w : World) (h : Sl w w.heap.size A c l) (hn : l.length ≤ 65536) :
    Calls Tryz.prog 223 #[.slice A l.length c] w fun e w' => e = .returned (.bool (legsB l)) ∧ Below w.heap.size w w' := by
  have hmm := @run_makeMap Tryz.prog
  go_enter Tryz.func223, Tryz.ntmps223
  go_wp2
  have hm0 := MapIs.made (enc := Value.string) w
  have hb0 := (Below.refl w.heap.size w).alloc (Nat.le_refl _) (.map #[] 0)
  go_loopw [9] (fun i wr => ∃ k : Nat, i = i64 k ∧ k ≤ l.length ∧ MapIs Value.string wr w.heap.size (seenM (l.take k)) ∧ (∀ x ∈ l.take k, legB x = true) ∧ Below w.heap.size w wr) (fun i _ => l.length - (intOf i).toNat)
  case atStart => exact ⟨0, rfl, by omega, hm0, by simp, hb0⟩
  case round =>
    obtain ⟨k, rfl, hk, hm, ht, hb⟩ := hrel
    have HT := Lib.hid ht
    clear hm0 hb0 hmm ht
    by_cases hlt : k < l.length
    · obtain ⟨b, o, rfl, hbb, hsz, c0, c1⟩ := (h.later hb).leg hlt
      have hB1 := (Below.refl wr.heap.size wr).alloc (Nat.le_refl _) (.cells #[.string l[k].acct, i64 l[k].sum] 173)
      have Hm1 := Lib.hid (hm.later hB1)
      have Hb1 := Lib.hid (hb.alloc hb.size (.cells #[.string l[k].acct, i64 l[k].sum] 173))
      clear hm
      go_wp2_with fail
      refine (name_b l[k].acct _).mono ?_
      rintro e w2 ⟨rfl, hF⟩
      have e0 : (wr.alloc (.cells #[.string l[k].acct, i64 l[k].sum] 173)).cell? ⟨wr.heap.size, 0, none⟩ = some (.string l[k].acct) := by simp
      have e1 : (wr.alloc (.cells #[.string l[k].acct, i64 l[k].sum] 173)).cell? ⟨wr.heap.size, 1, none⟩ = some (i64 l[k].sum) := by simp
      have e0 := (hF.cell (p := ⟨wr.heap.size, 0, none⟩) (by simp)).trans e0
      have e1 := (hF.cell (p := ⟨wr.heap.size, 1, none⟩) (by simp)).trans e1
      have hm2 := Lib.hid (Hm1.out.later hF)
      have hb2 := Lib.hid (below_on Hb1.out (Nat.le_refl _) hF)
      clear hF c0 c1 Hm1 Hb1 hb hB1
      by_cases hnm : nameB l[k].acct = true
      · rw [hnm]
        by_cases hz : l[k].sum = 0
        · have g1 : (l[k].sum == 0) = true := beq_iff_eq.2 hz
          have Hs2 := Lib.hid (legsB_bad hlt (by unfold legB; rw [hz]; simp))
          clear hz hnm
          go_wp2
          go_ret
          exact ⟨by rw [Hs2.out]; rfl, hb2.out⟩
        · have g1 : (l[k].sum == 0) = false := beq_eq_false_iff_ne.2 hz
          have Hl := Lib.hid (show legB l[k] = true by unfold legB; rw [hnm, decide_eq_true hz]; rfl)
          clear hz hnm
          go_wp2_with (refine wpList_put rfl none (.tmp 22) (.tmp 24) (.const (.bool true)) 262 rfl rfl strKey Tryz.underlying262 rfl hm2.out l[k].acct (.bool true) rfl rfl ?_; intro w3 hm3 hg3)
          go_roundw
          case rel => exact ⟨k + 1, by go_num, by omega, by rw [List.take_succ_eq_append_getElem hlt, seenM_snoc]; exact hm3, fun x hx => by
              rw [List.take_succ_eq_append_getElem hlt] at hx
              rcases List.mem_append.1 hx with hx | hx
              · exact HT.out x hx
              · simp only [List.mem_singleton] at hx; subst hx; exact Hl.out, hb2.out.trans (below_of_grown hg3 hb2.out.size (fun g e => by injection e with e; omega))⟩
          case measure => simp [intOf]; omega
      · have hnm' : nameB l[k].acct = false := by simpa using hnm
        rw [hnm']
        have Hs2 := Lib.hid (legsB_bad hlt (by unfold legB; rw [hnm']; rfl))
        clear hnm hnm'
        go_wp2
        go_ret
        exact ⟨by rw [Hs2.out]; rfl, hb2.out⟩
    · obtain rfl : k = l.length := by omega
      have ht := HT.out
      rw [List.take_length] at ht hm
      have hal := legsTo_len ht
      have hlen := fun ty => run_lenM (P := Tryz.prog) Tryz.underlying262 hm ty
      clear ht
      have hsl : (seenM l).length ≤ l.length := (seenM_len l).1
      generalize (seenM l).length = sl at *
      clear hm
      by_cases h0 : sl = l.length
      · rw [decide_eq_true h0] at hal
        have g0 : ((sl : Int) == (l.length : Int)) = true := by rw [h0]; simp
        subst h0
        by_cases h2 : 2 ≤ l.length
        · have g1 : decide ((2 : Int) ≤ (l.length : Int)) = true := decide_eq_true (by omega)
          rw [decide_eq_true h2] at hal
          by_cases h6 : l.length ≤ 6
          · have g2 : decide ((l.length : Int) ≤ 6) = true := decide_eq_true (by omega)
            rw [decide_eq_true h6] at hal
            have Hs := Lib.hid hal
            clear hal h2 h6
            go_wp2
            go_ret
            exact ⟨by rw [Hs.out]; rfl, hb⟩
          · have g2 : decide ((l.length : Int) ≤ 6) = false := decide_eq_false (by omega)
            rw [decide_eq_false h6] at hal
            have Hs := Lib.hid hal
            clear hal h2 h6
            go_wp2
            go_ret
            exact ⟨by rw [Hs.out]; rfl, hb⟩
        · have g1 : decide ((2 : Int) ≤ (l.length : Int)) = false := decide_eq_false (by omega)
          rw [decide_eq_false h2] at hal
          have Hs := Lib.hid hal
          clear hal h2
          go_wp2
          go_ret
          exact ⟨by rw [Hs.out]; rfl, hb⟩
      · rw [decide_eq_false h0] at hal
        have g0 : ((sl : Int) == (l.length : Int)) = false := by rw [beq_eq_false_iff_ne]; omega
        have Hs := Lib.hid hal
        clear hal h0
        go_wp2
        go_ret
        exact ⟨by rw [Hs.out]; rfl, hb⟩
theorem intInfo64 : (Tryz.prog.info? 2).map (fun i => (i.zero, i.size, i.bytes)) = some (some (i64 0), Enc.size Int, 8) := by kernel_rfl
/-- voucher.weigh -/
def weighB (l : List Leg) : Bool := decide ((sumR (sumL (l.map Leg.sum))).2 = 0) && decide ((sumR (sumL (l.map Leg.sum))).1 = 0)
set_option maxRecDepth 100000 in
set_option maxHeartbeats 4000000 in
theorem weigh_c (A : Option Addr) (c : Nat) (l : List Leg) (w : World) (h : Sl w w.heap.size A c l) (hn : l.length ≤ 65536) (hr : ∀ x ∈ l, R64 x.sum) :
    Calls Tryz.prog 224 #[.slice A l.length c] w fun e w' => e = .returned (.bool (weighB l)) ∧ Below w.heap.size w w' := by
  have HR := Lib.hid hr
  have HW := Lib.hid (show weighB l = (decide ((sumR (sumL (l.map Leg.sum))).2 = 0) && decide ((sumR (sumL (l.map Leg.sum))).1 = 0)) from rfl)
  generalize weighB l = F at *
  clear hr
  go_enter Tryz.func224, Tryz.ntmps224
  go_wp2
  go_loopw [3, 10] (fun v i wr => ∃ k : Nat, i = i64 k ∧ k ≤ l.length ∧ Own wr w.heap.size 2 v ((l.take k).map Leg.sum) ∧ Below w.heap.size w wr) (fun _ i _ => l.length - (intOf i).toNat)
  case atStart => exact ⟨0, rfl, by omega, Own.nil_ _ _ _, Below.refl _ _⟩
  case round =>
    obtain ⟨k, rfl, hk, hO, hb⟩ := hrel
    by_cases hlt : k < l.length
    · obtain ⟨b, o, rfl, hbb, hsz, c0, c1⟩ := (h.later hb).leg hlt
      have HO2 := Lib.hid ((hO.later ((Below.refl _ _).alloc (Nat.le_refl _) (.cells #[.string l[k].acct, i64 l[k].sum] 173))).later ((Below.refl _ _).alloc (Nat.le_refl _) (.cells #[i64 l[k].sum] 2)))
      have Hne := Lib.hid (hO.new_ne (Nat.le_succ wr.heap.size))
      have HH := Lib.hid (heap_alloc2_new wr (.cells #[.string l[k].acct, i64 l[k].sum] 173) (.cells #[i64 l[k].sum] 2))
      have hbb' := (hb.alloc hb.size (.cells #[.string l[k].acct, i64 l[k].sum] 173)).alloc (by have := hb.size; simp; omega) (.cells #[i64 l[k].sum] 2)
      have HL := Lib.hid (show ((l.take k).map Leg.sum).length = k by simp; omega)
      clear hO
      go_wp2_with (at_builtin; refine wpList_append_one rfl (some 18) (.tmp 14) (.tmp 17) 187 rfl rfl (i64 0) 8 Tryz.underlying187 intInfo64 rfl Nat.one_pos (by decide) rfl HO2.out (wr.heap.size + 1) l[k].sum rfl _ 2 HH.out rfl Hne.out trivial (by rw [HL.out]; omega) hbb'.size ?_; intro v3 w3 hO3 hg3 hat3)
      go_roundw
      case rel => exact ⟨k + 1, by go_num, by omega, by rw [List.take_succ_eq_append_getElem hlt, List.map_append]; exact hO3, hbb'.trans (HO2.out.below hg3 (Nat.le_refl _) hbb'.size)⟩
      case measure => simp [intOf]; omega
    · obtain rfl : k = l.length := by omega
      rw [List.take_length] at hO
      obtain ⟨A2, c2, hv2, hs2⟩ := hO.sl
      rw [List.length_map] at hv2
      subst hv2
      have hT := (total_c A2 c2 _ _ hs2 (by simp; omega) (fun a ha => by
        obtain ⟨x, hx, rfl⟩ := List.mem_map.1 ha
        exact HR.out x hx))
      rw [List.length_map] at hT
      have hT := Lib.hid hT
      generalize sumR (sumL (l.map Leg.sum)) = r at *
      clear hs2 hO
      go_wp2_with fail
      refine hT.out.mono ?_
      rintro e w2 ⟨rfl, hF⟩
      have hb2 := below_on hb (Nat.le_refl _) hF
      clear hF hT
      by_cases h1 : r.2 = 0
      · have g1 : (r.2 == 0) = true := by rw [h1]; rfl
        have H1 := Lib.hid (decide_eq_true h1)
        clear h1
        by_cases h2 : r.1 = 0
        · have g2 : (r.1 == 0) = true := by rw [h2]; rfl
          have H2 := Lib.hid (decide_eq_true h2)
          clear h2
          go_wp2
          go_ret
          exact ⟨by rw [HW.out, H1.out, H2.out]; rfl, hb2⟩
        · have g2 : (r.1 == 0) = false := beq_eq_false_iff_ne.2 h2
          have H2 := Lib.hid (decide_eq_false h2)
          clear h2
          go_wp2
          go_ret
          exact ⟨by rw [HW.out, H1.out, H2.out]; rfl, hb2⟩
      · have g1 : (r.2 == 0) = false := beq_eq_false_iff_ne.2 h1
        have H1 := Lib.hid (decide_eq_false h1)
        clear h1
        go_wp2
        go_ret
        exact ⟨by rw [HW.out, H1.out]; rfl, hb2⟩
end Go.Proofs.YtgholbeehkfbiaaGreat

/- voucher: post, all, Check, Make -/
namespace Go.Proofs.YtgholbeehkfbiaaGreat
open Go.RowKit
def postL (L : List Ac) (x : Leg) : Int × List Ac := if (getLR L x.acct).2 ≠ 0 then ((getLR L x.acct).2, L) else if (sumR (0 - x.sum)).2 ≠ 0 then ((sumR (0 - x.sum)).2, L) else turnL (givD (sumR (0 - x.sum)).1) L x.acct (sumR (0 - x.sum)).1
def allL : List Ac → List Leg → Int × List Ac
  | L, [] => (0, L)
  | L, x :: r => if (postL L x).1 ≠ 0 then postL L x else allL (postL L x).2 r
/-- voucher.Check, Make -/
def checkL (L : List Ac) (l : List Leg) : Int := if legsB l = false then 1 else if weighB l = false then 8 else (allL L l).1
def makeL (L : List Ac) (l : List Leg) : Int × List Ac := if checkL L l ≠ 0 then (checkL L l, L) else allL L l
theorem postL_ok {L : List Ac} (h : OkA L) (x : Leg) : OkA (postL L x).2 := by
  unfold postL
  split
  · exact h
  · split
    · exact h
    · exact turnL_ok (givD_ok _) h _ _
theorem allL_ok : ∀ (l : List Leg) {L : List Ac}, OkA L → OkA (allL L l).2
  | [], _, h => h
  | x :: r, L, h => by
    unfold allL
    split
    · exact postL_ok h x
    · exact allL_ok r (postL_ok h x)
theorem makeL_ok {L : List Ac} (h : OkA L) (l : List Leg) : OkA (makeL L l).2 := by
  unfold makeL
  split
  · exact h
  · exact allL_ok l h
set_option maxRecDepth 100000 in
set_option maxHeartbeats 4000000 in
theorem post_c (g b : Nat) (L : List Ac) (x : Leg) (w : World) (h : ChA w g b L) (hL : OkA L) (hx : R64 x.sum) :
    Calls Tryz.prog 225 #[.pointer (some ⟨g, 0, none⟩), .agg #[.string x.acct, i64 x.sum]] w fun e w' => e = .returned (i64 (postL L x).1) ∧ ChA w' g b (postL L x).2 ∧ w.grownBy w' (some b) := by
  have HL := Lib.hid hL
  obtain ⟨R, hR⟩ : ∃ R, postL L x = R := ⟨_, rfl⟩
  rw [hR]
  unfold postL at hR
  have hb0 := (Below.refl w.heap.size w).alloc (Nat.le_refl _) (.cells #[.string x.acct, i64 x.sum] 173)
  have h0 := h.later hb0
  have hG := Lib.hid (getA_c g b L x.acct _ h0)
  have hk := heap_alloc_new w (.cells #[.string x.acct, i64 x.sum] 173)
  have hlt := h.lt
  have H0 := Lib.hid h0
  obtain ⟨q, hq⟩ : ∃ q, getLR L x.acct = q := ⟨_, rfl⟩
  rw [hq] at hR hG
  have HR := Lib.hid hR.symm
  have L1 := Lib.hid fun W => less_c 0 x.sum W R64_0 hx
  have Hs64 := Lib.hid (sumR_R64 (0 - x.sum))
  obtain ⟨r, hr⟩ : ∃ r, sumR (0 - x.sum) = r := ⟨_, rfl⟩
  rw [hr] at L1 HR Hs64
  clear hR hL h h0 hx hq hr
  go_enter Tryz.func225, Tryz.ntmps225
  go_wp2_with fail
  generalize w.alloc (.cells #[.string x.acct, i64 x.sum] 173) = w0 at *
  refine hG.out.mono ?_
  rintro e w1 ⟨rfl, hF⟩
  have hb1 := below_on hb0 (Nat.le_refl _) hF
  have h1 := H0.out.later hF
  have hk1 := (hF.block _ (Array.getElem?_eq_some_iff.1 hk).1).trans hk
  clear hF hG H0 hb0 hk
  have hb2 := hb1.alloc hb1.size (.cells #[.string q.1.name, i64 q.1.hav, i64 q.1.set_, i64 q.1.lim] 113)
  have h2 := h1.later ((Below.refl _ _).alloc (Nat.le_refl _) (.cells #[.string q.1.name, i64 q.1.hav, i64 q.1.set_, i64 q.1.lim] 113))
  have hk2 := (((Below.refl _ _).alloc (Nat.le_refl _) (.cells #[.string q.1.name, i64 q.1.hav, i64 q.1.set_, i64 q.1.lim] 113)).block _ (Array.getElem?_eq_some_iff.1 hk1).1).trans hk1
  have m0 := cell_of_row _ w.heap.size 0 _ _ (0, 0) hk2
  have m1 := cell_of_row _ w.heap.size 1 _ _ (0, 0) hk2
  simp only [List.getElem?_toArray, List.getElem?_cons_zero, List.getElem?_cons_succ] at m0 m1
  have H2 := Lib.hid h2
  have Hk2 := Lib.hid hk2
  clear h1 hk1 hb1 h2 hk2
  by_cases hq0 : q.2 = 0
  · have g1 : (q.2 != 0) = false := by rw [hq0]; rfl
    have HR1 := Lib.hid (show R = (if r.2 ≠ 0 then (r.2, L) else turnL (givD r.1) L x.acct r.1) by rw [HR.out, if_neg (by simpa using hq0)])
    clear hq0 HR
    go_wp2_with fail
    generalize w1.alloc (.cells #[.string q.1.name, i64 q.1.hav, i64 q.1.set_, i64 q.1.lim] 113) = w2 at *
    refine (L1.out _).mono ?_
    rintro e w3 ⟨rfl, hF⟩
    have hlw := (Array.getElem?_eq_some_iff.1 Hk2.out).1
    have hb3 := below_on hb2 (Nat.le_refl _) hF
    have h3 := H2.out.later hF
    have m0 := (hF.cell (p := ⟨w.heap.size, 0, none⟩) hlw).trans m0
    clear hF L1 hb2 H2 m1
    by_cases hr0 : r.2 = 0
    · have g2 : (r.2 != 0) = false := by rw [hr0]; rfl
      have HR2 := Lib.hid (show R = turnL (givD r.1) L x.acct r.1 by rw [HR1.out, if_neg (by simpa using hr0)])
      have hT := Lib.hid (giveA_c g b L x.acct r.1 w3 h3 HL.out Hs64.out)
      clear hr0 HR1 h3
      go_wp2_with fail
      refine hT.out.mono ?_
      rintro e w4 ⟨rfl, h4, hG4⟩
      go_wp2
      go_ret
      exact ⟨by rw [HR2.out]; rfl, by rw [HR2.out]; exact h4, grown_trans (grown_of_below hb3 _) hG4⟩
    · have g2 : (r.2 != 0) = true := by simpa using hr0
      have HR2 := Lib.hid (show R = (r.2, L) by rw [HR1.out, if_pos hr0])
      clear hr0 HR1
      go_wp2
      go_ret
      exact ⟨by rw [HR2.out]; rfl, by rw [HR2.out]; exact h3, grown_of_below hb3 _⟩
  · have g1 : (q.2 != 0) = true := by simpa using hq0
    have HR1 := Lib.hid (show R = (q.2, L) by rw [HR.out, if_pos hq0])
    clear hq0 HR
    go_wp2
    go_ret
    exact ⟨by rw [HR1.out]; rfl, by rw [HR1.out]; exact H2.out, grown_of_below hb2 _⟩
theorem allL_step {L : List Ac} {l : List Leg} {k : Nat} (h : k < l.length) : allL L (l.drop k) = if (postL L l[k]).1 ≠ 0 then postL L l[k] else allL (postL L l[k]).2 (l.drop (k + 1)) := by
  rw [List.drop_eq_getElem_cons h]
  rfl
set_option maxRecDepth 100000 in
set_option maxHeartbeats 4000000 in
theorem all_c (g b : Nat) (L : List Ac) (A : Option Addr) (c : Nat) (l : List Leg) (w : World) (h : ChA w g b L) (hL : OkA L) (hl : SlS w (fun k => k < w.heap.size ∧ k ≠ b) A c l) (hn : l.length ≤ 65536) (hr : ∀ x ∈ l, R64 x.sum) :
    Calls Tryz.prog 199 #[.pointer (some ⟨g, 0, none⟩), .slice A l.length c] w fun e w' => e = .returned (i64 (allL L l).1) ∧ ChA w' g b (allL L l).2 ∧ w.grownBy w' (some b) := by
  obtain ⟨R, hR⟩ : ∃ R, allL L l = R := ⟨_, rfl⟩
  rw [hR]
  have HR := Lib.hid hR
  have HL := Lib.hid hL
  have Hr := Lib.hid hr
  have Hl := Lib.hid hl
  have H := Lib.hid h
  clear hR hL hr hl h
  go_enter Tryz.func199, Tryz.ntmps199
  go_wp2_with fail
  go_loopw [10] (fun i wr => ∃ (k : Nat) (Lk : List Ac), i = i64 k ∧ k ≤ l.length ∧ ChA wr g b Lk ∧ OkA Lk ∧ R = allL Lk (l.drop k) ∧ w.grownBy wr (some b)) (fun i _ => l.length - (intOf i).toNat)
  case atStart => exact ⟨0, L, rfl, by omega, H.out, HL.out, HR.out.symm, World.grownBy.refl _ _⟩
  case round =>
    obtain ⟨k, Lk, rfl, hk, hc, hok, hR, hg⟩ := hrel
    have hs := Lib.hid (Hl.out.grs (Gr.of_grown hg) (fun b' hb => ⟨hb.1, fun e => hb.2 (by injection e with e; exact e.symm)⟩))
    by_cases hlt : k < l.length
    · obtain ⟨bb, o, rfl, hbb, hsz, c0, c1⟩ := hs.out.leg hlt
      rw [allL_step hlt] at hR
      have HRk := Lib.hid hR
      have hB1 := (Below.refl wr.heap.size wr).alloc (Nat.le_refl _) (.cells #[.string l[k].acct, i64 l[k].sum] 173)
      have hP := Lib.hid (post_c g b Lk l[k] _ (hc.later hB1) hok (Hr.out _ (List.getElem_mem hlt)))
      have HP := Lib.hid (postL_ok hok l[k])
      have hg1 := grown_trans hg (grown_of_below hB1 (some b))
      generalize postL Lk l[k] = p at *
      clear hc hok hR hg hB1 hsz
      go_wp2_with fail
      refine hP.out.mono ?_
      rintro e w2 ⟨rfl, hc2, hg2⟩
      have hg3 := grown_trans hg1 hg2
      clear hP hg1 hg2 c0 c1
      by_cases hp : p.1 = 0
      · have g1 : (p.1 != 0) = false := by rw [hp]; rfl
        have HRn := Lib.hid (show R = allL p.2 (l.drop (k + 1)) by rw [HRk.out, if_neg (by simpa using hp)])
        clear hp HRk
        go_wp2
        go_roundw
        case rel => exact ⟨k + 1, p.2, by go_num, by omega, hc2, HP.out, HRn.out, hg3⟩
        case measure => simp [intOf]; omega
      · have g1 : (p.1 != 0) = true := by simpa using hp
        have HRn := Lib.hid (show R = p by rw [HRk.out, if_pos hp])
        clear hp HRk
        go_wp2
        go_ret
        exact ⟨by rw [HRn.out]; rfl, by rw [HRn.out]; exact hc2, hg3⟩
    · obtain rfl : k = l.length := by omega
      rw [List.drop_length] at hR
      have HRn := Lib.hid (show R = (0, Lk) from hR)
      clear hR
      go_wp2
      go_ret
      exact ⟨by rw [HRn.out]; rfl, by rw [HRn.out]; exact hc, hg⟩
theorem chcopyA_c (g b : Nat) (L : List Ac) (w : World) (h : ChA w g b L) :
    Calls Tryz.prog 108 #[.pointer (some ⟨g, 0, none⟩)] w fun e w' => ∃ g' b', e = .returned (.pointer (some ⟨g', 0, none⟩)) ∧ ChA w' g' b' L ∧ w.heap.size ≤ g' ∧ w.heap.size ≤ b' ∧ Below w.heap.size w w' := by
  obtain ⟨M, h, hr⟩ := h
  exact (chcopy_c g b M w h).mono fun _ _ ⟨g', b', h1, h2, h3⟩ => ⟨g', b', h1, ⟨M, h2, hr⟩, h3⟩
set_option maxRecDepth 100000 in
set_option maxHeartbeats 4000000 in
theorem check_c (g b : Nat) (L : List Ac) (A : Option Addr) (c : Nat) (l : List Leg) (w : World) (h : ChA w g b L) (hL : OkA L) (hl : Sl w w.heap.size A c l) (hn : l.length ≤ 65536) (hr : ∀ x ∈ l, R64 x.sum) :
    Calls Tryz.prog 198 #[.pointer (some ⟨g, 0, none⟩), .slice A l.length c] w fun e w' => e = .returned (i64 (checkL L l)) ∧ Below w.heap.size w w' := by
  obtain ⟨R, hR⟩ : ∃ R, checkL L l = R := ⟨_, rfl⟩
  rw [hR]
  unfold checkL at hR
  have HR := Lib.hid hR.symm
  have hk1 := Lib.hid (vright_c A c l w hl hn)
  have hk2 := Lib.hid fun W (hb : Below w.heap.size w W) => weigh_c A c l W (hl.later hb) hn hr
  have H := Lib.hid h
  have Hl := Lib.hid hl
  have HL := Lib.hid hL
  have Hr := Lib.hid hr
  clear hR hL hr hl h
  go_enter Tryz.func198, Tryz.ntmps198
  go_wp2_with fail
  refine hk1.out.mono ?_
  rintro e w1 ⟨rfl, hb1⟩
  clear hk1
  cases hlb : legsB l with
  | false =>
    have HR1 := Lib.hid (show R = 1 by rw [HR.out, if_pos hlb])
    clear hlb
    go_wp2
    go_ret
    exact ⟨by rw [HR1.out]; rfl, hb1⟩
  | true =>
    have HR1 := Lib.hid (show R = (if weighB l = false then 8 else (allL L l).1) by rw [HR.out, if_neg (by rw [hlb]; decide)])
    clear hlb HR
    go_wp2_with fail
    refine (hk2.out _ hb1).mono ?_
    rintro e w2 ⟨rfl, hF⟩
    have hb2 := below_on hb1 (Nat.le_refl _) hF
    clear hF hk2 hb1
    cases hwb : weighB l with
    | false =>
      have HR2 := Lib.hid (show R = 8 by rw [HR1.out, if_pos hwb])
      clear hwb
      go_wp2
      go_ret
      exact ⟨by rw [HR2.out]; rfl, hb2⟩
    | true =>
      have HR2 := Lib.hid (show R = (allL L l).1 by rw [HR1.out, if_neg (by rw [hwb]; decide)])
      have hC := Lib.hid (chcopyA_c g b L w2 (H.out.later hb2))
      clear hwb HR1
      go_wp2_with fail
      refine hC.out.mono ?_
      rintro e w3 ⟨g', b', rfl, hc3, hg', hb', hF⟩
      have hb3 := below_on hb2 (Nat.le_refl _) hF
      have hA := Lib.hid (all_c g' b' L A c l w3 hc3 HL.out ((Hl.out.later hb2).keep (fun p hp => hF.cell hp) (fun k hk => ⟨Nat.lt_of_lt_of_le hk hF.size, by omega⟩)) hn Hr.out)
      have hlb' := hc3.lt
      have hsz := hb2.size
      generalize allL L l = p at *
      clear hF hC
      go_wp2_with fail
      refine hA.out.mono ?_
      rintro e w4 ⟨rfl, hc4, hg4⟩
      go_wp2
      go_ret
      exact ⟨by rw [HR2.out]; rfl, hb3.trans (below_of_grown hg4 hb3.size (fun k e => by injection e with e; omega))⟩
set_option maxRecDepth 100000 in
set_option maxHeartbeats 4000000 in
theorem make_c (g b : Nat) (L : List Ac) (A : Option Addr) (c : Nat) (l : List Leg) (w : World) (h : ChA w g b L) (hL : OkA L) (hl : SlS w (fun k => k < w.heap.size ∧ k ≠ b) A c l) (hn : l.length ≤ 65536) (hr : ∀ x ∈ l, R64 x.sum) :
    Calls Tryz.prog 174 #[.pointer (some ⟨g, 0, none⟩), .slice A l.length c] w fun e w' => e = .returned (i64 (makeL L l).1) ∧ ChA w' g b (makeL L l).2 ∧ w.grownBy w' (some b) := by
  obtain ⟨R, hR⟩ : ∃ R, makeL L l = R := ⟨_, rfl⟩
  rw [hR]
  unfold makeL at hR
  have HR := Lib.hid hR.symm
  have hk1 := Lib.hid (check_c g b L A c l w h hL (hl.mono fun _ h => h.1) hn hr)
  have H := Lib.hid h
  have Hl := Lib.hid hl
  have HL := Lib.hid hL
  have Hr := Lib.hid hr
  clear hR hL hr hl h
  generalize checkL L l = q at *
  go_enter Tryz.func174, Tryz.ntmps174
  go_wp2_with fail
  refine hk1.out.mono ?_
  rintro e w1 ⟨rfl, hb1⟩
  clear hk1
  by_cases hq : q = 0
  · have g1 : (q != 0) = false := by rw [hq]; rfl
    have HR1 := Lib.hid (show R = allL L l by rw [HR.out, if_neg (by simpa using hq)])
    have hA := Lib.hid (all_c g b L A c l w1 (H.out.later hb1) HL.out (Hl.out.keep (fun p hp => hb1.cell hp.1) (fun k hk => ⟨Nat.lt_of_lt_of_le hk.1 hb1.size, hk.2⟩)) hn Hr.out)
    generalize allL L l = p at *
    clear hq HR
    go_wp2_with fail
    refine hA.out.mono ?_
    rintro e w4 ⟨rfl, hc4, hg4⟩
    go_wp2
    go_ret
    exact ⟨by rw [HR1.out]; rfl, by rw [HR1.out]; exact hc4, grown_trans (grown_of_below hb1 _) hg4⟩
  · have g1 : (q != 0) = true := by simpa using hq
    have HR1 := Lib.hid (show R = (q, L) by rw [HR.out, if_pos hq])
    clear hq HR
    go_wp2
    go_ret
    exact ⟨by rw [HR1.out]; rfl, by rw [HR1.out]; exact H.out.later hb1, grown_of_below hb1 _⟩
end Go.Proofs.YtgholbeehkfbiaaGreat

/- hold: Take -/
namespace Go.Proofs.YtgholbeehkfbiaaGreat
open Go.RowKit
def legs2 (a p : ByteArray) (s : Int) : List Leg := [⟨a, -s⟩, ⟨p, s⟩]
def takeH (L : List Ac) (H : List Held) (k : ByteArray) (n : Int) (p : ByteArray) (s : Int) : Int × List Ac × List Held := match getK Held.key H ⟨k, n⟩ with
  | none => (6, L, H)
  | some y => if s < 1 ∨ y.sum < s then (13, L, H) else if (turnL (asiD (-y.sum)) L k (-y.sum)).1 ≠ 0 then ((turnL (asiD (-y.sum)) L k (-y.sum)).1, L, H)
    else if checkL (turnL (asiD (-y.sum)) L k (-y.sum)).2 (legs2 k p s) ≠ 0 then (checkL (turnL (asiD (-y.sum)) L k (-y.sum)).2 (legs2 k p s), L, H)
    else ((makeL (freeHL L H k n).2.1 (legs2 k p s)).1, (makeL (freeHL L H k n).2.1 (legs2 k p s)).2, (freeHL L H k n).2.2)
theorem freeHL_ok {L : List Ac} (h : OkA L) (H : List Held) (k : ByteArray) (n : Int) : OkA (freeHL L H k n).2.1 := by
  unfold freeHL
  cases getK Held.key H ⟨k, n⟩ with
  | none => exact h
  | some y => exact turnL_ok (asiD_ok _) h _ _
theorem freeHL_okH {H : List Held} (h : OkH H) (L : List Ac) (k : ByteArray) (n : Int) : OkH (freeHL L H k n).2.2 := by
  unfold freeHL
  cases getK Held.key H ⟨k, n⟩ with
  | none => exact h
  | some y =>
    dsimp only
    split
    · exact fun x hx => h x (List.mem_filter.1 hx).1
    · exact h
set_option maxRecDepth 100000 in
set_option maxHeartbeats 8000000 in
theorem hotake_c (g b gh bh : Nat) (L : List Ac) (H : List Held) (k : ByteArray) (n : Int) (p : ByteArray) (s : Int) (w : World) (h : ChA w g b L) (hh : HoA w gh bh H) (hd : gh ≠ b ∧ bh ≠ b ∧ g ≠ bh) (hL : OkA L) (hH : OkH H) (hs : R64 s) (hk : k.size ≤ maxLen) (hp : p.size ≤ maxLen) :
    Calls Tryz.prog 177 #[.pointer (some ⟨gh, 0, none⟩), .pointer (some ⟨g, 0, none⟩), .string k, i64 n, .string p, i64 s] w fun e w' => e = .returned (i64 (takeH L H k n p s).1) ∧ ChA w' g b (takeH L H k n p s).2.1 ∧ HoA w' gh bh (takeH L H k n p s).2.2 ∧ G2 w w' b bh := by
  obtain ⟨R, hR⟩ : ∃ R, takeH L H k n p s = R := ⟨_, rfl⟩
  rw [hR]
  unfold takeH at hR
  have HR := Lib.hid hR.symm
  have HL := Lib.hid hL
  have HH := Lib.hid hH
  have Hd := Lib.hid hd
  have H0 := Lib.hid h
  have HH0 := Lib.hid hh
  have hlg := Lib.hid h.lt
  have hlh := Lib.hid hh.lt
  have Hkk := Lib.hid hk
  have Hp := Lib.hid hp
  obtain ⟨MH, hhi, hrh⟩ := hh
  have c0 := cell_of_row _ gh 0 _ _ (0, 0) hhi.cell
  simp only [List.getElem?_toArray, List.getElem?_cons_zero] at c0
  have hlk := run_lookup (P := Tryz.prog) hkKey Tryz.underlying199 hhi.map ⟨k, n⟩ (i64 0) (by kernel_rfl) true
  rw [getM_hv, hrh.get_] at hlk
  obtain ⟨o, ho⟩ : ∃ o, getK Held.key H ⟨k, n⟩ = o := ⟨_, rfl⟩
  rw [ho] at hlk
  have Ho := Lib.hid ho
  unfold Hk.v at hlk
  clear hR hL hH hd h hhi hrh ho hk hp
  cases o with
  | none =>
    have HR1 := Lib.hid (show R = (6, L, H) by rw [HR.out, Ho.out])
    clear HR
    go_enter Tryz.func177, Tryz.ntmps177
    go_wp2
    go_ret
    exact ⟨by rw [HR1.out]; rfl, by rw [HR1.out]; exact H0.out, by rw [HR1.out]; exact HH0.out, G2.of_below (Below.refl _ _) _ _⟩
  | some y =>
    have hy := HH.out y (getK_mem Ho.out).1
    have hR1 := HR.out
    rw [Ho.out] at hR1
    dsimp only at hR1
    have HR1 := Lib.hid hR1
    clear hR1
    obtain ⟨-, -, hy1, hy2, -⟩ := hy
    clear HR
    by_cases hbad : s < 1 ∨ y.sum < s
    · have HR2 := Lib.hid (show R = (13, L, H) by rw [HR1.out, if_pos hbad])
      clear HR1
      by_cases h1 : s < 1
      · have g1 : decide (s < 1) = true := decide_eq_true h1
        clear h1 hbad
        go_enter Tryz.func177, Tryz.ntmps177
        go_wp2
        go_ret
        exact ⟨by rw [HR2.out]; rfl, by rw [HR2.out]; exact H0.out, by rw [HR2.out]; exact HH0.out, G2.of_below (Below.refl _ _) _ _⟩
      · have g1 : decide (s < 1) = false := decide_eq_false h1
        have g2 : decide (y.sum < s) = true := decide_eq_true (hbad.resolve_left h1)
        clear h1 hbad
        go_enter Tryz.func177, Tryz.ntmps177
        go_wp2
        go_ret
        exact ⟨by rw [HR2.out]; rfl, by rw [HR2.out]; exact H0.out, by rw [HR2.out]; exact HH0.out, G2.of_below (Below.refl _ _) _ _⟩
    · have g1 : decide (s < 1) = false := decide_eq_false (fun e => hbad (.inl e))
      have g2 : decide (y.sum < s) = false := decide_eq_false (fun e => hbad (.inr e))
      have HR2 := Lib.hid (show R = _ by rw [HR1.out, if_neg hbad])
      have hw1 : wrap64 (-s) = -s := by rw [← IntWalk.i64_left, IntKind.wrap_i64]; omega
      have hw2 : wrap64 (-y.sum) = -y.sum := by rw [← IntWalk.i64_left, IntKind.wrap_i64]; omega
      have hns := R64_neg ⟨hy1, hy2⟩
      have hss : R64 (-s) ∧ R64 s := by unfold R64 at hs ⊢; omega
      clear HR1 hbad
      have hb1 := (Below.refl w.heap.size w).alloc (Nat.le_refl _) (.cells #[.string k, i64 (-s), .string p, i64 s] 173)
      have hl1 := (own_lit (w := w) (base := w.heap.size) 173 #[.string k, i64 (-s), .string p, i64 s] (legs2 k p s) (Nat.le_refl _) rfl (by simp [legs2]) (fun x hx => by
        simp only [legs2, List.mem_cons, List.not_mem_nil, or_false] at hx
        rcases hx with rfl | rfl
        · exact Hkk.out
        · exact Hp.out))
      have hls : SlS (w.alloc (.cells #[.string k, i64 (-s), .string p, i64 s] 173)) (fun j => j = w.heap.size) (some ⟨w.heap.size, 0, none⟩) 2 (legs2 k p s) := by
        have h2 := hl1.sl_of
        refine ⟨h2.1, h2.2.1, fun hn => ?_, h2.2.2.2⟩
        obtain ⟨b, o, e, -, hc⟩ := h2.2.2.1 hn
        injection e with e
        injection e with e1 e2
        subst e1 e2
        exact ⟨w.heap.size, 0, rfl, rfl, hc⟩
      have hr64 : ∀ x ∈ legs2 k p s, R64 x.sum := fun x hx => by
        simp only [legs2, List.mem_cons, List.not_mem_nil, or_false] at hx
        rcases hx with rfl | rfl
        · exact hss.1
        · exact hss.2
      have Hr := Lib.hid hr64
      have hC := Lib.hid (chcopyA_c g b L _ (H0.out.later hb1))
      have hlen : (legs2 k p s).length = 2 := rfl
      have Hls := Lib.hid hls
      generalize hlg2 : legs2 k p s = ls at *
      clear hl1 hls hr64 hlg2
      have hlen2 := Lib.hid hlen
      clear hlen
      go_enter Tryz.func177, Tryz.ntmps177
      go_wp2_with fail
      have hwsz : w.heap.size + 1 = (w.alloc (.cells #[.string k, i64 (-s), .string p, i64 s] 173)).heap.size := by simp
      generalize w.alloc (.cells #[.string k, i64 (-s), .string p, i64 s] 173) = w0 at *
      refine hC.out.mono ?_
      rintro e w1 ⟨g', b', rfl, hc1, hg', hb', hF⟩
      have Hls1 := Lib.hid (show SlS w1 (fun j => j = w.heap.size) (some ⟨w.heap.size, 0, none⟩) 2 ls from Hls.out.keep (fun p hp => hF.cell (by have : p.block = w.heap.size := hp; omega)) (fun _ h => h))
      have hb2 := below_on hb1 (Nat.le_refl _) hF
      have hA := Lib.hid (asideA_c g' b' L k (-y.sum) w1 hc1 HL.out hns)
      have hOk2 := Lib.hid (turnL_ok (asiD_ok (-y.sum)) HL.out k (-y.sum))
      have hsz1 := hF.size
      have hlc1 := Lib.hid hc1.lt
      obtain ⟨q, hq⟩ : ∃ q, turnL (asiD (-y.sum)) L k (-y.sum) = q := ⟨_, rfl⟩
      rw [hq] at hA hOk2 HR2
      clear hC hF Hls hb1 hlk c0 hc1 hq
      go_wp2_with fail
      refine hA.out.mono ?_
      rintro e w2 ⟨rfl, hc2, hg2⟩
      have Hls2 := Lib.hid (show SlS w2 (fun j => j = w.heap.size) (some ⟨w.heap.size, 0, none⟩) 2 ls from Hls1.out.keep (fun p hp => World.cell?_of_block (hg2.block _ (by have : p.block = w.heap.size := hp; omega) (fun e => by have : p.block = w.heap.size := hp; injection e with e; omega))) (fun _ h => h))
      have hb3 := hb2.trans (below_of_grown hg2 hb2.size (fun j e => by injection e with e; omega))
      have hs2 := hg2.size
      clear hA hg2 Hls1 hb2
      by_cases hq0 : q.1 = 0
      · have g3 : (q.1 != 0) = false := by rw [hq0]; rfl
        have HR3 := Lib.hid (show R = _ by rw [HR2.out, if_neg (by simpa using hq0)])
        have hK := Lib.hid (check_c g' b' q.2 _ _ ls w2 hc2 hOk2.out (Hls2.out.mono (fun j hj => by omega)) (by rw [hlen2.out]; decide) Hr.out)
        rw [hlen2.out] at hK
        obtain ⟨r, hr⟩ : ∃ r, checkL q.2 ls = r := ⟨_, rfl⟩
        rw [hr] at hK HR3
        clear hq0 HR2 hr
        go_wp2_with fail
        refine hK.out.mono ?_
        rintro e w3 ⟨rfl, hF⟩
        have hb4 := below_on hb3 (Nat.le_refl _) hF
        have Hls3 := Lib.hid (show SlS w3 (fun j => j = w.heap.size) (some ⟨w.heap.size, 0, none⟩) 2 ls from Hls2.out.keep (fun p hp => hF.cell (by have : p.block = w.heap.size := hp; omega)) (fun _ h => h))
        have hs3 := hF.size
        have HC := Lib.hid (H0.out.later hb4)
        have HM := Lib.hid (HH0.out.later hb4)
        clear hF Hls2 hK hc2
        by_cases hr0 : r = 0
        · have g4 : (r != 0) = false := by rw [hr0]; rfl
          have HR4 := Lib.hid (show R = _ by rw [HR3.out, if_neg (by simpa using hr0)])
          have hFr := Lib.hid (hofreeA_c g b gh bh L H k n w3 HC.out HM.out Hd.out HL.out HH.out)
          have hOk3 := Lib.hid (freeHL_ok HL.out H k n)
          obtain ⟨f, hf⟩ : ∃ f, freeHL L H k n = f := ⟨_, rfl⟩
          rw [hf] at hFr hOk3 HR4
          clear hr0 HR3 hf
          go_wp2_with fail
          refine hFr.out.mono ?_
          rintro e w4 ⟨rfl, hc4, hh4, hg4⟩
          have hlb := hlg.out.2.1
          have hlbh := hlh.out.2.1
          have Hls4 := Lib.hid (show SlS w4 (fun j => j = w.heap.size) (some ⟨w.heap.size, 0, none⟩) 2 ls from Hls3.out.keep (fun p hp => World.cell?_of_block (hg4.block _ (by have : p.block = w.heap.size := hp; omega) (fun e => by have : p.block = w.heap.size := hp; omega) (fun e => by have : p.block = w.heap.size := hp; omega))) (fun _ h => h))
          have hs4 := hg4.size
          have hMk := Lib.hid (make_c g b f.2.1 _ _ ls w4 hc4 hOk3.out (Hls4.out.mono (fun j hj => ⟨by omega, by omega⟩)) (by rw [hlen2.out]; decide) Hr.out)
          rw [hlen2.out] at hMk
          obtain ⟨m, hm⟩ : ∃ m, makeL f.2.1 ls = m := ⟨_, rfl⟩
          rw [hm] at hMk HR4
          clear hm hFr Hls3
          go_wp2_with fail
          refine hMk.out.mono ?_
          rintro e w5 ⟨rfl, hc5, hg5⟩
          have hh5 := hh4.kept (Gr.of_grown hg5) (fun e => by injection e with e; exact Hd.out.1 e.symm) (fun e => by injection e with e; exact Hd.out.2.1 e.symm)
          have hgz := ((G2.of_below hb4 b bh).trans hg4).trans (G2.fst hg5 bh)
          clear hMk hc4 hh4 hg4 hg5
          go_wp2
          go_ret
          exact ⟨by rw [HR4.out]; rfl, by rw [HR4.out]; exact hc5, by rw [HR4.out]; exact hh5, hgz⟩
        · have g4 : (r != 0) = true := by simpa using hr0
          have HR4 := Lib.hid (show R = (r, L, H) by rw [HR3.out, if_pos hr0])
          clear hr0 HR3
          go_wp2
          go_ret
          exact ⟨by rw [HR4.out]; rfl, by rw [HR4.out]; exact HC.out, by rw [HR4.out]; exact HM.out, G2.of_below hb4 _ _⟩
      · have g3 : (q.1 != 0) = true := by simpa using hq0
        have HR3 := Lib.hid (show R = (q.1, L, H) by rw [HR2.out, if_pos hq0])
        clear hq0 HR2
        go_wp2
        go_ret
        exact ⟨by rw [HR3.out]; rfl, by rw [HR3.out]; exact H0.out.later hb3, by rw [HR3.out]; exact HH0.out.later hb3, G2.of_below hb3 _ _⟩
end Go.Proofs.YtgholbeehkfbiaaGreat

/- chart: what a turn may be -/
namespace Go.Proofs.YtgholbeehkfbiaaGreat
open Go.RowKit
theorem sumR_0 {n : Int} (h : (sumR n).2 = 0) : (sumR n).1 = n := by
  unfold sumR at *
  split at h
  · cases h
  · rw [if_neg (by assumption)]
theorem turnL_cases (D : Ac → Ac × Int) (L : List Ac) (k : ByteArray) (x : Int) : ((turnL D L k x).1 ≠ 0 ∧ (turnL D L k x).2 = L) ∨ ((turnL D L k x).1 = 0 ∧ ∃ a, getK Ac.name L k = some a ∧ (D a).2 = 0 ∧ 0 ≤ (D a).1.set_ ∧ (0 < x → freeA a x = true) ∧ (turnL D L k x).2 = setK Ac.name L (D a).1) := by
  unfold turnL
  cases hg : getK Ac.name L k with
  | none => exact .inl ⟨by show (6 : Int) ≠ 0; decide, rfl⟩
  | some a =>
    dsimp only
    by_cases h1 : (D a).2 ≠ 0
    · rw [if_pos h1]; exact .inl ⟨h1, rfl⟩
    · rw [if_neg h1]
      by_cases h2 : 0 < x ∧ freeA a x = false
      · rw [if_pos h2]; exact .inl ⟨by show (9 : Int) ≠ 0; decide, rfl⟩
      · rw [if_neg h2]
        by_cases h3 : (D a).1.set_ < 0
        · rw [if_pos h3]; exact .inl ⟨by show (13 : Int) ≠ 0; decide, rfl⟩
        · rw [if_neg h3]
          exact .inr ⟨rfl, a, rfl, by simpa using h1, by omega, fun h => by
            cases hf : freeA a x with
            | true => rfl
            | false => exact absurd ⟨h, hf⟩ h2, rfl⟩
end Go.Proofs.YtgholbeehkfbiaaGreat
