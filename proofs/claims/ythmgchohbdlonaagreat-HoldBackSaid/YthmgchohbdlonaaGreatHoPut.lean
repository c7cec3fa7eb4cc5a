/- hold: New, Free, Put, as holds in order -/
import Derived.Test.YthmgchohbdlonaaGreatRows
import Derived.Test.YthmgchohbdlonaaGreatHoOf
import Derived.Test.YthmgchohbdlonaaGreatChA
import Derived.WalkKit
import Derived.WalkSpells
import Derived.WalkLawsBesides
import Derived.Deep.QuietTactic
import Derived.BigQuiet
import Derived.Laws.StructEq
import Derived.Deep.DeepFit
import Derived.StillTailTactics
namespace Go.Proofs.YthmgchohbdlonaaGreat
open Go.RowKit
theorem R64_neg {s : Int} (h : 1 ≤ s ∧ s ≤ 9223372036854775807) : R64 (-s) := ⟨by omega, by omega⟩
def freeHL (L : List Ac) (H : List Held) (k : ByteArray) (n : Int) : Int × List Ac × List Held := match getK Held.key H ⟨k, n⟩ with
  | none => (6, L, H)
  | some y => ((turnL (asiD (-y.sum)) L k (-y.sum)).1, (turnL (asiD (-y.sum)) L k (-y.sum)).2, if (turnL (asiD (-y.sum)) L k (-y.sum)).1 = 0 then delK Held.key H ⟨k, n⟩ else H)
def putH (L : List Ac) (H : List Held) (x : Held) : Int × List Ac × List Held :=
  if x.num < 1 ∨ 9999 < x.num ∨ x.sum < 1 then (1, L, H) else if (getK Held.key H x.key).isSome = true then (7, L, H) else if (ofL H x.acct).length = 8 then (5, L, H)
  else ((turnL (asiD x.sum) L x.acct x.sum).1, (turnL (asiD x.sum) L x.acct x.sum).2, if (turnL (asiD x.sum) L x.acct x.sum).1 = 0 then insB ltH x H else H)
theorem RkH.get_ {M : List (Hk × Int)} {L : List Held} (h : RkH M L) (k : Hk) : getM M k = (getK Held.key L k).map Held.sum := by
  have := RK.get keyH h k
  rw [← this, Option.map_map]
  cases getM M k <;> rfl
theorem RkH.sums {M : List (Hk × Int)} {L : List Held} (hr : RkH M L) (hok : OkH L) : ∀ y ∈ M, 1 ≤ y.2 ∧ y.2 ≤ 9223372036854775807 := fun y hy => by
  have := hok (gH y) (hr.perm.mem_iff.1 (List.mem_map.2 ⟨y, hy, rfl⟩))
  exact ⟨this.2.2.1, this.2.2.2.1⟩
theorem honewA_c (w : World) : Calls Tryz.prog 8 #[] w fun e w' => e = .returned (.pointer (some ⟨w.heap.size + 1, 0, none⟩)) ∧ HoA w' (w.heap.size + 1) w.heap.size [] ∧ Below w.heap.size w w' :=
  (honew_c w).mono fun _ _ ⟨h1, h2, h3⟩ => ⟨h1, ⟨[], h2, RK.nil⟩, h3⟩
theorem freeH_eq {MC : List (ByteArray × Ac)} {MH : List (Hk × Int)} {L : List Ac} {H : List Held} (hc : RkA MC L) (hh : RkH MH H) (k : ByteArray) (n : Int) :
    (freeH MC MH k n).1 = (freeHL L H k n).1 ∧ RkA (freeH MC MH k n).2.1 (freeHL L H k n).2.1 ∧ RkH (freeH MC MH k n).2.2 (freeHL L H k n).2.2 := by
  unfold freeH freeHL
  rw [hh.get_ ⟨k, n⟩]
  cases hg : getK Held.key H ⟨k, n⟩ with
  | none => exact ⟨rfl, hc, hh⟩
  | some y =>
    simp only [Option.map_some]
    obtain ⟨e1, e2⟩ := hc.turn (asiD (-y.sum)) (fun _ => rfl) k (-y.sum)
    refine ⟨e1, e2, ?_⟩
    rw [e1]
    split
    · exact RK.del hh ⟨k, n⟩
    · exact hh
theorem hofreeA_c (g b gh bh : Nat) (L : List Ac) (H : List Held) (k : ByteArray) (n : Int) (w : World) (h : ChA w g b L) (hh : HoA w gh bh H) (hd : gh ≠ b ∧ bh ≠ b ∧ g ≠ bh) (hL : OkA L) (hH : OkH H) :
    Calls Tryz.prog 21 #[.pointer (some ⟨gh, 0, none⟩), .pointer (some ⟨g, 0, none⟩), .string k, i64 n] w fun e w' => e = .returned (i64 (freeHL L H k n).1) ∧ ChA w' g b (freeHL L H k n).2.1 ∧ HoA w' gh bh (freeHL L H k n).2.2 ∧ G2 w w' b bh := by
  obtain ⟨MC, h, hr⟩ := h
  obtain ⟨MH, hh, hrh⟩ := hh
  obtain ⟨e1, e2, e3⟩ := freeH_eq hr hrh k n
  exact (hofree_c g b gh bh MC MH k n w h hh hd (hL.inM hr) (hrh.sums hH)).mono fun _ _ ⟨h1, h2, h3, h4⟩ => ⟨by rw [← e1]; exact h1, ⟨_, h2, e2⟩, ⟨_, h3, e3⟩, h4⟩
theorem Gr.of_g2 {w w' : World} {b c : Nat} (h : G2 w w' b c) : Gr w w' (fun k => k = b ∨ k = c) := ⟨h.os, h.tape, h.output, h.size, fun k hk hn => h.block k hk (fun e => hn (.inl e)) (fun e => hn (.inr e))⟩
set_option maxRecDepth 100000 in
set_option maxHeartbeats 8000000 in
theorem hoput_c (g b gh bh : Nat) (L : List Ac) (H : List Held) (x : Held) (w : World) (h : ChA w g b L) (hh : HoA w gh bh H) (hd : gh ≠ b ∧ bh ≠ b ∧ g ≠ bh) (hL : OkA L) (hH : OkH H) (hx : R64 x.sum) (hn : H.length ≤ 65536) :
    Calls Tryz.prog 18 #[.pointer (some ⟨gh, 0, none⟩), .pointer (some ⟨g, 0, none⟩), x.v] w fun e w' => e = .returned (i64 (putH L H x).1) ∧ ChA w' g b (putH L H x).2.1 ∧ HoA w' gh bh (putH L H x).2.2 ∧ G2 w w' b bh := by
  obtain ⟨R, hR⟩ : ∃ R, putH L H x = R := ⟨_, rfl⟩
  rw [hR]
  unfold putH at hR
  have HR := Lib.hid hR.symm
  have Hx := Lib.hid hx
  have HL := Lib.hid hL
  have HH := Lib.hid hH
  have Hd := Lib.hid hd
  have Hn := Lib.hid hn
  have hb0 := (Below.refl w.heap.size w).alloc (Nat.le_refl _) (.cells #[i64 x.num, .string x.acct, i64 x.sum] 54)
  have H0 := Lib.hid (h.later hb0)
  have HH0 := Lib.hid (hh.later hb0)
  have hlg := Lib.hid h.lt
  have hlh := Lib.hid hh.lt
  clear hR hL hH hd hx hn h hh
  by_cases hbad : x.num < 1 ∨ 9999 < x.num ∨ x.sum < 1
  · have HR1 := Lib.hid (show R = (1, L, H) by rw [HR.out, if_pos hbad])
    clear HR
    by_cases h1 : x.num < 1
    · have g1 : decide (x.num < 1) = true := decide_eq_true h1
      clear h1 hbad
      go_enter Tryz.func18, Tryz.ntmps18
      go_wp2
      go_ret
      exact ⟨by rw [HR1.out]; rfl, by rw [HR1.out]; exact H0.out, by rw [HR1.out]; exact HH0.out, G2.of_below hb0 _ _⟩
    · have g1 : decide (x.num < 1) = false := decide_eq_false h1
      by_cases h2 : 9999 < x.num
      · have g2 : decide (9999 < x.num) = true := decide_eq_true h2
        clear h1 h2 hbad
        go_enter Tryz.func18, Tryz.ntmps18
        go_wp2
        go_ret
        exact ⟨by rw [HR1.out]; rfl, by rw [HR1.out]; exact H0.out, by rw [HR1.out]; exact HH0.out, G2.of_below hb0 _ _⟩
      · have g2 : decide (9999 < x.num) = false := decide_eq_false h2
        have g3 : decide (x.sum < 1) = true := decide_eq_true ((hbad.resolve_left h1).resolve_left h2)
        clear h1 h2 hbad
        go_enter Tryz.func18, Tryz.ntmps18
        go_wp2
        go_ret
        exact ⟨by rw [HR1.out]; rfl, by rw [HR1.out]; exact H0.out, by rw [HR1.out]; exact HH0.out, G2.of_below hb0 _ _⟩
  · have g1 : decide (x.num < 1) = false := decide_eq_false (fun e => hbad (.inl e))
    have g2 : decide (9999 < x.num) = false := decide_eq_false (fun e => hbad (.inr (.inl e)))
    have g3 : decide (x.sum < 1) = false := decide_eq_false (fun e => hbad (.inr (.inr e)))
    have HR1 := Lib.hid (show R = _ by rw [HR.out, if_neg hbad])
    clear HR hbad
    have hb1 := hb0.alloc (by simp) (.cells #[.string x.acct, i64 x.num] 73)
    have h1 := H0.out.later ((Below.refl _ _).alloc (Nat.le_refl _) (.cells #[.string x.acct, i64 x.num] 73))
    have hh1 := HH0.out.later ((Below.refl _ _).alloc (Nat.le_refl _) (.cells #[.string x.acct, i64 x.num] 73))
    have hx1 := heap_alloc2_old w (.cells #[i64 x.num, .string x.acct, i64 x.sum] 54) (.cells #[.string x.acct, i64 x.num] 73)
    have hk1 := heap_alloc2_new w (.cells #[i64 x.num, .string x.acct, i64 x.sum] 54) (.cells #[.string x.acct, i64 x.num] 73)
    obtain ⟨MH, hhi, hrh⟩ := hh1
    have c0 := cell_of_row _ gh 0 _ _ (0, 0) hhi.cell
    have c1 := cell_of_row _ (w.heap.size + 1) 0 _ _ (0, 0) hk1
    have c2 := cell_of_row _ (w.heap.size + 1) 1 _ _ (0, 0) hk1
    simp only [List.getElem?_toArray, List.getElem?_cons_zero, List.getElem?_cons_succ] at c0 c1 c2
    have hlk := run_lookup (P := Tryz.prog) hkKey Tryz.underlying64 (hhi.later (Below.refl _ _).drew).map x.key (i64 0) (by kernel_rfl) true
    rw [getM_hv, hrh.get_] at hlk
    obtain ⟨o, ho⟩ : ∃ o, getK Held.key H x.key = o := ⟨_, rfl⟩
    rw [ho] at hlk
    have HM := Lib.hid (show HoA _ gh bh H from ⟨MH, hhi, hrh⟩)
    have HC := Lib.hid h1
    have Ho := Lib.hid ho
    unfold Held.key Hk.v at hlk
    clear h1 hhi hrh H0 HH0 hb0 ho
    go_enter Tryz.func18, Tryz.ntmps18
    go_upto_region 4 with fail
    generalize (w.alloc (.cells #[i64 x.num, .string x.acct, i64 x.sum] 54)).alloc (.cells #[.string x.acct, i64 x.num] 73) = w0 at *
    go_cut [8, 9] from 11 (fun s8 s9 wx => s8 = i64 ((o.map Held.sum).getD 0) ∧ s9 = .bool o.isSome ∧ w0.drew = wx)
    case first =>
      go_region_with fail
      all_goals (go_wp2_with fail; go_meet; exact ⟨by cases o <;> rfl, by simp, rfl⟩)
    case rest =>
    obtain ⟨rfl, rfl, rfl⟩ := hcut
    have HC2 := Lib.hid (HC.out.later (Below.refl _ _).drew)
    have HM2 := Lib.hid (HM.out.later (Below.refl _ _).drew)
    have hb2 := hb1.drew
    have hx2 : w0.drew.heap[w.heap.size]? = some (.cells #[i64 x.num, .string x.acct, i64 x.sum] 54 (0, 0)) := hx1
    have hk2 : w0.drew.heap[w.heap.size + 1]? = some (.cells #[.string x.acct, i64 x.num] 73 (0, 0)) := hk1
    generalize w0.drew = w1 at *
    have n0 := cell_of_row _ w.heap.size 0 _ _ (0, 0) hx2
    have n1 := cell_of_row _ w.heap.size 1 _ _ (0, 0) hx2
    have n2 := cell_of_row _ w.heap.size 2 _ _ (0, 0) hx2
    simp only [List.getElem?_toArray, List.getElem?_cons_zero, List.getElem?_cons_succ] at n0 n1 n2
    clear hlk c0 c1 c2 hb1 hx1 hk1 HC HM
    cases o with
    | some y =>
      have HR2 := Lib.hid (show R = (7, L, H) by rw [HR1.out, Ho.out]; rfl)
      clear HR1
      go_wp2
      go_ret
      exact ⟨by rw [HR2.out]; rfl, by rw [HR2.out]; exact HC2.out, by rw [HR2.out]; exact HM2.out, G2.of_below hb2 _ _⟩
    | none =>
      have hOf := Lib.hid (hoof_c gh bh H x.acct w1 HM2.out HH.out Hn.out)
      have HR2 := Lib.hid (show R = (if (ofL H x.acct).length = 8 then (5, L, H) else ((turnL (asiD x.sum) L x.acct x.sum).1, (turnL (asiD x.sum) L x.acct x.sum).2, if (turnL (asiD x.sum) L x.acct x.sum).1 = 0 then insB ltH x H else H)) by rw [HR1.out, Ho.out]; rfl)
      clear HR1
      go_wp2_with fail
      refine hOf.out.mono ?_
      rintro e w2 ⟨v, rfl, hO, hF⟩
      obtain ⟨A, c, rfl, -⟩ := hO.sl
      have hb3 := below_on hb2 (Nat.le_refl _) hF
      have HC3 := Lib.hid (HC2.out.later hF)
      have HM3 := Lib.hid (HM2.out.later hF)
      have hx3 := (hF.block _ (Array.getElem?_eq_some_iff.1 hx2).1).trans hx2
      have hk3 := (hF.block _ (Array.getElem?_eq_some_iff.1 hk2).1).trans hk2
      have n1 := (hF.cell (p := ⟨w.heap.size, 1, none⟩) (Array.getElem?_eq_some_iff.1 hx2).1).trans n1
      have n2 := (hF.cell (p := ⟨w.heap.size, 2, none⟩) (Array.getElem?_eq_some_iff.1 hx2).1).trans n2
      clear hF hO hOf hb2 HC2 HM2 hx2 hk2 n0
      generalize (ofL H x.acct).length = m at *
      by_cases h8 : m = 8
      · have g4 : ((m : Int) == 8) = true := by rw [h8]; rfl
        have HR3 := Lib.hid (show R = (5, L, H) by rw [HR2.out, if_pos h8])
        clear HR2 h8
        go_wp2
        go_ret
        exact ⟨by rw [HR3.out]; rfl, by rw [HR3.out]; exact HC3.out, by rw [HR3.out]; exact HM3.out, G2.of_below hb3 _ _⟩
      · have g4 : ((m : Int) == 8) = false := by rw [beq_eq_false_iff_ne]; omega
        have HR3 := Lib.hid (show R = _ by rw [HR2.out, if_neg h8])
        have hT := Lib.hid (asideA_c g b L x.acct x.sum w2 HC3.out HL.out Hx.out)
        generalize turnL (asiD x.sum) L x.acct x.sum = q at *
        clear HR2 h8
        go_wp2_with fail
        refine hT.out.mono ?_
        rintro e w3 ⟨rfl, hc4, hg4⟩
        have hh4 := HM3.out.kept (Gr.of_grown hg4) (fun e => by injection e with e; exact Hd.out.1 e.symm) (fun e => by injection e with e; exact Hd.out.2.1 e.symm)
        have hx4 := (hg4.block _ (Array.getElem?_eq_some_iff.1 hx3).1 (fun e => by injection e with e; have := hlg.out.2.1; omega)).trans hx3
        have hk4 := (hg4.block _ (Array.getElem?_eq_some_iff.1 hk3).1 (fun e => by injection e with e; have := hlg.out.2.1; omega)).trans hk3
        have hg5 := (G2.of_below hb3 b bh).trans (G2.fst hg4 bh)
        clear hT HC3 HM3 hx3 hk3 hg4 hb3 n1 n2
        by_cases hq : q.1 = 0
        · have g5 : (q.1 == 0) = true := by rw [hq]; rfl
          have HR4 := Lib.hid (show R = (q.1, q.2, insB ltH x H) by rw [HR3.out, if_pos hq])
          clear hq HR3
          obtain ⟨MH4, hhi, hrh⟩ := hh4
          have c0 := cell_of_row _ gh 0 _ _ (0, 0) hhi.cell
          have c1 := cell_of_row _ (w.heap.size + 1) 0 _ _ (0, 0) hk4
          have c2 := cell_of_row _ (w.heap.size + 1) 1 _ _ (0, 0) hk4
          have n2 := cell_of_row _ w.heap.size 2 _ _ (0, 0) hx4
          simp only [List.getElem?_toArray, List.getElem?_cons_zero, List.getElem?_cons_succ] at c0 c1 c2 n2
          have hh5 := hhi.later (Below.refl _ _).drew
          have hc5 := hc4.later (Below.refl _ _).drew
          obtain ⟨w5, hrun, hm5, hg6⟩ := run_put (P := Tryz.prog) hkKey Tryz.underlying64 hh5.map x.key (i64 x.sum)
          rw [putM_hv] at hm5
          unfold Held.key Hk.v at hrun
          have HM5 := Lib.hid hm5
          have HG := Lib.hid hg6
          have HRH := Lib.hid (RK.add keyH hrh (k := x.key) (v := x.sum) rfl Ho.out)
          clear hm5 hg6 hrh
          go_wp2_with fail
          go_region_with fail
          all_goals (
            go_wp2
            go_ret
            exact ⟨by rw [HR4.out]; rfl, by rw [HR4.out]; exact hc5.kept (Gr.of_grown HG.out) (fun e => by injection e with e; exact Hd.out.2.2 e.symm) (fun e => by injection e with e; exact Hd.out.2.1 e), by
              rw [HR4.out]
              exact ⟨_, ⟨hh5.ne, (HG.out.block gh hh5.lt.1 (fun e => hh5.ne (by injection e with e; exact e.symm))).trans hh5.cell, HM5.out⟩, HRH.out⟩, (hg5.trans (G2.of_below (Below.refl _ _).drew _ _)).trans (G2.snd HG.out b)⟩)
        · have g5 : (q.1 == 0) = false := beq_eq_false_iff_ne.2 hq
          have HR4 := Lib.hid (show R = (q.1, q.2, H) by rw [HR3.out, if_neg hq])
          clear hq HR3
          go_wp2
          go_ret
          exact ⟨by rw [HR4.out]; rfl, by rw [HR4.out]; exact hc4, by rw [HR4.out]; exact hh4, hg5⟩
end Go.Proofs.YthmgchohbdlonaaGreat
