/- ClashSwaps -/
import Derived.Test.YtogipnfhcimeoaaGreatRows
import Derived.Test.YtogipnfhcimeoaaGreatBd11
import Derived.WalkKit
import Derived.WalkSpells
import Derived.WalkLawsBesides
import Derived.Deep.QuietTactic
import Derived.BigQuiet
import Derived.Laws.StructEq
import Derived.Deep.DeepFit
import Derived.StillTailTactics
namespace Go.Proofs.YtogipnfhcimeoaaGreat
open Go.RowKit
set_option maxRecDepth 100000 in
set_option maxHeartbeats 8000000 in
theorem clashSwaps_c (A B : Option Addr) (c d : Nat) (l : List Od) (s : List Int) (w : World) (h : Sl w w.heap.size A c l) (hr : ∀ x ∈ l, InR x) (hs : Sl w w.heap.size B d s) :
    Calls Tryz.prog 13 #[.slice A l.length c, .slice B s.length d] w fun e w' => e = .returned (.bool true) ∧ Below w.heap.size w w' := by
  have Hod := Lib.hid (fewL_odB (n := 40) h hr)
  go_enter Tryz.func13, Tryz.ntmps13
  go_wp2_with fail
  refine (lives_10 _).mono ?_
  rintro e w1 ⟨rfl, hB⟩
  have ha := h.later hB
  have hs := hs.later hB
  clear h hr
  go_wp2_with fail
  refine (few_10 A c 40 l _ ha (by decide)).mono ?_
  rintro e wfFL ⟨v, rfl, hO, hF⟩
  have hB := below_on hB (by omega) hF
  have hs := hs.later hF
  have nFL := fewL_le 40 l
  have lFL : fewLegs (fewL 40 l) := fun x hx => Nat.le_trans (fewL_legs 40 l x hx) (by decide)
  clear hF ha
  generalize fewL 40 l = FL at hO nFL lFL Hod
  obtain ⟨AFL, cFL, rfl, hFL⟩ := hO.sl
  clear hO
  go_wp2_with fail
  refine (own_10 AFL cFL FL _ hFL (Nat.le_trans nFL (by decide))).mono ?_
  rintro e woL ⟨v, rfl, hO, hF⟩
  have hB := below_on hB (by omega) hF
  have hs := hs.later hF
  have vL := val_own FL
  have nL : (ownL FL).length ≤ 40 := Nat.le_trans (ownK_len FL FL.length) nFL
  have lL : fewLegs (ownL FL) := fun x hx => lFL x (ownK_sub FL _ x hx)
  have HoL := Lib.hid (show ∀ x ∈ ownL FL, OdB x from fun x hx => Hod.out x (ownK_sub FL _ x hx))
  clear hF hFL Hod
  generalize ownL FL = L at hO vL nL lL HoL
  obtain ⟨AL, cL, rfl, hL⟩ := hO.sl
  clear hO lFL nFL
  have VL := Lib.hid vL
  clear vL
  go_wp2_with fail
  refine (mixed_10 AL B cL d L s _ hL hs (by omega) lL).mono ?_
  rintro e wm ⟨v, rfl, ⟨m, AM, cM, rfl, hm, hM⟩, hF⟩
  have hB := below_on hB (by omega) hF
  have hL := hL.later hF
  have Hm := Lib.hid hm
  have NM := Lib.hid (show m.length = L.length from hm.perm.length_eq.symm)
  have lM : fewLegs m := fun x hx => lL x (hm.perm.mem_iff.2 hx)
  have HoM := Lib.hid (show ∀ x ∈ m, OdB x from fun x hx => HoL.out x (hm.perm.mem_iff.2 hx))
  clear hF hs hm
  have HF1 := Lib.hid (bfold_c AL cL L wm hL HoL.out (fun x hx => Nat.le_trans (lL x hx) (by decide)) (by omega))
  go_wp2_with fail
  refine HF1.out.mono ?_
  rintro e w5 ⟨a, v5, B5, rfl, hK5, hI5, hO5, hB5, ha5, hF⟩
  have hB := below_on hB (by omega) hF
  have hL := hL.later hF
  have hM := hM.later hF
  have hT5 := hO5.sl
  clear hF HF1 hO5 hB5 ha5
  have HF2 := Lib.hid (bfold_c AM cM m w5 hM HoM.out (fun x hx => Nat.le_trans (lM x hx) (by decide)) (by have := NM.out; omega))
  go_wp2_with fail
  refine HF2.out.mono ?_
  rintro e w6 ⟨a6, v6, B6, rfl, hK6, hI6, hO6, hB6, ha6, hF⟩
  have hB := below_on hB (by omega) hF
  have hL := hL.later hF
  have hM := hM.later hF
  have hK5 := hK5.later hF
  obtain ⟨A5, c5, rfl, s5⟩ := hT5
  obtain ⟨A6, c6, rfl, s6⟩ := hO6.sl
  have s5 := s5.later hF
  have HTl := Lib.hid (fun (i : Nat) (hi : i < L.length) => swaps_told Hm.out VL.out HoL.out hi)
  have hfe := (mix_told inv_bk0 Hm.out HoL.out).1
  have n5 := Lib.hid (show (toldL bk0 L).length = L.length from toldL_len L bk0)
  have n6 := Lib.hid (show (toldL bk0 m).length = L.length from (toldL_len m bk0).trans NM.out)
  rw [← hfe] at hK6 hI6
  have HS := Lib.hid (fun (W : World) (h1 : BkA W a (foldL bk0 L)) (h2 : BkA W a6 (foldL bk0 L)) => bsame_c a a6 (foldL bk0 L) (foldL bk0 L) W h1 h2 hI5 hI5)
  rw [sameBk_refl] at HS
  have hal := mix_alike Hm.out VL.out
  have HA1 := Lib.hid (fun (W : World) (h1 : Sl W W.heap.size AL cL L) (h2 : Sl W W.heap.size AM cM m) => alike_c AL AM cL cM L m W h1 h2 (by omega) (by have := NM.out; omega) lL lM)
  have HA2 := Lib.hid (fun (W : World) (h1 : Sl W W.heap.size AL cL L) (h2 : Sl W W.heap.size AM cM m) => alike_c AM AL cM cL m L W h2 h1 (by have := NM.out; omega) (by omega) lM lL)
  rw [hal.1] at HA1
  rw [hal.2] at HA2
  have HAt := Lib.hid (fun (i : Id) (W : World) (h2 : Sl W W.heap.size AM cM m) => at_any AM cM m i W h2 (by have := NM.out; omega))
  have e0 : ((m.length : Int) != (L.length : Int)) = false := by rw [NM.out]; simp
  clear hF HF2 hO6 hB6 ha6 hfe hI5 hI6 hal lL lM Hm VL HoL HoM
  generalize foldL bk0 L = Bk1 at *
  generalize toldL bk0 L = T5 at *
  generalize toldL bk0 m = T6 at *
  rw [n5.out, n6.out]
  go_wp2_with fail
  refine (HA1.out _ hL hM).mono ?_
  rintro e w7 ⟨rfl, hF⟩
  have hB := below_on hB (by omega) hF
  have hL := hL.later hF
  have hM := hM.later hF
  have hK5 := hK5.later hF
  have hK6 := hK6.later hF
  have s5 := s5.later hF
  have s6 := s6.later hF
  clear hF HA1
  go_wp2_with fail
  refine (HA2.out _ hL hM).mono ?_
  rintro e w8 ⟨rfl, hF⟩
  have hB := below_on hB (by omega) hF
  have hL := hL.later hF
  have hM := hM.later hF
  have hK5 := hK5.later hF
  have hK6 := hK6.later hF
  have s5 := s5.later hF
  have s6 := s6.later hF
  clear hF HA2
  go_wp2_with fail
  refine (HS.out _ hK5 hK6).mono ?_
  rintro e w9 ⟨rfl, hF⟩
  have hB := below_on hB (by omega) hF
  have hL := hL.later hF
  have hM := hM.later hF
  have s5 := s5.later hF
  have s6 := s6.later hF
  have hc5 : L.length ≤ c5 := by have := s5.1; have := n5.out; omega
  have hc6 : L.length ≤ c6 := by have := s6.1; have := n6.out; omega
  have hcL : L.length ≤ cL := hL.1
  clear hF HS hK5 hK6
  go_wp2_with fail
  go_loopw [10] (fun i wr => ∃ k : Nat, i = i64 k ∧ k ≤ L.length ∧ Below w9.heap.size w9 wr) (fun i _ => L.length - (intOf i).toNat)
  case atStart => exact ⟨0, rfl, Nat.zero_le _, Below.refl _ _⟩
  case round =>
    obtain ⟨i, rfl, hi, hb⟩ := hrel
    by_cases hlt : i < L.length
    · have g1 : decide ((i : Int) < (L.length : Int)) = true := decide_eq_true (by omega)
      have g2 : decide (i < L.length) = true := decide_eq_true hlt
      have i0 : (0 : Int) ≤ (i : Int) := by omega
      have i1 : (i : Int) < (L.length : Int) := by omega
      have hLr := hL.later hb
      have hMr := hM.later hb
      have s5r := s5.later hb
      have s6r := s6.later hb
      obtain ⟨b, o, rfl, _, _, c0, c1, _⟩ := hLr.od hlt
      obtain ⟨k, hk1, hk, hke⟩ := HTl.out i hlt
      have HC := Lib.hid (HAt.out L[i].id wr hMr)
      rw [hk1] at HC
      obtain ⟨b6, o6, rfl, _, p0, p1, p2, p3⟩ := s6r.rp (k := k) (by have := n6.out; have := NM.out; omega)
      obtain ⟨b5, o5, rfl, _, q0, q1, q2, q3⟩ := s5r.rp (k := i) (by have := n5.out; omega)
      have hkL : k < L.length := by have := NM.out; omega
      have hk6 : k < T6.length := by have := n6.out; omega
      have hi5 : i < T5.length := by have := n5.out; omega
      rw [List.getElem?_eq_getElem hk6, List.getElem?_eq_getElem hi5] at hke
      have hke := Option.some.inj hke
      rw [hke] at p0 p1 p2 p3
      generalize T5[i] = R at *
      have hne : ∀ W : World, (binOp .neq 57 (.agg #[i64 R.err, i64 R.hav, i64 R.set_, i64 R.num]) (.agg #[i64 R.err, i64 R.hav, i64 R.set_, i64 R.num])).run Tryz.prog W = .ok (.bool false) W := fun W => (neq_rp R R W).trans (by rw [decide_eq_true rfl]; rfl)
      clear hk1 hke
      unfold Od.id at HC
      go_wp2_with fail
      refine HC.out.mono ?_
      rintro e w10 ⟨rfl, hF⟩
      have hb := hb.trans (hF.mono hb.size)
      have p0 := (hF.cell (p := ⟨b6, o6 + k * 4, none⟩) (World.block_lt_of_cell? _ _ p0)).trans p0
      have p1 := (hF.cell (p := ⟨b6, o6 + k * 4 + 1, none⟩) (World.block_lt_of_cell? _ _ p1)).trans p1
      have p2 := (hF.cell (p := ⟨b6, o6 + k * 4 + 2, none⟩) (World.block_lt_of_cell? _ _ p2)).trans p2
      have p3 := (hF.cell (p := ⟨b6, o6 + k * 4 + 3, none⟩) (World.block_lt_of_cell? _ _ p3)).trans p3
      have q0 := (hF.cell (p := ⟨b5, o5 + i * 4, none⟩) (World.block_lt_of_cell? _ _ q0)).trans q0
      have q1 := (hF.cell (p := ⟨b5, o5 + i * 4 + 1, none⟩) (World.block_lt_of_cell? _ _ q1)).trans q1
      have q2 := (hF.cell (p := ⟨b5, o5 + i * 4 + 2, none⟩) (World.block_lt_of_cell? _ _ q2)).trans q2
      have q3 := (hF.cell (p := ⟨b5, o5 + i * 4 + 3, none⟩) (World.block_lt_of_cell? _ _ q3)).trans q3
      have g3 : decide ((k : Int) < 0) = false := decide_eq_false (by omega)
      have j0 : (0 : Int) ≤ (k : Int) := by omega
      have j1 : (k : Int) < (L.length : Int) := by omega
      clear HC hF hLr hMr s5r s6r c0 c1
      go_wp2_with fail
      go_quiet (fail)
      go_wp2
      go_roundw
      case rel => exact ⟨i + 1, by go_num, by omega, below_drewN hb _⟩
      case measure => simp [intOf]; omega
    · obtain rfl : i = L.length := by omega
      have g1 : decide ((L.length : Int) < (L.length : Int)) = false := decide_eq_false (by omega)
      go_wp2
      go_ret
      exact ⟨rfl, hB.trans (hb.mono hB.size)⟩
end Go.Proofs.YtogipnfhcimeoaaGreat
