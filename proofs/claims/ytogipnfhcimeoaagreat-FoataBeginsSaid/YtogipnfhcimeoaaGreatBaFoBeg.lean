/- FoataBegins -/
import Derived.Test.YtogipnfhcimeoaaGreatRows
import Derived.Test.YtogipnfhcimeoaaGreatBaFoBegP
import Derived.Test.YtogipnfhcimeoaaGreatBaFoLives
import Derived.Test.YtogipnfhcimeoaaGreatBc6
import Derived.WalkKit
import Derived.WalkSpells
import Derived.WalkLawsBesides
import Derived.Deep.QuietTactic
import Derived.BigQuiet
import Derived.Laws.StructEq
import Derived.Deep.DeepFit
import Derived.StillTailTactics
namespace Go.Proofs.YtogipnfhcimeoaaGreat
open Go.RowKit
set_option maxRecDepth 100000 in
set_option maxHeartbeats 8000000 in
theorem foataBegins_c (A : Option Addr) (c : Nat) (l : List Od) (at_ : Int) (w : World) (h : Sl w w.heap.size A c l) :
    Calls Tryz.prog 7 #[.slice A l.length c, i64 at_] w fun e w' => e = .returned (.bool true) ∧ Below w.heap.size w w' := by
  go_enter Tryz.func7, Tryz.ntmps7
  go_wp2_with fail
  refine (lives_11 _).mono ?_
  rintro e w1 ⟨rfl, hB⟩
  have ha := h.later hB
  clear h
  go_wp2_with fail
  refine (few_11 A c 50 l _ ha (by decide)).mono ?_
  rintro e wfFL ⟨v, rfl, hO, hF⟩
  have hB := below_on hB (by omega) hF
  have nFL := fewL_le 50 l
  have lFL : fewLegs (fewL 50 l) := fun x hx => Nat.le_trans (fewL_legs 50 l x hx) (by decide)
  clear hF ha
  generalize fewL 50 l = FL at hO nFL lFL
  obtain ⟨AFL, cFL, rfl, hFL⟩ := hO.sl
  clear hO
  go_wp2_with fail
  refine (own_11 AFL cFL FL _ hFL (Nat.le_trans nFL (by decide))).mono ?_
  rintro e woL ⟨v, rfl, hO, hF⟩
  have hB := below_on hB (by omega) hF
  have vL := val_own FL
  have nL : (ownL FL).length ≤ 50 := Nat.le_trans (ownK_len FL FL.length) nFL
  have lL : fewLegs (ownL FL) := fun x hx => lFL x (ownK_sub FL _ x hx)
  clear hF hFL
  generalize ownL FL = L at hO vL nL lL
  obtain ⟨AL, cL, rfl, hL⟩ := hO.sl
  clear hO lFL nFL
  have VL := Lib.hid vL
  clear vL
  obtain ⟨k, hk, hkl⟩ := place_mod at_ L.length (by omega)
  have z1 : ∀ W : World, Sl W W.heap.size AL cL L → Calls Tryz.prog 19 #[.slice AL k cL] W fun e w' => ∃ (v : Value) (La : List (SV Od)), e = .returned v ∧ Own w' W.heap.size 22 v La ∧ La.map SV.l = stepsL (L.take k) ∧ Below W.heap.size W w' := fun W h => by
    have := steps_c AL cL (L.take k) W (h.take k) (by simp only [List.length_take]; omega) (fun x hx => lL x (List.mem_of_mem_take hx))
    rw [List.length_take, Nat.min_eq_left hkl] at this
    exact this
  have Z1 := Lib.hid z1
  have Z2 := Lib.hid (fun (W : World) (h : Sl W W.heap.size AL cL L) => steps_c AL cL L W h (by omega) lL)
  have HS1 := Lib.hid (fun (La : List (SV Od)) (h : La.map SV.l = stepsL (L.take k)) => stepsL_small h (by simp only [List.length_take]; omega) (fun x hx => lL x (List.mem_of_mem_take hx)))
  have HS2 := Lib.hid (fun (La : List (SV Od)) (h : La.map SV.l = stepsL L) => stepsL_small h (by omega) lL)
  have Hkl := Lib.hid hkl
  have Hk := Lib.hid hk
  have hki : (k : Int) ≤ (L.length : Int) := by omega
  have hki0 : (0 : Int) ≤ (k : Int) := by omega
  have hcap : L.length ≤ cL := hL.1
  have hki1 : (k : Int) ≤ (cL : Int) := by omega
  clear z1 hk lL
  go_upto_region 5 with (fail)
  simp only [Hk.out]
  clear Hk
  go_wp2_with fail
  with_reducible refine (Z1.out _ hL).mono ?_
  rintro e w6 ⟨v, La, rfl, hO, hma, hF⟩
  have hB := below_on hB (by omega) hF
  have hL := hL.later hF
  obtain ⟨A6, c6, rfl, s6⟩ := hO.sl
  clear hO hF Z1
  go_wp2_with fail
  with_reducible refine (Z2.out _ hL).mono ?_
  rintro e w7 ⟨v, Lb, rfl, hO, hmb, hF⟩
  have hB := below_on hB (by omega) hF
  have s6 := s6.later hF
  obtain ⟨A7, c7, rfl, s7⟩ := hO.sl
  obtain ⟨hle, hin⟩ := begins_plain VL.out Hkl.out hma hmb
  have Hin := Lib.hid hin
  have hsa := HS1.out La hma
  have hsb := HS2.out Lb hmb
  have Hsa := Lib.hid hsa.2
  have Hsb := Lib.hid hsb.2
  have hna := hsa.1
  have hnb := hsb.1
  have hc6 : La.length ≤ c6 := s6.1
  have hc7 : Lb.length ≤ c7 := s7.1
  have g0 : decide ((La.length : Int) > (Lb.length : Int)) = false := decide_eq_false (by omega)
  have g0' : decide ((Lb.length : Int) < (La.length : Int)) = false := decide_eq_false (by omega)
  have g0n : decide (Lb.length < La.length) = false := decide_eq_false (by omega)
  clear hO hF Z2 HS1 HS2 hma hmb hin hsa hsb hL VL Hkl
  go_wp2_with fail
  go_loopw [8] (fun i wr => ∃ n : Nat, i = i64 n ∧ n ≤ La.length ∧ Below w7.heap.size w7 wr) (fun i _ => La.length - (intOf i).toNat)
  case atStart => exact ⟨0, rfl, Nat.zero_le _, Below.refl _ _⟩
  case round =>
    obtain ⟨n, rfl, hn, hb⟩ := hrel
    by_cases hlt : n < La.length
    · have g1 : decide ((n : Int) < (La.length : Int)) = true := decide_eq_true (by omega)
      have g2 : decide (n < La.length) = true := decide_eq_true hlt
      have i0 : (0 : Int) ≤ (n : Int) := by omega
      have i1 : (n : Int) < (La.length : Int) := by omega
      have i2 : (n : Int) < (Lb.length : Int) := by omega
      have hltb : n < Lb.length := by omega
      have Hm := Lib.hid (Hin.out n hlt hltb)
      have hx1 := Hsa.out _ (List.getElem_mem hlt)
      have hy1 := Hsb.out _ (List.getElem_mem hltb)
      obtain ⟨x, hx⟩ : ∃ x, La[n] = x := ⟨_, rfl⟩
      obtain ⟨y, hy⟩ : ∃ y, Lb[n] = y := ⟨_, rfl⟩
      have Hx := Lib.hid hx
      have Hy := Lib.hid hy
      rw [hx] at hx1
      rw [hy] at hy1
      have hm := Hm.out
      rw [hx, hy] at hm
      have Hm := Lib.hid hm
      have hxl := hx1.1
      have hyl := hy1.1
      clear hx hy hx1 hy1 hm
      go_wp2_with fail
      go_loopw [9] (fun j wq => ∃ m : Nat, j = i64 m ∧ m ≤ x.l.length ∧ Below w7.heap.size w7 wq) (fun j _ => x.l.length - (intOf j).toNat)
      case atStart => exact ⟨0, rfl, Nat.zero_le _, hb⟩
      case round =>
        clear hb
        obtain ⟨m, rfl, hm, hb⟩ := hrel
        obtain ⟨b6, o6, rfl, _, kx, p6⟩ := (s6.later hb).sv hlt
        rw [Hx.out] at kx p6
        by_cases hml : m < x.l.length
        · have g3 : decide ((m : Int) < (x.l.length : Int)) = true := decide_eq_true (by omega)
          have g4 : decide (m < x.l.length) = true := decide_eq_true hml
          have j0 : (0 : Int) ≤ (m : Int) := by omega
          have j1 : (m : Int) < (x.l.length : Int) := by omega
          obtain ⟨b7, o7, rfl, _, ky, p7⟩ := (s7.later hb).sv hltb
          rw [Hy.out] at ky p7
          obtain ⟨bx, ox, hxa, _, _, d0, d1, _⟩ := kx.od hml
          rw [hxa] at p6
          have hge := at_in (l := y.l) (i := (x.l[m]).id) ⟨x.l[m], Hm.out _ (List.getElem_mem hml), rfl⟩
          have HC := Lib.hid (fun W (hW : Below wr.heap.size wr W) => at_any y.a y.c y.l (x.l[m]).id W (SlS.later ky hW) (by omega))
          unfold Od.id at HC hge
          generalize atIdx y.l ⟨(x.l[m]).client, (x.l[m]).seq⟩ = r at *
          generalize x.l[m] = z at *
          have g5 : decide (r < 0) = false := decide_eq_false (by omega)
          have hS : ∀ V, Below wr.heap.size wr V → (fun V : World => Below wr.heap.size wr V ∧ V.cell? ⟨b6, o6 + n, none⟩ = some (.slice (some ⟨bx, ox, none⟩) x.l.length x.c) ∧ V.cell? ⟨b7, o7 + n, none⟩ = some (.slice y.a y.l.length y.c) ∧ V.cell? ⟨bx, ox + m * 10, none⟩ = some (i64 z.client) ∧ V.cell? ⟨bx, ox + m * 10 + 1, none⟩ = some (i64 z.seq)) V := fun V hV => ⟨hV, (hV.cell (World.block_lt_of_cell? _ _ p6)).trans p6, (hV.cell (World.block_lt_of_cell? _ _ p7)).trans p7, (hV.cell (World.block_lt_of_cell? _ _ d0)).trans d0, (hV.cell (World.block_lt_of_cell? _ _ d1)).trans d1⟩
          have HS := Lib.hid hS
          clear hS kx ky hge hxa
          go_upto_region 14 with fail
          refine wp_region_noPanic ?_
          refine wp_region_l 13 (fun V : World => Below wr.heap.size wr V ∧ V.cell? ⟨b6, o6 + n, none⟩ = some (.slice (some ⟨bx, ox, none⟩) x.l.length x.c) ∧ V.cell? ⟨b7, o7 + n, none⟩ = some (.slice y.a y.l.length y.c) ∧ V.cell? ⟨bx, ox + m * 10, none⟩ = some (i64 z.client) ∧ V.cell? ⟨bx, ox + m * 10 + 1, none⟩ = some (i64 z.seq)) (by kernel_rfl) (HS.out _ (Below.refl _ _).drew) (fun hH => ?_)
          refine wpAnyL_take (i := 0) (v := ?v20001) rfl (by kernel_rfl) (by kernel_rfl) (by kernel_rfl) (by kernel_rfl) (fun _ _ _ h => h) (Or.inl ⟨by kernel_rfl, ?hy20001⟩) (by assumption) ?r20001
          case hy20001 => (intro W hSW; obtain ⟨hV0, s1, s2, s3, s4⟩ := hSW; go_simp; try with_reducible rfl)
          try simp only [Act.put, List.getElem_toArray, List.getElem_cons_zero, List.setIfInBounds_toArray, List.set_cons_zero, List.set_cons_succ]
          refine wpAnyL_take (i := 1) (v := ?v20002) rfl (by kernel_rfl) (by kernel_rfl) (by kernel_rfl) (by kernel_rfl) (fun _ _ _ h => h) (Or.inl ⟨by kernel_rfl, ?hy20002⟩) (by assumption) ?r20002
          case hy20002 => (intro W hSW; obtain ⟨hV0, s1, s2, s3, s4⟩ := hSW; go_simp; try with_reducible rfl)
          try simp only [Act.put, List.getElem_toArray, List.getElem_cons_zero, List.getElem_cons_succ, List.setIfInBounds_toArray, List.set_cons_zero, List.set_cons_succ]
          refine wpAnyL_take (i := 2) (v := ?v20003) rfl (by kernel_rfl) (by kernel_rfl) (by kernel_rfl) (by kernel_rfl) (fun _ _ _ h => h) (Or.inl ⟨by kernel_rfl, ?hy20003⟩) (by assumption) ?r20003
          case hy20003 => (intro W hSW; obtain ⟨hV0, s1, s2, s3, s4⟩ := hSW; go_simp; try with_reducible rfl)
          try simp only [Act.put, List.getElem_toArray, List.getElem_cons_zero, List.getElem_cons_succ, List.setIfInBounds_toArray, List.set_cons_zero, List.set_cons_succ]
          refine wpAnyL_take (i := 3) (v := ?v20004) rfl (by kernel_rfl) (by kernel_rfl) (by kernel_rfl) (by kernel_rfl) (fun _ _ _ h => h) (Or.inl ⟨by kernel_rfl, ?hy20004⟩) (by assumption) ?r20004
          case hy20004 => (intro W hSW; obtain ⟨hV0, s1, s2, s3, s4⟩ := hSW; go_simp; try with_reducible rfl)
          try simp only [Act.put, List.getElem_toArray, List.getElem_cons_zero, List.getElem_cons_succ, List.setIfInBounds_toArray, List.set_cons_zero, List.set_cons_succ]
          refine wpAnyL_take (i := 4) (v := ?v20005) rfl (by kernel_rfl) (by kernel_rfl) (by kernel_rfl) (by kernel_rfl) (fun _ _ _ h => h) (Or.inl ⟨by kernel_rfl, ?hy20005⟩) (by assumption) ?r20005
          case hy20005 => (intro W hSW; obtain ⟨hV0, s1, s2, s3, s4⟩ := hSW; go_simp; try with_reducible rfl)
          try simp only [Act.put, List.getElem_toArray, List.getElem_cons_zero, List.getElem_cons_succ, List.setIfInBounds_toArray, List.set_cons_zero, List.set_cons_succ]
          refine wpAnyL_take (i := 5) (v := ?v20006) rfl (by kernel_rfl) (by kernel_rfl) (by kernel_rfl) (by kernel_rfl) (fun _ _ _ h => h) (Or.inl ⟨by kernel_rfl, ?hy20006⟩) (by assumption) ?r20006
          case hy20006 => (intro W hSW; obtain ⟨hV0, s1, s2, s3, s4⟩ := hSW; go_simp; try with_reducible rfl)
          try simp only [Act.put, List.getElem_toArray, List.getElem_cons_zero, List.getElem_cons_succ, List.setIfInBounds_toArray, List.set_cons_zero, List.set_cons_succ]
          refine wpAnyL_take (i := 6) (v := ?v20007) rfl (by kernel_rfl) (by kernel_rfl) (by kernel_rfl) (by kernel_rfl) (fun _ _ _ h => h) (Or.inl ⟨by kernel_rfl, ?hy20007⟩) (by assumption) ?r20007
          case hy20007 => (intro W hSW; obtain ⟨hV0, s1, s2, s3, s4⟩ := hSW; go_simp; try with_reducible rfl)
          try simp only [Act.put, List.getElem_toArray, List.getElem_cons_zero, List.getElem_cons_succ, List.setIfInBounds_toArray, List.set_cons_zero, List.set_cons_succ]
          refine wpAnyL_take (i := 7) (v := ?v20008) rfl (by kernel_rfl) (by kernel_rfl) (by kernel_rfl) (by kernel_rfl) (fun _ _ _ h => h) (Or.inl ⟨by kernel_rfl, ?hy20008⟩) (by assumption) ?r20008
          case hy20008 => (intro W hSW; obtain ⟨hV0, s1, s2, s3, s4⟩ := hSW; go_simp; try with_reducible rfl)
          try simp only [Act.put, List.getElem_toArray, List.getElem_cons_zero, List.getElem_cons_succ, List.setIfInBounds_toArray, List.set_cons_zero, List.set_cons_succ]
          refine wpAnyL_take (i := 8) (v := ?v20009) rfl (by kernel_rfl) (by kernel_rfl) (by kernel_rfl) (by kernel_rfl) (fun _ _ _ h => h) (Or.inl ⟨by kernel_rfl, ?hy20009⟩) (by assumption) ?r20009
          case hy20009 => (intro W hSW; obtain ⟨hV0, s1, s2, s3, s4⟩ := hSW; go_simp; try with_reducible rfl)
          try simp only [Act.put, List.getElem_toArray, List.getElem_cons_zero, List.getElem_cons_succ, List.setIfInBounds_toArray, List.set_cons_zero, List.set_cons_succ]
          refine wpAnyL_take (i := 9) (v := ?v20010) rfl (by kernel_rfl) (by kernel_rfl) (by kernel_rfl) (by kernel_rfl) (fun _ _ _ h => h) (Or.inl ⟨by kernel_rfl, ?hy20010⟩) (by assumption) ?r20010
          case hy20010 => (intro W hSW; obtain ⟨hV0, s1, s2, s3, s4⟩ := hSW; go_simp; try with_reducible rfl)
          try simp only [Act.put, List.getElem_toArray, List.getElem_cons_zero, List.getElem_cons_succ, List.setIfInBounds_toArray, List.set_cons_zero, List.set_cons_succ]
          refine wpAnyL_take (i := 10) (v := ?v20011) rfl (by kernel_rfl) (by kernel_rfl) (by kernel_rfl) (by kernel_rfl) (fun _ _ _ h => h) (Or.inl ⟨by kernel_rfl, ?hy20011⟩) (by assumption) ?r20011
          case hy20011 => (intro W hSW; obtain ⟨hV0, s1, s2, s3, s4⟩ := hSW; go_simp; try with_reducible rfl)
          try simp only [Act.put, List.getElem_toArray, List.getElem_cons_zero, List.getElem_cons_succ, List.setIfInBounds_toArray, List.set_cons_zero, List.set_cons_succ]
          refine wpAnyL_take (i := 11) (v := ?v20012) rfl (by kernel_rfl) (by kernel_rfl) (by kernel_rfl) (by kernel_rfl) (fun _ _ _ h => h) (Or.inl ⟨by kernel_rfl, ?hy20012⟩) (by assumption) ?r20012
          case hy20012 => (intro W hSW; obtain ⟨hV0, s1, s2, s3, s4⟩ := hSW; go_simp; try with_reducible rfl)
          try simp only [Act.put, List.getElem_toArray, List.getElem_cons_zero, List.getElem_cons_succ, List.setIfInBounds_toArray, List.set_cons_zero, List.set_cons_succ]
          refine wpAnyL_one (i := 12) (by kernel_rfl) rfl (by decide) (fun K hK => ?_)
          go_simp
          go_at_call 30
          with_reducible refine (HC.out _ hH.1).mono ?_
          rintro e u1 ⟨rfl, hF⟩
          have hbu := below_on hH.1 (Nat.le_refl _) hF
          clear hF
          refine hK.out _ _ (HS.out _ hbu) (fun hH => ?_)
          clear hK K
          try simp only [Act.put, List.getElem_toArray, List.getElem_cons_zero, List.getElem_cons_succ, List.setIfInBounds_toArray, List.set_cons_zero, List.set_cons_succ]
          refine wpAnyL_last (by kernel_rfl) rfl (fun K hK => ?_)
          go_simp
          refine hK.out _ _ ?_
          clear hK K
          try simp only [Act.put, List.getElem_toArray, List.getElem_cons_zero, List.getElem_cons_succ, List.setIfInBounds_toArray, List.set_cons_zero, List.set_cons_succ]
          refine wpAnyL_done (by kernel_rfl) ?_ _
          refine NoPanic.normal ?_
          have hV := hH.1
          clear hH HS HC p6 p7 d0 d1
          go_wp2
          go_roundw
          case rel => exact ⟨m + 1, by go_num, by omega, hb.trans (hV.mono hb.size)⟩
          case measure => simp [intOf]; omega
        · obtain rfl : m = x.l.length := by omega
          have g3 : decide ((x.l.length : Int) < (x.l.length : Int)) = false := decide_eq_false (by omega)
          clear kx
          go_wp2
          go_roundw
          case rel => exact ⟨n + 1, by go_num, by omega, hb⟩
          case measure => simp [intOf]; omega
    · obtain rfl : n = La.length := by omega
      have g1 : decide ((La.length : Int) < (La.length : Int)) = false := decide_eq_false (by omega)
      go_wp2
      go_ret
      exact ⟨rfl, hB.trans (hb.mono hB.size)⟩
end Go.Proofs.YtogipnfhcimeoaaGreat
