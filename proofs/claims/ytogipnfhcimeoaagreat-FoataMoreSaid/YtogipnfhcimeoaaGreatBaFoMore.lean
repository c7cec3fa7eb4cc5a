/- FoataMore -/
import Derived.Test.YtogipnfhcimeoaaGreatRows
import Derived.Deep.CutBlock
import Derived.Test.YtogipnfhcimeoaaGreatBaFoMoreP
import Derived.Test.YtogipnfhcimeoaaGreatBaFoLvP
import Derived.Test.YtogipnfhcimeoaaGreatBaFoLives
import Derived.Test.YtogipnfhcimeoaaGreatBc6
import Derived.Test.YtogipnfhcimeoaaGreatBc5
import Derived.WalkKit
import Derived.WalkSpells
import Derived.WalkLawsBesides
import Derived.Deep.QuietTactic
import Derived.BigQuiet
import Derived.Laws.StructEq
import Derived.Deep.DeepFit
import Derived.StillTailTactics
namespace Go.Proofs.YtogipnfhcimeoaaGreat
open Go.RowKit
set_option maxRecDepth 100000 in
set_option maxHeartbeats 16000000 in
theorem foataMore_c (A : Option Addr) (c : Nat) (l : List Od) (w : World) (h : Sl w w.heap.size A c l) :
    Calls Tryz.prog 6 #[.slice A l.length c] w fun e w' => e = .returned (.bool true) ∧ Below w.heap.size w w' := by
  go_enter Tryz.func6, Tryz.ntmps6
  go_wp2_with fail
  refine (lives_11 _).mono ?_
  rintro e w1 ⟨rfl, hB⟩
  have ha := h.later hB
  clear h
  go_wp2_with fail
  refine (few_11 A c 50 l _ ha (by decide)).mono ?_
  rintro e wfFL ⟨v, rfl, hO, hF⟩
  have hB := below_on hB (by omega) hF
  have nFL := fewL_le 50 l
  have lFL : fewLegs (fewL 50 l) := fun x hx => Nat.le_trans (fewL_legs 50 l x hx) (by decide)
  clear hF ha
  generalize fewL 50 l = FL at hO nFL lFL
  obtain ⟨AFL, cFL, rfl, hFL⟩ := hO.sl
  clear hO
  go_wp2_with fail
  refine (own_11 AFL cFL FL _ hFL (Nat.le_trans nFL (by decide))).mono ?_
  rintro e woL ⟨v, rfl, hO, hF⟩
  have hB := below_on hB (by omega) hF
  have vL := val_own FL
  have nL : (ownL FL).length ≤ 50 := Nat.le_trans (ownK_len FL FL.length) nFL
  have lL : fewLegs (ownL FL) := fun x hx => lFL x (ownK_sub FL _ x hx)
  clear hF hFL
  generalize ownL FL = L at hO vL nL lL
  obtain ⟨AL, cL, rfl, hL⟩ := hO.sl
  clear hO lFL nFL
  have VL := Lib.hid vL
  clear vL
  have Z2 := Lib.hid (fun (W : World) (h : Sl W W.heap.size AL cL L) => steps_c AL cL L W h (by omega) lL)
  by_cases hL0 : L.length = 0
  · have hLn : L = [] := List.length_eq_zero_iff.1 hL0
    have g0 : ((L.length : Int) == 0) = true := by rw [hL0]; rfl
    have g0n : (L.length == 0) = true := by rw [hL0]; rfl
    have HLn := Lib.hid hLn
    have Hz := Lib.hid hL0
    clear hL0 hLn
    go_wp2_with fail
    with_reducible refine (Z2.out _ hL).mono ?_
    rintro e w6 ⟨v, S, rfl, hO, hm, hF⟩
    have hB := below_on hB (by omega) hF
    obtain ⟨A6, c6, rfl, s6⟩ := hO.sl
    rw [HLn.out] at hm
    have hS0 : S.length = 0 := by
      have := congrArg List.length hm
      rw [List.length_map, steps_none] at this
      exact this
    have g1 : ((S.length : Int) == 0) = true := by rw [hS0]; rfl
    have g1n : (S.length == 0) = true := by rw [hS0]; rfl
    clear hO hF hm hS0 hL s6
    go_wp2
    go_ret
    exact ⟨rfl, hB⟩
  obtain ⟨k, hk⟩ : ∃ k, L.length = k + 1 := ⟨L.length - 1, by omega⟩
  have hkl : k < L.length := by omega
  have g0 : ((L.length : Int) == 0) = false := by rw [beq_eq_false_iff_ne]; omega
  have g0n : (L.length == 0) = false := by rw [beq_eq_false_iff_ne]; omega
  have ew : IntKind.i64.wrap ((L.length : Int) - 1) = (k : Int) := by rw [IntKind.wrap_i64]; omega
  have ew2 : wrap64 ((L.length : Int) - 1) = (k : Int) := by rw [← IntWalk.i64_left]; exact ew
  have k0 : (0 : Int) ≤ (k : Int) := by omega
  have k1 : (k : Int) < (L.length : Int) := by omega
  have k2 : (k : Int) ≤ (L.length : Int) := by omega
  have hcap : L.length ≤ cL := hL.1
  have k3 : (k : Int) ≤ (cL : Int) := by omega
  have z1 : ∀ W : World, Sl W W.heap.size AL cL L → Calls Tryz.prog 19 #[.slice AL k cL] W fun e w' => ∃ (v : Value) (La : List (SV Od)), e = .returned v ∧ Own w' W.heap.size 22 v La ∧ La.map SV.l = stepsL (L.take k) ∧ Below W.heap.size W w' := fun W h => by
    have := steps_c AL cL (L.take k) W (h.take k) (by simp only [List.length_take]; omega) (fun x hx => lL x (List.mem_of_mem_take hx))
    rw [List.length_take, Nat.min_eq_left (by omega)] at this
    exact this
  have Z1 := Lib.hid z1
  have HS1 := Lib.hid (fun (La : List (SV Od)) (h : La.map SV.l = stepsL (L.take k)) => stepsL_small h (by simp only [List.length_take]; omega) (fun x hx => lL x (List.mem_of_mem_take hx)))
  have HS2 := Lib.hid (fun (La : List (SV Od)) (h : La.map SV.l = stepsL L) => stepsL_small h (by omega) lL)
  obtain ⟨b0, o0, hAL, _, hok, c0, c1, c2, c3, c4, c5, c6, c7, c8, c9⟩ := hL.od hkl
  have hlo := lL _ (List.getElem_mem hkl)
  obtain ⟨o, ho⟩ : ∃ o, L[k] = o := ⟨_, rfl⟩
  have Ho := Lib.hid ho
  have HM : Hid (∀ (S1 S2 : List (SV Od)), S1.map SV.l = stepsL (L.take k) → S2.map SV.l = stepsL L → S2.length = max S1.length (wantU o (S1.map SV.l) + 1) ∧ ∀ i (hi : i < S2.length), (∀ h : i < S1.length, (S2[i].l.filter (fun x => !decide (x.id = o.id))) = S1[i].l) ∧ (((S2[i].l.filter (fun x => !decide (x.id = o.id))).length < S2[i].l.length) ↔ i = wantU o (S1.map SV.l))) := Lib.hid fun S1 S2 h1 h2 => by
    subst ho
    exact more_at hk VL.out h1 h2
  rw [ho] at hlo hok c0 c1 c2 c3 c4 c5 c6 c7 c8 c9
  subst hAL
  have hba := (Below.refl woL.heap.size woL).alloc (Nat.le_refl _) (.cells #[i64 o.client, i64 o.seq, i64 o.kind, .string o.acct, .string o.peer, i64 o.sum, .slice o.la o.legs.length o.lc, i64 o.period, i64 o.hold, .string o.note] 45)
  have hg0 := heap_alloc_new woL (.cells #[i64 o.client, i64 o.seq, i64 o.kind, .string o.acct, .string o.peer, i64 o.sum, .slice o.la o.legs.length o.lc, i64 o.period, i64 o.hold, .string o.note] 45)
  have hgl : woL.heap.size < (woL.alloc (.cells #[i64 o.client, i64 o.seq, i64 o.kind, .string o.acct, .string o.peer, i64 o.sum, .slice o.la o.legs.length o.lc, i64 o.period, i64 o.hold, .string o.note] 45)).heap.size := by simp
  have hok2 := Okb.later (show Okb woL woL.heap.size o from hok) hba
  have hL2 := hL.later hba
  have hB2 := below_on hB (by omega) hba
  clear hok hL hB
  clear z1 hk lL hL0 ho
  go_upto_region 7 with fail
  generalize woL.alloc (.cells #[i64 o.client, i64 o.seq, i64 o.kind, .string o.acct, .string o.peer, i64 o.sum, .slice o.la o.legs.length o.lc, i64 o.period, i64 o.hold, .string o.note] 45) = wa at *
  generalize woL.heap.size = ga at *
  clear c0 c1 c2 c3 c4 c5 c6 c7 c8 c9 hba
  have hok := hok2
  have hL := hL2
  have hB := hB2
  clear hok2 hL2 hB2
  go_wp2_with fail
  with_reducible refine (Z1.out _ hL).mono ?_
  rintro e w6 ⟨v, S1, rfl, hO, hma, hF⟩
  have hB := below_on hB (by omega) hF
  have hL := hL.later hF
  have hg0 := row_on hg0 hF
  have hok := Okb.later hok hF
  have hgl := Nat.lt_of_lt_of_le hgl hF.size
  obtain ⟨A6, c6, rfl, s6⟩ := hO.sl
  clear hO hF Z1
  go_wp2_with fail
  with_reducible refine (Z2.out _ hL).mono ?_
  rintro e w7 ⟨v, S2, rfl, hO, hmb, hF⟩
  have hB := below_on hB (by omega) hF
  have hg0 := row_on hg0 hF
  have hok := Okb.later hok hF
  have hgl := Nat.lt_of_lt_of_le hgl hF.size
  have s6 := s6.later hF
  obtain ⟨A7, c7, rfl, s7⟩ := hO.sl
  obtain ⟨hlen, hin⟩ := HM.out S1 S2 hma hmb
  have Hin := Lib.hid hin
  have hsa := HS1.out S1 hma
  have hsb := HS2.out S2 hmb
  have Hsa := Lib.hid hsa.2
  have Hsb := Lib.hid hsb.2
  have hna := hsa.1
  have hnb := hsb.1
  have hc6 : S1.length ≤ c6 := s6.1
  have hc7 : S2.length ≤ c7 := s7.1
  have Hlen := Lib.hid hlen
  have hq0 := cell_of_row _ ga 0 _ _ (0, 0) hg0
  have hq1 := cell_of_row _ ga 1 _ _ (0, 0) hg0
  have hq2 := cell_of_row _ ga 2 _ _ (0, 0) hg0
  have hq3 := cell_of_row _ ga 3 _ _ (0, 0) hg0
  have hq4 := cell_of_row _ ga 4 _ _ (0, 0) hg0
  have hq5 := cell_of_row _ ga 5 _ _ (0, 0) hg0
  have hq6 := cell_of_row _ ga 6 _ _ (0, 0) hg0
  have hq7 := cell_of_row _ ga 7 _ _ (0, 0) hg0
  have hq8 := cell_of_row _ ga 8 _ _ (0, 0) hg0
  have hq9 := cell_of_row _ ga 9 _ _ (0, 0) hg0
  simp only [List.getElem?_toArray, List.getElem?_cons_zero, List.getElem?_cons_succ] at hq0 hq1 hq2 hq3 hq4 hq5 hq6 hq7 hq8 hq9
  clear hO hF Z2 HS1 HS2 HM hma hmb hin hsa hsb hL VL hlen hg0 Ho
  go_upto_block 0 with fail
  go_cut [6, 7] from 38 (fun s6 s7 wx => s6 = i64 (wantS o S1 S1.length) ∧ Below w7.heap.size w7 wx)
  case first =>
    go_wp2_with fail
    go_loopw [6, 7] (fun u i wr => ∃ q U : Nat, u = i64 U ∧ U = wantS o S1 q ∧ i = i64 q ∧ q ≤ S1.length ∧ Below w7.heap.size w7 wr) (fun _ i _ => S1.length - (intOf i).toNat)
    case atStart => exact ⟨0, 0, rfl, rfl, rfl, Nat.zero_le _, Below.refl _ _⟩
    case round =>
      obtain ⟨q, U, rfl, hU, rfl, hq, hb⟩ := hrel
      have HU := Lib.hid hU
      clear hU
      by_cases hlt : q < S1.length
      · have g1 : decide ((q : Int) < (S1.length : Int)) = true := decide_eq_true (by omega)
        have g2 : decide (q < S1.length) = true := decide_eq_true hlt
        have i0 : (0 : Int) ≤ (q : Int) := by omega
        have i1 : (q : Int) < (S1.length : Int) := by omega
        have hnx := wantS_next o hlt
        have hx1 := Hsa.out _ (List.getElem_mem hlt)
        obtain ⟨X, hX⟩ : ∃ X, S1[q] = X := ⟨_, rfl⟩
        rw [hX] at hnx hx1
        rw [← HU.out] at hnx
        have Hnx := Lib.hid hnx
        have HX := Lib.hid hX
        have hXl := hx1.1
        have HXlg := Lib.hid hx1.2
        clear hX hnx hx1
        go_wp2_with fail
        go_loopw [6, 8] (fun u j wq => ∃ m Z : Nat, u = i64 Z ∧ Z = (if (X.l.take m).any (fun x => clashB x o) then q + 1 else U) ∧ j = i64 m ∧ m ≤ X.l.length ∧ Below w7.heap.size w7 wq) (fun _ j _ => X.l.length - (intOf j).toNat)
        case atStart => exact ⟨0, U, rfl, by simp, rfl, Nat.zero_le _, hb⟩
        case round =>
          clear hb
          obtain ⟨m, Z, rfl, hZ, rfl, hm, hb⟩ := hrel
          have HZ := Lib.hid hZ
          clear hZ
          obtain ⟨b6, o6, rfl, _, kx, p6⟩ := (s6.later hb).sv hlt
          rw [HX.out] at kx p6
          by_cases hml : m < X.l.length
          · have g3 : decide ((m : Int) < (X.l.length : Int)) = true := decide_eq_true (by omega)
            have g4 : decide (m < X.l.length) = true := decide_eq_true hml
            have j0 : (0 : Int) ≤ (m : Int) := by omega
            have j1 : (m : Int) < (X.l.length : Int) := by omega
            obtain ⟨bx, ox, hxa, _, hokx, d0, d1, d2, d3, d4, d5, d6, d7, d8, d9⟩ := kx.od hml
            have hly := HXlg.out _ (List.getElem_mem hml)
            have Hany := Lib.hid (any_take (y := o) hml)
            have ex : IntKind.i64.wrap ((q : Int) + 1) = ((q + 1 : Nat) : Int) := by rw [IntKind.wrap_i64]; omega
            have HC := Lib.hid (fun W (hW : Below wr.heap.size wr W) => clash_c X.l[m] o W (Okb.later hokx hW) (Okb.later (Okb.later hok hb) hW) hly hlo)
            rw [hxa] at p6
            obtain ⟨y, hy⟩ : ∃ y, X.l[m] = y := ⟨_, rfl⟩
            rw [hy] at HC Hany d0 d1 d2 d3 d4 d5 d6 d7 d8 d9
            unfold Od.v at HC
            have e0 := (hb.cell (World.block_lt_of_cell? _ _ hq0)).trans hq0
            have e1 := (hb.cell (World.block_lt_of_cell? _ _ hq1)).trans hq1
            have e2 := (hb.cell (World.block_lt_of_cell? _ _ hq2)).trans hq2
            have e3 := (hb.cell (World.block_lt_of_cell? _ _ hq3)).trans hq3
            have e4 := (hb.cell (World.block_lt_of_cell? _ _ hq4)).trans hq4
            have e5 := (hb.cell (World.block_lt_of_cell? _ _ hq5)).trans hq5
            have e6 := (hb.cell (World.block_lt_of_cell? _ _ hq6)).trans hq6
            have e7 := (hb.cell (World.block_lt_of_cell? _ _ hq7)).trans hq7
            have e8 := (hb.cell (World.block_lt_of_cell? _ _ hq8)).trans hq8
            have e9 := (hb.cell (World.block_lt_of_cell? _ _ hq9)).trans hq9
            have hS : ∀ V, Below wr.heap.size wr V → (fun V : World => Below wr.heap.size wr V ∧ V.cell? ⟨b6, o6 + q, none⟩ = some (.slice (some ⟨bx, ox, none⟩) X.l.length X.c) ∧ V.cell? ⟨bx, ox + m * 10, none⟩ = some (i64 y.client) ∧ V.cell? ⟨bx, ox + m * 10 + 1, none⟩ = some (i64 y.seq) ∧ V.cell? ⟨bx, ox + m * 10 + 2, none⟩ = some (i64 y.kind) ∧ V.cell? ⟨bx, ox + m * 10 + 3, none⟩ = some (.string y.acct) ∧ V.cell? ⟨bx, ox + m * 10 + 4, none⟩ = some (.string y.peer) ∧ V.cell? ⟨bx, ox + m * 10 + 5, none⟩ = some (i64 y.sum) ∧ V.cell? ⟨bx, ox + m * 10 + 6, none⟩ = some (.slice y.la y.legs.length y.lc) ∧ V.cell? ⟨bx, ox + m * 10 + 7, none⟩ = some (i64 y.period) ∧ V.cell? ⟨bx, ox + m * 10 + 8, none⟩ = some (i64 y.hold) ∧ V.cell? ⟨bx, ox + m * 10 + 9, none⟩ = some (.string y.note) ∧ V.cell? ⟨ga, 0, none⟩ = some (i64 o.client) ∧ V.cell? ⟨ga, 1, none⟩ = some (i64 o.seq) ∧ V.cell? ⟨ga, 2, none⟩ = some (i64 o.kind) ∧ V.cell? ⟨ga, 3, none⟩ = some (.string o.acct) ∧ V.cell? ⟨ga, 4, none⟩ = some (.string o.peer) ∧ V.cell? ⟨ga, 5, none⟩ = some (i64 o.sum) ∧ V.cell? ⟨ga, 6, none⟩ = some (.slice o.la o.legs.length o.lc) ∧ V.cell? ⟨ga, 7, none⟩ = some (i64 o.period) ∧ V.cell? ⟨ga, 8, none⟩ = some (i64 o.hold) ∧ V.cell? ⟨ga, 9, none⟩ = some (.string o.note)) V := fun V hV => ⟨hV, (hV.cell (World.block_lt_of_cell? _ _ p6)).trans p6, (hV.cell (World.block_lt_of_cell? _ _ d0)).trans d0, (hV.cell (World.block_lt_of_cell? _ _ d1)).trans d1, (hV.cell (World.block_lt_of_cell? _ _ d2)).trans d2, (hV.cell (World.block_lt_of_cell? _ _ d3)).trans d3, (hV.cell (World.block_lt_of_cell? _ _ d4)).trans d4, (hV.cell (World.block_lt_of_cell? _ _ d5)).trans d5, (hV.cell (World.block_lt_of_cell? _ _ d6)).trans d6, (hV.cell (World.block_lt_of_cell? _ _ d7)).trans d7, (hV.cell (World.block_lt_of_cell? _ _ d8)).trans d8, (hV.cell (World.block_lt_of_cell? _ _ d9)).trans d9, (hV.cell (World.block_lt_of_cell? _ _ e0)).trans e0, (hV.cell (World.block_lt_of_cell? _ _ e1)).trans e1, (hV.cell (World.block_lt_of_cell? _ _ e2)).trans e2, (hV.cell (World.block_lt_of_cell? _ _ e3)).trans e3, (hV.cell (World.block_lt_of_cell? _ _ e4)).trans e4, (hV.cell (World.block_lt_of_cell? _ _ e5)).trans e5, (hV.cell (World.block_lt_of_cell? _ _ e6)).trans e6, (hV.cell (World.block_lt_of_cell? _ _ e7)).trans e7, (hV.cell (World.block_lt_of_cell? _ _ e8)).trans e8, (hV.cell (World.block_lt_of_cell? _ _ e9)).trans e9⟩
            have HS := Lib.hid hS
            clear hS hokx hly kx hy hxa
            cases hcl : clashB y o
            · rw [hcl] at HC
              have Hnz := Lib.hid (show Z = (if (X.l.take (m + 1)).any (fun x => clashB x o) then q + 1 else U) by rw [Hany.out, hcl, Bool.or_false]; exact HZ.out)
              clear hcl Hany
              go_upto_region 15 with fail
              refine wp_region_noPanic ?_
              refine wp_region_l 8 (fun V : World => Below wr.heap.size wr V ∧ V.cell? ⟨b6, o6 + q, none⟩ = some (.slice (some ⟨bx, ox, none⟩) X.l.length X.c) ∧ V.cell? ⟨bx, ox + m * 10, none⟩ = some (i64 y.client) ∧ V.cell? ⟨bx, ox + m * 10 + 1, none⟩ = some (i64 y.seq) ∧ V.cell? ⟨bx, ox + m * 10 + 2, none⟩ = some (i64 y.kind) ∧ V.cell? ⟨bx, ox + m * 10 + 3, none⟩ = some (.string y.acct) ∧ V.cell? ⟨bx, ox + m * 10 + 4, none⟩ = some (.string y.peer) ∧ V.cell? ⟨bx, ox + m * 10 + 5, none⟩ = some (i64 y.sum) ∧ V.cell? ⟨bx, ox + m * 10 + 6, none⟩ = some (.slice y.la y.legs.length y.lc) ∧ V.cell? ⟨bx, ox + m * 10 + 7, none⟩ = some (i64 y.period) ∧ V.cell? ⟨bx, ox + m * 10 + 8, none⟩ = some (i64 y.hold) ∧ V.cell? ⟨bx, ox + m * 10 + 9, none⟩ = some (.string y.note) ∧ V.cell? ⟨ga, 0, none⟩ = some (i64 o.client) ∧ V.cell? ⟨ga, 1, none⟩ = some (i64 o.seq) ∧ V.cell? ⟨ga, 2, none⟩ = some (i64 o.kind) ∧ V.cell? ⟨ga, 3, none⟩ = some (.string o.acct) ∧ V.cell? ⟨ga, 4, none⟩ = some (.string o.peer) ∧ V.cell? ⟨ga, 5, none⟩ = some (i64 o.sum) ∧ V.cell? ⟨ga, 6, none⟩ = some (.slice o.la o.legs.length o.lc) ∧ V.cell? ⟨ga, 7, none⟩ = some (i64 o.period) ∧ V.cell? ⟨ga, 8, none⟩ = some (i64 o.hold) ∧ V.cell? ⟨ga, 9, none⟩ = some (.string o.note)) (by kernel_rfl) (HS.out _ (Below.refl _ _).drew) (fun hH => ?_)
              refine wpAnyL_take (i := 0) (v := ?v20001) rfl (by kernel_rfl) (by kernel_rfl) (by kernel_rfl) (by kernel_rfl) (fun _ _ _ h => h) (Or.inl ⟨by kernel_rfl, ?hy20001⟩) (by assumption) ?r20001
              case hy20001 => (intro W hSW; obtain ⟨hV0, s0, s1, s2, s3, s4, s5, s6, s7, s8, s9, s10, s11, s12, s13, s14, s15, s16, s17, s18, s19, s20⟩ := hSW; go_simp; try with_reducible rfl)
              try simp only [Act.put, List.getElem_toArray, List.getElem_cons_zero, List.setIfInBounds_toArray, List.set_cons_zero, List.set_cons_succ]
              refine wpAnyL_take (i := 1) (v := ?v20002) rfl (by kernel_rfl) (by kernel_rfl) (by kernel_rfl) (by kernel_rfl) (fun _ _ _ h => h) (Or.inl ⟨by kernel_rfl, ?hy20002⟩) (by assumption) ?r20002
              case hy20002 => (intro W hSW; obtain ⟨hV0, s0, s1, s2, s3, s4, s5, s6, s7, s8, s9, s10, s11, s12, s13, s14, s15, s16, s17, s18, s19, s20⟩ := hSW; go_simp; try with_reducible rfl)
              try simp only [Act.put, List.getElem_toArray, List.getElem_cons_zero, List.getElem_cons_succ, List.setIfInBounds_toArray, List.set_cons_zero, List.set_cons_succ]
              refine wpAnyL_take (i := 2) (v := ?v20003) rfl (by kernel_rfl) (by kernel_rfl) (by kernel_rfl) (by kernel_rfl) (fun _ _ _ h => h) (Or.inl ⟨by kernel_rfl, ?hy20003⟩) (by assumption) ?r20003
              case hy20003 => (intro W hSW; obtain ⟨hV0, s0, s1, s2, s3, s4, s5, s6, s7, s8, s9, s10, s11, s12, s13, s14, s15, s16, s17, s18, s19, s20⟩ := hSW; go_simp; try with_reducible rfl)
              try simp only [Act.put, List.getElem_toArray, List.getElem_cons_zero, List.getElem_cons_succ, List.setIfInBounds_toArray, List.set_cons_zero, List.set_cons_succ]
              refine wpAnyL_take (i := 3) (v := ?v20004) rfl (by kernel_rfl) (by kernel_rfl) (by kernel_rfl) (by kernel_rfl) (fun _ _ _ h => h) (Or.inl ⟨by kernel_rfl, ?hy20004⟩) (by assumption) ?r20004
              case hy20004 => (intro W hSW; obtain ⟨hV0, s0, s1, s2, s3, s4, s5, s6, s7, s8, s9, s10, s11, s12, s13, s14, s15, s16, s17, s18, s19, s20⟩ := hSW; go_simp; try with_reducible rfl)
              try simp only [Act.put, List.getElem_toArray, List.getElem_cons_zero, List.getElem_cons_succ, List.setIfInBounds_toArray, List.set_cons_zero, List.set_cons_succ]
              refine wpAnyL_take (i := 4) (v := ?v20005) rfl (by kernel_rfl) (by kernel_rfl) (by kernel_rfl) (by kernel_rfl) (fun _ _ _ h => h) (Or.inl ⟨by kernel_rfl, ?hy20005⟩) (by assumption) ?r20005
              case hy20005 => (intro W hSW; obtain ⟨hV0, s0, s1, s2, s3, s4, s5, s6, s7, s8, s9, s10, s11, s12, s13, s14, s15, s16, s17, s18, s19, s20⟩ := hSW; go_simp; try with_reducible rfl)
              try simp only [Act.put, List.getElem_toArray, List.getElem_cons_zero, List.getElem_cons_succ, List.setIfInBounds_toArray, List.set_cons_zero, List.set_cons_succ]
              refine wpAnyL_take (i := 5) (v := ?v20006) rfl (by kernel_rfl) (by kernel_rfl) (by kernel_rfl) (by kernel_rfl) (fun _ _ _ h => h) (Or.inl ⟨by kernel_rfl, ?hy20006⟩) (by assumption) ?r20006
              case hy20006 => (intro W hSW; obtain ⟨hV0, s0, s1, s2, s3, s4, s5, s6, s7, s8, s9, s10, s11, s12, s13, s14, s15, s16, s17, s18, s19, s20⟩ := hSW; go_simp; try with_reducible rfl)
              try simp only [Act.put, List.getElem_toArray, List.getElem_cons_zero, List.getElem_cons_succ, List.setIfInBounds_toArray, List.set_cons_zero, List.set_cons_succ]
              refine wpAnyL_take (i := 6) (v := ?v20007) rfl (by kernel_rfl) (by kernel_rfl) (by kernel_rfl) (by kernel_rfl) (fun _ _ _ h => h) (Or.inl ⟨by kernel_rfl, ?hy20007⟩) (by assumption) ?r20007
              case hy20007 => (intro W hSW; obtain ⟨hV0, s0, s1, s2, s3, s4, s5, s6, s7, s8, s9, s10, s11, s12, s13, s14, s15, s16, s17, s18, s19, s20⟩ := hSW; go_simp; try with_reducible rfl)
              try simp only [Act.put, List.getElem_toArray, List.getElem_cons_zero, List.getElem_cons_succ, List.setIfInBounds_toArray, List.set_cons_zero, List.set_cons_succ]
              refine wpAnyL_take (i := 7) (v := ?v20008) rfl (by kernel_rfl) (by kernel_rfl) (by kernel_rfl) (by kernel_rfl) (fun _ _ _ h => h) (Or.inl ⟨by kernel_rfl, ?hy20008⟩) (by assumption) ?r20008
              case hy20008 => (intro W hSW; obtain ⟨hV0, s0, s1, s2, s3, s4, s5, s6, s7, s8, s9, s10, s11, s12, s13, s14, s15, s16, s17, s18, s19, s20⟩ := hSW; go_simp; try with_reducible rfl)
              try simp only [Act.put, List.getElem_toArray, List.getElem_cons_zero, List.getElem_cons_succ, List.setIfInBounds_toArray, List.set_cons_zero, List.set_cons_succ]
              refine wpAnyL_last (by kernel_rfl) rfl (fun K hK => ?_)
              go_simp
              go_at_call 29
              with_reducible refine (HC.out _ hH.1).mono ?_
              rintro e w9 ⟨rfl, hF⟩
              have hbu := below_on hH.1 (Nat.le_refl _) hF
              clear hF
              refine hK.out _ _ ?_
              clear hK K
              try simp only [Act.put, List.getElem_toArray, List.getElem_cons_zero, List.getElem_cons_succ, List.setIfInBounds_toArray, List.set_cons_zero, List.set_cons_succ]
              refine wpAnyL_done (by kernel_rfl) ?_ _
              refine NoPanic.normal ?_
              have hV := hbu
              clear hH HS p6 d0 d1 d2 d3 d4 d5 d6 d7 d8 d9 e0 e1 e2 e3 e4 e5 e6 e7 e8 e9
              go_wp2
              go_roundw
              case rel => exact ⟨m + 1, Z, by go_num, Hnz.out, by go_num, by omega, hb.trans (hV.mono hb.size)⟩
              case measure => simp [intOf]; omega
            · rw [hcl] at HC
              have Hnz := Lib.hid (show q + 1 = (if (X.l.take (m + 1)).any (fun x => clashB x o) then q + 1 else U) by rw [Hany.out, hcl, Bool.or_true, if_pos rfl])
              clear hcl Hany
              go_upto_region 15 with fail
              refine wp_region_noPanic ?_
              refine wp_region_l 8 (fun V : World => Below wr.heap.size wr V ∧ V.cell? ⟨b6, o6 + q, none⟩ = some (.slice (some ⟨bx, ox, none⟩) X.l.length X.c) ∧ V.cell? ⟨bx, ox + m * 10, none⟩ = some (i64 y.client) ∧ V.cell? ⟨bx, ox + m * 10 + 1, none⟩ = some (i64 y.seq) ∧ V.cell? ⟨bx, ox + m * 10 + 2, none⟩ = some (i64 y.kind) ∧ V.cell? ⟨bx, ox + m * 10 + 3, none⟩ = some (.string y.acct) ∧ V.cell? ⟨bx, ox + m * 10 + 4, none⟩ = some (.string y.peer) ∧ V.cell? ⟨bx, ox + m * 10 + 5, none⟩ = some (i64 y.sum) ∧ V.cell? ⟨bx, ox + m * 10 + 6, none⟩ = some (.slice y.la y.legs.length y.lc) ∧ V.cell? ⟨bx, ox + m * 10 + 7, none⟩ = some (i64 y.period) ∧ V.cell? ⟨bx, ox + m * 10 + 8, none⟩ = some (i64 y.hold) ∧ V.cell? ⟨bx, ox + m * 10 + 9, none⟩ = some (.string y.note) ∧ V.cell? ⟨ga, 0, none⟩ = some (i64 o.client) ∧ V.cell? ⟨ga, 1, none⟩ = some (i64 o.seq) ∧ V.cell? ⟨ga, 2, none⟩ = some (i64 o.kind) ∧ V.cell? ⟨ga, 3, none⟩ = some (.string o.acct) ∧ V.cell? ⟨ga, 4, none⟩ = some (.string o.peer) ∧ V.cell? ⟨ga, 5, none⟩ = some (i64 o.sum) ∧ V.cell? ⟨ga, 6, none⟩ = some (.slice o.la o.legs.length o.lc) ∧ V.cell? ⟨ga, 7, none⟩ = some (i64 o.period) ∧ V.cell? ⟨ga, 8, none⟩ = some (i64 o.hold) ∧ V.cell? ⟨ga, 9, none⟩ = some (.string o.note)) (by kernel_rfl) (HS.out _ (Below.refl _ _).drew) (fun hH => ?_)
              refine wpAnyL_take (i := 0) (v := ?v20009) rfl (by kernel_rfl) (by kernel_rfl) (by kernel_rfl) (by kernel_rfl) (fun _ _ _ h => h) (Or.inl ⟨by kernel_rfl, ?hy20009⟩) (by assumption) ?r20009
              case hy20009 => (intro W hSW; obtain ⟨hV0, s0, s1, s2, s3, s4, s5, s6, s7, s8, s9, s10, s11, s12, s13, s14, s15, s16, s17, s18, s19, s20⟩ := hSW; go_simp; try with_reducible rfl)
              try simp only [Act.put, List.getElem_toArray, List.getElem_cons_zero, List.setIfInBounds_toArray, List.set_cons_zero, List.set_cons_succ]
              refine wpAnyL_take (i := 1) (v := ?v20010) rfl (by kernel_rfl) (by kernel_rfl) (by kernel_rfl) (by kernel_rfl) (fun _ _ _ h => h) (Or.inl ⟨by kernel_rfl, ?hy20010⟩) (by assumption) ?r20010
              case hy20010 => (intro W hSW; obtain ⟨hV0, s0, s1, s2, s3, s4, s5, s6, s7, s8, s9, s10, s11, s12, s13, s14, s15, s16, s17, s18, s19, s20⟩ := hSW; go_simp; try with_reducible rfl)
              try simp only [Act.put, List.getElem_toArray, List.getElem_cons_zero, List.getElem_cons_succ, List.setIfInBounds_toArray, List.set_cons_zero, List.set_cons_succ]
              refine wpAnyL_take (i := 2) (v := ?v20011) rfl (by kernel_rfl) (by kernel_rfl) (by kernel_rfl) (by kernel_rfl) (fun _ _ _ h => h) (Or.inl ⟨by kernel_rfl, ?hy20011⟩) (by assumption) ?r20011
              case hy20011 => (intro W hSW; obtain ⟨hV0, s0, s1, s2, s3, s4, s5, s6, s7, s8, s9, s10, s11, s12, s13, s14, s15, s16, s17, s18, s19, s20⟩ := hSW; go_simp; try with_reducible rfl)
              try simp only [Act.put, List.getElem_toArray, List.getElem_cons_zero, List.getElem_cons_succ, List.setIfInBounds_toArray, List.set_cons_zero, List.set_cons_succ]
              refine wpAnyL_take (i := 3) (v := ?v20012) rfl (by kernel_rfl) (by kernel_rfl) (by kernel_rfl) (by kernel_rfl) (fun _ _ _ h => h) (Or.inl ⟨by kernel_rfl, ?hy20012⟩) (by assumption) ?r20012
              case hy20012 => (intro W hSW; obtain ⟨hV0, s0, s1, s2, s3, s4, s5, s6, s7, s8, s9, s10, s11, s12, s13, s14, s15, s16, s17, s18, s19, s20⟩ := hSW; go_simp; try with_reducible rfl)
              try simp only [Act.put, List.getElem_toArray, List.getElem_cons_zero, List.getElem_cons_succ, List.setIfInBounds_toArray, List.set_cons_zero, List.set_cons_succ]
              refine wpAnyL_take (i := 4) (v := ?v20013) rfl (by kernel_rfl) (by kernel_rfl) (by kernel_rfl) (by kernel_rfl) (fun _ _ _ h => h) (Or.inl ⟨by kernel_rfl, ?hy20013⟩) (by assumption) ?r20013
              case hy20013 => (intro W hSW; obtain ⟨hV0, s0, s1, s2, s3, s4, s5, s6, s7, s8, s9, s10, s11, s12, s13, s14, s15, s16, s17, s18, s19, s20⟩ := hSW; go_simp; try with_reducible rfl)
              try simp only [Act.put, List.getElem_toArray, List.getElem_cons_zero, List.getElem_cons_succ, List.setIfInBounds_toArray, List.set_cons_zero, List.set_cons_succ]
              refine wpAnyL_take (i := 5) (v := ?v20014) rfl (by kernel_rfl) (by kernel_rfl) (by kernel_rfl) (by kernel_rfl) (fun _ _ _ h => h) (Or.inl ⟨by kernel_rfl, ?hy20014⟩) (by assumption) ?r20014
              case hy20014 => (intro W hSW; obtain ⟨hV0, s0, s1, s2, s3, s4, s5, s6, s7, s8, s9, s10, s11, s12, s13, s14, s15, s16, s17, s18, s19, s20⟩ := hSW; go_simp; try with_reducible rfl)
              try simp only [Act.put, List.getElem_toArray, List.getElem_cons_zero, List.getElem_cons_succ, List.setIfInBounds_toArray, List.set_cons_zero, List.set_cons_succ]
              refine wpAnyL_take (i := 6) (v := ?v20015) rfl (by kernel_rfl) (by kernel_rfl) (by kernel_rfl) (by kernel_rfl) (fun _ _ _ h => h) (Or.inl ⟨by kernel_rfl, ?hy20015⟩) (by assumption) ?r20015
              case hy20015 => (intro W hSW; obtain ⟨hV0, s0, s1, s2, s3, s4, s5, s6, s7, s8, s9, s10, s11, s12, s13, s14, s15, s16, s17, s18, s19, s20⟩ := hSW; go_simp; try with_reducible rfl)
              try simp only [Act.put, List.getElem_toArray, List.getElem_cons_zero, List.getElem_cons_succ, List.setIfInBounds_toArray, List.set_cons_zero, List.set_cons_succ]
              refine wpAnyL_take (i := 7) (v := ?v20016) rfl (by kernel_rfl) (by kernel_rfl) (by kernel_rfl) (by kernel_rfl) (fun _ _ _ h => h) (Or.inl ⟨by kernel_rfl, ?hy20016⟩) (by assumption) ?r20016
              case hy20016 => (intro W hSW; obtain ⟨hV0, s0, s1, s2, s3, s4, s5, s6, s7, s8, s9, s10, s11, s12, s13, s14, s15, s16, s17, s18, s19, s20⟩ := hSW; go_simp; try with_reducible rfl)
              try simp only [Act.put, List.getElem_toArray, List.getElem_cons_zero, List.getElem_cons_succ, List.setIfInBounds_toArray, List.set_cons_zero, List.set_cons_succ]
              refine wpAnyL_last (by kernel_rfl) rfl (fun K hK => ?_)
              go_simp
              go_at_call 29
              with_reducible refine (HC.out _ hH.1).mono ?_
              rintro e w9 ⟨rfl, hF⟩
              have hbu := below_on hH.1 (Nat.le_refl _) hF
              clear hF
              refine hK.out _ _ ?_
              clear hK K
              try simp only [Act.put, List.getElem_toArray, List.getElem_cons_zero, List.getElem_cons_succ, List.setIfInBounds_toArray, List.set_cons_zero, List.set_cons_succ]
              refine wpAnyL_done (by kernel_rfl) ?_ _
              refine NoPanic.normal ?_
              have hV := hbu
              clear hH HS p6 d0 d1 d2 d3 d4 d5 d6 d7 d8 d9 e0 e1 e2 e3 e4 e5 e6 e7 e8 e9
              go_wp2
              go_roundw
              case rel => exact ⟨m + 1, q + 1, by go_num, Hnz.out, by go_num, by omega, hb.trans (hV.mono hb.size)⟩
              case measure => simp [intOf]; omega
          · obtain rfl : m = X.l.length := by omega
            have g3 : decide ((X.l.length : Int) < (X.l.length : Int)) = false := decide_eq_false (by omega)
            have Hnz := Lib.hid (show Z = wantS o S1 (q + 1) by rw [Hnx.out, HZ.out, List.take_length])
            clear kx
            go_wp2
            go_roundw
            case rel => exact ⟨q + 1, Z, by first | rfl | go_num, Hnz.out, by go_num, by omega, hb⟩
            case measure => simp [intOf]; omega
      · obtain rfl : q = S1.length := by omega
        have g1 : decide ((S1.length : Int) < (S1.length : Int)) = false := decide_eq_false (by omega)
        go_wp2
        go_meet
        exact ⟨by rw [HU.out], hb⟩
  case rest =>
  obtain ⟨rfl, hb⟩ := hcut
  have hwl := wantS_le o S1 S1.length
  have hwa := wantS_all o S1
  rw [← hwa] at Hlen Hin
  obtain ⟨U, hU⟩ : ∃ U, wantS o S1 S1.length = U := ⟨_, rfl⟩
  rw [hU] at Hlen Hin hwl
  have ew : IntKind.i64.wrap ((U : Int) + 1) = ((U + 1 : Nat) : Int) := by rw [IntKind.wrap_i64]; omega
  have em : max (S1.length : Int) ((U + 1 : Nat) : Int) = (S2.length : Int) := by have := Hlen.out; omega
  have em2 : max (S1.length : Int) ((U : Int) + 1) = (S2.length : Int) := by have := Hlen.out; omega
  have em3 : max S1.length (U + 1) = S2.length := Hlen.out.symm
  clear hwa Hlen
  rw [hU]
  clear hU
  go_wp2_with fail
  go_loopw [9] (fun i wr => ∃ q : Nat, i = i64 q ∧ q ≤ S2.length ∧ Below w7.heap.size w7 wr) (fun i _ => S2.length - (intOf i).toNat)
  case atStart => exact ⟨0, rfl, Nat.zero_le _, hb⟩
  case round =>
    clear hb
    obtain ⟨q, rfl, hq, hb⟩ := hrel
    by_cases hlt : q < S2.length
    · have g1 : decide ((q : Int) < (S2.length : Int)) = true := decide_eq_true (by omega)
      have g2 : decide (q < S2.length) = true := decide_eq_true hlt
      have i0 : (0 : Int) ≤ (q : Int) := by omega
      have i1 : (q : Int) < (S2.length : Int) := by omega
      have hiq := Hin.out q hlt
      have hx1 := Hsb.out _ (List.getElem_mem hlt)
      obtain ⟨X, hX⟩ : ∃ X, S2[q] = X := ⟨_, rfl⟩
      rw [hX] at hiq hx1
      have Hsm := Lib.hid hiq.1
      have Hlx := Lib.hid hiq.2
      have HX := Lib.hid hX
      have hXl := hx1.1
      have HXlg := Lib.hid hx1.2
      clear hX hiq hx1
      go_wp2_with fail
      go_loopw [10, 11] (fun v j wq => ∃ m : Nat, j = i64 m ∧ m ≤ X.l.length ∧ Own wq w7.heap.size 45 v ((X.l.take m).filter (fun x => !decide (x.id = o.id))) ∧ Below w7.heap.size w7 wq) (fun _ j _ => X.l.length - (intOf j).toNat)
      case atStart => exact ⟨0, rfl, Nat.zero_le _, Own.nil_ _ _ _, hb⟩
      case round =>
        clear hb
        obtain ⟨m, rfl, hm, hO, hb⟩ := hrel
        obtain ⟨b7, o7, rfl, _, kx, p7⟩ := (s7.below hb).sv hlt
        rw [HX.out] at kx p7
        by_cases hml : m < X.l.length
        · have g3 : decide ((m : Int) < (X.l.length : Int)) = true := decide_eq_true (by omega)
          have g4 : decide (m < X.l.length) = true := decide_eq_true hml
          have j0 : (0 : Int) ≤ (m : Int) := by omega
          have j1 : (m : Int) < (X.l.length : Int) := by omega
          obtain ⟨bx, ox, hxa, _, hokx, d0, d1, d2, d3, d4, d5, d6, d7, d8, d9⟩ := kx.od hml
          have Hfn := Lib.hid (filter_next (f := fun x => !decide (x.id = o.id)) hml)
          have Hfl := Lib.hid (filter_len_le X.l (fun x => !decide (x.id = o.id)) m)
          rw [hxa] at p7
          obtain ⟨y, hy⟩ : ∃ y, X.l[m] = y := ⟨_, rfl⟩
          rw [hy] at hokx Hfn d0 d1 d2 d3 d4 d5 d6 d7 d8 d9
          have HO := Lib.hid hO
          have Hokx := Lib.hid hokx
          have e0 := (hb.cell (World.block_lt_of_cell? _ _ hq0)).trans hq0
          have e1 := (hb.cell (World.block_lt_of_cell? _ _ hq1)).trans hq1
          generalize (X.l.take m).filter (fun x => !decide (x.id = o.id)) = R at *
          have hS : ∀ V, Below wr.heap.size wr V → (fun V : World => Below wr.heap.size wr V ∧ V.cell? ⟨b7, o7 + q, none⟩ = some (.slice (some ⟨bx, ox, none⟩) X.l.length X.c) ∧ V.cell? ⟨bx, ox + m * 10, none⟩ = some (i64 y.client) ∧ V.cell? ⟨bx, ox + m * 10 + 1, none⟩ = some (i64 y.seq) ∧ V.cell? ⟨ga, 0, none⟩ = some (i64 o.client) ∧ V.cell? ⟨ga, 1, none⟩ = some (i64 o.seq)) V := fun V hV => ⟨hV, (hV.cell (World.block_lt_of_cell? _ _ p7)).trans p7, (hV.cell (World.block_lt_of_cell? _ _ d0)).trans d0, (hV.cell (World.block_lt_of_cell? _ _ d1)).trans d1, (hV.cell (World.block_lt_of_cell? _ _ e0)).trans e0, (hV.cell (World.block_lt_of_cell? _ _ e1)).trans e1⟩
          have HS := Lib.hid hS
          clear hS hokx kx hy hxa hO
          by_cases hid : y.id = o.id
          · have qn : ∀ W : World, (binOp .neq 42 (.agg #[i64 y.client, i64 y.seq]) (.agg #[i64 o.client, i64 o.seq])).run Tryz.prog W = .ok (.bool false) W := fun W => by rw [neq_id, decide_eq_true (show Id.mk y.client y.seq = ⟨o.client, o.seq⟩ from hid)]; rfl
            have Hfe := Lib.hid (show (X.l.take (m + 1)).filter (fun x => !decide (x.id = o.id)) = R by rw [Hfn.out, decide_eq_true hid]; simp)
            clear hid Hfn
            go_upto_region 26 with fail
            refine wp_region_noPanic ?_
            refine wp_region_l 10 (fun V : World => Below wr.heap.size wr V ∧ V.cell? ⟨b7, o7 + q, none⟩ = some (.slice (some ⟨bx, ox, none⟩) X.l.length X.c) ∧ V.cell? ⟨bx, ox + m * 10, none⟩ = some (i64 y.client) ∧ V.cell? ⟨bx, ox + m * 10 + 1, none⟩ = some (i64 y.seq) ∧ V.cell? ⟨ga, 0, none⟩ = some (i64 o.client) ∧ V.cell? ⟨ga, 1, none⟩ = some (i64 o.seq)) (by kernel_rfl) (HS.out _ (Below.refl _ _).drew) (fun hH => ?_)
            refine wpAnyL_take (i := 0) (v := ?v20017) rfl (by kernel_rfl) (by kernel_rfl) (by kernel_rfl) (by kernel_rfl) (fun _ _ _ h => h) (Or.inl ⟨by kernel_rfl, ?hy20017⟩) (by assumption) ?r20017
            case hy20017 => (intro W hSW; obtain ⟨hV0, s0, s1, s2, s3, s4⟩ := hSW; go_simp; try with_reducible rfl)
            try simp only [Act.put, List.getElem_toArray, List.getElem_cons_zero, List.setIfInBounds_toArray, List.set_cons_zero, List.set_cons_succ]
            refine wpAnyL_take (i := 1) (v := ?v20018) rfl (by kernel_rfl) (by kernel_rfl) (by kernel_rfl) (by kernel_rfl) (fun _ _ _ h => h) (Or.inl ⟨by kernel_rfl, ?hy20018⟩) (by assumption) ?r20018
            case hy20018 => (intro W hSW; obtain ⟨hV0, s0, s1, s2, s3, s4⟩ := hSW; go_simp; try with_reducible rfl)
            try simp only [Act.put, List.getElem_toArray, List.getElem_cons_zero, List.getElem_cons_succ, List.setIfInBounds_toArray, List.set_cons_zero, List.set_cons_succ]
            refine wpAnyL_take (i := 2) (v := ?v20019) rfl (by kernel_rfl) (by kernel_rfl) (by kernel_rfl) (by kernel_rfl) (fun _ _ _ h => h) (Or.inl ⟨by kernel_rfl, ?hy20019⟩) (by assumption) ?r20019
            case hy20019 => (intro W hSW; obtain ⟨hV0, s0, s1, s2, s3, s4⟩ := hSW; go_simp; try with_reducible rfl)
            try simp only [Act.put, List.getElem_toArray, List.getElem_cons_zero, List.getElem_cons_succ, List.setIfInBounds_toArray, List.set_cons_zero, List.set_cons_succ]
            refine wpAnyL_take (i := 3) (v := ?v20020) rfl (by kernel_rfl) (by kernel_rfl) (by kernel_rfl) (by kernel_rfl) (fun _ _ _ h => h) (Or.inl ⟨by kernel_rfl, ?hy20020⟩) (by assumption) ?r20020
            case hy20020 => (intro W hSW; obtain ⟨hV0, s0, s1, s2, s3, s4⟩ := hSW; go_simp; try with_reducible rfl)
            try simp only [Act.put, List.getElem_toArray, List.getElem_cons_zero, List.getElem_cons_succ, List.setIfInBounds_toArray, List.set_cons_zero, List.set_cons_succ]
            refine wpAnyL_take (i := 4) (v := ?v20021) rfl (by kernel_rfl) (by kernel_rfl) (by kernel_rfl) (by kernel_rfl) (fun _ _ _ h => h) (Or.inl ⟨by kernel_rfl, ?hy20021⟩) (by assumption) ?r20021
            case hy20021 => (intro W hSW; obtain ⟨hV0, s0, s1, s2, s3, s4⟩ := hSW; go_simp; try with_reducible rfl)
            try simp only [Act.put, List.getElem_toArray, List.getElem_cons_zero, List.getElem_cons_succ, List.setIfInBounds_toArray, List.set_cons_zero, List.set_cons_succ]
            refine wpAnyL_take (i := 5) (v := ?v20022) rfl (by kernel_rfl) (by kernel_rfl) (by kernel_rfl) (by kernel_rfl) (fun _ _ _ h => h) (Or.inl ⟨by kernel_rfl, ?hy20022⟩) (by assumption) ?r20022
            case hy20022 => (intro W hSW; obtain ⟨hV0, s0, s1, s2, s3, s4⟩ := hSW; go_simp; try with_reducible rfl)
            try simp only [Act.put, List.getElem_toArray, List.getElem_cons_zero, List.getElem_cons_succ, List.setIfInBounds_toArray, List.set_cons_zero, List.set_cons_succ]
            refine wpAnyL_take (i := 6) (v := ?v20023) rfl (by kernel_rfl) (by kernel_rfl) (by kernel_rfl) (by kernel_rfl) (fun _ _ _ h => h) (Or.inl ⟨by kernel_rfl, ?hy20023⟩) (by assumption) ?r20023
            case hy20023 => (intro W hSW; obtain ⟨hV0, s0, s1, s2, s3, s4⟩ := hSW; go_simp; try with_reducible rfl)
            try simp only [Act.put, List.getElem_toArray, List.getElem_cons_zero, List.getElem_cons_succ, List.setIfInBounds_toArray, List.set_cons_zero, List.set_cons_succ]
            refine wpAnyL_take (i := 7) (v := ?v20024) rfl (by kernel_rfl) (by kernel_rfl) (by kernel_rfl) (by kernel_rfl) (fun _ _ _ h => h) (Or.inl ⟨by kernel_rfl, ?hy20024⟩) (by assumption) ?r20024
            case hy20024 => (intro W hSW; obtain ⟨hV0, s0, s1, s2, s3, s4⟩ := hSW; go_simp; try with_reducible rfl)
            try simp only [Act.put, List.getElem_toArray, List.getElem_cons_zero, List.getElem_cons_succ, List.setIfInBounds_toArray, List.set_cons_zero, List.set_cons_succ]
            refine wpAnyL_take (i := 8) (v := ?v20025) rfl (by kernel_rfl) (by kernel_rfl) (by kernel_rfl) (by kernel_rfl) (fun _ _ _ h => h) (Or.inl ⟨by kernel_rfl, ?hy20025⟩) (by assumption) ?r20025
            case hy20025 => (intro W hSW; obtain ⟨hV0, s0, s1, s2, s3, s4⟩ := hSW; go_simp; try with_reducible rfl)
            try simp only [Act.put, List.getElem_toArray, List.getElem_cons_zero, List.getElem_cons_succ, List.setIfInBounds_toArray, List.set_cons_zero, List.set_cons_succ]
            refine wpAnyL_take (i := 9) (v := ?v20026) rfl (by kernel_rfl) (by kernel_rfl) (by kernel_rfl) (by kernel_rfl) (fun _ _ _ h => h) (Or.inl ⟨by kernel_rfl, ?hy20026⟩) (by assumption) ?r20026
            case hy20026 => (intro W hSW; obtain ⟨hV0, s0, s1, s2, s3, s4⟩ := hSW; go_simp; try with_reducible rfl)
            try simp only [Act.put, List.getElem_toArray, List.getElem_cons_zero, List.getElem_cons_succ, List.setIfInBounds_toArray, List.set_cons_zero, List.set_cons_succ]
            refine wpAnyL_last (by kernel_rfl) rfl (fun K hK => ?_)
            go_simp
            refine hK.out _ _ ?_
            clear hK K
            try simp only [Act.put, List.getElem_toArray, List.getElem_cons_zero, List.getElem_cons_succ, List.setIfInBounds_toArray, List.set_cons_zero, List.set_cons_succ]
            refine wpAnyL_done (by kernel_rfl) ?_ _
            refine NoPanic.normal ?_
            have hV := hH.1
            clear hH HS p7 d0 d1 d2 d3 d4 d5 d6 d7 d8 d9 e0 e1
            go_wp2
            go_roundw
            case rel => exact ⟨m + 1, by go_num, by omega, by rw [Hfe.out]; exact HO.out.later hV, hb.trans (hV.mono hb.size)⟩
            case measure => simp [intOf]; omega
          · have qn : ∀ W : World, (binOp .neq 42 (.agg #[i64 y.client, i64 y.seq]) (.agg #[i64 o.client, i64 o.seq])).run Tryz.prog W = .ok (.bool true) W := fun W => by rw [neq_id, decide_eq_false (show ¬ Id.mk y.client y.seq = ⟨o.client, o.seq⟩ from hid)]; rfl
            have Hfe := Lib.hid (show (X.l.take (m + 1)).filter (fun x => !decide (x.id = o.id)) = R ++ [y] by rw [Hfn.out, decide_eq_false hid]; simp)
            clear hid Hfn
            go_upto_region 26 with fail
            refine wp_region_noPanic ?_
            refine wp_region_l 10 (fun V : World => Below wr.heap.size wr V ∧ V.cell? ⟨b7, o7 + q, none⟩ = some (.slice (some ⟨bx, ox, none⟩) X.l.length X.c) ∧ V.cell? ⟨bx, ox + m * 10, none⟩ = some (i64 y.client) ∧ V.cell? ⟨bx, ox + m * 10 + 1, none⟩ = some (i64 y.seq) ∧ V.cell? ⟨ga, 0, none⟩ = some (i64 o.client) ∧ V.cell? ⟨ga, 1, none⟩ = some (i64 o.seq)) (by kernel_rfl) (HS.out _ (Below.refl _ _).drew) (fun hH => ?_)
            refine wpAnyL_take (i := 0) (v := ?v20027) rfl (by kernel_rfl) (by kernel_rfl) (by kernel_rfl) (by kernel_rfl) (fun _ _ _ h => h) (Or.inl ⟨by kernel_rfl, ?hy20027⟩) (by assumption) ?r20027
            case hy20027 => (intro W hSW; obtain ⟨hV0, s0, s1, s2, s3, s4⟩ := hSW; go_simp; try with_reducible rfl)
            try simp only [Act.put, List.getElem_toArray, List.getElem_cons_zero, List.setIfInBounds_toArray, List.set_cons_zero, List.set_cons_succ]
            refine wpAnyL_take (i := 1) (v := ?v20028) rfl (by kernel_rfl) (by kernel_rfl) (by kernel_rfl) (by kernel_rfl) (fun _ _ _ h => h) (Or.inl ⟨by kernel_rfl, ?hy20028⟩) (by assumption) ?r20028
            case hy20028 => (intro W hSW; obtain ⟨hV0, s0, s1, s2, s3, s4⟩ := hSW; go_simp; try with_reducible rfl)
            try simp only [Act.put, List.getElem_toArray, List.getElem_cons_zero, List.getElem_cons_succ, List.setIfInBounds_toArray, List.set_cons_zero, List.set_cons_succ]
            refine wpAnyL_take (i := 2) (v := ?v20029) rfl (by kernel_rfl) (by kernel_rfl) (by kernel_rfl) (by kernel_rfl) (fun _ _ _ h => h) (Or.inl ⟨by kernel_rfl, ?hy20029⟩) (by assumption) ?r20029
            case hy20029 => (intro W hSW; obtain ⟨hV0, s0, s1, s2, s3, s4⟩ := hSW; go_simp; try with_reducible rfl)
            try simp only [Act.put, List.getElem_toArray, List.getElem_cons_zero, List.getElem_cons_succ, List.setIfInBounds_toArray, List.set_cons_zero, List.set_cons_succ]
            refine wpAnyL_take (i := 3) (v := ?v20030) rfl (by kernel_rfl) (by kernel_rfl) (by kernel_rfl) (by kernel_rfl) (fun _ _ _ h => h) (Or.inl ⟨by kernel_rfl, ?hy20030⟩) (by assumption) ?r20030
            case hy20030 => (intro W hSW; obtain ⟨hV0, s0, s1, s2, s3, s4⟩ := hSW; go_simp; try with_reducible rfl)
            try simp only [Act.put, List.getElem_toArray, List.getElem_cons_zero, List.getElem_cons_succ, List.setIfInBounds_toArray, List.set_cons_zero, List.set_cons_succ]
            refine wpAnyL_take (i := 4) (v := ?v20031) rfl (by kernel_rfl) (by kernel_rfl) (by kernel_rfl) (by kernel_rfl) (fun _ _ _ h => h) (Or.inl ⟨by kernel_rfl, ?hy20031⟩) (by assumption) ?r20031
            case hy20031 => (intro W hSW; obtain ⟨hV0, s0, s1, s2, s3, s4⟩ := hSW; go_simp; try with_reducible rfl)
            try simp only [Act.put, List.getElem_toArray, List.getElem_cons_zero, List.getElem_cons_succ, List.setIfInBounds_toArray, List.set_cons_zero, List.set_cons_succ]
            refine wpAnyL_take (i := 5) (v := ?v20032) rfl (by kernel_rfl) (by kernel_rfl) (by kernel_rfl) (by kernel_rfl) (fun _ _ _ h => h) (Or.inl ⟨by kernel_rfl, ?hy20032⟩) (by assumption) ?r20032
            case hy20032 => (intro W hSW; obtain ⟨hV0, s0, s1, s2, s3, s4⟩ := hSW; go_simp; try with_reducible rfl)
            try simp only [Act.put, List.getElem_toArray, List.getElem_cons_zero, List.getElem_cons_succ, List.setIfInBounds_toArray, List.set_cons_zero, List.set_cons_succ]
            refine wpAnyL_take (i := 6) (v := ?v20033) rfl (by kernel_rfl) (by kernel_rfl) (by kernel_rfl) (by kernel_rfl) (fun _ _ _ h => h) (Or.inl ⟨by kernel_rfl, ?hy20033⟩) (by assumption) ?r20033
            case hy20033 => (intro W hSW; obtain ⟨hV0, s0, s1, s2, s3, s4⟩ := hSW; go_simp; try with_reducible rfl)
            try simp only [Act.put, List.getElem_toArray, List.getElem_cons_zero, List.getElem_cons_succ, List.setIfInBounds_toArray, List.set_cons_zero, List.set_cons_succ]
            refine wpAnyL_take (i := 7) (v := ?v20034) rfl (by kernel_rfl) (by kernel_rfl) (by kernel_rfl) (by kernel_rfl) (fun _ _ _ h => h) (Or.inl ⟨by kernel_rfl, ?hy20034⟩) (by assumption) ?r20034
            case hy20034 => (intro W hSW; obtain ⟨hV0, s0, s1, s2, s3, s4⟩ := hSW; go_simp; try with_reducible rfl)
            try simp only [Act.put, List.getElem_toArray, List.getElem_cons_zero, List.getElem_cons_succ, List.setIfInBounds_toArray, List.set_cons_zero, List.set_cons_succ]
            refine wpAnyL_take (i := 8) (v := ?v20035) rfl (by kernel_rfl) (by kernel_rfl) (by kernel_rfl) (by kernel_rfl) (fun _ _ _ h => h) (Or.inl ⟨by kernel_rfl, ?hy20035⟩) (by assumption) ?r20035
            case hy20035 => (intro W hSW; obtain ⟨hV0, s0, s1, s2, s3, s4⟩ := hSW; go_simp; try with_reducible rfl)
            try simp only [Act.put, List.getElem_toArray, List.getElem_cons_zero, List.getElem_cons_succ, List.setIfInBounds_toArray, List.set_cons_zero, List.set_cons_succ]
            refine wpAnyL_take (i := 9) (v := ?v20036) rfl (by kernel_rfl) (by kernel_rfl) (by kernel_rfl) (by kernel_rfl) (fun _ _ _ h => h) (Or.inl ⟨by kernel_rfl, ?hy20036⟩) (by assumption) ?r20036
            case hy20036 => (intro W hSW; obtain ⟨hV0, s0, s1, s2, s3, s4⟩ := hSW; go_simp; try with_reducible rfl)
            try simp only [Act.put, List.getElem_toArray, List.getElem_cons_zero, List.getElem_cons_succ, List.setIfInBounds_toArray, List.set_cons_zero, List.set_cons_succ]
            refine wpAnyL_last (by kernel_rfl) rfl (fun K hK => ?_)
            go_simp
            refine hK.out _ _ ?_
            clear hK K
            try simp only [Act.put, List.getElem_toArray, List.getElem_cons_zero, List.getElem_cons_succ, List.setIfInBounds_toArray, List.set_cons_zero, List.set_cons_succ]
            refine wpAnyL_done (by kernel_rfl) ?_ _
            refine NoPanic.normal ?_
            have hV := hH.1
            clear hH HS e0 e1
            generalize wr.drew = w1 at *
            have d0 := (hV.cell (World.block_lt_of_cell? _ _ d0)).trans d0
            have d1 := (hV.cell (World.block_lt_of_cell? _ _ d1)).trans d1
            have d2 := (hV.cell (World.block_lt_of_cell? _ _ d2)).trans d2
            have d3 := (hV.cell (World.block_lt_of_cell? _ _ d3)).trans d3
            have d4 := (hV.cell (World.block_lt_of_cell? _ _ d4)).trans d4
            have d5 := (hV.cell (World.block_lt_of_cell? _ _ d5)).trans d5
            have d6 := (hV.cell (World.block_lt_of_cell? _ _ d6)).trans d6
            have d7 := (hV.cell (World.block_lt_of_cell? _ _ d7)).trans d7
            have d8 := (hV.cell (World.block_lt_of_cell? _ _ d8)).trans d8
            have d9 := (hV.cell (World.block_lt_of_cell? _ _ d9)).trans d9
            have p7 := (hV.cell (World.block_lt_of_cell? _ _ p7)).trans p7
            have hbw := hb.trans (hV.mono hb.size)
            have HO1 := Lib.hid (HO.out.later hV)
            have HK1 := Lib.hid (Enc.keep (x := y) Hokx.out (fun _ hp => hV.cell (Nat.lt_of_lt_of_le hp hb.size)) (fun _ hp => hp))
            have hB2 := (Below.refl w1.heap.size w1).alloc (Nat.le_refl _) (.cells y.cells.toArray 45)
            have hb2 := hbw.trans (hB2.mono hbw.size)
            have hO2 := HO1.out.later hB2
            have HO2 := Lib.hid hO2
            have Hok2 := Lib.hid (Enc.keep (x := y) HK1.out (fun _ hp => hB2.cell (Nat.lt_of_lt_of_le hp hbw.size)) (hO2.oth (Nat.le_refl _) hb2.size))
            have HH := Lib.hid (heap_alloc_new w1 (.cells y.cells.toArray 45))
            have Hne := Lib.hid (HO1.out.new_ne (Nat.le_refl w1.heap.size))
            have Hb2 := Lib.hid hb2
            clear hO2 hb2 hB2
            simp only [Od.cells] at HO2 HH Hb2 Hok2
            go_wp2_with (at_builtin; refine wpList_append_one rfl (some 107) (.tmp 98) (.tmp 106) 22 rfl rfl _ 120 Tryz.underlying22 inf_od rfl (by decide) (by decide) rfl HO2.out w1.heap.size y rfl _ 45 HH.out rfl Hne.out Hok2.out (by have := Hfl.out; omega) Hb2.out.size ?_; intro v3 w3 hO3 hg3 hat3)
            go_roundw
            case rel => exact ⟨m + 1, by go_num, by omega, by rw [Hfe.out]; exact hO3, Hb2.out.trans (HO2.out.below hg3 (Nat.le_refl _) Hb2.out.size)⟩
            case measure => simp [intOf]; omega
        · obtain rfl : m = X.l.length := by omega
          have g3 : decide ((X.l.length : Int) < (X.l.length : Int)) = false := decide_eq_false (by omega)
          rw [List.take_length] at hO
          obtain ⟨R, hR⟩ : ∃ R, X.l.filter (fun x => !decide (x.id = o.id)) = R := ⟨_, rfl⟩
          have hsm := Hsm.out
          have hlx := Hlx.out
          rw [hR] at hO hsm hlx
          have hRl : R.length ≤ 60000 := by rw [← hR]; exact Nat.le_trans (List.length_filter_le _ _) hXl
          have hRg : ∀ x ∈ R, x.legs.length ≤ 65536 := fun x hx => by
            rw [← hR] at hx
            exact Nat.le_trans (HXlg.out x (List.mem_filter.1 hx).1) (by decide)
          have HRg := Lib.hid hRg
          obtain ⟨Ar, cr, rfl, kr⟩ := hO.sl
          have Hsm' := Lib.hid hsm
          clear hR hO hRg hsm kx
          by_cases hqU : q = U
          · have e1 : decide ((R.length : Int) < (X.l.length : Int)) = true := decide_eq_true (by have := hlx.2 hqU; omega)
            have e1n : decide (R.length < X.l.length) = true := decide_eq_true (hlx.2 hqU)
            have e2 : ((q : Int) == (U : Int)) = true := by rw [hqU]; simp
            have e2n : (q == U) = true := by rw [hqU]; simp
            have e3 : decide (q = U) = true := decide_eq_true hqU
            clear hqU hlx
            by_cases hq1 : q < S1.length
            · have f1 : decide ((q : Int) < (S1.length : Int)) = true := decide_eq_true (by omega)
              have f2 : decide (q < S1.length) = true := decide_eq_true hq1
              have f3 : (q : Int) < (S1.length : Int) := by omega
              obtain ⟨b6, o6, rfl, _, ky, p6⟩ := (s6.later hb).sv hq1
              have hRe := Hsm'.out hq1
              have HP := Lib.hid (sameL_c Ar S1[q].a cr S1[q].c R S1[q].l wr kr ky (by omega) (by rw [← hRe]; omega) HRg.out (by rw [← hRe]; exact HRg.out))
              rw [← hRe] at p6
              have hss : sameL R S1[q].l = true := by rw [← hRe]; exact sameL_self R
              have hll : S1[q].l.length = R.length := by rw [← hRe]
              rw [hss, hll] at HP
              clear hRe hss hll ky kr
              go_wp2_with fail
              with_reducible refine HP.out.mono ?_
              rintro e w9 ⟨rfl, hF⟩
              have hb9 := below_on hb (by omega) hF
              clear hF HP p6 p7
              go_wp2
              go_roundw
              case rel => exact ⟨q + 1, by go_num, by omega, hb9⟩
              case measure => simp [intOf]; omega
            · have f1 : decide ((q : Int) < (S1.length : Int)) = false := decide_eq_false (by omega)
              have f2 : decide (q < S1.length) = false := decide_eq_false hq1
              clear hq1 kr
              go_wp2
              go_roundw
              case rel => exact ⟨q + 1, by go_num, by omega, hb⟩
              case measure => simp [intOf]; omega
          · have e1n : decide (R.length < X.l.length) = false := decide_eq_false (fun e => hqU (hlx.1 e))
            have e1 : decide ((R.length : Int) < (X.l.length : Int)) = false := decide_eq_false (fun e => hqU (hlx.1 (by omega)))
            have e2 : ((q : Int) == (U : Int)) = false := by rw [beq_eq_false_iff_ne]; omega
            have e2n : (q == U) = false := by rw [beq_eq_false_iff_ne]; exact hqU
            have e3 : decide (q = U) = false := decide_eq_false hqU
            clear hqU hlx
            by_cases hq1 : q < S1.length
            · have f1 : decide ((q : Int) < (S1.length : Int)) = true := decide_eq_true (by omega)
              have f2 : decide (q < S1.length) = true := decide_eq_true hq1
              have f3 : (q : Int) < (S1.length : Int) := by omega
              obtain ⟨b6, o6, rfl, _, ky, p6⟩ := (s6.later hb).sv hq1
              have hRe := Hsm'.out hq1
              have HP := Lib.hid (sameL_c Ar S1[q].a cr S1[q].c R S1[q].l wr kr ky (by omega) (by rw [← hRe]; omega) HRg.out (by rw [← hRe]; exact HRg.out))
              rw [← hRe] at p6
              have hss : sameL R S1[q].l = true := by rw [← hRe]; exact sameL_self R
              have hll : S1[q].l.length = R.length := by rw [← hRe]
              rw [hss, hll] at HP
              clear hRe hss hll ky kr
              go_wp2_with fail
              with_reducible refine HP.out.mono ?_
              rintro e w9 ⟨rfl, hF⟩
              have hb9 := below_on hb (by omega) hF
              clear hF HP p6 p7
              go_wp2
              go_roundw
              case rel => exact ⟨q + 1, by go_num, by omega, hb9⟩
              case measure => simp [intOf]; omega
            · have f1 : decide ((q : Int) < (S1.length : Int)) = false := decide_eq_false (by omega)
              have f2 : decide (q < S1.length) = false := decide_eq_false hq1
              clear hq1 kr
              go_wp2
              go_roundw
              case rel => exact ⟨q + 1, by go_num, by omega, hb⟩
              case measure => simp [intOf]; omega
    · obtain rfl : q = S2.length := by omega
      have g1 : decide ((S2.length : Int) < (S2.length : Int)) = false := decide_eq_false (by omega)
      go_wp2
      go_ret
      exact ⟨rfl, hB.trans (hb.mono hB.size)⟩
end Go.Proofs.YtogipnfhcimeoaaGreat
