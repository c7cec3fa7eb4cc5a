/- FoataLevels -/
import Derived.Test.YtogipnfhcimeoaaGreatRows
import Derived.Deep.CutBlock
import Derived.Test.YtogipnfhcimeoaaGreatBaFoLvP
import Derived.Test.YtogipnfhcimeoaaGreatBaFoLives
import Derived.Test.YtogipnfhcimeoaaGreatBc6
import Derived.WalkKit
import Derived.WalkSpells
import Derived.WalkLawsBesides
import Derived.Deep.QuietTactic
import Derived.BigQuiet
import Derived.Laws.StructEq
import Derived.Deep.DeepFit
import Derived.StillTailTactics
namespace Go.Proofs.YtogipnfhcimeoaaGreat
open Go.RowKit
set_option maxRecDepth 100000 in
set_option maxHeartbeats 16000000 in
theorem foataLevels_c (A : Option Addr) (c : Nat) (l : List Od) (w : World) (h : Sl w w.heap.size A c l) :
    Calls Tryz.prog 5 #[.slice A l.length c] w fun e w' => e = .returned (.bool true) ∧ Below w.heap.size w w' := by
  go_enter Tryz.func5, Tryz.ntmps5
  go_wp2_with fail
  refine (lives_11 _).mono ?_
  rintro e w1 ⟨rfl, hB⟩
  have ha := h.later hB
  clear h
  go_wp2_with fail
  refine (few_11 A c 60 l _ ha (by decide)).mono ?_
  rintro e wfFL ⟨v, rfl, hO, hF⟩
  have hB := below_on hB (by omega) hF
  have nFL := fewL_le 60 l
  have lFL : fewLegs (fewL 60 l) := fun x hx => Nat.le_trans (fewL_legs 60 l x hx) (by decide)
  clear hF ha
  generalize fewL 60 l = FL at hO nFL lFL
  obtain ⟨AFL, cFL, rfl, hFL⟩ := hO.sl
  clear hO
  go_wp2_with fail
  refine (own_11 AFL cFL FL _ hFL (Nat.le_trans nFL (by decide))).mono ?_
  rintro e woL ⟨v, rfl, hO, hF⟩
  have hB := below_on hB (by omega) hF
  have vL := val_own FL
  have nL : (ownL FL).length ≤ 60 := Nat.le_trans (ownK_len FL FL.length) nFL
  have lL : fewLegs (ownL FL) := fun x hx => lFL x (ownK_sub FL _ x hx)
  clear hF hFL
  generalize ownL FL = L at hO vL nL lL
  obtain ⟨AL, cL, rfl, hL⟩ := hO.sl
  clear hO lFL nFL
  have VL := Lib.hid vL
  clear vL
  have Z2 := Lib.hid (steps_c AL cL L _ hL (by omega) lL)
  have LL := Lib.hid lL
  clear lL
  go_wp2_with fail
  with_reducible refine Z2.out.mono ?_
  rintro e w6 ⟨v, S, rfl, hO, hm, hF⟩
  have hB := below_on hB (by omega) hF
  obtain ⟨A6, c6, rfl, s6⟩ := hO.sl
  have hsm := stepsL_small hm (by omega) LL.out
  have Hsm := Lib.hid hsm.2
  have hns := hsm.1
  have HSum := Lib.hid (steps_sum VL.out hm)
  change Hid (lenS S = L.length) at HSum
  have HHeld := Lib.hid (fun (i : Nat) (hi : i + 1 < S.length) => steps_held VL.out hm hi)
  have HPair := Lib.hid (fun (i : Nat) (hi : i < S.length) (j k : Nat) (hjk : j < k) (hk : k < S[i].l.length) => steps_pair VL.out hm hi hjk hk)
  have hc6 : S.length ≤ c6 := s6.1
  clear hO hF Z2 hm hsm hL VL LL
  go_wp2_with fail
  go_loopw [4, 5] (fun n i wr => ∃ q : Nat, n = i64 (lenS (S.take q)) ∧ i = i64 q ∧ q ≤ S.length ∧ Below w6.heap.size w6 wr) (fun _ i _ => S.length - (intOf i).toNat)
  case atStart => exact ⟨0, rfl, rfl, Nat.zero_le _, Below.refl _ _⟩
  case round =>
    obtain ⟨q, rfl, rfl, hq, hb⟩ := hrel
    by_cases hlt : q < S.length
    · have g1 : decide ((q : Int) < (S.length : Int)) = true := decide_eq_true (by omega)
      have g2 : decide (q < S.length) = true := decide_eq_true hlt
      have i0 : (0 : Int) ≤ (q : Int) := by omega
      have i1 : (q : Int) < (S.length : Int) := by omega
      have hsq := Hsm.out _ (List.getElem_mem hlt)
      have hle := lenS_le S (q + 1)
      have htk := lenS_take hlt
      have hsum := HSum.out
      have Hp := Lib.hid (HPair.out q hlt)
      have Hh := Lib.hid (fun (r : Nat) (e : q = r + 1) => (show ∀ y ∈ (S[q]).l, (S[r]'(by omega)).l.any (fun x => clashB x y) = true from fun y hy => by subst e; exact HHeld.out r hlt y hy))
      obtain ⟨X, hX⟩ : ∃ X, S[q] = X := ⟨_, rfl⟩
      rw [hX] at hsq htk
      have hp : ∀ (j k : Nat) (hjk : j < k) (hk : k < X.l.length), clashB (X.l[j]'(by omega)) X.l[k] = false ∧ ltO (X.l[j]'(by omega)) X.l[k] = true := by subst hX; exact Hp.out
      have Hp := Lib.hid hp
      have hh : ∀ (r : Nat) (e : q = r + 1), ∀ y ∈ X.l, (S[r]'(by omega)).l.any (fun x => clashB x y) = true := by subst hX; exact Hh.out
      have Hh := Lib.hid hh
      have HX := Lib.hid hX
      have hXl := hsq.1
      have HXlg := Lib.hid hsq.2
      have ew : IntKind.i64.wrap ((lenS (S.take q) : Int) + (X.l.length : Int)) = (lenS (S.take (q + 1)) : Int) := by rw [IntKind.wrap_i64]; omega
      have ew2 : wrap64 ((lenS (S.take q) : Int) + (X.l.length : Int)) = (lenS (S.take (q + 1)) : Int) := by rw [← IntWalk.i64_left]; exact ew
      obtain ⟨b6, o6, rfl, _, kx, p6⟩ := (s6.later hb).sv hlt
      rw [hX] at kx p6
      clear hX hsq hle htk hsum hp hh kx
      obtain ⟨N, hN⟩ : ∃ N, lenS (S.take (q + 1)) = N := ⟨_, rfl⟩
      rw [hN] at ew ew2
      have HN := Lib.hid hN
      clear hN
      generalize lenS (S.take q) = N0 at *
      go_wp2_with fail
      go_loopw [6] (fun j wq => ∃ m : Nat, j = i64 m ∧ m ≤ X.l.length ∧ Below w6.heap.size w6 wq) (fun j _ => X.l.length - (intOf j).toNat)
      case atStart => exact ⟨0, rfl, Nat.zero_le _, hb⟩
      case round =>
        clear hb p6
        obtain ⟨m, rfl, hm, hb⟩ := hrel
        obtain ⟨b6', o6', hA, _, kx, p6⟩ := (s6.later hb).sv hlt
        injection hA with hA
        injection hA with hA1 hA2
        subst hA1 hA2
        rw [HX.out] at kx p6
        by_cases hml : m < X.l.length
        · have g3 : decide ((m : Int) < (X.l.length : Int)) = true := decide_eq_true (by omega)
          have g4 : decide (m < X.l.length) = true := decide_eq_true hml
          have j0 : (0 : Int) ≤ (m : Int) := by omega
          have j1 : (m : Int) < (X.l.length : Int) := by omega
          obtain ⟨bx, ox, hxa, _, _, _⟩ := kx.od hml
          have Hxa := Lib.hid hxa
          have Hym := Lib.hid (List.getElem_mem hml)
          have hly := HXlg.out _ (List.getElem_mem hml)
          obtain ⟨y, hy⟩ : ∃ y, X.l[m] = y := ⟨_, rfl⟩
          have HY := Lib.hid hy
          have Hcell : Hid (∀ W, Below w6.heap.size w6 W → W.cell? ⟨b6, o6 + q, none⟩ = some (.slice (some ⟨bx, ox, none⟩) X.l.length X.c) ∧ Okb W W.heap.size y ∧ W.cell? ⟨bx, ox + m * 10, none⟩ = some (i64 y.client) ∧ W.cell? ⟨bx, ox + m * 10 + 1, none⟩ = some (i64 y.seq) ∧ W.cell? ⟨bx, ox + m * 10 + 2, none⟩ = some (i64 y.kind) ∧ W.cell? ⟨bx, ox + m * 10 + 3, none⟩ = some (.string y.acct) ∧ W.cell? ⟨bx, ox + m * 10 + 4, none⟩ = some (.string y.peer) ∧ W.cell? ⟨bx, ox + m * 10 + 5, none⟩ = some (i64 y.sum) ∧ W.cell? ⟨bx, ox + m * 10 + 6, none⟩ = some (.slice y.la y.legs.length y.lc) ∧ W.cell? ⟨bx, ox + m * 10 + 7, none⟩ = some (i64 y.period) ∧ W.cell? ⟨bx, ox + m * 10 + 8, none⟩ = some (i64 y.hold) ∧ W.cell? ⟨bx, ox + m * 10 + 9, none⟩ = some (.string y.note)) := Lib.hid fun W hW => by
            obtain ⟨b, o, hA, _, kx, p⟩ := (s6.later hW).sv hlt
            injection hA with hA
            injection hA with hA1 hA2
            subst hA1 hA2
            rw [HX.out] at kx p
            obtain ⟨bx', ox', hxa', _, hok, d0, d1, d2, d3, d4, d5, d6, d7, d8, d9⟩ := kx.od hml
            rw [Hxa.out] at hxa' p
            injection hxa' with hA
            injection hA with hA1 hA2
            subst hA1 hA2
            rw [HY.out] at hok d0 d1 d2 d3 d4 d5 d6 d7 d8 d9
            exact ⟨p, hok, d0, d1, d2, d3, d4, d5, d6, d7, d8, d9⟩
          rw [hy] at hly
          rw [hxa] at p6
          clear hy kx hxa
          obtain ⟨bq, hbq⟩ : ∃ b : Bool, ((q : Int) == 0) = b := ⟨_, rfl⟩
          obtain ⟨P, hP0, hP1⟩ : ∃ P : List Od, (q = 0 → P = []) ∧ (∀ r (e : q = r + 1), P = (S[r]'(by omega)).l) := by
            cases q with
            | zero => exact ⟨[], fun _ => rfl, fun r e => by cases e⟩
            | succ r => exact ⟨(S[r]'(by omega)).l, fun e => (by cases e), fun r' e => (by cases e; rfl)⟩
          have HP0 := Lib.hid hP0
          have HP1 := Lib.hid hP1
          have Hbq := Lib.hid (show q = 0 → bq = true from fun e => by rw [← hbq, e]; rfl)
          have Hend : Hid (bq = true ∨ (P.any fun x => clashB x y) = true) := Lib.hid (by
            cases hqc : q with
            | zero => exact .inl (Hbq.out hqc)
            | succ r => exact .inr (by rw [HP1.out r hqc]; exact Hh.out r hqc y (by rw [← HY.out]; exact Hym.out)))
          clear hP0 hP1
          go_upto_block 4 with fail
          go_cut [7, 8] from 39 to 156 (fun s7 s8 wx => s7 = .bool true ∧ Below w6.heap.size w6 wx)
          case first =>
            go_wp2_with fail
            go_loopw [7, 8] (fun b j wz => ∃ p : Nat, b = .bool (bq || (P.take p).any fun x => clashB x y) ∧ j = i64 p ∧ p ≤ P.length ∧ Below w6.heap.size w6 wz) (fun _ j _ => P.length - (intOf j).toNat)
            case atStart => exact ⟨0, by simp, rfl, Nat.zero_le _, hb⟩
            case round =>
              clear hb p6
              obtain ⟨p, rfl, rfl, hpP, hb⟩ := hrel
              by_cases hq0 : q = 0
              · have c2 : decide ((q : Int) > 0) = false := decide_eq_false (by omega)
                have c3 : decide (0 < (q : Int)) = false := decide_eq_false (by omega)
                have c4 : decide (0 < q) = false := decide_eq_false (by omega)
                have c5 : (q == 0) = true := by simpa using hq0
                have c6 : decide (q > 0) = false := decide_eq_false (by omega)
                have Hbt := Lib.hid (Hbq.out hq0)
                clear hbq hq0
                go_wp2
                go_meet
                exact ⟨by rw [Hbt.out]; rfl, hb⟩
              · obtain ⟨r, hr⟩ : ∃ r, q = r + 1 := ⟨q - 1, by omega⟩
                have Hr := Lib.hid hr
                have hrS : r < S.length := by omega
                have c2 : decide ((q : Int) > 0) = true := decide_eq_true (by omega)
                have c3 : decide (0 < (q : Int)) = true := decide_eq_true (by omega)
                have c4 : decide (0 < q) = true := decide_eq_true (by omega)
                have c6 : decide (q > 0) = true := decide_eq_true (by omega)
                have ew : IntKind.i64.wrap ((q : Int) - 1) = (r : Int) := by rw [IntKind.wrap_i64]; omega
                have ew2 : wrap64 ((q : Int) - 1) = (r : Int) := by rw [← IntWalk.i64_left]; exact ew
                have r0 : (0 : Int) ≤ (r : Int) := by omega
                have r1 : (r : Int) < (S.length : Int) := by omega
                obtain ⟨b7, o7, hA7, _, kr, pr⟩ := (s6.later hb).sv hrS
                injection hA7 with hA7
                injection hA7 with hA71 hA72
                subst hA71 hA72
                have hPe := HP1.out r hr
                have hlr := (Hsm.out _ (List.getElem_mem hrS)).2
                rw [← hPe] at kr pr hlr
                have hPl : P.length ≤ 60000 := by rw [hPe]; exact (Hsm.out _ (List.getElem_mem hrS)).1
                generalize (S[r]'hrS).a = ra at *
                generalize (S[r]'hrS).c = rc at *
                clear hr hPe hq0
                by_cases hpl : p < P.length
                · have g5 : decide ((p : Int) < (P.length : Int)) = true := decide_eq_true (by omega)
                  have g6 : decide (p < P.length) = true := decide_eq_true hpl
                  have p0 : (0 : Int) ≤ (p : Int) := by omega
                  have p1 : (p : Int) < (P.length : Int) := by omega
                  obtain ⟨br, or, hra, _, hok, d0, d1, d2, d3, d4, d5, d6, d7, d8, d9⟩ := kr.od hpl
                  obtain ⟨p6, hoky, e0, e1, e2, e3, e4, e5, e6, e7, e8, e9⟩ := Hcell.out wr hb
                  have hlx := hlr _ (List.getElem_mem hpl)
                  have Hnx := Lib.hid (any_take (y := y) hpl)
                  rw [hra] at pr
                  have HC := Lib.hid (fun W (hW : Below wr.heap.size wr W) => clash_c P[p] y W (Okb.later hok hW) (Okb.later hoky hW) hlx hly)
                  obtain ⟨x, hx⟩ : ∃ x, P[p] = x := ⟨_, rfl⟩
                  rw [hx] at HC Hnx d0 d1 d2 d3 d4 d5 d6 d7 d8 d9
                  unfold Od.v at HC
                  have hS : ∀ V, Below wr.heap.size wr V → (fun V : World => Below wr.heap.size wr V ∧ V.cell? ⟨b6, o6 + r, none⟩ = some (.slice (some ⟨br, or, none⟩) P.length rc) ∧ V.cell? ⟨b6, o6 + q, none⟩ = some (.slice (some ⟨bx, ox, none⟩) X.l.length X.c) ∧ V.cell? ⟨br, or + p * 10, none⟩ = some (i64 x.client) ∧ V.cell? ⟨br, or + p * 10 + 1, none⟩ = some (i64 x.seq) ∧ V.cell? ⟨br, or + p * 10 + 2, none⟩ = some (i64 x.kind) ∧ V.cell? ⟨br, or + p * 10 + 3, none⟩ = some (.string x.acct) ∧ V.cell? ⟨br, or + p * 10 + 4, none⟩ = some (.string x.peer) ∧ V.cell? ⟨br, or + p * 10 + 5, none⟩ = some (i64 x.sum) ∧ V.cell? ⟨br, or + p * 10 + 6, none⟩ = some (.slice x.la x.legs.length x.lc) ∧ V.cell? ⟨br, or + p * 10 + 7, none⟩ = some (i64 x.period) ∧ V.cell? ⟨br, or + p * 10 + 8, none⟩ = some (i64 x.hold) ∧ V.cell? ⟨br, or + p * 10 + 9, none⟩ = some (.string x.note) ∧ V.cell? ⟨bx, ox + m * 10, none⟩ = some (i64 y.client) ∧ V.cell? ⟨bx, ox + m * 10 + 1, none⟩ = some (i64 y.seq) ∧ V.cell? ⟨bx, ox + m * 10 + 2, none⟩ = some (i64 y.kind) ∧ V.cell? ⟨bx, ox + m * 10 + 3, none⟩ = some (.string y.acct) ∧ V.cell? ⟨bx, ox + m * 10 + 4, none⟩ = some (.string y.peer) ∧ V.cell? ⟨bx, ox + m * 10 + 5, none⟩ = some (i64 y.sum) ∧ V.cell? ⟨bx, ox + m * 10 + 6, none⟩ = some (.slice y.la y.legs.length y.lc) ∧ V.cell? ⟨bx, ox + m * 10 + 7, none⟩ = some (i64 y.period) ∧ V.cell? ⟨bx, ox + m * 10 + 8, none⟩ = some (i64 y.hold) ∧ V.cell? ⟨bx, ox + m * 10 + 9, none⟩ = some (.string y.note)) V := fun V hV => ⟨hV, (hV.cell (World.block_lt_of_cell? _ _ pr)).trans pr, (hV.cell (World.block_lt_of_cell? _ _ p6)).trans p6, (hV.cell (World.block_lt_of_cell? _ _ d0)).trans d0, (hV.cell (World.block_lt_of_cell? _ _ d1)).trans d1, (hV.cell (World.block_lt_of_cell? _ _ d2)).trans d2, (hV.cell (World.block_lt_of_cell? _ _ d3)).trans d3, (hV.cell (World.block_lt_of_cell? _ _ d4)).trans d4, (hV.cell (World.block_lt_of_cell? _ _ d5)).trans d5, (hV.cell (World.block_lt_of_cell? _ _ d6)).trans d6, (hV.cell (World.block_lt_of_cell? _ _ d7)).trans d7, (hV.cell (World.block_lt_of_cell? _ _ d8)).trans d8, (hV.cell (World.block_lt_of_cell? _ _ d9)).trans d9, (hV.cell (World.block_lt_of_cell? _ _ e0)).trans e0, (hV.cell (World.block_lt_of_cell? _ _ e1)).trans e1, (hV.cell (World.block_lt_of_cell? _ _ e2)).trans e2, (hV.cell (World.block_lt_of_cell? _ _ e3)).trans e3, (hV.cell (World.block_lt_of_cell? _ _ e4)).trans e4, (hV.cell (World.block_lt_of_cell? _ _ e5)).trans e5, (hV.cell (World.block_lt_of_cell? _ _ e6)).trans e6, (hV.cell (World.block_lt_of_cell? _ _ e7)).trans e7, (hV.cell (World.block_lt_of_cell? _ _ e8)).trans e8, (hV.cell (World.block_lt_of_cell? _ _ e9)).trans e9⟩
                  have HS := Lib.hid hS
                  generalize hbv : (bq || (P.take p).any fun x => clashB x y) = bv at *
                  have Hbv := Lib.hid hbv
                  have Hbn : Hid (∀ cxy, clashB x y = cxy → (bq || (P.take (p + 1)).any fun x => clashB x y) = (bv || cxy)) := Lib.hid fun cxy e => by rw [Hnx.out, e, ← Bool.or_assoc, Hbv.out]
                  clear hS hok hoky hlx kr hra hx hbv hbq
                  cases bv
                  · cases hcl : clashB x y
                    · rw [hcl] at HC
                      have Hnb := Lib.hid (Hbn.out false hcl)
                      clear hcl Hbn
                      as_aux_lemma =>
                      go_upto_region 17 with fail
                      refine wp_region_noPanic ?_
                      refine wp_region_l 19 (fun V : World => Below wr.heap.size wr V ∧ V.cell? ⟨b6, o6 + r, none⟩ = some (.slice (some ⟨br, or, none⟩) P.length rc) ∧ V.cell? ⟨b6, o6 + q, none⟩ = some (.slice (some ⟨bx, ox, none⟩) X.l.length X.c) ∧ V.cell? ⟨br, or + p * 10, none⟩ = some (i64 x.client) ∧ V.cell? ⟨br, or + p * 10 + 1, none⟩ = some (i64 x.seq) ∧ V.cell? ⟨br, or + p * 10 + 2, none⟩ = some (i64 x.kind) ∧ V.cell? ⟨br, or + p * 10 + 3, none⟩ = some (.string x.acct) ∧ V.cell? ⟨br, or + p * 10 + 4, none⟩ = some (.string x.peer) ∧ V.cell? ⟨br, or + p * 10 + 5, none⟩ = some (i64 x.sum) ∧ V.cell? ⟨br, or + p * 10 + 6, none⟩ = some (.slice x.la x.legs.length x.lc) ∧ V.cell? ⟨br, or + p * 10 + 7, none⟩ = some (i64 x.period) ∧ V.cell? ⟨br, or + p * 10 + 8, none⟩ = some (i64 x.hold) ∧ V.cell? ⟨br, or + p * 10 + 9, none⟩ = some (.string x.note) ∧ V.cell? ⟨bx, ox + m * 10, none⟩ = some (i64 y.client) ∧ V.cell? ⟨bx, ox + m * 10 + 1, none⟩ = some (i64 y.seq) ∧ V.cell? ⟨bx, ox + m * 10 + 2, none⟩ = some (i64 y.kind) ∧ V.cell? ⟨bx, ox + m * 10 + 3, none⟩ = some (.string y.acct) ∧ V.cell? ⟨bx, ox + m * 10 + 4, none⟩ = some (.string y.peer) ∧ V.cell? ⟨bx, ox + m * 10 + 5, none⟩ = some (i64 y.sum) ∧ V.cell? ⟨bx, ox + m * 10 + 6, none⟩ = some (.slice y.la y.legs.length y.lc) ∧ V.cell? ⟨bx, ox + m * 10 + 7, none⟩ = some (i64 y.period) ∧ V.cell? ⟨bx, ox + m * 10 + 8, none⟩ = some (i64 y.hold) ∧ V.cell? ⟨bx, ox + m * 10 + 9, none⟩ = some (.string y.note)) (by kernel_rfl) (HS.out _ (Below.refl _ _).drew) (fun hH => ?_)
                      refine wpAnyL_take (i := 0) (v := ?v20001) rfl (by kernel_rfl) (by kernel_rfl) (by kernel_rfl) (by kernel_rfl) (fun _ _ _ h => h) (Or.inl ⟨by kernel_rfl, ?hy20001⟩) (by assumption) ?r20001
                      case hy20001 => (intro W hSW; obtain ⟨hV0, s0, s1, s2, s3, s4, s5, s6, s7, s8, s9, s10, s11, s12, s13, s14, s15, s16, s17, s18, s19, s20, s21⟩ := hSW; go_simp; try with_reducible rfl)
                      try simp only [Act.put, List.getElem_toArray, List.getElem_cons_zero, List.setIfInBounds_toArray, List.set_cons_zero, List.set_cons_succ]
                      refine wpAnyL_take (i := 1) (v := ?v20002) rfl (by kernel_rfl) (by kernel_rfl) (by kernel_rfl) (by kernel_rfl) (fun _ _ _ h => h) (Or.inl ⟨by kernel_rfl, ?hy20002⟩) (by assumption) ?r20002
                      case hy20002 => (intro W hSW; obtain ⟨hV0, s0, s1, s2, s3, s4, s5, s6, s7, s8, s9, s10, s11, s12, s13, s14, s15, s16, s17, s18, s19, s20, s21⟩ := hSW; go_simp; try with_reducible rfl)
                      try simp only [Act.put, List.getElem_toArray, List.getElem_cons_zero, List.getElem_cons_succ, List.setIfInBounds_toArray, List.set_cons_zero, List.set_cons_succ]
                      refine wpAnyL_take (i := 2) (v := ?v20003) rfl (by kernel_rfl) (by kernel_rfl) (by kernel_rfl) (by kernel_rfl) (fun _ _ _ h => h) (Or.inl ⟨by kernel_rfl, ?hy20003⟩) (by assumption) ?r20003
                      case hy20003 => (intro W hSW; obtain ⟨hV0, s0, s1, s2, s3, s4, s5, s6, s7, s8, s9, s10, s11, s12, s13, s14, s15, s16, s17, s18, s19, s20, s21⟩ := hSW; go_simp; try with_reducible rfl)
                      try simp only [Act.put, List.getElem_toArray, List.getElem_cons_zero, List.getElem_cons_succ, List.setIfInBounds_toArray, List.set_cons_zero, List.set_cons_succ]
                      refine wpAnyL_take (i := 3) (v := ?v20004) rfl (by kernel_rfl) (by kernel_rfl) (by kernel_rfl) (by kernel_rfl) (fun _ _ _ h => h) (Or.inl ⟨by kernel_rfl, ?hy20004⟩) (by assumption) ?r20004
                      case hy20004 => (intro W hSW; obtain ⟨hV0, s0, s1, s2, s3, s4, s5, s6, s7, s8, s9, s10, s11, s12, s13, s14, s15, s16, s17, s18, s19, s20, s21⟩ := hSW; go_simp; try with_reducible rfl)
                      try simp only [Act.put, List.getElem_toArray, List.getElem_cons_zero, List.getElem_cons_succ, List.setIfInBounds_toArray, List.set_cons_zero, List.set_cons_succ]
                      refine wpAnyL_take (i := 4) (v := ?v20005) rfl (by kernel_rfl) (by kernel_rfl) (by kernel_rfl) (by kernel_rfl) (fun _ _ _ h => h) (Or.inl ⟨by kernel_rfl, ?hy20005⟩) (by assumption) ?r20005
                      case hy20005 => (intro W hSW; obtain ⟨hV0, s0, s1, s2, s3, s4, s5, s6, s7, s8, s9, s10, s11, s12, s13, s14, s15, s16, s17, s18, s19, s20, s21⟩ := hSW; go_simp; try with_reducible rfl)
                      try simp only [Act.put, List.getElem_toArray, List.getElem_cons_zero, List.getElem_cons_succ, List.setIfInBounds_toArray, List.set_cons_zero, List.set_cons_succ]
                      refine wpAnyL_take (i := 5) (v := ?v20006) rfl (by kernel_rfl) (by kernel_rfl) (by kernel_rfl) (by kernel_rfl) (fun _ _ _ h => h) (Or.inl ⟨by kernel_rfl, ?hy20006⟩) (by assumption) ?r20006
                      case hy20006 => (intro W hSW; obtain ⟨hV0, s0, s1, s2, s3, s4, s5, s6, s7, s8, s9, s10, s11, s12, s13, s14, s15, s16, s17, s18, s19, s20, s21⟩ := hSW; go_simp; try with_reducible rfl)
                      try simp only [Act.put, List.getElem_toArray, List.getElem_cons_zero, List.getElem_cons_succ, List.setIfInBounds_toArray, List.set_cons_zero, List.set_cons_succ]
                      refine wpAnyL_take (i := 6) (v := ?v20007) rfl (by kernel_rfl) (by kernel_rfl) (by kernel_rfl) (by kernel_rfl) (fun _ _ _ h => h) (Or.inl ⟨by kernel_rfl, ?hy20007⟩) (by assumption) ?r20007
                      case hy20007 => (intro W hSW; obtain ⟨hV0, s0, s1, s2, s3, s4, s5, s6, s7, s8, s9, s10, s11, s12, s13, s14, s15, s16, s17, s18, s19, s20, s21⟩ := hSW; go_simp; try with_reducible rfl)
                      try simp only [Act.put, List.getElem_toArray, List.getElem_cons_zero, List.getElem_cons_succ, List.setIfInBounds_toArray, List.set_cons_zero, List.set_cons_succ]
                      refine wpAnyL_take (i := 7) (v := ?v20008) rfl (by kernel_rfl) (by kernel_rfl) (by kernel_rfl) (by kernel_rfl) (fun _ _ _ h => h) (Or.inl ⟨by kernel_rfl, ?hy20008⟩) (by assumption) ?r20008
                      case hy20008 => (intro W hSW; obtain ⟨hV0, s0, s1, s2, s3, s4, s5, s6, s7, s8, s9, s10, s11, s12, s13, s14, s15, s16, s17, s18, s19, s20, s21⟩ := hSW; go_simp; try with_reducible rfl)
                      try simp only [Act.put, List.getElem_toArray, List.getElem_cons_zero, List.getElem_cons_succ, List.setIfInBounds_toArray, List.set_cons_zero, List.set_cons_succ]
                      refine wpAnyL_take (i := 8) (v := ?v20009) rfl (by kernel_rfl) (by kernel_rfl) (by kernel_rfl) (by kernel_rfl) (fun _ _ _ h => h) (Or.inl ⟨by kernel_rfl, ?hy20009⟩) (by assumption) ?r20009
                      case hy20009 => (intro W hSW; obtain ⟨hV0, s0, s1, s2, s3, s4, s5, s6, s7, s8, s9, s10, s11, s12, s13, s14, s15, s16, s17, s18, s19, s20, s21⟩ := hSW; go_simp; try with_reducible rfl)
                      try simp only [Act.put, List.getElem_toArray, List.getElem_cons_zero, List.getElem_cons_succ, List.setIfInBounds_toArray, List.set_cons_zero, List.set_cons_succ]
                      refine wpAnyL_take (i := 9) (v := ?v20010) rfl (by kernel_rfl) (by kernel_rfl) (by kernel_rfl) (by kernel_rfl) (fun _ _ _ h => h) (Or.inl ⟨by kernel_rfl, ?hy20010⟩) (by assumption) ?r20010
                      case hy20010 => (intro W hSW; obtain ⟨hV0, s0, s1, s2, s3, s4, s5, s6, s7, s8, s9, s10, s11, s12, s13, s14, s15, s16, s17, s18, s19, s20, s21⟩ := hSW; go_simp; try with_reducible rfl)
                      try simp only [Act.put, List.getElem_toArray, List.getElem_cons_zero, List.getElem_cons_succ, List.setIfInBounds_toArray, List.set_cons_zero, List.set_cons_succ]
                      refine wpAnyL_take (i := 10) (v := ?v20011) rfl (by kernel_rfl) (by kernel_rfl) (by kernel_rfl) (by kernel_rfl) (fun _ _ _ h => h) (Or.inl ⟨by kernel_rfl, ?hy20011⟩) (by assumption) ?r20011
                      case hy20011 => (intro W hSW; obtain ⟨hV0, s0, s1, s2, s3, s4, s5, s6, s7, s8, s9, s10, s11, s12, s13, s14, s15, s16, s17, s18, s19, s20, s21⟩ := hSW; go_simp; try with_reducible rfl)
                      try simp only [Act.put, List.getElem_toArray, List.getElem_cons_zero, List.getElem_cons_succ, List.setIfInBounds_toArray, List.set_cons_zero, List.set_cons_succ]
                      refine wpAnyL_take (i := 11) (v := ?v20012) rfl (by kernel_rfl) (by kernel_rfl) (by kernel_rfl) (by kernel_rfl) (fun _ _ _ h => h) (Or.inl ⟨by kernel_rfl, ?hy20012⟩) (by assumption) ?r20012
                      case hy20012 => (intro W hSW; obtain ⟨hV0, s0, s1, s2, s3, s4, s5, s6, s7, s8, s9, s10, s11, s12, s13, s14, s15, s16, s17, s18, s19, s20, s21⟩ := hSW; go_simp; try with_reducible rfl)
                      try simp only [Act.put, List.getElem_toArray, List.getElem_cons_zero, List.getElem_cons_succ, List.setIfInBounds_toArray, List.set_cons_zero, List.set_cons_succ]
                      refine wpAnyL_take (i := 12) (v := ?v20013) rfl (by kernel_rfl) (by kernel_rfl) (by kernel_rfl) (by kernel_rfl) (fun _ _ _ h => h) (Or.inl ⟨by kernel_rfl, ?hy20013⟩) (by assumption) ?r20013
                      case hy20013 => (intro W hSW; obtain ⟨hV0, s0, s1, s2, s3, s4, s5, s6, s7, s8, s9, s10, s11, s12, s13, s14, s15, s16, s17, s18, s19, s20, s21⟩ := hSW; go_simp; try with_reducible rfl)
                      try simp only [Act.put, List.getElem_toArray, List.getElem_cons_zero, List.getElem_cons_succ, List.setIfInBounds_toArray, List.set_cons_zero, List.set_cons_succ]
                      refine wpAnyL_take (i := 13) (v := ?v20014) rfl (by kernel_rfl) (by kernel_rfl) (by kernel_rfl) (by kernel_rfl) (fun _ _ _ h => h) (Or.inl ⟨by kernel_rfl, ?hy20014⟩) (by assumption) ?r20014
                      case hy20014 => (intro W hSW; obtain ⟨hV0, s0, s1, s2, s3, s4, s5, s6, s7, s8, s9, s10, s11, s12, s13, s14, s15, s16, s17, s18, s19, s20, s21⟩ := hSW; go_simp; try with_reducible rfl)
                      try simp only [Act.put, List.getElem_toArray, List.getElem_cons_zero, List.getElem_cons_succ, List.setIfInBounds_toArray, List.set_cons_zero, List.set_cons_succ]
                      refine wpAnyL_take (i := 14) (v := ?v20015) rfl (by kernel_rfl) (by kernel_rfl) (by kernel_rfl) (by kernel_rfl) (fun _ _ _ h => h) (Or.inl ⟨by kernel_rfl, ?hy20015⟩) (by assumption) ?r20015
                      case hy20015 => (intro W hSW; obtain ⟨hV0, s0, s1, s2, s3, s4, s5, s6, s7, s8, s9, s10, s11, s12, s13, s14, s15, s16, s17, s18, s19, s20, s21⟩ := hSW; go_simp; try with_reducible rfl)
                      try simp only [Act.put, List.getElem_toArray, List.getElem_cons_zero, List.getElem_cons_succ, List.setIfInBounds_toArray, List.set_cons_zero, List.set_cons_succ]
                      refine wpAnyL_take (i := 15) (v := ?v20016) rfl (by kernel_rfl) (by kernel_rfl) (by kernel_rfl) (by kernel_rfl) (fun _ _ _ h => h) (Or.inl ⟨by kernel_rfl, ?hy20016⟩) (by assumption) ?r20016
                      case hy20016 => (intro W hSW; obtain ⟨hV0, s0, s1, s2, s3, s4, s5, s6, s7, s8, s9, s10, s11, s12, s13, s14, s15, s16, s17, s18, s19, s20, s21⟩ := hSW; go_simp; try with_reducible rfl)
                      try simp only [Act.put, List.getElem_toArray, List.getElem_cons_zero, List.getElem_cons_succ, List.setIfInBounds_toArray, List.set_cons_zero, List.set_cons_succ]
                      refine wpAnyL_take (i := 16) (v := ?v20017) rfl (by kernel_rfl) (by kernel_rfl) (by kernel_rfl) (by kernel_rfl) (fun _ _ _ h => h) (Or.inl ⟨by kernel_rfl, ?hy20017⟩) (by assumption) ?r20017
                      case hy20017 => (intro W hSW; obtain ⟨hV0, s0, s1, s2, s3, s4, s5, s6, s7, s8, s9, s10, s11, s12, s13, s14, s15, s16, s17, s18, s19, s20, s21⟩ := hSW; go_simp; try with_reducible rfl)
                      try simp only [Act.put, List.getElem_toArray, List.getElem_cons_zero, List.getElem_cons_succ, List.setIfInBounds_toArray, List.set_cons_zero, List.set_cons_succ]
                      refine wpAnyL_one (i := 17) (by kernel_rfl) rfl (by decide) (fun K hK => ?_)
                      go_simp
                      go_at_call 29
                      with_reducible refine (HC.out _ hH.1).mono ?_
                      rintro e w9 ⟨rfl, hF⟩
                      have hbu := below_on hH.1 (Nat.le_refl _) hF
                      clear hF
                      refine hK.out _ _ (HS.out _ hbu) (fun hH => ?_)
                      clear hK K
                      try simp only [Act.put, List.getElem_toArray, List.getElem_cons_zero, List.getElem_cons_succ, List.setIfInBounds_toArray, List.set_cons_zero, List.set_cons_succ]
                      refine wpAnyL_take (i := 18) (v := ?v20018) rfl (by kernel_rfl) (by kernel_rfl) (by kernel_rfl) (by kernel_rfl) (fun _ _ _ h => h) (Or.inl ⟨by kernel_rfl, ?hy20018⟩) (by assumption) ?r20018
                      case hy20018 => (intro W hSW; obtain ⟨hV0, s0, s1, s2, s3, s4, s5, s6, s7, s8, s9, s10, s11, s12, s13, s14, s15, s16, s17, s18, s19, s20, s21⟩ := hSW; go_simp; try with_reducible rfl)
                      try simp only [Act.put, List.getElem_toArray, List.getElem_cons_zero, List.getElem_cons_succ, List.setIfInBounds_toArray, List.set_cons_zero, List.set_cons_succ]
                      refine wpAnyL_last (by kernel_rfl) rfl (fun K hK => ?_)
                      go_simp
                      refine hK.out _ _ ?_
                      clear hK K
                      try simp only [Act.put, List.getElem_toArray, List.getElem_cons_zero, List.getElem_cons_succ, List.setIfInBounds_toArray, List.set_cons_zero, List.set_cons_succ]
                      refine wpAnyL_done (by kernel_rfl) ?_ _
                      refine NoPanic.normal ?_
                      have hV := hH.1
                      clear hH HS pr p6 d0 d1 d2 d3 d4 d5 d6 d7 d8 d9 e0 e1 e2 e3 e4 e5 e6 e7 e8 e9
                      go_wp2
                      go_roundw
                      case rel => exact ⟨p + 1, by first | (rw [Hnb.out]; done) | (rw [Hnb.out]; rfl), by go_num, by omega, hb.trans (hV.mono hb.size)⟩
                      case measure => simp [intOf]; omega
                    · rw [hcl] at HC
                      have Hnb := Lib.hid (Hbn.out true hcl)
                      clear hcl Hbn
                      as_aux_lemma =>
                      go_upto_region 17 with fail
                      refine wp_region_noPanic ?_
                      refine wp_region_l 19 (fun V : World => Below wr.heap.size wr V ∧ V.cell? ⟨b6, o6 + r, none⟩ = some (.slice (some ⟨br, or, none⟩) P.length rc) ∧ V.cell? ⟨b6, o6 + q, none⟩ = some (.slice (some ⟨bx, ox, none⟩) X.l.length X.c) ∧ V.cell? ⟨br, or + p * 10, none⟩ = some (i64 x.client) ∧ V.cell? ⟨br, or + p * 10 + 1, none⟩ = some (i64 x.seq) ∧ V.cell? ⟨br, or + p * 10 + 2, none⟩ = some (i64 x.kind) ∧ V.cell? ⟨br, or + p * 10 + 3, none⟩ = some (.string x.acct) ∧ V.cell? ⟨br, or + p * 10 + 4, none⟩ = some (.string x.peer) ∧ V.cell? ⟨br, or + p * 10 + 5, none⟩ = some (i64 x.sum) ∧ V.cell? ⟨br, or + p * 10 + 6, none⟩ = some (.slice x.la x.legs.length x.lc) ∧ V.cell? ⟨br, or + p * 10 + 7, none⟩ = some (i64 x.period) ∧ V.cell? ⟨br, or + p * 10 + 8, none⟩ = some (i64 x.hold) ∧ V.cell? ⟨br, or + p * 10 + 9, none⟩ = some (.string x.note) ∧ V.cell? ⟨bx, ox + m * 10, none⟩ = some (i64 y.client) ∧ V.cell? ⟨bx, ox + m * 10 + 1, none⟩ = some (i64 y.seq) ∧ V.cell? ⟨bx, ox + m * 10 + 2, none⟩ = some (i64 y.kind) ∧ V.cell? ⟨bx, ox + m * 10 + 3, none⟩ = some (.string y.acct) ∧ V.cell? ⟨bx, ox + m * 10 + 4, none⟩ = some (.string y.peer) ∧ V.cell? ⟨bx, ox + m * 10 + 5, none⟩ = some (i64 y.sum) ∧ V.cell? ⟨bx, ox + m * 10 + 6, none⟩ = some (.slice y.la y.legs.length y.lc) ∧ V.cell? ⟨bx, ox + m * 10 + 7, none⟩ = some (i64 y.period) ∧ V.cell? ⟨bx, ox + m * 10 + 8, none⟩ = some (i64 y.hold) ∧ V.cell? ⟨bx, ox + m * 10 + 9, none⟩ = some (.string y.note)) (by kernel_rfl) (HS.out _ (Below.refl _ _).drew) (fun hH => ?_)
                      refine wpAnyL_take (i := 0) (v := ?v20019) rfl (by kernel_rfl) (by kernel_rfl) (by kernel_rfl) (by kernel_rfl) (fun _ _ _ h => h) (Or.inl ⟨by kernel_rfl, ?hy20019⟩) (by assumption) ?r20019
                      case hy20019 => (intro W hSW; obtain ⟨hV0, s0, s1, s2, s3, s4, s5, s6, s7, s8, s9, s10, s11, s12, s13, s14, s15, s16, s17, s18, s19, s20, s21⟩ := hSW; go_simp; try with_reducible rfl)
                      try simp only [Act.put, List.getElem_toArray, List.getElem_cons_zero, List.setIfInBounds_toArray, List.set_cons_zero, List.set_cons_succ]
                      refine wpAnyL_take (i := 1) (v := ?v20020) rfl (by kernel_rfl) (by kernel_rfl) (by kernel_rfl) (by kernel_rfl) (fun _ _ _ h => h) (Or.inl ⟨by kernel_rfl, ?hy20020⟩) (by assumption) ?r20020
                      case hy20020 => (intro W hSW; obtain ⟨hV0, s0, s1, s2, s3, s4, s5, s6, s7, s8, s9, s10, s11, s12, s13, s14, s15, s16, s17, s18, s19, s20, s21⟩ := hSW; go_simp; try with_reducible rfl)
                      try simp only [Act.put, List.getElem_toArray, List.getElem_cons_zero, List.getElem_cons_succ, List.setIfInBounds_toArray, List.set_cons_zero, List.set_cons_succ]
                      refine wpAnyL_take (i := 2) (v := ?v20021) rfl (by kernel_rfl) (by kernel_rfl) (by kernel_rfl) (by kernel_rfl) (fun _ _ _ h => h) (Or.inl ⟨by kernel_rfl, ?hy20021⟩) (by assumption) ?r20021
                      case hy20021 => (intro W hSW; obtain ⟨hV0, s0, s1, s2, s3, s4, s5, s6, s7, s8, s9, s10, s11, s12, s13, s14, s15, s16, s17, s18, s19, s20, s21⟩ := hSW; go_simp; try with_reducible rfl)
                      try simp only [Act.put, List.getElem_toArray, List.getElem_cons_zero, List.getElem_cons_succ, List.setIfInBounds_toArray, List.set_cons_zero, List.set_cons_succ]
                      refine wpAnyL_take (i := 3) (v := ?v20022) rfl (by kernel_rfl) (by kernel_rfl) (by kernel_rfl) (by kernel_rfl) (fun _ _ _ h => h) (Or.inl ⟨by kernel_rfl, ?hy20022⟩) (by assumption) ?r20022
                      case hy20022 => (intro W hSW; obtain ⟨hV0, s0, s1, s2, s3, s4, s5, s6, s7, s8, s9, s10, s11, s12, s13, s14, s15, s16, s17, s18, s19, s20, s21⟩ := hSW; go_simp; try with_reducible rfl)
                      try simp only [Act.put, List.getElem_toArray, List.getElem_cons_zero, List.getElem_cons_succ, List.setIfInBounds_toArray, List.set_cons_zero, List.set_cons_succ]
                      refine wpAnyL_take (i := 4) (v := ?v20023) rfl (by kernel_rfl) (by kernel_rfl) (by kernel_rfl) (by kernel_rfl) (fun _ _ _ h => h) (Or.inl ⟨by kernel_rfl, ?hy20023⟩) (by assumption) ?r20023
                      case hy20023 => (intro W hSW; obtain ⟨hV0, s0, s1, s2, s3, s4, s5, s6, s7, s8, s9, s10, s11, s12, s13, s14, s15, s16, s17, s18, s19, s20, s21⟩ := hSW; go_simp; try with_reducible rfl)
                      try simp only [Act.put, List.getElem_toArray, List.getElem_cons_zero, List.getElem_cons_succ, List.setIfInBounds_toArray, List.set_cons_zero, List.set_cons_succ]
                      refine wpAnyL_take (i := 5) (v := ?v20024) rfl (by kernel_rfl) (by kernel_rfl) (by kernel_rfl) (by kernel_rfl) (fun _ _ _ h => h) (Or.inl ⟨by kernel_rfl, ?hy20024⟩) (by assumption) ?r20024
                      case hy20024 => (intro W hSW; obtain ⟨hV0, s0, s1, s2, s3, s4, s5, s6, s7, s8, s9, s10, s11, s12, s13, s14, s15, s16, s17, s18, s19, s20, s21⟩ := hSW; go_simp; try with_reducible rfl)
                      try simp only [Act.put, List.getElem_toArray, List.getElem_cons_zero, List.getElem_cons_succ, List.setIfInBounds_toArray, List.set_cons_zero, List.set_cons_succ]
                      refine wpAnyL_take (i := 6) (v := ?v20025) rfl (by kernel_rfl) (by kernel_rfl) (by kernel_rfl) (by kernel_rfl) (fun _ _ _ h => h) (Or.inl ⟨by kernel_rfl, ?hy20025⟩) (by assumption) ?r20025
                      case hy20025 => (intro W hSW; obtain ⟨hV0, s0, s1, s2, s3, s4, s5, s6, s7, s8, s9, s10, s11, s12, s13, s14, s15, s16, s17, s18, s19, s20, s21⟩ := hSW; go_simp; try with_reducible rfl)
                      try simp only [Act.put, List.getElem_toArray, List.getElem_cons_zero, List.getElem_cons_succ, List.setIfInBounds_toArray, List.set_cons_zero, List.set_cons_succ]
                      refine wpAnyL_take (i := 7) (v := ?v20026) rfl (by kernel_rfl) (by kernel_rfl) (by kernel_rfl) (by kernel_rfl) (fun _ _ _ h => h) (Or.inl ⟨by kernel_rfl, ?hy20026⟩) (by assumption) ?r20026
                      case hy20026 => (intro W hSW; obtain ⟨hV0, s0, s1, s2, s3, s4, s5, s6, s7, s8, s9, s10, s11, s12, s13, s14, s15, s16, s17, s18, s19, s20, s21⟩ := hSW; go_simp; try with_reducible rfl)
                      try simp only [Act.put, List.getElem_toArray, List.getElem_cons_zero, List.getElem_cons_succ, List.setIfInBounds_toArray, List.set_cons_zero, List.set_cons_succ]
                      refine wpAnyL_take (i := 8) (v := ?v20027) rfl (by kernel_rfl) (by kernel_rfl) (by kernel_rfl) (by kernel_rfl) (fun _ _ _ h => h) (Or.inl ⟨by kernel_rfl, ?hy20027⟩) (by assumption) ?r20027
                      case hy20027 => (intro W hSW; obtain ⟨hV0, s0, s1, s2, s3, s4, s5, s6, s7, s8, s9, s10, s11, s12, s13, s14, s15, s16, s17, s18, s19, s20, s21⟩ := hSW; go_simp; try with_reducible rfl)
                      try simp only [Act.put, List.getElem_toArray, List.getElem_cons_zero, List.getElem_cons_succ, List.setIfInBounds_toArray, List.set_cons_zero, List.set_cons_succ]
                      refine wpAnyL_take (i := 9) (v := ?v20028) rfl (by kernel_rfl) (by kernel_rfl) (by kernel_rfl) (by kernel_rfl) (fun _ _ _ h => h) (Or.inl ⟨by kernel_rfl, ?hy20028⟩) (by assumption) ?r20028
                      case hy20028 => (intro W hSW; obtain ⟨hV0, s0, s1, s2, s3, s4, s5, s6, s7, s8, s9, s10, s11, s12, s13, s14, s15, s16, s17, s18, s19, s20, s21⟩ := hSW; go_simp; try with_reducible rfl)
                      try simp only [Act.put, List.getElem_toArray, List.getElem_cons_zero, List.getElem_cons_succ, List.setIfInBounds_toArray, List.set_cons_zero, List.set_cons_succ]
                      refine wpAnyL_take (i := 10) (v := ?v20029) rfl (by kernel_rfl) (by kernel_rfl) (by kernel_rfl) (by kernel_rfl) (fun _ _ _ h => h) (Or.inl ⟨by kernel_rfl, ?hy20029⟩) (by assumption) ?r20029
                      case hy20029 => (intro W hSW; obtain ⟨hV0, s0, s1, s2, s3, s4, s5, s6, s7, s8, s9, s10, s11, s12, s13, s14, s15, s16, s17, s18, s19, s20, s21⟩ := hSW; go_simp; try with_reducible rfl)
                      try simp only [Act.put, List.getElem_toArray, List.getElem_cons_zero, List.getElem_cons_succ, List.setIfInBounds_toArray, List.set_cons_zero, List.set_cons_succ]
                      refine wpAnyL_take (i := 11) (v := ?v20030) rfl (by kernel_rfl) (by kernel_rfl) (by kernel_rfl) (by kernel_rfl) (fun _ _ _ h => h) (Or.inl ⟨by kernel_rfl, ?hy20030⟩) (by assumption) ?r20030
                      case hy20030 => (intro W hSW; obtain ⟨hV0, s0, s1, s2, s3, s4, s5, s6, s7, s8, s9, s10, s11, s12, s13, s14, s15, s16, s17, s18, s19, s20, s21⟩ := hSW; go_simp; try with_reducible rfl)
                      try simp only [Act.put, List.getElem_toArray, List.getElem_cons_zero, List.getElem_cons_succ, List.setIfInBounds_toArray, List.set_cons_zero, List.set_cons_succ]
                      refine wpAnyL_take (i := 12) (v := ?v20031) rfl (by kernel_rfl) (by kernel_rfl) (by kernel_rfl) (by kernel_rfl) (fun _ _ _ h => h) (Or.inl ⟨by kernel_rfl, ?hy20031⟩) (by assumption) ?r20031
                      case hy20031 => (intro W hSW; obtain ⟨hV0, s0, s1, s2, s3, s4, s5, s6, s7, s8, s9, s10, s11, s12, s13, s14, s15, s16, s17, s18, s19, s20, s21⟩ := hSW; go_simp; try with_reducible rfl)
                      try simp only [Act.put, List.getElem_toArray, List.getElem_cons_zero, List.getElem_cons_succ, List.setIfInBounds_toArray, List.set_cons_zero, List.set_cons_succ]
                      refine wpAnyL_take (i := 13) (v := ?v20032) rfl (by kernel_rfl) (by kernel_rfl) (by kernel_rfl) (by kernel_rfl) (fun _ _ _ h => h) (Or.inl ⟨by kernel_rfl, ?hy20032⟩) (by assumption) ?r20032
                      case hy20032 => (intro W hSW; obtain ⟨hV0, s0, s1, s2, s3, s4, s5, s6, s7, s8, s9, s10, s11, s12, s13, s14, s15, s16, s17, s18, s19, s20, s21⟩ := hSW; go_simp; try with_reducible rfl)
                      try simp only [Act.put, List.getElem_toArray, List.getElem_cons_zero, List.getElem_cons_succ, List.setIfInBounds_toArray, List.set_cons_zero, List.set_cons_succ]
                      refine wpAnyL_take (i := 14) (v := ?v20033) rfl (by kernel_rfl) (by kernel_rfl) (by kernel_rfl) (by kernel_rfl) (fun _ _ _ h => h) (Or.inl ⟨by kernel_rfl, ?hy20033⟩) (by assumption) ?r20033
                      case hy20033 => (intro W hSW; obtain ⟨hV0, s0, s1, s2, s3, s4, s5, s6, s7, s8, s9, s10, s11, s12, s13, s14, s15, s16, s17, s18, s19, s20, s21⟩ := hSW; go_simp; try with_reducible rfl)
                      try simp only [Act.put, List.getElem_toArray, List.getElem_cons_zero, List.getElem_cons_succ, List.setIfInBounds_toArray, List.set_cons_zero, List.set_cons_succ]
                      refine wpAnyL_take (i := 15) (v := ?v20034) rfl (by kernel_rfl) (by kernel_rfl) (by kernel_rfl) (by kernel_rfl) (fun _ _ _ h => h) (Or.inl ⟨by kernel_rfl, ?hy20034⟩) (by assumption) ?r20034
                      case hy20034 => (intro W hSW; obtain ⟨hV0, s0, s1, s2, s3, s4, s5, s6, s7, s8, s9, s10, s11, s12, s13, s14, s15, s16, s17, s18, s19, s20, s21⟩ := hSW; go_simp; try with_reducible rfl)
                      try simp only [Act.put, List.getElem_toArray, List.getElem_cons_zero, List.getElem_cons_succ, List.setIfInBounds_toArray, List.set_cons_zero, List.set_cons_succ]
                      refine wpAnyL_take (i := 16) (v := ?v20035) rfl (by kernel_rfl) (by kernel_rfl) (by kernel_rfl) (by kernel_rfl) (fun _ _ _ h => h) (Or.inl ⟨by kernel_rfl, ?hy20035⟩) (by assumption) ?r20035
                      case hy20035 => (intro W hSW; obtain ⟨hV0, s0, s1, s2, s3, s4, s5, s6, s7, s8, s9, s10, s11, s12, s13, s14, s15, s16, s17, s18, s19, s20, s21⟩ := hSW; go_simp; try with_reducible rfl)
                      try simp only [Act.put, List.getElem_toArray, List.getElem_cons_zero, List.getElem_cons_succ, List.setIfInBounds_toArray, List.set_cons_zero, List.set_cons_succ]
                      refine wpAnyL_one (i := 17) (by kernel_rfl) rfl (by decide) (fun K hK => ?_)
                      go_simp
                      go_at_call 29
                      with_reducible refine (HC.out _ hH.1).mono ?_
                      rintro e w9 ⟨rfl, hF⟩
                      have hbu := below_on hH.1 (Nat.le_refl _) hF
                      clear hF
                      refine hK.out _ _ (HS.out _ hbu) (fun hH => ?_)
                      clear hK K
                      try simp only [Act.put, List.getElem_toArray, List.getElem_cons_zero, List.getElem_cons_succ, List.setIfInBounds_toArray, List.set_cons_zero, List.set_cons_succ]
                      refine wpAnyL_take (i := 18) (v := ?v20036) rfl (by kernel_rfl) (by kernel_rfl) (by kernel_rfl) (by kernel_rfl) (fun _ _ _ h => h) (Or.inl ⟨by kernel_rfl, ?hy20036⟩) (by assumption) ?r20036
                      case hy20036 => (intro W hSW; obtain ⟨hV0, s0, s1, s2, s3, s4, s5, s6, s7, s8, s9, s10, s11, s12, s13, s14, s15, s16, s17, s18, s19, s20, s21⟩ := hSW; go_simp; try with_reducible rfl)
                      try simp only [Act.put, List.getElem_toArray, List.getElem_cons_zero, List.getElem_cons_succ, List.setIfInBounds_toArray, List.set_cons_zero, List.set_cons_succ]
                      refine wpAnyL_last (by kernel_rfl) rfl (fun K hK => ?_)
                      go_simp
                      refine hK.out _ _ ?_
                      clear hK K
                      try simp only [Act.put, List.getElem_toArray, List.getElem_cons_zero, List.getElem_cons_succ, List.setIfInBounds_toArray, List.set_cons_zero, List.set_cons_succ]
                      refine wpAnyL_done (by kernel_rfl) ?_ _
                      refine NoPanic.normal ?_
                      have hV := hH.1
                      clear hH HS pr p6 d0 d1 d2 d3 d4 d5 d6 d7 d8 d9 e0 e1 e2 e3 e4 e5 e6 e7 e8 e9
                      go_wp2
                      go_roundw
                      case rel => exact ⟨p + 1, by first | (rw [Hnb.out]; done) | (rw [Hnb.out]; rfl), by go_num, by omega, hb.trans (hV.mono hb.size)⟩
                      case measure => simp [intOf]; omega
                  · have Hnb := Lib.hid (show (bq || (P.take (p + 1)).any fun x => clashB x y) = true from (Hbn.out (clashB x y) rfl).trans (Bool.true_or _))
                    clear Hbn HC
                    as_aux_lemma =>
                    go_upto_region 17 with fail
                    refine wp_region_noPanic ?_
                    refine wp_region_l 19 (fun V : World => Below wr.heap.size wr V ∧ V.cell? ⟨b6, o6 + r, none⟩ = some (.slice (some ⟨br, or, none⟩) P.length rc) ∧ V.cell? ⟨b6, o6 + q, none⟩ = some (.slice (some ⟨bx, ox, none⟩) X.l.length X.c) ∧ V.cell? ⟨br, or + p * 10, none⟩ = some (i64 x.client) ∧ V.cell? ⟨br, or + p * 10 + 1, none⟩ = some (i64 x.seq) ∧ V.cell? ⟨br, or + p * 10 + 2, none⟩ = some (i64 x.kind) ∧ V.cell? ⟨br, or + p * 10 + 3, none⟩ = some (.string x.acct) ∧ V.cell? ⟨br, or + p * 10 + 4, none⟩ = some (.string x.peer) ∧ V.cell? ⟨br, or + p * 10 + 5, none⟩ = some (i64 x.sum) ∧ V.cell? ⟨br, or + p * 10 + 6, none⟩ = some (.slice x.la x.legs.length x.lc) ∧ V.cell? ⟨br, or + p * 10 + 7, none⟩ = some (i64 x.period) ∧ V.cell? ⟨br, or + p * 10 + 8, none⟩ = some (i64 x.hold) ∧ V.cell? ⟨br, or + p * 10 + 9, none⟩ = some (.string x.note) ∧ V.cell? ⟨bx, ox + m * 10, none⟩ = some (i64 y.client) ∧ V.cell? ⟨bx, ox + m * 10 + 1, none⟩ = some (i64 y.seq) ∧ V.cell? ⟨bx, ox + m * 10 + 2, none⟩ = some (i64 y.kind) ∧ V.cell? ⟨bx, ox + m * 10 + 3, none⟩ = some (.string y.acct) ∧ V.cell? ⟨bx, ox + m * 10 + 4, none⟩ = some (.string y.peer) ∧ V.cell? ⟨bx, ox + m * 10 + 5, none⟩ = some (i64 y.sum) ∧ V.cell? ⟨bx, ox + m * 10 + 6, none⟩ = some (.slice y.la y.legs.length y.lc) ∧ V.cell? ⟨bx, ox + m * 10 + 7, none⟩ = some (i64 y.period) ∧ V.cell? ⟨bx, ox + m * 10 + 8, none⟩ = some (i64 y.hold) ∧ V.cell? ⟨bx, ox + m * 10 + 9, none⟩ = some (.string y.note)) (by kernel_rfl) (HS.out _ (Below.refl _ _).drew) (fun hH => ?_)
                    refine wpAnyL_take (i := 0) (v := ?v20037) rfl (by kernel_rfl) (by kernel_rfl) (by kernel_rfl) (by kernel_rfl) (fun _ _ _ h => h) (Or.inl ⟨by kernel_rfl, ?hy20037⟩) (by assumption) ?r20037
                    case hy20037 => (intro W hSW; obtain ⟨hV0, s0, s1, s2, s3, s4, s5, s6, s7, s8, s9, s10, s11, s12, s13, s14, s15, s16, s17, s18, s19, s20, s21⟩ := hSW; go_simp; try with_reducible rfl)
                    try simp only [Act.put, List.getElem_toArray, List.getElem_cons_zero, List.setIfInBounds_toArray, List.set_cons_zero, List.set_cons_succ]
                    refine wpAnyL_take (i := 1) (v := ?v20038) rfl (by kernel_rfl) (by kernel_rfl) (by kernel_rfl) (by kernel_rfl) (fun _ _ _ h => h) (Or.inl ⟨by kernel_rfl, ?hy20038⟩) (by assumption) ?r20038
                    case hy20038 => (intro W hSW; obtain ⟨hV0, s0, s1, s2, s3, s4, s5, s6, s7, s8, s9, s10, s11, s12, s13, s14, s15, s16, s17, s18, s19, s20, s21⟩ := hSW; go_simp; try with_reducible rfl)
                    try simp only [Act.put, List.getElem_toArray, List.getElem_cons_zero, List.getElem_cons_succ, List.setIfInBounds_toArray, List.set_cons_zero, List.set_cons_succ]
                    refine wpAnyL_take (i := 2) (v := undef) rfl (by kernel_rfl) (by kernel_rfl) (by kernel_rfl) (by kernel_rfl) (fun _ _ _ h => h) (Or.inr ⟨by kernel_rfl, rfl⟩) (by assumption) ?r20039
                    try simp only [Act.put, List.getElem_toArray, List.getElem_cons_zero, List.getElem_cons_succ, List.setIfInBounds_toArray, List.set_cons_zero, List.set_cons_succ]
                    refine wpAnyL_take (i := 3) (v := undef) rfl (by kernel_rfl) (by kernel_rfl) (by kernel_rfl) (by kernel_rfl) (fun _ _ _ h => h) (Or.inr ⟨by kernel_rfl, rfl⟩) (by assumption) ?r20040
                    try simp only [Act.put, List.getElem_toArray, List.getElem_cons_zero, List.getElem_cons_succ, List.setIfInBounds_toArray, List.set_cons_zero, List.set_cons_succ]
                    refine wpAnyL_take (i := 4) (v := undef) rfl (by kernel_rfl) (by kernel_rfl) (by kernel_rfl) (by kernel_rfl) (fun _ _ _ h => h) (Or.inr ⟨by kernel_rfl, rfl⟩) (by assumption) ?r20041
                    try simp only [Act.put, List.getElem_toArray, List.getElem_cons_zero, List.getElem_cons_succ, List.setIfInBounds_toArray, List.set_cons_zero, List.set_cons_succ]
                    refine wpAnyL_take (i := 5) (v := undef) rfl (by kernel_rfl) (by kernel_rfl) (by kernel_rfl) (by kernel_rfl) (fun _ _ _ h => h) (Or.inr ⟨by kernel_rfl, rfl⟩) (by assumption) ?r20042
                    try simp only [Act.put, List.getElem_toArray, List.getElem_cons_zero, List.getElem_cons_succ, List.setIfInBounds_toArray, List.set_cons_zero, List.set_cons_succ]
                    refine wpAnyL_take (i := 6) (v := undef) rfl (by kernel_rfl) (by kernel_rfl) (by kernel_rfl) (by kernel_rfl) (fun _ _ _ h => h) (Or.inr ⟨by kernel_rfl, rfl⟩) (by assumption) ?r20043
                    try simp only [Act.put, List.getElem_toArray, List.getElem_cons_zero, List.getElem_cons_succ, List.setIfInBounds_toArray, List.set_cons_zero, List.set_cons_succ]
                    refine wpAnyL_take (i := 7) (v := undef) rfl (by kernel_rfl) (by kernel_rfl) (by kernel_rfl) (by kernel_rfl) (fun _ _ _ h => h) (Or.inr ⟨by kernel_rfl, rfl⟩) (by assumption) ?r20044
                    try simp only [Act.put, List.getElem_toArray, List.getElem_cons_zero, List.getElem_cons_succ, List.setIfInBounds_toArray, List.set_cons_zero, List.set_cons_succ]
                    refine wpAnyL_take (i := 8) (v := undef) rfl (by kernel_rfl) (by kernel_rfl) (by kernel_rfl) (by kernel_rfl) (fun _ _ _ h => h) (Or.inr ⟨by kernel_rfl, rfl⟩) (by assumption) ?r20045
                    try simp only [Act.put, List.getElem_toArray, List.getElem_cons_zero, List.getElem_cons_succ, List.setIfInBounds_toArray, List.set_cons_zero, List.set_cons_succ]
                    refine wpAnyL_take (i := 9) (v := undef) rfl (by kernel_rfl) (by kernel_rfl) (by kernel_rfl) (by kernel_rfl) (fun _ _ _ h => h) (Or.inr ⟨by kernel_rfl, rfl⟩) (by assumption) ?r20046
                    try simp only [Act.put, List.getElem_toArray, List.getElem_cons_zero, List.getElem_cons_succ, List.setIfInBounds_toArray, List.set_cons_zero, List.set_cons_succ]
                    refine wpAnyL_take (i := 10) (v := undef) rfl (by kernel_rfl) (by kernel_rfl) (by kernel_rfl) (by kernel_rfl) (fun _ _ _ h => h) (Or.inr ⟨by kernel_rfl, rfl⟩) (by assumption) ?r20047
                    try simp only [Act.put, List.getElem_toArray, List.getElem_cons_zero, List.getElem_cons_succ, List.setIfInBounds_toArray, List.set_cons_zero, List.set_cons_succ]
                    refine wpAnyL_take (i := 11) (v := undef) rfl (by kernel_rfl) (by kernel_rfl) (by kernel_rfl) (by kernel_rfl) (fun _ _ _ h => h) (Or.inr ⟨by kernel_rfl, rfl⟩) (by assumption) ?r20048
                    try simp only [Act.put, List.getElem_toArray, List.getElem_cons_zero, List.getElem_cons_succ, List.setIfInBounds_toArray, List.set_cons_zero, List.set_cons_succ]
                    refine wpAnyL_take (i := 12) (v := undef) rfl (by kernel_rfl) (by kernel_rfl) (by kernel_rfl) (by kernel_rfl) (fun _ _ _ h => h) (Or.inr ⟨by kernel_rfl, rfl⟩) (by assumption) ?r20049
                    try simp only [Act.put, List.getElem_toArray, List.getElem_cons_zero, List.getElem_cons_succ, List.setIfInBounds_toArray, List.set_cons_zero, List.set_cons_succ]
                    refine wpAnyL_take (i := 13) (v := undef) rfl (by kernel_rfl) (by kernel_rfl) (by kernel_rfl) (by kernel_rfl) (fun _ _ _ h => h) (Or.inr ⟨by kernel_rfl, rfl⟩) (by assumption) ?r20050
                    try simp only [Act.put, List.getElem_toArray, List.getElem_cons_zero, List.getElem_cons_succ, List.setIfInBounds_toArray, List.set_cons_zero, List.set_cons_succ]
                    refine wpAnyL_take (i := 14) (v := undef) rfl (by kernel_rfl) (by kernel_rfl) (by kernel_rfl) (by kernel_rfl) (fun _ _ _ h => h) (Or.inr ⟨by kernel_rfl, rfl⟩) (by assumption) ?r20051
                    try simp only [Act.put, List.getElem_toArray, List.getElem_cons_zero, List.getElem_cons_succ, List.setIfInBounds_toArray, List.set_cons_zero, List.set_cons_succ]
                    refine wpAnyL_take (i := 15) (v := undef) rfl (by kernel_rfl) (by kernel_rfl) (by kernel_rfl) (by kernel_rfl) (fun _ _ _ h => h) (Or.inr ⟨by kernel_rfl, rfl⟩) (by assumption) ?r20052
                    try simp only [Act.put, List.getElem_toArray, List.getElem_cons_zero, List.getElem_cons_succ, List.setIfInBounds_toArray, List.set_cons_zero, List.set_cons_succ]
                    refine wpAnyL_take (i := 16) (v := undef) rfl (by kernel_rfl) (by kernel_rfl) (by kernel_rfl) (by kernel_rfl) (fun _ _ _ h => h) (Or.inr ⟨by kernel_rfl, rfl⟩) (by assumption) ?r20053
                    try simp only [Act.put, List.getElem_toArray, List.getElem_cons_zero, List.getElem_cons_succ, List.setIfInBounds_toArray, List.set_cons_zero, List.set_cons_succ]
                    refine wpAnyL_take (i := 17) (v := undef) rfl (by kernel_rfl) (by kernel_rfl) (by kernel_rfl) (by kernel_rfl) (fun _ _ _ h => h) (Or.inr ⟨by kernel_rfl, rfl⟩) (by assumption) ?r20054
                    try simp only [Act.put, List.getElem_toArray, List.getElem_cons_zero, List.getElem_cons_succ, List.setIfInBounds_toArray, List.set_cons_zero, List.set_cons_succ]
                    refine wpAnyL_take (i := 18) (v := ?v20055) rfl (by kernel_rfl) (by kernel_rfl) (by kernel_rfl) (by kernel_rfl) (fun _ _ _ h => h) (Or.inl ⟨by kernel_rfl, ?hy20055⟩) (by assumption) ?r20055
                    case hy20055 => (intro W hSW; obtain ⟨hV0, s0, s1, s2, s3, s4, s5, s6, s7, s8, s9, s10, s11, s12, s13, s14, s15, s16, s17, s18, s19, s20, s21⟩ := hSW; go_simp; try with_reducible rfl)
                    try simp only [Act.put, List.getElem_toArray, List.getElem_cons_zero, List.getElem_cons_succ, List.setIfInBounds_toArray, List.set_cons_zero, List.set_cons_succ]
                    refine wpAnyL_last (by kernel_rfl) rfl (fun K hK => ?_)
                    go_simp
                    refine hK.out _ _ ?_
                    clear hK K
                    try simp only [Act.put, List.getElem_toArray, List.getElem_cons_zero, List.getElem_cons_succ, List.setIfInBounds_toArray, List.set_cons_zero, List.set_cons_succ]
                    refine wpAnyL_done (by kernel_rfl) ?_ _
                    refine NoPanic.normal ?_
                    have hV := hH.1
                    clear hH HS pr p6 d0 d1 d2 d3 d4 d5 d6 d7 d8 d9 e0 e1 e2 e3 e4 e5 e6 e7 e8 e9
                    go_wp2
                    go_roundw
                    case rel => exact ⟨p + 1, by first | (rw [Hnb.out]; done) | (rw [Hnb.out]; rfl), by go_num, by omega, hb.trans (hV.mono hb.size)⟩
                    case measure => simp [intOf]; omega
                · obtain rfl : p = P.length := by omega
                  have g5 : decide ((P.length : Int) < (P.length : Int)) = false := decide_eq_false (by omega)
                  have Hfin := Lib.hid (show (bq || (P.take P.length).any fun x => clashB x y) = true by rw [List.take_length]; rcases Hend.out with e | e <;> rw [e] <;> simp)
                  clear kr hbq
                  go_wp2
                  go_meet
                  exact ⟨by first | (rw [Hfin.out]; done) | (have h7 := Hfin.out; rw [List.take_length] at h7; rw [h7]), hb⟩
          case rest =>
          obtain ⟨rfl, hb⟩ := hcut
          clear p6 HP0 HP1 Hbq Hend hbq Hh
          go_wp2_with fail
          go_loopw [9] (fun j wz => ∃ p : Nat, j = i64 p ∧ p ≤ m ∧ Below w6.heap.size w6 wz) (fun j _ => m - (intOf j).toNat)
          case atStart => exact ⟨0, rfl, Nat.zero_le _, hb⟩
          case round =>
            clear hb
            obtain ⟨p, rfl, hpm, hb⟩ := hrel
            by_cases hpl : p < m
            · have g5 : decide ((p : Int) < (m : Int)) = true := decide_eq_true (by omega)
              have g6 : decide (p < m) = true := decide_eq_true hpl
              have p0 : (0 : Int) ≤ (p : Int) := by omega
              have p1 : (p : Int) < (X.l.length : Int) := by omega
              have hpX : p < X.l.length := by omega
              obtain ⟨hcl, hlo⟩ := Hp.out p m hpl hml
              obtain ⟨b7, o7, hA7, _, kr, _⟩ := (s6.later hb).sv hlt
              injection hA7 with hA7
              injection hA7 with hA71 hA72
              subst hA71 hA72
              rw [HX.out] at kr
              obtain ⟨br, or, hra, _, hok, d0, d1, d2, d3, d4, d5, d6, d7, d8, d9⟩ := kr.od hpX
              rw [Hxa.out] at hra
              injection hra with hra
              injection hra with hra1 hra2
              subst hra1 hra2
              obtain ⟨p6, hoky, e0, e1, e2, e3, e4, e5, e6, e7, e8, e9⟩ := Hcell.out wr hb
              have hlx := HXlg.out _ (List.getElem_mem hpX)
              rw [HY.out] at hcl hlo
              have HC := Lib.hid (fun W (hW : Below wr.heap.size wr W) => clash_c (X.l[p]) y W (Okb.later hok hW) (Okb.later hoky hW) hlx hly)
              rw [hcl] at HC
              obtain ⟨x, hx⟩ : ∃ x, X.l[p] = x := ⟨_, rfl⟩
              rw [hx] at HC hlo d0 d1 d2 d3 d4 d5 d6 d7 d8 d9
              unfold Od.v at HC
              obtain ⟨hl1, hl2⟩ := ltO_walk hlo
              have u1 : decide (x.client > y.client) = false := decide_eq_false hl1
              have u1' : decide (y.client < x.client) = false := decide_eq_false hl1
              have hS : ∀ V, Below wr.heap.size wr V → (fun V : World => Below wr.heap.size wr V ∧ V.cell? ⟨b6, o6 + q, none⟩ = some (.slice (some ⟨bx, ox, none⟩) X.l.length X.c) ∧ V.cell? ⟨bx, ox + p * 10, none⟩ = some (i64 x.client) ∧ V.cell? ⟨bx, ox + p * 10 + 1, none⟩ = some (i64 x.seq) ∧ V.cell? ⟨bx, ox + p * 10 + 2, none⟩ = some (i64 x.kind) ∧ V.cell? ⟨bx, ox + p * 10 + 3, none⟩ = some (.string x.acct) ∧ V.cell? ⟨bx, ox + p * 10 + 4, none⟩ = some (.string x.peer) ∧ V.cell? ⟨bx, ox + p * 10 + 5, none⟩ = some (i64 x.sum) ∧ V.cell? ⟨bx, ox + p * 10 + 6, none⟩ = some (.slice x.la x.legs.length x.lc) ∧ V.cell? ⟨bx, ox + p * 10 + 7, none⟩ = some (i64 x.period) ∧ V.cell? ⟨bx, ox + p * 10 + 8, none⟩ = some (i64 x.hold) ∧ V.cell? ⟨bx, ox + p * 10 + 9, none⟩ = some (.string x.note) ∧ V.cell? ⟨bx, ox + m * 10, none⟩ = some (i64 y.client) ∧ V.cell? ⟨bx, ox + m * 10 + 1, none⟩ = some (i64 y.seq) ∧ V.cell? ⟨bx, ox + m * 10 + 2, none⟩ = some (i64 y.kind) ∧ V.cell? ⟨bx, ox + m * 10 + 3, none⟩ = some (.string y.acct) ∧ V.cell? ⟨bx, ox + m * 10 + 4, none⟩ = some (.string y.peer) ∧ V.cell? ⟨bx, ox + m * 10 + 5, none⟩ = some (i64 y.sum) ∧ V.cell? ⟨bx, ox + m * 10 + 6, none⟩ = some (.slice y.la y.legs.length y.lc) ∧ V.cell? ⟨bx, ox + m * 10 + 7, none⟩ = some (i64 y.period) ∧ V.cell? ⟨bx, ox + m * 10 + 8, none⟩ = some (i64 y.hold) ∧ V.cell? ⟨bx, ox + m * 10 + 9, none⟩ = some (.string y.note)) V := fun V hV => ⟨hV, (hV.cell (World.block_lt_of_cell? _ _ p6)).trans p6, (hV.cell (World.block_lt_of_cell? _ _ d0)).trans d0, (hV.cell (World.block_lt_of_cell? _ _ d1)).trans d1, (hV.cell (World.block_lt_of_cell? _ _ d2)).trans d2, (hV.cell (World.block_lt_of_cell? _ _ d3)).trans d3, (hV.cell (World.block_lt_of_cell? _ _ d4)).trans d4, (hV.cell (World.block_lt_of_cell? _ _ d5)).trans d5, (hV.cell (World.block_lt_of_cell? _ _ d6)).trans d6, (hV.cell (World.block_lt_of_cell? _ _ d7)).trans d7, (hV.cell (World.block_lt_of_cell? _ _ d8)).trans d8, (hV.cell (World.block_lt_of_cell? _ _ d9)).trans d9, (hV.cell (World.block_lt_of_cell? _ _ e0)).trans e0, (hV.cell (World.block_lt_of_cell? _ _ e1)).trans e1, (hV.cell (World.block_lt_of_cell? _ _ e2)).trans e2, (hV.cell (World.block_lt_of_cell? _ _ e3)).trans e3, (hV.cell (World.block_lt_of_cell? _ _ e4)).trans e4, (hV.cell (World.block_lt_of_cell? _ _ e5)).trans e5, (hV.cell (World.block_lt_of_cell? _ _ e6)).trans e6, (hV.cell (World.block_lt_of_cell? _ _ e7)).trans e7, (hV.cell (World.block_lt_of_cell? _ _ e8)).trans e8, (hV.cell (World.block_lt_of_cell? _ _ e9)).trans e9⟩
              have HS := Lib.hid hS
              clear hS hok hoky hlx kr hx hcl hlo hl1
              by_cases he : x.client = y.client
              · have u2 : (x.client == y.client) = true := by simpa using he
                have u3 : decide (x.seq ≥ y.seq) = false := decide_eq_false (hl2 he)
                have u3' : decide (y.seq ≤ x.seq) = false := decide_eq_false (hl2 he)
                clear he hl2
                as_aux_lemma =>
                go_upto_region 21 with fail
                refine wp_region_noPanic ?_
                refine wp_region_l 77 (fun V : World => Below wr.heap.size wr V ∧ V.cell? ⟨b6, o6 + q, none⟩ = some (.slice (some ⟨bx, ox, none⟩) X.l.length X.c) ∧ V.cell? ⟨bx, ox + p * 10, none⟩ = some (i64 x.client) ∧ V.cell? ⟨bx, ox + p * 10 + 1, none⟩ = some (i64 x.seq) ∧ V.cell? ⟨bx, ox + p * 10 + 2, none⟩ = some (i64 x.kind) ∧ V.cell? ⟨bx, ox + p * 10 + 3, none⟩ = some (.string x.acct) ∧ V.cell? ⟨bx, ox + p * 10 + 4, none⟩ = some (.string x.peer) ∧ V.cell? ⟨bx, ox + p * 10 + 5, none⟩ = some (i64 x.sum) ∧ V.cell? ⟨bx, ox + p * 10 + 6, none⟩ = some (.slice x.la x.legs.length x.lc) ∧ V.cell? ⟨bx, ox + p * 10 + 7, none⟩ = some (i64 x.period) ∧ V.cell? ⟨bx, ox + p * 10 + 8, none⟩ = some (i64 x.hold) ∧ V.cell? ⟨bx, ox + p * 10 + 9, none⟩ = some (.string x.note) ∧ V.cell? ⟨bx, ox + m * 10, none⟩ = some (i64 y.client) ∧ V.cell? ⟨bx, ox + m * 10 + 1, none⟩ = some (i64 y.seq) ∧ V.cell? ⟨bx, ox + m * 10 + 2, none⟩ = some (i64 y.kind) ∧ V.cell? ⟨bx, ox + m * 10 + 3, none⟩ = some (.string y.acct) ∧ V.cell? ⟨bx, ox + m * 10 + 4, none⟩ = some (.string y.peer) ∧ V.cell? ⟨bx, ox + m * 10 + 5, none⟩ = some (i64 y.sum) ∧ V.cell? ⟨bx, ox + m * 10 + 6, none⟩ = some (.slice y.la y.legs.length y.lc) ∧ V.cell? ⟨bx, ox + m * 10 + 7, none⟩ = some (i64 y.period) ∧ V.cell? ⟨bx, ox + m * 10 + 8, none⟩ = some (i64 y.hold) ∧ V.cell? ⟨bx, ox + m * 10 + 9, none⟩ = some (.string y.note)) (by kernel_rfl) (HS.out _ (Below.refl _ _).drew) (fun hH => ?_)
                refine wpAnyL_take (i := 0) (v := ?v20056) rfl (by kernel_rfl) (by kernel_rfl) (by kernel_rfl) (by kernel_rfl) (fun _ _ _ h => h) (Or.inl ⟨by kernel_rfl, ?hy20056⟩) (by assumption) ?r20056
                case hy20056 => (intro W hSW; obtain ⟨hV0, s0, s1, s2, s3, s4, s5, s6, s7, s8, s9, s10, s11, s12, s13, s14, s15, s16, s17, s18, s19, s20⟩ := hSW; go_simp; try with_reducible rfl)
                try simp only [Act.put, List.getElem_toArray, List.getElem_cons_zero, List.setIfInBounds_toArray, List.set_cons_zero, List.set_cons_succ]
                refine wpAnyL_take (i := 1) (v := ?v20057) rfl (by kernel_rfl) (by kernel_rfl) (by kernel_rfl) (by kernel_rfl) (fun _ _ _ h => h) (Or.inl ⟨by kernel_rfl, ?hy20057⟩) (by assumption) ?r20057
                case hy20057 => (intro W hSW; obtain ⟨hV0, s0, s1, s2, s3, s4, s5, s6, s7, s8, s9, s10, s11, s12, s13, s14, s15, s16, s17, s18, s19, s20⟩ := hSW; go_simp; try with_reducible rfl)
                try simp only [Act.put, List.getElem_toArray, List.getElem_cons_zero, List.getElem_cons_succ, List.setIfInBounds_toArray, List.set_cons_zero, List.set_cons_succ]
                refine wpAnyL_take (i := 2) (v := ?v20058) rfl (by kernel_rfl) (by kernel_rfl) (by kernel_rfl) (by kernel_rfl) (fun _ _ _ h => h) (Or.inl ⟨by kernel_rfl, ?hy20058⟩) (by assumption) ?r20058
                case hy20058 => (intro W hSW; obtain ⟨hV0, s0, s1, s2, s3, s4, s5, s6, s7, s8, s9, s10, s11, s12, s13, s14, s15, s16, s17, s18, s19, s20⟩ := hSW; go_simp; try with_reducible rfl)
                try simp only [Act.put, List.getElem_toArray, List.getElem_cons_zero, List.getElem_cons_succ, List.setIfInBounds_toArray, List.set_cons_zero, List.set_cons_succ]
                refine wpAnyL_take (i := 3) (v := ?v20059) rfl (by kernel_rfl) (by kernel_rfl) (by kernel_rfl) (by kernel_rfl) (fun _ _ _ h => h) (Or.inl ⟨by kernel_rfl, ?hy20059⟩) (by assumption) ?r20059
                case hy20059 => (intro W hSW; obtain ⟨hV0, s0, s1, s2, s3, s4, s5, s6, s7, s8, s9, s10, s11, s12, s13, s14, s15, s16, s17, s18, s19, s20⟩ := hSW; go_simp; try with_reducible rfl)
                try simp only [Act.put, List.getElem_toArray, List.getElem_cons_zero, List.getElem_cons_succ, List.setIfInBounds_toArray, List.set_cons_zero, List.set_cons_succ]
                refine wpAnyL_take (i := 4) (v := ?v20060) rfl (by kernel_rfl) (by kernel_rfl) (by kernel_rfl) (by kernel_rfl) (fun _ _ _ h => h) (Or.inl ⟨by kernel_rfl, ?hy20060⟩) (by assumption) ?r20060
                case hy20060 => (intro W hSW; obtain ⟨hV0, s0, s1, s2, s3, s4, s5, s6, s7, s8, s9, s10, s11, s12, s13, s14, s15, s16, s17, s18, s19, s20⟩ := hSW; go_simp; try with_reducible rfl)
                try simp only [Act.put, List.getElem_toArray, List.getElem_cons_zero, List.getElem_cons_succ, List.setIfInBounds_toArray, List.set_cons_zero, List.set_cons_succ]
                refine wpAnyL_take (i := 5) (v := ?v20061) rfl (by kernel_rfl) (by kernel_rfl) (by kernel_rfl) (by kernel_rfl) (fun _ _ _ h => h) (Or.inl ⟨by kernel_rfl, ?hy20061⟩) (by assumption) ?r20061
                case hy20061 => (intro W hSW; obtain ⟨hV0, s0, s1, s2, s3, s4, s5, s6, s7, s8, s9, s10, s11, s12, s13, s14, s15, s16, s17, s18, s19, s20⟩ := hSW; go_simp; try with_reducible rfl)
                try simp only [Act.put, List.getElem_toArray, List.getElem_cons_zero, List.getElem_cons_succ, List.setIfInBounds_toArray, List.set_cons_zero, List.set_cons_succ]
                refine wpAnyL_take (i := 6) (v := ?v20062) rfl (by kernel_rfl) (by kernel_rfl) (by kernel_rfl) (by kernel_rfl) (fun _ _ _ h => h) (Or.inl ⟨by kernel_rfl, ?hy20062⟩) (by assumption) ?r20062
                case hy20062 => (intro W hSW; obtain ⟨hV0, s0, s1, s2, s3, s4, s5, s6, s7, s8, s9, s10, s11, s12, s13, s14, s15, s16, s17, s18, s19, s20⟩ := hSW; go_simp; try with_reducible rfl)
                try simp only [Act.put, List.getElem_toArray, List.getElem_cons_zero, List.getElem_cons_succ, List.setIfInBounds_toArray, List.set_cons_zero, List.set_cons_succ]
                refine wpAnyL_take (i := 7) (v := ?v20063) rfl (by kernel_rfl) (by kernel_rfl) (by kernel_rfl) (by kernel_rfl) (fun _ _ _ h => h) (Or.inl ⟨by kernel_rfl, ?hy20063⟩) (by assumption) ?r20063
                case hy20063 => (intro W hSW; obtain ⟨hV0, s0, s1, s2, s3, s4, s5, s6, s7, s8, s9, s10, s11, s12, s13, s14, s15, s16, s17, s18, s19, s20⟩ := hSW; go_simp; try with_reducible rfl)
                try simp only [Act.put, List.getElem_toArray, List.getElem_cons_zero, List.getElem_cons_succ, List.setIfInBounds_toArray, List.set_cons_zero, List.set_cons_succ]
                as_aux_lemma =>
                refine wpAnyL_take (i := 8) (v := ?v20064) rfl (by kernel_rfl) (by kernel_rfl) (by kernel_rfl) (by kernel_rfl) (fun _ _ _ h => h) (Or.inl ⟨by kernel_rfl, ?hy20064⟩) (by assumption) ?r20064
                case hy20064 => (intro W hSW; obtain ⟨hV0, s0, s1, s2, s3, s4, s5, s6, s7, s8, s9, s10, s11, s12, s13, s14, s15, s16, s17, s18, s19, s20⟩ := hSW; go_simp; try with_reducible rfl)
                try simp only [Act.put, List.getElem_toArray, List.getElem_cons_zero, List.getElem_cons_succ, List.setIfInBounds_toArray, List.set_cons_zero, List.set_cons_succ]
                refine wpAnyL_take (i := 9) (v := ?v20065) rfl (by kernel_rfl) (by kernel_rfl) (by kernel_rfl) (by kernel_rfl) (fun _ _ _ h => h) (Or.inl ⟨by kernel_rfl, ?hy20065⟩) (by assumption) ?r20065
                case hy20065 => (intro W hSW; obtain ⟨hV0, s0, s1, s2, s3, s4, s5, s6, s7, s8, s9, s10, s11, s12, s13, s14, s15, s16, s17, s18, s19, s20⟩ := hSW; go_simp; try with_reducible rfl)
                try simp only [Act.put, List.getElem_toArray, List.getElem_cons_zero, List.getElem_cons_succ, List.setIfInBounds_toArray, List.set_cons_zero, List.set_cons_succ]
                refine wpAnyL_take (i := 10) (v := ?v20066) rfl (by kernel_rfl) (by kernel_rfl) (by kernel_rfl) (by kernel_rfl) (fun _ _ _ h => h) (Or.inl ⟨by kernel_rfl, ?hy20066⟩) (by assumption) ?r20066
                case hy20066 => (intro W hSW; obtain ⟨hV0, s0, s1, s2, s3, s4, s5, s6, s7, s8, s9, s10, s11, s12, s13, s14, s15, s16, s17, s18, s19, s20⟩ := hSW; go_simp; try with_reducible rfl)
                try simp only [Act.put, List.getElem_toArray, List.getElem_cons_zero, List.getElem_cons_succ, List.setIfInBounds_toArray, List.set_cons_zero, List.set_cons_succ]
                refine wpAnyL_take (i := 11) (v := ?v20067) rfl (by kernel_rfl) (by kernel_rfl) (by kernel_rfl) (by kernel_rfl) (fun _ _ _ h => h) (Or.inl ⟨by kernel_rfl, ?hy20067⟩) (by assumption) ?r20067
                case hy20067 => (intro W hSW; obtain ⟨hV0, s0, s1, s2, s3, s4, s5, s6, s7, s8, s9, s10, s11, s12, s13, s14, s15, s16, s17, s18, s19, s20⟩ := hSW; go_simp; try with_reducible rfl)
                try simp only [Act.put, List.getElem_toArray, List.getElem_cons_zero, List.getElem_cons_succ, List.setIfInBounds_toArray, List.set_cons_zero, List.set_cons_succ]
                refine wpAnyL_take (i := 12) (v := ?v20068) rfl (by kernel_rfl) (by kernel_rfl) (by kernel_rfl) (by kernel_rfl) (fun _ _ _ h => h) (Or.inl ⟨by kernel_rfl, ?hy20068⟩) (by assumption) ?r20068
                case hy20068 => (intro W hSW; obtain ⟨hV0, s0, s1, s2, s3, s4, s5, s6, s7, s8, s9, s10, s11, s12, s13, s14, s15, s16, s17, s18, s19, s20⟩ := hSW; go_simp; try with_reducible rfl)
                try simp only [Act.put, List.getElem_toArray, List.getElem_cons_zero, List.getElem_cons_succ, List.setIfInBounds_toArray, List.set_cons_zero, List.set_cons_succ]
                refine wpAnyL_take (i := 13) (v := ?v20069) rfl (by kernel_rfl) (by kernel_rfl) (by kernel_rfl) (by kernel_rfl) (fun _ _ _ h => h) (Or.inl ⟨by kernel_rfl, ?hy20069⟩) (by assumption) ?r20069
                case hy20069 => (intro W hSW; obtain ⟨hV0, s0, s1, s2, s3, s4, s5, s6, s7, s8, s9, s10, s11, s12, s13, s14, s15, s16, s17, s18, s19, s20⟩ := hSW; go_simp; try with_reducible rfl)
                try simp only [Act.put, List.getElem_toArray, List.getElem_cons_zero, List.getElem_cons_succ, List.setIfInBounds_toArray, List.set_cons_zero, List.set_cons_succ]
                refine wpAnyL_one (i := 14) (by kernel_rfl) rfl (by decide) (fun K hK => ?_)
                go_simp
                go_at_call 29
                with_reducible refine (HC.out _ hH.1).mono ?_
                rintro e w9 ⟨rfl, hF⟩
                have hbu := below_on hH.1 (Nat.le_refl _) hF
                clear hF
                refine hK.out _ _ (HS.out _ hbu) (fun hH => ?_)
                clear hK K
                try simp only [Act.put, List.getElem_toArray, List.getElem_cons_zero, List.getElem_cons_succ, List.setIfInBounds_toArray, List.set_cons_zero, List.set_cons_succ]
                refine wpAnyL_take (i := 15) (v := ?v20070) rfl (by kernel_rfl) (by kernel_rfl) (by kernel_rfl) (by kernel_rfl) (fun _ _ _ h => h) (Or.inl ⟨by kernel_rfl, ?hy20070⟩) (by assumption) ?r20070
                case hy20070 => (intro W hSW; obtain ⟨hV0, s0, s1, s2, s3, s4, s5, s6, s7, s8, s9, s10, s11, s12, s13, s14, s15, s16, s17, s18, s19, s20⟩ := hSW; go_simp; try with_reducible rfl)
                try simp only [Act.put, List.getElem_toArray, List.getElem_cons_zero, List.getElem_cons_succ, List.setIfInBounds_toArray, List.set_cons_zero, List.set_cons_succ]
                refine wpAnyL_take (i := 16) (v := ?v20071) rfl (by kernel_rfl) (by kernel_rfl) (by kernel_rfl) (by kernel_rfl) (fun _ _ _ h => h) (Or.inl ⟨by kernel_rfl, ?hy20071⟩) (by assumption) ?r20071
                case hy20071 => (intro W hSW; obtain ⟨hV0, s0, s1, s2, s3, s4, s5, s6, s7, s8, s9, s10, s11, s12, s13, s14, s15, s16, s17, s18, s19, s20⟩ := hSW; go_simp; try with_reducible rfl)
                try simp only [Act.put, List.getElem_toArray, List.getElem_cons_zero, List.getElem_cons_succ, List.setIfInBounds_toArray, List.set_cons_zero, List.set_cons_succ]
                as_aux_lemma =>
                refine wpAnyL_take (i := 17) (v := ?v20072) rfl (by kernel_rfl) (by kernel_rfl) (by kernel_rfl) (by kernel_rfl) (fun _ _ _ h => h) (Or.inl ⟨by kernel_rfl, ?hy20072⟩) (by assumption) ?r20072
                case hy20072 => (intro W hSW; obtain ⟨hV0, s0, s1, s2, s3, s4, s5, s6, s7, s8, s9, s10, s11, s12, s13, s14, s15, s16, s17, s18, s19, s20⟩ := hSW; go_simp; try with_reducible rfl)
                try simp only [Act.put, List.getElem_toArray, List.getElem_cons_zero, List.getElem_cons_succ, List.setIfInBounds_toArray, List.set_cons_zero, List.set_cons_succ]
                refine wpAnyL_take (i := 18) (v := ?v20073) rfl (by kernel_rfl) (by kernel_rfl) (by kernel_rfl) (by kernel_rfl) (fun _ _ _ h => h) (Or.inl ⟨by kernel_rfl, ?hy20073⟩) (by assumption) ?r20073
                case hy20073 => (intro W hSW; obtain ⟨hV0, s0, s1, s2, s3, s4, s5, s6, s7, s8, s9, s10, s11, s12, s13, s14, s15, s16, s17, s18, s19, s20⟩ := hSW; go_simp; try with_reducible rfl)
                try simp only [Act.put, List.getElem_toArray, List.getElem_cons_zero, List.getElem_cons_succ, List.setIfInBounds_toArray, List.set_cons_zero, List.set_cons_succ]
                refine wpAnyL_take (i := 19) (v := ?v20074) rfl (by kernel_rfl) (by kernel_rfl) (by kernel_rfl) (by kernel_rfl) (fun _ _ _ h => h) (Or.inl ⟨by kernel_rfl, ?hy20074⟩) (by assumption) ?r20074
                case hy20074 => (intro W hSW; obtain ⟨hV0, s0, s1, s2, s3, s4, s5, s6, s7, s8, s9, s10, s11, s12, s13, s14, s15, s16, s17, s18, s19, s20⟩ := hSW; go_simp; try with_reducible rfl)
                try simp only [Act.put, List.getElem_toArray, List.getElem_cons_zero, List.getElem_cons_succ, List.setIfInBounds_toArray, List.set_cons_zero, List.set_cons_succ]
                refine wpAnyL_take (i := 20) (v := ?v20075) rfl (by kernel_rfl) (by kernel_rfl) (by kernel_rfl) (by kernel_rfl) (fun _ _ _ h => h) (Or.inl ⟨by kernel_rfl, ?hy20075⟩) (by assumption) ?r20075
                case hy20075 => (intro W hSW; obtain ⟨hV0, s0, s1, s2, s3, s4, s5, s6, s7, s8, s9, s10, s11, s12, s13, s14, s15, s16, s17, s18, s19, s20⟩ := hSW; go_simp; try with_reducible rfl)
                try simp only [Act.put, List.getElem_toArray, List.getElem_cons_zero, List.getElem_cons_succ, List.setIfInBounds_toArray, List.set_cons_zero, List.set_cons_succ]
                refine wpAnyL_take (i := 21) (v := ?v20076) rfl (by kernel_rfl) (by kernel_rfl) (by kernel_rfl) (by kernel_rfl) (fun _ _ _ h => h) (Or.inl ⟨by kernel_rfl, ?hy20076⟩) (by assumption) ?r20076
                case hy20076 => (intro W hSW; obtain ⟨hV0, s0, s1, s2, s3, s4, s5, s6, s7, s8, s9, s10, s11, s12, s13, s14, s15, s16, s17, s18, s19, s20⟩ := hSW; go_simp; try with_reducible rfl)
                try simp only [Act.put, List.getElem_toArray, List.getElem_cons_zero, List.getElem_cons_succ, List.setIfInBounds_toArray, List.set_cons_zero, List.set_cons_succ]
                refine wpAnyL_take (i := 22) (v := ?v20077) rfl (by kernel_rfl) (by kernel_rfl) (by kernel_rfl) (by kernel_rfl) (fun _ _ _ h => h) (Or.inl ⟨by kernel_rfl, ?hy20077⟩) (by assumption) ?r20077
                case hy20077 => (intro W hSW; obtain ⟨hV0, s0, s1, s2, s3, s4, s5, s6, s7, s8, s9, s10, s11, s12, s13, s14, s15, s16, s17, s18, s19, s20⟩ := hSW; go_simp; try with_reducible rfl)
                try simp only [Act.put, List.getElem_toArray, List.getElem_cons_zero, List.getElem_cons_succ, List.setIfInBounds_toArray, List.set_cons_zero, List.set_cons_succ]
                refine wpAnyL_take (i := 23) (v := ?v20078) rfl (by kernel_rfl) (by kernel_rfl) (by kernel_rfl) (by kernel_rfl) (fun _ _ _ h => h) (Or.inl ⟨by kernel_rfl, ?hy20078⟩) (by assumption) ?r20078
                case hy20078 => (intro W hSW; obtain ⟨hV0, s0, s1, s2, s3, s4, s5, s6, s7, s8, s9, s10, s11, s12, s13, s14, s15, s16, s17, s18, s19, s20⟩ := hSW; go_simp; try with_reducible rfl)
                try simp only [Act.put, List.getElem_toArray, List.getElem_cons_zero, List.getElem_cons_succ, List.setIfInBounds_toArray, List.set_cons_zero, List.set_cons_succ]
                refine wpAnyL_take (i := 24) (v := ?v20079) rfl (by kernel_rfl) (by kernel_rfl) (by kernel_rfl) (by kernel_rfl) (fun _ _ _ h => h) (Or.inl ⟨by kernel_rfl, ?hy20079⟩) (by assumption) ?r20079
                case hy20079 => (intro W hSW; obtain ⟨hV0, s0, s1, s2, s3, s4, s5, s6, s7, s8, s9, s10, s11, s12, s13, s14, s15, s16, s17, s18, s19, s20⟩ := hSW; go_simp; try with_reducible rfl)
                try simp only [Act.put, List.getElem_toArray, List.getElem_cons_zero, List.getElem_cons_succ, List.setIfInBounds_toArray, List.set_cons_zero, List.set_cons_succ]
                refine wpAnyL_take (i := 25) (v := ?v20080) rfl (by kernel_rfl) (by kernel_rfl) (by kernel_rfl) (by kernel_rfl) (fun _ _ _ h => h) (Or.inl ⟨by kernel_rfl, ?hy20080⟩) (by assumption) ?r20080
                case hy20080 => (intro W hSW; obtain ⟨hV0, s0, s1, s2, s3, s4, s5, s6, s7, s8, s9, s10, s11, s12, s13, s14, s15, s16, s17, s18, s19, s20⟩ := hSW; go_simp; try with_reducible rfl)
                try simp only [Act.put, List.getElem_toArray, List.getElem_cons_zero, List.getElem_cons_succ, List.setIfInBounds_toArray, List.set_cons_zero, List.set_cons_succ]
                as_aux_lemma =>
                refine wpAnyL_take (i := 26) (v := ?v20081) rfl (by kernel_rfl) (by kernel_rfl) (by kernel_rfl) (by kernel_rfl) (fun _ _ _ h => h) (Or.inl ⟨by kernel_rfl, ?hy20081⟩) (by assumption) ?r20081
                case hy20081 => (intro W hSW; obtain ⟨hV0, s0, s1, s2, s3, s4, s5, s6, s7, s8, s9, s10, s11, s12, s13, s14, s15, s16, s17, s18, s19, s20⟩ := hSW; go_simp; try with_reducible rfl)
                try simp only [Act.put, List.getElem_toArray, List.getElem_cons_zero, List.getElem_cons_succ, List.setIfInBounds_toArray, List.set_cons_zero, List.set_cons_succ]
                refine wpAnyL_take (i := 27) (v := ?v20082) rfl (by kernel_rfl) (by kernel_rfl) (by kernel_rfl) (by kernel_rfl) (fun _ _ _ h => h) (Or.inl ⟨by kernel_rfl, ?hy20082⟩) (by assumption) ?r20082
                case hy20082 => (intro W hSW; obtain ⟨hV0, s0, s1, s2, s3, s4, s5, s6, s7, s8, s9, s10, s11, s12, s13, s14, s15, s16, s17, s18, s19, s20⟩ := hSW; go_simp; try with_reducible rfl)
                try simp only [Act.put, List.getElem_toArray, List.getElem_cons_zero, List.getElem_cons_succ, List.setIfInBounds_toArray, List.set_cons_zero, List.set_cons_succ]
                refine wpAnyL_take (i := 28) (v := ?v20083) rfl (by kernel_rfl) (by kernel_rfl) (by kernel_rfl) (by kernel_rfl) (fun _ _ _ h => h) (Or.inl ⟨by kernel_rfl, ?hy20083⟩) (by assumption) ?r20083
                case hy20083 => (intro W hSW; obtain ⟨hV0, s0, s1, s2, s3, s4, s5, s6, s7, s8, s9, s10, s11, s12, s13, s14, s15, s16, s17, s18, s19, s20⟩ := hSW; go_simp; try with_reducible rfl)
                try simp only [Act.put, List.getElem_toArray, List.getElem_cons_zero, List.getElem_cons_succ, List.setIfInBounds_toArray, List.set_cons_zero, List.set_cons_succ]
                refine wpAnyL_take (i := 29) (v := ?v20084) rfl (by kernel_rfl) (by kernel_rfl) (by kernel_rfl) (by kernel_rfl) (fun _ _ _ h => h) (Or.inl ⟨by kernel_rfl, ?hy20084⟩) (by assumption) ?r20084
                case hy20084 => (intro W hSW; obtain ⟨hV0, s0, s1, s2, s3, s4, s5, s6, s7, s8, s9, s10, s11, s12, s13, s14, s15, s16, s17, s18, s19, s20⟩ := hSW; go_simp; try with_reducible rfl)
                try simp only [Act.put, List.getElem_toArray, List.getElem_cons_zero, List.getElem_cons_succ, List.setIfInBounds_toArray, List.set_cons_zero, List.set_cons_succ]
                refine wpAnyL_take (i := 30) (v := ?v20085) rfl (by kernel_rfl) (by kernel_rfl) (by kernel_rfl) (by kernel_rfl) (fun _ _ _ h => h) (Or.inl ⟨by kernel_rfl, ?hy20085⟩) (by assumption) ?r20085
                case hy20085 => (intro W hSW; obtain ⟨hV0, s0, s1, s2, s3, s4, s5, s6, s7, s8, s9, s10, s11, s12, s13, s14, s15, s16, s17, s18, s19, s20⟩ := hSW; go_simp; try with_reducible rfl)
                try simp only [Act.put, List.getElem_toArray, List.getElem_cons_zero, List.getElem_cons_succ, List.setIfInBounds_toArray, List.set_cons_zero, List.set_cons_succ]
                refine wpAnyL_take (i := 31) (v := ?v20086) rfl (by kernel_rfl) (by kernel_rfl) (by kernel_rfl) (by kernel_rfl) (fun _ _ _ h => h) (Or.inl ⟨by kernel_rfl, ?hy20086⟩) (by assumption) ?r20086
                case hy20086 => (intro W hSW; obtain ⟨hV0, s0, s1, s2, s3, s4, s5, s6, s7, s8, s9, s10, s11, s12, s13, s14, s15, s16, s17, s18, s19, s20⟩ := hSW; go_simp; try with_reducible rfl)
                try simp only [Act.put, List.getElem_toArray, List.getElem_cons_zero, List.getElem_cons_succ, List.setIfInBounds_toArray, List.set_cons_zero, List.set_cons_succ]
                refine wpAnyL_take (i := 32) (v := ?v20087) rfl (by kernel_rfl) (by kernel_rfl) (by kernel_rfl) (by kernel_rfl) (fun _ _ _ h => h) (Or.inl ⟨by kernel_rfl, ?hy20087⟩) (by assumption) ?r20087
                case hy20087 => (intro W hSW; obtain ⟨hV0, s0, s1, s2, s3, s4, s5, s6, s7, s8, s9, s10, s11, s12, s13, s14, s15, s16, s17, s18, s19, s20⟩ := hSW; go_simp; try with_reducible rfl)
                try simp only [Act.put, List.getElem_toArray, List.getElem_cons_zero, List.getElem_cons_succ, List.setIfInBounds_toArray, List.set_cons_zero, List.set_cons_succ]
                refine wpAnyL_take (i := 33) (v := ?v20088) rfl (by kernel_rfl) (by kernel_rfl) (by kernel_rfl) (by kernel_rfl) (fun _ _ _ h => h) (Or.inl ⟨by kernel_rfl, ?hy20088⟩) (by assumption) ?r20088
                case hy20088 => (intro W hSW; obtain ⟨hV0, s0, s1, s2, s3, s4, s5, s6, s7, s8, s9, s10, s11, s12, s13, s14, s15, s16, s17, s18, s19, s20⟩ := hSW; go_simp; try with_reducible rfl)
                try simp only [Act.put, List.getElem_toArray, List.getElem_cons_zero, List.getElem_cons_succ, List.setIfInBounds_toArray, List.set_cons_zero, List.set_cons_succ]
                refine wpAnyL_take (i := 34) (v := ?v20089) rfl (by kernel_rfl) (by kernel_rfl) (by kernel_rfl) (by kernel_rfl) (fun _ _ _ h => h) (Or.inl ⟨by kernel_rfl, ?hy20089⟩) (by assumption) ?r20089
                case hy20089 => (intro W hSW; obtain ⟨hV0, s0, s1, s2, s3, s4, s5, s6, s7, s8, s9, s10, s11, s12, s13, s14, s15, s16, s17, s18, s19, s20⟩ := hSW; go_simp; try with_reducible rfl)
                try simp only [Act.put, List.getElem_toArray, List.getElem_cons_zero, List.getElem_cons_succ, List.setIfInBounds_toArray, List.set_cons_zero, List.set_cons_succ]
                as_aux_lemma =>
                refine wpAnyL_take (i := 35) (v := ?v20090) rfl (by kernel_rfl) (by kernel_rfl) (by kernel_rfl) (by kernel_rfl) (fun _ _ _ h => h) (Or.inl ⟨by kernel_rfl, ?hy20090⟩) (by assumption) ?r20090
                case hy20090 => (intro W hSW; obtain ⟨hV0, s0, s1, s2, s3, s4, s5, s6, s7, s8, s9, s10, s11, s12, s13, s14, s15, s16, s17, s18, s19, s20⟩ := hSW; go_simp; try with_reducible rfl)
                try simp only [Act.put, List.getElem_toArray, List.getElem_cons_zero, List.getElem_cons_succ, List.setIfInBounds_toArray, List.set_cons_zero, List.set_cons_succ]
                refine wpAnyL_take (i := 36) (v := ?v20091) rfl (by kernel_rfl) (by kernel_rfl) (by kernel_rfl) (by kernel_rfl) (fun _ _ _ h => h) (Or.inl ⟨by kernel_rfl, ?hy20091⟩) (by assumption) ?r20091
                case hy20091 => (intro W hSW; obtain ⟨hV0, s0, s1, s2, s3, s4, s5, s6, s7, s8, s9, s10, s11, s12, s13, s14, s15, s16, s17, s18, s19, s20⟩ := hSW; go_simp; try with_reducible rfl)
                try simp only [Act.put, List.getElem_toArray, List.getElem_cons_zero, List.getElem_cons_succ, List.setIfInBounds_toArray, List.set_cons_zero, List.set_cons_succ]
                refine wpAnyL_take (i := 37) (v := ?v20092) rfl (by kernel_rfl) (by kernel_rfl) (by kernel_rfl) (by kernel_rfl) (fun _ _ _ h => h) (Or.inl ⟨by kernel_rfl, ?hy20092⟩) (by assumption) ?r20092
                case hy20092 => (intro W hSW; obtain ⟨hV0, s0, s1, s2, s3, s4, s5, s6, s7, s8, s9, s10, s11, s12, s13, s14, s15, s16, s17, s18, s19, s20⟩ := hSW; go_simp; try with_reducible rfl)
                try simp only [Act.put, List.getElem_toArray, List.getElem_cons_zero, List.getElem_cons_succ, List.setIfInBounds_toArray, List.set_cons_zero, List.set_cons_succ]
                refine wpAnyL_take (i := 38) (v := ?v20093) rfl (by kernel_rfl) (by kernel_rfl) (by kernel_rfl) (by kernel_rfl) (fun _ _ _ h => h) (Or.inl ⟨by kernel_rfl, ?hy20093⟩) (by assumption) ?r20093
                case hy20093 => (intro W hSW; obtain ⟨hV0, s0, s1, s2, s3, s4, s5, s6, s7, s8, s9, s10, s11, s12, s13, s14, s15, s16, s17, s18, s19, s20⟩ := hSW; go_simp; try with_reducible rfl)
                try simp only [Act.put, List.getElem_toArray, List.getElem_cons_zero, List.getElem_cons_succ, List.setIfInBounds_toArray, List.set_cons_zero, List.set_cons_succ]
                refine wpAnyL_take (i := 39) (v := ?v20094) rfl (by kernel_rfl) (by kernel_rfl) (by kernel_rfl) (by kernel_rfl) (fun _ _ _ h => h) (Or.inl ⟨by kernel_rfl, ?hy20094⟩) (by assumption) ?r20094
                case hy20094 => (intro W hSW; obtain ⟨hV0, s0, s1, s2, s3, s4, s5, s6, s7, s8, s9, s10, s11, s12, s13, s14, s15, s16, s17, s18, s19, s20⟩ := hSW; go_simp; try with_reducible rfl)
                try simp only [Act.put, List.getElem_toArray, List.getElem_cons_zero, List.getElem_cons_succ, List.setIfInBounds_toArray, List.set_cons_zero, List.set_cons_succ]
                refine wpAnyL_take (i := 40) (v := ?v20095) rfl (by kernel_rfl) (by kernel_rfl) (by kernel_rfl) (by kernel_rfl) (fun _ _ _ h => h) (Or.inl ⟨by kernel_rfl, ?hy20095⟩) (by assumption) ?r20095
                case hy20095 => (intro W hSW; obtain ⟨hV0, s0, s1, s2, s3, s4, s5, s6, s7, s8, s9, s10, s11, s12, s13, s14, s15, s16, s17, s18, s19, s20⟩ := hSW; go_simp; try with_reducible rfl)
                try simp only [Act.put, List.getElem_toArray, List.getElem_cons_zero, List.getElem_cons_succ, List.setIfInBounds_toArray, List.set_cons_zero, List.set_cons_succ]
                refine wpAnyL_take (i := 41) (v := ?v20096) rfl (by kernel_rfl) (by kernel_rfl) (by kernel_rfl) (by kernel_rfl) (fun _ _ _ h => h) (Or.inl ⟨by kernel_rfl, ?hy20096⟩) (by assumption) ?r20096
                case hy20096 => (intro W hSW; obtain ⟨hV0, s0, s1, s2, s3, s4, s5, s6, s7, s8, s9, s10, s11, s12, s13, s14, s15, s16, s17, s18, s19, s20⟩ := hSW; go_simp; try with_reducible rfl)
                try simp only [Act.put, List.getElem_toArray, List.getElem_cons_zero, List.getElem_cons_succ, List.setIfInBounds_toArray, List.set_cons_zero, List.set_cons_succ]
                refine wpAnyL_take (i := 42) (v := ?v20097) rfl (by kernel_rfl) (by kernel_rfl) (by kernel_rfl) (by kernel_rfl) (fun _ _ _ h => h) (Or.inl ⟨by kernel_rfl, ?hy20097⟩) (by assumption) ?r20097
                case hy20097 => (intro W hSW; obtain ⟨hV0, s0, s1, s2, s3, s4, s5, s6, s7, s8, s9, s10, s11, s12, s13, s14, s15, s16, s17, s18, s19, s20⟩ := hSW; go_simp; try with_reducible rfl)
                try simp only [Act.put, List.getElem_toArray, List.getElem_cons_zero, List.getElem_cons_succ, List.setIfInBounds_toArray, List.set_cons_zero, List.set_cons_succ]
                refine wpAnyL_take (i := 43) (v := ?v20098) rfl (by kernel_rfl) (by kernel_rfl) (by kernel_rfl) (by kernel_rfl) (fun _ _ _ h => h) (Or.inl ⟨by kernel_rfl, ?hy20098⟩) (by assumption) ?r20098
                case hy20098 => (intro W hSW; obtain ⟨hV0, s0, s1, s2, s3, s4, s5, s6, s7, s8, s9, s10, s11, s12, s13, s14, s15, s16, s17, s18, s19, s20⟩ := hSW; go_simp; try with_reducible rfl)
                try simp only [Act.put, List.getElem_toArray, List.getElem_cons_zero, List.getElem_cons_succ, List.setIfInBounds_toArray, List.set_cons_zero, List.set_cons_succ]
                as_aux_lemma =>
                refine wpAnyL_take (i := 44) (v := ?v20099) rfl (by kernel_rfl) (by kernel_rfl) (by kernel_rfl) (by kernel_rfl) (fun _ _ _ h => h) (Or.inl ⟨by kernel_rfl, ?hy20099⟩) (by assumption) ?r20099
                case hy20099 => (intro W hSW; obtain ⟨hV0, s0, s1, s2, s3, s4, s5, s6, s7, s8, s9, s10, s11, s12, s13, s14, s15, s16, s17, s18, s19, s20⟩ := hSW; go_simp; try with_reducible rfl)
                try simp only [Act.put, List.getElem_toArray, List.getElem_cons_zero, List.getElem_cons_succ, List.setIfInBounds_toArray, List.set_cons_zero, List.set_cons_succ]
                refine wpAnyL_take (i := 45) (v := ?v20100) rfl (by kernel_rfl) (by kernel_rfl) (by kernel_rfl) (by kernel_rfl) (fun _ _ _ h => h) (Or.inl ⟨by kernel_rfl, ?hy20100⟩) (by assumption) ?r20100
                case hy20100 => (intro W hSW; obtain ⟨hV0, s0, s1, s2, s3, s4, s5, s6, s7, s8, s9, s10, s11, s12, s13, s14, s15, s16, s17, s18, s19, s20⟩ := hSW; go_simp; try with_reducible rfl)
                try simp only [Act.put, List.getElem_toArray, List.getElem_cons_zero, List.getElem_cons_succ, List.setIfInBounds_toArray, List.set_cons_zero, List.set_cons_succ]
                refine wpAnyL_take (i := 46) (v := ?v20101) rfl (by kernel_rfl) (by kernel_rfl) (by kernel_rfl) (by kernel_rfl) (fun _ _ _ h => h) (Or.inl ⟨by kernel_rfl, ?hy20101⟩) (by assumption) ?r20101
                case hy20101 => (intro W hSW; obtain ⟨hV0, s0, s1, s2, s3, s4, s5, s6, s7, s8, s9, s10, s11, s12, s13, s14, s15, s16, s17, s18, s19, s20⟩ := hSW; go_simp; try with_reducible rfl)
                try simp only [Act.put, List.getElem_toArray, List.getElem_cons_zero, List.getElem_cons_succ, List.setIfInBounds_toArray, List.set_cons_zero, List.set_cons_succ]
                refine wpAnyL_take (i := 47) (v := ?v20102) rfl (by kernel_rfl) (by kernel_rfl) (by kernel_rfl) (by kernel_rfl) (fun _ _ _ h => h) (Or.inl ⟨by kernel_rfl, ?hy20102⟩) (by assumption) ?r20102
                case hy20102 => (intro W hSW; obtain ⟨hV0, s0, s1, s2, s3, s4, s5, s6, s7, s8, s9, s10, s11, s12, s13, s14, s15, s16, s17, s18, s19, s20⟩ := hSW; go_simp; try with_reducible rfl)
                try simp only [Act.put, List.getElem_toArray, List.getElem_cons_zero, List.getElem_cons_succ, List.setIfInBounds_toArray, List.set_cons_zero, List.set_cons_succ]
                refine wpAnyL_take (i := 48) (v := ?v20103) rfl (by kernel_rfl) (by kernel_rfl) (by kernel_rfl) (by kernel_rfl) (fun _ _ _ h => h) (Or.inl ⟨by kernel_rfl, ?hy20103⟩) (by assumption) ?r20103
                case hy20103 => (intro W hSW; obtain ⟨hV0, s0, s1, s2, s3, s4, s5, s6, s7, s8, s9, s10, s11, s12, s13, s14, s15, s16, s17, s18, s19, s20⟩ := hSW; go_simp; try with_reducible rfl)
                try simp only [Act.put, List.getElem_toArray, List.getElem_cons_zero, List.getElem_cons_succ, List.setIfInBounds_toArray, List.set_cons_zero, List.set_cons_succ]
                refine wpAnyL_take (i := 49) (v := ?v20104) rfl (by kernel_rfl) (by kernel_rfl) (by kernel_rfl) (by kernel_rfl) (fun _ _ _ h => h) (Or.inl ⟨by kernel_rfl, ?hy20104⟩) (by assumption) ?r20104
                case hy20104 => (intro W hSW; obtain ⟨hV0, s0, s1, s2, s3, s4, s5, s6, s7, s8, s9, s10, s11, s12, s13, s14, s15, s16, s17, s18, s19, s20⟩ := hSW; go_simp; try with_reducible rfl)
                try simp only [Act.put, List.getElem_toArray, List.getElem_cons_zero, List.getElem_cons_succ, List.setIfInBounds_toArray, List.set_cons_zero, List.set_cons_succ]
                refine wpAnyL_take (i := 50) (v := ?v20105) rfl (by kernel_rfl) (by kernel_rfl) (by kernel_rfl) (by kernel_rfl) (fun _ _ _ h => h) (Or.inl ⟨by kernel_rfl, ?hy20105⟩) (by assumption) ?r20105
                case hy20105 => (intro W hSW; obtain ⟨hV0, s0, s1, s2, s3, s4, s5, s6, s7, s8, s9, s10, s11, s12, s13, s14, s15, s16, s17, s18, s19, s20⟩ := hSW; go_simp; try with_reducible rfl)
                try simp only [Act.put, List.getElem_toArray, List.getElem_cons_zero, List.getElem_cons_succ, List.setIfInBounds_toArray, List.set_cons_zero, List.set_cons_succ]
                refine wpAnyL_take (i := 51) (v := ?v20106) rfl (by kernel_rfl) (by kernel_rfl) (by kernel_rfl) (by kernel_rfl) (fun _ _ _ h => h) (Or.inl ⟨by kernel_rfl, ?hy20106⟩) (by assumption) ?r20106
                case hy20106 => (intro W hSW; obtain ⟨hV0, s0, s1, s2, s3, s4, s5, s6, s7, s8, s9, s10, s11, s12, s13, s14, s15, s16, s17, s18, s19, s20⟩ := hSW; go_simp; try with_reducible rfl)
                try simp only [Act.put, List.getElem_toArray, List.getElem_cons_zero, List.getElem_cons_succ, List.setIfInBounds_toArray, List.set_cons_zero, List.set_cons_succ]
                refine wpAnyL_take (i := 52) (v := ?v20107) rfl (by kernel_rfl) (by kernel_rfl) (by kernel_rfl) (by kernel_rfl) (fun _ _ _ h => h) (Or.inl ⟨by kernel_rfl, ?hy20107⟩) (by assumption) ?r20107
                case hy20107 => (intro W hSW; obtain ⟨hV0, s0, s1, s2, s3, s4, s5, s6, s7, s8, s9, s10, s11, s12, s13, s14, s15, s16, s17, s18, s19, s20⟩ := hSW; go_simp; try with_reducible rfl)
                try simp only [Act.put, List.getElem_toArray, List.getElem_cons_zero, List.getElem_cons_succ, List.setIfInBounds_toArray, List.set_cons_zero, List.set_cons_succ]
                as_aux_lemma =>
                refine wpAnyL_take (i := 53) (v := ?v20108) rfl (by kernel_rfl) (by kernel_rfl) (by kernel_rfl) (by kernel_rfl) (fun _ _ _ h => h) (Or.inl ⟨by kernel_rfl, ?hy20108⟩) (by assumption) ?r20108
                case hy20108 => (intro W hSW; obtain ⟨hV0, s0, s1, s2, s3, s4, s5, s6, s7, s8, s9, s10, s11, s12, s13, s14, s15, s16, s17, s18, s19, s20⟩ := hSW; go_simp; try with_reducible rfl)
                try simp only [Act.put, List.getElem_toArray, List.getElem_cons_zero, List.getElem_cons_succ, List.setIfInBounds_toArray, List.set_cons_zero, List.set_cons_succ]
                refine wpAnyL_take (i := 54) (v := ?v20109) rfl (by kernel_rfl) (by kernel_rfl) (by kernel_rfl) (by kernel_rfl) (fun _ _ _ h => h) (Or.inl ⟨by kernel_rfl, ?hy20109⟩) (by assumption) ?r20109
                case hy20109 => (intro W hSW; obtain ⟨hV0, s0, s1, s2, s3, s4, s5, s6, s7, s8, s9, s10, s11, s12, s13, s14, s15, s16, s17, s18, s19, s20⟩ := hSW; go_simp; try with_reducible rfl)
                try simp only [Act.put, List.getElem_toArray, List.getElem_cons_zero, List.getElem_cons_succ, List.setIfInBounds_toArray, List.set_cons_zero, List.set_cons_succ]
                refine wpAnyL_take (i := 55) (v := ?v20110) rfl (by kernel_rfl) (by kernel_rfl) (by kernel_rfl) (by kernel_rfl) (fun _ _ _ h => h) (Or.inl ⟨by kernel_rfl, ?hy20110⟩) (by assumption) ?r20110
                case hy20110 => (intro W hSW; obtain ⟨hV0, s0, s1, s2, s3, s4, s5, s6, s7, s8, s9, s10, s11, s12, s13, s14, s15, s16, s17, s18, s19, s20⟩ := hSW; go_simp; try with_reducible rfl)
                try simp only [Act.put, List.getElem_toArray, List.getElem_cons_zero, List.getElem_cons_succ, List.setIfInBounds_toArray, List.set_cons_zero, List.set_cons_succ]
                refine wpAnyL_take (i := 56) (v := ?v20111) rfl (by kernel_rfl) (by kernel_rfl) (by kernel_rfl) (by kernel_rfl) (fun _ _ _ h => h) (Or.inl ⟨by kernel_rfl, ?hy20111⟩) (by assumption) ?r20111
                case hy20111 => (intro W hSW; obtain ⟨hV0, s0, s1, s2, s3, s4, s5, s6, s7, s8, s9, s10, s11, s12, s13, s14, s15, s16, s17, s18, s19, s20⟩ := hSW; go_simp; try with_reducible rfl)
                try simp only [Act.put, List.getElem_toArray, List.getElem_cons_zero, List.getElem_cons_succ, List.setIfInBounds_toArray, List.set_cons_zero, List.set_cons_succ]
                refine wpAnyL_take (i := 57) (v := ?v20112) rfl (by kernel_rfl) (by kernel_rfl) (by kernel_rfl) (by kernel_rfl) (fun _ _ _ h => h) (Or.inl ⟨by kernel_rfl, ?hy20112⟩) (by assumption) ?r20112
                case hy20112 => (intro W hSW; obtain ⟨hV0, s0, s1, s2, s3, s4, s5, s6, s7, s8, s9, s10, s11, s12, s13, s14, s15, s16, s17, s18, s19, s20⟩ := hSW; go_simp; try with_reducible rfl)
                try simp only [Act.put, List.getElem_toArray, List.getElem_cons_zero, List.getElem_cons_succ, List.setIfInBounds_toArray, List.set_cons_zero, List.set_cons_succ]
                refine wpAnyL_take (i := 58) (v := ?v20113) rfl (by kernel_rfl) (by kernel_rfl) (by kernel_rfl) (by kernel_rfl) (fun _ _ _ h => h) (Or.inl ⟨by kernel_rfl, ?hy20113⟩) (by assumption) ?r20113
                case hy20113 => (intro W hSW; obtain ⟨hV0, s0, s1, s2, s3, s4, s5, s6, s7, s8, s9, s10, s11, s12, s13, s14, s15, s16, s17, s18, s19, s20⟩ := hSW; go_simp; try with_reducible rfl)
                try simp only [Act.put, List.getElem_toArray, List.getElem_cons_zero, List.getElem_cons_succ, List.setIfInBounds_toArray, List.set_cons_zero, List.set_cons_succ]
                refine wpAnyL_take (i := 59) (v := ?v20114) rfl (by kernel_rfl) (by kernel_rfl) (by kernel_rfl) (by kernel_rfl) (fun _ _ _ h => h) (Or.inl ⟨by kernel_rfl, ?hy20114⟩) (by assumption) ?r20114
                case hy20114 => (intro W hSW; obtain ⟨hV0, s0, s1, s2, s3, s4, s5, s6, s7, s8, s9, s10, s11, s12, s13, s14, s15, s16, s17, s18, s19, s20⟩ := hSW; go_simp; try with_reducible rfl)
                try simp only [Act.put, List.getElem_toArray, List.getElem_cons_zero, List.getElem_cons_succ, List.setIfInBounds_toArray, List.set_cons_zero, List.set_cons_succ]
                refine wpAnyL_take (i := 60) (v := ?v20115) rfl (by kernel_rfl) (by kernel_rfl) (by kernel_rfl) (by kernel_rfl) (fun _ _ _ h => h) (Or.inl ⟨by kernel_rfl, ?hy20115⟩) (by assumption) ?r20115
                case hy20115 => (intro W hSW; obtain ⟨hV0, s0, s1, s2, s3, s4, s5, s6, s7, s8, s9, s10, s11, s12, s13, s14, s15, s16, s17, s18, s19, s20⟩ := hSW; go_simp; try with_reducible rfl)
                try simp only [Act.put, List.getElem_toArray, List.getElem_cons_zero, List.getElem_cons_succ, List.setIfInBounds_toArray, List.set_cons_zero, List.set_cons_succ]
                refine wpAnyL_take (i := 61) (v := ?v20116) rfl (by kernel_rfl) (by kernel_rfl) (by kernel_rfl) (by kernel_rfl) (fun _ _ _ h => h) (Or.inl ⟨by kernel_rfl, ?hy20116⟩) (by assumption) ?r20116
                case hy20116 => (intro W hSW; obtain ⟨hV0, s0, s1, s2, s3, s4, s5, s6, s7, s8, s9, s10, s11, s12, s13, s14, s15, s16, s17, s18, s19, s20⟩ := hSW; go_simp; try with_reducible rfl)
                try simp only [Act.put, List.getElem_toArray, List.getElem_cons_zero, List.getElem_cons_succ, List.setIfInBounds_toArray, List.set_cons_zero, List.set_cons_succ]
                as_aux_lemma =>
                refine wpAnyL_take (i := 62) (v := ?v20117) rfl (by kernel_rfl) (by kernel_rfl) (by kernel_rfl) (by kernel_rfl) (fun _ _ _ h => h) (Or.inl ⟨by kernel_rfl, ?hy20117⟩) (by assumption) ?r20117
                case hy20117 => (intro W hSW; obtain ⟨hV0, s0, s1, s2, s3, s4, s5, s6, s7, s8, s9, s10, s11, s12, s13, s14, s15, s16, s17, s18, s19, s20⟩ := hSW; go_simp; try with_reducible rfl)
                try simp only [Act.put, List.getElem_toArray, List.getElem_cons_zero, List.getElem_cons_succ, List.setIfInBounds_toArray, List.set_cons_zero, List.set_cons_succ]
                refine wpAnyL_take (i := 63) (v := ?v20118) rfl (by kernel_rfl) (by kernel_rfl) (by kernel_rfl) (by kernel_rfl) (fun _ _ _ h => h) (Or.inl ⟨by kernel_rfl, ?hy20118⟩) (by assumption) ?r20118
                case hy20118 => (intro W hSW; obtain ⟨hV0, s0, s1, s2, s3, s4, s5, s6, s7, s8, s9, s10, s11, s12, s13, s14, s15, s16, s17, s18, s19, s20⟩ := hSW; go_simp; try with_reducible rfl)
                try simp only [Act.put, List.getElem_toArray, List.getElem_cons_zero, List.getElem_cons_succ, List.setIfInBounds_toArray, List.set_cons_zero, List.set_cons_succ]
                refine wpAnyL_take (i := 64) (v := ?v20119) rfl (by kernel_rfl) (by kernel_rfl) (by kernel_rfl) (by kernel_rfl) (fun _ _ _ h => h) (Or.inl ⟨by kernel_rfl, ?hy20119⟩) (by assumption) ?r20119
                case hy20119 => (intro W hSW; obtain ⟨hV0, s0, s1, s2, s3, s4, s5, s6, s7, s8, s9, s10, s11, s12, s13, s14, s15, s16, s17, s18, s19, s20⟩ := hSW; go_simp; try with_reducible rfl)
                try simp only [Act.put, List.getElem_toArray, List.getElem_cons_zero, List.getElem_cons_succ, List.setIfInBounds_toArray, List.set_cons_zero, List.set_cons_succ]
                refine wpAnyL_take (i := 65) (v := ?v20120) rfl (by kernel_rfl) (by kernel_rfl) (by kernel_rfl) (by kernel_rfl) (fun _ _ _ h => h) (Or.inl ⟨by kernel_rfl, ?hy20120⟩) (by assumption) ?r20120
                case hy20120 => (intro W hSW; obtain ⟨hV0, s0, s1, s2, s3, s4, s5, s6, s7, s8, s9, s10, s11, s12, s13, s14, s15, s16, s17, s18, s19, s20⟩ := hSW; go_simp; try with_reducible rfl)
                try simp only [Act.put, List.getElem_toArray, List.getElem_cons_zero, List.getElem_cons_succ, List.setIfInBounds_toArray, List.set_cons_zero, List.set_cons_succ]
                refine wpAnyL_take (i := 66) (v := ?v20121) rfl (by kernel_rfl) (by kernel_rfl) (by kernel_rfl) (by kernel_rfl) (fun _ _ _ h => h) (Or.inl ⟨by kernel_rfl, ?hy20121⟩) (by assumption) ?r20121
                case hy20121 => (intro W hSW; obtain ⟨hV0, s0, s1, s2, s3, s4, s5, s6, s7, s8, s9, s10, s11, s12, s13, s14, s15, s16, s17, s18, s19, s20⟩ := hSW; go_simp; try with_reducible rfl)
                try simp only [Act.put, List.getElem_toArray, List.getElem_cons_zero, List.getElem_cons_succ, List.setIfInBounds_toArray, List.set_cons_zero, List.set_cons_succ]
                refine wpAnyL_take (i := 67) (v := ?v20122) rfl (by kernel_rfl) (by kernel_rfl) (by kernel_rfl) (by kernel_rfl) (fun _ _ _ h => h) (Or.inl ⟨by kernel_rfl, ?hy20122⟩) (by assumption) ?r20122
                case hy20122 => (intro W hSW; obtain ⟨hV0, s0, s1, s2, s3, s4, s5, s6, s7, s8, s9, s10, s11, s12, s13, s14, s15, s16, s17, s18, s19, s20⟩ := hSW; go_simp; try with_reducible rfl)
                try simp only [Act.put, List.getElem_toArray, List.getElem_cons_zero, List.getElem_cons_succ, List.setIfInBounds_toArray, List.set_cons_zero, List.set_cons_succ]
                refine wpAnyL_take (i := 68) (v := ?v20123) rfl (by kernel_rfl) (by kernel_rfl) (by kernel_rfl) (by kernel_rfl) (fun _ _ _ h => h) (Or.inl ⟨by kernel_rfl, ?hy20123⟩) (by assumption) ?r20123
                case hy20123 => (intro W hSW; obtain ⟨hV0, s0, s1, s2, s3, s4, s5, s6, s7, s8, s9, s10, s11, s12, s13, s14, s15, s16, s17, s18, s19, s20⟩ := hSW; go_simp; try with_reducible rfl)
                try simp only [Act.put, List.getElem_toArray, List.getElem_cons_zero, List.getElem_cons_succ, List.setIfInBounds_toArray, List.set_cons_zero, List.set_cons_succ]
                refine wpAnyL_take (i := 69) (v := ?v20124) rfl (by kernel_rfl) (by kernel_rfl) (by kernel_rfl) (by kernel_rfl) (fun _ _ _ h => h) (Or.inl ⟨by kernel_rfl, ?hy20124⟩) (by assumption) ?r20124
                case hy20124 => (intro W hSW; obtain ⟨hV0, s0, s1, s2, s3, s4, s5, s6, s7, s8, s9, s10, s11, s12, s13, s14, s15, s16, s17, s18, s19, s20⟩ := hSW; go_simp; try with_reducible rfl)
                try simp only [Act.put, List.getElem_toArray, List.getElem_cons_zero, List.getElem_cons_succ, List.setIfInBounds_toArray, List.set_cons_zero, List.set_cons_succ]
                refine wpAnyL_take (i := 70) (v := ?v20125) rfl (by kernel_rfl) (by kernel_rfl) (by kernel_rfl) (by kernel_rfl) (fun _ _ _ h => h) (Or.inl ⟨by kernel_rfl, ?hy20125⟩) (by assumption) ?r20125
                case hy20125 => (intro W hSW; obtain ⟨hV0, s0, s1, s2, s3, s4, s5, s6, s7, s8, s9, s10, s11, s12, s13, s14, s15, s16, s17, s18, s19, s20⟩ := hSW; go_simp; try with_reducible rfl)
                try simp only [Act.put, List.getElem_toArray, List.getElem_cons_zero, List.getElem_cons_succ, List.setIfInBounds_toArray, List.set_cons_zero, List.set_cons_succ]
                as_aux_lemma =>
                refine wpAnyL_take (i := 71) (v := ?v20126) rfl (by kernel_rfl) (by kernel_rfl) (by kernel_rfl) (by kernel_rfl) (fun _ _ _ h => h) (Or.inl ⟨by kernel_rfl, ?hy20126⟩) (by assumption) ?r20126
                case hy20126 => (intro W hSW; obtain ⟨hV0, s0, s1, s2, s3, s4, s5, s6, s7, s8, s9, s10, s11, s12, s13, s14, s15, s16, s17, s18, s19, s20⟩ := hSW; go_simp; try with_reducible rfl)
                try simp only [Act.put, List.getElem_toArray, List.getElem_cons_zero, List.getElem_cons_succ, List.setIfInBounds_toArray, List.set_cons_zero, List.set_cons_succ]
                refine wpAnyL_take (i := 72) (v := ?v20127) rfl (by kernel_rfl) (by kernel_rfl) (by kernel_rfl) (by kernel_rfl) (fun _ _ _ h => h) (Or.inl ⟨by kernel_rfl, ?hy20127⟩) (by assumption) ?r20127
                case hy20127 => (intro W hSW; obtain ⟨hV0, s0, s1, s2, s3, s4, s5, s6, s7, s8, s9, s10, s11, s12, s13, s14, s15, s16, s17, s18, s19, s20⟩ := hSW; go_simp; try with_reducible rfl)
                try simp only [Act.put, List.getElem_toArray, List.getElem_cons_zero, List.getElem_cons_succ, List.setIfInBounds_toArray, List.set_cons_zero, List.set_cons_succ]
                refine wpAnyL_take (i := 73) (v := ?v20128) rfl (by kernel_rfl) (by kernel_rfl) (by kernel_rfl) (by kernel_rfl) (fun _ _ _ h => h) (Or.inl ⟨by kernel_rfl, ?hy20128⟩) (by assumption) ?r20128
                case hy20128 => (intro W hSW; obtain ⟨hV0, s0, s1, s2, s3, s4, s5, s6, s7, s8, s9, s10, s11, s12, s13, s14, s15, s16, s17, s18, s19, s20⟩ := hSW; go_simp; try with_reducible rfl)
                try simp only [Act.put, List.getElem_toArray, List.getElem_cons_zero, List.getElem_cons_succ, List.setIfInBounds_toArray, List.set_cons_zero, List.set_cons_succ]
                refine wpAnyL_take (i := 74) (v := ?v20129) rfl (by kernel_rfl) (by kernel_rfl) (by kernel_rfl) (by kernel_rfl) (fun _ _ _ h => h) (Or.inl ⟨by kernel_rfl, ?hy20129⟩) (by assumption) ?r20129
                case hy20129 => (intro W hSW; obtain ⟨hV0, s0, s1, s2, s3, s4, s5, s6, s7, s8, s9, s10, s11, s12, s13, s14, s15, s16, s17, s18, s19, s20⟩ := hSW; go_simp; try with_reducible rfl)
                try simp only [Act.put, List.getElem_toArray, List.getElem_cons_zero, List.getElem_cons_succ, List.setIfInBounds_toArray, List.set_cons_zero, List.set_cons_succ]
                refine wpAnyL_take (i := 75) (v := ?v20130) rfl (by kernel_rfl) (by kernel_rfl) (by kernel_rfl) (by kernel_rfl) (fun _ _ _ h => h) (Or.inl ⟨by kernel_rfl, ?hy20130⟩) (by assumption) ?r20130
                case hy20130 => (intro W hSW; obtain ⟨hV0, s0, s1, s2, s3, s4, s5, s6, s7, s8, s9, s10, s11, s12, s13, s14, s15, s16, s17, s18, s19, s20⟩ := hSW; go_simp; try with_reducible rfl)
                try simp only [Act.put, List.getElem_toArray, List.getElem_cons_zero, List.getElem_cons_succ, List.setIfInBounds_toArray, List.set_cons_zero, List.set_cons_succ]
                refine wpAnyL_take (i := 76) (v := ?v20131) rfl (by kernel_rfl) (by kernel_rfl) (by kernel_rfl) (by kernel_rfl) (fun _ _ _ h => h) (Or.inl ⟨by kernel_rfl, ?hy20131⟩) (by assumption) ?r20131
                case hy20131 => (intro W hSW; obtain ⟨hV0, s0, s1, s2, s3, s4, s5, s6, s7, s8, s9, s10, s11, s12, s13, s14, s15, s16, s17, s18, s19, s20⟩ := hSW; go_simp; try with_reducible rfl)
                try simp only [Act.put, List.getElem_toArray, List.getElem_cons_zero, List.getElem_cons_succ, List.setIfInBounds_toArray, List.set_cons_zero, List.set_cons_succ]
                refine wpAnyL_last (by kernel_rfl) rfl (fun K hK => ?_)
                go_simp
                refine hK.out _ _ ?_
                clear hK K
                try simp only [Act.put, List.getElem_toArray, List.getElem_cons_zero, List.getElem_cons_succ, List.setIfInBounds_toArray, List.set_cons_zero, List.set_cons_succ]
                refine wpAnyL_done (by kernel_rfl) ?_ _
                refine NoPanic.normal ?_
                have hV := hH.1
                clear hH HS p6 d0 d1 d2 d3 d4 d5 d6 d7 d8 d9 e0 e1 e2 e3 e4 e5 e6 e7 e8 e9
                go_wp2
                go_roundw
                case rel => exact ⟨p + 1, by go_num, by omega, hb.trans (hV.mono hb.size)⟩
                case measure => simp [intOf]; omega
              · have u2 : (x.client == y.client) = false := by simpa using he
                clear he hl2
                as_aux_lemma =>
                go_upto_region 21 with fail
                refine wp_region_noPanic ?_
                refine wp_region_l 77 (fun V : World => Below wr.heap.size wr V ∧ V.cell? ⟨b6, o6 + q, none⟩ = some (.slice (some ⟨bx, ox, none⟩) X.l.length X.c) ∧ V.cell? ⟨bx, ox + p * 10, none⟩ = some (i64 x.client) ∧ V.cell? ⟨bx, ox + p * 10 + 1, none⟩ = some (i64 x.seq) ∧ V.cell? ⟨bx, ox + p * 10 + 2, none⟩ = some (i64 x.kind) ∧ V.cell? ⟨bx, ox + p * 10 + 3, none⟩ = some (.string x.acct) ∧ V.cell? ⟨bx, ox + p * 10 + 4, none⟩ = some (.string x.peer) ∧ V.cell? ⟨bx, ox + p * 10 + 5, none⟩ = some (i64 x.sum) ∧ V.cell? ⟨bx, ox + p * 10 + 6, none⟩ = some (.slice x.la x.legs.length x.lc) ∧ V.cell? ⟨bx, ox + p * 10 + 7, none⟩ = some (i64 x.period) ∧ V.cell? ⟨bx, ox + p * 10 + 8, none⟩ = some (i64 x.hold) ∧ V.cell? ⟨bx, ox + p * 10 + 9, none⟩ = some (.string x.note) ∧ V.cell? ⟨bx, ox + m * 10, none⟩ = some (i64 y.client) ∧ V.cell? ⟨bx, ox + m * 10 + 1, none⟩ = some (i64 y.seq) ∧ V.cell? ⟨bx, ox + m * 10 + 2, none⟩ = some (i64 y.kind) ∧ V.cell? ⟨bx, ox + m * 10 + 3, none⟩ = some (.string y.acct) ∧ V.cell? ⟨bx, ox + m * 10 + 4, none⟩ = some (.string y.peer) ∧ V.cell? ⟨bx, ox + m * 10 + 5, none⟩ = some (i64 y.sum) ∧ V.cell? ⟨bx, ox + m * 10 + 6, none⟩ = some (.slice y.la y.legs.length y.lc) ∧ V.cell? ⟨bx, ox + m * 10 + 7, none⟩ = some (i64 y.period) ∧ V.cell? ⟨bx, ox + m * 10 + 8, none⟩ = some (i64 y.hold) ∧ V.cell? ⟨bx, ox + m * 10 + 9, none⟩ = some (.string y.note)) (by kernel_rfl) (HS.out _ (Below.refl _ _).drew) (fun hH => ?_)
                refine wpAnyL_take (i := 0) (v := ?v20132) rfl (by kernel_rfl) (by kernel_rfl) (by kernel_rfl) (by kernel_rfl) (fun _ _ _ h => h) (Or.inl ⟨by kernel_rfl, ?hy20132⟩) (by assumption) ?r20132
                case hy20132 => (intro W hSW; obtain ⟨hV0, s0, s1, s2, s3, s4, s5, s6, s7, s8, s9, s10, s11, s12, s13, s14, s15, s16, s17, s18, s19, s20⟩ := hSW; go_simp; try with_reducible rfl)
                try simp only [Act.put, List.getElem_toArray, List.getElem_cons_zero, List.setIfInBounds_toArray, List.set_cons_zero, List.set_cons_succ]
                refine wpAnyL_take (i := 1) (v := ?v20133) rfl (by kernel_rfl) (by kernel_rfl) (by kernel_rfl) (by kernel_rfl) (fun _ _ _ h => h) (Or.inl ⟨by kernel_rfl, ?hy20133⟩) (by assumption) ?r20133
                case hy20133 => (intro W hSW; obtain ⟨hV0, s0, s1, s2, s3, s4, s5, s6, s7, s8, s9, s10, s11, s12, s13, s14, s15, s16, s17, s18, s19, s20⟩ := hSW; go_simp; try with_reducible rfl)
                try simp only [Act.put, List.getElem_toArray, List.getElem_cons_zero, List.getElem_cons_succ, List.setIfInBounds_toArray, List.set_cons_zero, List.set_cons_succ]
                refine wpAnyL_take (i := 2) (v := ?v20134) rfl (by kernel_rfl) (by kernel_rfl) (by kernel_rfl) (by kernel_rfl) (fun _ _ _ h => h) (Or.inl ⟨by kernel_rfl, ?hy20134⟩) (by assumption) ?r20134
                case hy20134 => (intro W hSW; obtain ⟨hV0, s0, s1, s2, s3, s4, s5, s6, s7, s8, s9, s10, s11, s12, s13, s14, s15, s16, s17, s18, s19, s20⟩ := hSW; go_simp; try with_reducible rfl)
                try simp only [Act.put, List.getElem_toArray, List.getElem_cons_zero, List.getElem_cons_succ, List.setIfInBounds_toArray, List.set_cons_zero, List.set_cons_succ]
                refine wpAnyL_take (i := 3) (v := ?v20135) rfl (by kernel_rfl) (by kernel_rfl) (by kernel_rfl) (by kernel_rfl) (fun _ _ _ h => h) (Or.inl ⟨by kernel_rfl, ?hy20135⟩) (by assumption) ?r20135
                case hy20135 => (intro W hSW; obtain ⟨hV0, s0, s1, s2, s3, s4, s5, s6, s7, s8, s9, s10, s11, s12, s13, s14, s15, s16, s17, s18, s19, s20⟩ := hSW; go_simp; try with_reducible rfl)
                try simp only [Act.put, List.getElem_toArray, List.getElem_cons_zero, List.getElem_cons_succ, List.setIfInBounds_toArray, List.set_cons_zero, List.set_cons_succ]
                refine wpAnyL_take (i := 4) (v := ?v20136) rfl (by kernel_rfl) (by kernel_rfl) (by kernel_rfl) (by kernel_rfl) (fun _ _ _ h => h) (Or.inl ⟨by kernel_rfl, ?hy20136⟩) (by assumption) ?r20136
                case hy20136 => (intro W hSW; obtain ⟨hV0, s0, s1, s2, s3, s4, s5, s6, s7, s8, s9, s10, s11, s12, s13, s14, s15, s16, s17, s18, s19, s20⟩ := hSW; go_simp; try with_reducible rfl)
                try simp only [Act.put, List.getElem_toArray, List.getElem_cons_zero, List.getElem_cons_succ, List.setIfInBounds_toArray, List.set_cons_zero, List.set_cons_succ]
                refine wpAnyL_take (i := 5) (v := ?v20137) rfl (by kernel_rfl) (by kernel_rfl) (by kernel_rfl) (by kernel_rfl) (fun _ _ _ h => h) (Or.inl ⟨by kernel_rfl, ?hy20137⟩) (by assumption) ?r20137
                case hy20137 => (intro W hSW; obtain ⟨hV0, s0, s1, s2, s3, s4, s5, s6, s7, s8, s9, s10, s11, s12, s13, s14, s15, s16, s17, s18, s19, s20⟩ := hSW; go_simp; try with_reducible rfl)
                try simp only [Act.put, List.getElem_toArray, List.getElem_cons_zero, List.getElem_cons_succ, List.setIfInBounds_toArray, List.set_cons_zero, List.set_cons_succ]
                refine wpAnyL_take (i := 6) (v := ?v20138) rfl (by kernel_rfl) (by kernel_rfl) (by kernel_rfl) (by kernel_rfl) (fun _ _ _ h => h) (Or.inl ⟨by kernel_rfl, ?hy20138⟩) (by assumption) ?r20138
                case hy20138 => (intro W hSW; obtain ⟨hV0, s0, s1, s2, s3, s4, s5, s6, s7, s8, s9, s10, s11, s12, s13, s14, s15, s16, s17, s18, s19, s20⟩ := hSW; go_simp; try with_reducible rfl)
                try simp only [Act.put, List.getElem_toArray, List.getElem_cons_zero, List.getElem_cons_succ, List.setIfInBounds_toArray, List.set_cons_zero, List.set_cons_succ]
                refine wpAnyL_take (i := 7) (v := ?v20139) rfl (by kernel_rfl) (by kernel_rfl) (by kernel_rfl) (by kernel_rfl) (fun _ _ _ h => h) (Or.inl ⟨by kernel_rfl, ?hy20139⟩) (by assumption) ?r20139
                case hy20139 => (intro W hSW; obtain ⟨hV0, s0, s1, s2, s3, s4, s5, s6, s7, s8, s9, s10, s11, s12, s13, s14, s15, s16, s17, s18, s19, s20⟩ := hSW; go_simp; try with_reducible rfl)
                try simp only [Act.put, List.getElem_toArray, List.getElem_cons_zero, List.getElem_cons_succ, List.setIfInBounds_toArray, List.set_cons_zero, List.set_cons_succ]
                as_aux_lemma =>
                refine wpAnyL_take (i := 8) (v := ?v20140) rfl (by kernel_rfl) (by kernel_rfl) (by kernel_rfl) (by kernel_rfl) (fun _ _ _ h => h) (Or.inl ⟨by kernel_rfl, ?hy20140⟩) (by assumption) ?r20140
                case hy20140 => (intro W hSW; obtain ⟨hV0, s0, s1, s2, s3, s4, s5, s6, s7, s8, s9, s10, s11, s12, s13, s14, s15, s16, s17, s18, s19, s20⟩ := hSW; go_simp; try with_reducible rfl)
                try simp only [Act.put, List.getElem_toArray, List.getElem_cons_zero, List.getElem_cons_succ, List.setIfInBounds_toArray, List.set_cons_zero, List.set_cons_succ]
                refine wpAnyL_take (i := 9) (v := ?v20141) rfl (by kernel_rfl) (by kernel_rfl) (by kernel_rfl) (by kernel_rfl) (fun _ _ _ h => h) (Or.inl ⟨by kernel_rfl, ?hy20141⟩) (by assumption) ?r20141
                case hy20141 => (intro W hSW; obtain ⟨hV0, s0, s1, s2, s3, s4, s5, s6, s7, s8, s9, s10, s11, s12, s13, s14, s15, s16, s17, s18, s19, s20⟩ := hSW; go_simp; try with_reducible rfl)
                try simp only [Act.put, List.getElem_toArray, List.getElem_cons_zero, List.getElem_cons_succ, List.setIfInBounds_toArray, List.set_cons_zero, List.set_cons_succ]
                refine wpAnyL_take (i := 10) (v := ?v20142) rfl (by kernel_rfl) (by kernel_rfl) (by kernel_rfl) (by kernel_rfl) (fun _ _ _ h => h) (Or.inl ⟨by kernel_rfl, ?hy20142⟩) (by assumption) ?r20142
                case hy20142 => (intro W hSW; obtain ⟨hV0, s0, s1, s2, s3, s4, s5, s6, s7, s8, s9, s10, s11, s12, s13, s14, s15, s16, s17, s18, s19, s20⟩ := hSW; go_simp; try with_reducible rfl)
                try simp only [Act.put, List.getElem_toArray, List.getElem_cons_zero, List.getElem_cons_succ, List.setIfInBounds_toArray, List.set_cons_zero, List.set_cons_succ]
                refine wpAnyL_take (i := 11) (v := ?v20143) rfl (by kernel_rfl) (by kernel_rfl) (by kernel_rfl) (by kernel_rfl) (fun _ _ _ h => h) (Or.inl ⟨by kernel_rfl, ?hy20143⟩) (by assumption) ?r20143
                case hy20143 => (intro W hSW; obtain ⟨hV0, s0, s1, s2, s3, s4, s5, s6, s7, s8, s9, s10, s11, s12, s13, s14, s15, s16, s17, s18, s19, s20⟩ := hSW; go_simp; try with_reducible rfl)
                try simp only [Act.put, List.getElem_toArray, List.getElem_cons_zero, List.getElem_cons_succ, List.setIfInBounds_toArray, List.set_cons_zero, List.set_cons_succ]
                refine wpAnyL_take (i := 12) (v := ?v20144) rfl (by kernel_rfl) (by kernel_rfl) (by kernel_rfl) (by kernel_rfl) (fun _ _ _ h => h) (Or.inl ⟨by kernel_rfl, ?hy20144⟩) (by assumption) ?r20144
                case hy20144 => (intro W hSW; obtain ⟨hV0, s0, s1, s2, s3, s4, s5, s6, s7, s8, s9, s10, s11, s12, s13, s14, s15, s16, s17, s18, s19, s20⟩ := hSW; go_simp; try with_reducible rfl)
                try simp only [Act.put, List.getElem_toArray, List.getElem_cons_zero, List.getElem_cons_succ, List.setIfInBounds_toArray, List.set_cons_zero, List.set_cons_succ]
                refine wpAnyL_take (i := 13) (v := ?v20145) rfl (by kernel_rfl) (by kernel_rfl) (by kernel_rfl) (by kernel_rfl) (fun _ _ _ h => h) (Or.inl ⟨by kernel_rfl, ?hy20145⟩) (by assumption) ?r20145
                case hy20145 => (intro W hSW; obtain ⟨hV0, s0, s1, s2, s3, s4, s5, s6, s7, s8, s9, s10, s11, s12, s13, s14, s15, s16, s17, s18, s19, s20⟩ := hSW; go_simp; try with_reducible rfl)
                try simp only [Act.put, List.getElem_toArray, List.getElem_cons_zero, List.getElem_cons_succ, List.setIfInBounds_toArray, List.set_cons_zero, List.set_cons_succ]
                refine wpAnyL_one (i := 14) (by kernel_rfl) rfl (by decide) (fun K hK => ?_)
                go_simp
                go_at_call 29
                with_reducible refine (HC.out _ hH.1).mono ?_
                rintro e w9 ⟨rfl, hF⟩
                have hbu := below_on hH.1 (Nat.le_refl _) hF
                clear hF
                refine hK.out _ _ (HS.out _ hbu) (fun hH => ?_)
                clear hK K
                try simp only [Act.put, List.getElem_toArray, List.getElem_cons_zero, List.getElem_cons_succ, List.setIfInBounds_toArray, List.set_cons_zero, List.set_cons_succ]
                refine wpAnyL_take (i := 15) (v := ?v20146) rfl (by kernel_rfl) (by kernel_rfl) (by kernel_rfl) (by kernel_rfl) (fun _ _ _ h => h) (Or.inl ⟨by kernel_rfl, ?hy20146⟩) (by assumption) ?r20146
                case hy20146 => (intro W hSW; obtain ⟨hV0, s0, s1, s2, s3, s4, s5, s6, s7, s8, s9, s10, s11, s12, s13, s14, s15, s16, s17, s18, s19, s20⟩ := hSW; go_simp; try with_reducible rfl)
                try simp only [Act.put, List.getElem_toArray, List.getElem_cons_zero, List.getElem_cons_succ, List.setIfInBounds_toArray, List.set_cons_zero, List.set_cons_succ]
                refine wpAnyL_take (i := 16) (v := ?v20147) rfl (by kernel_rfl) (by kernel_rfl) (by kernel_rfl) (by kernel_rfl) (fun _ _ _ h => h) (Or.inl ⟨by kernel_rfl, ?hy20147⟩) (by assumption) ?r20147
                case hy20147 => (intro W hSW; obtain ⟨hV0, s0, s1, s2, s3, s4, s5, s6, s7, s8, s9, s10, s11, s12, s13, s14, s15, s16, s17, s18, s19, s20⟩ := hSW; go_simp; try with_reducible rfl)
                try simp only [Act.put, List.getElem_toArray, List.getElem_cons_zero, List.getElem_cons_succ, List.setIfInBounds_toArray, List.set_cons_zero, List.set_cons_succ]
                as_aux_lemma =>
                refine wpAnyL_take (i := 17) (v := ?v20148) rfl (by kernel_rfl) (by kernel_rfl) (by kernel_rfl) (by kernel_rfl) (fun _ _ _ h => h) (Or.inl ⟨by kernel_rfl, ?hy20148⟩) (by assumption) ?r20148
                case hy20148 => (intro W hSW; obtain ⟨hV0, s0, s1, s2, s3, s4, s5, s6, s7, s8, s9, s10, s11, s12, s13, s14, s15, s16, s17, s18, s19, s20⟩ := hSW; go_simp; try with_reducible rfl)
                try simp only [Act.put, List.getElem_toArray, List.getElem_cons_zero, List.getElem_cons_succ, List.setIfInBounds_toArray, List.set_cons_zero, List.set_cons_succ]
                refine wpAnyL_take (i := 18) (v := ?v20149) rfl (by kernel_rfl) (by kernel_rfl) (by kernel_rfl) (by kernel_rfl) (fun _ _ _ h => h) (Or.inl ⟨by kernel_rfl, ?hy20149⟩) (by assumption) ?r20149
                case hy20149 => (intro W hSW; obtain ⟨hV0, s0, s1, s2, s3, s4, s5, s6, s7, s8, s9, s10, s11, s12, s13, s14, s15, s16, s17, s18, s19, s20⟩ := hSW; go_simp; try with_reducible rfl)
                try simp only [Act.put, List.getElem_toArray, List.getElem_cons_zero, List.getElem_cons_succ, List.setIfInBounds_toArray, List.set_cons_zero, List.set_cons_succ]
                refine wpAnyL_take (i := 19) (v := ?v20150) rfl (by kernel_rfl) (by kernel_rfl) (by kernel_rfl) (by kernel_rfl) (fun _ _ _ h => h) (Or.inl ⟨by kernel_rfl, ?hy20150⟩) (by assumption) ?r20150
                case hy20150 => (intro W hSW; obtain ⟨hV0, s0, s1, s2, s3, s4, s5, s6, s7, s8, s9, s10, s11, s12, s13, s14, s15, s16, s17, s18, s19, s20⟩ := hSW; go_simp; try with_reducible rfl)
                try simp only [Act.put, List.getElem_toArray, List.getElem_cons_zero, List.getElem_cons_succ, List.setIfInBounds_toArray, List.set_cons_zero, List.set_cons_succ]
                refine wpAnyL_take (i := 20) (v := ?v20151) rfl (by kernel_rfl) (by kernel_rfl) (by kernel_rfl) (by kernel_rfl) (fun _ _ _ h => h) (Or.inl ⟨by kernel_rfl, ?hy20151⟩) (by assumption) ?r20151
                case hy20151 => (intro W hSW; obtain ⟨hV0, s0, s1, s2, s3, s4, s5, s6, s7, s8, s9, s10, s11, s12, s13, s14, s15, s16, s17, s18, s19, s20⟩ := hSW; go_simp; try with_reducible rfl)
                try simp only [Act.put, List.getElem_toArray, List.getElem_cons_zero, List.getElem_cons_succ, List.setIfInBounds_toArray, List.set_cons_zero, List.set_cons_succ]
                refine wpAnyL_take (i := 21) (v := ?v20152) rfl (by kernel_rfl) (by kernel_rfl) (by kernel_rfl) (by kernel_rfl) (fun _ _ _ h => h) (Or.inl ⟨by kernel_rfl, ?hy20152⟩) (by assumption) ?r20152
                case hy20152 => (intro W hSW; obtain ⟨hV0, s0, s1, s2, s3, s4, s5, s6, s7, s8, s9, s10, s11, s12, s13, s14, s15, s16, s17, s18, s19, s20⟩ := hSW; go_simp; try with_reducible rfl)
                try simp only [Act.put, List.getElem_toArray, List.getElem_cons_zero, List.getElem_cons_succ, List.setIfInBounds_toArray, List.set_cons_zero, List.set_cons_succ]
                refine wpAnyL_take (i := 22) (v := ?v20153) rfl (by kernel_rfl) (by kernel_rfl) (by kernel_rfl) (by kernel_rfl) (fun _ _ _ h => h) (Or.inl ⟨by kernel_rfl, ?hy20153⟩) (by assumption) ?r20153
                case hy20153 => (intro W hSW; obtain ⟨hV0, s0, s1, s2, s3, s4, s5, s6, s7, s8, s9, s10, s11, s12, s13, s14, s15, s16, s17, s18, s19, s20⟩ := hSW; go_simp; try with_reducible rfl)
                try simp only [Act.put, List.getElem_toArray, List.getElem_cons_zero, List.getElem_cons_succ, List.setIfInBounds_toArray, List.set_cons_zero, List.set_cons_succ]
                refine wpAnyL_take (i := 23) (v := ?v20154) rfl (by kernel_rfl) (by kernel_rfl) (by kernel_rfl) (by kernel_rfl) (fun _ _ _ h => h) (Or.inl ⟨by kernel_rfl, ?hy20154⟩) (by assumption) ?r20154
                case hy20154 => (intro W hSW; obtain ⟨hV0, s0, s1, s2, s3, s4, s5, s6, s7, s8, s9, s10, s11, s12, s13, s14, s15, s16, s17, s18, s19, s20⟩ := hSW; go_simp; try with_reducible rfl)
                try simp only [Act.put, List.getElem_toArray, List.getElem_cons_zero, List.getElem_cons_succ, List.setIfInBounds_toArray, List.set_cons_zero, List.set_cons_succ]
                refine wpAnyL_take (i := 24) (v := ?v20155) rfl (by kernel_rfl) (by kernel_rfl) (by kernel_rfl) (by kernel_rfl) (fun _ _ _ h => h) (Or.inl ⟨by kernel_rfl, ?hy20155⟩) (by assumption) ?r20155
                case hy20155 => (intro W hSW; obtain ⟨hV0, s0, s1, s2, s3, s4, s5, s6, s7, s8, s9, s10, s11, s12, s13, s14, s15, s16, s17, s18, s19, s20⟩ := hSW; go_simp; try with_reducible rfl)
                try simp only [Act.put, List.getElem_toArray, List.getElem_cons_zero, List.getElem_cons_succ, List.setIfInBounds_toArray, List.set_cons_zero, List.set_cons_succ]
                refine wpAnyL_take (i := 25) (v := ?v20156) rfl (by kernel_rfl) (by kernel_rfl) (by kernel_rfl) (by kernel_rfl) (fun _ _ _ h => h) (Or.inl ⟨by kernel_rfl, ?hy20156⟩) (by assumption) ?r20156
                case hy20156 => (intro W hSW; obtain ⟨hV0, s0, s1, s2, s3, s4, s5, s6, s7, s8, s9, s10, s11, s12, s13, s14, s15, s16, s17, s18, s19, s20⟩ := hSW; go_simp; try with_reducible rfl)
                try simp only [Act.put, List.getElem_toArray, List.getElem_cons_zero, List.getElem_cons_succ, List.setIfInBounds_toArray, List.set_cons_zero, List.set_cons_succ]
                as_aux_lemma =>
                refine wpAnyL_take (i := 26) (v := ?v20157) rfl (by kernel_rfl) (by kernel_rfl) (by kernel_rfl) (by kernel_rfl) (fun _ _ _ h => h) (Or.inl ⟨by kernel_rfl, ?hy20157⟩) (by assumption) ?r20157
                case hy20157 => (intro W hSW; obtain ⟨hV0, s0, s1, s2, s3, s4, s5, s6, s7, s8, s9, s10, s11, s12, s13, s14, s15, s16, s17, s18, s19, s20⟩ := hSW; go_simp; try with_reducible rfl)
                try simp only [Act.put, List.getElem_toArray, List.getElem_cons_zero, List.getElem_cons_succ, List.setIfInBounds_toArray, List.set_cons_zero, List.set_cons_succ]
                refine wpAnyL_take (i := 27) (v := ?v20158) rfl (by kernel_rfl) (by kernel_rfl) (by kernel_rfl) (by kernel_rfl) (fun _ _ _ h => h) (Or.inl ⟨by kernel_rfl, ?hy20158⟩) (by assumption) ?r20158
                case hy20158 => (intro W hSW; obtain ⟨hV0, s0, s1, s2, s3, s4, s5, s6, s7, s8, s9, s10, s11, s12, s13, s14, s15, s16, s17, s18, s19, s20⟩ := hSW; go_simp; try with_reducible rfl)
                try simp only [Act.put, List.getElem_toArray, List.getElem_cons_zero, List.getElem_cons_succ, List.setIfInBounds_toArray, List.set_cons_zero, List.set_cons_succ]
                refine wpAnyL_take (i := 28) (v := ?v20159) rfl (by kernel_rfl) (by kernel_rfl) (by kernel_rfl) (by kernel_rfl) (fun _ _ _ h => h) (Or.inl ⟨by kernel_rfl, ?hy20159⟩) (by assumption) ?r20159
                case hy20159 => (intro W hSW; obtain ⟨hV0, s0, s1, s2, s3, s4, s5, s6, s7, s8, s9, s10, s11, s12, s13, s14, s15, s16, s17, s18, s19, s20⟩ := hSW; go_simp; try with_reducible rfl)
                try simp only [Act.put, List.getElem_toArray, List.getElem_cons_zero, List.getElem_cons_succ, List.setIfInBounds_toArray, List.set_cons_zero, List.set_cons_succ]
                refine wpAnyL_take (i := 29) (v := ?v20160) rfl (by kernel_rfl) (by kernel_rfl) (by kernel_rfl) (by kernel_rfl) (fun _ _ _ h => h) (Or.inl ⟨by kernel_rfl, ?hy20160⟩) (by assumption) ?r20160
                case hy20160 => (intro W hSW; obtain ⟨hV0, s0, s1, s2, s3, s4, s5, s6, s7, s8, s9, s10, s11, s12, s13, s14, s15, s16, s17, s18, s19, s20⟩ := hSW; go_simp; try with_reducible rfl)
                try simp only [Act.put, List.getElem_toArray, List.getElem_cons_zero, List.getElem_cons_succ, List.setIfInBounds_toArray, List.set_cons_zero, List.set_cons_succ]
                refine wpAnyL_take (i := 30) (v := ?v20161) rfl (by kernel_rfl) (by kernel_rfl) (by kernel_rfl) (by kernel_rfl) (fun _ _ _ h => h) (Or.inl ⟨by kernel_rfl, ?hy20161⟩) (by assumption) ?r20161
                case hy20161 => (intro W hSW; obtain ⟨hV0, s0, s1, s2, s3, s4, s5, s6, s7, s8, s9, s10, s11, s12, s13, s14, s15, s16, s17, s18, s19, s20⟩ := hSW; go_simp; try with_reducible rfl)
                try simp only [Act.put, List.getElem_toArray, List.getElem_cons_zero, List.getElem_cons_succ, List.setIfInBounds_toArray, List.set_cons_zero, List.set_cons_succ]
                refine wpAnyL_take (i := 31) (v := ?v20162) rfl (by kernel_rfl) (by kernel_rfl) (by kernel_rfl) (by kernel_rfl) (fun _ _ _ h => h) (Or.inl ⟨by kernel_rfl, ?hy20162⟩) (by assumption) ?r20162
                case hy20162 => (intro W hSW; obtain ⟨hV0, s0, s1, s2, s3, s4, s5, s6, s7, s8, s9, s10, s11, s12, s13, s14, s15, s16, s17, s18, s19, s20⟩ := hSW; go_simp; try with_reducible rfl)
                try simp only [Act.put, List.getElem_toArray, List.getElem_cons_zero, List.getElem_cons_succ, List.setIfInBounds_toArray, List.set_cons_zero, List.set_cons_succ]
                refine wpAnyL_take (i := 32) (v := ?v20163) rfl (by kernel_rfl) (by kernel_rfl) (by kernel_rfl) (by kernel_rfl) (fun _ _ _ h => h) (Or.inl ⟨by kernel_rfl, ?hy20163⟩) (by assumption) ?r20163
                case hy20163 => (intro W hSW; obtain ⟨hV0, s0, s1, s2, s3, s4, s5, s6, s7, s8, s9, s10, s11, s12, s13, s14, s15, s16, s17, s18, s19, s20⟩ := hSW; go_simp; try with_reducible rfl)
                try simp only [Act.put, List.getElem_toArray, List.getElem_cons_zero, List.getElem_cons_succ, List.setIfInBounds_toArray, List.set_cons_zero, List.set_cons_succ]
                refine wpAnyL_take (i := 33) (v := ?v20164) rfl (by kernel_rfl) (by kernel_rfl) (by kernel_rfl) (by kernel_rfl) (fun _ _ _ h => h) (Or.inl ⟨by kernel_rfl, ?hy20164⟩) (by assumption) ?r20164
                case hy20164 => (intro W hSW; obtain ⟨hV0, s0, s1, s2, s3, s4, s5, s6, s7, s8, s9, s10, s11, s12, s13, s14, s15, s16, s17, s18, s19, s20⟩ := hSW; go_simp; try with_reducible rfl)
                try simp only [Act.put, List.getElem_toArray, List.getElem_cons_zero, List.getElem_cons_succ, List.setIfInBounds_toArray, List.set_cons_zero, List.set_cons_succ]
                refine wpAnyL_take (i := 34) (v := ?v20165) rfl (by kernel_rfl) (by kernel_rfl) (by kernel_rfl) (by kernel_rfl) (fun _ _ _ h => h) (Or.inl ⟨by kernel_rfl, ?hy20165⟩) (by assumption) ?r20165
                case hy20165 => (intro W hSW; obtain ⟨hV0, s0, s1, s2, s3, s4, s5, s6, s7, s8, s9, s10, s11, s12, s13, s14, s15, s16, s17, s18, s19, s20⟩ := hSW; go_simp; try with_reducible rfl)
                try simp only [Act.put, List.getElem_toArray, List.getElem_cons_zero, List.getElem_cons_succ, List.setIfInBounds_toArray, List.set_cons_zero, List.set_cons_succ]
                as_aux_lemma =>
                refine wpAnyL_take (i := 35) (v := ?v20166) rfl (by kernel_rfl) (by kernel_rfl) (by kernel_rfl) (by kernel_rfl) (fun _ _ _ h => h) (Or.inl ⟨by kernel_rfl, ?hy20166⟩) (by assumption) ?r20166
                case hy20166 => (intro W hSW; obtain ⟨hV0, s0, s1, s2, s3, s4, s5, s6, s7, s8, s9, s10, s11, s12, s13, s14, s15, s16, s17, s18, s19, s20⟩ := hSW; go_simp; try with_reducible rfl)
                try simp only [Act.put, List.getElem_toArray, List.getElem_cons_zero, List.getElem_cons_succ, List.setIfInBounds_toArray, List.set_cons_zero, List.set_cons_succ]
                refine wpAnyL_take (i := 36) (v := ?v20167) rfl (by kernel_rfl) (by kernel_rfl) (by kernel_rfl) (by kernel_rfl) (fun _ _ _ h => h) (Or.inl ⟨by kernel_rfl, ?hy20167⟩) (by assumption) ?r20167
                case hy20167 => (intro W hSW; obtain ⟨hV0, s0, s1, s2, s3, s4, s5, s6, s7, s8, s9, s10, s11, s12, s13, s14, s15, s16, s17, s18, s19, s20⟩ := hSW; go_simp; try with_reducible rfl)
                try simp only [Act.put, List.getElem_toArray, List.getElem_cons_zero, List.getElem_cons_succ, List.setIfInBounds_toArray, List.set_cons_zero, List.set_cons_succ]
                refine wpAnyL_take (i := 37) (v := ?v20168) rfl (by kernel_rfl) (by kernel_rfl) (by kernel_rfl) (by kernel_rfl) (fun _ _ _ h => h) (Or.inl ⟨by kernel_rfl, ?hy20168⟩) (by assumption) ?r20168
                case hy20168 => (intro W hSW; obtain ⟨hV0, s0, s1, s2, s3, s4, s5, s6, s7, s8, s9, s10, s11, s12, s13, s14, s15, s16, s17, s18, s19, s20⟩ := hSW; go_simp; try with_reducible rfl)
                try simp only [Act.put, List.getElem_toArray, List.getElem_cons_zero, List.getElem_cons_succ, List.setIfInBounds_toArray, List.set_cons_zero, List.set_cons_succ]
                refine wpAnyL_take (i := 38) (v := ?v20169) rfl (by kernel_rfl) (by kernel_rfl) (by kernel_rfl) (by kernel_rfl) (fun _ _ _ h => h) (Or.inl ⟨by kernel_rfl, ?hy20169⟩) (by assumption) ?r20169
                case hy20169 => (intro W hSW; obtain ⟨hV0, s0, s1, s2, s3, s4, s5, s6, s7, s8, s9, s10, s11, s12, s13, s14, s15, s16, s17, s18, s19, s20⟩ := hSW; go_simp; try with_reducible rfl)
                try simp only [Act.put, List.getElem_toArray, List.getElem_cons_zero, List.getElem_cons_succ, List.setIfInBounds_toArray, List.set_cons_zero, List.set_cons_succ]
                refine wpAnyL_take (i := 39) (v := ?v20170) rfl (by kernel_rfl) (by kernel_rfl) (by kernel_rfl) (by kernel_rfl) (fun _ _ _ h => h) (Or.inl ⟨by kernel_rfl, ?hy20170⟩) (by assumption) ?r20170
                case hy20170 => (intro W hSW; obtain ⟨hV0, s0, s1, s2, s3, s4, s5, s6, s7, s8, s9, s10, s11, s12, s13, s14, s15, s16, s17, s18, s19, s20⟩ := hSW; go_simp; try with_reducible rfl)
                try simp only [Act.put, List.getElem_toArray, List.getElem_cons_zero, List.getElem_cons_succ, List.setIfInBounds_toArray, List.set_cons_zero, List.set_cons_succ]
                refine wpAnyL_take (i := 40) (v := ?v20171) rfl (by kernel_rfl) (by kernel_rfl) (by kernel_rfl) (by kernel_rfl) (fun _ _ _ h => h) (Or.inl ⟨by kernel_rfl, ?hy20171⟩) (by assumption) ?r20171
                case hy20171 => (intro W hSW; obtain ⟨hV0, s0, s1, s2, s3, s4, s5, s6, s7, s8, s9, s10, s11, s12, s13, s14, s15, s16, s17, s18, s19, s20⟩ := hSW; go_simp; try with_reducible rfl)
                try simp only [Act.put, List.getElem_toArray, List.getElem_cons_zero, List.getElem_cons_succ, List.setIfInBounds_toArray, List.set_cons_zero, List.set_cons_succ]
                refine wpAnyL_take (i := 41) (v := ?v20172) rfl (by kernel_rfl) (by kernel_rfl) (by kernel_rfl) (by kernel_rfl) (fun _ _ _ h => h) (Or.inl ⟨by kernel_rfl, ?hy20172⟩) (by assumption) ?r20172
                case hy20172 => (intro W hSW; obtain ⟨hV0, s0, s1, s2, s3, s4, s5, s6, s7, s8, s9, s10, s11, s12, s13, s14, s15, s16, s17, s18, s19, s20⟩ := hSW; go_simp; try with_reducible rfl)
                try simp only [Act.put, List.getElem_toArray, List.getElem_cons_zero, List.getElem_cons_succ, List.setIfInBounds_toArray, List.set_cons_zero, List.set_cons_succ]
                refine wpAnyL_take (i := 42) (v := ?v20173) rfl (by kernel_rfl) (by kernel_rfl) (by kernel_rfl) (by kernel_rfl) (fun _ _ _ h => h) (Or.inl ⟨by kernel_rfl, ?hy20173⟩) (by assumption) ?r20173
                case hy20173 => (intro W hSW; obtain ⟨hV0, s0, s1, s2, s3, s4, s5, s6, s7, s8, s9, s10, s11, s12, s13, s14, s15, s16, s17, s18, s19, s20⟩ := hSW; go_simp; try with_reducible rfl)
                try simp only [Act.put, List.getElem_toArray, List.getElem_cons_zero, List.getElem_cons_succ, List.setIfInBounds_toArray, List.set_cons_zero, List.set_cons_succ]
                refine wpAnyL_take (i := 43) (v := ?v20174) rfl (by kernel_rfl) (by kernel_rfl) (by kernel_rfl) (by kernel_rfl) (fun _ _ _ h => h) (Or.inl ⟨by kernel_rfl, ?hy20174⟩) (by assumption) ?r20174
                case hy20174 => (intro W hSW; obtain ⟨hV0, s0, s1, s2, s3, s4, s5, s6, s7, s8, s9, s10, s11, s12, s13, s14, s15, s16, s17, s18, s19, s20⟩ := hSW; go_simp; try with_reducible rfl)
                try simp only [Act.put, List.getElem_toArray, List.getElem_cons_zero, List.getElem_cons_succ, List.setIfInBounds_toArray, List.set_cons_zero, List.set_cons_succ]
                as_aux_lemma =>
                refine wpAnyL_take (i := 44) (v := ?v20175) rfl (by kernel_rfl) (by kernel_rfl) (by kernel_rfl) (by kernel_rfl) (fun _ _ _ h => h) (Or.inl ⟨by kernel_rfl, ?hy20175⟩) (by assumption) ?r20175
                case hy20175 => (intro W hSW; obtain ⟨hV0, s0, s1, s2, s3, s4, s5, s6, s7, s8, s9, s10, s11, s12, s13, s14, s15, s16, s17, s18, s19, s20⟩ := hSW; go_simp; try with_reducible rfl)
                try simp only [Act.put, List.getElem_toArray, List.getElem_cons_zero, List.getElem_cons_succ, List.setIfInBounds_toArray, List.set_cons_zero, List.set_cons_succ]
                refine wpAnyL_take (i := 45) (v := ?v20176) rfl (by kernel_rfl) (by kernel_rfl) (by kernel_rfl) (by kernel_rfl) (fun _ _ _ h => h) (Or.inl ⟨by kernel_rfl, ?hy20176⟩) (by assumption) ?r20176
                case hy20176 => (intro W hSW; obtain ⟨hV0, s0, s1, s2, s3, s4, s5, s6, s7, s8, s9, s10, s11, s12, s13, s14, s15, s16, s17, s18, s19, s20⟩ := hSW; go_simp; try with_reducible rfl)
                try simp only [Act.put, List.getElem_toArray, List.getElem_cons_zero, List.getElem_cons_succ, List.setIfInBounds_toArray, List.set_cons_zero, List.set_cons_succ]
                refine wpAnyL_take (i := 46) (v := ?v20177) rfl (by kernel_rfl) (by kernel_rfl) (by kernel_rfl) (by kernel_rfl) (fun _ _ _ h => h) (Or.inl ⟨by kernel_rfl, ?hy20177⟩) (by assumption) ?r20177
                case hy20177 => (intro W hSW; obtain ⟨hV0, s0, s1, s2, s3, s4, s5, s6, s7, s8, s9, s10, s11, s12, s13, s14, s15, s16, s17, s18, s19, s20⟩ := hSW; go_simp; try with_reducible rfl)
                try simp only [Act.put, List.getElem_toArray, List.getElem_cons_zero, List.getElem_cons_succ, List.setIfInBounds_toArray, List.set_cons_zero, List.set_cons_succ]
                refine wpAnyL_take (i := 47) (v := ?v20178) rfl (by kernel_rfl) (by kernel_rfl) (by kernel_rfl) (by kernel_rfl) (fun _ _ _ h => h) (Or.inl ⟨by kernel_rfl, ?hy20178⟩) (by assumption) ?r20178
                case hy20178 => (intro W hSW; obtain ⟨hV0, s0, s1, s2, s3, s4, s5, s6, s7, s8, s9, s10, s11, s12, s13, s14, s15, s16, s17, s18, s19, s20⟩ := hSW; go_simp; try with_reducible rfl)
                try simp only [Act.put, List.getElem_toArray, List.getElem_cons_zero, List.getElem_cons_succ, List.setIfInBounds_toArray, List.set_cons_zero, List.set_cons_succ]
                refine wpAnyL_take (i := 48) (v := ?v20179) rfl (by kernel_rfl) (by kernel_rfl) (by kernel_rfl) (by kernel_rfl) (fun _ _ _ h => h) (Or.inl ⟨by kernel_rfl, ?hy20179⟩) (by assumption) ?r20179
                case hy20179 => (intro W hSW; obtain ⟨hV0, s0, s1, s2, s3, s4, s5, s6, s7, s8, s9, s10, s11, s12, s13, s14, s15, s16, s17, s18, s19, s20⟩ := hSW; go_simp; try with_reducible rfl)
                try simp only [Act.put, List.getElem_toArray, List.getElem_cons_zero, List.getElem_cons_succ, List.setIfInBounds_toArray, List.set_cons_zero, List.set_cons_succ]
                refine wpAnyL_take (i := 49) (v := ?v20180) rfl (by kernel_rfl) (by kernel_rfl) (by kernel_rfl) (by kernel_rfl) (fun _ _ _ h => h) (Or.inl ⟨by kernel_rfl, ?hy20180⟩) (by assumption) ?r20180
                case hy20180 => (intro W hSW; obtain ⟨hV0, s0, s1, s2, s3, s4, s5, s6, s7, s8, s9, s10, s11, s12, s13, s14, s15, s16, s17, s18, s19, s20⟩ := hSW; go_simp; try with_reducible rfl)
                try simp only [Act.put, List.getElem_toArray, List.getElem_cons_zero, List.getElem_cons_succ, List.setIfInBounds_toArray, List.set_cons_zero, List.set_cons_succ]
                refine wpAnyL_take (i := 50) (v := ?v20181) rfl (by kernel_rfl) (by kernel_rfl) (by kernel_rfl) (by kernel_rfl) (fun _ _ _ h => h) (Or.inl ⟨by kernel_rfl, ?hy20181⟩) (by assumption) ?r20181
                case hy20181 => (intro W hSW; obtain ⟨hV0, s0, s1, s2, s3, s4, s5, s6, s7, s8, s9, s10, s11, s12, s13, s14, s15, s16, s17, s18, s19, s20⟩ := hSW; go_simp; try with_reducible rfl)
                try simp only [Act.put, List.getElem_toArray, List.getElem_cons_zero, List.getElem_cons_succ, List.setIfInBounds_toArray, List.set_cons_zero, List.set_cons_succ]
                refine wpAnyL_take (i := 51) (v := ?v20182) rfl (by kernel_rfl) (by kernel_rfl) (by kernel_rfl) (by kernel_rfl) (fun _ _ _ h => h) (Or.inl ⟨by kernel_rfl, ?hy20182⟩) (by assumption) ?r20182
                case hy20182 => (intro W hSW; obtain ⟨hV0, s0, s1, s2, s3, s4, s5, s6, s7, s8, s9, s10, s11, s12, s13, s14, s15, s16, s17, s18, s19, s20⟩ := hSW; go_simp; try with_reducible rfl)
                try simp only [Act.put, List.getElem_toArray, List.getElem_cons_zero, List.getElem_cons_succ, List.setIfInBounds_toArray, List.set_cons_zero, List.set_cons_succ]
                refine wpAnyL_take (i := 52) (v := ?v20183) rfl (by kernel_rfl) (by kernel_rfl) (by kernel_rfl) (by kernel_rfl) (fun _ _ _ h => h) (Or.inl ⟨by kernel_rfl, ?hy20183⟩) (by assumption) ?r20183
                case hy20183 => (intro W hSW; obtain ⟨hV0, s0, s1, s2, s3, s4, s5, s6, s7, s8, s9, s10, s11, s12, s13, s14, s15, s16, s17, s18, s19, s20⟩ := hSW; go_simp; try with_reducible rfl)
                try simp only [Act.put, List.getElem_toArray, List.getElem_cons_zero, List.getElem_cons_succ, List.setIfInBounds_toArray, List.set_cons_zero, List.set_cons_succ]
                as_aux_lemma =>
                refine wpAnyL_take (i := 53) (v := ?v20184) rfl (by kernel_rfl) (by kernel_rfl) (by kernel_rfl) (by kernel_rfl) (fun _ _ _ h => h) (Or.inl ⟨by kernel_rfl, ?hy20184⟩) (by assumption) ?r20184
                case hy20184 => (intro W hSW; obtain ⟨hV0, s0, s1, s2, s3, s4, s5, s6, s7, s8, s9, s10, s11, s12, s13, s14, s15, s16, s17, s18, s19, s20⟩ := hSW; go_simp; try with_reducible rfl)
                try simp only [Act.put, List.getElem_toArray, List.getElem_cons_zero, List.getElem_cons_succ, List.setIfInBounds_toArray, List.set_cons_zero, List.set_cons_succ]
                refine wpAnyL_take (i := 54) (v := ?v20185) rfl (by kernel_rfl) (by kernel_rfl) (by kernel_rfl) (by kernel_rfl) (fun _ _ _ h => h) (Or.inl ⟨by kernel_rfl, ?hy20185⟩) (by assumption) ?r20185
                case hy20185 => (intro W hSW; obtain ⟨hV0, s0, s1, s2, s3, s4, s5, s6, s7, s8, s9, s10, s11, s12, s13, s14, s15, s16, s17, s18, s19, s20⟩ := hSW; go_simp; try with_reducible rfl)
                try simp only [Act.put, List.getElem_toArray, List.getElem_cons_zero, List.getElem_cons_succ, List.setIfInBounds_toArray, List.set_cons_zero, List.set_cons_succ]
                refine wpAnyL_take (i := 55) (v := ?v20186) rfl (by kernel_rfl) (by kernel_rfl) (by kernel_rfl) (by kernel_rfl) (fun _ _ _ h => h) (Or.inl ⟨by kernel_rfl, ?hy20186⟩) (by assumption) ?r20186
                case hy20186 => (intro W hSW; obtain ⟨hV0, s0, s1, s2, s3, s4, s5, s6, s7, s8, s9, s10, s11, s12, s13, s14, s15, s16, s17, s18, s19, s20⟩ := hSW; go_simp; try with_reducible rfl)
                try simp only [Act.put, List.getElem_toArray, List.getElem_cons_zero, List.getElem_cons_succ, List.setIfInBounds_toArray, List.set_cons_zero, List.set_cons_succ]
                refine wpAnyL_take (i := 56) (v := ?v20187) rfl (by kernel_rfl) (by kernel_rfl) (by kernel_rfl) (by kernel_rfl) (fun _ _ _ h => h) (Or.inl ⟨by kernel_rfl, ?hy20187⟩) (by assumption) ?r20187
                case hy20187 => (intro W hSW; obtain ⟨hV0, s0, s1, s2, s3, s4, s5, s6, s7, s8, s9, s10, s11, s12, s13, s14, s15, s16, s17, s18, s19, s20⟩ := hSW; go_simp; try with_reducible rfl)
                try simp only [Act.put, List.getElem_toArray, List.getElem_cons_zero, List.getElem_cons_succ, List.setIfInBounds_toArray, List.set_cons_zero, List.set_cons_succ]
                refine wpAnyL_take (i := 57) (v := undef) rfl (by kernel_rfl) (by kernel_rfl) (by kernel_rfl) (by kernel_rfl) (fun _ _ _ h => h) (Or.inr ⟨by kernel_rfl, rfl⟩) (by assumption) ?r20188
                try simp only [Act.put, List.getElem_toArray, List.getElem_cons_zero, List.getElem_cons_succ, List.setIfInBounds_toArray, List.set_cons_zero, List.set_cons_succ]
                refine wpAnyL_take (i := 58) (v := undef) rfl (by kernel_rfl) (by kernel_rfl) (by kernel_rfl) (by kernel_rfl) (fun _ _ _ h => h) (Or.inr ⟨by kernel_rfl, rfl⟩) (by assumption) ?r20189
                try simp only [Act.put, List.getElem_toArray, List.getElem_cons_zero, List.getElem_cons_succ, List.setIfInBounds_toArray, List.set_cons_zero, List.set_cons_succ]
                refine wpAnyL_take (i := 59) (v := undef) rfl (by kernel_rfl) (by kernel_rfl) (by kernel_rfl) (by kernel_rfl) (fun _ _ _ h => h) (Or.inr ⟨by kernel_rfl, rfl⟩) (by assumption) ?r20190
                try simp only [Act.put, List.getElem_toArray, List.getElem_cons_zero, List.getElem_cons_succ, List.setIfInBounds_toArray, List.set_cons_zero, List.set_cons_succ]
                refine wpAnyL_take (i := 60) (v := undef) rfl (by kernel_rfl) (by kernel_rfl) (by kernel_rfl) (by kernel_rfl) (fun _ _ _ h => h) (Or.inr ⟨by kernel_rfl, rfl⟩) (by assumption) ?r20191
                try simp only [Act.put, List.getElem_toArray, List.getElem_cons_zero, List.getElem_cons_succ, List.setIfInBounds_toArray, List.set_cons_zero, List.set_cons_succ]
                refine wpAnyL_take (i := 61) (v := undef) rfl (by kernel_rfl) (by kernel_rfl) (by kernel_rfl) (by kernel_rfl) (fun _ _ _ h => h) (Or.inr ⟨by kernel_rfl, rfl⟩) (by assumption) ?r20192
                try simp only [Act.put, List.getElem_toArray, List.getElem_cons_zero, List.getElem_cons_succ, List.setIfInBounds_toArray, List.set_cons_zero, List.set_cons_succ]
                as_aux_lemma =>
                refine wpAnyL_take (i := 62) (v := undef) rfl (by kernel_rfl) (by kernel_rfl) (by kernel_rfl) (by kernel_rfl) (fun _ _ _ h => h) (Or.inr ⟨by kernel_rfl, rfl⟩) (by assumption) ?r20193
                try simp only [Act.put, List.getElem_toArray, List.getElem_cons_zero, List.getElem_cons_succ, List.setIfInBounds_toArray, List.set_cons_zero, List.set_cons_succ]
                refine wpAnyL_take (i := 63) (v := undef) rfl (by kernel_rfl) (by kernel_rfl) (by kernel_rfl) (by kernel_rfl) (fun _ _ _ h => h) (Or.inr ⟨by kernel_rfl, rfl⟩) (by assumption) ?r20194
                try simp only [Act.put, List.getElem_toArray, List.getElem_cons_zero, List.getElem_cons_succ, List.setIfInBounds_toArray, List.set_cons_zero, List.set_cons_succ]
                refine wpAnyL_take (i := 64) (v := undef) rfl (by kernel_rfl) (by kernel_rfl) (by kernel_rfl) (by kernel_rfl) (fun _ _ _ h => h) (Or.inr ⟨by kernel_rfl, rfl⟩) (by assumption) ?r20195
                try simp only [Act.put, List.getElem_toArray, List.getElem_cons_zero, List.getElem_cons_succ, List.setIfInBounds_toArray, List.set_cons_zero, List.set_cons_succ]
                refine wpAnyL_take (i := 65) (v := undef) rfl (by kernel_rfl) (by kernel_rfl) (by kernel_rfl) (by kernel_rfl) (fun _ _ _ h => h) (Or.inr ⟨by kernel_rfl, rfl⟩) (by assumption) ?r20196
                try simp only [Act.put, List.getElem_toArray, List.getElem_cons_zero, List.getElem_cons_succ, List.setIfInBounds_toArray, List.set_cons_zero, List.set_cons_succ]
                refine wpAnyL_take (i := 66) (v := undef) rfl (by kernel_rfl) (by kernel_rfl) (by kernel_rfl) (by kernel_rfl) (fun _ _ _ h => h) (Or.inr ⟨by kernel_rfl, rfl⟩) (by assumption) ?r20197
                try simp only [Act.put, List.getElem_toArray, List.getElem_cons_zero, List.getElem_cons_succ, List.setIfInBounds_toArray, List.set_cons_zero, List.set_cons_succ]
                refine wpAnyL_take (i := 67) (v := undef) rfl (by kernel_rfl) (by kernel_rfl) (by kernel_rfl) (by kernel_rfl) (fun _ _ _ h => h) (Or.inr ⟨by kernel_rfl, rfl⟩) (by assumption) ?r20198
                try simp only [Act.put, List.getElem_toArray, List.getElem_cons_zero, List.getElem_cons_succ, List.setIfInBounds_toArray, List.set_cons_zero, List.set_cons_succ]
                refine wpAnyL_take (i := 68) (v := undef) rfl (by kernel_rfl) (by kernel_rfl) (by kernel_rfl) (by kernel_rfl) (fun _ _ _ h => h) (Or.inr ⟨by kernel_rfl, rfl⟩) (by assumption) ?r20199
                try simp only [Act.put, List.getElem_toArray, List.getElem_cons_zero, List.getElem_cons_succ, List.setIfInBounds_toArray, List.set_cons_zero, List.set_cons_succ]
                refine wpAnyL_take (i := 69) (v := undef) rfl (by kernel_rfl) (by kernel_rfl) (by kernel_rfl) (by kernel_rfl) (fun _ _ _ h => h) (Or.inr ⟨by kernel_rfl, rfl⟩) (by assumption) ?r20200
                try simp only [Act.put, List.getElem_toArray, List.getElem_cons_zero, List.getElem_cons_succ, List.setIfInBounds_toArray, List.set_cons_zero, List.set_cons_succ]
                refine wpAnyL_take (i := 70) (v := undef) rfl (by kernel_rfl) (by kernel_rfl) (by kernel_rfl) (by kernel_rfl) (fun _ _ _ h => h) (Or.inr ⟨by kernel_rfl, rfl⟩) (by assumption) ?r20201
                try simp only [Act.put, List.getElem_toArray, List.getElem_cons_zero, List.getElem_cons_succ, List.setIfInBounds_toArray, List.set_cons_zero, List.set_cons_succ]
                as_aux_lemma =>
                refine wpAnyL_take (i := 71) (v := undef) rfl (by kernel_rfl) (by kernel_rfl) (by kernel_rfl) (by kernel_rfl) (fun _ _ _ h => h) (Or.inr ⟨by kernel_rfl, rfl⟩) (by assumption) ?r20202
                try simp only [Act.put, List.getElem_toArray, List.getElem_cons_zero, List.getElem_cons_succ, List.setIfInBounds_toArray, List.set_cons_zero, List.set_cons_succ]
                refine wpAnyL_take (i := 72) (v := undef) rfl (by kernel_rfl) (by kernel_rfl) (by kernel_rfl) (by kernel_rfl) (fun _ _ _ h => h) (Or.inr ⟨by kernel_rfl, rfl⟩) (by assumption) ?r20203
                try simp only [Act.put, List.getElem_toArray, List.getElem_cons_zero, List.getElem_cons_succ, List.setIfInBounds_toArray, List.set_cons_zero, List.set_cons_succ]
                refine wpAnyL_take (i := 73) (v := undef) rfl (by kernel_rfl) (by kernel_rfl) (by kernel_rfl) (by kernel_rfl) (fun _ _ _ h => h) (Or.inr ⟨by kernel_rfl, rfl⟩) (by assumption) ?r20204
                try simp only [Act.put, List.getElem_toArray, List.getElem_cons_zero, List.getElem_cons_succ, List.setIfInBounds_toArray, List.set_cons_zero, List.set_cons_succ]
                refine wpAnyL_take (i := 74) (v := undef) rfl (by kernel_rfl) (by kernel_rfl) (by kernel_rfl) (by kernel_rfl) (fun _ _ _ h => h) (Or.inr ⟨by kernel_rfl, rfl⟩) (by assumption) ?r20205
                try simp only [Act.put, List.getElem_toArray, List.getElem_cons_zero, List.getElem_cons_succ, List.setIfInBounds_toArray, List.set_cons_zero, List.set_cons_succ]
                refine wpAnyL_take (i := 75) (v := undef) rfl (by kernel_rfl) (by kernel_rfl) (by kernel_rfl) (by kernel_rfl) (fun _ _ _ h => h) (Or.inr ⟨by kernel_rfl, rfl⟩) (by assumption) ?r20206
                try simp only [Act.put, List.getElem_toArray, List.getElem_cons_zero, List.getElem_cons_succ, List.setIfInBounds_toArray, List.set_cons_zero, List.set_cons_succ]
                refine wpAnyL_take (i := 76) (v := ?v20207) rfl (by kernel_rfl) (by kernel_rfl) (by kernel_rfl) (by kernel_rfl) (fun _ _ _ h => h) (Or.inl ⟨by kernel_rfl, ?hy20207⟩) (by assumption) ?r20207
                case hy20207 => (intro W hSW; obtain ⟨hV0, s0, s1, s2, s3, s4, s5, s6, s7, s8, s9, s10, s11, s12, s13, s14, s15, s16, s17, s18, s19, s20⟩ := hSW; go_simp; try with_reducible rfl)
                try simp only [Act.put, List.getElem_toArray, List.getElem_cons_zero, List.getElem_cons_succ, List.setIfInBounds_toArray, List.set_cons_zero, List.set_cons_succ]
                refine wpAnyL_last (by kernel_rfl) rfl (fun K hK => ?_)
                go_simp
                refine hK.out _ _ ?_
                clear hK K
                try simp only [Act.put, List.getElem_toArray, List.getElem_cons_zero, List.getElem_cons_succ, List.setIfInBounds_toArray, List.set_cons_zero, List.set_cons_succ]
                refine wpAnyL_done (by kernel_rfl) ?_ _
                refine NoPanic.normal ?_
                have hV := hH.1
                clear hH HS p6 d0 d1 d2 d3 d4 d5 d6 d7 d8 d9 e0 e1 e2 e3 e4 e5 e6 e7 e8 e9
                go_wp2
                go_roundw
                case rel => exact ⟨p + 1, by go_num, by omega, hb.trans (hV.mono hb.size)⟩
                case measure => simp [intOf]; omega
            · obtain rfl : p = m := by omega
              have g5 : decide ((p : Int) < (p : Int)) = false := decide_eq_false (by omega)
              go_wp2
              go_roundw
              case rel => exact ⟨p + 1, by go_num, by omega, hb⟩
              case measure => simp [intOf]; omega
        · obtain rfl : m = X.l.length := by omega
          have g3 : decide ((X.l.length : Int) < (X.l.length : Int)) = false := decide_eq_false (by omega)
          rw [show X.a = X.a from rfl] at p6
          clear kx
          go_wp2
          go_roundw
          case rel => exact ⟨q + 1, by rw [HN.out], by go_num, by omega, hb⟩
          case measure => simp [intOf]; omega
    · obtain rfl : q = S.length := by omega
      have g1 : decide ((S.length : Int) < (S.length : Int)) = false := decide_eq_false (by omega)
      rw [List.take_length, HSum.out]
      go_wp2
      go_ret
      exact ⟨by simp, hB.trans (hb.mono hB.size)⟩
end Go.Proofs.YtogipnfhcimeoaaGreat
