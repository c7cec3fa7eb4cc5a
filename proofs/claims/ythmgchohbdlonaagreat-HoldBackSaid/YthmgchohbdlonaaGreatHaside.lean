/- law08.HoldAside -/
import Derived.Test.YthmgchohbdlonaaGreatRows
import Derived.Test.YthmgchohbdlonaaGreatHinv
import Derived.Test.YthmgchohbdlonaaGreatRf05S
import Derived.Test.YthmgchohbdlonaaGreatChAll
import Derived.WalkKit
import Derived.WalkSpells
import Derived.WalkLawsBesides
import Derived.Deep.QuietTactic
import Derived.BigQuiet
import Derived.Laws.StructEq
import Derived.Deep.DeepFit
import Derived.StillTailTactics
namespace Go.Proofs.YthmgchohbdlonaaGreat
open Go.RowKit
theorem SlS.op8 {w : World} {S : Nat → Prop} {c : Nat} {A : Option Addr} {l : List Op8} (h : SlS w S A c l) {k : Nat} (hk : k < l.length) : ∃ b o, A = some ⟨b, o, none⟩ ∧ S b ∧ (l[k].acct.size ≤ maxLen ∧ l[k].peer.size ≤ maxLen ∧ R64 l[k].sum) ∧
    w.cell? ⟨b, o + k * 5, none⟩ = some (i64 l[k].kind) ∧ w.cell? ⟨b, o + k * 5 + 1, none⟩ = some (i64 l[k].num) ∧ w.cell? ⟨b, o + k * 5 + 2, none⟩ = some (.string l[k].acct) ∧ w.cell? ⟨b, o + k * 5 + 3, none⟩ = some (.string l[k].peer) ∧ w.cell? ⟨b, o + k * 5 + 4, none⟩ = some (i64 l[k].sum) := by
  obtain ⟨b, o, hA, hb, hok, hc⟩ := h.at_ hk
  exact ⟨b, o, hA, hb, hok, hc 0 _ rfl, hc 1 _ rfl, hc 2 _ rfl, hc 3 _ rfl, hc 4 _ rfl⟩
set_option maxRecDepth 100000 in
set_option maxHeartbeats 16000000 in
theorem holdAside_c (A : Option Addr) (c : Nat) (l : List Op8) (w : World) (h : Sl w w.heap.size A c l) :
    Calls Tryz.prog 4 #[.slice A l.length c] w fun e w' => e = .returned (.bool true) ∧ Below w.heap.size w w' := by
  have hL := Lib.hid fun W => lives8_c W
  have hBg := Lib.hid fun W => begin_c W
  have hH := Lib.hid fun W => honewA_c W
  have Hl := Lib.hid h
  clear h
  go_enter Tryz.func4, Tryz.ntmps4
  go_wp2_with fail
  refine (hL.out _).mono ?_
  rintro e w1 ⟨rfl, hF⟩
  have hb1 := hF
  clear hL hF
  go_wp2_with fail
  refine (hBg.out _).mono ?_
  rintro e w2 ⟨g, b, r, rfl, hB⟩
  have hb2 := below_on hb1 (Nat.le_refl _) hB.be
  have hc2 := hB.ch
  have hgb : w.heap.size ≤ g ∧ w.heap.size ≤ b := by have := hB.ge; have := hb1.size; omega
  clear hBg hB hb1
  go_wp2_with fail
  refine (hH.out _).mono ?_
  rintro e w3 ⟨rfl, hh3, hF⟩
  have hb3 := below_on hb2 (Nat.le_refl _) hF
  have hc3 := hc2.later hF
  have hd : w2.heap.size + 1 ≠ b ∧ w2.heap.size ≠ b ∧ g ≠ w2.heap.size := by have := hc2.lt; omega
  have hbh : w.heap.size ≤ w2.heap.size := hb2.size
  generalize w2.heap.size + 1 = gh at *
  generalize w2.heap.size = bh at *
  have hE := Lib.hid (early_c A c l w3 (Hl.out.later hb3))
  clear hH hF hc2 hb2
  go_wp2_with fail
  refine hE.out.mono ?_
  rintro e w4 ⟨en, rfl, hm, hF⟩
  have hb4 := below_on hb3 (Nat.le_refl _) hF
  have hc4 := hc3.later hF
  have hh4 := hh3.later hF
  have Hm := Lib.hid (Hl.out.take en)
  generalize l.take en = m at *
  have hmc : m.length ≤ c := Hm.out.1
  clear hE hF hc3 hh3 hb3 Hl
  go_wp2_with fail
  go_loopw [6] (fun i wr => ∃ (n : Nat) (L : List Ac) (H : List Held), i = i64 n ∧ n ≤ m.length ∧ ChA wr g b L ∧ HoA wr gh bh H ∧ InvH L H ∧ H.length ≤ n ∧ L.length = 3 ∧ Below w.heap.size w wr) (fun i _ => m.length - (intOf i).toNat)
  case atStart => exact ⟨0, L0, [], rfl, Nat.zero_le _, hc4, hh4, inv_L0, Nat.le_refl _, rfl, hb4⟩
  case round =>
    obtain ⟨n, L, H, rfl, hn, hc, hh, hI, hHn, hL3, hB⟩ := hrel
    clear hc4 hh4 hb4
    by_cases hlt : n < m.length
    · have g1 : decide ((n : Int) < (m.length : Int)) = true := decide_eq_true (by omega)
      have g2 : decide (n < m.length) = true := decide_eq_true hlt
      obtain ⟨sb, so, rfl, hsb, hok, _, _, _, _, _⟩ := Hm.out.op8 hlt
      have i0 : (0 : Int) ≤ (n : Int) := by omega
      have HI := Lib.hid hI
      have HL3 := Lib.hid hL3
      have HHn := Lib.hid (show H.length ≤ 65536 by have := hm; omega)
      have HHn1 := Lib.hid hHn
      have Hok := Lib.hid hok
      have Hlt := Lib.hid hlt
      have HA := Lib.hid (challA_c g b L wr hc hI.okA (by omega))
      clear hI hL3 hHn hok
      go_wp2_with fail
      refine HA.out.mono ?_
      rintro e x1 ⟨v1, rfl, hO1, hF⟩
      have hT : ∀ k, wr.heap.size ≤ k → k ≠ b ∧ k ≠ bh := fun k hk => by have := hc.lt.2.1; have := hh.lt.2.1; omega
      obtain ⟨A1, c1, rfl, s1, -⟩ := hO1.slT hT (fun y hy => hO1.2 y hy)
      have hc1 := hc.later hF
      have hh1 := hh.later hF
      have hB1 := hB.trans (hF.mono hB.size)
      have HA2 := Lib.hid (hoall_c gh bh H x1 hh1 HI.out.okH HHn.out)
      clear HA hO1 hF hc hh hB
      go_wp2_with fail
      refine HA2.out.mono ?_
      rintro e x2 ⟨v2, rfl, hO2, hF⟩
      obtain ⟨A2, c2, rfl, -⟩ := hO2.sl
      have hc2 := hc1.later hF
      have hh2 := hh1.later hF
      have hs2 := s1.below_ hF
      have hB2 := hB1.trans (hF.mono hB1.size)
      have HD := Lib.hid (does_c g b gh bh L H m[n] x2 hc2 hh2 hd HI.out.okA HI.out.okH HHn.out Hok.out)
      have hm2 := Hm.out.below hB2
      obtain ⟨sb', so', hsb', _, _, d0, d1, d2, d3, d4⟩ := hm2.op8 hlt
      injection hsb' with hsb'
      injection hsb' with e1 e2
      subst e1 e2
      clear HA2 hO2 hF hc1 hh1 s1 hB1 hm2 hc2 hh2 hT
      have hI2 := HI.out.step m[n] Hok.out
      have hlA := stepH_lenA HI.out m[n]
      have hlH := stepH_len L H m[n]
      have her := stepH_err (L := L) (H := H) (x := m[n])
      obtain ⟨R, hR⟩ : ∃ R, stepH L H m[n] = R := ⟨_, rfl⟩
      rw [hR] at HD hI2 hlA hlH her
      obtain ⟨er, L2, H2⟩ := R
      dsimp only at HD hI2 hlA hlH her
      clear hR
      have HI2 := Lib.hid hI2
      have HlA := Lib.hid (show L2.length = 3 by rw [hlA]; exact HL3.out)
      have HlH := Lib.hid (show H2.length ≤ n + 1 by have := HHn1.out; omega)
      have Her := Lib.hid her
      clear hI2 hlA hlH her
      go_wp2_with fail
      refine HD.out.mono ?_
      rintro e x3 ⟨rfl, hc3, hh3, hG⟩
      have hB3 := hB2.trans (hG.below hB2.size (fun k hk => by rcases hk with rfl | rfl <;> omega))
      have hs3 : SlS x3 (fun k => k < x3.heap.size ∧ k ≠ b ∧ k ≠ bh) A1 c1 L := (hs2.grs hG (fun k hk => ⟨hk.1, fun e => by rcases e with e | e; exact hk.2.1 e; exact hk.2.2 e⟩)).mono (fun k hk => ⟨Nat.lt_of_lt_of_le hk.1 hG.size, hk.2⟩)
      have HA := Lib.hid (challA_c g b L2 x3 hc3 HI2.out.okA (by have := HlA.out; omega))
      clear HD hG hs2 hB2 d0 d1 d2 d3 d4
      go_wp2_with fail
      refine HA.out.mono ?_
      rintro e x4 ⟨v4, rfl, hO4, hF⟩
      obtain ⟨A4, c4, rfl, s4⟩ := hO4.sl
      have hc4 := hc3.later hF
      have hh4 := hh3.later hF
      have hs4 := hs3.below_ hF
      have hB4 := hB3.trans (hF.mono hB3.size)
      clear HA hO4 hF hc3 hh3 hs3 hB3
      by_cases he0 : er = 0
      · have q0 : (er != 0) = false := by rw [he0]; rfl
        clear he0
        go_wp2_with fail
        go_loopw [11] (fun k wr => ∃ j : Nat, k = i64 j ∧ j ≤ L2.length ∧ Below x4.heap.size x4 wr) (fun k _ => L2.length - (intOf k).toNat)
        case atStart => exact ⟨0, rfl, Nat.zero_le _, Below.refl _ _⟩
        case round =>
          obtain ⟨j, rfl, hj, hBy⟩ := hrel
          have hj3 : L2.length ≤ 1000 := by have := HlA.out; omega
          by_cases hjl : j < L2.length
          · have g3 : decide ((j : Int) < (L2.length : Int)) = true := decide_eq_true (by omega)
            have g4 : decide (j < L2.length) = true := decide_eq_true hjl
            have hlc4 : L2.length ≤ c4 := s4.1
            have sy := s4.later hBy
            obtain ⟨nb, no, rfl, _, _, f0, f1, f2, f3⟩ := sy.ac hjl
            have hset := HI2.out.set _ (List.getElem_mem hjl)
            have hfew := HI2.out.few (L2[j]).name
            have hsum := ofL_sums HI2.out.okH (L2[j]).name
            have hrs := (HI2.out.okA _ (List.getElem_mem hjl)).1.2.1
            have HO := Lib.hid (hoof_c gh bh H2 (L2[j]).name wr (hh4.later hBy) HI2.out.okH (by have := HlH.out; omega))
            obtain ⟨a, ha⟩ : ∃ a, L2[j] = a := ⟨_, rfl⟩
            rw [ha] at f0 f1 f2 f3 hset hfew hsum hrs HO
            generalize ofL H2 a.name = l5 at *
            have Hset := Lib.hid hset
            have Hfew := Lib.hid hfew
            have Hsum := Lib.hid hsum
            have Hrs := Lib.hid hrs
            clear hset hfew hsum hrs ha sy
            go_wp2_with fail
            refine HO.out.mono ?_
            rintro e y5 ⟨v5, rfl, hO5, hF⟩
            obtain ⟨A5, c5, rfl, s5⟩ := hO5.sl
            have hBy5 := hBy.trans (hF.mono hBy.size)
            have f2 := (hF.cell (p := ⟨nb, no + j * 4 + 2, none⟩) (World.block_lt_of_cell? _ _ f2)).trans f2
            have HBy5 := Lib.hid hBy5
            clear HO hO5 hF hBy f0 f1 f3 hBy5
            go_wp2_with fail
            go_loopw [13, 14] (fun s i wz => ∃ q : Nat, s = i64 (sumH (l5.take q)) ∧ i = i64 q ∧ q ≤ l5.length ∧ wz = y5) (fun _ i _ => l5.length - (intOf i).toNat)
            case atStart => exact ⟨0, rfl, rfl, Nat.zero_le _, rfl⟩
            case round =>
              obtain ⟨q, rfl, rfl, hq, rfl⟩ := hrel
              by_cases hql : q < l5.length
              · have g5 : decide ((q : Int) < (l5.length : Int)) = true := decide_eq_true (by omega)
                have g6 : decide (q < l5.length) = true := decide_eq_true hql
                obtain ⟨hb, ho, rfl, _, _, k0, k1, k2⟩ := s5.held hql
                have hlc5 : l5.length ≤ c5 := s5.1
                have Hfw := Lib.hid (show sumH (l5.take q) + l5[q].sum = sumH (l5.take (q + 1)) by rw [List.take_succ_eq_append_getElem hql, sumH_snoc])
                have hwr : IntKind.i64.wrap (sumH (l5.take q) + l5[q].sum) = sumH (l5.take (q + 1)) := by
                  have h1 := sumH_take_le Hsum.out (q + 1)
                  rw [Hfw.out, IntKind.wrap_i64]
                  have := Hset.out
                  have := Hrs.out.2
                  omega
                have hq1 : IntKind.i64.wrap ((q : Int) + 1) = ((q + 1 : Nat) : Int) := by rw [IntKind.wrap_i64]; have := Hfew.out; omega
                generalize l5[q].sum = u at *
                generalize hS : sumH (l5.take q) = S1 at *
                generalize hS2 : sumH (l5.take (q + 1)) = S2 at *
                clear hS Hfw
                have HS2 := Lib.hid hS2
                clear hS2
                go_wp2
                go_roundw
                case rel => exact ⟨q + 1, by rw [HS2.out], by go_num, by omega, trivial⟩
                case measure => simp [intOf]; omega
              · have g5 : decide ((q : Int) < (l5.length : Int)) = false := decide_eq_false (by omega)
                have g6 : decide (q < l5.length) = false := decide_eq_false hql
                have e1 : sumH (l5.take q) = a.set_ := by rw [List.take_of_length_le (by omega)]; exact Hset.out.symm
                have e2 : (a.set_ != a.set_) = false := by simp
                have e3 : decide ((8 : Int) < (l5.length : Int)) = false := decide_eq_false (by have := Hfew.out; omega)
                have e4 : decide (8 < l5.length) = false := decide_eq_false (by have := Hfew.out; omega)
                rw [e1]
                clear e1
                go_wp2
                go_roundw
                case rel => exact ⟨j + 1, by go_num, by omega, HBy5.out⟩
                case measure => simp [intOf]; omega
          · have g3 : decide ((j : Int) < (L2.length : Int)) = false := decide_eq_false (by omega)
            have g4 : decide (j < L2.length) = false := decide_eq_false hjl
            have HBy := Lib.hid hBy
            clear hBy
            go_wp2_with fail
            go_roundw
            case rel => exact ⟨n + 1, L2, H2, by go_num, by omega, hc4.later HBy.out, hh4.later HBy.out, HI2.out, HlH.out, HlA.out, hB4.trans (HBy.out.mono hB4.size)⟩
            case measure => simp [intOf]; have := Hlt.out; omega
      · have q0 : (er != 0) = true := bne_iff_ne.2 he0
        have hLH := Her.out he0
        injection hLH with e1 e2
        have HS := Lib.hid (rsame5_c _ _ A1 A4 c1 c4 L L2 x4 hs4 s4 (by have := HL3.out; omega) (by have := HlA.out; omega))
        rw [show decide (L = L2) = true from decide_eq_true e1.symm] at HS
        have HH2 := Lib.hid (show H2.length = H.length by rw [e2])
        clear he0 e1 e2
        go_wp2_with fail
        refine HS.out.mono ?_
        rintro e x5 ⟨rfl, hF⟩
        have hc5 := hc4.later hF
        have hh5 := hh4.later hF
        have s5 := s4.later hF
        have hB5 := hB4.trans (hF.mono hB4.size)
        have HA := Lib.hid (hoall_c gh bh H2 x5 hh5 HI2.out.okH (by have := HlH.out; omega))
        clear HS hF hc4 hh4 s4 hs4 hB4
        go_wp2_with fail
        refine HA.out.mono ?_
        rintro e x6 ⟨v6, rfl, hO6, hF⟩
        obtain ⟨A6, c6, rfl, -⟩ := hO6.sl
        have hc6 := hc5.later hF
        have hh6 := hh5.later hF
        have s6 := s5.later hF
        have hB6 := hB5.trans (hF.mono hB5.size)
        clear HA hO6 hF hc5 hh5 s5 hB5
        rw [HH2.out]
        have q1 : ((H.length : Int) != (H.length : Int)) = false := by simp
        go_wp2_with fail
        go_loopw [11] (fun k wr => ∃ j : Nat, k = i64 j ∧ j ≤ L2.length ∧ Below x6.heap.size x6 wr) (fun k _ => L2.length - (intOf k).toNat)
        case atStart => exact ⟨0, rfl, Nat.zero_le _, Below.refl _ _⟩
        case round =>
          obtain ⟨j, rfl, hj, hBy⟩ := hrel
          have hj3 : L2.length ≤ 1000 := by have := HlA.out; omega
          by_cases hjl : j < L2.length
          · have g3 : decide ((j : Int) < (L2.length : Int)) = true := decide_eq_true (by omega)
            have g4 : decide (j < L2.length) = true := decide_eq_true hjl
            have hlc4 : L2.length ≤ c4 := s6.1
            have sy := s6.later hBy
            obtain ⟨nb, no, rfl, _, _, f0, f1, f2, f3⟩ := sy.ac hjl
            have hset := HI2.out.set _ (List.getElem_mem hjl)
            have hfew := HI2.out.few (L2[j]).name
            have hsum := ofL_sums HI2.out.okH (L2[j]).name
            have hrs := (HI2.out.okA _ (List.getElem_mem hjl)).1.2.1
            have HO := Lib.hid (hoof_c gh bh H2 (L2[j]).name wr (hh6.later hBy) HI2.out.okH (by have := HlH.out; omega))
            obtain ⟨a, ha⟩ : ∃ a, L2[j] = a := ⟨_, rfl⟩
            rw [ha] at f0 f1 f2 f3 hset hfew hsum hrs HO
            generalize ofL H2 a.name = l5 at *
            have Hset := Lib.hid hset
            have Hfew := Lib.hid hfew
            have Hsum := Lib.hid hsum
            have Hrs := Lib.hid hrs
            clear hset hfew hsum hrs ha sy
            go_wp2_with fail
            refine HO.out.mono ?_
            rintro e y5 ⟨v5, rfl, hO5, hF⟩
            obtain ⟨A5, c5, rfl, s5⟩ := hO5.sl
            have hBy5 := hBy.trans (hF.mono hBy.size)
            have f2 := (hF.cell (p := ⟨nb, no + j * 4 + 2, none⟩) (World.block_lt_of_cell? _ _ f2)).trans f2
            have HBy5 := Lib.hid hBy5
            clear HO hO5 hF hBy f0 f1 f3 hBy5
            go_wp2_with fail
            go_loopw [13, 14] (fun s i wz => ∃ q : Nat, s = i64 (sumH (l5.take q)) ∧ i = i64 q ∧ q ≤ l5.length ∧ wz = y5) (fun _ i _ => l5.length - (intOf i).toNat)
            case atStart => exact ⟨0, rfl, rfl, Nat.zero_le _, rfl⟩
            case round =>
              obtain ⟨q, rfl, rfl, hq, rfl⟩ := hrel
              by_cases hql : q < l5.length
              · have g5 : decide ((q : Int) < (l5.length : Int)) = true := decide_eq_true (by omega)
                have g6 : decide (q < l5.length) = true := decide_eq_true hql
                obtain ⟨hb, ho, rfl, _, _, k0, k1, k2⟩ := s5.held hql
                have hlc5 : l5.length ≤ c5 := s5.1
                have Hfw := Lib.hid (show sumH (l5.take q) + l5[q].sum = sumH (l5.take (q + 1)) by rw [List.take_succ_eq_append_getElem hql, sumH_snoc])
                have hwr : IntKind.i64.wrap (sumH (l5.take q) + l5[q].sum) = sumH (l5.take (q + 1)) := by
                  have h1 := sumH_take_le Hsum.out (q + 1)
                  rw [Hfw.out, IntKind.wrap_i64]
                  have := Hset.out
                  have := Hrs.out.2
                  omega
                have hq1 : IntKind.i64.wrap ((q : Int) + 1) = ((q + 1 : Nat) : Int) := by rw [IntKind.wrap_i64]; have := Hfew.out; omega
                generalize l5[q].sum = u at *
                generalize hS : sumH (l5.take q) = S1 at *
                generalize hS2 : sumH (l5.take (q + 1)) = S2 at *
                clear hS Hfw
                have HS2 := Lib.hid hS2
                clear hS2
                go_wp2
                go_roundw
                case rel => exact ⟨q + 1, by rw [HS2.out], by go_num, by omega, trivial⟩
                case measure => simp [intOf]; omega
              · have g5 : decide ((q : Int) < (l5.length : Int)) = false := decide_eq_false (by omega)
                have g6 : decide (q < l5.length) = false := decide_eq_false hql
                have e1 : sumH (l5.take q) = a.set_ := by rw [List.take_of_length_le (by omega)]; exact Hset.out.symm
                have e2 : (a.set_ != a.set_) = false := by simp
                have e3 : decide ((8 : Int) < (l5.length : Int)) = false := decide_eq_false (by have := Hfew.out; omega)
                have e4 : decide (8 < l5.length) = false := decide_eq_false (by have := Hfew.out; omega)
                rw [e1]
                clear e1
                go_wp2
                go_roundw
                case rel => exact ⟨j + 1, by go_num, by omega, HBy5.out⟩
                case measure => simp [intOf]; omega
          · have g3 : decide ((j : Int) < (L2.length : Int)) = false := decide_eq_false (by omega)
            have g4 : decide (j < L2.length) = false := decide_eq_false hjl
            have HBy := Lib.hid hBy
            clear hBy
            go_wp2_with fail
            go_roundw
            case rel => exact ⟨n + 1, L2, H2, by go_num, by omega, hc6.later HBy.out, hh6.later HBy.out, HI2.out, HlH.out, HlA.out, hB6.trans (HBy.out.mono hB6.size)⟩
            case measure => simp [intOf]; have := Hlt.out; omega
    · have g1 : decide ((n : Int) < (m.length : Int)) = false := decide_eq_false (by omega)
      have g2 : decide (n < m.length) = false := decide_eq_false hlt
      go_wp2
      go_ret
      exact ⟨rfl, hB⟩
end Go.Proofs.YthmgchohbdlonaaGreat
