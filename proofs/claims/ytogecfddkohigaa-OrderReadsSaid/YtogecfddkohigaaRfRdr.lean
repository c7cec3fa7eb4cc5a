/- the reference's reader: fail, Num, Range, Text -/
import Derived.Test.YtogecfddkohigaaRows
import Derived.Test.YtogecfddkohigaaRfNum
import Derived.Deep.Cut
import Derived.WalkKit
import Derived.WalkSpells
import Derived.WalkLawsBesides
import Derived.Deep.QuietTactic
import Derived.BigQuiet
import Derived.Laws.StructEq
import Derived.Deep.DeepFit
import Derived.StillTailTactics
namespace Go.Proofs.Ytogecfddkohigaa
open Go.RowKit
/-- block g holds a reader: its error, and what is left, which lies in block r -/
def RQ (w : World) (g r : Nat) (err : Int) (l : List UInt8) : Prop :=
  r ≠ g ∧ ∃ A c, w.heap[g]? = some (.cells #[.slice A l.length c, i64 err] 93 (0, 0)) ∧ SlS w (fun b => b = r) A c l
theorem RQ.lt {w : World} {g r : Nat} {err : Int} {l : List UInt8} (h : RQ w g r err l) : g < w.heap.size := by
  obtain ⟨_, _, _, hg, _⟩ := h
  exact (Array.getElem?_eq_some_iff.1 hg).1
theorem RQ.grown {w w' : World} {g r : Nat} {err : Int} {l : List UInt8} {row : Option Nat} (h : RQ w g r err l) (hk : w.grownBy w' row) (h1 : row ≠ some g) (h2 : row ≠ some r) (hr : r < w.heap.size) : RQ w' g r err l := by
  obtain ⟨hne, A, c, hg, hs⟩ := h
  refine ⟨hne, A, c, ?_, hs.keep (fun p hp => ?_) (fun _ h => h)⟩
  · rw [hk.block g (Array.getElem?_eq_some_iff.1 hg).1 (fun e => h1 e.symm), hg]
  · refine World.cell?_of_block (w := w) ?_
    rw [hp]
    exact hk.block r hr (fun e => h2 e.symm)
theorem RQ.later {w w' : World} {g r : Nat} {err : Int} {l : List UInt8} (h : RQ w g r err l) (hr : r < w.heap.size) (hb : Below w.heap.size w w') : RQ w' g r err l := h.grown (grown_of_below hb none) (by simp) (by simp) hr
set_option maxRecDepth 100000 in
set_option maxHeartbeats 400000 in
theorem qfail_c (g r : Nat) (err x : Int) (l : List UInt8) (w : World) (h : RQ w g r err l) :
    Calls Try.prog 113 #[.pointer (some ⟨g, 0, none⟩), i64 x] w fun e w' => e = .returned (i64 x) ∧ RQ w' g r x [] ∧ w.grownBy w' (some g) := by
  obtain ⟨hne, A, c, hg, hs⟩ := h
  have c0 := cell_of_row w g 0 _ _ (0, 0) hg
  have c1 := cell_of_row w g 1 _ _ (0, 0) hg
  have f0 := frozen_of_row w g 0 _ _ hg
  have f1 := frozen_of_row w g 1 _ _ hg
  have hS1 := heap_setCell_same w g 0 _ _ (.slice none 0 0) hg
  have hS2 := heap_setCell_same _ g 1 _ _ (i64 x) hS1
  have hG1 := grown_setCell (g := g) (World.grownBy.refl w (some g)) (p := ⟨g, 0, none⟩) (.inl rfl) (.slice none 0 0)
  have hG2 := grown_setCell (g := g) hG1 (p := ⟨g, 1, none⟩) (.inl rfl) (i64 x)
  have HS := Lib.hid hS2
  have HG := Lib.hid hG2
  clear hg hs hS1 hS2 hG1 hG2
  go_enter Try.func113, Try.ntmps113
  go_wp2
  go_ret
  refine ⟨rfl, ⟨hne, none, 0, ?_, SlS.nil_ _ _⟩, HG.out⟩
  rw [HS.out]
  rfl
/-- bytes that lie below lie in one block -/
theorem SlS.one_block {w : World} {n : Nat} {A : Option Addr} {c : Nat} {l : List UInt8} (h : Sl w n A c l) (hn : 0 < n) : ∃ r < n, SlS w (fun b => b = r) A c l := by
  obtain ⟨h1, h2, h3, h4⟩ := h
  by_cases hl : 0 < l.length
  · obtain ⟨b, o, hA, hb, hc⟩ := h3 hl
    exact ⟨b, hb, h1, h2, fun _ => ⟨b, o, hA, rfl, hc⟩, fun x hx => h4 x hx⟩
  · exact ⟨0, hn, h1, h2, fun h => absurd h hl, fun x hx => h4 x hx⟩
theorem RQ.of_cell {w : World} {g r : Nat} {err : Int} {l : List UInt8} (h : RQ w g r err l) : w.cell? ⟨g, 1, none⟩ = some (i64 err) := by
  obtain ⟨_, A, c, hg, _⟩ := h
  have := cell_of_row w g 1 _ _ (0, 0) hg
  simpa only [List.getElem?_toArray, List.getElem?_cons_zero, List.getElem?_cons_succ] using this
set_option maxRecDepth 100000 in
set_option maxHeartbeats 4000000 in
theorem qnum_c (g r : Nat) (err : Int) (l : List UInt8) (w : World) (h : RQ w g r err l) (hr : r < w.heap.size) (hn : l.length ≤ 65536) :
    Calls Try.prog 72 #[.pointer (some ⟨g, 0, none⟩)] w fun e w' => e = .returned (.tuple #[i64 (numRd err l).1.1, i64 (numRd err l).1.2]) ∧ RQ w' g r (numRd err l).2.1 (numRd err l).2.2 ∧ w.grownBy w' (some g) := by
  have H := Lib.hid h
  obtain ⟨hne, A, c, hg, hs⟩ := h
  have hglt := (Array.getElem?_eq_some_iff.1 hg).1
  have c0 := cell_of_row w g 0 _ _ (0, 0) hg
  have c1 := cell_of_row w g 1 _ _ (0, 0) hg
  simp only [List.getElem?_toArray, List.getElem?_cons_zero, List.getElem?_cons_succ] at c0 c1
  by_cases he : err = 0
  · subst he
    have HG := Lib.hid hg
    have hlc : l.length ≤ c := hs.1
    clear hg
    go_enter Try.func72, Try.ntmps72
    go_wp2_with fail
    go_loopw [4] (fun i wr => ∃ k : Nat, i = i64 k ∧ k ≤ l.length ∧ k ≤ 10 ∧ (∀ (j : Nat) (hj : j < l.length), j < k → 128 ≤ l[j].toNat) ∧ w = wr) (fun i _ => l.length - (intOf i).toNat)
    case atStart => exact ⟨0, rfl, by omega, by omega, fun j hj h => absurd h (by omega), rfl⟩
    case round =>
      obtain ⟨k, rfl, hk, hk10, hc, rfl⟩ := hrel
      have Hc := Lib.hid hc
      clear hc
      have i0 : (0 : Int) ≤ (k : Int) := by omega
      by_cases hlt : k < l.length
      · have t0 : decide ((k : Int) < (l.length : Int)) = true := decide_eq_true (by omega)
        have t9 : ((k : Int) == (l.length : Int)) = false := by rw [beq_eq_false_iff_ne]; omega
        by_cases k10 : k = 10
        · have t1 : decide ((k : Int) < (10 : Int)) = false := decide_eq_false (by omega)
          have t2 : ((k : Int) == 10) = true := by rw [beq_iff_eq]; omega
          have hL := Lib.hid (rf_over (l := l) (by omega) fun j hj hk => Hc.out j hj (by omega))
          clear Hc k10
          go_wp2_with fail
          refine (qfail_c g r 0 3 l _ H.out).mono ?_
          rintro e w3 ⟨rfl, hR, hG⟩
          go_wp2
          go_ret2
          rw [hL.out]
          exact ⟨rfl, hR, hG⟩
        · have t1 : decide ((k : Int) < (10 : Int)) = true := decide_eq_true (by omega)
          have t2 : ((k : Int) == 10) = false := by rw [beq_eq_false_iff_ne]; omega
          obtain ⟨b, o, rfl, hbr, -, hcc⟩ := hs.at_ hlt
          have hbr := hbr.symm
          subst hbr
          have d0 := hcc 0 _ rfl
          rw [show k * Enc.size UInt8 + 0 = k from Nat.mul_one k] at d0
          have i1 : (k : Int) < (l.length : Int) := by omega
          have hlb := l[k].toNat_lt
          clear hcc
          by_cases hb : 128 ≤ l[k].toNat
          · have t3 : decide ((128 : Int) ≤ ((l[k].toNat : Nat) : Int)) = true := decide_eq_true (by omega)
            have Hb := Lib.hid hb
            clear hb
            go_wp2
            go_roundw
            case rel => exact ⟨k + 1, by go_num, by omega, by omega, fun j hj hk => by
              rcases Nat.lt_succ_iff_lt_or_eq.1 hk with h1 | rfl
              · exact Hc.out j hj h1
              · exact Hb.out, trivial⟩
            case measure => simp [intOf]; omega
          · have t3 : decide ((128 : Int) ≤ ((l[k].toNat : Nat) : Int)) = false := decide_eq_false (by omega)
            have hLaw := Lib.hid (rf_num (l := l) hlt (by omega) (fun j hj => Hc.out j (by omega) hj) (by omega))
            clear Hc hb
            go_wp2_with fail
            go_loopw [5, 6] (fun m i wr => ∃ j : Nat, j ≤ k + 1 ∧ i = i64 ((j : Int) - 1) ∧ m = .int .u64 ((val7 ((l.take (k + 1)).drop j) % 18446744073709551616 : Nat) : Int) ∧ w = wr) (fun _ i _ => (intOf i + 1).toNat)
            case atStart => exact ⟨k + 1, Nat.le_refl _, by rw [show (((k + 1 : Nat) : Int) - 1) = (k : Int) by omega], by rw [List.drop_of_length_le (by simp; omega)]; rfl, rfl⟩
            case round =>
              obtain ⟨j, hj, rfl, rfl, rfl⟩ := hrel
              by_cases hj0 : 0 < j
              · obtain ⟨i, rfl⟩ : ∃ i, j = i + 1 := ⟨j - 1, by omega⟩
                have hil : i < l.length := by omega
                obtain ⟨b1, o1, hA1, -, -, hcc⟩ := hs.at_ hil
                injection hA1 with hA1
                injection hA1 with e1 e2
                subst e1 e2
                have d1 := hcc 0 _ rfl
                rw [show i * Enc.size UInt8 + 0 = i from Nat.mul_one i] at d1
                clear hcc
                rw [show (((i + 1 : Nat) : Int) - 1) = (i : Int) by omega]
                have hV : val7 ((l.take (k + 1)).drop i) % 18446744073709551616 = ((val7 ((l.take (k + 1)).drop (i + 1)) % 18446744073709551616) * 128 + l[i].toNat % 128) % 18446744073709551616 := by
                  have e : (l.take (k + 1)).drop i = l[i] :: (l.take (k + 1)).drop (i + 1) := by
                    rw [List.drop_eq_getElem_cons (by simp; omega)]
                    simp
                  rw [e, val7_app]
                  omega
                have HV := Lib.hid hV
                have hM := Nat.mod_lt (val7 ((l.take (k + 1)).drop (i + 1))) (show 18446744073709551616 > 0 by decide)
                generalize val7 ((l.take (k + 1)).drop (i + 1)) % 18446744073709551616 = M at *
                have s0 : (0 : Int) ≤ (i : Int) := by omega
                have s1 : (i : Int) < (l.length : Int) := by omega
                have hlb2 := l[i].toNat_lt
                have k0 : decide ((0 : Int) ≤ (i : Int)) = true := decide_eq_true s0
                have Hlaw := hLaw
                clear hV hLaw
                go_wp2
                go_roundw
                case rel => exact ⟨i, by omega, by go_num, by rw [HV.out, IntKind.wrap_u64, IntKind.wrap_u64]; congr 1; omega, trivial⟩
                case measure => simp [intOf]
              · obtain rfl : j = 0 := by omega
                rw [List.drop_zero]
                have hM := Nat.mod_lt (val7 (l.take (k + 1))) (show 18446744073709551616 > 0 by decide)
                generalize val7 (l.take (k + 1)) % 18446744073709551616 = M at *
                go_upto_if 77 with fail
                go_cut [7] from 10 (fun s7 wx => s7 = i64 (Lib.unzigzag M) ∧ w = wx)
                case first =>
                  by_cases hodd : M % 2 = 1
                  · have t5 : ((M : Int) % 2 == 1) = true := by rw [beq_iff_eq]; omega
                    have E := Lib.hid (show Lib.unzigzag M = -1 - (M : Int) / 2 by unfold Lib.unzigzag; rw [if_neg (by omega)]; omega)
                    rw [t5]
                    clear t5 hodd
                    go_wp2
                    go_meet
                    exact ⟨by rw [E.out], rfl⟩
                  · have t5 : ((M : Int) % 2 == 1) = false := by rw [beq_eq_false_iff_ne]; omega
                    have E := Lib.hid (show Lib.unzigzag M = (M : Int) / 2 by unfold Lib.unzigzag; rw [if_pos (by omega)]; omega)
                    rw [t5]
                    clear t5 hodd
                    go_wp2
                    go_meet
                    exact ⟨by rw [E.out], rfl⟩
                case rest =>
                obtain ⟨rfl, rfl⟩ := hcut
                have hv := unzig_in hM
                generalize Lib.unzigzag M = v at *
                have hC := Lib.hid (rnum2_c v w hv.1 hv.2)
                have hL10 := uvarint_le (Lib.zigzag_lt hv.1 hv.2)
                have hL10 : (numB v).length ≤ 10 := hL10
                generalize numB v = L2 at *
                clear hv hM
                go_wp2_with fail
                refine hC.out.mono ?_
                rintro e w1 ⟨va, rfl, hO, hB⟩
                obtain ⟨A2, c2, rfl, hs2⟩ := hO.sl
                clear hO hC
                by_cases hlen : L2.length = k + 1
                · have t6 : ((L2.length : Int) != (k : Int) + 1) = false := by rw [bne_eq_false_iff_eq]; omega
                  have hlc2 : L2.length ≤ c2 := hs2.1
                  go_wp2_with fail
                  go_loopw [9] (fun i wr => ∃ j : Nat, i = i64 j ∧ j ≤ k + 1 ∧ (∀ q, q < j → L2[q]? = l[q]?) ∧ Below w1.heap.size w1 wr) (fun i _ => k + 1 - (intOf i).toNat)
                  case atStart => exact ⟨0, rfl, by omega, fun q hq => absurd hq (by omega), Below.refl _ _⟩
                  case round =>
                    obtain ⟨j, rfl, hj, hq, hb⟩ := hrel
                    have Hq := Lib.hid hq
                    have hbw := below_on hB (Nat.le_refl _) hb
                    clear hq
                    by_cases hjk : j ≤ k
                    · have hjl : j < l.length := by omega
                      have hjl2 : j < L2.length := by omega
                      obtain ⟨b1, o1, hA1, -, -, hcc⟩ := hs.at_ hjl
                      injection hA1 with hA1
                      injection hA1 with e1 e2
                      subst e1 e2
                      have d1 := hcc 0 _ rfl
                      rw [show j * Enc.size UInt8 + 0 = j from Nat.mul_one j] at d1
                      obtain ⟨b2, o2, rfl, hb2l, -, hc2⟩ := hs2.at_ hjl2
                      have d2 := hc2 0 _ rfl
                      rw [show j * Enc.size UInt8 + 0 = j from Nat.mul_one j] at d2
                      have d1 := (hbw.cell (World.block_lt_of_cell? _ _ d1)).trans d1
                      have d2 := (hb.cell (World.block_lt_of_cell? _ _ d2)).trans d2
                      have c0 := (hbw.cell (World.block_lt_of_cell? _ _ c0)).trans c0
                      clear hcc hc2
                      have s0 : (0 : Int) ≤ (j : Int) := by omega
                      have s1 : (j : Int) < (l.length : Int) := by omega
                      have s2 : (j : Int) < (L2.length : Int) := by omega
                      have k0 : decide ((j : Int) ≤ (k : Int)) = true := decide_eq_true (by omega)
                      by_cases heq : L2[j] = l[j]
                      · have t7 : ((L2[j].toNat : Int) != (l[j].toNat : Int)) = false := by rw [heq]; simp
                        have Heq := Lib.hid heq
                        clear heq
                        go_wp2_with fail
                        go_quiet (fail)
                        go_wp2
                        go_roundw
                        case rel => exact ⟨j + 1, by go_num, by omega, fun q hq => by
                          rcases Nat.lt_succ_iff_lt_or_eq.1 hq with h1 | rfl
                          · exact Hq.out q h1
                          · rw [List.getElem?_eq_getElem hjl2, List.getElem?_eq_getElem hjl, Heq.out], below_drewN hb _⟩
                        case measure => simp [intOf]; omega
                      · have t7 : ((L2[j].toNat : Int) != (l[j].toNat : Int)) = true := by
                          rw [bne_iff_ne]
                          intro h
                          exact heq (UInt8.toNat_inj.1 (by omega))
                        have hZ := Lib.hid (show numRd 0 l = ((0, 3), (3, [])) by
                          rw [hLaw.out, if_neg]
                          intro h
                          apply heq
                          have h2 : L2[j]? = (l.take (k + 1))[j]? := by rw [h]
                          rw [List.getElem?_take_of_lt (by omega), List.getElem?_eq_getElem hjl2, List.getElem?_eq_getElem hjl] at h2
                          exact Option.some.inj h2)
                        have hRR := Lib.hid (fun W (h : Below w.heap.size w W) => qfail_c g _ 0 3 l W (H.out.later hr h))
                        clear heq hLaw
                        go_wp2_with fail
                        go_quiet (fail)
                        go_wp2_with fail
                        refine (hRR.out _ (below_drewN hbw _)).mono ?_
                        rintro e w3 ⟨rfl, hR, hG⟩
                        go_wp2
                        go_ret2
                        rw [hZ.out]
                        exact ⟨rfl, hR, grown_trans (grown_of_below (below_drewN hbw _) _) hG⟩
                    · obtain rfl : j = k + 1 := by omega
                      have hZ := Lib.hid (show numRd 0 l = ((v, 0), (0, l.drop (k + 1))) by
                        rw [hLaw.out, if_pos]
                        refine List.ext_getElem? fun q => ?_
                        rcases Nat.lt_or_ge q (k + 1) with h1 | h1
                        · rw [Hq.out q h1, List.getElem?_take_of_lt h1]
                        · rw [List.getElem?_eq_none (by omega), List.getElem?_eq_none (by simp; omega)])
                      have hgr := (hbw.block g hglt).trans HG.out
                      have c0 := (hbw.cell (p := ⟨g, 0, none⟩) hglt).trans c0
                      have f0 := frozen_of_row wr g 0 _ _ hgr
                      have Hgr := Lib.hid hgr
                      have s0 : (0 : Int) ≤ (k : Int) + 1 := by omega
                      have s1 : (k : Int) + 1 ≤ (l.length : Int) := by omega
                      have k0 : decide ((k : Int) + 1 ≤ (k : Int)) = false := decide_eq_false (by omega)
                      clear hgr Hq hLaw hjk
                      by_cases hcc : c = k + 1
                      · obtain rfl := hcc
                        have hset := Lib.hid (heap_setCell_same wr g 0 _ _ (.slice (some ⟨r, o, none⟩) 0 0) Hgr.out)
                        have hdr := Lib.hid (hs.drop (k := k + 1) (by omega))
                        have hG1 := grown_setCell (g := g) (World.grownBy.refl wr (some g)) (p := ⟨g, 0, none⟩) (.inl rfl) (.slice (some ⟨r, o, none⟩) 0 0)
                        go_wp2
                        go_ret2
                        rw [hZ.out]
                        have hnd : (l.drop (k + 1)).length = 0 := by rw [List.length_drop]; omega
                        refine ⟨rfl, ⟨hne, _, _, by rw [hset.out]; simp only [List.setIfInBounds_toArray, List.set_cons_zero, hnd]; rfl, ?_⟩, grown_trans (grown_of_below hbw _) hG1⟩
                        have := hdr.out
                        simp only [if_true, Nat.sub_self] at this
                        exact this.keep (fun p hp => World.cell?_of_block (w := w) (by rw [hp]; exact (hG1.block r (Nat.lt_of_lt_of_le hr hbw.size) (fun e => hne (by injection e))).trans (hbw.block r hr))) (fun _ h => h)
                      · have hset := Lib.hid (heap_setCell_same wr g 0 _ _ (.slice (some ⟨r, o + (k + 1), none⟩) (l.length - (k + 1)) (c - (k + 1))) Hgr.out)
                        have hdr := Lib.hid (hs.drop (k := k + 1) (by omega))
                        have hG1 := grown_setCell (g := g) (World.grownBy.refl wr (some g)) (p := ⟨g, 0, none⟩) (.inl rfl) (.slice (some ⟨r, o + (k + 1), none⟩) (l.length - (k + 1)) (c - (k + 1)))
                        go_wp2
                        go_ret2
                        rw [hZ.out]
                        have hnd : (l.drop (k + 1)).length = l.length - (k + 1) := by rw [List.length_drop]
                        refine ⟨rfl, ⟨hne, _, _, by rw [hset.out]; simp only [List.setIfInBounds_toArray, List.set_cons_zero, hnd]; rfl, ?_⟩, grown_trans (grown_of_below hbw _) hG1⟩
                        have := hdr.out
                        rw [if_neg hcc, Option.map_some, show (⟨r, o, none⟩ : Addr).add ((k + 1) * Enc.size UInt8) = ⟨r, o + (k + 1), none⟩ from by rw [show Enc.size UInt8 = 1 from rfl, Nat.mul_one]; unfold Addr.add; rw [if_neg (by omega)]] at this
                        exact this.keep (fun p hp => World.cell?_of_block (w := w) (by rw [hp]; exact (hG1.block r (Nat.lt_of_lt_of_le hr hbw.size) (fun e => hne (by injection e))).trans (hbw.block r hr))) (fun _ h => h)
                · have t6 : ((L2.length : Int) != (k : Int) + 1) = true := by rw [bne_iff_ne]; omega
                  have hZ := Lib.hid (show numRd 0 l = ((0, 3), (3, [])) by
                    rw [hLaw.out, if_neg]
                    intro h
                    apply hlen
                    rw [h, List.length_take]
                    omega)
                  have hRR := Lib.hid (fun W (h : Below w.heap.size w W) => qfail_c g _ 0 3 l W (H.out.later hr h))
                  clear hLaw
                  go_wp2_with fail
                  refine (hRR.out _ hB).mono ?_
                  rintro e w3 ⟨rfl, hR, hG⟩
                  go_wp2
                  go_ret2
                  rw [hZ.out]
                  exact ⟨rfl, hR, grown_trans (grown_of_below hB _) hG⟩
      · obtain rfl : k = l.length := by omega
        have t0 : decide ((l.length : Int) < (l.length : Int)) = false := decide_eq_false (by omega)
        have t9 : ((l.length : Int) == (l.length : Int)) = true := by rw [beq_iff_eq]
        have hL := Lib.hid (rf_torn (l := l) hk10 fun b hb => by
          obtain ⟨j, hj, rfl⟩ := List.getElem_of_mem hb
          exact Hc.out j hj hj)
        clear Hc hlt
        go_wp2_with fail
        refine (qfail_c g r 0 4 l _ H.out).mono ?_
        rintro e w3 ⟨rfl, hR, hG⟩
        go_wp2
        go_ret2
        rw [hL.out]
        exact ⟨rfl, hR, hG⟩
  · have g1 : (err != 0) = true := by simpa using he
    have hZ := Lib.hid (numRd_err he l)
    clear he
    go_enter Try.func72, Try.ntmps72
    go_wp2_with fail
    go_quiet (fail)
    go_wp2
    go_ret2
    rw [hZ.out]
    exact ⟨rfl, H.out.later hr (below_drewN (Below.refl _ _) _), grown_of_below (below_drewN (Below.refl _ _) _) _⟩
set_option maxRecDepth 100000 in
set_option maxHeartbeats 2000000 in
theorem qrange_c (g r : Nat) (lo hi err : Int) (l : List UInt8) (w : World) (h : RQ w g r err l) (hr : r < w.heap.size) (hn : l.length ≤ 65536) :
    Calls Try.prog 70 #[.pointer (some ⟨g, 0, none⟩), i64 lo, i64 hi] w fun e w' => e = .returned (.tuple #[i64 (rangeRd lo hi err l).1.1, i64 (rangeRd lo hi err l).1.2]) ∧ RQ w' g r (rangeRd lo hi err l).2.1 (rangeRd lo hi err l).2.2 ∧ w.grownBy w' (some g) := by
  have hN := Lib.hid (qnum_c g r err l w h hr hn)
  have HR : Hid (∀ q, q = numRd err l → rangeRd lo hi err l = if q.1.2 ≠ 0 then ((0, q.1.2), q.2) else if q.1.1 < lo ∨ hi < q.1.1 then ((0, 3), (3, [])) else ((q.1.1, 0), q.2)) := Lib.hid fun q hq => by subst hq; rfl
  have hN2 := HR.out _ rfl
  have HN2 := Lib.hid hN2
  clear HR hN2
  generalize rangeRd lo hi err l = Z at HN2 ⊢
  generalize numRd err l = q at hN HN2
  obtain ⟨⟨n, e⟩, x, t⟩ := q
  go_enter Try.func70, Try.ntmps70
  go_wp2_with fail
  refine hN.out.mono ?_
  rintro e1 w1 ⟨rfl, hR, hG⟩
  have HR := Lib.hid hR
  have HG := Lib.hid hG
  clear hR hG
  by_cases he : e = 0
  · subst he
    by_cases h1 : n < lo
    · have hZ := Lib.hid (show Z = ((0, 3), (3, [])) by rw [HN2.out, if_neg (by simp), if_pos (.inl h1)])
      have g1 : decide (n < lo) = true := decide_eq_true h1
      clear h1 HN2 hN
      go_wp2_with fail
      refine (qfail_c g r x 3 t _ HR.out).mono ?_
      rintro e w3 ⟨rfl, hR, hG⟩
      go_wp2
      go_ret2
      rw [hZ.out]
      exact ⟨rfl, hR, grown_trans HG.out hG⟩
    · by_cases h2 : hi < n
      · have hZ := Lib.hid (show Z = ((0, 3), (3, [])) by rw [HN2.out, if_neg (by simp), if_pos (.inr h2)])
        have g1 : decide (n < lo) = false := decide_eq_false h1
        have g2 : decide (hi < n) = true := decide_eq_true h2
        clear h1 h2 HN2 hN
        go_wp2_with fail
        refine (qfail_c g r x 3 t _ HR.out).mono ?_
        rintro e w3 ⟨rfl, hR, hG⟩
        go_wp2
        go_ret2
        rw [hZ.out]
        exact ⟨rfl, hR, grown_trans HG.out hG⟩
      · have hZ := Lib.hid (show Z = ((n, 0), (x, t)) by rw [HN2.out, if_neg (by simp), if_neg (by omega)])
        have g1 : decide (n < lo) = false := decide_eq_false h1
        have g2 : decide (hi < n) = false := decide_eq_false h2
        clear h1 h2 HN2 hN
        go_wp2
        go_ret2
        rw [hZ.out]
        exact ⟨rfl, HR.out, HG.out⟩
  · have hZ := Lib.hid (show Z = ((0, e), (x, t)) by rw [HN2.out, if_pos he])
    have g1 : (e != 0) = true := by simpa using he
    clear he HN2 hN
    go_wp2
    go_ret2
    rw [hZ.out]
    exact ⟨rfl, HR.out, HG.out⟩
set_option maxRecDepth 100000 in
set_option maxHeartbeats 4000000 in
theorem qtext_c (g r : Nat) (most err : Int) (l : List UInt8) (w : World) (h : RQ w g r err l) (hr : r < w.heap.size) (hn : l.length ≤ 65536) :
    Calls Try.prog 71 #[.pointer (some ⟨g, 0, none⟩), i64 most] w fun e w' => e = .returned (.tuple #[.string (textRd most err l).1.1, i64 (textRd most err l).1.2]) ∧ RQ w' g r (textRd most err l).2.1 (textRd most err l).2.2 ∧ w.grownBy w' (some g) := by
  have hN := Lib.hid (qrange_c g r 0 most err l w h hr hn)
  have hl := rangeRd_left 0 most err l
  have hi := rangeRd_in (lo := 0) (hi := most) (err := err) (l := l)
  have HN2 := Lib.hid (show textRd most err l = _ from rfl)
  unfold textRd at HN2
  have HN2 := Lib.hid (show ∀ q, q = rangeRd 0 most err l → textRd most err l = if q.1.2 ≠ 0 then ((⟨#[]⟩, q.1.2), q.2) else if (q.2.2.length : Int) < q.1.1 then ((⟨#[]⟩, 4), (4, [])) else ((⟨(q.2.2.take q.1.1.toNat).toArray⟩, 0), (0, q.2.2.drop q.1.1.toNat)) from fun q hq => by subst hq; rfl)
  have HN2 := Lib.hid (HN2.out _ rfl)
  generalize textRd most err l = Z at HN2 ⊢
  generalize rangeRd 0 most err l = q at hN HN2 hl hi
  obtain ⟨⟨n, e⟩, x, t⟩ := q
  obtain ⟨hl1, hl2⟩ := hl
  simp only at hl1 hl2 hi
  subst hl2
  go_enter Try.func71, Try.ntmps71
  go_wp2_with fail
  refine hN.out.mono ?_
  rintro e1 w1 ⟨rfl, hR, hG⟩
  have HR := Lib.hid hR
  have HG := Lib.hid hG
  clear hN
  have hr1 := Nat.lt_of_lt_of_le hr hG.size
  clear hG
  by_cases he : x = 0
  · subst he
    obtain ⟨hn0, hn1⟩ := hi rfl
    obtain ⟨m, rfl⟩ := Int.eq_ofNat_of_zero_le hn0
    clear hi hn0
    obtain ⟨hne, A, c, hg, hs⟩ := hR
    have c0 := cell_of_row w1 g 0 _ _ (0, 0) hg
    simp only [List.getElem?_toArray, List.getElem?_cons_zero] at c0
    have f0 := frozen_of_row w1 g 0 _ _ hg
    have hlc : t.length ≤ c := hs.1
    have Hg := Lib.hid hg
    have Hs := Lib.hid hs
    clear hg hs
    by_cases hm : t.length < m
    · have hZ := Lib.hid (show Z = ((⟨#[]⟩, 4), (4, [])) by rw [HN2.out, if_neg (by simp), if_pos (by omega)])
      have g1 : decide ((t.length : Int) < (m : Int)) = true := decide_eq_true (by omega)
      clear HN2
      go_wp2_with fail
      refine (qfail_c g r 0 4 t _ HR.out).mono ?_
      rintro e w3 ⟨rfl, hR, hG⟩
      go_wp2
      go_ret2
      rw [hZ.out]
      exact ⟨rfl, hR, grown_trans HG.out hG⟩
    · have hZ := Lib.hid (show Z = ((⟨(t.take m).toArray⟩, 0), (0, t.drop m)) by rw [HN2.out, if_neg (by simp), if_neg (by omega)]; rfl)
      have g1 : decide ((t.length : Int) < (m : Int)) = false := decide_eq_false (by omega)
      have hcv := conv_bytes (Hs.out.take m)
      rw [List.length_take, Nat.min_eq_left (by omega)] at hcv
      have j0 : (0 : Int) ≤ (m : Int) := by omega
      have j1 : (m : Int) ≤ (t.length : Int) := by omega
      have j2 : (t.length : Int) ≤ (c : Int) := by omega
      have j3 : (m : Int) ≤ (c : Int) := by omega
      have hdr := Lib.hid (Hs.out.drop (k := m) (by omega))
      have Hcv := Lib.hid hcv
      clear HN2
      by_cases hcm : c = m
      · obtain rfl := hcm
        have hset := Lib.hid (heap_setCell_same w1 g 0 _ _ (.slice A 0 0) Hg.out)
        have hG1 := grown_setCell (g := g) (World.grownBy.refl w1 (some g)) (p := ⟨g, 0, none⟩) (.inl rfl) (.slice A 0 0)
        have hnd : (t.drop c).length = 0 := by rw [List.length_drop]; omega
        go_wp2
        go_ret2
        rw [hZ.out]
        refine ⟨rfl, ⟨hne, _, _, by rw [hset.out]; simp only [List.setIfInBounds_toArray, List.set_cons_zero, hnd]; rfl, ?_⟩, grown_trans HG.out hG1⟩
        have := hdr.out
        simp only [if_true, Nat.sub_self] at this
        exact this.keep (fun p hp => World.cell?_of_block (w := w1) (by rw [hp]; exact hG1.block r hr1 (fun e => hne (by injection e)))) (fun _ h => h)
      · have hset := Lib.hid (heap_setCell_same w1 g 0 _ _ (.slice (Option.map (fun x : Addr => x.add m) A) (t.length - m) (c - m)) Hg.out)
        have hG1 := grown_setCell (g := g) (World.grownBy.refl w1 (some g)) (p := ⟨g, 0, none⟩) (.inl rfl) (.slice (Option.map (fun x : Addr => x.add m) A) (t.length - m) (c - m))
        have hnd : (t.drop m).length = t.length - m := List.length_drop ..
        go_wp2
        go_ret2
        rw [hZ.out]
        refine ⟨rfl, ⟨hne, _, _, by rw [hset.out]; simp only [List.setIfInBounds_toArray, List.set_cons_zero, hnd]; rfl, ?_⟩, grown_trans HG.out hG1⟩
        have := hdr.out
        rw [if_neg hcm, show Enc.size UInt8 = 1 from rfl, Nat.mul_one] at this
        exact this.keep (fun p hp => World.cell?_of_block (w := w1) (by rw [hp]; exact hG1.block r hr1 (fun e => hne (by injection e)))) (fun _ h => h)
  · have hZ := Lib.hid (show Z = ((⟨#[]⟩, x), (x, t)) by rw [HN2.out, if_pos he])
    have g1 : (x != 0) = true := by simpa using he
    clear he HN2 hi hR
    go_wp2
    go_ret2
    rw [hZ.out]
    exact ⟨rfl, HR.out, HG.out⟩
end Go.Proofs.Ytogecfddkohigaa
