/- clash.Swap -/
import Derived.Test.YtogecfddkohigaaRows
import Derived.Test.YtogecfddkohigaaClash
import Derived.Test.YtogecfddkohigaaSlO
import Derived.WalkKit
import Derived.WalkSpells
import Derived.WalkLawsBesides
import Derived.Deep.QuietTactic
import Derived.BigQuiet
import Derived.Laws.StructEq
import Derived.Deep.DeepFit
import Derived.StillTailTactics
namespace Go.Proofs.Ytogecfddkohigaa
open Go.RowKit
/-- may the orders at i and i + 1 change places? -/
def swapOk (l : List Od) (i : Int) : Bool := if h : 0 ≤ i ∧ i.toNat + 1 < l.length then !clashB l[i.toNat] (l[i.toNat + 1]'h.2) else false
def swapAt (l : List Od) (k : Nat) : List Od := if h : k + 1 < l.length then (l.set k l[k + 1]).set (k + 1) l[k] else l
def swapR (l : List Od) (i : Int) : List Od := if swapOk l i then swapAt l i.toNat else []

set_option maxRecDepth 100000 in
set_option maxHeartbeats 2000000 in
theorem swap_c (A : Option Addr) (c : Nat) (l : List Od) (i : Int) (w : World) (h : Sl w w.heap.size A c l) (hn : l.length ≤ 65536) (hl : ∀ x ∈ l, x.legs.length ≤ 10) :
    Calls Try.prog 48 #[.slice A l.length c, i64 i] w fun e w' => ∃ v, e = .returned (.tuple #[v, .bool (swapOk l i)]) ∧ Own w' w.heap.size 30 v (swapR l i) ∧ Below w.heap.size w w' := by
  by_cases h0 : 0 ≤ i
  · by_cases h1 : i.toNat + 1 < l.length
    · obtain ⟨k, rfl⟩ := Int.eq_ofNat_of_zero_le h0
      rw [Int.toNat_natCast] at h1
      have hg1 : decide ((k : Int) < 0) = false := by rw [decide_eq_false_iff_not]; omega
      have hg2 : decide ((l.length : Int) - 1 ≤ (k : Int)) = false := by rw [decide_eq_false_iff_not]; omega
      obtain ⟨b, o, rfl, hbb, hok, c0, c1, c2, c3, c4, c5, c6, c7, c8, c9⟩ := h.od (k := k) (by omega)
      obtain ⟨b', o', hA', _, hok', d0, d1, d2, d3, d4, d5, d6, d7, d8, d9⟩ := h.od h1
      injection hA' with hA'
      injection hA' with h2 h3
      subst h2 h3
      have Hok := Lib.hid hok
      have Hok' := Lib.hid hok'
      clear hok hok'
      have hw1 : IntKind.i64.wrap ((l.length : Int) - 1) = (l.length : Int) - 1 := by rw [IntKind.wrap_i64]; omega
      have hw2 : IntKind.i64.wrap ((k : Int) + 1) = (k : Int) + 1 := by rw [IntKind.wrap_i64]; omega
      have hw5 : (0 : Int) ≤ (k : Int) := by omega
      have hw6 : (k : Int) < (l.length : Int) := by omega
      have hw7 : (k : Int) + 1 < (l.length : Int) := by omega
      have hw3 : (0 : Int) ≤ (k : Int) + 1 := by omega
      have hw4 : ((k : Int) + 1).toNat = k + 1 := by omega
      go_enter Try.func48, Try.ntmps48
      go_wp2
      refine wp_region_still_tail 19 (by kernel_rfl) (by kernel_rfl) ?_
      simp only [List.take_succ_cons, List.take_zero, List.drop_succ_cons, List.drop_zero]
      change wpStill _ _ (World.drew _) (fun a' => wpList _ _ _ _ a' (World.drew _)) _ _
      repeat still_step
      refine wpStill_nil ?_
      go_wp2_with fail
      have hbd := (Below.refl w.heap.size w).drew
      refine (clash_c l[k] l[k + 1] _ (Okb.later Hok.out hbd) (Okb.later Hok'.out hbd) (hl _ (List.getElem_mem _)) (hl _ (List.getElem_mem _))).mono ?_
      rintro e w1 ⟨rfl, hb1⟩
      have hb2 := hbd.trans hb1
      have hso : swapOk l k = !clashB l[k] l[k + 1] := by
        unfold swapOk
        rw [dif_pos ⟨by omega, by simpa using h1⟩]
        simp
      have Hso := Lib.hid hso
      clear hso hbd hb1
      by_cases hc : clashB l[k] l[k + 1] = true
      · rw [hc]
        have Hr : Hid (swapOk l k = false) := Lib.hid (by rw [Hso.out, hc]; rfl)
        clear hc
        go_wp2
        go_ret2
        exact ⟨_, by rw [Hr.out]; rfl, by rw [swapR, Hr.out, if_neg (by simp)]; exact Own.nil_ _ _ _, hb2⟩
      · have hc' : clashB l[k] l[k + 1] = false := by simpa using hc
        rw [hc']
        have Hr : Hid (swapOk l k = true) := Lib.hid (by rw [Hso.out, hc']; rfl)
        clear hc hc' c0 c1 c2 c3 c4 c5 c6 c7 c8 c9 d0 d1 d2 d3 d4 d5 d6 d7 d8 d9
        go_wp2_with fail
        refine (clone_od _ c l _ (h.later hb2) hn).mono ?_
        rintro e w2 ⟨v2, rfl, hO2, hb3⟩
        have hb4 := hb2.trans (hb3.mono hb2.size)
        obtain ⟨gb, cp, cur0, rfl, hgb, _, hcap, hcapm, _, _⟩ := hO2.form (by omega)
        obtain ⟨A2, c2, hv2, hs2⟩ := hO2.sl
        injection hv2 with hA2 hB2 hC2
        subst hA2 hC2
        obtain ⟨b3, o3, hA3, _, hok3, c0, c1, c2, c3, c4, c5, c6, c7, c8, c9⟩ := hs2.od (k := k) (by omega)
        injection hA3 with hA3
        injection hA3 with hA4 hA5
        subst hA4 hA5
        obtain ⟨b4, o4, hA6, _, hok4, d0, d1, d2, d3, d4, d5, d6, d7, d8, d9⟩ := hs2.od h1
        injection hA6 with hA6
        injection hA6 with hA7 hA8
        subst hA7 hA8
        simp only [Nat.zero_add] at c0 c1 c2 c3 c4 c5 c6 c7 c8 c9 d0 d1 d2 d3 d4 d5 d6 d7 d8 d9
        have hfr := fun j => hO2.free j
        clear hB2 hok3 hok4 hs2 hcapm
        go_wp2_with fail
        go_region
        go_wp2
        go_ret2
        have hokA : Enc.ok w2 (Oth w2 (.slice (some ⟨gb, 0, none⟩) l.length cp)) l[k + 1] := hO2.2 _ (List.getElem_mem _)
        have hokB : Enc.ok w2 (Oth w2 (.slice (some ⟨gb, 0, none⟩) l.length cp)) l[k] := hO2.2 _ (List.getElem_mem _)
        obtain ⟨p1, p2⟩ := hO2.set_cells k (by omega) l[k + 1] hokA
        obtain ⟨p3, p4⟩ := p1.set_cells (k + 1) (by simpa using h1) l[k] (oth_grown p2 (.inl rfl) hokB)
        have hfin : swapR l k = (l.set k l[k + 1]).set (k + 1) l[k] := by
          rw [swapR, Hr.out, if_pos rfl, Int.toNat_natCast, swapAt, dif_pos h1]
        exact ⟨_, by rw [Hr.out]; rfl, by rw [hfin]; exact (p3.mono hb2.size).drew, ((hb4.grown p2 hb4.size (fun g hg => by injection hg with hg; have := hb2.size; omega)).grown p4 (by have := p2.size; have := hb4.size; omega) (fun g hg => by injection hg with hg; have := hb2.size; omega)).drew⟩
    · have hso : swapOk l i = false := by unfold swapOk; rw [dif_neg (fun h => h1 h.2)]
      have Hr := Lib.hid hso
      have hlm : l.length ≤ 65536 := hn
      have hg1 : decide (i < 0) = false := by rw [decide_eq_false_iff_not]; omega
      have hw1 : IntKind.i64.wrap ((l.length : Int) - 1) = (l.length : Int) - 1 := by rw [IntKind.wrap_i64]; omega
      have hg2 : decide ((l.length : Int) - 1 ≤ i) = true := by rw [decide_eq_true_eq]; omega
      clear hso h
      go_enter Try.func48, Try.ntmps48
      go_wp2
      go_quiet (fail)
      go_wp2
      go_ret2
      exact ⟨_, by rw [Hr.out]; rfl, by rw [swapR, Hr.out, if_neg (by simp)]; exact Own.nil_ _ _ _, below_drewN (Below.refl _ _) _⟩
  · have hso : swapOk l i = false := by unfold swapOk; rw [dif_neg (fun h => h0 h.1)]
    have Hr := Lib.hid hso
    have hg1 : decide (i < 0) = true := by rw [decide_eq_true_eq]; omega
    clear hso h
    go_enter Try.func48, Try.ntmps48
    go_wp2
    go_quiet (fail)
    go_wp2
    go_ret2
    exact ⟨_, by rw [Hr.out]; rfl, by rw [swapR, Hr.out, if_neg (by simp)]; exact Own.nil_ _ _ _, below_drewN (Below.refl _ _) _⟩
end Go.Proofs.Ytogecfddkohigaa
