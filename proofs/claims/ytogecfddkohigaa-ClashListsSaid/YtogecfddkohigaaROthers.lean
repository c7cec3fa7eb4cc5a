/- ref10.others -/
import Derived.Test.YtogecfddkohigaaRows
import Derived.Test.YtogecfddkohigaaLaw10
import Derived.Test.YtogecfddkohigaaAt
import Derived.WalkKit
import Derived.WalkSpells
import Derived.WalkLawsBesides
import Derived.Deep.QuietTactic
import Derived.BigQuiet
import Derived.Laws.StructEq
import Derived.Deep.DeepFit
import Derived.StillTailTactics
namespace Go.Proofs.Ytogecfddkohigaa
open Go.RowKit
theorem at_neg (a : List Od) (i : Id) : atIdx a i < 0 ↔ (posN a i).isSome = false := by
  constructor
  · intro h
    rw [← Bool.not_eq_true, posN_isSome]
    intro hx
    have := at_in hx
    omega
  · intro h
    rw [← Bool.not_eq_true, posN_isSome] at h
    exact at_out fun y hy e => h ⟨y, hy, e⟩
theorem othersL_pos {a l : List Od} {k : Nat} (h : k < l.length) (hat : atIdx a l[k].id < 0) : othersL a (l.take (k + 1)) = othersL a (l.take k) ++ [l[k]] := by
  unfold othersL
  rw [List.take_succ_eq_append_getElem h, List.filter_append, List.filter_cons_of_pos (by rw [(at_neg _ _).1 hat]; rfl), List.filter_nil]
theorem othersL_neg {a l : List Od} {k : Nat} (h : k < l.length) (hat : ¬ atIdx a l[k].id < 0) : othersL a (l.take (k + 1)) = othersL a (l.take k) := by
  unfold othersL
  rw [List.take_succ_eq_append_getElem h, List.filter_append, List.filter_cons_of_neg (by rw [at_neg] at hat; simp only [Bool.not_eq_false] at hat; rw [hat]; simp), List.filter_nil, List.append_nil]
set_option maxRecDepth 100000 in
set_option maxHeartbeats 1000000 in
theorem rothers_c (A C : Option Addr) (d c : Nat) (a l : List Od) (w : World) (ha : Sl w w.heap.size A d a) (h : Sl w w.heap.size C c l) (hna : a.length ≤ 65536) (hn : l.length ≤ 65536) :
    Calls Try.prog 54 #[.slice A a.length d, .slice C l.length c] w fun e w' => ∃ v, e = .returned v ∧ Own w' w.heap.size 30 v (othersL a l) ∧ Below w.heap.size w w' := by
  go_enter Try.func54, Try.ntmps54
  go_wp2_with fail
  go_loopw [5, 6] (fun v i wr => ∃ k : Nat, i = i64 k ∧ k ≤ l.length ∧ Own wr w.heap.size 30 v (othersL a (l.take k)) ∧ Below w.heap.size w wr) (fun _ i _ => l.length - (intOf i).toNat)
  case atStart => exact ⟨0, rfl, by omega, Own.nil_ _ _ _, Below.refl _ _⟩
  case round =>
    obtain ⟨k, rfl, hk, hO, hb⟩ := hrel
    by_cases hlt : k < l.length
    · obtain ⟨b, o, rfl, hbb, hok, c0, c1, c2, c3, c4, c5, c6, c7, c8, c9⟩ := (h.below hb).od hlt
      have Hok := Lib.hid hok
      have HO := Lib.hid hO
      have HB := Lib.hid hb
      clear hok hO
      go_wp2_with fail
      refine (at_any A d a l[k].id _ (ha.keep (fun _ hp => HB.out.cell hp) (fun _ hp => Nat.lt_of_lt_of_le hp HB.out.size)) hna).mono ?_
      rintro e w1 ⟨rfl, hb1⟩
      have hbw := HB.out.trans (hb1.mono HB.out.size)
      have hO1 := HO.out.later hb1
      obtain ⟨_, _, hA1, _, hok1, d0, d1, d2, d3, d4, d5, d6, d7, d8, d9⟩ := (h.below hbw).od hlt
      injection hA1 with hA1
      injection hA1 with hA2 hA3
      subst hA2 hA3
      have Hok1 := Lib.hid hok1
      have HO1 := Lib.hid hO1
      clear hok1 hO1 hb1 c0 c1 c2 c3 c4 c5 c6 c7 c8 c9
      by_cases hat : atIdx a l[k].id < 0
      · have hq : decide (atIdx a l[k].id < 0) = true := decide_eq_true hat
        have Hs := Lib.hid (show othersL a (l.take (k + 1)) = othersL a (l.take k) ++ [l[k]] from othersL_pos hlt hat)
        have Hk := Lib.hid (Nat.le_trans (othersL_len a (l.take k)) (List.length_take_le k l))
        have hB2 := (Below.refl w1.heap.size w1).alloc (Nat.le_refl _) (.cells l[k].cells.toArray 30)
        have hb2 := hbw.trans (hB2.mono hbw.size)
        have hO2 := HO1.out.later hB2
        have HO2 := Lib.hid hO2
        have Hok2 := Lib.hid (Enc.keep (x := l[k]) Hok1.out (fun _ hp => hB2.cell (Nat.lt_of_lt_of_le hp hbw.size)) (hO2.oth (Nat.le_refl _) hb2.size))
        have HH := Lib.hid (heap_alloc_new w1 (.cells l[k].cells.toArray 30))
        have Hne := Lib.hid (HO1.out.new_ne (Nat.le_refl w1.heap.size))
        have Hb2 := Lib.hid hb2
        clear hO2 hb2 hB2 hat
        simp only [Od.cells] at HO2 HH Hb2 Hok2
        generalize atIdx a l[k].id = r at *
        go_wp2_with (at_builtin; refine wpList_append_one rfl (some 27) (.tmp 21) (.tmp 26) 22 rfl rfl _ 120 Try.underlying22 inf_od rfl (by decide) (by decide) rfl HO2.out w1.heap.size l[k] rfl _ 30 HH.out rfl Hne.out Hok2.out (by have := Hk.out; omega) Hb2.out.size ?_; intro v3 w3 hO3 hg3 hat3)
        go_roundw
        case rel => exact ⟨k + 1, by go_num, by omega, by rw [Hs.out]; exact hO3, Hb2.out.trans (HO2.out.below hg3 (Nat.le_refl _) Hb2.out.size)⟩
        case measure => simp [intOf]; omega
      · have hq : decide (atIdx a l[k].id < 0) = false := decide_eq_false hat
        have Hs := Lib.hid (show othersL a (l.take (k + 1)) = othersL a (l.take k) from othersL_neg hlt hat)
        clear hat
        generalize atIdx a l[k].id = r at *
        go_wp2
        go_roundw
        case rel => exact ⟨k + 1, by go_num, by omega, by rw [Hs.out]; exact HO1.out, hbw⟩
        case measure => simp [intOf]; omega
    · obtain rfl : k = l.length := by omega
      rw [List.take_length] at hO
      go_wp2
      go_ret
      exact ⟨_, rfl, hO, hb⟩
end Go.Proofs.Ytogecfddkohigaa
