/- law08.does, early -/
import Derived.Test.YthmgchohbdlonaaGreatRows
import Derived.Test.YthmgchohbdlonaaGreatHnil
import Derived.Test.YthmgchohbdlonaaGreatHoPut
import Derived.Test.YthmgchohbdlonaaGreatHoTake
import Derived.WalkKit
import Derived.WalkSpells
import Derived.WalkLawsBesides
import Derived.Deep.QuietTactic
import Derived.BigQuiet
import Derived.Laws.StructEq
import Derived.Deep.DeepFit
import Derived.StillTailTactics
namespace Go.Proofs.YthmgchohbdlonaaGreat
open Go.RowKit
/-- countinghouselaw08.does -/
def stepH (L : List Ac) (H : List Held) (x : Op8) : Int × List Ac × List Held :=
  if umod x.kind 4 = 0 then putH L H ⟨x.num, x.acct, x.sum⟩ else if umod x.kind 4 = 1 then takeH L H x.acct x.num x.peer x.sum else if umod x.kind 4 = 2 then freeHL L H x.acct x.num
  else ((turnL (givD x.sum) L x.acct x.sum).1, (turnL (givD x.sum) L x.acct x.sum).2, H)
def GH (b bh : Nat) : Nat → Prop := fun k => k = b ∨ k = bh
theorem gh_trans {w w1 w2 : World} {b bh : Nat} (h : Below w.heap.size w w1) (k : Gr w1 w2 (GH b bh)) : Gr w w2 (GH b bh) := (Gr.of_below h (GH b bh)).trans k (fun _ e => .inl e)
set_option maxRecDepth 100000 in
set_option maxHeartbeats 4000000 in
theorem does_c (g b gh bh : Nat) (L : List Ac) (H : List Held) (x : Op8) (w : World) (hc : ChA w g b L) (hh : HoA w gh bh H) (hd : gh ≠ b ∧ bh ≠ b ∧ g ≠ bh) (hL : OkA L) (hH : OkH H) (hn : H.length ≤ 65536) (hok : x.acct.size ≤ maxLen ∧ x.peer.size ≤ maxLen ∧ R64 x.sum) :
    Calls Tryz.prog 10 #[.pointer (some ⟨gh, 0, none⟩), .pointer (some ⟨g, 0, none⟩), x.v] w fun e w' => e = .returned (i64 (stepH L H x).1) ∧ ChA w' g b (stepH L H x).2.1 ∧ HoA w' gh bh (stepH L H x).2.2 ∧ Gr w w' (GH b bh) := by
  have hb0 := (Below.refl w.heap.size w).alloc (Nat.le_refl _) (.cells #[i64 x.kind, i64 x.num, .string x.acct, .string x.peer, i64 x.sum] 38)
  have hg := heap_alloc_new w (.cells #[i64 x.kind, i64 x.num, .string x.acct, .string x.peer, i64 x.sum] 38)
  have hK := Lib.hid fun W => kind_c x W
  have hu : 0 ≤ umod x.kind 4 ∧ umod x.kind 4 < 4 := by unfold umod; omega
  have hc0 := hc.later hb0
  have hh0 := hh.later hb0
  have Hk := Lib.hid (⟨hd, hL, hH, hn, hok⟩ : (gh ≠ b ∧ bh ≠ b ∧ g ≠ bh) ∧ OkA L ∧ OkH H ∧ H.length ≤ 65536 ∧ (x.acct.size ≤ maxLen ∧ x.peer.size ≤ maxLen ∧ R64 x.sum))
  obtain ⟨R, hR⟩ : ∃ R, stepH L H x = R := ⟨_, rfl⟩
  rw [hR]
  unfold stepH at hR
  generalize umod x.kind 4 = u at *
  have HR := Lib.hid hR.symm
  clear hc hh hd hL hH hn hok hR
  go_enter Tryz.func10, Tryz.ntmps10
  go_wp2_with fail
  generalize w.alloc (.cells #[i64 x.kind, i64 x.num, .string x.acct, .string x.peer, i64 x.sum] 38) = w0 at *
  refine (hK.out _).mono ?_
  rintro e w1 ⟨rfl, hF⟩
  have hg1 := (hF.block _ (Array.getElem?_eq_some_iff.1 hg).1).trans hg
  have hb1 := below_on hb0 (Nat.le_refl _) hF
  have hc1 := hc0.later hF
  have hh1 := hh0.later hF
  have m1 := cell_of_row _ w.heap.size 1 _ _ (0, 0) hg1
  have m2 := cell_of_row _ w.heap.size 2 _ _ (0, 0) hg1
  have m3 := cell_of_row _ w.heap.size 3 _ _ (0, 0) hg1
  have m4 := cell_of_row _ w.heap.size 4 _ _ (0, 0) hg1
  simp only [List.getElem?_toArray, List.getElem?_cons_zero, List.getElem?_cons_succ] at m1 m2 m3 m4
  clear hK hF hg hb0 hg1 hc0 hh0
  by_cases h0 : u = 0
  · have g0 : (u == 0) = true := by rw [h0]; rfl
    have hP := Lib.hid (hoput_c g b gh bh L H ⟨x.num, x.acct, x.sum⟩ w1 hc1 hh1 Hk.out.1 Hk.out.2.1 Hk.out.2.2.1 Hk.out.2.2.2.2.2.2 Hk.out.2.2.2.1)
    have HR2 := Lib.hid (show R = putH L H ⟨x.num, x.acct, x.sum⟩ by rw [HR.out, if_pos h0])
    clear h0 hu HR hc1 hh1
    go_wp2_with fail
    refine hP.out.mono ?_
    rintro e w2 ⟨rfl, q1, q2, q3⟩
    clear hP
    go_wp2
    go_ret
    exact ⟨by rw [HR2.out]; rfl, by rw [HR2.out]; exact q1, by rw [HR2.out]; exact q2, gh_trans hb1 (Gr.of_g2 q3)⟩
  · have g0 : (u == 0) = false := beq_eq_false_iff_ne.2 h0
    by_cases h1 : u = 1
    · have g1 : (u == 1) = true := by rw [h1]; rfl
      have hP := Lib.hid (hotake_c g b gh bh L H x.acct x.num x.peer x.sum w1 hc1 hh1 Hk.out.1 Hk.out.2.1 Hk.out.2.2.1 Hk.out.2.2.2.2.2.2 Hk.out.2.2.2.2.1 Hk.out.2.2.2.2.2.1)
      have HR2 := Lib.hid (show R = takeH L H x.acct x.num x.peer x.sum by rw [HR.out, if_neg h0, if_pos h1])
      clear h0 h1 hu HR hc1 hh1
      go_wp2_with fail
      refine hP.out.mono ?_
      rintro e w2 ⟨rfl, q1, q2, q3⟩
      clear hP
      go_wp2
      go_ret
      exact ⟨by rw [HR2.out]; rfl, by rw [HR2.out]; exact q1, by rw [HR2.out]; exact q2, gh_trans hb1 (Gr.of_g2 q3)⟩
    · have g1 : (u == 1) = false := beq_eq_false_iff_ne.2 h1
      by_cases h2 : u = 2
      · have g2 : (u == 2) = true := by rw [h2]; rfl
        have hP := Lib.hid (hofreeA_c g b gh bh L H x.acct x.num w1 hc1 hh1 Hk.out.1 Hk.out.2.1 Hk.out.2.2.1)
        have HR2 := Lib.hid (show R = freeHL L H x.acct x.num by rw [HR.out, if_neg h0, if_neg h1, if_pos h2])
        clear h0 h1 h2 hu HR hc1 hh1
        go_wp2_with fail
        refine hP.out.mono ?_
        rintro e w2 ⟨rfl, q1, q2, q3⟩
        clear hP
        go_wp2
        go_ret
        exact ⟨by rw [HR2.out]; rfl, by rw [HR2.out]; exact q1, by rw [HR2.out]; exact q2, gh_trans hb1 (Gr.of_g2 q3)⟩
      · have g2 : (u == 2) = false := beq_eq_false_iff_ne.2 h2
        have hP := Lib.hid (giveA_c g b L x.acct x.sum w1 hc1 Hk.out.2.1 Hk.out.2.2.2.2.2.2)
        have HR2 := Lib.hid (show R = ((turnL (givD x.sum) L x.acct x.sum).1, (turnL (givD x.sum) L x.acct x.sum).2, H) by rw [HR.out, if_neg h0, if_neg h1, if_neg h2])
        clear h0 h1 h2 hu HR hc1
        go_wp2_with fail
        refine hP.out.mono ?_
        rintro e w2 ⟨rfl, q1, q3⟩
        have q2 := hh1.kept (Gr.of_grown q3) (fun e => Hk.out.1.1 (by injection e with e; exact e.symm)) (fun e => Hk.out.1.2.1 (by injection e with e; exact e.symm))
        clear hP hh1
        go_wp2
        go_ret
        exact ⟨by rw [HR2.out]; rfl, by rw [HR2.out]; exact q1, by rw [HR2.out]; exact q2, gh_trans hb1 ((Gr.of_grown q3).mono (fun k _ e => .inl (by injection e with e; exact e.symm)))⟩
set_option maxRecDepth 100000 in
set_option maxHeartbeats 2000000 in
theorem early_c (A : Option Addr) (c : Nat) (l : List Op8) (w : World) (h : Sl w w.heap.size A c l) :
    Calls Tryz.prog 9 #[.slice A l.length c] w fun e w' => ∃ n : Nat, e = .returned (.slice A (l.take n).length c) ∧ (l.take n).length ≤ 120 ∧ Below w.heap.size w w' := by
  have hlc : l.length ≤ c := h.1
  have hcm : c ≤ maxLen := h.2.1
  unfold maxLen at hcm
  obtain ⟨n, hn⟩ : ∃ n, min l.length 120 = n := ⟨_, rfl⟩
  have hm : min (l.length : Int) 120 = (n : Int) := by omega
  have hl : (l.take n).length = n := by rw [List.length_take]; omega
  have g1 : (0 : Int) ≤ (n : Int) := by omega
  have g2 : (n : Int) ≤ (c : Int) := by omega
  have Hn := Lib.hid (show n ≤ 120 by omega)
  have HL := Lib.hid hl
  clear h hn hl
  go_enter Tryz.func9, Tryz.ntmps9
  go_wp2
  go_ret
  refine ⟨n, ?_, by rw [HL.out]; exact Hn.out, Below.refl _ _⟩
  rw [HL.out]
  rfl
end Go.Proofs.YthmgchohbdlonaaGreat
