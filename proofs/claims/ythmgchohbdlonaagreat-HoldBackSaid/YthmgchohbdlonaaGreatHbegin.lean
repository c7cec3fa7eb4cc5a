/- law08.begin -/
import Derived.Test.YthmgchohbdlonaaGreatRows
import Derived.Test.YthmgchohbdlonaaGreatRfOpen
import Derived.Test.YthmgchohbdlonaaGreatChA
import Derived.Test.YthmgchohbdlonaaGreatRfTurn
import Derived.WalkKit
import Derived.WalkSpells
import Derived.WalkLawsBesides
import Derived.Deep.QuietTactic
import Derived.BigQuiet
import Derived.Laws.StructEq
import Derived.Deep.DeepFit
import Derived.StillTailTactics
namespace Go.Proofs.YthmgchohbdlonaaGreat
open Go.RowKit
abbrev sA : ByteArray := ⟨#[97]⟩
abbrev sB : ByteArray := ⟨#[98]⟩
abbrev sC : ByteArray := ⟨#[99]⟩
def stB : List Ac := [⟨sA, 0, 0, 0⟩, ⟨sB, 0, 0, 5⟩, ⟨sC, 0, 0, 10⟩]
def L0 : List Ac := [⟨sA, 30, 0, 0⟩, ⟨sB, 10, 0, 5⟩, ⟨sC, 0, 0, 10⟩]
def L01 : List Ac := [⟨sA, 30, 0, 0⟩, ⟨sB, 0, 0, 5⟩, ⟨sC, 0, 0, 10⟩]
theorem toL (b : UInt8) : (⟨#[b]⟩ : ByteArray).toList = [b] := by rw [ByteArray.toList_eq]
theorem bl1 (a b : UInt8) : bless ⟨#[a]⟩ ⟨#[b]⟩ = Op.bytesLess [a] [b] := by unfold bless; rw [toL, toL]
theorem nameA : nameB sA = true := by unfold nameB; rw [toL]; rfl
theorem nameBb : nameB sB = true := by unfold nameB; rw [toL]; rfl
theorem nameC : nameB sC = true := by unfold nameB; rw [toL]; rfl
theorem ltAB : bless sA sB = true := by rw [bl1]; rfl
theorem ltAC : bless sA sC = true := by rw [bl1]; rfl
theorem ltBC : bless sB sC = true := by rw [bl1]; rfl
theorem neAB : sA ≠ sB := by decide
theorem neAC : sA ≠ sC := by decide
theorem neBC : sB ≠ sC := by decide
theorem op0 : openL [] sA 0 = (0, stB.take 1) := by
  unfold openL
  rw [if_neg (by rw [nameA]; decide), if_neg (by decide), if_neg (by decide)]
  rfl
theorem op1 : openL (stB.take 1) sB 5 = (0, stB.take 2) := by
  unfold openL
  rw [if_neg (by rw [nameBb]; decide), if_neg (by decide), if_neg (by decide)]
  simp only [stB, List.take_succ_cons, List.take_zero, insB]
  rw [if_pos (show ltA ⟨sA, 0, 0, 0⟩ ⟨sB, 0, 0, 5⟩ = true from ltAB)]
theorem op2 : openL (stB.take 2) sC 10 = (0, stB.take 3) := by
  unfold openL
  rw [if_neg (by rw [nameC]; decide), if_neg (by decide), if_neg (by decide)]
  simp only [stB, List.take_succ_cons, List.take_zero, insB]
  rw [if_pos (show ltA ⟨sA, 0, 0, 0⟩ ⟨sC, 0, 0, 10⟩ = true from ltAC), if_pos (show ltA ⟨sB, 0, 0, 5⟩ ⟨sC, 0, 0, 10⟩ = true from ltBC)]
theorem gv0 : turnL (givD (-30)) (stB.take 3) sA (-30) = (0, L01) := by rfl
theorem gv1 : turnL (givD (-10)) L01 sB (-10) = (0, L0) := by rfl
theorem srt_st (k : Nat) : SrtL ltA (stB.take k) := by
  refine List.Pairwise.sublist (List.take_sublist k stB) ?_
  unfold stB
  simp only [List.pairwise_cons, List.mem_cons, List.not_mem_nil, or_false, forall_eq_or_imp, forall_eq, ltA]
  exact ⟨⟨ltAB, ltAC⟩, ltBC, by simp, List.Pairwise.nil⟩
theorem srt_L0 : SrtL ltA L0 := by
  unfold L0 SrtL
  simp only [List.pairwise_cons, List.mem_cons, List.not_mem_nil, or_false, forall_eq_or_imp, forall_eq, ltA]
  exact ⟨⟨ltAB, ltAC⟩, ltBC, by simp, List.Pairwise.nil⟩
theorem srt_L01 : SrtL ltA L01 := by
  unfold L01 SrtL
  simp only [List.pairwise_cons, List.mem_cons, List.not_mem_nil, or_false, forall_eq_or_imp, forall_eq, ltA]
  exact ⟨⟨ltAB, ltAC⟩, ltBC, by simp, List.Pairwise.nil⟩
theorem ok_of {L : List Ac} (h : ∀ x ∈ L, (-1000 ≤ x.hav ∧ x.hav ≤ 1000) ∧ (0 ≤ x.set_ ∧ x.set_ ≤ 1000) ∧ (0 ≤ x.lim ∧ x.lim ≤ 1000) ∧ nameB x.name = true) : OkA L := fun x hx => by
  obtain ⟨h1, h2, h3, h4⟩ := h x hx
  exact ⟨⟨⟨by omega, by omega⟩, ⟨by omega, by omega⟩, by omega, by omega⟩, h2.1, h4⟩
theorem ok_st (k : Nat) : OkA (stB.take k) := ok_of fun x hx => by
  have := List.mem_of_mem_take hx
  simp only [stB, List.mem_cons, List.not_mem_nil, or_false] at this
  rcases this with rfl | rfl | rfl
  · exact ⟨⟨by decide, by decide⟩, ⟨by decide, by decide⟩, ⟨by decide, by decide⟩, nameA⟩
  · exact ⟨⟨by decide, by decide⟩, ⟨by decide, by decide⟩, ⟨by decide, by decide⟩, nameBb⟩
  · exact ⟨⟨by decide, by decide⟩, ⟨by decide, by decide⟩, ⟨by decide, by decide⟩, nameC⟩
theorem ok_L01 : OkA L01 := ok_of fun x hx => by
  simp only [L01, List.mem_cons, List.not_mem_nil, or_false] at hx
  rcases hx with rfl | rfl | rfl
  · exact ⟨⟨by decide, by decide⟩, ⟨by decide, by decide⟩, ⟨by decide, by decide⟩, nameA⟩
  · exact ⟨⟨by decide, by decide⟩, ⟨by decide, by decide⟩, ⟨by decide, by decide⟩, nameBb⟩
  · exact ⟨⟨by decide, by decide⟩, ⟨by decide, by decide⟩, ⟨by decide, by decide⟩, nameC⟩
theorem ok_L0 : OkA L0 := ok_of fun x hx => by
  simp only [L0, List.mem_cons, List.not_mem_nil, or_false] at hx
  rcases hx with rfl | rfl | rfl
  · exact ⟨⟨by decide, by decide⟩, ⟨by decide, by decide⟩, ⟨by decide, by decide⟩, nameA⟩
  · exact ⟨⟨by decide, by decide⟩, ⟨by decide, by decide⟩, ⟨by decide, by decide⟩, nameBb⟩
  · exact ⟨⟨by decide, by decide⟩, ⟨by decide, by decide⟩, ⟨by decide, by decide⟩, nameC⟩
theorem sz_s (b : UInt8) : (⟨#[b]⟩ : ByteArray).size ≤ maxLen := by show 1 ≤ maxLen; decide
theorem r64_small {n : Int} (h : -1000 ≤ n ∧ n ≤ 1000) : R64 n := ⟨by omega, by omega⟩
/-- what begin leaves: block g, b the chart; block r the reference's; in both the accounts L -/
structure BegIs (w0 w : World) (g b r : Nat) (L : List Ac) : Prop where
  ch : ChA w g b L
  rc : RcIs w (fun k => k ≠ g ∧ k ≠ b ∧ k ≠ r) r L
  ne : g ≠ r ∧ b ≠ r ∧ g ≠ b
  ge : w0.heap.size ≤ g ∧ w0.heap.size ≤ b ∧ w0.heap.size ≤ r
  be : Below w0.heap.size w0 w
theorem BegIs.prog {w0 w w' : World} {g b r : Nat} {L L' : List Ac} (h : BegIs w0 w g b r L) (hc : ChA w' g b L') (hg : w.grownBy w' (some b)) : ChA w' g b L' ∧ RcIs w' (fun k => k ≠ g ∧ k ≠ b ∧ k ≠ r) r L ∧ Below w0.heap.size w0 w' :=
  ⟨hc, h.rc.kept (Gr.of_grown hg) (fun e => by injection e with e; exact h.ne.2.1 e) (fun k hk e => by injection e with e; exact hk.2.1 e.symm), h.be.trans (below_of_grown hg h.be.size (fun k e => by injection e with e; have := h.ge.2.1; omega))⟩
theorem BegIs.refe {w0 w w' : World} {g b r : Nat} {L : List Ac} (hc : ChA w g b L) (hne : g ≠ r ∧ b ≠ r ∧ g ≠ b) (hge : w0.heap.size ≤ g ∧ w0.heap.size ≤ b ∧ w0.heap.size ≤ r) (hb : Below w0.heap.size w0 w) (hr : RcIs w' (fun k => k ≠ g ∧ k ≠ b ∧ k ≠ r) r L) (hg : w.grownBy w' (some r)) : BegIs w0 w' g b r L :=
  ⟨hc.kept (Gr.of_grown hg) (fun e => by injection e with e; exact hne.1 e.symm) (fun e => by injection e with e; exact hne.2.1 e.symm), hr, hne, hge, hb.trans (below_of_grown hg hb.size (fun k e => by injection e with e; have := hge.2.2; omega))⟩
set_option maxRecDepth 100000 in
set_option maxHeartbeats 8000000 in
theorem begin_c (w : World) : Calls Tryz.prog 7 #[] w fun e w' => ∃ g b r, e = .returned (.tuple #[.pointer (some ⟨g, 0, none⟩), .pointer (some ⟨r, 0, none⟩)]) ∧ BegIs w w' g b r L0 := by
  have hN := Lib.hid (chnewA_c w)
  go_enter Tryz.func7, Tryz.ntmps7
  go_wp2_with fail
  refine hN.out.mono ?_
  rintro e w1 ⟨rfl, hc, hF⟩
  have hsz := hF.size
  have hlt := hc.lt
  have hb2 := (hF.alloc hsz (.cells #[.slice none 0 0] 49)).alloc (by simp; omega) (.cells #[.string sA, .string sB, .string sC] 9)
  have hc2 := (hc.later ((Below.refl _ _).alloc (Nat.le_refl _) (.cells #[.slice none 0 0] 49))).later ((Below.refl _ _).alloc (Nat.le_refl _) (.cells #[.string sA, .string sB, .string sC] 9))
  have hr2 := heap_alloc2_old w1 (.cells #[.slice none 0 0] 49) (.cells #[.string sA, .string sB, .string sC] 9)
  have hn2 := heap_alloc2_new w1 (.cells #[.slice none 0 0] 49) (.cells #[.string sA, .string sB, .string sC] 9)
  have hB : BegIs w ((w1.alloc (.cells #[.slice none 0 0] 49)).alloc (.cells #[.string sA, .string sB, .string sC] 9)) (w.heap.size + 1) w.heap.size w1.heap.size [] :=
    ⟨hc2, ⟨none, 0, hr2, SlS.nil_ _ _, .inl ⟨rfl, rfl⟩⟩, by omega, by omega, hb2⟩
  have HB := Lib.hid hB
  have hnb : w1.heap.size + 1 < ((w1.alloc (.cells #[.slice none 0 0] 49)).alloc (.cells #[.string sA, .string sB, .string sC] 9)).heap.size := by simp
  have hnr : w1.heap.size + 1 ≠ w.heap.size + 1 ∧ w1.heap.size + 1 ≠ w.heap.size ∧ w1.heap.size + 1 ≠ w1.heap.size := by omega
  have HN := Lib.hid hn2
  have Hnr := Lib.hid hnr
  clear hB hc hF hb2 hc2 hr2 hn2 hN hnr hsz hlt
  go_wp2_with fail
  generalize ((w1.alloc (.cells #[.slice none 0 0] 49)).alloc (.cells #[.string sA, .string sB, .string sC] 9)) = wa0 at *
  refine wp_loop_rounds 4 ?_
  rw [rounds_succ]
  have n0 := cell_of_row _ (w1.heap.size + 1) 0 _ _ (0, 0) HN.out
  simp only [List.getElem?_toArray, List.getElem?_cons_zero] at n0
  have hP := Lib.hid (openA_c _ _ ([] : List Ac) sA 0 wa0 HB.out.ch)
  rw [op0] at hP
  go_wp2_with fail
  refine hP.out.mono ?_
  rintro e wc0 ⟨rfl, hc, hg⟩
  obtain ⟨hc, hrc, hbb⟩ := HB.out.prog hc hg
  have HN := Lib.hid ((hg.block _ hnb (fun e => by injection e with e; exact Hnr.out.2.1 e)).trans HN.out)
  have hnb := Nat.lt_of_lt_of_le hnb hg.size
  have hQ := Lib.hid (ropen_c _ w1.heap.size ([] : List Ac) sA 0 wc0 hrc (by decide) (sz_s _) (List.Pairwise.nil) (fun k hk => ⟨by have := hc.lt.1; omega, by have := hc.lt.2.1; omega, by have := hrc.lt; omega⟩) (fun h => h.2.2 rfl) (by decide))
  rw [op0] at hQ
  have HC := Lib.hid hc
  have HBB := Lib.hid hbb
  have n0 := cell_of_row _ (w1.heap.size + 1) 0 _ _ (0, 0) HN.out
  simp only [List.getElem?_toArray, List.getElem?_cons_zero] at n0
  clear hP hc hrc hg hbb
  go_wp2_with fail
  refine hQ.out.mono ?_
  rintro e wa1 ⟨rfl, hrc, hg⟩
  have HB := Lib.hid (BegIs.refe HC.out HB.out.ne HB.out.ge HBB.out hrc hg)
  have HN := Lib.hid ((hg.block _ hnb (fun e => by injection e with e; exact Hnr.out.2.2 e)).trans HN.out)
  have hnb := Nat.lt_of_lt_of_le hnb hg.size
  clear hQ hrc hg HC HBB n0
  go_wp2_with fail
  rw [rounds_succ]
  have n1 := cell_of_row _ (w1.heap.size + 1) 1 _ _ (0, 0) HN.out
  simp only [List.getElem?_toArray, List.getElem?_cons_zero, List.getElem?_cons_succ] at n1
  have hP := Lib.hid (openA_c _ _ (stB.take 1) sB 5 wa1 HB.out.ch)
  rw [op1] at hP
  go_wp2_with fail
  refine hP.out.mono ?_
  rintro e wc1 ⟨rfl, hc, hg⟩
  obtain ⟨hc, hrc, hbb⟩ := HB.out.prog hc hg
  have HN := Lib.hid ((hg.block _ hnb (fun e => by injection e with e; exact Hnr.out.2.1 e)).trans HN.out)
  have hnb := Nat.lt_of_lt_of_le hnb hg.size
  have hQ := Lib.hid (ropen_c _ w1.heap.size (stB.take 1) sB 5 wc1 hrc (by decide) (sz_s _) (srt_st _) (fun k hk => ⟨by have := hc.lt.1; omega, by have := hc.lt.2.1; omega, by have := hrc.lt; omega⟩) (fun h => h.2.2 rfl) (by decide))
  rw [op1] at hQ
  have HC := Lib.hid hc
  have HBB := Lib.hid hbb
  have n1 := cell_of_row _ (w1.heap.size + 1) 1 _ _ (0, 0) HN.out
  simp only [List.getElem?_toArray, List.getElem?_cons_zero, List.getElem?_cons_succ] at n1
  clear hP hc hrc hg hbb
  go_wp2_with fail
  refine hQ.out.mono ?_
  rintro e wa2 ⟨rfl, hrc, hg⟩
  have HB := Lib.hid (BegIs.refe HC.out HB.out.ne HB.out.ge HBB.out hrc hg)
  have HN := Lib.hid ((hg.block _ hnb (fun e => by injection e with e; exact Hnr.out.2.2 e)).trans HN.out)
  have hnb := Nat.lt_of_lt_of_le hnb hg.size
  clear hQ hrc hg HC HBB n1
  go_wp2_with fail
  rw [rounds_succ]
  have n2 := cell_of_row _ (w1.heap.size + 1) 2 _ _ (0, 0) HN.out
  simp only [List.getElem?_toArray, List.getElem?_cons_zero, List.getElem?_cons_succ] at n2
  have hP := Lib.hid (openA_c _ _ (stB.take 2) sC 10 wa2 HB.out.ch)
  rw [op2] at hP
  go_wp2_with fail
  refine hP.out.mono ?_
  rintro e wc2 ⟨rfl, hc, hg⟩
  obtain ⟨hc, hrc, hbb⟩ := HB.out.prog hc hg
  have HN := Lib.hid ((hg.block _ hnb (fun e => by injection e with e; exact Hnr.out.2.1 e)).trans HN.out)
  have hnb := Nat.lt_of_lt_of_le hnb hg.size
  have hQ := Lib.hid (ropen_c _ w1.heap.size (stB.take 2) sC 10 wc2 hrc (by decide) (sz_s _) (srt_st _) (fun k hk => ⟨by have := hc.lt.1; omega, by have := hc.lt.2.1; omega, by have := hrc.lt; omega⟩) (fun h => h.2.2 rfl) (by decide))
  rw [op2] at hQ
  have HC := Lib.hid hc
  have HBB := Lib.hid hbb
  have n2 := cell_of_row _ (w1.heap.size + 1) 2 _ _ (0, 0) HN.out
  simp only [List.getElem?_toArray, List.getElem?_cons_zero, List.getElem?_cons_succ] at n2
  clear hP hc hrc hg hbb
  go_wp2_with fail
  refine hQ.out.mono ?_
  rintro e wa3 ⟨rfl, hrc, hg⟩
  have HB := Lib.hid (BegIs.refe HC.out HB.out.ne HB.out.ge HBB.out hrc hg)
  have HN := Lib.hid ((hg.block _ hnb (fun e => by injection e with e; exact Hnr.out.2.2 e)).trans HN.out)
  have hnb := Nat.lt_of_lt_of_le hnb hg.size
  clear hQ hrc hg HC HBB n2
  go_wp2_with fail
  rw [rounds_succ]
  go_wp2_with fail
  have hP := Lib.hid (giveA_c _ _ (stB.take 3) sA (-30) wa3 HB.out.ch (ok_st 3) (r64_small ⟨by decide, by decide⟩))
  rw [gv0] at hP
  refine hP.out.mono ?_
  rintro e wd0 ⟨rfl, hc, hg⟩
  obtain ⟨hc, hrc, hbb⟩ := HB.out.prog hc hg
  have hQ := Lib.hid (rgive_c _ w1.heap.size (stB.take 3) sA (-30) wd0 hrc (by decide) (ok_st 3) (srt_st 3) (r64_small ⟨by decide, by decide⟩) (fun k hk => ⟨by have := hc.lt.1; omega, by have := hc.lt.2.1; omega, by have := hrc.lt; omega⟩) (fun h => h.2.2 rfl))
  rw [gv0] at hQ
  have HC := Lib.hid hc
  have HBB := Lib.hid hbb
  clear hP hc hrc hg hbb
  go_wp2_with fail
  refine hQ.out.mono ?_
  rintro e we0 ⟨rfl, hrc, hg⟩
  have HB := Lib.hid (BegIs.refe HC.out HB.out.ne HB.out.ge HBB.out hrc hg)
  clear hQ hrc hg HC HBB
  go_wp2_with fail
  have hP := Lib.hid (giveA_c _ _ L01 sB (-10) we0 HB.out.ch ok_L01 (r64_small ⟨by decide, by decide⟩))
  rw [gv1] at hP
  refine hP.out.mono ?_
  rintro e wd1 ⟨rfl, hc, hg⟩
  obtain ⟨hc, hrc, hbb⟩ := HB.out.prog hc hg
  have hQ := Lib.hid (rgive_c _ w1.heap.size L01 sB (-10) wd1 hrc (by decide) ok_L01 srt_L01 (r64_small ⟨by decide, by decide⟩) (fun k hk => ⟨by have := hc.lt.1; omega, by have := hc.lt.2.1; omega, by have := hrc.lt; omega⟩) (fun h => h.2.2 rfl))
  rw [gv1] at hQ
  have HC := Lib.hid hc
  have HBB := Lib.hid hbb
  clear hP hc hrc hg hbb
  go_wp2_with fail
  refine hQ.out.mono ?_
  rintro e we1 ⟨rfl, hrc, hg⟩
  have HB := Lib.hid (BegIs.refe HC.out HB.out.ne HB.out.ge HBB.out hrc hg)
  clear hQ hrc hg HC HBB
  go_wp2
  go_ret2
  exact ⟨_, _, _, rfl, HB.out⟩
end Go.Proofs.YthmgchohbdlonaaGreat
