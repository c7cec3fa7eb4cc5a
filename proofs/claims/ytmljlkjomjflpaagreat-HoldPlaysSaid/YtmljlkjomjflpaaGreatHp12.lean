/- Texts of this claim, laid together: Hbegin, Hcmp, HoAll, HoOf. -/
import Derived.Test.YtmljlkjomjflpaaGreatRows
import Derived.Test.YtmljlkjomjflpaaGreatHp11
import Derived.Test.YtmljlkjomjflpaaGreatHp6
import Derived.Test.YtmljlkjomjflpaaGreatHp10
import Derived.WalkKit
import Derived.WalkSpells
import Derived.WalkLawsBesides
import Derived.Deep.QuietTactic
import Derived.BigQuiet
import Derived.Laws.StructEq
import Derived.Deep.DeepFit
import Derived.StillTailTactics
import Derived.Test.YtmljlkjomjflpaaGreatHp8
import Derived.Test.YtmljlkjomjflpaaGreatHp5
import Derived.Test.YtmljlkjomjflpaaGreatShelf
import Derived.Test.YtmljlkjomjflpaaGreatHp2
import Derived.Test.YtmljlkjomjflpaaGreatShelfS

/- law08.begin -/
namespace Go.Proofs.YtmljlkjomjflpaaGreat
open Go.RowKit
abbrev sA : ByteArray := ⟨#[97]⟩
abbrev sB : ByteArray := ⟨#[98]⟩
abbrev sC : ByteArray := ⟨#[99]⟩
def stB : List Ac := [⟨sA, 0, 0, 0⟩, ⟨sB, 0, 0, 5⟩, ⟨sC, 0, 0, 10⟩]
def L0 : List Ac := [⟨sA, 30, 0, 0⟩, ⟨sB, 10, 0, 5⟩, ⟨sC, 0, 0, 10⟩]
def L01 : List Ac := [⟨sA, 30, 0, 0⟩, ⟨sB, 0, 0, 5⟩, ⟨sC, 0, 0, 10⟩]
theorem toL (b : UInt8) : (⟨#[b]⟩ : ByteArray).toList = [b] := by rw [ByteArray.toList_eq]
theorem bl1 (a b : UInt8) : bless ⟨#[a]⟩ ⟨#[b]⟩ = Op.bytesLess [a] [b] := by unfold bless; rw [toL, toL]
theorem nameA : nameB sA = true := by unfold nameB; rw [toL]; rfl
theorem nameBb : nameB sB = true := by unfold nameB; rw [toL]; rfl
theorem nameC : nameB sC = true := by unfold nameB; rw [toL]; rfl
theorem ltAB : bless sA sB = true := by rw [bl1]; rfl
theorem ltAC : bless sA sC = true := by rw [bl1]; rfl
theorem ltBC : bless sB sC = true := by rw [bl1]; rfl
theorem neAB : sA ≠ sB := by decide
theorem neAC : sA ≠ sC := by decide
theorem neBC : sB ≠ sC := by decide
theorem op0 : openL [] sA 0 = (0, stB.take 1) := by
  unfold openL
  rw [if_neg (by rw [nameA]; decide), if_neg (by decide), if_neg (by decide)]
  rfl
theorem op1 : openL (stB.take 1) sB 5 = (0, stB.take 2) := by
  unfold openL
  rw [if_neg (by rw [nameBb]; decide), if_neg (by decide), if_neg (by decide)]
  simp only [stB, List.take_succ_cons, List.take_zero, insB]
  rw [if_pos (show ltA ⟨sA, 0, 0, 0⟩ ⟨sB, 0, 0, 5⟩ = true from ltAB)]
theorem op2 : openL (stB.take 2) sC 10 = (0, stB.take 3) := by
  unfold openL
  rw [if_neg (by rw [nameC]; decide), if_neg (by decide), if_neg (by decide)]
  simp only [stB, List.take_succ_cons, List.take_zero, insB]
  rw [if_pos (show ltA ⟨sA, 0, 0, 0⟩ ⟨sC, 0, 0, 10⟩ = true from ltAC), if_pos (show ltA ⟨sB, 0, 0, 5⟩ ⟨sC, 0, 0, 10⟩ = true from ltBC)]
theorem gv0 : turnL (givD (-30)) (stB.take 3) sA (-30) = (0, L01) := by rfl
theorem gv1 : turnL (givD (-10)) L01 sB (-10) = (0, L0) := by rfl
theorem srt_st (k : Nat) : SrtL ltA (stB.take k) := by
  refine List.Pairwise.sublist (List.take_sublist k stB) ?_
  unfold stB
  simp only [List.pairwise_cons, List.mem_cons, List.not_mem_nil, or_false, forall_eq_or_imp, forall_eq, ltA]
  exact ⟨⟨ltAB, ltAC⟩, ltBC, by simp, List.Pairwise.nil⟩
theorem srt_L0 : SrtL ltA L0 := by
  unfold L0 SrtL
  simp only [List.pairwise_cons, List.mem_cons, List.not_mem_nil, or_false, forall_eq_or_imp, forall_eq, ltA]
  exact ⟨⟨ltAB, ltAC⟩, ltBC, by simp, List.Pairwise.nil⟩
theorem srt_L01 : SrtL ltA L01 := by
  unfold L01 SrtL
  simp only [List.pairwise_cons, List.mem_cons, List.not_mem_nil, or_false, forall_eq_or_imp, forall_eq, ltA]
  exact ⟨⟨ltAB, ltAC⟩, ltBC, by simp, List.Pairwise.nil⟩
theorem ok_of {L : List Ac} (h : ∀ x ∈ L, (-1000 ≤ x.hav ∧ x.hav ≤ 1000) ∧ (0 ≤ x.set_ ∧ x.set_ ≤ 1000) ∧ (0 ≤ x.lim ∧ x.lim ≤ 1000) ∧ nameB x.name = true) : OkA L := fun x hx => by
  obtain ⟨h1, h2, h3, h4⟩ := h x hx
  exact ⟨⟨⟨by omega, by omega⟩, ⟨by omega, by omega⟩, by omega, by omega⟩, h2.1, h4⟩
theorem ok_st (k : Nat) : OkA (stB.take k) := ok_of fun x hx => by
  have := List.mem_of_mem_take hx
  simp only [stB, List.mem_cons, List.not_mem_nil, or_false] at this
  rcases this with rfl | rfl | rfl
  · exact ⟨⟨by decide, by decide⟩, ⟨by decide, by decide⟩, ⟨by decide, by decide⟩, nameA⟩
  · exact ⟨⟨by decide, by decide⟩, ⟨by decide, by decide⟩, ⟨by decide, by decide⟩, nameBb⟩
  · exact ⟨⟨by decide, by decide⟩, ⟨by decide, by decide⟩, ⟨by decide, by decide⟩, nameC⟩
theorem ok_L01 : OkA L01 := ok_of fun x hx => by
  simp only [L01, List.mem_cons, List.not_mem_nil, or_false] at hx
  rcases hx with rfl | rfl | rfl
  · exact ⟨⟨by decide, by decide⟩, ⟨by decide, by decide⟩, ⟨by decide, by decide⟩, nameA⟩
  · exact ⟨⟨by decide, by decide⟩, ⟨by decide, by decide⟩, ⟨by decide, by decide⟩, nameBb⟩
  · exact ⟨⟨by decide, by decide⟩, ⟨by decide, by decide⟩, ⟨by decide, by decide⟩, nameC⟩
theorem ok_L0 : OkA L0 := ok_of fun x hx => by
  simp only [L0, List.mem_cons, List.not_mem_nil, or_false] at hx
  rcases hx with rfl | rfl | rfl
  · exact ⟨⟨by decide, by decide⟩, ⟨by decide, by decide⟩, ⟨by decide, by decide⟩, nameA⟩
  · exact ⟨⟨by decide, by decide⟩, ⟨by decide, by decide⟩, ⟨by decide, by decide⟩, nameBb⟩
  · exact ⟨⟨by decide, by decide⟩, ⟨by decide, by decide⟩, ⟨by decide, by decide⟩, nameC⟩
theorem sz_s (b : UInt8) : (⟨#[b]⟩ : ByteArray).size ≤ maxLen := by show 1 ≤ maxLen; decide
theorem r64_small {n : Int} (h : -1000 ≤ n ∧ n ≤ 1000) : R64 n := ⟨by omega, by omega⟩
/-- what begin leaves: block g, b the chart; block r the reference's; in both the accounts L -/
structure BegIs (w0 w : World) (g b r : Nat) (L : List Ac) : Prop where
  ch : ChA w g b L
  rc : RcIs w (fun k => k ≠ g ∧ k ≠ b ∧ k ≠ r) r L
  ne : g ≠ r ∧ b ≠ r ∧ g ≠ b
  ge : w0.heap.size ≤ g ∧ w0.heap.size ≤ b ∧ w0.heap.size ≤ r
  be : Below w0.heap.size w0 w
theorem BegIs.prog {w0 w w' : World} {g b r : Nat} {L L' : List Ac} (h : BegIs w0 w g b r L) (hc : ChA w' g b L') (hg : w.grownBy w' (some b)) : ChA w' g b L' ∧ RcIs w' (fun k => k ≠ g ∧ k ≠ b ∧ k ≠ r) r L ∧ Below w0.heap.size w0 w' :=
  ⟨hc, h.rc.kept (Gr.of_grown hg) (fun e => by injection e with e; exact h.ne.2.1 e) (fun k hk e => by injection e with e; exact hk.2.1 e.symm), h.be.trans (below_of_grown hg h.be.size (fun k e => by injection e with e; have := h.ge.2.1; omega))⟩
theorem BegIs.refe {w0 w w' : World} {g b r : Nat} {L : List Ac} (hc : ChA w g b L) (hne : g ≠ r ∧ b ≠ r ∧ g ≠ b) (hge : w0.heap.size ≤ g ∧ w0.heap.size ≤ b ∧ w0.heap.size ≤ r) (hb : Below w0.heap.size w0 w) (hr : RcIs w' (fun k => k ≠ g ∧ k ≠ b ∧ k ≠ r) r L) (hg : w.grownBy w' (some r)) : BegIs w0 w' g b r L :=
  ⟨hc.kept (Gr.of_grown hg) (fun e => by injection e with e; exact hne.1 e.symm) (fun e => by injection e with e; exact hne.2.1 e.symm), hr, hne, hge, hb.trans (below_of_grown hg hb.size (fun k e => by injection e with e; have := hge.2.2; omega))⟩
set_option maxRecDepth 100000 in
set_option maxHeartbeats 8000000 in
theorem begin_c (w : World) : Calls Tryz.prog 13 #[] w fun e w' => ∃ g b r, e = .returned (.tuple #[.pointer (some ⟨g, 0, none⟩), .pointer (some ⟨r, 0, none⟩)]) ∧ BegIs w w' g b r L0 := by
  have hN := Lib.hid (chnewA_c w)
  go_enter Tryz.func13, Tryz.ntmps13
  go_wp2_with fail
  refine hN.out.mono ?_
  rintro e w1 ⟨rfl, hc, hF⟩
  have hsz := hF.size
  have hlt := hc.lt
  have hb2 := (hF.alloc hsz (.cells #[.slice none 0 0] 49)).alloc (by simp; omega) (.cells #[.string sA, .string sB, .string sC] 9)
  have hc2 := (hc.later ((Below.refl _ _).alloc (Nat.le_refl _) (.cells #[.slice none 0 0] 49))).later ((Below.refl _ _).alloc (Nat.le_refl _) (.cells #[.string sA, .string sB, .string sC] 9))
  have hr2 := heap_alloc2_old w1 (.cells #[.slice none 0 0] 49) (.cells #[.string sA, .string sB, .string sC] 9)
  have hn2 := heap_alloc2_new w1 (.cells #[.slice none 0 0] 49) (.cells #[.string sA, .string sB, .string sC] 9)
  have hB : BegIs w ((w1.alloc (.cells #[.slice none 0 0] 49)).alloc (.cells #[.string sA, .string sB, .string sC] 9)) (w.heap.size + 1) w.heap.size w1.heap.size [] :=
    ⟨hc2, ⟨none, 0, hr2, SlS.nil_ _ _, .inl ⟨rfl, rfl⟩⟩, by omega, by omega, hb2⟩
  have HB := Lib.hid hB
  have hnb : w1.heap.size + 1 < ((w1.alloc (.cells #[.slice none 0 0] 49)).alloc (.cells #[.string sA, .string sB, .string sC] 9)).heap.size := by simp
  have hnr : w1.heap.size + 1 ≠ w.heap.size + 1 ∧ w1.heap.size + 1 ≠ w.heap.size ∧ w1.heap.size + 1 ≠ w1.heap.size := by omega
  have HN := Lib.hid hn2
  have Hnr := Lib.hid hnr
  clear hB hc hF hb2 hc2 hr2 hn2 hN hnr hsz hlt
  go_wp2_with fail
  generalize ((w1.alloc (.cells #[.slice none 0 0] 49)).alloc (.cells #[.string sA, .string sB, .string sC] 9)) = wa0 at *
  refine wp_loop_rounds 4 ?_
  rw [rounds_succ]
  have n0 := cell_of_row _ (w1.heap.size + 1) 0 _ _ (0, 0) HN.out
  simp only [List.getElem?_toArray, List.getElem?_cons_zero] at n0
  have hP := Lib.hid (openA_c _ _ ([] : List Ac) sA 0 wa0 HB.out.ch)
  rw [op0] at hP
  go_wp2_with fail
  refine hP.out.mono ?_
  rintro e wc0 ⟨rfl, hc, hg⟩
  obtain ⟨hc, hrc, hbb⟩ := HB.out.prog hc hg
  have HN := Lib.hid ((hg.block _ hnb (fun e => by injection e with e; exact Hnr.out.2.1 e)).trans HN.out)
  have hnb := Nat.lt_of_lt_of_le hnb hg.size
  have hQ := Lib.hid (ropen_c _ w1.heap.size ([] : List Ac) sA 0 wc0 hrc (by decide) (sz_s _) (List.Pairwise.nil) (fun k hk => ⟨by have := hc.lt.1; omega, by have := hc.lt.2.1; omega, by have := hrc.lt; omega⟩) (fun h => h.2.2 rfl) (by decide))
  rw [op0] at hQ
  have HC := Lib.hid hc
  have HBB := Lib.hid hbb
  have n0 := cell_of_row _ (w1.heap.size + 1) 0 _ _ (0, 0) HN.out
  simp only [List.getElem?_toArray, List.getElem?_cons_zero] at n0
  clear hP hc hrc hg hbb
  go_wp2_with fail
  refine hQ.out.mono ?_
  rintro e wa1 ⟨rfl, hrc, hg⟩
  have HB := Lib.hid (BegIs.refe HC.out HB.out.ne HB.out.ge HBB.out hrc hg)
  have HN := Lib.hid ((hg.block _ hnb (fun e => by injection e with e; exact Hnr.out.2.2 e)).trans HN.out)
  have hnb := Nat.lt_of_lt_of_le hnb hg.size
  clear hQ hrc hg HC HBB n0
  go_wp2_with fail
  rw [rounds_succ]
  have n1 := cell_of_row _ (w1.heap.size + 1) 1 _ _ (0, 0) HN.out
  simp only [List.getElem?_toArray, List.getElem?_cons_zero, List.getElem?_cons_succ] at n1
  have hP := Lib.hid (openA_c _ _ (stB.take 1) sB 5 wa1 HB.out.ch)
  rw [op1] at hP
  go_wp2_with fail
  refine hP.out.mono ?_
  rintro e wc1 ⟨rfl, hc, hg⟩
  obtain ⟨hc, hrc, hbb⟩ := HB.out.prog hc hg
  have HN := Lib.hid ((hg.block _ hnb (fun e => by injection e with e; exact Hnr.out.2.1 e)).trans HN.out)
  have hnb := Nat.lt_of_lt_of_le hnb hg.size
  have hQ := Lib.hid (ropen_c _ w1.heap.size (stB.take 1) sB 5 wc1 hrc (by decide) (sz_s _) (srt_st _) (fun k hk => ⟨by have := hc.lt.1; omega, by have := hc.lt.2.1; omega, by have := hrc.lt; omega⟩) (fun h => h.2.2 rfl) (by decide))
  rw [op1] at hQ
  have HC := Lib.hid hc
  have HBB := Lib.hid hbb
  have n1 := cell_of_row _ (w1.heap.size + 1) 1 _ _ (0, 0) HN.out
  simp only [List.getElem?_toArray, List.getElem?_cons_zero, List.getElem?_cons_succ] at n1
  clear hP hc hrc hg hbb
  go_wp2_with fail
  refine hQ.out.mono ?_
  rintro e wa2 ⟨rfl, hrc, hg⟩
  have HB := Lib.hid (BegIs.refe HC.out HB.out.ne HB.out.ge HBB.out hrc hg)
  have HN := Lib.hid ((hg.block _ hnb (fun e => by injection e with e; exact Hnr.out.2.2 e)).trans HN.out)
  have hnb := Nat.lt_of_lt_of_le hnb hg.size
  clear hQ hrc hg HC HBB n1
  go_wp2_with fail
  rw [rounds_succ]
  have n2 := cell_of_row _ (w1.heap.size + 1) 2 _ _ (0, 0) HN.out
  simp only [List.getElem?_toArray, List.getElem?_cons_zero, List.getElem?_cons_succ] at n2
  have hP := Lib.hid (openA_c _ _ (stB.take 2) sC 10 wa2 HB.out.ch)
  rw [op2] at hP
  go_wp2_with fail
  refine hP.out.mono ?_
  rintro e wc2 ⟨rfl, hc, hg⟩
  obtain ⟨hc, hrc, hbb⟩ := HB.out.prog hc hg
  have HN := Lib.hid ((hg.block _ hnb (fun e => by injection e with e; exact Hnr.out.2.1 e)).trans HN.out)
  have hnb := Nat.lt_of_lt_of_le hnb hg.size
  have hQ := Lib.hid (ropen_c _ w1.heap.size (stB.take 2) sC 10 wc2 hrc (by decide) (sz_s _) (srt_st _) (fun k hk => ⟨by have := hc.lt.1; omega, by have := hc.lt.2.1; omega, by have := hrc.lt; omega⟩) (fun h => h.2.2 rfl) (by decide))
  rw [op2] at hQ
  have HC := Lib.hid hc
  have HBB := Lib.hid hbb
  have n2 := cell_of_row _ (w1.heap.size + 1) 2 _ _ (0, 0) HN.out
  simp only [List.getElem?_toArray, List.getElem?_cons_zero, List.getElem?_cons_succ] at n2
  clear hP hc hrc hg hbb
  go_wp2_with fail
  refine hQ.out.mono ?_
  rintro e wa3 ⟨rfl, hrc, hg⟩
  have HB := Lib.hid (BegIs.refe HC.out HB.out.ne HB.out.ge HBB.out hrc hg)
  have HN := Lib.hid ((hg.block _ hnb (fun e => by injection e with e; exact Hnr.out.2.2 e)).trans HN.out)
  have hnb := Nat.lt_of_lt_of_le hnb hg.size
  clear hQ hrc hg HC HBB n2
  go_wp2_with fail
  rw [rounds_succ]
  go_wp2_with fail
  have hP := Lib.hid (giveA_c _ _ (stB.take 3) sA (-30) wa3 HB.out.ch (ok_st 3) (r64_small ⟨by decide, by decide⟩))
  rw [gv0] at hP
  refine hP.out.mono ?_
  rintro e wd0 ⟨rfl, hc, hg⟩
  obtain ⟨hc, hrc, hbb⟩ := HB.out.prog hc hg
  have hQ := Lib.hid (rgive_c _ w1.heap.size (stB.take 3) sA (-30) wd0 hrc (by decide) (ok_st 3) (srt_st 3) (r64_small ⟨by decide, by decide⟩) (fun k hk => ⟨by have := hc.lt.1; omega, by have := hc.lt.2.1; omega, by have := hrc.lt; omega⟩) (fun h => h.2.2 rfl))
  rw [gv0] at hQ
  have HC := Lib.hid hc
  have HBB := Lib.hid hbb
  clear hP hc hrc hg hbb
  go_wp2_with fail
  refine hQ.out.mono ?_
  rintro e we0 ⟨rfl, hrc, hg⟩
  have HB := Lib.hid (BegIs.refe HC.out HB.out.ne HB.out.ge HBB.out hrc hg)
  clear hQ hrc hg HC HBB
  go_wp2_with fail
  have hP := Lib.hid (giveA_c _ _ L01 sB (-10) we0 HB.out.ch ok_L01 (r64_small ⟨by decide, by decide⟩))
  rw [gv1] at hP
  refine hP.out.mono ?_
  rintro e wd1 ⟨rfl, hc, hg⟩
  obtain ⟨hc, hrc, hbb⟩ := HB.out.prog hc hg
  have hQ := Lib.hid (rgive_c _ w1.heap.size L01 sB (-10) wd1 hrc (by decide) ok_L01 srt_L01 (r64_small ⟨by decide, by decide⟩) (fun k hk => ⟨by have := hc.lt.1; omega, by have := hc.lt.2.1; omega, by have := hrc.lt; omega⟩) (fun h => h.2.2 rfl))
  rw [gv1] at hQ
  have HC := Lib.hid hc
  have HBB := Lib.hid hbb
  clear hP hc hrc hg hbb
  go_wp2_with fail
  refine hQ.out.mono ?_
  rintro e we1 ⟨rfl, hrc, hg⟩
  have HB := Lib.hid (BegIs.refe HC.out HB.out.ne HB.out.ge HBB.out hrc hg)
  clear hQ hrc hg HC HBB
  go_wp2
  go_ret2
  exact ⟨_, _, _, rfl, HB.out⟩
end Go.Proofs.YtmljlkjomjflpaaGreat

/- hold.All: the order of the sort -/
namespace Go.Proofs.YtmljlkjomjflpaaGreat
open Go.RowKit
open Go.Sort in
set_option maxRecDepth 100000 in
set_option maxHeartbeats 800000 in
theorem hcmp_c (x y : Held) (w : World) :
    Calls Tryz.prog 62 #[x.v, y.v] w fun e w' => e = .returned (i64 (orN (cmpS x.acct y.acct) (cmpN x.num y.num))) ∧ ∃ q os, w' = grow (w.drewN q) os := by
  have k1 := fun W => cmpS_c x.acct y.acct W
  have k2 := fun W => cmpN_c x.num y.num W
  have k3 := fun g W h0 h1 => or2_c (cmpS x.acct y.acct) (cmpN x.num y.num) g W h0 h1
  have hg1 := heap_alloc2_old w (.cells #[i64 x.num, .string x.acct, i64 x.sum] 81) (.cells #[i64 y.num, .string y.acct, i64 y.sum] 81)
  have hg2 := heap_alloc2_new w (.cells #[i64 x.num, .string x.acct, i64 x.sum] 81) (.cells #[i64 y.num, .string y.acct, i64 y.sum] 81)
  have hend : ∀ o1 o2 o3 : Obj, ∃ q os, (((w.alloc o1).alloc o2).drew.alloc o3) = grow (w.drewN q) os := fun o1 o2 o3 => ⟨1, #[o1, o2, o3], by
    simp only [alloc_eq_grow, drew_grow, grow_grow]; rfl⟩
  have Hend := Lib.hid hend
  generalize cmpS x.acct y.acct = p at *
  generalize cmpN x.num y.num = q at *
  have K1 := Lib.hid k1
  have K2 := Lib.hid k2
  have K3 := Lib.hid k3
  have n1 := cell_of_row _ w.heap.size 0 _ _ (0, 0) hg1
  have n2 := cell_of_row _ w.heap.size 1 _ _ (0, 0) hg1
  have m1 := cell_of_row _ (w.heap.size + 1) 0 _ _ (0, 0) hg2
  have m2 := cell_of_row _ (w.heap.size + 1) 1 _ _ (0, 0) hg2
  simp only [List.getElem?_toArray, List.getElem?_cons_zero, List.getElem?_cons_succ] at n1 n2 m1 m2
  clear hg1 hg2 k1 k2 k3 hend
  go_enter Tryz.func62, Tryz.ntmps62
  go_wp2_with fail
  have hS : ∀ o, (fun V => V.cell? ⟨w.heap.size, 0, none⟩ = some (i64 x.num) ∧ V.cell? ⟨w.heap.size, 1, none⟩ = some (.string x.acct) ∧ V.cell? ⟨w.heap.size + 1, 0, none⟩ = some (i64 y.num) ∧ V.cell? ⟨w.heap.size + 1, 1, none⟩ = some (.string y.acct)) ((((w.alloc (.cells #[i64 x.num, .string x.acct, i64 x.sum] 81)).alloc (.cells #[i64 y.num, .string y.acct, i64 y.sum] 81)).drew).alloc o) := fun o => ⟨(World.cell?_alloc_lt _ _ _ (by simp; omega)).trans n1, (World.cell?_alloc_lt _ _ _ (by simp; omega)).trans n2, (World.cell?_alloc_lt _ _ _ (by simp)).trans m1, (World.cell?_alloc_lt _ _ _ (by simp)).trans m2⟩
  have HS := Lib.hid hS
  clear hS
  refine wp_region_noPanic ?_
  refine wp_region_l 12 (fun V => V.cell? ⟨w.heap.size, 0, none⟩ = some (i64 x.num) ∧ V.cell? ⟨w.heap.size, 1, none⟩ = some (.string x.acct) ∧ V.cell? ⟨w.heap.size + 1, 0, none⟩ = some (i64 y.num) ∧ V.cell? ⟨w.heap.size + 1, 1, none⟩ = some (.string y.acct)) (by kernel_rfl) (⟨n1, n2, m1, m2⟩) (fun hH => ?_)
  refine wpAnyL_take (i := 0) (v := ?v1) rfl (by kernel_rfl) (by kernel_rfl) (by kernel_rfl) (by kernel_rfl) (fun _ _ _ h => h) (Or.inl ⟨by kernel_rfl, ?hy1⟩) (by assumption) ?r1
  case hy1 => (intro W hSW; obtain ⟨s1, s2, s3, s4⟩ := hSW; go_simp; try with_reducible rfl)
  try simp only [Act.put, List.getElem_toArray, List.getElem_cons_zero, List.setIfInBounds_toArray, List.set_cons_zero, List.set_cons_succ]
  refine wpAnyL_take (i := 1) (v := ?v2) rfl (by kernel_rfl) (by kernel_rfl) (by kernel_rfl) (by kernel_rfl) (fun _ _ _ h => h) (Or.inl ⟨by kernel_rfl, ?hy2⟩) (by assumption) ?r2
  case hy2 => (intro W hSW; obtain ⟨s1, s2, s3, s4⟩ := hSW; go_simp; try with_reducible rfl)
  try simp only [Act.put, List.getElem_toArray, List.getElem_cons_zero, List.getElem_cons_succ, List.setIfInBounds_toArray, List.set_cons_zero, List.set_cons_succ]
  refine wpAnyL_take (i := 2) (v := ?v3) rfl (by kernel_rfl) (by kernel_rfl) (by kernel_rfl) (by kernel_rfl) (fun _ _ _ h => h) (Or.inl ⟨by kernel_rfl, ?hy3⟩) (by assumption) ?r3
  case hy3 => (intro W hSW; obtain ⟨s1, s2, s3, s4⟩ := hSW; go_simp; try with_reducible rfl)
  try simp only [Act.put, List.getElem_toArray, List.getElem_cons_zero, List.getElem_cons_succ, List.setIfInBounds_toArray, List.set_cons_zero, List.set_cons_succ]
  refine wpAnyL_take (i := 3) (v := ?v4) rfl (by kernel_rfl) (by kernel_rfl) (by kernel_rfl) (by kernel_rfl) (fun _ _ _ h => h) (Or.inl ⟨by kernel_rfl, ?hy4⟩) (by assumption) ?r4
  case hy4 => (intro W hSW; obtain ⟨s1, s2, s3, s4⟩ := hSW; go_simp; try with_reducible rfl)
  try simp only [Act.put, List.getElem_toArray, List.getElem_cons_zero, List.getElem_cons_succ, List.setIfInBounds_toArray, List.set_cons_zero, List.set_cons_succ]
  refine wpAnyL_take (i := 5) (v := ?v5) rfl (by kernel_rfl) (by kernel_rfl) (by kernel_rfl) (by kernel_rfl) (fun _ _ _ h => h) (Or.inl ⟨by kernel_rfl, ?hy5⟩) (by assumption) ?r5
  case hy5 => (intro W hSW; obtain ⟨s1, s2, s3, s4⟩ := hSW; go_simp; try with_reducible rfl)
  try simp only [Act.put, List.getElem_toArray, List.getElem_cons_zero, List.getElem_cons_succ, List.setIfInBounds_toArray, List.set_cons_zero, List.set_cons_succ]
  refine wpAnyL_take (i := 6) (v := ?v6) rfl (by kernel_rfl) (by kernel_rfl) (by kernel_rfl) (by kernel_rfl) (fun _ _ _ h => h) (Or.inl ⟨by kernel_rfl, ?hy6⟩) (by assumption) ?r6
  case hy6 => (intro W hSW; obtain ⟨s1, s2, s3, s4⟩ := hSW; go_simp; try with_reducible rfl)
  try simp only [Act.put, List.getElem_toArray, List.getElem_cons_zero, List.getElem_cons_succ, List.setIfInBounds_toArray, List.set_cons_zero, List.set_cons_succ]
  refine wpAnyL_take (i := 7) (v := ?v7) rfl (by kernel_rfl) (by kernel_rfl) (by kernel_rfl) (by kernel_rfl) (fun _ _ _ h => h) (Or.inl ⟨by kernel_rfl, ?hy7⟩) (by assumption) ?r7
  case hy7 => (intro W hSW; obtain ⟨s1, s2, s3, s4⟩ := hSW; go_simp; try with_reducible rfl)
  try simp only [Act.put, List.getElem_toArray, List.getElem_cons_zero, List.getElem_cons_succ, List.setIfInBounds_toArray, List.set_cons_zero, List.set_cons_succ]
  refine wpAnyL_take (i := 8) (v := ?v8) rfl (by kernel_rfl) (by kernel_rfl) (by kernel_rfl) (by kernel_rfl) (fun _ _ _ h => h) (Or.inl ⟨by kernel_rfl, ?hy8⟩) (by assumption) ?r8
  case hy8 => (intro W hSW; obtain ⟨s1, s2, s3, s4⟩ := hSW; go_simp; try with_reducible rfl)
  try simp only [Act.put, List.getElem_toArray, List.getElem_cons_zero, List.getElem_cons_succ, List.setIfInBounds_toArray, List.set_cons_zero, List.set_cons_succ]
  refine wpAnyL_one (i := 4) (by kernel_rfl) rfl (by decide) (fun K hK => ?_)
  go_simp
  with_reducible refine (K1.out _).mono ?_
  rintro e u1 ⟨rfl, rfl⟩
  refine hK.out _ _ (hH) (fun hH => ?_)
  clear hK K
  try simp only [Act.put, List.getElem_toArray, List.getElem_cons_zero, List.getElem_cons_succ, List.setIfInBounds_toArray, List.set_cons_zero, List.set_cons_succ]
  refine wpAnyL_one (i := 9) (by kernel_rfl) rfl (by decide) (fun K hK => ?_)
  go_simp
  with_reducible refine (K2.out _).mono ?_
  rintro e u1 ⟨rfl, rfl⟩
  refine hK.out _ _ (hH) (fun hH => ?_)
  clear hK K
  try simp only [Act.put, List.getElem_toArray, List.getElem_cons_zero, List.getElem_cons_succ, List.setIfInBounds_toArray, List.set_cons_zero, List.set_cons_succ]
  refine wpAnyL_one (i := 10) (by kernel_rfl) rfl (by decide) (fun K hK => ?_)
  go_simp
  refine hK.out _ _ (HS.out _) (fun hH => ?_)
  clear hK K
  try simp only [Act.put, List.getElem_toArray, List.getElem_cons_zero, List.getElem_cons_succ, List.setIfInBounds_toArray, List.set_cons_zero, List.set_cons_succ]
  refine wpAnyL_one (i := 11) (by kernel_rfl) rfl (by decide) (fun K hK => ?_)
  go_simp
  with_reducible refine (K3.out _ _ ?c0 ?c1).mono ?_
  case c0 => go_simp
  case c1 => go_simp
  rintro e u1 ⟨rfl, rfl⟩
  refine hK.out _ _ (hH) (fun hH => ?_)
  clear hK K
  try simp only [Act.put, List.getElem_toArray, List.getElem_cons_zero, List.getElem_cons_succ, List.setIfInBounds_toArray, List.set_cons_zero, List.set_cons_succ]
  refine wpAnyL_last (by kernel_rfl) rfl (fun K hK => ?_)
  go_simp
  refine hK.out _ _ ?_
  clear hK K
  try simp only [Act.put, List.getElem_toArray, List.getElem_cons_zero, List.getElem_cons_succ, List.setIfInBounds_toArray, List.set_cons_zero, List.set_cons_succ]
  refine wpAnyL_done (by kernel_rfl) ?_ _
  refine NoPanic.normal ?_
  go_wp2
  go_ret
  exact ⟨rfl, Hend.out _ _ _⟩
end Go.Proofs.YtmljlkjomjflpaaGreat

/- hold.All -/
namespace Go.Proofs.YtmljlkjomjflpaaGreat
open Go.RowKit
def gH (p : Hk × Int) : Held := ⟨p.1.num, p.1.acct, p.2⟩
abbrev RkH (M : List (Hk × Int)) (L : List Held) : Prop := RK ltH Held.key gH M L
/-- block g holds holds, whose map lies in block b: the holds L, in order -/
def HoA (w : World) (g b : Nat) (L : List Held) : Prop := ∃ M, HoIs w g b M ∧ RkH M L
theorem HoA.kept {w w' : World} {g b : Nat} {L : List Held} {S : Nat → Prop} (h : HoA w g b L) (hk : Gr w w' S) (h1 : ¬ S g) (h2 : ¬ S b) : HoA w' g b L := by
  obtain ⟨M, h, hr⟩ := h
  exact ⟨M, ⟨h.ne, (hk.block g h.lt.1 h1).trans h.cell, by
    have hlt := h.map.lt
    obtain ⟨es, clock, hb, r⟩ := h.map
    exact ⟨es, clock, (hk.block b hlt h2).trans hb, r⟩⟩, hr⟩
theorem HoA.later {w w' : World} {g b : Nat} {L : List Held} (h : HoA w g b L) (hb : Below w.heap.size w w') : HoA w' g b L := h.kept (Gr.of_below hb (fun _ => False)) id id
theorem HoA.lt {w : World} {g b : Nat} {L : List Held} (h : HoA w g b L) : g < w.heap.size ∧ b < w.heap.size ∧ b ≠ g := by
  obtain ⟨M, h, _⟩ := h
  exact ⟨h.lt.1, h.lt.2, h.ne⟩
theorem HoA.srt {w : World} {g b : Nat} {L : List Held} (h : HoA w g b L) : SrtL ltH L := by
  obtain ⟨M, _, h⟩ := h
  exact h.srt
/-- holds as they are kept -/
def OkH (L : List Held) : Prop := ∀ x ∈ L, 1 ≤ x.num ∧ x.num ≤ 9999 ∧ 1 ≤ x.sum ∧ x.sum ≤ 9223372036854775807 ∧ x.acct.size ≤ maxLen
theorem heldInfo : (Tryz.prog.info? 81).map (fun i => (i.zero, i.size, i.bytes)) = some (some (.agg #[i64 0, .string ByteArray.empty, i64 0]), Enc.size Held, 32) := by kernel_rfl
def entH (x : Held) : Hk × Value := (x.key, i64 x.sum)
theorem entH_gH (p : Hk × Int) : entH (gH p) = (p.1, i64 p.2) := rfl
theorem hv_eq (H : List (Hk × Int)) : hv H = (H.map gH).map entH := by
  unfold hv
  rw [List.map_map]
  rfl
theorem entH_inj {l m : List Held} (h : (l.map entH).Perm (m.map entH)) : l.Perm m := by
  have hb : ∀ x : Held, (fun p : Hk × Value => (⟨p.1.num, p.1.acct, intOf p.2⟩ : Held)) (entH x) = x := fun x => rfl
  have := h.map (fun p : Hk × Value => (⟨p.1.num, p.1.acct, intOf p.2⟩ : Held))
  rw [List.map_map, List.map_map] at this
  have e : ∀ l : List Held, l.map ((fun p : Hk × Value => (⟨p.1.num, p.1.acct, intOf p.2⟩ : Held)) ∘ entH) = l := fun l => by
    conv => rhs; rw [← List.map_id l]
    exact List.map_congr_left fun x _ => rfl
  rwa [e, e] at this
theorem perm_ent {M : List Held} {L : List (Hk × Value)} (h : L.Perm (M.map entH)) {p : Hk × Value} (hp : p ∈ L) : ∃ x ∈ M, p = entH x := by
  obtain ⟨x, hx, e⟩ := List.mem_map.1 (h.mem_iff.1 hp)
  exact ⟨x, hx, e.symm⟩
theorem hcmp_lt (x y : Held) : ltH x y = decide (orN (cmpS x.acct y.acct) (cmpN x.num y.num) < 0) := by
  unfold ltH orN cmpS cmpN
  cases h1 : bless x.acct y.acct with
  | true => simp
  | false =>
    cases h2 : bless y.acct x.acct with
    | true =>
      have hne : x.acct ≠ y.acct := fun e => by rw [e, bless_strict.irr] at h2; cases h2
      simp [hne]
    | false =>
      have he := bless_tri h1 h2
      by_cases h3 : x.num < y.num
      · simp [he, h3]
      · by_cases h4 : y.num < x.num
        · simp [he, h3, h4]
        · simp [he, h3, h4]
theorem keyH_tri {a b : Held} (h1 : ltH a b = false) (h2 : ltH b a = false) : a.key = b.key := by
  by_cases e : a.key = b.key
  · exact e
  · rcases keyH.co a b e with h | h
    · rw [h] at h1; cases h1
    · rw [h] at h2; cases h2
set_option maxRecDepth 100000 in
set_option maxHeartbeats 8000000 in
theorem hoall_c (g b : Nat) (L : List Held) (w : World) (h : HoA w g b L) (hok : OkH L) (hn : L.length ≤ 65536) :
    Calls Tryz.prog 19 #[.pointer (some ⟨g, 0, none⟩)] w fun e w' => ∃ v, e = .returned v ∧ Own w' w.heap.size 81 v L ∧ Below w.heap.size w w' := by
  obtain ⟨M, h, hr⟩ := h
  have hlg := h.lt.1
  have Hr := Lib.hid hr
  have Hok := Lib.hid hok
  have c0 := cell_of_row _ g 0 _ _ (0, 0) h.cell
  simp only [List.getElem?_toArray, List.getElem?_cons_zero] at c0
  have hm := h.map
  rw [hv_eq] at hm
  have Hmap := Lib.hid hm
  have hlb := h.lt.2
  have hpm := Lib.hid (show ((M.map gH).map entH).Perm (L.map entH) from hr.perm.map _)
  generalize M.map gH = M1 at *
  clear h hm hr hok
  go_enter Tryz.func19, Tryz.ntmps19
  go_wp2_with (at_range; refine wpList_rng rfl (.tmp 11) 99 rfl Tryz.underlying99 rfl Hmap.out ?_; intro w0 hrg hb0 hs0)
  go_frame
  go_loopw [3] (fun v wr => ∃ (acc : List Held) (Lf : List (Hk × Value)), RngIs Hk.v wr b w.heap.size (M1.map entH) Lf ∧ Own wr (w.heap.size + 1) 81 v acc ∧ (acc.map entH ++ Lf).Perm (L.map entH) ∧ Below w.heap.size w wr) (fun _ wr => wr.rangeLeft b w.heap.size)
  case atStart => exact ⟨[], M1.map entH, hrg, Own.nil_ _ _ _, by simpa using hpm.out, hb0⟩
  case round =>
    obtain ⟨acc, Lf, hrg, hO, hp, hB⟩ := hrel
    have hlen := hrg.len
    have HlL := Lib.hid hpm.out.length_eq
    go_wp2_with (at_next; refine wpList_rng_next rfl (.tmp 12) rfl rfl hrg ?_ ?_)
    · intro hL0
      subst hL0
      rw [List.append_nil] at hp
      have hpL := entH_inj hp
      have HpL := Lib.hid hpL
      have hsz : acc.length ≤ 1000000 := by rw [hpL.length_eq]; omega
      have hcmp := fun (x y : Held) (W : World) => hcmp_c x y W
      have hC := sortF_own (α := Held) Tryz.sortHd Tryz.isAgg81 (show ∀ w : World, (sizeOf 81).run Tryz.prog w = .ok (Enc.size Held) w from Tryz.sizeOf81) (fun x y => orN (cmpS x.acct y.acct) (cmpN x.num y.num)) ltH hcmp_lt keyH.strict 62 #[] (enters_of Tryz.func62 (by kernel_rfl) rfl) hcmp _ 81 _ acc wr hO hsz
      change Calls Tryz.prog 61 _ _ _ at hC
      have HC := Lib.hid hC
      have HO := Lib.hid hO
      clear hC hcmp hO hrg hp hlen hpL hsz
      go_wp2_with fail
      refine HC.out.mono ?_
      rintro e w2 ⟨rfl, l', hp', hs', hO', hg'⟩
      have hfin := Lib.hid (show l' = L from sorted_unique (hp'.trans HpL.out) hs' (Hr.out.srt.sorted keyH.strict) fun a ha b hb e1 e2 => by
        rcases keyH_tri e1 e2 with e
        exact Hr.out.srt.one keyH ((hp'.trans HpL.out).mem_iff.1 ha) ((hp'.trans HpL.out).mem_iff.1 hb) e)
      have hB2 := hB.trans (HO.out.below hg' (Nat.le_succ _) hB.size)
      clear hp' hs' HC HO hg'
      go_wp2
      go_ret
      exact ⟨_, rfl, by rw [← hfin.out]; exact hO'.mono (Nat.le_succ _), hB2⟩
    · intro key val L' w1 hpp hrg1 hg1 hsz1 hen
      obtain ⟨x, hx, hxe⟩ := perm_ent (L := acc.map entH ++ Lf) hp (List.mem_append_right _ (hpp.mem_iff.2 (List.mem_cons_self ..)))
      unfold entH at hxe
      injection hxe with e1 e2
      subst e1 e2
      have Hx := Lib.hid (show (acc.map entH ++ [entH x] ++ L').Perm (L.map entH) from (List.Perm.trans (by rw [List.append_assoc]; exact List.Perm.append_left _ hpp.symm) hp))
      have hsx := Lib.hid (Hok.out x hx).2.2.2.2
      have hO1 := hO.grown hg1 (by
        cases hv : Value.ownBlock _ with
        | none => exact .inl rfl
        | some j =>
          right
          intro e
          injection e with e
          have := (hO.1.lt j hv).1
          omega) (fun y hy => hO.2 y hy)
      have hB1 := hB.trans (below_of_grown hg1 hB.size (fun j e => by injection e with e; omega))
      simp only [Held.key, Hk.v] at hen
      have hlen1 := hrg1.len
      have HP := Lib.hid hpp.length_eq
      have Hlen := Lib.hid hlen
      clear hp hpp hx hO hg1 hB hrg hlen
      have HO2 := Lib.hid ((hO1.later ((Below.refl _ _).alloc (Nat.le_refl _) (.cells #[.string x.acct, i64 x.num] 108))).later ((Below.refl _ _).alloc (Nat.le_refl _) (.cells #[i64 x.num, .string x.acct, i64 x.sum] 81)))
      have Hne := Lib.hid (hO1.new_ne (Nat.le_succ w1.heap.size))
      have HH := Lib.hid (heap_alloc2_new w1 (.cells #[.string x.acct, i64 x.num] 108) (.cells #[i64 x.num, .string x.acct, i64 x.sum] 81))
      have hB2 := (hB1.alloc hB1.size (.cells #[.string x.acct, i64 x.num] 108)).alloc (by have := hB1.size; simp; omega) (.cells #[i64 x.num, .string x.acct, i64 x.sum] 81)
      have hrg2 := (hrg1.later ((Below.refl _ _).alloc (Nat.le_refl _) (.cells #[.string x.acct, i64 x.num] 108))).later ((Below.refl _ _).alloc (Nat.le_refl _) (.cells #[i64 x.num, .string x.acct, i64 x.sum] 81))
      have HRG := Lib.hid hrg2
      have Hal := Lib.hid (show acc.length + 1 ≤ 65536 from by
        have h1 := Hx.out.length_eq
        simp only [List.length_append, List.length_map, List.length_singleton] at h1
        omega)
      have hsB := hB1.size
      have hg1 : w.heap.size + 1 ≤ w1.heap.size := by have := hrg1.lt.2; omega
      have Hg1 := Lib.hid hg1
      unfold Held.key
      clear hO1 hB1 hrg1 hlen1 hrg2 hg1 hsz1
      go_wp2_with (at_builtin; refine wpList_append_one rfl (some 26) (.tmp 18) (.tmp 25) 41 rfl rfl (.agg #[i64 0, .string ByteArray.empty, i64 0]) 32 Tryz.underlying41 heldInfo rfl (by decide) (by decide) rfl HO2.out (w1.heap.size + 1) x rfl _ 81 HH.out rfl Hne.out hsx.out (by have := Hal.out; omega) (by have := Hg1.out; simp; omega) ?_; intro v3 w3 hO3 hg3 hat3)
      have hrg3 := HRG.out.kept hg3 (by
        intro e
        have := (HO2.out.1.lt b e.symm).1
        omega) (by
        intro e
        have := (HO2.out.1.lt _ e.symm).1
        omega)
      have hB3 := hB2.trans (HO2.out.below hg3 (Nat.le_succ _) hB2.size)
      clear hg3 hat3 HO2 hB2
      go_roundw
      case rel => exact ⟨acc ++ [x], L', hrg3, hO3, by rw [List.map_append]; exact Hx.out, hB3⟩
      case measure =>
        rw [hrg3.len, Hlen.out, HP.out]
        simp
end Go.Proofs.YtmljlkjomjflpaaGreat

/- hold.Of -/
namespace Go.Proofs.YtmljlkjomjflpaaGreat
open Go.RowKit
set_option maxRecDepth 100000 in
set_option maxHeartbeats 2000000 in
theorem of1_c (x : Held) (s : ByteArray) (q : Nat) (w : World) (hq : w.cell? ⟨q, 0, none⟩ = some (.string s)) :
    Calls Tryz.prog 67 #[x.v, .pointer (some ⟨q, 0, none⟩)] w fun e w' => e = .returned (.bool (!decide (x.acct = s))) ∧ Below w.heap.size w w' := by
  have hb0 := (Below.refl w.heap.size w).alloc (Nat.le_refl _) (.cells #[i64 x.num, .string x.acct, i64 x.sum] 81)
  have hlq := World.block_lt_of_cell? _ _ hq
  have hne : q ≠ w.heap.size := Nat.ne_of_lt hlq
  by_cases he : x.acct = s
  · have e1 := beqS_of_eq he
    rw [decide_eq_true he]
    clear he
    go_enter Tryz.func67, Tryz.ntmps67
    go_wp2
    go_ret
    exact ⟨rfl, hb0⟩
  · have e1 := beqS_of_ne he
    rw [decide_eq_false he]
    clear he
    go_enter Tryz.func67, Tryz.ntmps67
    go_wp2
    go_ret
    exact ⟨rfl, hb0⟩
def ofL (L : List Held) (s : ByteArray) : List Held := L.filter fun x => decide (x.acct = s)
set_option maxRecDepth 100000 in
set_option maxHeartbeats 4000000 in
theorem hoof_c (g b : Nat) (L : List Held) (s : ByteArray) (w : World) (h : HoA w g b L) (hok : OkH L) (hn : L.length ≤ 65536) :
    Calls Tryz.prog 20 #[.pointer (some ⟨g, 0, none⟩), .string s] w fun e w' => ∃ v, e = .returned v ∧ Own w' w.heap.size 81 v (ofL L s) ∧ Below w.heap.size w w' := by
  have hb0 := (Below.refl w.heap.size w).alloc (Nat.le_refl _) (.cells #[.string s] 9)
  have hA := Lib.hid (hoall_c g b L _ (h.later hb0) hok hn)
  have hc := heap_alloc_new w (.cells #[.string s] 9)
  have HL := Lib.hid (show (L.filter fun x => !!decide (x.acct = s)) = ofL L s by unfold ofL; congr 1; funext x; simp)
  have Hn := Lib.hid hn
  clear h hok hn
  go_enter Tryz.func20, Tryz.ntmps20
  go_wp2_with fail
  generalize w.alloc (.cells #[.string s] 9) = w0 at *
  refine hA.out.mono ?_
  rintro e w1 ⟨v, rfl, hO, hF⟩
  have hc1 := (hF.block _ (Array.getElem?_eq_some_iff.1 hc).1).trans hc
  have hb1 := below_on hb0 (Nat.le_refl _) hF
  have hlt := (Array.getElem?_eq_some_iff.1 hc).1
  have HD := Lib.hid (deleteFunc_held w0.heap.size v L 67 #[.pointer (some ⟨w.heap.size, 0, none⟩)] (fun x => !decide (x.acct = s)) w1 hO Hn.out (enters_of Tryz.func67 (by kernel_rfl) rfl) (fun x _ w2 hg => by
    have hcell := hg.block w.heap.size (Nat.lt_of_lt_of_le hlt hF.size) (fun e => by
      have := (hO.1.lt _ e.symm).1
      omega)
    have hc2 := cell_of_row _ w.heap.size 0 _ _ (0, 0) (hcell.trans hc1)
    exact of1_c x s w.heap.size w2 hc2))
  have HO := Lib.hid hO
  clear hA hc hc1 hF
  go_wp2_with fail
  refine HD.out.mono ?_
  rintro e w2 ⟨v2, rfl, hO2, hg2, hv2⟩
  have hb2 := hb1.trans (HO.out.below hg2 (by have := hb0.size; omega) hb1.size)
  rw [HL.out] at hO2
  go_wp2
  go_ret
  exact ⟨_, rfl, hO2.mono hb0.size, hb2⟩
end Go.Proofs.YtmljlkjomjflpaaGreat
