/- Texts of this claim, laid together: Hbegin, Hold, SortF. -/
import Derived.Test.YtmljlkjomjflpaaGreatRows
import Derived.Test.YtmljlkjomjflpaaGreatBb8
import Derived.Test.YtmljlkjomjflpaaGreatBb5
import Derived.Test.YtmljlkjomjflpaaGreatBb7
import Derived.WalkKit
import Derived.WalkSpells
import Derived.WalkLawsBesides
import Derived.Deep.QuietTactic
import Derived.BigQuiet
import Derived.Laws.StructEq
import Derived.Deep.DeepFit
import Derived.StillTailTactics
import Derived.Test.YtmljlkjomjflpaaGreatBb3
import Derived.Test.YtmljlkjomjflpaaGreatBb4
import Derived.Test.YtmljlkjomjflpaaGreatBb1
import Derived.Shelf.SlSortCmp.WholeK
import Derived.Shelf.SlSortCmp.NoneTotal

/- law08.begin -/
namespace Go.Proofs.YtmljlkjomjflpaaGreat
open Go.RowKit
abbrev sA : ByteArray := ⟨#[97]⟩
abbrev sB : ByteArray := ⟨#[98]⟩
abbrev sC : ByteArray := ⟨#[99]⟩
def stB : List Ac := [⟨sA, 0, 0, 0⟩, ⟨sB, 0, 0, 5⟩, ⟨sC, 0, 0, 10⟩]
def L0 : List Ac := [⟨sA, 30, 0, 0⟩, ⟨sB, 10, 0, 5⟩, ⟨sC, 0, 0, 10⟩]
def L01 : List Ac := [⟨sA, 30, 0, 0⟩, ⟨sB, 0, 0, 5⟩, ⟨sC, 0, 0, 10⟩]
theorem toL (b : UInt8) : (⟨#[b]⟩ : ByteArray).toList = [b] := by rw [ByteArray.toList_eq]
theorem bl1 (a b : UInt8) : bless ⟨#[a]⟩ ⟨#[b]⟩ = Op.bytesLess [a] [b] := by unfold bless; rw [toL, toL]
theorem nameA : nameB sA = true := by unfold nameB; rw [toL]; rfl
theorem nameBb : nameB sB = true := by unfold nameB; rw [toL]; rfl
theorem nameC : nameB sC = true := by unfold nameB; rw [toL]; rfl
theorem ltAB : bless sA sB = true := by rw [bl1]; rfl
theorem ltAC : bless sA sC = true := by rw [bl1]; rfl
theorem ltBC : bless sB sC = true := by rw [bl1]; rfl
theorem neAB : sA ≠ sB := by decide
theorem neAC : sA ≠ sC := by decide
theorem neBC : sB ≠ sC := by decide
theorem op0 : openL [] sA 0 = (0, stB.take 1) := by
  unfold openL
  rw [if_neg (by rw [nameA]; decide), if_neg (by decide), if_neg (by decide)]
  rfl
theorem op1 : openL (stB.take 1) sB 5 = (0, stB.take 2) := by
  unfold openL
  rw [if_neg (by rw [nameBb]; decide), if_neg (by decide), if_neg (by decide)]
  simp only [stB, List.take_succ_cons, List.take_zero, insB]
  rw [if_pos (show ltA ⟨sA, 0, 0, 0⟩ ⟨sB, 0, 0, 5⟩ = true from ltAB)]
theorem op2 : openL (stB.take 2) sC 10 = (0, stB.take 3) := by
  unfold openL
  rw [if_neg (by rw [nameC]; decide), if_neg (by decide), if_neg (by decide)]
  simp only [stB, List.take_succ_cons, List.take_zero, insB]
  rw [if_pos (show ltA ⟨sA, 0, 0, 0⟩ ⟨sC, 0, 0, 10⟩ = true from ltAC), if_pos (show ltA ⟨sB, 0, 0, 5⟩ ⟨sC, 0, 0, 10⟩ = true from ltBC)]
theorem gv0 : turnL (givD (-30)) (stB.take 3) sA (-30) = (0, L01) := by rfl
theorem gv1 : turnL (givD (-10)) L01 sB (-10) = (0, L0) := by rfl
theorem srt_st (k : Nat) : SrtL ltA (stB.take k) := by
  refine List.Pairwise.sublist (List.take_sublist k stB) ?_
  unfold stB
  simp only [List.pairwise_cons, List.mem_cons, List.not_mem_nil, or_false, forall_eq_or_imp, forall_eq, ltA]
  exact ⟨⟨ltAB, ltAC⟩, ltBC, by simp, List.Pairwise.nil⟩
theorem srt_L0 : SrtL ltA L0 := by
  unfold L0 SrtL
  simp only [List.pairwise_cons, List.mem_cons, List.not_mem_nil, or_false, forall_eq_or_imp, forall_eq, ltA]
  exact ⟨⟨ltAB, ltAC⟩, ltBC, by simp, List.Pairwise.nil⟩
theorem srt_L01 : SrtL ltA L01 := by
  unfold L01 SrtL
  simp only [List.pairwise_cons, List.mem_cons, List.not_mem_nil, or_false, forall_eq_or_imp, forall_eq, ltA]
  exact ⟨⟨ltAB, ltAC⟩, ltBC, by simp, List.Pairwise.nil⟩
theorem ok_of {L : List Ac} (h : ∀ x ∈ L, (-1000 ≤ x.hav ∧ x.hav ≤ 1000) ∧ (0 ≤ x.set_ ∧ x.set_ ≤ 1000) ∧ (0 ≤ x.lim ∧ x.lim ≤ 1000) ∧ nameB x.name = true) : OkA L := fun x hx => by
  obtain ⟨h1, h2, h3, h4⟩ := h x hx
  exact ⟨⟨⟨by omega, by omega⟩, ⟨by omega, by omega⟩, by omega, by omega⟩, h2.1, h4⟩
theorem ok_st (k : Nat) : OkA (stB.take k) := ok_of fun x hx => by
  have := List.mem_of_mem_take hx
  simp only [stB, List.mem_cons, List.not_mem_nil, or_false] at this
  rcases this with rfl | rfl | rfl
  · exact ⟨⟨by decide, by decide⟩, ⟨by decide, by decide⟩, ⟨by decide, by decide⟩, nameA⟩
  · exact ⟨⟨by decide, by decide⟩, ⟨by decide, by decide⟩, ⟨by decide, by decide⟩, nameBb⟩
  · exact ⟨⟨by decide, by decide⟩, ⟨by decide, by decide⟩, ⟨by decide, by decide⟩, nameC⟩
theorem ok_L01 : OkA L01 := ok_of fun x hx => by
  simp only [L01, List.mem_cons, List.not_mem_nil, or_false] at hx
  rcases hx with rfl | rfl | rfl
  · exact ⟨⟨by decide, by decide⟩, ⟨by decide, by decide⟩, ⟨by decide, by decide⟩, nameA⟩
  · exact ⟨⟨by decide, by decide⟩, ⟨by decide, by decide⟩, ⟨by decide, by decide⟩, nameBb⟩
  · exact ⟨⟨by decide, by decide⟩, ⟨by decide, by decide⟩, ⟨by decide, by decide⟩, nameC⟩
theorem ok_L0 : OkA L0 := ok_of fun x hx => by
  simp only [L0, List.mem_cons, List.not_mem_nil, or_false] at hx
  rcases hx with rfl | rfl | rfl
  · exact ⟨⟨by decide, by decide⟩, ⟨by decide, by decide⟩, ⟨by decide, by decide⟩, nameA⟩
  · exact ⟨⟨by decide, by decide⟩, ⟨by decide, by decide⟩, ⟨by decide, by decide⟩, nameBb⟩
  · exact ⟨⟨by decide, by decide⟩, ⟨by decide, by decide⟩, ⟨by decide, by decide⟩, nameC⟩
theorem sz_s (b : UInt8) : (⟨#[b]⟩ : ByteArray).size ≤ maxLen := by show 1 ≤ maxLen; decide
theorem r64_small {n : Int} (h : -1000 ≤ n ∧ n ≤ 1000) : R64 n := ⟨by omega, by omega⟩
/-- what begin leaves: block g, b the chart; block r the reference's; in both the accounts L -/
structure BegIs (w0 w : World) (g b r : Nat) (L : List Ac) : Prop where
  ch : ChA w g b L
  rc : RcIs w (fun k => k ≠ g ∧ k ≠ b ∧ k ≠ r) r L
  ne : g ≠ r ∧ b ≠ r ∧ g ≠ b
  ge : w0.heap.size ≤ g ∧ w0.heap.size ≤ b ∧ w0.heap.size ≤ r
  be : Below w0.heap.size w0 w
theorem BegIs.prog {w0 w w' : World} {g b r : Nat} {L L' : List Ac} (h : BegIs w0 w g b r L) (hc : ChA w' g b L') (hg : w.grownBy w' (some b)) : ChA w' g b L' ∧ RcIs w' (fun k => k ≠ g ∧ k ≠ b ∧ k ≠ r) r L ∧ Below w0.heap.size w0 w' :=
  ⟨hc, h.rc.kept (Gr.of_grown hg) (fun e => by injection e with e; exact h.ne.2.1 e) (fun k hk e => by injection e with e; exact hk.2.1 e.symm), h.be.trans (below_of_grown hg h.be.size (fun k e => by injection e with e; have := h.ge.2.1; omega))⟩
theorem BegIs.refe {w0 w w' : World} {g b r : Nat} {L : List Ac} (hc : ChA w g b L) (hne : g ≠ r ∧ b ≠ r ∧ g ≠ b) (hge : w0.heap.size ≤ g ∧ w0.heap.size ≤ b ∧ w0.heap.size ≤ r) (hb : Below w0.heap.size w0 w) (hr : RcIs w' (fun k => k ≠ g ∧ k ≠ b ∧ k ≠ r) r L) (hg : w.grownBy w' (some r)) : BegIs w0 w' g b r L :=
  ⟨hc.kept (Gr.of_grown hg) (fun e => by injection e with e; exact hne.1 e.symm) (fun e => by injection e with e; exact hne.2.1 e.symm), hr, hne, hge, hb.trans (below_of_grown hg hb.size (fun k e => by injection e with e; have := hge.2.2; omega))⟩
set_option maxRecDepth 100000 in
set_option maxHeartbeats 8000000 in
theorem begin_c (w : World) : Calls Tryz.prog 13 #[] w fun e w' => ∃ g b r, e = .returned (.tuple #[.pointer (some ⟨g, 0, none⟩), .pointer (some ⟨r, 0, none⟩)]) ∧ BegIs w w' g b r L0 := by
  have hN := Lib.hid (chnewA_c w)
  go_enter Tryz.func13, Tryz.ntmps13
  go_wp2_with fail
  refine hN.out.mono ?_
  rintro e w1 ⟨rfl, hc, hF⟩
  have hsz := hF.size
  have hlt := hc.lt
  have hb2 := (hF.alloc hsz (.cells #[.slice none 0 0] 49)).alloc (by simp; omega) (.cells #[.string sA, .string sB, .string sC] 9)
  have hc2 := (hc.later ((Below.refl _ _).alloc (Nat.le_refl _) (.cells #[.slice none 0 0] 49))).later ((Below.refl _ _).alloc (Nat.le_refl _) (.cells #[.string sA, .string sB, .string sC] 9))
  have hr2 := heap_alloc2_old w1 (.cells #[.slice none 0 0] 49) (.cells #[.string sA, .string sB, .string sC] 9)
  have hn2 := heap_alloc2_new w1 (.cells #[.slice none 0 0] 49) (.cells #[.string sA, .string sB, .string sC] 9)
  have hB : BegIs w ((w1.alloc (.cells #[.slice none 0 0] 49)).alloc (.cells #[.string sA, .string sB, .string sC] 9)) (w.heap.size + 1) w.heap.size w1.heap.size [] :=
    ⟨hc2, ⟨none, 0, hr2, SlS.nil_ _ _, .inl ⟨rfl, rfl⟩⟩, by omega, by omega, hb2⟩
  have HB := Lib.hid hB
  have hnb : w1.heap.size + 1 < ((w1.alloc (.cells #[.slice none 0 0] 49)).alloc (.cells #[.string sA, .string sB, .string sC] 9)).heap.size := by simp
  have hnr : w1.heap.size + 1 ≠ w.heap.size + 1 ∧ w1.heap.size + 1 ≠ w.heap.size ∧ w1.heap.size + 1 ≠ w1.heap.size := by omega
  have HN := Lib.hid hn2
  have Hnr := Lib.hid hnr
  clear hB hc hF hb2 hc2 hr2 hn2 hN hnr hsz hlt
  go_wp2_with fail
  generalize ((w1.alloc (.cells #[.slice none 0 0] 49)).alloc (.cells #[.string sA, .string sB, .string sC] 9)) = wa0 at *
  refine wp_loop_rounds 4 ?_
  rw [rounds_succ]
  have n0 := cell_of_row _ (w1.heap.size + 1) 0 _ _ (0, 0) HN.out
  simp only [List.getElem?_toArray, List.getElem?_cons_zero] at n0
  have hP := Lib.hid (openA_c _ _ ([] : List Ac) sA 0 wa0 HB.out.ch)
  rw [op0] at hP
  go_wp2_with fail
  refine hP.out.mono ?_
  rintro e wc0 ⟨rfl, hc, hg⟩
  obtain ⟨hc, hrc, hbb⟩ := HB.out.prog hc hg
  have HN := Lib.hid ((hg.block _ hnb (fun e => by injection e with e; exact Hnr.out.2.1 e)).trans HN.out)
  have hnb := Nat.lt_of_lt_of_le hnb hg.size
  have hQ := Lib.hid (ropen_c _ w1.heap.size ([] : List Ac) sA 0 wc0 hrc (by decide) (sz_s _) (List.Pairwise.nil) (fun k hk => ⟨by have := hc.lt.1; omega, by have := hc.lt.2.1; omega, by have := hrc.lt; omega⟩) (fun h => h.2.2 rfl) (by decide))
  rw [op0] at hQ
  have HC := Lib.hid hc
  have HBB := Lib.hid hbb
  have n0 := cell_of_row _ (w1.heap.size + 1) 0 _ _ (0, 0) HN.out
  simp only [List.getElem?_toArray, List.getElem?_cons_zero] at n0
  clear hP hc hrc hg hbb
  go_wp2_with fail
  refine hQ.out.mono ?_
  rintro e wa1 ⟨rfl, hrc, hg⟩
  have HB := Lib.hid (BegIs.refe HC.out HB.out.ne HB.out.ge HBB.out hrc hg)
  have HN := Lib.hid ((hg.block _ hnb (fun e => by injection e with e; exact Hnr.out.2.2 e)).trans HN.out)
  have hnb := Nat.lt_of_lt_of_le hnb hg.size
  clear hQ hrc hg HC HBB n0
  go_wp2_with fail
  rw [rounds_succ]
  have n1 := cell_of_row _ (w1.heap.size + 1) 1 _ _ (0, 0) HN.out
  simp only [List.getElem?_toArray, List.getElem?_cons_zero, List.getElem?_cons_succ] at n1
  have hP := Lib.hid (openA_c _ _ (stB.take 1) sB 5 wa1 HB.out.ch)
  rw [op1] at hP
  go_wp2_with fail
  refine hP.out.mono ?_
  rintro e wc1 ⟨rfl, hc, hg⟩
  obtain ⟨hc, hrc, hbb⟩ := HB.out.prog hc hg
  have HN := Lib.hid ((hg.block _ hnb (fun e => by injection e with e; exact Hnr.out.2.1 e)).trans HN.out)
  have hnb := Nat.lt_of_lt_of_le hnb hg.size
  have hQ := Lib.hid (ropen_c _ w1.heap.size (stB.take 1) sB 5 wc1 hrc (by decide) (sz_s _) (srt_st _) (fun k hk => ⟨by have := hc.lt.1; omega, by have := hc.lt.2.1; omega, by have := hrc.lt; omega⟩) (fun h => h.2.2 rfl) (by decide))
  rw [op1] at hQ
  have HC := Lib.hid hc
  have HBB := Lib.hid hbb
  have n1 := cell_of_row _ (w1.heap.size + 1) 1 _ _ (0, 0) HN.out
  simp only [List.getElem?_toArray, List.getElem?_cons_zero, List.getElem?_cons_succ] at n1
  clear hP hc hrc hg hbb
  go_wp2_with fail
  refine hQ.out.mono ?_
  rintro e wa2 ⟨rfl, hrc, hg⟩
  have HB := Lib.hid (BegIs.refe HC.out HB.out.ne HB.out.ge HBB.out hrc hg)
  have HN := Lib.hid ((hg.block _ hnb (fun e => by injection e with e; exact Hnr.out.2.2 e)).trans HN.out)
  have hnb := Nat.lt_of_lt_of_le hnb hg.size
  clear hQ hrc hg HC HBB n1
  go_wp2_with fail
  rw [rounds_succ]
  have n2 := cell_of_row _ (w1.heap.size + 1) 2 _ _ (0, 0) HN.out
  simp only [List.getElem?_toArray, List.getElem?_cons_zero, List.getElem?_cons_succ] at n2
  have hP := Lib.hid (openA_c _ _ (stB.take 2) sC 10 wa2 HB.out.ch)
  rw [op2] at hP
  go_wp2_with fail
  refine hP.out.mono ?_
  rintro e wc2 ⟨rfl, hc, hg⟩
  obtain ⟨hc, hrc, hbb⟩ := HB.out.prog hc hg
  have HN := Lib.hid ((hg.block _ hnb (fun e => by injection e with e; exact Hnr.out.2.1 e)).trans HN.out)
  have hnb := Nat.lt_of_lt_of_le hnb hg.size
  have hQ := Lib.hid (ropen_c _ w1.heap.size (stB.take 2) sC 10 wc2 hrc (by decide) (sz_s _) (srt_st _) (fun k hk => ⟨by have := hc.lt.1; omega, by have := hc.lt.2.1; omega, by have := hrc.lt; omega⟩) (fun h => h.2.2 rfl) (by decide))
  rw [op2] at hQ
  have HC := Lib.hid hc
  have HBB := Lib.hid hbb
  have n2 := cell_of_row _ (w1.heap.size + 1) 2 _ _ (0, 0) HN.out
  simp only [List.getElem?_toArray, List.getElem?_cons_zero, List.getElem?_cons_succ] at n2
  clear hP hc hrc hg hbb
  go_wp2_with fail
  refine hQ.out.mono ?_
  rintro e wa3 ⟨rfl, hrc, hg⟩
  have HB := Lib.hid (BegIs.refe HC.out HB.out.ne HB.out.ge HBB.out hrc hg)
  have HN := Lib.hid ((hg.block _ hnb (fun e => by injection e with e; exact Hnr.out.2.2 e)).trans HN.out)
  have hnb := Nat.lt_of_lt_of_le hnb hg.size
  clear hQ hrc hg HC HBB n2
  go_wp2_with fail
  rw [rounds_succ]
  go_wp2_with fail
  have hP := Lib.hid (giveA_c _ _ (stB.take 3) sA (-30) wa3 HB.out.ch (ok_st 3) (r64_small ⟨by decide, by decide⟩))
  rw [gv0] at hP
  refine hP.out.mono ?_
  rintro e wd0 ⟨rfl, hc, hg⟩
  obtain ⟨hc, hrc, hbb⟩ := HB.out.prog hc hg
  have hQ := Lib.hid (rgive_c _ w1.heap.size (stB.take 3) sA (-30) wd0 hrc (by decide) (ok_st 3) (srt_st 3) (r64_small ⟨by decide, by decide⟩) (fun k hk => ⟨by have := hc.lt.1; omega, by have := hc.lt.2.1; omega, by have := hrc.lt; omega⟩) (fun h => h.2.2 rfl))
  rw [gv0] at hQ
  have HC := Lib.hid hc
  have HBB := Lib.hid hbb
  clear hP hc hrc hg hbb
  go_wp2_with fail
  refine hQ.out.mono ?_
  rintro e we0 ⟨rfl, hrc, hg⟩
  have HB := Lib.hid (BegIs.refe HC.out HB.out.ne HB.out.ge HBB.out hrc hg)
  clear hQ hrc hg HC HBB
  go_wp2_with fail
  have hP := Lib.hid (giveA_c _ _ L01 sB (-10) we0 HB.out.ch ok_L01 (r64_small ⟨by decide, by decide⟩))
  rw [gv1] at hP
  refine hP.out.mono ?_
  rintro e wd1 ⟨rfl, hc, hg⟩
  obtain ⟨hc, hrc, hbb⟩ := HB.out.prog hc hg
  have hQ := Lib.hid (rgive_c _ w1.heap.size L01 sB (-10) wd1 hrc (by decide) ok_L01 srt_L01 (r64_small ⟨by decide, by decide⟩) (fun k hk => ⟨by have := hc.lt.1; omega, by have := hc.lt.2.1; omega, by have := hrc.lt; omega⟩) (fun h => h.2.2 rfl))
  rw [gv1] at hQ
  have HC := Lib.hid hc
  have HBB := Lib.hid hbb
  clear hP hc hrc hg hbb
  go_wp2_with fail
  refine hQ.out.mono ?_
  rintro e we1 ⟨rfl, hrc, hg⟩
  have HB := Lib.hid (BegIs.refe HC.out HB.out.ne HB.out.ge HBB.out hrc hg)
  clear hQ hrc hg HC HBB
  go_wp2
  go_ret2
  exact ⟨_, _, _, rfl, HB.out⟩
end Go.Proofs.YtmljlkjomjflpaaGreat

/- hold: the keys, New, Free -/
namespace Go.Proofs.YtmljlkjomjflpaaGreat
open Go.RowKit
/-- hold.key -/
structure Hk where
  acct : ByteArray
  num : Int
theorem Hk.ext_ {a b : Hk} (h1 : a.acct = b.acct) (h2 : a.num = b.num) : a = b := by cases a; cases b; simp_all
instance : DecidableEq Hk := fun a b => if h : a.acct = b.acct ∧ a.num = b.num then isTrue (Hk.ext_ h.1 h.2) else isFalse (fun e => h (by rw [e]; exact ⟨rfl, rfl⟩))
abbrev Hk.v (x : Hk) : Value := .agg #[.string x.acct, i64 x.num]
theorem check_hk (empty : Bool) (n : Nat) (k : Hk) (w : World) : (Instr.checkKey empty (n + 2) 108 k.v).run Tryz.prog w = .ok () w := by
  have u3 := Tryz.underlying3
  have a3 := Tryz.isAgg3
  have z3 := Tryz.sizeOf3
  have u9 := Tryz.underlying9
  have a9 := Tryz.isAgg9
  have z9 := Tryz.sizeOf9
  rw [Instr.checkKey]
  simp only [Sem.run_bind, run_underlying Tryz.underlying108, Result.andThen_ok, Hk.v]
  go_simp
  simp [check_int, check_str]
theorem bits_hk (n : Nat) (k : Hk) : Instr.sameBits (n + 1) k.v k.v = true := by
  simp [Instr.sameBits, beqS_self]
theorem hkKey : KeyFit Tryz.prog 108 Hk.v :=
  fit_asking (d := .struct (Tryz.prog.fieldsOf 108)) (by kernel_rfl) (fun a b => rfl) (fun a b w => by
      have u3 := Tryz.underlying3
      have a3 := Tryz.isAgg3
      have z3 := Tryz.sizeOf3
      have u9 := Tryz.underlying9
      have a9 := Tryz.isAgg9
      have z9 := Tryz.sizeOf9
      have hS : Tryz.prog.underlying 108 = some (.struct (Tryz.prog.fieldsOf 108)) := by kernel_rfl
      have hp : Tryz.prog.stoodInHeld 108 = false := by kernel_rfl
      simp only [Op.equal, Op.maxDepth]
      rw [show (10000 : Nat) = 9999 + 1 from rfl, run_equalIn_agg w 9999 108 _ _ hS hp]
      simp only [Program.fieldsOf, Tryz.underlying108]
      go_simp
      by_cases h1 : a.acct = b.acct
      · by_cases h2 : a.num = b.num
        · rw [decide_eq_true (Hk.ext_ h1 h2)]; simp [h1, h2]
        · rw [decide_eq_false (fun e => h2 (by rw [e]))]; simp [h1, h2]
      · have t1 := beqS_of_ne h1
        have t2 : ¬ a.acct.toList = b.acct.toList := by simpa using t1
        rw [decide_eq_false (fun e => h1 (by rw [e]))]; simp [t2])
    (fun empty k w => check_hk empty 9998 k w) (fun k => bits_hk 9999 k)
def hv (H : List (Hk × Int)) : List (Hk × Value) := H.map fun p => (p.1, i64 p.2)
theorem getM_hv (H : List (Hk × Int)) (k : Hk) : getM (hv H) k = (getM H k).map i64 := by
  unfold getM hv
  induction H with
  | nil => rfl
  | cons p r ih =>
    rw [List.map_cons]
    by_cases h : p.1 = k
    · rw [List.find?_cons_of_pos (by simpa using h), List.find?_cons_of_pos (by simpa using h)]
      rfl
    · rw [List.find?_cons_of_neg (by simpa using h), List.find?_cons_of_neg (by simpa using h)]
      exact ih
theorem putM_hv (H : List (Hk × Int)) (k : Hk) (a : Int) : putM (hv H) k (i64 a) = hv (putM H k a) := by
  unfold putM hv
  rw [List.any_map]
  by_cases h : (H.any fun p => decide (p.1 = k)) = true
  · rw [if_pos h, if_pos (by simpa [Function.comp_def] using h), List.map_map, List.map_map]
    refine List.map_congr_left fun p _ => ?_
    simp only [Function.comp_def]
    split <;> rfl
  · rw [if_neg h, if_neg (by simpa [Function.comp_def] using h), List.map_append]
    rfl
theorem delM_hv (H : List (Hk × Int)) (k : Hk) : delM (hv H) k = hv (delM H k) := by
  unfold delM hv
  rw [List.filter_map]
  rfl
/-- block g holds holds, whose map lies in block b -/
structure HoIs (w : World) (g b : Nat) (H : List (Hk × Int)) : Prop where
  ne : b ≠ g
  cell : w.heap[g]? = some (.cells #[.map (some b)] 101 (0, 0))
  map : MapIs Hk.v w b (hv H)
theorem HoIs.kept {w w' : World} {g b : Nat} {H : List (Hk × Int)} {row : Option Nat} (h : HoIs w g b H) (hk : w.grownBy w' row) (h1 : some g ≠ row) (h2 : some b ≠ row) : HoIs w' g b H :=
  ⟨h.ne, (hk.block g (Array.getElem?_eq_some_iff.1 h.cell).1 h1).trans h.cell, h.map.kept hk h2⟩
theorem HoIs.later {w w' : World} {g b : Nat} {H : List (Hk × Int)} (h : HoIs w g b H) (hb : Below w.heap.size w w') : HoIs w' g b H := h.kept (grown_of_below hb none) (by simp) (by simp)
theorem HoIs.lt {w : World} {g b : Nat} {H : List (Hk × Int)} (h : HoIs w g b H) : g < w.heap.size ∧ b < w.heap.size := ⟨(Array.getElem?_eq_some_iff.1 h.cell).1, h.map.lt⟩
set_option maxRecDepth 100000 in
set_option maxHeartbeats 2000000 in
theorem honew_c (w : World) : Calls Tryz.prog 14 #[] w fun e w' => e = .returned (.pointer (some ⟨w.heap.size + 1, 0, none⟩)) ∧ HoIs w' (w.heap.size + 1) w.heap.size [] ∧ Below w.heap.size w w' := by
  have hmm := @run_makeMap Tryz.prog
  go_enter Tryz.func14, Tryz.ntmps14
  go_wp2
  go_ret
  have hB := ((Below.refl w.heap.size w).alloc (Nat.le_refl _) (.map #[] 0)).alloc (by simp) (.cells #[.map (some w.heap.size)] 101)
  exact ⟨rfl, ⟨by omega, heap_alloc2_new w _ _, (MapIs.made (enc := Hk.v) w).later ((Below.refl _ _).alloc (Nat.le_refl _) _)⟩, hB⟩
/-- hold.Free: what is told, the accounts, the holds -/
def freeH (M : List (ByteArray × Ac)) (H : List (Hk × Int)) (k : ByteArray) (n : Int) : Int × List (ByteArray × Ac) × List (Hk × Int) := match getM H ⟨k, n⟩ with
  | none => (6, M, H)
  | some s => ((turnC (asiD (-s)) M k (-s)).1, (turnC (asiD (-s)) M k (-s)).2, if (turnC (asiD (-s)) M k (-s)).1 = 0 then delM H ⟨k, n⟩ else H)
/-- nothing of w has turned but blocks b and c -/
structure G2 (w w' : World) (b c : Nat) : Prop where
  os : w'.os = w.os
  tape : w'.tape = w.tape
  output : w'.output = w.output
  size : w.heap.size ≤ w'.heap.size
  block : ∀ k, k < w.heap.size → k ≠ b → k ≠ c → w'.heap[k]? = w.heap[k]?
theorem G2.fst {w w' : World} {b : Nat} (h : w.grownBy w' (some b)) (c : Nat) : G2 w w' b c := ⟨h.os, h.tape, h.output, h.size, fun k hk h1 _ => h.block k hk (fun e => h1 (by injection e))⟩
theorem G2.snd {w w' : World} {c : Nat} (h : w.grownBy w' (some c)) (b : Nat) : G2 w w' b c := ⟨h.os, h.tape, h.output, h.size, fun k hk _ h2 => h.block k hk (fun e => h2 (by injection e))⟩
theorem G2.of_below {w w' : World} (h : Below w.heap.size w w') (b c : Nat) : G2 w w' b c := G2.fst (grown_of_below h (some b)) c
theorem G2.trans {w w' w'' : World} {b c : Nat} (h : G2 w w' b c) (k : G2 w' w'' b c) : G2 w w'' b c := ⟨k.os.trans h.os, k.tape.trans h.tape, k.output.trans h.output, Nat.le_trans h.size k.size, fun n hn h1 h2 => (k.block n (Nat.lt_of_lt_of_le hn h.size) h1 h2).trans (h.block n hn h1 h2)⟩
set_option maxRecDepth 100000 in
set_option maxHeartbeats 8000000 in
theorem hofree_c (g b gh bh : Nat) (M : List (ByteArray × Ac)) (H : List (Hk × Int)) (k : ByteArray) (n : Int) (w : World) (h : ChIs w g b M) (hh : HoIs w gh bh H) (hd : gh ≠ b ∧ bh ≠ b ∧ g ≠ bh) (hM : ∀ y ∈ M, InA y.2) (hH : ∀ y ∈ H, 1 ≤ y.2 ∧ y.2 ≤ 9223372036854775807) :
    Calls Tryz.prog 57 #[.pointer (some ⟨gh, 0, none⟩), .pointer (some ⟨g, 0, none⟩), .string k, i64 n] w fun e w' => e = .returned (i64 (freeH M H k n).1) ∧ ChIs w' g b (freeH M H k n).2.1 ∧ HoIs w' gh bh (freeH M H k n).2.2 ∧ G2 w w' b bh := by
  have hb0 := (Below.refl w.heap.size w).alloc (Nat.le_refl _) (.cells #[.string k, i64 n] 108)
  have hk0 := heap_alloc_new w (.cells #[.string k, i64 n] 108)
  have h1 := h.later hb0
  have hh1 := hh.later hb0
  have hlk := run_lookup (P := Tryz.prog) hkKey Tryz.underlying99 (hh1.later (Below.refl _ _).drew).map ⟨k, n⟩ (i64 0) (by kernel_rfl) true
  rw [getM_hv] at hlk
  obtain ⟨o, ho⟩ : ∃ o, getM H ⟨k, n⟩ = o := ⟨_, rfl⟩
  rw [ho] at hlk
  have c0 := cell_of_row _ gh 0 _ _ (0, 0) hh1.cell
  have c1 := cell_of_row _ w.heap.size 0 _ _ (0, 0) hk0
  have c2 := cell_of_row _ w.heap.size 1 _ _ (0, 0) hk0
  simp only [List.getElem?_toArray, List.getElem?_cons_zero, List.getElem?_cons_succ] at c0 c1 c2
  have hlg := h.lt
  have hlh := hh.lt
  unfold Hk.v at hlk
  go_enter Tryz.func57, Tryz.ntmps57
  go_upto_region 4 with fail
  generalize w.alloc (.cells #[.string k, i64 n] 108) = w0 at *
  go_cut [10, 11] from 13 (fun s10 s11 wx => s10 = i64 (o.getD 0) ∧ s11 = .bool o.isSome ∧ w0.drew = wx)
  case first =>
    go_region_with fail
    all_goals (go_wp2_with fail; go_meet; exact ⟨rfl, by simp, rfl⟩)
  case rest =>
  obtain ⟨rfl, rfl, rfl⟩ := hcut
  have h2 := h1.later (Below.refl _ _).drew
  have hh2 := hh1.later (Below.refl _ _).drew
  have hb2 := hb0.drew
  have hk2 : w0.drew.heap[w.heap.size]? = some (.cells #[.string k, i64 n] 108 (0, 0)) := hk0
  generalize w0.drew = w1 at *
  clear hlk c0 c1 c2 hb0 hk0 h1 hh1 h hh
  cases o with
  | none =>
    have HR := Lib.hid (show freeH M H k n = (6, M, H) by unfold freeH; rw [ho])
    clear ho
    go_wp2
    go_ret
    exact ⟨by rw [HR.out]; rfl, by rw [HR.out]; exact h2, by rw [HR.out]; exact hh2, G2.of_below hb2 _ _⟩
  | some s =>
    have hs : 1 ≤ s ∧ s ≤ 9223372036854775807 := by
      unfold getM at ho
      rw [Option.map_eq_some_iff] at ho
      obtain ⟨p, hp, rfl⟩ := ho
      exact hH p (List.mem_of_find?_eq_some hp)
    have hA := Lib.hid (aside_c g b M k (-s) w1 h2 hM ⟨by omega, by omega⟩)
    have HR := Lib.hid (show freeH M H k n = ((turnC (asiD (-s)) M k (-s)).1, (turnC (asiD (-s)) M k (-s)).2, if (turnC (asiD (-s)) M k (-s)).1 = 0 then delM H ⟨k, n⟩ else H) by unfold freeH; rw [ho])
    generalize turnC (asiD (-s)) M k (-s) = T at *
    have hw : wrap64 (-s) = -s := by rw [← IntWalk.i64_left, IntKind.wrap_i64]; omega
    clear ho hM hH
    go_wp2_with fail
    refine hA.out.mono ?_
    rintro e w2 ⟨rfl, h3, hG⟩
    have hh3 := hh2.kept hG (fun e => by injection e with e; exact hd.1 e) (fun e => by injection e with e; exact hd.2.1 e)
    have hk3 := (hG.block _ (Array.getElem?_eq_some_iff.1 hk2).1 (fun e => by injection e with e; omega)).trans hk2
    have hg2 := (G2.of_below hb2 b bh).trans (G2.fst hG bh)
    clear hA h2 hh2 hk2 hG hb2
    by_cases ht : T.1 = 0
    · have g1 : (T.1 == 0) = true := by rw [ht]; rfl
      have HR2 := Lib.hid (show freeH M H k n = (T.1, T.2, delM H ⟨k, n⟩) by rw [HR.out, if_pos ht])
      clear ht HR
      have hh4 := hh3.later (Below.refl _ _).drew
      have h4 := h3.later (Below.refl _ _).drew
      obtain ⟨w5, hrun, hm5, hg5⟩ := run_del (P := Tryz.prog) hkKey Tryz.underlying99 hh4.map ⟨k, n⟩ 0 108
      rw [delM_hv] at hm5
      unfold Hk.v at hrun
      have c0 := cell_of_row _ gh 0 _ _ (0, 0) hh3.cell
      have c1 := cell_of_row _ w.heap.size 0 _ _ (0, 0) hk3
      have c2 := cell_of_row _ w.heap.size 1 _ _ (0, 0) hk3
      simp only [List.getElem?_toArray, List.getElem?_cons_zero, List.getElem?_cons_succ] at c0 c1 c2
      have HM := Lib.hid hm5
      have HG := Lib.hid hg5
      clear hm5 hg5
      go_wp2_with fail
      go_region_with fail
      all_goals (
        go_wp2
        go_ret
        exact ⟨by rw [HR2.out]; rfl, by rw [HR2.out]; exact h4.kept HG.out (fun e => by injection e with e; exact hd.2.2 e) (fun e => by injection e with e; exact hd.2.1 e.symm), by rw [HR2.out]; exact ⟨hh4.ne, (HG.out.block gh hh4.lt.1 (fun e => hh4.ne (by injection e with e; exact e.symm))).trans hh4.cell, HM.out⟩, (hg2.trans (G2.of_below (Below.refl _ _).drew _ _)).trans (G2.snd HG.out b)⟩)
    · have g1 : (T.1 == 0) = false := beq_eq_false_iff_ne.2 ht
      have HR2 := Lib.hid (show freeH M H k n = (T.1, T.2, H) by rw [HR.out, if_neg ht])
      clear ht HR
      go_wp2
      go_ret
      exact ⟨by rw [HR2.out]; rfl, by rw [HR2.out]; exact h3, by rw [HR2.out]; exact hh3, hg2⟩
end Go.Proofs.YtmljlkjomjflpaaGreat

/- slices.SortFunc of a row of the call's own, at structs. No program. -/
namespace Go.Proofs.YtmljlkjomjflpaaGreat
open Go.RowKit Go.Shelf Go.Sort

section
variable {α : Type} [Enc α] [Inhabited α]
theorem flatK_flat (l : List α) : (flatK Enc.cells (Enc.size α) l.toArray).toList = l.flatMap Enc.cells := by
  apply List.ext_getElem?
  intro t
  by_cases ht : t < l.length * Enc.size α
  · have hs : 0 < Enc.size α := by
      rcases Nat.eq_zero_or_pos (Enc.size α) with h | h
      · rw [h] at ht; simp at ht
      · exact h
    have h1 : t / Enc.size α < l.length := by rw [Nat.div_lt_iff_lt_mul hs]; exact ht
    have h2 : t % Enc.size α < Enc.size α := Nat.mod_lt _ hs
    have h3 : t < (flatK Enc.cells (Enc.size α) l.toArray).size := by simpa using ht
    have e1 : t / Enc.size α * Enc.size α + t % Enc.size α = t := by rw [Nat.mul_comm]; exact Nat.div_add_mod _ _
    have e2 := flat_get l _ _ h1 h2
    rw [e1] at e2
    rw [e2, Array.getElem?_toList, Array.getElem?_eq_getElem h3, ← getElem!_pos _ t h3, get_flatK _ _ _ _ (by simpa using ht)]
    rw [getElem!_pos l.toArray _ (by simpa using h1), getElem!_pos _ _ (by rw [Enc.len]; exact h2), List.getElem?_eq_getElem (by rw [Enc.len]; exact h2)]
    simp
  · rw [List.getElem?_eq_none (by rw [Array.length_toList]; simp; omega), List.getElem?_eq_none (by rw [flat_len]; omega)]
theorem putCells_take (F cur : Array Value) (h : F.size ≤ cur.size) : (putCells id 0 F cur).toList.take F.size = F.toList := by
  apply List.ext_getElem?
  intro t
  by_cases ht : t < F.size
  · rw [List.getElem?_take_of_lt ht, Array.getElem?_toList, Array.getElem?_toList, Array.getElem?_eq_getElem ht]
    unfold putCells
    rw [Array.getElem?_mapIdx, Array.getElem?_eq_getElem (by omega), Option.map_some, if_pos ⟨Nat.zero_le _, by omega⟩, Nat.sub_zero, getElem!_pos F t ht]
    rfl
  · rw [List.getElem?_eq_none (by simp; omega), List.getElem?_eq_none (by simp; omega)]
theorem heap_putRow {w : World} {g : Nat} {cur : Array Value} {e : TypeId} {fr : Nat × Nat} (F : Array Value) (n : Nat) (os : Array Obj) (h : w.heap[g]? = some (.cells cur e fr)) : (grow (putRow id (Sort.ahead w n) g 0 F) os).heap[g]? = some (.cells (putCells id 0 F cur) e fr) := by
  have hlt := (Array.getElem?_eq_some_iff.1 h).1
  unfold grow putRow mapBlock
  simp only
  rw [Array.getElem?_append_left (by simpa [Sort.ahead] using hlt), Array.getElem?_modify, if_pos rfl]
  show Option.map _ (w.heap[g]?) = _
  rw [h]
  rfl
theorem grown_putRow {w : World} {g : Nat} (F : Array Value) (n : Nat) (os : Array Obj) : w.grownBy (grow (putRow id (Sort.ahead w n) g 0 F) os) (some g) :=
  ⟨rfl, rfl, rfl, by simp [Sort.ahead], fun k hk hne => by
    unfold grow putRow mapBlock
    simp only
    rw [Array.getElem?_append_left (by simpa [Sort.ahead] using hk), Array.getElem?_modify, if_neg (fun e => hne (by rw [e]))]
    rfl⟩
/-- the row's own block turned into d' -/
theorem Own.sorted {w : World} {base : Nat} {e : TypeId} {g cap : Nat} {l : List α} {d' : Array α} (h : Own w base e (.slice (some ⟨g, 0, none⟩) l.length cap) l) (hp : d'.toList.Perm l) (n : Nat) (os : Array Obj) :
    Own (grow (putRow id (Sort.ahead w n) g 0 (flatK Enc.cells (Enc.size α) d')) os) base e (.slice (some ⟨g, 0, none⟩) l.length cap) d'.toList := by
  obtain ⟨cur, hg, hb, hn, hc, hm, hz, ht⟩ := h.cells
  have hlen : d'.toList.length = l.length := hp.length_eq
  have hF : (flatK Enc.cells (Enc.size α) d').size = l.length * Enc.size α := by rw [size_flatK, ← Array.length_toList, hlen]
  have hle : l.length * Enc.size α ≤ cap * Enc.size α := Nat.mul_le_mul_right _ hc
  have hgr := grown_putRow (w := w) (g := g) (flatK Enc.cells (Enc.size α) d') n os
  refine ⟨⟨by rw [flat_len], .inr ⟨g, cap, _, by rw [hlen], hb, heap_putRow _ n os hg, by omega, hm, by simp [putCells, hz], ?_⟩⟩, fun x hx => ?_⟩
  · rw [hlen, ← hF, putCells_take _ _ (by omega)]
    have := flatK_flat d'.toList
    simpa using this
  · refine Enc.keep (h.2 x (hp.mem_iff.1 hx)) (fun p hp => World.cell?_of_block (hgr.block _ hp.1 hp.2)) (fun b hb => ⟨Nat.lt_of_lt_of_le hb.1 hgr.size, hb.2⟩)
variable {P : Program} {ρ : Ren}
/-- slices.SortFunc(v, cmp) -/
theorem sortF_own (L : SlLaysF0.n6 P ρ) (aE : ∀ w, (isAgg (ρ.t 24)).run P w = .ok true w) (zE : ∀ w, (Go.sizeOf (ρ.t 24)).run P w = .ok (Enc.size α) w) (cf : α → α → Int) (lt : α → α → Bool) (hlt : ∀ x y, lt x y = decide (cf x y < 0)) (S : Strict lt) (g : Nat) (cb : Array Value)
    (eg : ∀ args w, (callFunc g args).run P w = .ok (.enter g args) w) (hcmp : ∀ (x y : α) (W : World), Calls P g (#[.agg (Enc.cells x).toArray, .agg (Enc.cells y).toArray] ++ cb) W fun e w' => e = .returned (.int .i64 (cf x y)) ∧ ∃ q os', w' = grow (W.drewN q) os')
    (base : Nat) (T : TypeId) (v : Value) (l : List α) (w : World) (h : Own w base T v l) (hn : l.length ≤ 1000000) :
    Calls P (ρ.f 6) #[v, .func (.func g) #[] cb] w fun e w' => e = .returned (.tuple #[]) ∧ ∃ l', l'.Perm l ∧ SortedB lt l' ∧ Own w' base T v l' ∧ w.grownBy w' v.ownBlock := by
  have hO : SWO (ltOf cf) := ⟨fun x => by unfold ltOf; rw [← hlt]; exact S.irr x, fun x y z => by unfold ltOf; rw [← hlt, ← hlt, ← hlt]; exact S.trans x y z, fun x y z => by unfold ltOf; rw [← hlt, ← hlt, ← hlt]; exact S.co x y z⟩
  rcases Nat.eq_zero_or_pos l.length with h0 | hpos
  · obtain rfl := List.length_eq_zero_iff.1 h0
    obtain ⟨A, c, hv, _⟩ := h.sl
    subst hv
    exact (AnyF.slices_SortFunc_none { L with } A c (.func (.func g) #[] cb) w).mono fun e w' ⟨he, hw⟩ => ⟨he, [], .refl _, List.Pairwise.nil, by subst hw; exact h, by subst hw; exact World.grownBy.refl _ _⟩
  · obtain ⟨gb, cap, cur, rfl, hb, hg, hc, hm, hz, ht⟩ := h.form hpos
    have hH : HoldsK Enc.cells (Enc.size α) w gb 0 l.toArray := by
      intro j hj
      rw [size_flatK, List.size_toArray] at hj
      have hle : l.length * Enc.size α ≤ cap * Enc.size α := Nat.mul_le_mul_right _ hc
      rw [Nat.zero_add]
      refine ⟨?_, frozen_of_row w gb j cur T hg⟩
      rw [cell_of_row w gb j cur T (0, 0) hg]
      have e1 : (flatK Enc.cells (Enc.size α) l.toArray)[j]? = cur[j]? := by
        rw [← Array.getElem?_toList, flatK_flat, ← ht, List.getElem?_take_of_lt hj, Array.getElem?_toList]
      have hj2 : j < (flatK Enc.cells (Enc.size α) l.toArray).size := by simpa using hj
      rw [← e1, Array.getElem?_eq_getElem hj2, getElem!_pos _ j hj2]
      rfl
    have hl1 : l.toArray.size = l.length := List.size_toArray ..
    have hcon := AnyQ.slices_SortFunc L (Enc.size α) aE zE Enc.cells Enc.len Enc.one cf hO g cb gb 0 cap l.toArray w eg (fun m os dk _ x y => hcmp x y _) hH (Array.getElem?_eq_some_iff.1 hg).1 (by rw [hl1]; omega)
    rw [hl1] at hcon
    refine hcon.mono fun e w' ⟨he, d', n, os, hp, hs, hw⟩ => ⟨he, ?_⟩
    obtain ⟨hsz, _, hperm⟩ := hp
    have hpe : d'.toList.Perm l := by
      have e1 : d'.extract 0 l.length = d' := by rw [← hl1, ← hsz]; exact Array.extract_size
      have e2 : l.toArray.extract 0 l.length = l.toArray := by rw [← hl1]; exact Array.extract_size
      rw [e1, e2] at hperm
      simpa using hperm
    refine ⟨d'.toList, hpe, ?_, ?_, ?_⟩
    · unfold SortedB
      rw [List.pairwise_iff_getElem]
      intro i j hi hj hij
      have hi' : i < d'.size := by simpa using hi
      have hj' : j < d'.size := by simpa using hj
      have := hs i j (Nat.zero_le _) hij (by rw [hsz, hl1] at hj'; exact hj')
      unfold ltOf at this
      rw [← hlt, getElem!_pos d' i hi', getElem!_pos d' j hj'] at this
      simpa using this
    · rw [hw]; exact h.sorted hpe n os
    · rw [hw]; exact grown_putRow _ n os
end
end Go.Proofs.YtmljlkjomjflpaaGreat
