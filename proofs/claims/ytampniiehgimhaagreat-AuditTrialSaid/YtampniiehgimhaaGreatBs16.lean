/- Texts of this claim, laid together. -/
import Derived.Test.YtampniiehgimhaaGreatRows
import Derived.Test.YtampniiehgimhaaGreatBs15
import Derived.Test.YtampniiehgimhaaGreatBs13
import Derived.WalkKit
import Derived.WalkSpells
import Derived.WalkLawsBesides
import Derived.Deep.QuietTactic
import Derived.BigQuiet
import Derived.Laws.StructEq
import Derived.Deep.DeepFit
import Derived.StillTailTactics
import Derived.Test.YtampniiehgimhaaGreatBs4
import Derived.Test.YtampniiehgimhaaGreatBs5
import Derived.Deep.Cut
import Derived.Deep.CutBlock

/- ref08.Free -/
namespace Go.Proofs.YtampniiehgimhaaGreat
open Go.RowKit
theorem RhIs.ne {w : World} {T : Nat → Prop} {g gc : Nat} {H : List Held} {L : List Ac} (h : RhIs w T g H) (hc : RcIs w T gc L) : g ≠ gc := fun e => by
 obtain ⟨_, _, h1, _⟩ := h
 obtain ⟨_, _, h2, _⟩ := hc
 rw [e, h2] at h1
 injection h1 with h1
 injection h1 with _ h3 _
 cases h3
set_option maxRecDepth 100000 in
set_option maxHeartbeats 8000000 in
theorem rhfree_c (T : Nat → Prop) (g gc : Nat) (H : List Held) (L : List Ac) (k : ByteArray) (n : Int) (w : World) (h : RhIs w T g H) (hc : RcIs w T gc L) (hL : OkA L) (hS : SrtL ltA L) (hl : L.length ≤ 65536) (hH : OkH H) (hSH : SrtL ltH H) (hn : H.length ≤ 65536) (hTn : ∀ k, w.heap.size ≤ k → T k) (hTg : ¬ T g) (hTc : ¬ T gc) :
  Calls Tryz.prog 66 #[.pointer (some ⟨g, 0, none⟩), .pointer (some ⟨gc, 0, none⟩), .string k, i64 n] w fun e w' => e = .returned (i64 (freeHL L H k n).1) ∧ RcIs w' T gc (freeHL L H k n).2.1 ∧ RhIs w' T g (freeHL L H k n).2.2 ∧ Gr w w' (GH g gc) := by
 have hne := h.ne hc
 have H1 := Lib.hid h
 have H2 := Lib.hid hc
 have hA := Lib.hid (rhat_c T g H k n w h hn)
 have HTn := Lib.hid hTn
 have HTg := Lib.hid hTg
 have HTc := Lib.hid hTc
 have HH := Lib.hid hH
 have HSH := Lib.hid hSH
 obtain ⟨R, hR⟩ : ∃ R, freeHL L H k n = R := ⟨_, rfl⟩
 rw [hR]
 unfold freeHL at hR
 have HR := Lib.hid hR.symm
 have hrs := Lib.hid (fun (x : Int) (hx : R64 x) => raside_c T gc L k x w hc hl hL hS hx hTn hTc)
 obtain ⟨A, c, hcell, hs, hf⟩ := h
 have c0 := cell_of_row _ g 0 _ _ (0, 0) hcell
 simp only [List.getElem?_toArray, List.getElem?_cons_zero] at c0
 clear hcell hf hc hL hS hH hSH hTn hTg hTc hR
 rcases idxH_get (H := H) (k := k) (n := n) with ⟨h1, h2⟩ | ⟨i, hi, h1, h2, h3⟩
 ·have HR2 := Lib.hid (show R = (6, L, H) by rw [HR.out, h2])
  clear h2 HR hs
  generalize idxH H k n = ix at *
  have g1 : decide (ix < 0) = true := decide_eq_true h1
  go_enter Tryz.func66, Tryz.ntmps66
  go_wp2_with fail
  refine hA.out.mono ?_
  rintro e w1 ⟨rfl, rfl⟩
  go_wp2
  go_ret
  exact ⟨by rw [HR2.out]; rfl, by rw [HR2.out]; exact H2.out, by rw [HR2.out]; exact H1.out, Gr.refl _ _⟩
 ·obtain ⟨b, o, rfl, hb, _, d0, d1, d2⟩ := hs.held hi
  have hlc : H.length ≤ c := hs.1
  have g1 : decide ((i : Int) < 0) = false := decide_eq_false (by omega)
  have i0 : (0 : Int) ≤ (i : Int) := by omega
  have i1 : (i : Int) < (H.length : Int) := by omega
  have hx := HH.out H[i] (List.getElem_mem hi)
  have hr : R64 (-H[i].sum) := by unfold R64; omega
  have hw : IntKind.i64.wrap (-H[i].sum) = -H[i].sum := by rw [IntKind.wrap_i64]; omega
  have hAs := Lib.hid (hrs.out (-H[i].sum) hr)
  have HR2 := Lib.hid (show R = ((turnL (asiD (-H[i].sum)) L k (-H[i].sum)).1, (turnL (asiD (-H[i].sum)) L k (-H[i].sum)).2, if (turnL (asiD (-H[i].sum)) L k (-H[i].sum)).1 = 0 then delK Held.key H ⟨k, n⟩ else H) by rw [HR.out, h2])
  have HD := Lib.hid (show delK Held.key H ⟨k, n⟩ = H.take i ++ H.drop (i + 1) by rw [← h3]; exact delK_at keyH HSH.out hi)
  rw [h1] at hA
  clear h1 h2 h3 HR hs hx hr hrs
  generalize turnL (asiD (-H[i].sum)) L k (-H[i].sum) = tt at *
  generalize H[i].sum = su at *
  obtain ⟨er, L2⟩ := tt
  dsimp only at hAs HR2
  go_enter Tryz.func66, Tryz.ntmps66
  go_wp2_with fail
  refine hA.out.mono ?_
  rintro e w1 ⟨rfl, rfl⟩
  go_wp2_with fail
  refine hAs.out.mono ?_
  rintro e w2 ⟨rfl, q1, q2⟩
  have hG : Gr w w2 (GH g gc) := (Gr.of_grown q2).mono (fun k _ e => .inr (by injection e with e; exact e.symm))
  have hh2 := H1.out.kept (Gr.of_grown q2) (fun e => hne (by injection e with e; exact e.symm)) (fun k hk e => HTc.out (by injection e with e; rw [e]; exact hk))
  have hsz := q2.size
  clear hA hAs q2 d0 d1 d2 c0
  by_cases h0 : er = 0
  ·have g2 : (er == 0) = true := by rw [h0]; rfl
   have hC := Lib.hid (rhcut_c T g H i w2 hh2 hn hi (fun k hk => HTn.out k (Nat.le_trans hsz hk)))
   have HR3 := Lib.hid (show R = (er, L2, H.take i ++ H.drop (i + 1)) by rw [HR2.out, if_pos h0, HD.out])
   clear h0 HR2 HD hh2
   go_wp2_with fail
   refine hC.out.mono ?_
   rintro e w3 ⟨rfl, q3, q4⟩
   have hc3 := q1.kept (Gr.of_grown q4) (fun e => hne (by injection e)) (fun k hk e => HTg.out (by injection e with e; rw [e]; exact hk))
   have hG2 := hG.trans ((Gr.of_grown q4).mono (fun k _ e => (show GH g gc k from .inl (by injection e with e; exact e.symm)))) (fun _ e => .inl e)
   go_wp2
   go_ret
   exact ⟨by rw [HR3.out]; rfl, by rw [HR3.out]; exact hc3, by rw [HR3.out]; exact q3, hG2⟩
  ·have g2 : (er == 0) = false := beq_eq_false_iff_ne.2 h0
   have HR3 := Lib.hid (show R = (er, L2, H) by rw [HR2.out, if_neg h0])
   clear h0 HR2 HD
   go_wp2
   go_ret
   exact ⟨by rw [HR3.out]; rfl, by rw [HR3.out]; exact q1, by rw [HR3.out]; exact hh2, hG⟩
end Go.Proofs.YtampniiehgimhaaGreat
/- ref08.Put -/
namespace Go.Proofs.YtampniiehgimhaaGreat
open Go.RowKit
theorem ins_loH {H : List Held} (hS : SrtL ltH H) {x : Held} {q : Nat} (hq : q - 1 < H.length) (hnl : ltH x H[q - 1] = false) (hno : ∀ a ∈ H, a.key ≠ x.key) : ∀ j (h : j < H.length), j < q → ltH H[j] x = true := by
  have h1 : ltH H[q - 1] x = true := by
    rcases keyH.co H[q - 1] x (hno _ (List.getElem_mem hq)) with h | h
    · exact h
    · rw [hnl] at h; cases h
  intro j hj hjq
  rcases Nat.lt_or_ge j (q - 1) with h | h
  · exact keyH.strict.trans _ _ _ (List.pairwise_iff_getElem.1 hS j (q - 1) hj hq h) h1
  · obtain rfl : j = q - 1 := by omega
    exact h1
theorem ins_okH {H : List Held} (hH : OkH H) {x : Held} (hx : x.acct.size ≤ maxLen) {q : Nat} : ∀ y ∈ H.take q ++ [x] ++ H.drop q, y.acct.size ≤ maxLen := by
  intro y hy
  rcases List.mem_append.1 hy with hy | hy
  · rcases List.mem_append.1 hy with hy | hy
    · exact (hH y (List.mem_of_mem_take hy)).2.2.2.2
    · simp only [List.mem_singleton] at hy; subst hy; exact hx
  · exact (hH y (List.mem_of_mem_drop hy)).2.2.2.2
theorem ltH_1 {x y : Held} (h : bless x.acct y.acct = true) : ltH x y = true := by unfold ltH; rw [h]; rfl
theorem ltH_2 {x y : Held} (h : bless x.acct y.acct = false) (h2 : x.acct ≠ y.acct) : ltH x y = false := by unfold ltH; rw [h, decide_eq_false h2]; rfl
theorem ltH_3 {x y : Held} (h : bless x.acct y.acct = false) (h2 : x.acct = y.acct) : ltH x y = decide (x.num < y.num) := by unfold ltH; rw [h, decide_eq_true h2]; rfl
set_option maxRecDepth 100000 in
set_option maxHeartbeats 16000000 in
theorem rhput_c (T : Nat → Prop) (g gc : Nat) (H : List Held) (L : List Ac) (x : Held) (w : World) (h : RhIs w T g H) (hc : RcIs w T gc L) (hL : OkA L) (hS : SrtL ltA L) (hl : L.length ≤ 65536) (hH : OkH H) (hSH : SrtL ltH H) (hn : H.length ≤ 60000) (h8 : (ofL H x.acct).length ≤ 8) (hx : R64 x.sum) (hxa : x.acct.size ≤ maxLen) (hTn : ∀ k, w.heap.size ≤ k → T k) (hTg : ¬ T g) (hTc : ¬ T gc) :
    Calls Tryz.prog 64 #[.pointer (some ⟨g, 0, none⟩), .pointer (some ⟨gc, 0, none⟩), x.v] w fun e w' => e = .returned (i64 (putH L H x).1) ∧ RcIs w' T gc (putH L H x).2.1 ∧ RhIs w' T g (putH L H x).2.2 ∧ Gr w w' (GH g gc) := by
  have hne := h.ne hc
  obtain ⟨R, hR⟩ : ∃ R, putH L H x = R := ⟨_, rfl⟩
  rw [hR]
  unfold putH at hR
  have HR := Lib.hid hR.symm
  have HL := Lib.hid hL
  have HS := Lib.hid hS
  have HH := Lib.hid hH
  have HSH := Lib.hid hSH
  have H8 := Lib.hid h8
  have Hx := Lib.hid hx
  have Hxa := Lib.hid hxa
  have HTn := Lib.hid hTn
  have HTg := Lib.hid hTg
  have HTc := Lib.hid hTc
  have Hlg := Lib.hid h.lt
  have Hlc := Lib.hid hc.lt
  have hb0 := (Below.refl w.heap.size w).alloc (Nat.le_refl _) (.cells #[i64 x.num, .string x.acct, i64 x.sum] 136)
  have h0 := h.later hb0
  have hc0 := hc.later hb0
  have hx0 := heap_alloc_new w (.cells #[i64 x.num, .string x.acct, i64 x.sum] 136)
  clear hR hL hS hH hSH h8 hx hxa hTn hTg hTc h hc
  by_cases hbad : x.num < 1 ∨ 9999 < x.num ∨ x.sum < 1
  · have HR1 := Lib.hid (show R = (1, L, H) by rw [HR.out, if_pos hbad])
    have H0 := Lib.hid h0
    have HC0 := Lib.hid hc0
    clear HR
    by_cases h1 : x.num < 1
    · have g1 : decide (x.num < 1) = true := decide_eq_true h1
      clear h1 hbad
      go_enter Tryz.func64, Tryz.ntmps64
      go_wp2
      go_ret
      exact ⟨by rw [HR1.out]; rfl, by rw [HR1.out]; exact HC0.out, by rw [HR1.out]; exact H0.out, Gr.of_below hb0 _⟩
    · have g1 : decide (x.num < 1) = false := decide_eq_false h1
      by_cases h2 : 9999 < x.num
      · have g2 : decide (9999 < x.num) = true := decide_eq_true h2
        clear h1 h2 hbad
        go_enter Tryz.func64, Tryz.ntmps64
        go_wp2
        go_ret
        exact ⟨by rw [HR1.out]; rfl, by rw [HR1.out]; exact HC0.out, by rw [HR1.out]; exact H0.out, Gr.of_below hb0 _⟩
      · have g2 : decide (9999 < x.num) = false := decide_eq_false h2
        have g3 : decide (x.sum < 1) = true := decide_eq_true ((hbad.resolve_left h1).resolve_left h2)
        clear h1 h2 hbad
        go_enter Tryz.func64, Tryz.ntmps64
        go_wp2
        go_ret
        exact ⟨by rw [HR1.out]; rfl, by rw [HR1.out]; exact HC0.out, by rw [HR1.out]; exact H0.out, Gr.of_below hb0 _⟩
  · have g1 : decide (x.num < 1) = false := decide_eq_false (fun e => hbad (.inl e))
    have g2 : decide (9999 < x.num) = false := decide_eq_false (fun e => hbad (.inr (.inl e)))
    have g3 : decide (x.sum < 1) = false := decide_eq_false (fun e => hbad (.inr (.inr e)))
    have HR1 := Lib.hid (show R = _ by rw [HR.out, if_neg hbad])
    have hA := Lib.hid (rhat_c T g H x.acct x.num _ h0 (by omega))
    have H0 := Lib.hid h0
    have HC0 := Lib.hid hc0
    clear HR hbad h0 hc0
    have n0 := cell_of_row _ w.heap.size 0 _ _ (0, 0) hx0
    have n1 := cell_of_row _ w.heap.size 1 _ _ (0, 0) hx0
    have n2 := cell_of_row _ w.heap.size 2 _ _ (0, 0) hx0
    simp only [List.getElem?_toArray, List.getElem?_cons_zero, List.getElem?_cons_succ] at n0 n1 n2
    rcases idxH_get (H := H) (k := x.acct) (n := x.num) with ⟨i1, i2⟩ | ⟨i, hi, i1, i2, i3⟩
    · have HR2 := Lib.hid (show R = _ by rw [HR1.out, show getK Held.key H x.key = none from i2, if_neg (by decide)])
      have Hno := Lib.hid (show ∀ a ∈ H, a.key ≠ x.key from getK_none.1 i2)
      have g4 : decide ((0 : Int) ≤ idxH H x.acct x.num) = false := decide_eq_false (by omega)
      generalize idxH H x.acct x.num = ix at *
      have hOf := Lib.hid (rhof_c T g H x.acct _ H0.out (by omega))
      clear HR1 i1 i2
      go_enter Tryz.func64, Tryz.ntmps64
      go_wp2_with fail
      generalize hw0 : w.alloc (.cells #[i64 x.num, .string x.acct, i64 x.sum] 136) = w0 at *
      have Hw0 := Lib.hid hw0
      clear hw0
      refine hA.out.mono ?_
      rintro e w1 ⟨rfl, rfl⟩
      clear hA
      go_wp2_with fail
      refine hOf.out.mono ?_
      rintro e w1 ⟨v, rfl, hO, hF⟩
      obtain ⟨A5, c5, rfl, -⟩ := hO.sl
      have hb1 := below_on hb0 (Nat.le_refl _) hF
      have H1 := Lib.hid (H0.out.later hF)
      have hc1 := HC0.out.later hF
      have hx1 := (hF.block _ (Array.getElem?_eq_some_iff.1 hx0).1).trans hx0
      have n0 := (hF.cell (p := ⟨w.heap.size, 0, none⟩) (World.block_lt_of_cell? _ _ n0)).trans n0
      have n1 := (hF.cell (p := ⟨w.heap.size, 1, none⟩) (World.block_lt_of_cell? _ _ n1)).trans n1
      have n2 := (hF.cell (p := ⟨w.heap.size, 2, none⟩) (World.block_lt_of_cell? _ _ n2)).trans n2
      clear hF hO hOf H0 HC0 hx0 hb0
      have hm8 := H8.out
      generalize (ofL H x.acct).length = m at *
      by_cases hm : m = 8
      · have g5 : decide ((8 : Int) ≤ (m : Int)) = true := decide_eq_true (by omega)
        have HR3 := Lib.hid (show R = (5, L, H) by rw [HR2.out, if_pos hm])
        have HC1 := Lib.hid hc1
        clear HR2 hm hc1
        go_wp2
        go_ret
        exact ⟨by rw [HR3.out]; rfl, by rw [HR3.out]; exact HC1.out, by rw [HR3.out]; exact H1.out, Gr.of_below hb1 _⟩
      · have g5 : decide ((8 : Int) ≤ (m : Int)) = false := decide_eq_false (by omega)
        have HR3 := Lib.hid (show R = _ by rw [HR2.out, if_neg hm])
        have hAs := Lib.hid (raside_c T gc L x.acct x.sum w1 hc1 hl HL.out HS.out Hx.out (fun k hk => HTn.out k (Nat.le_trans hb1.size hk)) HTc.out)
        generalize turnL (asiD x.sum) L x.acct x.sum = tt at *
        obtain ⟨er, L2⟩ := tt
        dsimp only at hAs HR3
        clear HR2 hm hm8 hc1 H8
        go_wp2_with fail
        refine hAs.out.mono ?_
        rintro e w2 ⟨rfl, q1, q2⟩
        have hG : Gr w w2 (GH g gc) := (Gr.of_below hb1 (GH g gc)).trans ((Gr.of_grown q2).mono (fun k _ e => .inr (by injection e with e; exact e.symm))) (fun _ e => .inl e)
        have hh2 := H1.out.kept (Gr.of_grown q2) (fun e => hne (by injection e with e; exact e.symm)) (fun k hk e => HTc.out (by injection e with e; rw [e]; exact hk))
        have hx2 := (q2.block _ (Array.getElem?_eq_some_iff.1 hx1).1 (fun e => by injection e with e; have := Hlc.out; omega)).trans hx1
        have Hsz := Lib.hid (show w.heap.size ≤ w2.heap.size from hG.size)
        clear hAs q2 hx1 hb1 H1 n0 n1 n2
        by_cases he : er = 0
        · have g6 : (er != 0) = false := by rw [he]; rfl
          have HR4 := Lib.hid (show R = (er, L2, insB ltH x H) by rw [HR3.out, if_pos he])
          have Q1 := Lib.hid q1
          have H2 := Lib.hid hh2
          obtain ⟨A, c, hgc, hs, hf⟩ := hh2
          have c0 := cell_of_row _ g 0 _ _ (0, 0) hgc
          have n0 := cell_of_row _ w.heap.size 0 _ _ (0, 0) hx2
          have n1 := cell_of_row _ w.heap.size 1 _ _ (0, 0) hx2
          have n2 := cell_of_row _ w.heap.size 2 _ _ (0, 0) hx2
          simp only [List.getElem?_toArray, List.getElem?_cons_zero, List.getElem?_cons_succ] at c0 n0 n1 n2
          have Hc := Lib.hid hgc
          have Hs := Lib.hid hs
          have hlg2 : g < w2.heap.size := (Array.getElem?_eq_some_iff.1 hgc).1
          have hlx2 : w.heap.size < w2.heap.size := (Array.getElem?_eq_some_iff.1 hx2).1
          have hlc := hs.1
          clear hgc hs HR3 q1 hx2
          rw [he] at HR4
          clear he
          go_upto_block 0 with fail
          go_cut [8] from 49 to 95 (fun s8 wx => ∃ q : Nat, s8 = i64 q ∧ q ≤ H.length ∧ (∀ j (h : j < H.length), q ≤ j → ltH x H[j] = true) ∧ (∀ j (h : j < H.length), j < q → ltH H[j] x = true) ∧ Below w2.heap.size w2 wx)
          case first =>
            go_wp2_with fail
            go_loopw [8] (fun i wr => ∃ q : Nat, i = i64 q ∧ q ≤ H.length ∧ (∀ j (h : j < H.length), q ≤ j → ltH x H[j] = true) ∧ Below w2.heap.size w2 wr) (fun i _ => (intOf i).toNat)
            case atStart => exact ⟨H.length, rfl, Nat.le_refl _, fun j h1 h2 => by omega, Below.refl _ _⟩
            case round =>
             obtain ⟨q, rfl, hq, hup, hB⟩ := hrel
             have Hup := Lib.hid hup
             clear hup
             rcases Nat.eq_zero_or_pos q with hq0 | hq0
             · have g7 : decide ((0 : Int) < (q : Int)) = false := decide_eq_false (by omega)
               have g8 : decide (0 < q) = false := decide_eq_false (by omega)
               have Hq0 := Lib.hid hq0
               clear hq0 hf
               go_wp2_with fail
               refine wp_region_noPanic ?_
               refine wp_region_l 43 (fun _ => True) (by kernel_rfl) (trivial) (fun hH => ?_)
               refine tkZ 0 ?_; refine tkZ 1 ?_; refine tkZ 2 ?_; refine tkM 3 ?_; refine tkM 4 ?_; refine tkM 5 ?_; refine tkM 6 ?_; refine tkM 7 ?_; refine tkM 8 ?_; refine tkM 9 ?_; refine tkM 10 ?_; refine tkM 11 ?_; refine tkM 12 ?_; refine tkM 13 ?_; refine tkM 14 ?_; refine tkM 15 ?_; refine tkM 16 ?_; refine tkM 17 ?_; refine tkM 18 ?_; refine tkM 19 ?_; refine tkM 20 ?_; refine tkM 21 ?_; refine tkM 22 ?_
               refine tkM 23 ?_; refine tkM 24 ?_; refine tkM 25 ?_; refine tkM 26 ?_; refine tkM 27 ?_; refine tkM 28 ?_; refine tkM 29 ?_; refine tkM 30 ?_; refine tkM 31 ?_; refine tkM 32 ?_; refine tkM 33 ?_; refine tkM 34 ?_; refine tkM 35 ?_; refine tkM 36 ?_; refine tkM 37 ?_; refine tkM 38 ?_; refine tkM 39 ?_; refine tkM 40 ?_; refine tkM 41 ?_; refine tkM 42 ?_
               refine tkL (fun K hK => ?_)
               go_simp
               refine hK.out _ _ ?_
               clear hK K
               try simp only [Act.put, uA, uZ, uS, vA, vZ, vS]
               refine tkD ?_
               repeat go_step
               go_meet
               exact ⟨q, rfl, hq, Hup.out, fun j h hj => absurd hj (by have := Hq0.out; omega), hB.drew⟩
             · have g7 : decide ((0 : Int) < (q : Int)) = true := decide_eq_true (by omega)
               have g8 : decide (0 < q) = true := decide_eq_true hq0
               have hq1 : q - 1 < H.length := by omega
               obtain ⟨b, o, rfl, hb, hsz, d0, d1, d2⟩ := Hs.out.held hq1
               have hRa := Lib.hid fun W => rahead_c x.acct H[q - 1].acct Hxa.out hsz W
               have e1 : IntKind.i64.wrap ((q : Int) - 1) = ((q - 1 : Nat) : Int) := by rw [IntKind.wrap_i64]; omega
               have i0 : (0 : Int) ≤ ((q - 1 : Nat) : Int) := by omega
               have i1 : ((q - 1 : Nat) : Int) < (H.length : Int) := by omega
               have Hy := Lib.hid (show ∀ j (h : j < H.length), j = q - 1 → H[j] = H[q - 1] from fun j h e => by subst e; rfl)
               obtain ⟨y, hy⟩ : ∃ y, H[q - 1] = y := ⟨_, rfl⟩
               rw [hy] at hRa d0 d1 d2 Hy
               have Hyy := Lib.hid hy
               have hSS := Lib.hid (show ∀ V, Below w2.heap.size w2 V → (fun V : World => V.cell? ⟨w.heap.size, 0, none⟩ = some (i64 x.num) ∧ V.cell? ⟨w.heap.size, 1, none⟩ = some (.string x.acct) ∧ V.cell? ⟨g, 0, none⟩ = some (.slice (some ⟨b, o, none⟩) H.length c) ∧ V.cell? ⟨b, o + (q - 1) * 3, none⟩ = some (i64 y.num) ∧ V.cell? ⟨b, o + (q - 1) * 3 + 1, none⟩ = some (.string y.acct)) V from fun V h => ⟨(h.cell (World.block_lt_of_cell? _ _ n0)).trans n0, (h.cell (World.block_lt_of_cell? _ _ n1)).trans n1, (h.cell (World.block_lt_of_cell? _ _ c0)).trans c0, (h.cell (World.block_lt_of_cell? _ _ d0)).trans d0, (h.cell (World.block_lt_of_cell? _ _ d1)).trans d1⟩)
               clear hsz hf hy d0 d1 d2
               cases hbl : bless x.acct y.acct with
               | true =>
                 have Hlt := Lib.hid (ltH_1 hbl)
                 rw [hbl] at hRa
                 clear hbl
                 go_wp2_with fail
                 refine wp_region_noPanic ?_
                 refine wp_region_l 43 (fun V => V.cell? ⟨w.heap.size, 0, none⟩ = some (i64 x.num) ∧ V.cell? ⟨w.heap.size, 1, none⟩ = some (.string x.acct) ∧ V.cell? ⟨g, 0, none⟩ = some (.slice (some ⟨b, o, none⟩) H.length c) ∧ V.cell? ⟨b, o + (q - 1) * 3, none⟩ = some (i64 y.num) ∧ V.cell? ⟨b, o + (q - 1) * 3 + 1, none⟩ = some (.string y.acct)) (by kernel_rfl) (hSS.out _ hB.drew) (fun hH => ?_)
                 refine tkZ 0 ?_; refine tkZ 1 ?_; refine tkZ 2 ?_; refine tkZ 3 ?_; refine tkZ 4 ?_; refine tkZ 5 ?_; refine tkZ 6 ?_; refine tkZ 7 ?_; refine tkZ 8 ?_; refine tkZ 9 ?_; refine tkZ 10 ?_; refine tkZ 11 ?_; refine tkZ 12 ?_; refine tkZ 13 ?_
                 refine tkO 14 (fun K hK => ?_)
                 refine oper_call2 93 53 62 _ rfl _ _ rfl rfl (enters_of Tryz.func93 (by kernel_rfl) rfl) ?_
                 refine (hRa.out _).mono ?_
                 rintro e wq ⟨rfl, hF⟩
                 refine ⟨_, rfl, ?_⟩
                 have hB := below_on hB.drew (Nat.le_refl _) hF
                 clear hF
                 refine hK.out _ _ (hSS.out _ hB) (fun hH => ?_)
                 clear hK K
                 try simp only [Act.put, uA, uZ, uS, vA, vZ, vS]
                 refine tkZ 15 ?_; refine tkM 16 ?_; refine tkM 17 ?_; refine tkM 18 ?_; refine tkM 19 ?_; refine tkM 20 ?_; refine tkM 21 ?_; refine tkM 22 ?_; refine tkM 23 ?_; refine tkM 24 ?_; refine tkM 25 ?_; refine tkM 26 ?_; refine tkM 27 ?_; refine tkM 28 ?_; refine tkM 29 ?_; refine tkM 30 ?_; refine tkM 31 ?_; refine tkM 32 ?_; refine tkM 33 ?_; refine tkM 34 ?_; refine tkM 35 ?_; refine tkM 36 ?_
                 refine tkM 37 ?_; refine tkM 38 ?_; refine tkM 39 ?_; refine tkM 40 ?_; refine tkM 41 ?_; refine tkZ 42 ?_
                 refine tkL (fun K hK => ?_)
                 go_simp
                 refine hK.out _ _ ?_
                 clear hK K
                 try simp only [Act.put, uA, uZ, uS, vA, vZ, vS]
                 refine tkD ?_
                 go_wp2
                 go_roundw
                 case rel => exact ⟨q - 1, by go_num, by omega, fun j h1 h2 => by
                     rcases Nat.eq_or_lt_of_le h2 with h2 | h2
                     · rw [Hy.out j h1 h2.symm]; exact Hlt.out
                     · exact Hup.out j h1 (by omega), hB⟩
                 case measure => simp [intOf]; omega
               | false =>
                 rw [hbl] at hRa
                 by_cases hae : x.acct = y.acct
                 · have e2 := beqS_of_eq hae
                   by_cases hnn : x.num < y.num
                   · have g9 : decide (x.num < y.num) = true := decide_eq_true hnn
                     have Hlt := Lib.hid (show ltH x y = true by rw [ltH_3 hbl hae, g9])
                     clear hbl hae hnn
                     go_wp2_with fail
                     refine wp_region_noPanic ?_
                     refine wp_region_l 43 (fun V => V.cell? ⟨w.heap.size, 0, none⟩ = some (i64 x.num) ∧ V.cell? ⟨w.heap.size, 1, none⟩ = some (.string x.acct) ∧ V.cell? ⟨g, 0, none⟩ = some (.slice (some ⟨b, o, none⟩) H.length c) ∧ V.cell? ⟨b, o + (q - 1) * 3, none⟩ = some (i64 y.num) ∧ V.cell? ⟨b, o + (q - 1) * 3 + 1, none⟩ = some (.string y.acct)) (by kernel_rfl) (hSS.out _ hB.drew) (fun hH => ?_)
                     refine tkZ 0 ?_; refine tkZ 1 ?_; refine tkZ 2 ?_; refine tkZ 3 ?_; refine tkZ 4 ?_; refine tkZ 5 ?_; refine tkZ 6 ?_; refine tkZ 7 ?_; refine tkZ 8 ?_; refine tkZ 9 ?_; refine tkZ 10 ?_; refine tkZ 11 ?_; refine tkZ 12 ?_; refine tkZ 13 ?_
                     refine tkO 14 (fun K hK => ?_)
                     refine oper_call2 93 53 62 _ rfl _ _ rfl rfl (enters_of Tryz.func93 (by kernel_rfl) rfl) ?_
                     refine (hRa.out _).mono ?_
                     rintro e wq ⟨rfl, hF⟩
                     refine ⟨_, rfl, ?_⟩
                     have hB := below_on hB.drew (Nat.le_refl _) hF
                     clear hF
                     refine hK.out _ _ (hSS.out _ hB) (fun hH => ?_)
                     clear hK K
                     try simp only [Act.put, uA, uZ, uS, vA, vZ, vS]
                     refine tkZ 15 ?_; refine tkZ 16 ?_; refine tkZ 17 ?_; refine tkZ 18 ?_; refine tkZ 19 ?_; refine tkZ 20 ?_; refine tkZ 21 ?_; refine tkZ 22 ?_; refine tkZ 23 ?_; refine tkZ 24 ?_; refine tkZ 25 ?_; refine tkZ 26 ?_; refine tkZ 27 ?_; refine tkZ 28 ?_; refine tkZ 29 ?_; refine tkZ 30 ?_; refine tkZ 31 ?_; refine tkZ 32 ?_; refine tkZ 33 ?_; refine tkZ 34 ?_; refine tkZ 35 ?_; refine tkZ 36 ?_
                     refine tkZ 37 ?_; refine tkZ 38 ?_; refine tkZ 39 ?_; refine tkZ 40 ?_; refine tkZ 41 ?_; refine tkZ 42 ?_
                     refine tkL (fun K hK => ?_)
                     go_simp
                     refine hK.out _ _ ?_
                     clear hK K
                     try simp only [Act.put, uA, uZ, uS, vA, vZ, vS]
                     refine tkD ?_
                     go_wp2
                     go_roundw
                     case rel => exact ⟨q - 1, by go_num, by omega, fun j h1 h2 => by
                         rcases Nat.eq_or_lt_of_le h2 with h2 | h2
                         · rw [Hy.out j h1 h2.symm]; exact Hlt.out
                         · exact Hup.out j h1 (by omega), hB⟩
                     case measure => simp [intOf]; omega
                   · have g9 : decide (x.num < y.num) = false := decide_eq_false hnn
                     have Hlt := Lib.hid (show ltH x y = false by rw [ltH_3 hbl hae, g9])
                     clear hbl hae hnn
                     go_wp2_with fail
                     refine wp_region_noPanic ?_
                     refine wp_region_l 43 (fun V => V.cell? ⟨w.heap.size, 0, none⟩ = some (i64 x.num) ∧ V.cell? ⟨w.heap.size, 1, none⟩ = some (.string x.acct) ∧ V.cell? ⟨g, 0, none⟩ = some (.slice (some ⟨b, o, none⟩) H.length c) ∧ V.cell? ⟨b, o + (q - 1) * 3, none⟩ = some (i64 y.num) ∧ V.cell? ⟨b, o + (q - 1) * 3 + 1, none⟩ = some (.string y.acct)) (by kernel_rfl) (hSS.out _ hB.drew) (fun hH => ?_)
                     refine tkZ 0 ?_; refine tkZ 1 ?_; refine tkZ 2 ?_; refine tkZ 3 ?_; refine tkZ 4 ?_; refine tkZ 5 ?_; refine tkZ 6 ?_; refine tkZ 7 ?_; refine tkZ 8 ?_; refine tkZ 9 ?_; refine tkZ 10 ?_; refine tkZ 11 ?_; refine tkZ 12 ?_; refine tkZ 13 ?_
                     refine tkO 14 (fun K hK => ?_)
                     refine oper_call2 93 53 62 _ rfl _ _ rfl rfl (enters_of Tryz.func93 (by kernel_rfl) rfl) ?_
                     refine (hRa.out _).mono ?_
                     rintro e wq ⟨rfl, hF⟩
                     refine ⟨_, rfl, ?_⟩
                     have hB := below_on hB.drew (Nat.le_refl _) hF
                     clear hF
                     refine hK.out _ _ (hSS.out _ hB) (fun hH => ?_)
                     clear hK K
                     try simp only [Act.put, uA, uZ, uS, vA, vZ, vS]
                     refine tkZ 15 ?_; refine tkZ 16 ?_; refine tkZ 17 ?_; refine tkZ 18 ?_; refine tkZ 19 ?_; refine tkZ 20 ?_; refine tkZ 21 ?_; refine tkZ 22 ?_; refine tkZ 23 ?_; refine tkZ 24 ?_; refine tkZ 25 ?_; refine tkZ 26 ?_; refine tkZ 27 ?_; refine tkZ 28 ?_; refine tkZ 29 ?_; refine tkZ 30 ?_; refine tkZ 31 ?_; refine tkZ 32 ?_; refine tkZ 33 ?_; refine tkZ 34 ?_; refine tkZ 35 ?_; refine tkZ 36 ?_
                     refine tkZ 37 ?_; refine tkZ 38 ?_; refine tkZ 39 ?_; refine tkZ 40 ?_; refine tkZ 41 ?_; refine tkZ 42 ?_
                     refine tkL (fun K hK => ?_)
                     go_simp
                     refine hK.out _ _ ?_
                     clear hK K
                     try simp only [Act.put, uA, uZ, uS, vA, vZ, vS]
                     refine tkD ?_
                     repeat go_step
                     go_meet
                     exact ⟨q, rfl, hq, Hup.out, (ins_loH HSH.out hq1 (by rw [Hyy.out]; exact Hlt.out) Hno.out), hB⟩
                 · have e2 := beqS_of_ne hae
                   have Hlt := Lib.hid (ltH_2 hbl hae)
                   clear hbl hae
                   go_wp2_with fail
                   refine wp_region_noPanic ?_
                   refine wp_region_l 43 (fun V => V.cell? ⟨w.heap.size, 0, none⟩ = some (i64 x.num) ∧ V.cell? ⟨w.heap.size, 1, none⟩ = some (.string x.acct) ∧ V.cell? ⟨g, 0, none⟩ = some (.slice (some ⟨b, o, none⟩) H.length c) ∧ V.cell? ⟨b, o + (q - 1) * 3, none⟩ = some (i64 y.num) ∧ V.cell? ⟨b, o + (q - 1) * 3 + 1, none⟩ = some (.string y.acct)) (by kernel_rfl) (hSS.out _ hB.drew) (fun hH => ?_)
                   refine tkZ 0 ?_; refine tkZ 1 ?_; refine tkZ 2 ?_; refine tkZ 3 ?_; refine tkZ 4 ?_; refine tkZ 5 ?_; refine tkZ 6 ?_; refine tkZ 7 ?_; refine tkZ 8 ?_; refine tkZ 9 ?_; refine tkZ 10 ?_; refine tkZ 11 ?_; refine tkZ 12 ?_; refine tkZ 13 ?_
                   refine tkO 14 (fun K hK => ?_)
                   refine oper_call2 93 53 62 _ rfl _ _ rfl rfl (enters_of Tryz.func93 (by kernel_rfl) rfl) ?_
                   refine (hRa.out _).mono ?_
                   rintro e wq ⟨rfl, hF⟩
                   refine ⟨_, rfl, ?_⟩
                   have hB := below_on hB.drew (Nat.le_refl _) hF
                   clear hF
                   refine hK.out _ _ (hSS.out _ hB) (fun hH => ?_)
                   clear hK K
                   try simp only [Act.put, uA, uZ, uS, vA, vZ, vS]
                   refine tkZ 15 ?_; refine tkZ 16 ?_; refine tkZ 17 ?_; refine tkZ 18 ?_; refine tkZ 19 ?_; refine tkZ 20 ?_; refine tkZ 21 ?_; refine tkZ 22 ?_; refine tkZ 23 ?_; refine tkZ 24 ?_; refine tkZ 25 ?_; refine tkZ 26 ?_; refine tkZ 27 ?_; refine tkZ 28 ?_; refine tkM 29 ?_; refine tkM 30 ?_; refine tkM 31 ?_; refine tkM 32 ?_; refine tkM 33 ?_; refine tkM 34 ?_; refine tkM 35 ?_; refine tkM 36 ?_
                   refine tkM 37 ?_; refine tkM 38 ?_; refine tkM 39 ?_; refine tkM 40 ?_; refine tkZ 41 ?_; refine tkZ 42 ?_
                   refine tkL (fun K hK => ?_)
                   go_simp
                   refine hK.out _ _ ?_
                   clear hK K
                   try simp only [Act.put, uA, uZ, uS, vA, vZ, vS]
                   refine tkD ?_
                   repeat go_step
                   go_meet
                   exact ⟨q, rfl, hq, Hup.out, (ins_loH HSH.out hq1 (by rw [Hyy.out]; exact Hlt.out) Hno.out), hB⟩
          case rest =>
            obtain ⟨q, hq8, hq, hup, hlo, hB⟩ := hcut
            obtain ⟨wq, hwq⟩ : ∃ wq, wq = wc := ⟨wc, rfl⟩
            rw [← hwq] at hB ⊢
            subst hq8
            have Hup := Lib.hid hup
            have Hlo := Lib.hid hlo
            clear hup hlo hwq
            rcases hf with ⟨rfl, rfl⟩ | ⟨b, o, rfl⟩
            · have hL0 : H = [] := by
                rcases H with _ | ⟨a, r⟩
                · rfl
                · simp at hlc
              subst hL0
              obtain rfl : q = 0 := by simpa using hq
              go_wp2_with fail
              have HI := Lib.hid (insB_at keyH.strict x ([] : List Held) 0 HSH.out (by omega) (fun j h _ => absurd h (by simp)) (fun j h _ => absurd h (by simp)))
              have HBq := Lib.hid hB
              have hcq := Lib.hid ((hB.block _ hlg2).trans Hc.out)
              have hlgq := Nat.lt_of_lt_of_le hlg2 hB.size
              have c0q := (hB.cell (p := ⟨g, 0, none⟩) hlg2).trans c0
              have hsq := Lib.hid (Hs.out.below_ hB)
              have hTk := Lib.hid (fun (V : World) (h : Below wq.heap.size wq V) => (show SlS V (Oth V (.slice none 0 0)) none 0 (([] : List Held).take 0) from ((hsq.out.below_ h).take 0).keep (fun _ _ => rfl) (fun b hb => ⟨hb.1, by simp [Value.ownBlock]⟩)))
              have hDr := Lib.hid (fun (V : World) (h : Below wq.heap.size wq V) => (show Sl V wq.heap.size none (0 - 0) (([] : List Held).drop 0) from ((hsq.out.mono (fun b hb => hb.1)).drop (by omega)).below h))
              have Hql := Lib.hid (show 0 = (([] : List Held).take 0).length by rw [List.length_take]; omega)
              have HSS := Lib.hid (show ∀ V, Below wq.heap.size wq V → (fun V : World => V.cell? ⟨g, 0, none⟩ = some (.slice none 0 0) ∧ V.cell? ⟨w.heap.size, 0, none⟩ = some (i64 x.num) ∧ V.cell? ⟨w.heap.size, 1, none⟩ = some (.string x.acct) ∧ V.cell? ⟨w.heap.size, 2, none⟩ = some (i64 x.sum)) V from fun V h => ⟨(h.cell (World.block_lt_of_cell? _ _ c0q)).trans c0q, (h.cell (Nat.lt_of_lt_of_le hlx2 hB.size)).trans ((hB.cell (p := ⟨w.heap.size, 0, none⟩) hlx2).trans n0), (h.cell (Nat.lt_of_lt_of_le hlx2 hB.size)).trans ((hB.cell (p := ⟨w.heap.size, 1, none⟩) hlx2).trans n1), (h.cell (Nat.lt_of_lt_of_le hlx2 hB.size)).trans ((hB.cell (p := ⟨w.heap.size, 2, none⟩) hlx2).trans n2)⟩)
              have q1 : ((0 : Nat) : Int) ≤ (0 : Int) := by omega
              have q2 : ((0 : Nat) : Int) ≤ (([] : List Held).length : Int) := by omega
              have q3 : (([] : List Held).length : Int) ≤ (0 : Int) := by omega
              have q0 : (0 : Int) ≤ ((0 : Nat) : Int) := by omega
              clear hB c0 n0 n1 n2
              have hb : Below wq.heap.size wq wq.drew := (Below.refl _ _).drew
              refine wp_region_noPanic ?_
              refine wp_region_l 20 (fun V => V.cell? ⟨g, 0, none⟩ = some (.slice none 0 0) ∧ V.cell? ⟨w.heap.size, 0, none⟩ = some (i64 x.num) ∧ V.cell? ⟨w.heap.size, 1, none⟩ = some (.string x.acct) ∧ V.cell? ⟨w.heap.size, 2, none⟩ = some (i64 x.sum)) (by kernel_rfl) (HSS.out _ hb) (fun hH => ?_)
              refine tkZ 0 ?_; refine tkZ 1 ?_; refine tkZ 2 ?_; refine tkZ 3 ?_; refine tkZ 4 ?_; refine tkZ 5 ?_; refine tkZ 6 ?_; refine tkZ 8 ?_; refine tkZ 11 ?_; refine tkZ 12 ?_; refine tkZ 13 ?_; refine tkZ 14 ?_; refine tkZ 15 ?_; refine tkZ 16 ?_
              refine wpAnyL_ready (rs := [7, 9]) (by kernel_rfl) (by simp) ?_
              refine AllReadyL.cons rfl (fun K hK => ?_) ?_
              · skip
                rw [if_pos (by rfl)]
                refine oper_append (.const (.slice none 0 0)) (.tmp 101) 123 rfl (.agg #[i64 0, .string ByteArray.empty, i64 0]) 32 Tryz.underlying123 rheldInfo rfl (by decide) (by decide) rfl (Own.nil_ _ wq.heap.size 136) none 0 0 (([] : List Held).take 0) rfl Hql.out (hTk.out _ hb) (by simp <;> omega) hb.size ?_
                intro v1 u1 hO1 hg1 hat1
                rw [List.nil_append] at hO1
                have hF := (Own.nil_ (α := Held) _ _ 136).below hg1 (Nat.le_refl _) (Nat.le_refl _)
                have hb := below_on hb (Nat.le_refl _) hF
                have HO1 := Lib.hid hO1
                clear hF hg1 hat1 hO1
                refine hK.out _ _ (HSS.out _ hb) (fun hH => ?_)
                clear hK K
                try simp only [Act.put, uA, uZ, uS, vA, vZ, vS]
                refine tkO 9 (fun K hK => ?_)
                go_simp
                have hgl : (u1.alloc (.cells #[i64 x.num, .string x.acct, i64 x.sum] 136)).heap[u1.heap.size]? = some (.cells #[i64 x.num, .string x.acct, i64 x.sum] 136 (0, 0)) := heap_alloc_new u1 _
                have hne1 := HO1.out.new_ne (Nat.le_refl u1.heap.size)
                have HO1 := Lib.hid (HO1.out.later ((Below.refl _ _).alloc (Nat.le_refl _) (.cells #[i64 x.num, .string x.acct, i64 x.sum] 136)))
                have hb := hb.alloc hb.size (.cells #[i64 x.num, .string x.acct, i64 x.sum] 136)
                refine hK.out _ _ (HSS.out _ hb) (fun hH => ?_)
                clear hK K
                try simp only [Act.put, uA, uZ, uS, vA, vZ, vS]
                refine tkO 10 (fun K hK => ?_)
                rw [if_pos (by rfl)]
                refine oper_append_one (.tmp 102) (.tmp 104) 123 rfl (.agg #[i64 0, .string ByteArray.empty, i64 0]) 32 Tryz.underlying123 rheldInfo rfl (by decide) (by decide) rfl HO1.out u1.heap.size x (by rfl) _ 136 hgl rfl hne1 Hxa.out (by rw [← Hql.out]; omega) hb.size ?_
                intro v2 u2 hO2 hg2 hat2
                have hb := hb.trans (HO1.out.below hg2 (Nat.le_refl _) hb.size)
                have HO2 := Lib.hid hO2
                clear hg2 hat2 hO2 HO1 hgl hne1
                refine hK.out _ _ (HSS.out _ hb) (fun hH => ?_)
                clear hK K
                try simp only [Act.put, uA, uZ, uS, vA, vZ, vS]
                refine tkO 17 (fun K hK => ?_)
                rw [if_pos (by rfl)]
                refine oper_append (.tmp 105) (.tmp 111) 123 rfl (.agg #[i64 0, .string ByteArray.empty, i64 0]) 32 Tryz.underlying123 rheldInfo rfl (by decide) (by decide) rfl HO2.out _ _ _ (([] : List Held).drop 0) rfl (by simp) ((hDr.out _ hb).mono (HO2.out.oth (Nat.le_refl _) hb.size)) (by simp <;> omega) hb.size ?_
                intro v3 u3 hO3 hg3 hat3
                obtain ⟨A3, cap3, hv3, -⟩ := hO3.sl
                generalize List.length _ = n3 at hv3
                subst hv3
                have hb := hb.trans (HO2.out.below hg3 (Nat.le_refl _) hb.size)
                have HO3 := Lib.hid hO3
                clear hg3 hat3 hO3 HO2
                refine hK.out _ _ (HSS.out _ hb) (fun hH => ?_)
                clear hK K
                try simp only [Act.put, uA, uZ, uS, vA, vZ, vS]
                refine tkZ 18 ?_; refine tkZ 19 ?_
                refine tkL (fun K hK => ?_)
                have c3 := (hb.cell (p := ⟨g, 0, none⟩) hlgq).trans c0q
                have hg3 := Lib.hid ((hb.block _ hlgq).trans hcq.out)
                have f3 := frozen_of_row _ g 0 _ _ hg3.out
                go_simp
                refine hK.out _ _ ?_
                clear hK K
                try simp only [Act.put, uA, uZ, uS, vA, vZ, vS]
                refine tkD ?_
                have hD := rh_put (Nat.le_refl _) hb hlgq (fun k hk => HTn.out k (Nat.le_trans (Nat.le_trans Hsz.out HBq.out.size) hk)) hg3.out HO3.out (ins_okH HH.out Hxa.out)
                have HD := Lib.hid hD
                clear hD
                go_wp2
                all_goals (go_ret; exact ⟨by rw [HR4.out]; rfl, by rw [HR4.out]; exact (Q1.out.later HBq.out).kept (Gr.of_grown HD.out.2) (fun e => hne (by injection e)) (fun k hk e => HTg.out (by injection e with e; rw [e]; exact hk)), by rw [HR4.out, HI.out, List.append_cons]; exact HD.out.1, (hG.trans (Gr.of_below HBq.out (GH g gc)) (fun _ e => .inl e)).trans ((Gr.of_grown HD.out.2).mono (fun k _ e => (show GH g gc k from .inl (by injection e with e; exact e.symm)))) (fun _ e => .inl e)⟩)
              refine AllReadyL.cons rfl (fun K hK => ?_) ?_
              · skip
                go_simp
                obtain ⟨gl, hgl, hgl2⟩ : ∃ gl, gl = wq.heap.size ∧ (wq.drew.alloc (.cells #[i64 x.num, .string x.acct, i64 x.sum] 136)).heap[gl]? = some (.cells #[i64 x.num, .string x.acct, i64 x.sum] 136 (0, 0)) := ⟨_, rfl, heap_alloc_new wq.drew _⟩
                have Hgl := Lib.hid hgl
                clear hgl
                have hgl := hgl2
                clear hgl2
                have hb := hb.alloc hb.size (.cells #[i64 x.num, .string x.acct, i64 x.sum] 136)
                refine hK.out _ _ (HSS.out _ hb) (fun hH => ?_)
                clear hK K
                try simp only [Act.put, uA, uZ, uS, vA, vZ, vS]
                refine tkO 7 (fun K hK => ?_)
                rw [if_pos (by rfl)]
                refine oper_append (.const (.slice none 0 0)) (.tmp 101) 123 rfl (.agg #[i64 0, .string ByteArray.empty, i64 0]) 32 Tryz.underlying123 rheldInfo rfl (by decide) (by decide) rfl (Own.nil_ _ wq.heap.size 136) none 0 0 (([] : List Held).take 0) rfl Hql.out (hTk.out _ hb) (by simp <;> omega) hb.size ?_
                intro v1 u1 hO1 hg1 hat1
                rw [List.nil_append] at hO1
                have hF := (Own.nil_ (α := Held) _ _ 136).below hg1 (Nat.le_refl _) (Nat.le_refl _)
                have hne1 : some gl ≠ v1.ownBlock := by
                  rcases hat1 with h | h
                  · have h2 : v1.ownBlock = none := h
                    rw [h2]; simp
                  · have h2 : v1.ownBlock = some (wq.heap.size + 1) := by rw [h]; simp
                    rw [h2, Hgl.out]; intro e; injection e with e; omega
                have hgl := (hF.block _ (Array.getElem?_eq_some_iff.1 hgl).1).trans hgl
                have hb := below_on hb (Nat.le_refl _) hF
                have HO1 := Lib.hid hO1
                clear hF hg1 hat1 hO1
                refine hK.out _ _ (HSS.out _ hb) (fun hH => ?_)
                clear hK K
                try simp only [Act.put, uA, uZ, uS, vA, vZ, vS]
                refine tkO 10 (fun K hK => ?_)
                rw [if_pos (by rfl)]
                refine oper_append_one (.tmp 102) (.tmp 104) 123 rfl (.agg #[i64 0, .string ByteArray.empty, i64 0]) 32 Tryz.underlying123 rheldInfo rfl (by decide) (by decide) rfl HO1.out gl x (by rw [Hgl.out]; rfl) _ 136 hgl rfl hne1 Hxa.out (by rw [← Hql.out]; omega) hb.size ?_
                intro v2 u2 hO2 hg2 hat2
                have hb := hb.trans (HO1.out.below hg2 (Nat.le_refl _) hb.size)
                have HO2 := Lib.hid hO2
                clear hg2 hat2 hO2 HO1 hgl hne1
                refine hK.out _ _ (HSS.out _ hb) (fun hH => ?_)
                clear hK K
                try simp only [Act.put, uA, uZ, uS, vA, vZ, vS]
                refine tkO 17 (fun K hK => ?_)
                rw [if_pos (by rfl)]
                refine oper_append (.tmp 105) (.tmp 111) 123 rfl (.agg #[i64 0, .string ByteArray.empty, i64 0]) 32 Tryz.underlying123 rheldInfo rfl (by decide) (by decide) rfl HO2.out _ _ _ (([] : List Held).drop 0) rfl (by simp) ((hDr.out _ hb).mono (HO2.out.oth (Nat.le_refl _) hb.size)) (by simp <;> omega) hb.size ?_
                intro v3 u3 hO3 hg3 hat3
                obtain ⟨A3, cap3, hv3, -⟩ := hO3.sl
                generalize List.length _ = n3 at hv3
                subst hv3
                have hb := hb.trans (HO2.out.below hg3 (Nat.le_refl _) hb.size)
                have HO3 := Lib.hid hO3
                clear hg3 hat3 hO3 HO2
                refine hK.out _ _ (HSS.out _ hb) (fun hH => ?_)
                clear hK K
                try simp only [Act.put, uA, uZ, uS, vA, vZ, vS]
                refine tkZ 18 ?_; refine tkZ 19 ?_
                refine tkL (fun K hK => ?_)
                have c3 := (hb.cell (p := ⟨g, 0, none⟩) hlgq).trans c0q
                have hg3 := Lib.hid ((hb.block _ hlgq).trans hcq.out)
                have f3 := frozen_of_row _ g 0 _ _ hg3.out
                go_simp
                refine hK.out _ _ ?_
                clear hK K
                try simp only [Act.put, uA, uZ, uS, vA, vZ, vS]
                refine tkD ?_
                have hD := rh_put (Nat.le_refl _) hb hlgq (fun k hk => HTn.out k (Nat.le_trans (Nat.le_trans Hsz.out HBq.out.size) hk)) hg3.out HO3.out (ins_okH HH.out Hxa.out)
                have HD := Lib.hid hD
                clear hD
                go_wp2
                all_goals (go_ret; exact ⟨by rw [HR4.out]; rfl, by rw [HR4.out]; exact (Q1.out.later HBq.out).kept (Gr.of_grown HD.out.2) (fun e => hne (by injection e)) (fun k hk e => HTg.out (by injection e with e; rw [e]; exact hk)), by rw [HR4.out, HI.out, List.append_cons]; exact HD.out.1, (hG.trans (Gr.of_below HBq.out (GH g gc)) (fun _ e => .inl e)).trans ((Gr.of_grown HD.out.2).mono (fun k _ e => (show GH g gc k from .inl (by injection e with e; exact e.symm)))) (fun _ e => .inl e)⟩)
              exact AllReadyL.nil
            · go_wp2_with fail
              have HI := Lib.hid (insB_at keyH.strict x H q HSH.out (by omega) Hlo.out (fun j h hj => keyH.strict.asymm (Hup.out j h hj)))
              have HBq := Lib.hid hB
              have hcq := Lib.hid ((hB.block _ hlg2).trans Hc.out)
              have hlgq := Nat.lt_of_lt_of_le hlg2 hB.size
              have c0q := (hB.cell (p := ⟨g, 0, none⟩) hlg2).trans c0
              have hsq := Lib.hid (Hs.out.below_ hB)
              have hTk := Lib.hid (fun (V : World) (h : Below wq.heap.size wq V) => (show SlS V (Oth V (.slice none 0 0)) (some ⟨b, o, none⟩) c (H.take q) from ((hsq.out.below_ h).take q).keep (fun _ _ => rfl) (fun b hb => ⟨hb.1, by simp [Value.ownBlock]⟩)))
              have hDr := Lib.hid (fun (V : World) (h : Below wq.heap.size wq V) => (show Sl V wq.heap.size (if c = q then some ⟨b, o, none⟩ else some ⟨b, o + q * 3, none⟩) (c - q) (H.drop q) from by
                    have := ((hsq.out.mono (fun b hb => hb.1)).drop (k := q) (by omega)).below h
                    rwa [Option.map_some, show (⟨b, o, none⟩ : Addr).add (q * Enc.size Held) = ⟨b, o + q * 3, none⟩ from add_noneC ..] at this))
              have Hql := Lib.hid (show q = (H.take q).length by rw [List.length_take]; omega)
              have HSS := Lib.hid (show ∀ V, Below wq.heap.size wq V → (fun V : World => V.cell? ⟨g, 0, none⟩ = some (.slice (some ⟨b, o, none⟩) H.length c) ∧ V.cell? ⟨w.heap.size, 0, none⟩ = some (i64 x.num) ∧ V.cell? ⟨w.heap.size, 1, none⟩ = some (.string x.acct) ∧ V.cell? ⟨w.heap.size, 2, none⟩ = some (i64 x.sum)) V from fun V h => ⟨(h.cell (World.block_lt_of_cell? _ _ c0q)).trans c0q, (h.cell (Nat.lt_of_lt_of_le hlx2 hB.size)).trans ((hB.cell (p := ⟨w.heap.size, 0, none⟩) hlx2).trans n0), (h.cell (Nat.lt_of_lt_of_le hlx2 hB.size)).trans ((hB.cell (p := ⟨w.heap.size, 1, none⟩) hlx2).trans n1), (h.cell (Nat.lt_of_lt_of_le hlx2 hB.size)).trans ((hB.cell (p := ⟨w.heap.size, 2, none⟩) hlx2).trans n2)⟩)
              have q1 : ((q : Nat) : Int) ≤ (c : Int) := by omega
              have q2 : ((q : Nat) : Int) ≤ (H.length : Int) := by omega
              have q3 : (H.length : Int) ≤ (c : Int) := by omega
              have q0 : (0 : Int) ≤ ((q : Nat) : Int) := by omega
              clear hB c0 n0 n1 n2
              have hb : Below wq.heap.size wq wq.drew := (Below.refl _ _).drew
              refine wp_region_noPanic ?_
              refine wp_region_l 20 (fun V => V.cell? ⟨g, 0, none⟩ = some (.slice (some ⟨b, o, none⟩) H.length c) ∧ V.cell? ⟨w.heap.size, 0, none⟩ = some (i64 x.num) ∧ V.cell? ⟨w.heap.size, 1, none⟩ = some (.string x.acct) ∧ V.cell? ⟨w.heap.size, 2, none⟩ = some (i64 x.sum)) (by kernel_rfl) (HSS.out _ hb) (fun hH => ?_)
              refine tkZ 0 ?_; refine tkZ 1 ?_; refine tkZ 2 ?_; refine tkZ 3 ?_; refine tkZ 4 ?_; refine tkZ 5 ?_; refine tkZ 6 ?_; refine tkZ 8 ?_; refine tkZ 11 ?_; refine tkZ 12 ?_; refine tkZ 13 ?_; refine tkZ 14 ?_; refine tkZ 15 ?_; refine tkZ 16 ?_
              refine wpAnyL_ready (rs := [7, 9]) (by kernel_rfl) (by simp) ?_
              refine AllReadyL.cons rfl (fun K hK => ?_) ?_
              · skip
                rw [if_pos (by rfl)]
                refine oper_append (.const (.slice none 0 0)) (.tmp 101) 123 rfl (.agg #[i64 0, .string ByteArray.empty, i64 0]) 32 Tryz.underlying123 rheldInfo rfl (by decide) (by decide) rfl (Own.nil_ _ wq.heap.size 136) (some ⟨b, o, none⟩) q c (H.take q) rfl Hql.out (hTk.out _ hb) (by simp <;> omega) hb.size ?_
                intro v1 u1 hO1 hg1 hat1
                rw [List.nil_append] at hO1
                have hF := (Own.nil_ (α := Held) _ _ 136).below hg1 (Nat.le_refl _) (Nat.le_refl _)
                have hb := below_on hb (Nat.le_refl _) hF
                have HO1 := Lib.hid hO1
                clear hF hg1 hat1 hO1
                refine hK.out _ _ (HSS.out _ hb) (fun hH => ?_)
                clear hK K
                try simp only [Act.put, uA, uZ, uS, vA, vZ, vS]
                refine tkO 9 (fun K hK => ?_)
                go_simp
                have hgl : (u1.alloc (.cells #[i64 x.num, .string x.acct, i64 x.sum] 136)).heap[u1.heap.size]? = some (.cells #[i64 x.num, .string x.acct, i64 x.sum] 136 (0, 0)) := heap_alloc_new u1 _
                have hne1 := HO1.out.new_ne (Nat.le_refl u1.heap.size)
                have HO1 := Lib.hid (HO1.out.later ((Below.refl _ _).alloc (Nat.le_refl _) (.cells #[i64 x.num, .string x.acct, i64 x.sum] 136)))
                have hb := hb.alloc hb.size (.cells #[i64 x.num, .string x.acct, i64 x.sum] 136)
                refine hK.out _ _ (HSS.out _ hb) (fun hH => ?_)
                clear hK K
                try simp only [Act.put, uA, uZ, uS, vA, vZ, vS]
                refine tkO 10 (fun K hK => ?_)
                rw [if_pos (by rfl)]
                refine oper_append_one (.tmp 102) (.tmp 104) 123 rfl (.agg #[i64 0, .string ByteArray.empty, i64 0]) 32 Tryz.underlying123 rheldInfo rfl (by decide) (by decide) rfl HO1.out u1.heap.size x (by rfl) _ 136 hgl rfl hne1 Hxa.out (by rw [← Hql.out]; omega) hb.size ?_
                intro v2 u2 hO2 hg2 hat2
                have hb := hb.trans (HO1.out.below hg2 (Nat.le_refl _) hb.size)
                have HO2 := Lib.hid hO2
                clear hg2 hat2 hO2 HO1 hgl hne1
                refine hK.out _ _ (HSS.out _ hb) (fun hH => ?_)
                clear hK K
                try simp only [Act.put, uA, uZ, uS, vA, vZ, vS]
                refine tkO 17 (fun K hK => ?_)
                rw [if_pos (by rfl)]
                refine oper_append (.tmp 105) (.tmp 111) 123 rfl (.agg #[i64 0, .string ByteArray.empty, i64 0]) 32 Tryz.underlying123 rheldInfo rfl (by decide) (by decide) rfl HO2.out _ _ _ (H.drop q) rfl (by simp) ((hDr.out _ hb).mono (HO2.out.oth (Nat.le_refl _) hb.size)) (by simp <;> omega) hb.size ?_
                intro v3 u3 hO3 hg3 hat3
                obtain ⟨A3, cap3, hv3, -⟩ := hO3.sl
                generalize List.length _ = n3 at hv3
                subst hv3
                have hb := hb.trans (HO2.out.below hg3 (Nat.le_refl _) hb.size)
                have HO3 := Lib.hid hO3
                clear hg3 hat3 hO3 HO2
                refine hK.out _ _ (HSS.out _ hb) (fun hH => ?_)
                clear hK K
                try simp only [Act.put, uA, uZ, uS, vA, vZ, vS]
                refine tkZ 18 ?_; refine tkZ 19 ?_
                refine tkL (fun K hK => ?_)
                have c3 := (hb.cell (p := ⟨g, 0, none⟩) hlgq).trans c0q
                have hg3 := Lib.hid ((hb.block _ hlgq).trans hcq.out)
                have f3 := frozen_of_row _ g 0 _ _ hg3.out
                go_simp
                refine hK.out _ _ ?_
                clear hK K
                try simp only [Act.put, uA, uZ, uS, vA, vZ, vS]
                refine tkD ?_
                have hD := rh_put (Nat.le_refl _) hb hlgq (fun k hk => HTn.out k (Nat.le_trans (Nat.le_trans Hsz.out HBq.out.size) hk)) hg3.out HO3.out (ins_okH HH.out Hxa.out)
                have HD := Lib.hid hD
                clear hD
                go_wp2
                all_goals (go_ret; exact ⟨by rw [HR4.out]; rfl, by rw [HR4.out]; exact (Q1.out.later HBq.out).kept (Gr.of_grown HD.out.2) (fun e => hne (by injection e)) (fun k hk e => HTg.out (by injection e with e; rw [e]; exact hk)), by rw [HR4.out, HI.out, List.append_cons]; exact HD.out.1, (hG.trans (Gr.of_below HBq.out (GH g gc)) (fun _ e => .inl e)).trans ((Gr.of_grown HD.out.2).mono (fun k _ e => (show GH g gc k from .inl (by injection e with e; exact e.symm)))) (fun _ e => .inl e)⟩)
              refine AllReadyL.cons rfl (fun K hK => ?_) ?_
              · skip
                go_simp
                obtain ⟨gl, hgl, hgl2⟩ : ∃ gl, gl = wq.heap.size ∧ (wq.drew.alloc (.cells #[i64 x.num, .string x.acct, i64 x.sum] 136)).heap[gl]? = some (.cells #[i64 x.num, .string x.acct, i64 x.sum] 136 (0, 0)) := ⟨_, rfl, heap_alloc_new wq.drew _⟩
                have Hgl := Lib.hid hgl
                clear hgl
                have hgl := hgl2
                clear hgl2
                have hb := hb.alloc hb.size (.cells #[i64 x.num, .string x.acct, i64 x.sum] 136)
                refine hK.out _ _ (HSS.out _ hb) (fun hH => ?_)
                clear hK K
                try simp only [Act.put, uA, uZ, uS, vA, vZ, vS]
                refine tkO 7 (fun K hK => ?_)
                rw [if_pos (by rfl)]
                refine oper_append (.const (.slice none 0 0)) (.tmp 101) 123 rfl (.agg #[i64 0, .string ByteArray.empty, i64 0]) 32 Tryz.underlying123 rheldInfo rfl (by decide) (by decide) rfl (Own.nil_ _ wq.heap.size 136) (some ⟨b, o, none⟩) q c (H.take q) rfl Hql.out (hTk.out _ hb) (by simp <;> omega) hb.size ?_
                intro v1 u1 hO1 hg1 hat1
                rw [List.nil_append] at hO1
                have hF := (Own.nil_ (α := Held) _ _ 136).below hg1 (Nat.le_refl _) (Nat.le_refl _)
                have hne1 : some gl ≠ v1.ownBlock := by
                  rcases hat1 with h | h
                  · have h2 : v1.ownBlock = none := h
                    rw [h2]; simp
                  · have h2 : v1.ownBlock = some (wq.heap.size + 1) := by rw [h]; simp
                    rw [h2, Hgl.out]; intro e; injection e with e; omega
                have hgl := (hF.block _ (Array.getElem?_eq_some_iff.1 hgl).1).trans hgl
                have hb := below_on hb (Nat.le_refl _) hF
                have HO1 := Lib.hid hO1
                clear hF hg1 hat1 hO1
                refine hK.out _ _ (HSS.out _ hb) (fun hH => ?_)
                clear hK K
                try simp only [Act.put, uA, uZ, uS, vA, vZ, vS]
                refine tkO 10 (fun K hK => ?_)
                rw [if_pos (by rfl)]
                refine oper_append_one (.tmp 102) (.tmp 104) 123 rfl (.agg #[i64 0, .string ByteArray.empty, i64 0]) 32 Tryz.underlying123 rheldInfo rfl (by decide) (by decide) rfl HO1.out gl x (by rw [Hgl.out]; rfl) _ 136 hgl rfl hne1 Hxa.out (by rw [← Hql.out]; omega) hb.size ?_
                intro v2 u2 hO2 hg2 hat2
                have hb := hb.trans (HO1.out.below hg2 (Nat.le_refl _) hb.size)
                have HO2 := Lib.hid hO2
                clear hg2 hat2 hO2 HO1 hgl hne1
                refine hK.out _ _ (HSS.out _ hb) (fun hH => ?_)
                clear hK K
                try simp only [Act.put, uA, uZ, uS, vA, vZ, vS]
                refine tkO 17 (fun K hK => ?_)
                rw [if_pos (by rfl)]
                refine oper_append (.tmp 105) (.tmp 111) 123 rfl (.agg #[i64 0, .string ByteArray.empty, i64 0]) 32 Tryz.underlying123 rheldInfo rfl (by decide) (by decide) rfl HO2.out _ _ _ (H.drop q) rfl (by simp) ((hDr.out _ hb).mono (HO2.out.oth (Nat.le_refl _) hb.size)) (by simp <;> omega) hb.size ?_
                intro v3 u3 hO3 hg3 hat3
                obtain ⟨A3, cap3, hv3, -⟩ := hO3.sl
                generalize List.length _ = n3 at hv3
                subst hv3
                have hb := hb.trans (HO2.out.below hg3 (Nat.le_refl _) hb.size)
                have HO3 := Lib.hid hO3
                clear hg3 hat3 hO3 HO2
                refine hK.out _ _ (HSS.out _ hb) (fun hH => ?_)
                clear hK K
                try simp only [Act.put, uA, uZ, uS, vA, vZ, vS]
                refine tkZ 18 ?_; refine tkZ 19 ?_
                refine tkL (fun K hK => ?_)
                have c3 := (hb.cell (p := ⟨g, 0, none⟩) hlgq).trans c0q
                have hg3 := Lib.hid ((hb.block _ hlgq).trans hcq.out)
                have f3 := frozen_of_row _ g 0 _ _ hg3.out
                go_simp
                refine hK.out _ _ ?_
                clear hK K
                try simp only [Act.put, uA, uZ, uS, vA, vZ, vS]
                refine tkD ?_
                have hD := rh_put (Nat.le_refl _) hb hlgq (fun k hk => HTn.out k (Nat.le_trans (Nat.le_trans Hsz.out HBq.out.size) hk)) hg3.out HO3.out (ins_okH HH.out Hxa.out)
                have HD := Lib.hid hD
                clear hD
                go_wp2
                all_goals (go_ret; exact ⟨by rw [HR4.out]; rfl, by rw [HR4.out]; exact (Q1.out.later HBq.out).kept (Gr.of_grown HD.out.2) (fun e => hne (by injection e)) (fun k hk e => HTg.out (by injection e with e; rw [e]; exact hk)), by rw [HR4.out, HI.out, List.append_cons]; exact HD.out.1, (hG.trans (Gr.of_below HBq.out (GH g gc)) (fun _ e => .inl e)).trans ((Gr.of_grown HD.out.2).mono (fun k _ e => (show GH g gc k from .inl (by injection e with e; exact e.symm)))) (fun _ e => .inl e)⟩)
              exact AllReadyL.nil
        · have g6 : (er != 0) = true := by simpa using he
          have HR4 := Lib.hid (show R = (er, L2, H) by rw [HR3.out, if_neg he])
          clear HR3 he
          go_wp2
          go_ret
          exact ⟨by rw [HR4.out]; rfl, by rw [HR4.out]; exact q1, by rw [HR4.out]; exact hh2, hG⟩
    · have HR2 := Lib.hid (show R = (7, L, H) by rw [HR1.out, show getK Held.key H x.key = some H[i] from i2]; rfl)
      have g4 : decide ((0 : Int) ≤ idxH H x.acct x.num) = true := decide_eq_true (by omega)
      generalize idxH H x.acct x.num = ix at *
      clear HR1 i1 i2 i3
      go_enter Tryz.func64, Tryz.ntmps64
      go_wp2_with fail
      refine hA.out.mono ?_
      rintro e w1 ⟨rfl, rfl⟩
      go_wp2
      go_ret
      exact ⟨by rw [HR2.out]; rfl, by rw [HR2.out]; exact HC0.out, by rw [HR2.out]; exact H0.out, Gr.of_below hb0 _⟩
end Go.Proofs.YtampniiehgimhaaGreat
