/- Texts of this claim, laid together: Rf08P. -/
import Derived.Test.YtampniiehgimhaaGreatRows
import Derived.Test.YtampniiehgimhaaGreatBn17
import Derived.Test.YtampniiehgimhaaGreatBn14
import Derived.Test.YtampniiehgimhaaGreatBn9
import Derived.Deep.Cut
import Derived.Deep.CutBlock
import Derived.WalkKit
import Derived.WalkSpells
import Derived.WalkLawsBesides
import Derived.Deep.QuietTactic
import Derived.BigQuiet
import Derived.Laws.StructEq
import Derived.Deep.DeepFit
import Derived.StillTailTactics

/- ref08.Put -/
namespace Go.Proofs.YtampniiehgimhaaGreat
open Go.RowKit
theorem ins_loH {H : List Held} (hS : SrtL ltH H) {x : Held} {q : Nat} (hq : q - 1 < H.length) (hnl : ltH x H[q - 1] = false) (hno : ∀ a ∈ H, a.key ≠ x.key) : ∀ j (h : j < H.length), j < q → ltH H[j] x = true := by
  have h1 : ltH H[q - 1] x = true := by
    rcases keyH.co H[q - 1] x (hno _ (List.getElem_mem hq)) with h | h
    · exact h
    · rw [hnl] at h; cases h
  intro j hj hjq
  rcases Nat.lt_or_ge j (q - 1) with h | h
  · exact keyH.strict.trans _ _ _ (List.pairwise_iff_getElem.1 hS j (q - 1) hj hq h) h1
  · obtain rfl : j = q - 1 := by omega
    exact h1
theorem ins_okH {H : List Held} (hH : OkH H) {x : Held} (hx : x.acct.size ≤ maxLen) {q : Nat} : ∀ y ∈ H.take q ++ [x] ++ H.drop q, y.acct.size ≤ maxLen := by
  intro y hy
  rcases List.mem_append.1 hy with hy | hy
  · rcases List.mem_append.1 hy with hy | hy
    · exact (hH y (List.mem_of_mem_take hy)).2.2.2.2
    · simp only [List.mem_singleton] at hy; subst hy; exact hx
  · exact (hH y (List.mem_of_mem_drop hy)).2.2.2.2
theorem ltH_1 {x y : Held} (h : bless x.acct y.acct = true) : ltH x y = true := by unfold ltH; rw [h]; rfl
theorem ltH_2 {x y : Held} (h : bless x.acct y.acct = false) (h2 : x.acct ≠ y.acct) : ltH x y = false := by unfold ltH; rw [h, decide_eq_false h2]; rfl
theorem ltH_3 {x y : Held} (h : bless x.acct y.acct = false) (h2 : x.acct = y.acct) : ltH x y = decide (x.num < y.num) := by unfold ltH; rw [h, decide_eq_true h2]; rfl
set_option maxRecDepth 100000 in
set_option maxHeartbeats 16000000 in
theorem rhput_c (T : Nat → Prop) (g gc : Nat) (H : List Held) (L : List Ac) (x : Held) (w : World) (h : RhIs w T g H) (hc : RcIs w T gc L) (hL : OkA L) (hS : SrtL ltA L) (hl : L.length ≤ 65536) (hH : OkH H) (hSH : SrtL ltH H) (hn : H.length ≤ 60000) (h8 : (ofL H x.acct).length ≤ 8) (hx : R64 x.sum) (hxa : x.acct.size ≤ maxLen) (hTn : ∀ k, w.heap.size ≤ k → T k) (hTg : ¬ T g) (hTc : ¬ T gc) :
    Calls Tryz.prog 64 #[.pointer (some ⟨g, 0, none⟩), .pointer (some ⟨gc, 0, none⟩), x.v] w fun e w' => e = .returned (i64 (putH L H x).1) ∧ RcIs w' T gc (putH L H x).2.1 ∧ RhIs w' T g (putH L H x).2.2 ∧ Gr w w' (GH g gc) := by
  have hne := h.ne hc
  obtain ⟨R, hR⟩ : ∃ R, putH L H x = R := ⟨_, rfl⟩
  rw [hR]
  unfold putH at hR
  have HR := Lib.hid hR.symm
  have HL := Lib.hid hL
  have HS := Lib.hid hS
  have HH := Lib.hid hH
  have HSH := Lib.hid hSH
  have H8 := Lib.hid h8
  have Hx := Lib.hid hx
  have Hxa := Lib.hid hxa
  have HTn := Lib.hid hTn
  have HTg := Lib.hid hTg
  have HTc := Lib.hid hTc
  have Hlg := Lib.hid h.lt
  have Hlc := Lib.hid hc.lt
  have hb0 := (Below.refl w.heap.size w).alloc (Nat.le_refl _) (.cells #[i64 x.num, .string x.acct, i64 x.sum] 136)
  have h0 := h.later hb0
  have hc0 := hc.later hb0
  have hx0 := heap_alloc_new w (.cells #[i64 x.num, .string x.acct, i64 x.sum] 136)
  clear hR hL hS hH hSH h8 hx hxa hTn hTg hTc h hc
  by_cases hbad : x.num < 1 ∨ 9999 < x.num ∨ x.sum < 1
  · have HR1 := Lib.hid (show R = (1, L, H) by rw [HR.out, if_pos hbad])
    have H0 := Lib.hid h0
    have HC0 := Lib.hid hc0
    clear HR
    by_cases h1 : x.num < 1
    · have g1 : decide (x.num < 1) = true := decide_eq_true h1
      clear h1 hbad
      go_enter Tryz.func64, Tryz.ntmps64
      go_wp2
      go_ret
      exact ⟨by rw [HR1.out]; rfl, by rw [HR1.out]; exact HC0.out, by rw [HR1.out]; exact H0.out, Gr.of_below hb0 _⟩
    · have g1 : decide (x.num < 1) = false := decide_eq_false h1
      by_cases h2 : 9999 < x.num
      · have g2 : decide (9999 < x.num) = true := decide_eq_true h2
        clear h1 h2 hbad
        go_enter Tryz.func64, Tryz.ntmps64
        go_wp2
        go_ret
        exact ⟨by rw [HR1.out]; rfl, by rw [HR1.out]; exact HC0.out, by rw [HR1.out]; exact H0.out, Gr.of_below hb0 _⟩
      · have g2 : decide (9999 < x.num) = false := decide_eq_false h2
        have g3 : decide (x.sum < 1) = true := decide_eq_true ((hbad.resolve_left h1).resolve_left h2)
        clear h1 h2 hbad
        go_enter Tryz.func64, Tryz.ntmps64
        go_wp2
        go_ret
        exact ⟨by rw [HR1.out]; rfl, by rw [HR1.out]; exact HC0.out, by rw [HR1.out]; exact H0.out, Gr.of_below hb0 _⟩
  · have g1 : decide (x.num < 1) = false := decide_eq_false (fun e => hbad (.inl e))
    have g2 : decide (9999 < x.num) = false := decide_eq_false (fun e => hbad (.inr (.inl e)))
    have g3 : decide (x.sum < 1) = false := decide_eq_false (fun e => hbad (.inr (.inr e)))
    have HR1 := Lib.hid (show R = _ by rw [HR.out, if_neg hbad])
    have hA := Lib.hid (rhat_c T g H x.acct x.num _ h0 (by omega))
    have H0 := Lib.hid h0
    have HC0 := Lib.hid hc0
    clear HR hbad h0 hc0
    have n0 := cell_of_row _ w.heap.size 0 _ _ (0, 0) hx0
    have n1 := cell_of_row _ w.heap.size 1 _ _ (0, 0) hx0
    have n2 := cell_of_row _ w.heap.size 2 _ _ (0, 0) hx0
    simp only [List.getElem?_toArray, List.getElem?_cons_zero, List.getElem?_cons_succ] at n0 n1 n2
    rcases idxH_get (H := H) (k := x.acct) (n := x.num) with ⟨i1, i2⟩ | ⟨i, hi, i1, i2, i3⟩
    · have HR2 := Lib.hid (show R = _ by rw [HR1.out, show getK Held.key H x.key = none from i2, if_neg (by decide)])
      have Hno := Lib.hid (show ∀ a ∈ H, a.key ≠ x.key from getK_none.1 i2)
      have g4 : decide ((0 : Int) ≤ idxH H x.acct x.num) = false := decide_eq_false (by omega)
      generalize idxH H x.acct x.num = ix at *
      have hOf := Lib.hid (rhof_c T g H x.acct _ H0.out (by omega))
      clear HR1 i1 i2
      go_enter Tryz.func64, Tryz.ntmps64
      go_wp2_with fail
      generalize hw0 : w.alloc (.cells #[i64 x.num, .string x.acct, i64 x.sum] 136) = w0 at *
      have Hw0 := Lib.hid hw0
      clear hw0
      refine hA.out.mono ?_
      rintro e w1 ⟨rfl, rfl⟩
      clear hA
      go_wp2_with fail
      refine hOf.out.mono ?_
      rintro e w1 ⟨v, rfl, hO, hF⟩
      obtain ⟨A5, c5, rfl, -⟩ := hO.sl
      have hb1 := below_on hb0 (Nat.le_refl _) hF
      have H1 := Lib.hid (H0.out.later hF)
      have hc1 := HC0.out.later hF
      have hx1 := (hF.block _ (Array.getElem?_eq_some_iff.1 hx0).1).trans hx0
      have n0 := (hF.cell (p := ⟨w.heap.size, 0, none⟩) (World.block_lt_of_cell? _ _ n0)).trans n0
      have n1 := (hF.cell (p := ⟨w.heap.size, 1, none⟩) (World.block_lt_of_cell? _ _ n1)).trans n1
      have n2 := (hF.cell (p := ⟨w.heap.size, 2, none⟩) (World.block_lt_of_cell? _ _ n2)).trans n2
      clear hF hO hOf H0 HC0 hx0 hb0
      have hm8 := H8.out
      generalize (ofL H x.acct).length = m at *
      by_cases hm : m = 8
      · have g5 : decide ((8 : Int) ≤ (m : Int)) = true := decide_eq_true (by omega)
        have HR3 := Lib.hid (show R = (5, L, H) by rw [HR2.out, if_pos hm])
        have HC1 := Lib.hid hc1
        clear HR2 hm hc1
        go_wp2
        go_ret
        exact ⟨by rw [HR3.out]; rfl, by rw [HR3.out]; exact HC1.out, by rw [HR3.out]; exact H1.out, Gr.of_below hb1 _⟩
      · have g5 : decide ((8 : Int) ≤ (m : Int)) = false := decide_eq_false (by omega)
        have HR3 := Lib.hid (show R = _ by rw [HR2.out, if_neg hm])
        have hAs := Lib.hid (raside_c T gc L x.acct x.sum w1 hc1 hl HL.out HS.out Hx.out (fun k hk => HTn.out k (Nat.le_trans hb1.size hk)) HTc.out)
        generalize turnL (asiD x.sum) L x.acct x.sum = tt at *
        obtain ⟨er, L2⟩ := tt
        dsimp only at hAs HR3
        clear HR2 hm hm8 hc1 H8
        go_wp2_with fail
        refine hAs.out.mono ?_
        rintro e w2 ⟨rfl, q1, q2⟩
        have hG : Gr w w2 (GH g gc) := (Gr.of_below hb1 (GH g gc)).trans ((Gr.of_grown q2).mono (fun k _ e => .inr (by injection e with e; exact e.symm))) (fun _ e => .inl e)
        have hh2 := H1.out.kept (Gr.of_grown q2) (fun e => hne (by injection e with e; exact e.symm)) (fun k hk e => HTc.out (by injection e with e; rw [e]; exact hk))
        have hx2 := (q2.block _ (Array.getElem?_eq_some_iff.1 hx1).1 (fun e => by injection e with e; have := Hlc.out; omega)).trans hx1
        have Hsz := Lib.hid (show w.heap.size ≤ w2.heap.size from hG.size)
        clear hAs q2 hx1 hb1 H1 n0 n1 n2
        by_cases he : er = 0
        · have g6 : (er != 0) = false := by rw [he]; rfl
          have HR4 := Lib.hid (show R = (er, L2, insB ltH x H) by rw [HR3.out, if_pos he])
          have Q1 := Lib.hid q1
          have H2 := Lib.hid hh2
          obtain ⟨A, c, hgc, hs, hf⟩ := hh2
          have c0 := cell_of_row _ g 0 _ _ (0, 0) hgc
          have n0 := cell_of_row _ w.heap.size 0 _ _ (0, 0) hx2
          have n1 := cell_of_row _ w.heap.size 1 _ _ (0, 0) hx2
          have n2 := cell_of_row _ w.heap.size 2 _ _ (0, 0) hx2
          simp only [List.getElem?_toArray, List.getElem?_cons_zero, List.getElem?_cons_succ] at c0 n0 n1 n2
          have Hc := Lib.hid hgc
          have Hs := Lib.hid hs
          have hlg2 : g < w2.heap.size := (Array.getElem?_eq_some_iff.1 hgc).1
          have hlx2 : w.heap.size < w2.heap.size := (Array.getElem?_eq_some_iff.1 hx2).1
          have hlc := hs.1
          clear hgc hs HR3 q1 hx2
          rw [he] at HR4
          clear he
          go_upto_block 0 with fail
          go_cut [8] from 49 to 95 (fun s8 wx => ∃ q : Nat, s8 = i64 q ∧ q ≤ H.length ∧ (∀ j (h : j < H.length), q ≤ j → ltH x H[j] = true) ∧ (∀ j (h : j < H.length), j < q → ltH H[j] x = true) ∧ Below w2.heap.size w2 wx)
          case first =>
            go_wp2_with fail
            go_loopw [8] (fun i wr => ∃ q : Nat, i = i64 q ∧ q ≤ H.length ∧ (∀ j (h : j < H.length), q ≤ j → ltH x H[j] = true) ∧ Below w2.heap.size w2 wr) (fun i _ => (intOf i).toNat)
            case atStart => exact ⟨H.length, rfl, Nat.le_refl _, fun j h1 h2 => by omega, Below.refl _ _⟩
            case round =>
             obtain ⟨q, rfl, hq, hup, hB⟩ := hrel
             have Hup := Lib.hid hup
             clear hup
             rcases Nat.eq_zero_or_pos q with hq0 | hq0
             · have g7 : decide ((0 : Int) < (q : Int)) = false := decide_eq_false (by omega)
               have g8 : decide (0 < q) = false := decide_eq_false (by omega)
               have Hq0 := Lib.hid hq0
               clear hq0 hf
               go_wp2_with fail
               refine wp_region_noPanic ?_
               refine wp_region_l 43 (fun _ => True) (by kernel_rfl) (trivial) (fun hH => ?_)
               refine tkY 0 (v := ?v20001) ?y20001 ?r20001
               case y20001 => (intro W hW; go_simp; try with_reducible rfl)
               try simp only [List.set]
               refine tkY 1 (v := ?v20002) ?y20002 ?r20002
               case y20002 => (intro W hW; go_simp; try with_reducible rfl)
               try simp only [List.set]
               refine tkY 2 (v := ?v20003) ?y20003 ?r20003
               case y20003 => (intro W hW; go_simp; try with_reducible rfl)
               try simp only [List.set]
               refine tkN 3 ?_
               try simp only [List.set]
               refine tkN 4 ?_
               try simp only [List.set]
               refine tkN 5 ?_
               try simp only [List.set]
               refine tkN 6 ?_
               try simp only [List.set]
               refine tkN 7 ?_
               try simp only [List.set]
               refine tkN 8 ?_
               try simp only [List.set]
               refine tkN 9 ?_
               try simp only [List.set]
               refine tkN 10 ?_
               try simp only [List.set]
               refine tkN 11 ?_
               try simp only [List.set]
               refine tkN 12 ?_
               try simp only [List.set]
               refine tkN 13 ?_
               try simp only [List.set]
               refine tkN 14 ?_
               try simp only [List.set]
               refine tkN 15 ?_
               try simp only [List.set]
               refine tkN 16 ?_
               try simp only [List.set]
               refine tkN 17 ?_
               try simp only [List.set]
               refine tkN 18 ?_
               try simp only [List.set]
               refine tkN 19 ?_
               try simp only [List.set]
               refine tkN 20 ?_
               try simp only [List.set]
               refine tkN 21 ?_
               try simp only [List.set]
               refine tkN 22 ?_
               try simp only [List.set]
               refine tkN 23 ?_
               try simp only [List.set]
               refine tkN 24 ?_
               try simp only [List.set]
               refine tkN 25 ?_
               try simp only [List.set]
               refine tkN 26 ?_
               try simp only [List.set]
               refine tkN 27 ?_
               try simp only [List.set]
               refine tkN 28 ?_
               try simp only [List.set]
               refine tkN 29 ?_
               try simp only [List.set]
               refine tkN 30 ?_
               try simp only [List.set]
               refine tkN 31 ?_
               try simp only [List.set]
               refine tkN 32 ?_
               try simp only [List.set]
               refine tkN 33 ?_
               try simp only [List.set]
               refine tkN 34 ?_
               try simp only [List.set]
               refine tkN 35 ?_
               try simp only [List.set]
               refine tkN 36 ?_
               try simp only [List.set]
               refine tkN 37 ?_
               try simp only [List.set]
               refine tkN 38 ?_
               try simp only [List.set]
               refine tkN 39 ?_
               try simp only [List.set]
               refine tkN 40 ?_
               try simp only [List.set]
               refine tkN 41 ?_
               try simp only [List.set]
               refine tkN 42 ?_
               try simp only [List.set]
               refine wpAnyL_last (by kernel_rfl) rfl (fun K hK => ?_)
               go_simp
               refine hK.out _ _ ?_
               clear hK K
               try simp only [Act.put, List.getElem_toArray, List.getElem_cons_zero, List.getElem_cons_succ, List.setIfInBounds_toArray, List.set_cons_zero, List.set_cons_succ]
               refine wpAnyL_done (by kernel_rfl) ?_ _
               refine NoPanic.normal ?_
               repeat go_step
               go_meet
               exact ⟨q, rfl, hq, Hup.out, fun j h hj => absurd hj (by have := Hq0.out; omega), hB.drew⟩
             · have g7 : decide ((0 : Int) < (q : Int)) = true := decide_eq_true (by omega)
               have g8 : decide (0 < q) = true := decide_eq_true hq0
               have hq1 : q - 1 < H.length := by omega
               obtain ⟨b, o, rfl, hb, hsz, d0, d1, d2⟩ := Hs.out.held hq1
               have hRa := Lib.hid fun W => rahead_c x.acct H[q - 1].acct Hxa.out hsz W
               have e1 : IntKind.i64.wrap ((q : Int) - 1) = ((q - 1 : Nat) : Int) := by rw [IntKind.wrap_i64]; omega
               have i0 : (0 : Int) ≤ ((q - 1 : Nat) : Int) := by omega
               have i1 : ((q - 1 : Nat) : Int) < (H.length : Int) := by omega
               have Hy := Lib.hid (show ∀ j (h : j < H.length), j = q - 1 → H[j] = H[q - 1] from fun j h e => by subst e; rfl)
               obtain ⟨y, hy⟩ : ∃ y, H[q - 1] = y := ⟨_, rfl⟩
               rw [hy] at hRa d0 d1 d2 Hy
               have Hyy := Lib.hid hy
               have hSS := Lib.hid (show ∀ V, Below w2.heap.size w2 V → (fun V : World => V.cell? ⟨w.heap.size, 0, none⟩ = some (i64 x.num) ∧ V.cell? ⟨w.heap.size, 1, none⟩ = some (.string x.acct) ∧ V.cell? ⟨g, 0, none⟩ = some (.slice (some ⟨b, o, none⟩) H.length c) ∧ V.cell? ⟨b, o + (q - 1) * 3, none⟩ = some (i64 y.num) ∧ V.cell? ⟨b, o + (q - 1) * 3 + 1, none⟩ = some (.string y.acct)) V from fun V h => ⟨(h.cell (World.block_lt_of_cell? _ _ n0)).trans n0, (h.cell (World.block_lt_of_cell? _ _ n1)).trans n1, (h.cell (World.block_lt_of_cell? _ _ c0)).trans c0, (h.cell (World.block_lt_of_cell? _ _ d0)).trans d0, (h.cell (World.block_lt_of_cell? _ _ d1)).trans d1⟩)
               clear hsz hf hy d0 d1 d2
               cases hbl : bless x.acct y.acct with
               | true =>
                 have Hlt := Lib.hid (ltH_1 hbl)
                 rw [hbl] at hRa
                 clear hbl
                 go_wp2_with fail
                 refine wp_region_noPanic ?_
                 refine wp_region_l 43 (fun V => V.cell? ⟨w.heap.size, 0, none⟩ = some (i64 x.num) ∧ V.cell? ⟨w.heap.size, 1, none⟩ = some (.string x.acct) ∧ V.cell? ⟨g, 0, none⟩ = some (.slice (some ⟨b, o, none⟩) H.length c) ∧ V.cell? ⟨b, o + (q - 1) * 3, none⟩ = some (i64 y.num) ∧ V.cell? ⟨b, o + (q - 1) * 3 + 1, none⟩ = some (.string y.acct)) (by kernel_rfl) (hSS.out _ hB.drew) (fun hH => ?_)
                 refine tkY 0 (v := ?v20044) ?y20044 ?r20044
                 case y20044 => (intro W hW; go_simp; try with_reducible rfl)
                 try simp only [List.set]
                 refine tkY 1 (v := ?v20045) ?y20045 ?r20045
                 case y20045 => (intro W hW; go_simp; try with_reducible rfl)
                 try simp only [List.set]
                 refine tkY 2 (v := ?v20046) ?y20046 ?r20046
                 case y20046 => (intro W hW; go_simp; try with_reducible rfl)
                 try simp only [List.set]
                 refine tkY 3 (v := ?v20047) ?y20047 ?r20047
                 case y20047 => (intro W hW; go_simp; try with_reducible rfl)
                 try simp only [List.set]
                 refine tkY 4 (v := ?v20048) ?y20048 ?r20048
                 case y20048 => (intro W hW; go_simp; try with_reducible rfl)
                 try simp only [List.set]
                 refine tkY 5 (v := ?v20049) ?y20049 ?r20049
                 case y20049 => (intro W hW; go_simp; try with_reducible rfl)
                 try simp only [List.set]
                 refine tkY 6 (v := ?v20050) ?y20050 ?r20050
                 case y20050 => (intro W hW; go_simp; try with_reducible rfl)
                 try simp only [List.set]
                 refine tkY 7 (v := ?v20051) ?y20051 ?r20051
                 case y20051 => (intro W hW; go_simp; try with_reducible rfl)
                 try simp only [List.set]
                 refine tkY 8 (v := ?v20052) ?y20052 ?r20052
                 case y20052 => (intro W hW; go_simp; try with_reducible rfl)
                 try simp only [List.set]
                 refine tkY 9 (v := ?v20053) ?y20053 ?r20053
                 case y20053 => (intro W hW; go_simp; try with_reducible rfl)
                 try simp only [List.set]
                 refine tkY 10 (v := ?v20054) ?y20054 ?r20054
                 case y20054 => (intro W hW; go_simp; try with_reducible rfl)
                 try simp only [List.set]
                 refine tkY 11 (v := ?v20055) ?y20055 ?r20055
                 case y20055 => (intro W hW; go_simp; try with_reducible rfl)
                 try simp only [List.set]
                 refine tkY 12 (v := ?v20056) ?y20056 ?r20056
                 case y20056 => (intro W hW; go_simp; try with_reducible rfl)
                 try simp only [List.set]
                 refine tkY 13 (v := ?v20057) ?y20057 ?r20057
                 case y20057 => (intro W hW; go_simp; try with_reducible rfl)
                 try simp only [List.set]
                 refine wpAnyL_one (i := 14) (by kernel_rfl) rfl (by decide) (fun K hK => ?_)
                 refine oper_call2 93 53 62 _ rfl _ _ rfl rfl (enters_of Tryz.func93 (by kernel_rfl) rfl) ?_
                 refine (hRa.out _).mono ?_
                 rintro e wq ⟨rfl, hF⟩
                 refine ⟨_, rfl, ?_⟩
                 have hB := below_on hB.drew (Nat.le_refl _) hF
                 clear hF
                 refine hK.out _ _ (hSS.out _ hB) (fun hH => ?_)
                 clear hK K
                 try simp only [Act.put, List.getElem_toArray, List.getElem_cons_zero, List.getElem_cons_succ, List.setIfInBounds_toArray, List.set_cons_zero, List.set_cons_succ]
                 refine tkY 15 (v := ?v20058) ?y20058 ?r20058
                 case y20058 => (intro W hW; go_simp; try with_reducible rfl)
                 try simp only [List.set]
                 refine tkN 16 ?_
                 try simp only [List.set]
                 refine tkN 17 ?_
                 try simp only [List.set]
                 refine tkN 18 ?_
                 try simp only [List.set]
                 refine tkN 19 ?_
                 try simp only [List.set]
                 refine tkN 20 ?_
                 try simp only [List.set]
                 refine tkN 21 ?_
                 try simp only [List.set]
                 refine tkN 22 ?_
                 try simp only [List.set]
                 refine tkN 23 ?_
                 try simp only [List.set]
                 refine tkN 24 ?_
                 try simp only [List.set]
                 refine tkN 25 ?_
                 try simp only [List.set]
                 refine tkN 26 ?_
                 try simp only [List.set]
                 refine tkN 27 ?_
                 try simp only [List.set]
                 refine tkN 28 ?_
                 try simp only [List.set]
                 refine tkN 29 ?_
                 try simp only [List.set]
                 refine tkN 30 ?_
                 try simp only [List.set]
                 refine tkN 31 ?_
                 try simp only [List.set]
                 refine tkN 32 ?_
                 try simp only [List.set]
                 refine tkN 33 ?_
                 try simp only [List.set]
                 refine tkN 34 ?_
                 try simp only [List.set]
                 refine tkN 35 ?_
                 try simp only [List.set]
                 refine tkN 36 ?_
                 try simp only [List.set]
                 refine tkN 37 ?_
                 try simp only [List.set]
                 refine tkN 38 ?_
                 try simp only [List.set]
                 refine tkN 39 ?_
                 try simp only [List.set]
                 refine tkN 40 ?_
                 try simp only [List.set]
                 refine tkN 41 ?_
                 try simp only [List.set]
                 refine tkY 42 (v := ?v20085) ?y20085 ?r20085
                 case y20085 => (intro W hW; go_simp; try with_reducible rfl)
                 try simp only [List.set]
                 refine wpAnyL_last (by kernel_rfl) rfl (fun K hK => ?_)
                 go_simp
                 refine hK.out _ _ ?_
                 clear hK K
                 try simp only [Act.put, List.getElem_toArray, List.getElem_cons_zero, List.getElem_cons_succ, List.setIfInBounds_toArray, List.set_cons_zero, List.set_cons_succ]
                 refine wpAnyL_done (by kernel_rfl) ?_ _
                 refine NoPanic.normal ?_
                 go_wp2
                 go_roundw
                 case rel => exact ⟨q - 1, by go_num, by omega, fun j h1 h2 => by
                     rcases Nat.eq_or_lt_of_le h2 with h2 | h2
                     · rw [Hy.out j h1 h2.symm]; exact Hlt.out
                     · exact Hup.out j h1 (by omega), hB⟩
                 case measure => simp [intOf]; omega
               | false =>
                 rw [hbl] at hRa
                 by_cases hae : x.acct = y.acct
                 · have e2 := beqS_of_eq hae
                   by_cases hnn : x.num < y.num
                   · have g9 : decide (x.num < y.num) = true := decide_eq_true hnn
                     have Hlt := Lib.hid (show ltH x y = true by rw [ltH_3 hbl hae, g9])
                     clear hbl hae hnn
                     go_wp2_with fail
                     refine wp_region_noPanic ?_
                     refine wp_region_l 43 (fun V => V.cell? ⟨w.heap.size, 0, none⟩ = some (i64 x.num) ∧ V.cell? ⟨w.heap.size, 1, none⟩ = some (.string x.acct) ∧ V.cell? ⟨g, 0, none⟩ = some (.slice (some ⟨b, o, none⟩) H.length c) ∧ V.cell? ⟨b, o + (q - 1) * 3, none⟩ = some (i64 y.num) ∧ V.cell? ⟨b, o + (q - 1) * 3 + 1, none⟩ = some (.string y.acct)) (by kernel_rfl) (hSS.out _ hB.drew) (fun hH => ?_)
                     refine tkY 0 (v := ?v20128) ?y20128 ?r20128
                     case y20128 => (intro W hW; go_simp; try with_reducible rfl)
                     try simp only [List.set]
                     refine tkY 1 (v := ?v20129) ?y20129 ?r20129
                     case y20129 => (intro W hW; go_simp; try with_reducible rfl)
                     try simp only [List.set]
                     refine tkY 2 (v := ?v20130) ?y20130 ?r20130
                     case y20130 => (intro W hW; go_simp; try with_reducible rfl)
                     try simp only [List.set]
                     refine tkY 3 (v := ?v20131) ?y20131 ?r20131
                     case y20131 => (intro W hW; go_simp; try with_reducible rfl)
                     try simp only [List.set]
                     refine tkY 4 (v := ?v20132) ?y20132 ?r20132
                     case y20132 => (intro W hW; go_simp; try with_reducible rfl)
                     try simp only [List.set]
                     refine tkY 5 (v := ?v20133) ?y20133 ?r20133
                     case y20133 => (intro W hW; go_simp; try with_reducible rfl)
                     try simp only [List.set]
                     refine tkY 6 (v := ?v20134) ?y20134 ?r20134
                     case y20134 => (intro W hW; go_simp; try with_reducible rfl)
                     try simp only [List.set]
                     refine tkY 7 (v := ?v20135) ?y20135 ?r20135
                     case y20135 => (intro W hW; go_simp; try with_reducible rfl)
                     try simp only [List.set]
                     refine tkY 8 (v := ?v20136) ?y20136 ?r20136
                     case y20136 => (intro W hW; go_simp; try with_reducible rfl)
                     try simp only [List.set]
                     refine tkY 9 (v := ?v20137) ?y20137 ?r20137
                     case y20137 => (intro W hW; go_simp; try with_reducible rfl)
                     try simp only [List.set]
                     refine tkY 10 (v := ?v20138) ?y20138 ?r20138
                     case y20138 => (intro W hW; go_simp; try with_reducible rfl)
                     try simp only [List.set]
                     refine tkY 11 (v := ?v20139) ?y20139 ?r20139
                     case y20139 => (intro W hW; go_simp; try with_reducible rfl)
                     try simp only [List.set]
                     refine tkY 12 (v := ?v20140) ?y20140 ?r20140
                     case y20140 => (intro W hW; go_simp; try with_reducible rfl)
                     try simp only [List.set]
                     refine tkY 13 (v := ?v20141) ?y20141 ?r20141
                     case y20141 => (intro W hW; go_simp; try with_reducible rfl)
                     try simp only [List.set]
                     refine wpAnyL_one (i := 14) (by kernel_rfl) rfl (by decide) (fun K hK => ?_)
                     refine oper_call2 93 53 62 _ rfl _ _ rfl rfl (enters_of Tryz.func93 (by kernel_rfl) rfl) ?_
                     refine (hRa.out _).mono ?_
                     rintro e wq ⟨rfl, hF⟩
                     refine ⟨_, rfl, ?_⟩
                     have hB := below_on hB.drew (Nat.le_refl _) hF
                     clear hF
                     refine hK.out _ _ (hSS.out _ hB) (fun hH => ?_)
                     clear hK K
                     try simp only [Act.put, List.getElem_toArray, List.getElem_cons_zero, List.getElem_cons_succ, List.setIfInBounds_toArray, List.set_cons_zero, List.set_cons_succ]
                     refine tkY 15 (v := ?v20142) ?y20142 ?r20142
                     case y20142 => (intro W hW; go_simp; try with_reducible rfl)
                     try simp only [List.set]
                     refine tkY 16 (v := ?v20143) ?y20143 ?r20143
                     case y20143 => (intro W hW; go_simp; try with_reducible rfl)
                     try simp only [List.set]
                     refine tkY 17 (v := ?v20144) ?y20144 ?r20144
                     case y20144 => (intro W hW; go_simp; try with_reducible rfl)
                     try simp only [List.set]
                     refine tkY 18 (v := ?v20145) ?y20145 ?r20145
                     case y20145 => (intro W hW; go_simp; try with_reducible rfl)
                     try simp only [List.set]
                     refine tkY 19 (v := ?v20146) ?y20146 ?r20146
                     case y20146 => (intro W hW; go_simp; try with_reducible rfl)
                     try simp only [List.set]
                     refine tkY 20 (v := ?v20147) ?y20147 ?r20147
                     case y20147 => (intro W hW; go_simp; try with_reducible rfl)
                     try simp only [List.set]
                     refine tkY 21 (v := ?v20148) ?y20148 ?r20148
                     case y20148 => (intro W hW; go_simp; try with_reducible rfl)
                     try simp only [List.set]
                     refine tkY 22 (v := ?v20149) ?y20149 ?r20149
                     case y20149 => (intro W hW; go_simp; try with_reducible rfl)
                     try simp only [List.set]
                     refine tkY 23 (v := ?v20150) ?y20150 ?r20150
                     case y20150 => (intro W hW; go_simp; try with_reducible rfl)
                     try simp only [List.set]
                     refine tkY 24 (v := ?v20151) ?y20151 ?r20151
                     case y20151 => (intro W hW; go_simp; try with_reducible rfl)
                     try simp only [List.set]
                     refine tkY 25 (v := ?v20152) ?y20152 ?r20152
                     case y20152 => (intro W hW; go_simp; try with_reducible rfl)
                     try simp only [List.set]
                     refine tkY 26 (v := ?v20153) ?y20153 ?r20153
                     case y20153 => (intro W hW; go_simp; try with_reducible rfl)
                     try simp only [List.set]
                     refine tkY 27 (v := ?v20154) ?y20154 ?r20154
                     case y20154 => (intro W hW; go_simp; try with_reducible rfl)
                     try simp only [List.set]
                     refine tkY 28 (v := ?v20155) ?y20155 ?r20155
                     case y20155 => (intro W hW; go_simp; try with_reducible rfl)
                     try simp only [List.set]
                     refine tkY 29 (v := ?v20156) ?y20156 ?r20156
                     case y20156 => (intro W hW; go_simp; try with_reducible rfl)
                     try simp only [List.set]
                     refine tkY 30 (v := ?v20157) ?y20157 ?r20157
                     case y20157 => (intro W hW; go_simp; try with_reducible rfl)
                     try simp only [List.set]
                     refine tkY 31 (v := ?v20158) ?y20158 ?r20158
                     case y20158 => (intro W hW; go_simp; try with_reducible rfl)
                     try simp only [List.set]
                     refine tkY 32 (v := ?v20159) ?y20159 ?r20159
                     case y20159 => (intro W hW; go_simp; try with_reducible rfl)
                     try simp only [List.set]
                     refine tkY 33 (v := ?v20160) ?y20160 ?r20160
                     case y20160 => (intro W hW; go_simp; try with_reducible rfl)
                     try simp only [List.set]
                     refine tkY 34 (v := ?v20161) ?y20161 ?r20161
                     case y20161 => (intro W hW; go_simp; try with_reducible rfl)
                     try simp only [List.set]
                     refine tkY 35 (v := ?v20162) ?y20162 ?r20162
                     case y20162 => (intro W hW; go_simp; try with_reducible rfl)
                     try simp only [List.set]
                     refine tkY 36 (v := ?v20163) ?y20163 ?r20163
                     case y20163 => (intro W hW; go_simp; try with_reducible rfl)
                     try simp only [List.set]
                     refine tkY 37 (v := ?v20164) ?y20164 ?r20164
                     case y20164 => (intro W hW; go_simp; try with_reducible rfl)
                     try simp only [List.set]
                     refine tkY 38 (v := ?v20165) ?y20165 ?r20165
                     case y20165 => (intro W hW; go_simp; try with_reducible rfl)
                     try simp only [List.set]
                     refine tkY 39 (v := ?v20166) ?y20166 ?r20166
                     case y20166 => (intro W hW; go_simp; try with_reducible rfl)
                     try simp only [List.set]
                     refine tkY 40 (v := ?v20167) ?y20167 ?r20167
                     case y20167 => (intro W hW; go_simp; try with_reducible rfl)
                     try simp only [List.set]
                     refine tkY 41 (v := ?v20168) ?y20168 ?r20168
                     case y20168 => (intro W hW; go_simp; try with_reducible rfl)
                     try simp only [List.set]
                     refine tkY 42 (v := ?v20169) ?y20169 ?r20169
                     case y20169 => (intro W hW; go_simp; try with_reducible rfl)
                     try simp only [List.set]
                     refine wpAnyL_last (by kernel_rfl) rfl (fun K hK => ?_)
                     go_simp
                     refine hK.out _ _ ?_
                     clear hK K
                     try simp only [Act.put, List.getElem_toArray, List.getElem_cons_zero, List.getElem_cons_succ, List.setIfInBounds_toArray, List.set_cons_zero, List.set_cons_succ]
                     refine wpAnyL_done (by kernel_rfl) ?_ _
                     refine NoPanic.normal ?_
                     go_wp2
                     go_roundw
                     case rel => exact ⟨q - 1, by go_num, by omega, fun j h1 h2 => by
                         rcases Nat.eq_or_lt_of_le h2 with h2 | h2
                         · rw [Hy.out j h1 h2.symm]; exact Hlt.out
                         · exact Hup.out j h1 (by omega), hB⟩
                     case measure => simp [intOf]; omega
                   · have g9 : decide (x.num < y.num) = false := decide_eq_false hnn
                     have Hlt := Lib.hid (show ltH x y = false by rw [ltH_3 hbl hae, g9])
                     clear hbl hae hnn
                     go_wp2_with fail
                     refine wp_region_noPanic ?_
                     refine wp_region_l 43 (fun V => V.cell? ⟨w.heap.size, 0, none⟩ = some (i64 x.num) ∧ V.cell? ⟨w.heap.size, 1, none⟩ = some (.string x.acct) ∧ V.cell? ⟨g, 0, none⟩ = some (.slice (some ⟨b, o, none⟩) H.length c) ∧ V.cell? ⟨b, o + (q - 1) * 3, none⟩ = some (i64 y.num) ∧ V.cell? ⟨b, o + (q - 1) * 3 + 1, none⟩ = some (.string y.acct)) (by kernel_rfl) (hSS.out _ hB.drew) (fun hH => ?_)
                     refine tkY 0 (v := ?v20170) ?y20170 ?r20170
                     case y20170 => (intro W hW; go_simp; try with_reducible rfl)
                     try simp only [List.set]
                     refine tkY 1 (v := ?v20171) ?y20171 ?r20171
                     case y20171 => (intro W hW; go_simp; try with_reducible rfl)
                     try simp only [List.set]
                     refine tkY 2 (v := ?v20172) ?y20172 ?r20172
                     case y20172 => (intro W hW; go_simp; try with_reducible rfl)
                     try simp only [List.set]
                     refine tkY 3 (v := ?v20173) ?y20173 ?r20173
                     case y20173 => (intro W hW; go_simp; try with_reducible rfl)
                     try simp only [List.set]
                     refine tkY 4 (v := ?v20174) ?y20174 ?r20174
                     case y20174 => (intro W hW; go_simp; try with_reducible rfl)
                     try simp only [List.set]
                     refine tkY 5 (v := ?v20175) ?y20175 ?r20175
                     case y20175 => (intro W hW; go_simp; try with_reducible rfl)
                     try simp only [List.set]
                     refine tkY 6 (v := ?v20176) ?y20176 ?r20176
                     case y20176 => (intro W hW; go_simp; try with_reducible rfl)
                     try simp only [List.set]
                     refine tkY 7 (v := ?v20177) ?y20177 ?r20177
                     case y20177 => (intro W hW; go_simp; try with_reducible rfl)
                     try simp only [List.set]
                     refine tkY 8 (v := ?v20178) ?y20178 ?r20178
                     case y20178 => (intro W hW; go_simp; try with_reducible rfl)
                     try simp only [List.set]
                     refine tkY 9 (v := ?v20179) ?y20179 ?r20179
                     case y20179 => (intro W hW; go_simp; try with_reducible rfl)
                     try simp only [List.set]
                     refine tkY 10 (v := ?v20180) ?y20180 ?r20180
                     case y20180 => (intro W hW; go_simp; try with_reducible rfl)
                     try simp only [List.set]
                     refine tkY 11 (v := ?v20181) ?y20181 ?r20181
                     case y20181 => (intro W hW; go_simp; try with_reducible rfl)
                     try simp only [List.set]
                     refine tkY 12 (v := ?v20182) ?y20182 ?r20182
                     case y20182 => (intro W hW; go_simp; try with_reducible rfl)
                     try simp only [List.set]
                     refine tkY 13 (v := ?v20183) ?y20183 ?r20183
                     case y20183 => (intro W hW; go_simp; try with_reducible rfl)
                     try simp only [List.set]
                     refine wpAnyL_one (i := 14) (by kernel_rfl) rfl (by decide) (fun K hK => ?_)
                     refine oper_call2 93 53 62 _ rfl _ _ rfl rfl (enters_of Tryz.func93 (by kernel_rfl) rfl) ?_
                     refine (hRa.out _).mono ?_
                     rintro e wq ⟨rfl, hF⟩
                     refine ⟨_, rfl, ?_⟩
                     have hB := below_on hB.drew (Nat.le_refl _) hF
                     clear hF
                     refine hK.out _ _ (hSS.out _ hB) (fun hH => ?_)
                     clear hK K
                     try simp only [Act.put, List.getElem_toArray, List.getElem_cons_zero, List.getElem_cons_succ, List.setIfInBounds_toArray, List.set_cons_zero, List.set_cons_succ]
                     refine tkY 15 (v := ?v20184) ?y20184 ?r20184
                     case y20184 => (intro W hW; go_simp; try with_reducible rfl)
                     try simp only [List.set]
                     refine tkY 16 (v := ?v20185) ?y20185 ?r20185
                     case y20185 => (intro W hW; go_simp; try with_reducible rfl)
                     try simp only [List.set]
                     refine tkY 17 (v := ?v20186) ?y20186 ?r20186
                     case y20186 => (intro W hW; go_simp; try with_reducible rfl)
                     try simp only [List.set]
                     refine tkY 18 (v := ?v20187) ?y20187 ?r20187
                     case y20187 => (intro W hW; go_simp; try with_reducible rfl)
                     try simp only [List.set]
                     refine tkY 19 (v := ?v20188) ?y20188 ?r20188
                     case y20188 => (intro W hW; go_simp; try with_reducible rfl)
                     try simp only [List.set]
                     refine tkY 20 (v := ?v20189) ?y20189 ?r20189
                     case y20189 => (intro W hW; go_simp; try with_reducible rfl)
                     try simp only [List.set]
                     refine tkY 21 (v := ?v20190) ?y20190 ?r20190
                     case y20190 => (intro W hW; go_simp; try with_reducible rfl)
                     try simp only [List.set]
                     refine tkY 22 (v := ?v20191) ?y20191 ?r20191
                     case y20191 => (intro W hW; go_simp; try with_reducible rfl)
                     try simp only [List.set]
                     refine tkY 23 (v := ?v20192) ?y20192 ?r20192
                     case y20192 => (intro W hW; go_simp; try with_reducible rfl)
                     try simp only [List.set]
                     refine tkY 24 (v := ?v20193) ?y20193 ?r20193
                     case y20193 => (intro W hW; go_simp; try with_reducible rfl)
                     try simp only [List.set]
                     refine tkY 25 (v := ?v20194) ?y20194 ?r20194
                     case y20194 => (intro W hW; go_simp; try with_reducible rfl)
                     try simp only [List.set]
                     refine tkY 26 (v := ?v20195) ?y20195 ?r20195
                     case y20195 => (intro W hW; go_simp; try with_reducible rfl)
                     try simp only [List.set]
                     refine tkY 27 (v := ?v20196) ?y20196 ?r20196
                     case y20196 => (intro W hW; go_simp; try with_reducible rfl)
                     try simp only [List.set]
                     refine tkY 28 (v := ?v20197) ?y20197 ?r20197
                     case y20197 => (intro W hW; go_simp; try with_reducible rfl)
                     try simp only [List.set]
                     refine tkY 29 (v := ?v20198) ?y20198 ?r20198
                     case y20198 => (intro W hW; go_simp; try with_reducible rfl)
                     try simp only [List.set]
                     refine tkY 30 (v := ?v20199) ?y20199 ?r20199
                     case y20199 => (intro W hW; go_simp; try with_reducible rfl)
                     try simp only [List.set]
                     refine tkY 31 (v := ?v20200) ?y20200 ?r20200
                     case y20200 => (intro W hW; go_simp; try with_reducible rfl)
                     try simp only [List.set]
                     refine tkY 32 (v := ?v20201) ?y20201 ?r20201
                     case y20201 => (intro W hW; go_simp; try with_reducible rfl)
                     try simp only [List.set]
                     refine tkY 33 (v := ?v20202) ?y20202 ?r20202
                     case y20202 => (intro W hW; go_simp; try with_reducible rfl)
                     try simp only [List.set]
                     refine tkY 34 (v := ?v20203) ?y20203 ?r20203
                     case y20203 => (intro W hW; go_simp; try with_reducible rfl)
                     try simp only [List.set]
                     refine tkY 35 (v := ?v20204) ?y20204 ?r20204
                     case y20204 => (intro W hW; go_simp; try with_reducible rfl)
                     try simp only [List.set]
                     refine tkY 36 (v := ?v20205) ?y20205 ?r20205
                     case y20205 => (intro W hW; go_simp; try with_reducible rfl)
                     try simp only [List.set]
                     refine tkY 37 (v := ?v20206) ?y20206 ?r20206
                     case y20206 => (intro W hW; go_simp; try with_reducible rfl)
                     try simp only [List.set]
                     refine tkY 38 (v := ?v20207) ?y20207 ?r20207
                     case y20207 => (intro W hW; go_simp; try with_reducible rfl)
                     try simp only [List.set]
                     refine tkY 39 (v := ?v20208) ?y20208 ?r20208
                     case y20208 => (intro W hW; go_simp; try with_reducible rfl)
                     try simp only [List.set]
                     refine tkY 40 (v := ?v20209) ?y20209 ?r20209
                     case y20209 => (intro W hW; go_simp; try with_reducible rfl)
                     try simp only [List.set]
                     refine tkY 41 (v := ?v20210) ?y20210 ?r20210
                     case y20210 => (intro W hW; go_simp; try with_reducible rfl)
                     try simp only [List.set]
                     refine tkY 42 (v := ?v20211) ?y20211 ?r20211
                     case y20211 => (intro W hW; go_simp; try with_reducible rfl)
                     try simp only [List.set]
                     refine wpAnyL_last (by kernel_rfl) rfl (fun K hK => ?_)
                     go_simp
                     refine hK.out _ _ ?_
                     clear hK K
                     try simp only [Act.put, List.getElem_toArray, List.getElem_cons_zero, List.getElem_cons_succ, List.setIfInBounds_toArray, List.set_cons_zero, List.set_cons_succ]
                     refine wpAnyL_done (by kernel_rfl) ?_ _
                     refine NoPanic.normal ?_
                     repeat go_step
                     go_meet
                     exact ⟨q, rfl, hq, Hup.out, (ins_loH HSH.out hq1 (by rw [Hyy.out]; exact Hlt.out) Hno.out), hB⟩
                 · have e2 := beqS_of_ne hae
                   have Hlt := Lib.hid (ltH_2 hbl hae)
                   clear hbl hae
                   go_wp2_with fail
                   refine wp_region_noPanic ?_
                   refine wp_region_l 43 (fun V => V.cell? ⟨w.heap.size, 0, none⟩ = some (i64 x.num) ∧ V.cell? ⟨w.heap.size, 1, none⟩ = some (.string x.acct) ∧ V.cell? ⟨g, 0, none⟩ = some (.slice (some ⟨b, o, none⟩) H.length c) ∧ V.cell? ⟨b, o + (q - 1) * 3, none⟩ = some (i64 y.num) ∧ V.cell? ⟨b, o + (q - 1) * 3 + 1, none⟩ = some (.string y.acct)) (by kernel_rfl) (hSS.out _ hB.drew) (fun hH => ?_)
                   refine tkY 0 (v := ?v20086) ?y20086 ?r20086
                   case y20086 => (intro W hW; go_simp; try with_reducible rfl)
                   try simp only [List.set]
                   refine tkY 1 (v := ?v20087) ?y20087 ?r20087
                   case y20087 => (intro W hW; go_simp; try with_reducible rfl)
                   try simp only [List.set]
                   refine tkY 2 (v := ?v20088) ?y20088 ?r20088
                   case y20088 => (intro W hW; go_simp; try with_reducible rfl)
                   try simp only [List.set]
                   refine tkY 3 (v := ?v20089) ?y20089 ?r20089
                   case y20089 => (intro W hW; go_simp; try with_reducible rfl)
                   try simp only [List.set]
                   refine tkY 4 (v := ?v20090) ?y20090 ?r20090
                   case y20090 => (intro W hW; go_simp; try with_reducible rfl)
                   try simp only [List.set]
                   refine tkY 5 (v := ?v20091) ?y20091 ?r20091
                   case y20091 => (intro W hW; go_simp; try with_reducible rfl)
                   try simp only [List.set]
                   refine tkY 6 (v := ?v20092) ?y20092 ?r20092
                   case y20092 => (intro W hW; go_simp; try with_reducible rfl)
                   try simp only [List.set]
                   refine tkY 7 (v := ?v20093) ?y20093 ?r20093
                   case y20093 => (intro W hW; go_simp; try with_reducible rfl)
                   try simp only [List.set]
                   refine tkY 8 (v := ?v20094) ?y20094 ?r20094
                   case y20094 => (intro W hW; go_simp; try with_reducible rfl)
                   try simp only [List.set]
                   refine tkY 9 (v := ?v20095) ?y20095 ?r20095
                   case y20095 => (intro W hW; go_simp; try with_reducible rfl)
                   try simp only [List.set]
                   refine tkY 10 (v := ?v20096) ?y20096 ?r20096
                   case y20096 => (intro W hW; go_simp; try with_reducible rfl)
                   try simp only [List.set]
                   refine tkY 11 (v := ?v20097) ?y20097 ?r20097
                   case y20097 => (intro W hW; go_simp; try with_reducible rfl)
                   try simp only [List.set]
                   refine tkY 12 (v := ?v20098) ?y20098 ?r20098
                   case y20098 => (intro W hW; go_simp; try with_reducible rfl)
                   try simp only [List.set]
                   refine tkY 13 (v := ?v20099) ?y20099 ?r20099
                   case y20099 => (intro W hW; go_simp; try with_reducible rfl)
                   try simp only [List.set]
                   refine wpAnyL_one (i := 14) (by kernel_rfl) rfl (by decide) (fun K hK => ?_)
                   refine oper_call2 93 53 62 _ rfl _ _ rfl rfl (enters_of Tryz.func93 (by kernel_rfl) rfl) ?_
                   refine (hRa.out _).mono ?_
                   rintro e wq ⟨rfl, hF⟩
                   refine ⟨_, rfl, ?_⟩
                   have hB := below_on hB.drew (Nat.le_refl _) hF
                   clear hF
                   refine hK.out _ _ (hSS.out _ hB) (fun hH => ?_)
                   clear hK K
                   try simp only [Act.put, List.getElem_toArray, List.getElem_cons_zero, List.getElem_cons_succ, List.setIfInBounds_toArray, List.set_cons_zero, List.set_cons_succ]
                   refine tkY 15 (v := ?v20100) ?y20100 ?r20100
                   case y20100 => (intro W hW; go_simp; try with_reducible rfl)
                   try simp only [List.set]
                   refine tkY 16 (v := ?v20101) ?y20101 ?r20101
                   case y20101 => (intro W hW; go_simp; try with_reducible rfl)
                   try simp only [List.set]
                   refine tkY 17 (v := ?v20102) ?y20102 ?r20102
                   case y20102 => (intro W hW; go_simp; try with_reducible rfl)
                   try simp only [List.set]
                   refine tkY 18 (v := ?v20103) ?y20103 ?r20103
                   case y20103 => (intro W hW; go_simp; try with_reducible rfl)
                   try simp only [List.set]
                   refine tkY 19 (v := ?v20104) ?y20104 ?r20104
                   case y20104 => (intro W hW; go_simp; try with_reducible rfl)
                   try simp only [List.set]
                   refine tkY 20 (v := ?v20105) ?y20105 ?r20105
                   case y20105 => (intro W hW; go_simp; try with_reducible rfl)
                   try simp only [List.set]
                   refine tkY 21 (v := ?v20106) ?y20106 ?r20106
                   case y20106 => (intro W hW; go_simp; try with_reducible rfl)
                   try simp only [List.set]
                   refine tkY 22 (v := ?v20107) ?y20107 ?r20107
                   case y20107 => (intro W hW; go_simp; try with_reducible rfl)
                   try simp only [List.set]
                   refine tkY 23 (v := ?v20108) ?y20108 ?r20108
                   case y20108 => (intro W hW; go_simp; try with_reducible rfl)
                   try simp only [List.set]
                   refine tkY 24 (v := ?v20109) ?y20109 ?r20109
                   case y20109 => (intro W hW; go_simp; try with_reducible rfl)
                   try simp only [List.set]
                   refine tkY 25 (v := ?v20110) ?y20110 ?r20110
                   case y20110 => (intro W hW; go_simp; try with_reducible rfl)
                   try simp only [List.set]
                   refine tkY 26 (v := ?v20111) ?y20111 ?r20111
                   case y20111 => (intro W hW; go_simp; try with_reducible rfl)
                   try simp only [List.set]
                   refine tkY 27 (v := ?v20112) ?y20112 ?r20112
                   case y20112 => (intro W hW; go_simp; try with_reducible rfl)
                   try simp only [List.set]
                   refine tkY 28 (v := ?v20113) ?y20113 ?r20113
                   case y20113 => (intro W hW; go_simp; try with_reducible rfl)
                   try simp only [List.set]
                   refine tkN 29 ?_
                   try simp only [List.set]
                   refine tkN 30 ?_
                   try simp only [List.set]
                   refine tkN 31 ?_
                   try simp only [List.set]
                   refine tkN 32 ?_
                   try simp only [List.set]
                   refine tkN 33 ?_
                   try simp only [List.set]
                   refine tkN 34 ?_
                   try simp only [List.set]
                   refine tkN 35 ?_
                   try simp only [List.set]
                   refine tkN 36 ?_
                   try simp only [List.set]
                   refine tkN 37 ?_
                   try simp only [List.set]
                   refine tkN 38 ?_
                   try simp only [List.set]
                   refine tkN 39 ?_
                   try simp only [List.set]
                   refine tkN 40 ?_
                   try simp only [List.set]
                   refine tkY 41 (v := ?v20126) ?y20126 ?r20126
                   case y20126 => (intro W hW; go_simp; try with_reducible rfl)
                   try simp only [List.set]
                   refine tkY 42 (v := ?v20127) ?y20127 ?r20127
                   case y20127 => (intro W hW; go_simp; try with_reducible rfl)
                   try simp only [List.set]
                   refine wpAnyL_last (by kernel_rfl) rfl (fun K hK => ?_)
                   go_simp
                   refine hK.out _ _ ?_
                   clear hK K
                   try simp only [Act.put, List.getElem_toArray, List.getElem_cons_zero, List.getElem_cons_succ, List.setIfInBounds_toArray, List.set_cons_zero, List.set_cons_succ]
                   refine wpAnyL_done (by kernel_rfl) ?_ _
                   refine NoPanic.normal ?_
                   repeat go_step
                   go_meet
                   exact ⟨q, rfl, hq, Hup.out, (ins_loH HSH.out hq1 (by rw [Hyy.out]; exact Hlt.out) Hno.out), hB⟩
          case rest =>
            obtain ⟨q, hq8, hq, hup, hlo, hB⟩ := hcut
            obtain ⟨wq, hwq⟩ : ∃ wq, wq = wc := ⟨wc, rfl⟩
            rw [← hwq] at hB ⊢
            subst hq8
            have Hup := Lib.hid hup
            have Hlo := Lib.hid hlo
            clear hup hlo hwq
            rcases hf with ⟨rfl, rfl⟩ | ⟨b, o, rfl⟩
            · have hL0 : H = [] := by
                rcases H with _ | ⟨a, r⟩
                · rfl
                · simp at hlc
              subst hL0
              obtain rfl : q = 0 := by simpa using hq
              go_wp2_with fail
              have HI := Lib.hid (insB_at keyH.strict x ([] : List Held) 0 HSH.out (by omega) (fun j h _ => absurd h (by simp)) (fun j h _ => absurd h (by simp)))
              have HBq := Lib.hid hB
              have hcq := Lib.hid ((hB.block _ hlg2).trans Hc.out)
              have hlgq := Nat.lt_of_lt_of_le hlg2 hB.size
              have c0q := (hB.cell (p := ⟨g, 0, none⟩) hlg2).trans c0
              have hsq := Lib.hid (Hs.out.below_ hB)
              have hTk := Lib.hid (fun (V : World) (h : Below wq.heap.size wq V) => (show SlS V (Oth V (.slice none 0 0)) none 0 (([] : List Held).take 0) from ((hsq.out.below_ h).take 0).keep (fun _ _ => rfl) (fun b hb => ⟨hb.1, by simp [Value.ownBlock]⟩)))
              have hDr := Lib.hid (fun (V : World) (h : Below wq.heap.size wq V) => (show Sl V wq.heap.size none (0 - 0) (([] : List Held).drop 0) from ((hsq.out.mono (fun b hb => hb.1)).drop (by omega)).below h))
              have Hql := Lib.hid (show 0 = (([] : List Held).take 0).length by rw [List.length_take]; omega)
              have HSS := Lib.hid (show ∀ V, Below wq.heap.size wq V → (fun V : World => V.cell? ⟨g, 0, none⟩ = some (.slice none 0 0) ∧ V.cell? ⟨w.heap.size, 0, none⟩ = some (i64 x.num) ∧ V.cell? ⟨w.heap.size, 1, none⟩ = some (.string x.acct) ∧ V.cell? ⟨w.heap.size, 2, none⟩ = some (i64 x.sum)) V from fun V h => ⟨(h.cell (World.block_lt_of_cell? _ _ c0q)).trans c0q, (h.cell (Nat.lt_of_lt_of_le hlx2 hB.size)).trans ((hB.cell (p := ⟨w.heap.size, 0, none⟩) hlx2).trans n0), (h.cell (Nat.lt_of_lt_of_le hlx2 hB.size)).trans ((hB.cell (p := ⟨w.heap.size, 1, none⟩) hlx2).trans n1), (h.cell (Nat.lt_of_lt_of_le hlx2 hB.size)).trans ((hB.cell (p := ⟨w.heap.size, 2, none⟩) hlx2).trans n2)⟩)
              have q1 : ((0 : Nat) : Int) ≤ (0 : Int) := by omega
              have q2 : ((0 : Nat) : Int) ≤ (([] : List Held).length : Int) := by omega
              have q3 : (([] : List Held).length : Int) ≤ (0 : Int) := by omega
              have q0 : (0 : Int) ≤ ((0 : Nat) : Int) := by omega
              clear hB c0 n0 n1 n2
              have hb : Below wq.heap.size wq wq.drew := (Below.refl _ _).drew
              refine wp_region_noPanic ?_
              refine wp_region_l 20 (fun V => V.cell? ⟨g, 0, none⟩ = some (.slice none 0 0) ∧ V.cell? ⟨w.heap.size, 0, none⟩ = some (i64 x.num) ∧ V.cell? ⟨w.heap.size, 1, none⟩ = some (.string x.acct) ∧ V.cell? ⟨w.heap.size, 2, none⟩ = some (i64 x.sum)) (by kernel_rfl) (HSS.out _ hb) (fun hH => ?_)
              refine tkY 0 (v := ?v5001) ?y5001 ?r5001
              case y5001 => (intro W hW; go_simp; try with_reducible rfl)
              try simp only [List.set]
              refine tkY 1 (v := ?v5002) ?y5002 ?r5002
              case y5002 => (intro W hW; go_simp; try with_reducible rfl)
              try simp only [List.set]
              refine tkY 2 (v := ?v5003) ?y5003 ?r5003
              case y5003 => (intro W hW; go_simp; try with_reducible rfl)
              try simp only [List.set]
              refine tkY 3 (v := ?v5004) ?y5004 ?r5004
              case y5004 => (intro W hW; go_simp; try with_reducible rfl)
              try simp only [List.set]
              refine tkY 4 (v := ?v5005) ?y5005 ?r5005
              case y5005 => (intro W hW; go_simp; try with_reducible rfl)
              try simp only [List.set]
              refine tkY 5 (v := ?v5006) ?y5006 ?r5006
              case y5006 => (intro W hW; go_simp; try with_reducible rfl)
              try simp only [List.set]
              refine tkY 6 (v := ?v5007) ?y5007 ?r5007
              case y5007 => (intro W hW; go_simp; try with_reducible rfl)
              try simp only [List.set]
              refine tkY 8 (v := ?v5008) ?y5008 ?r5008
              case y5008 => (intro W hW; go_simp; try with_reducible rfl)
              try simp only [List.set]
              refine tkY 11 (v := ?v5009) ?y5009 ?r5009
              case y5009 => (intro W hW; go_simp; try with_reducible rfl)
              try simp only [List.set]
              refine tkY 12 (v := ?v5010) ?y5010 ?r5010
              case y5010 => (intro W hW; go_simp; try with_reducible rfl)
              try simp only [List.set]
              refine tkY 13 (v := ?v5011) ?y5011 ?r5011
              case y5011 => (intro W hW; go_simp; try with_reducible rfl)
              try simp only [List.set]
              refine tkY 14 (v := ?v5012) ?y5012 ?r5012
              case y5012 => (intro W hW; go_simp; try with_reducible rfl)
              try simp only [List.set]
              refine tkY 15 (v := ?v5013) ?y5013 ?r5013
              case y5013 => (intro W hW; go_simp; try with_reducible rfl)
              try simp only [List.set]
              refine tkY 16 (v := ?v5014) ?y5014 ?r5014
              case y5014 => (intro W hW; go_simp; try with_reducible rfl)
              try simp only [List.set]
              refine wpAnyL_ready (rs := [7, 9]) (by kernel_rfl) (by simp) ?_
              refine AllReadyL.cons rfl (fun K hK => ?_) ?_
              · skip
                rw [if_pos (by rfl)]
                refine oper_append (.const (.slice none 0 0)) (.tmp 101) 123 rfl (.agg #[i64 0, .string ByteArray.empty, i64 0]) 32 Tryz.underlying123 rheldInfo rfl (by decide) (by decide) rfl (Own.nil_ _ wq.heap.size 136) none 0 0 (([] : List Held).take 0) rfl Hql.out (hTk.out _ hb) (by simp <;> omega) hb.size ?_
                intro v1 u1 hO1 hg1 hat1
                rw [List.nil_append] at hO1
                have hF := (Own.nil_ (α := Held) _ _ 136).below hg1 (Nat.le_refl _) (Nat.le_refl _)
                have hb := below_on hb (Nat.le_refl _) hF
                have HO1 := Lib.hid hO1
                clear hF hg1 hat1 hO1
                refine hK.out _ _ (HSS.out _ hb) (fun hH => ?_)
                clear hK K
                try simp only [Act.put, List.getElem_toArray, List.getElem_cons_zero, List.getElem_cons_succ, List.setIfInBounds_toArray, List.set_cons_zero, List.set_cons_succ]
                refine wpAnyL_one (i := 9) (by kernel_rfl) rfl (by decide) (fun K hK => ?_)
                go_simp
                have hgl : (u1.alloc (.cells #[i64 x.num, .string x.acct, i64 x.sum] 136)).heap[u1.heap.size]? = some (.cells #[i64 x.num, .string x.acct, i64 x.sum] 136 (0, 0)) := heap_alloc_new u1 _
                have hne1 := HO1.out.new_ne (Nat.le_refl u1.heap.size)
                have HO1 := Lib.hid (HO1.out.later ((Below.refl _ _).alloc (Nat.le_refl _) (.cells #[i64 x.num, .string x.acct, i64 x.sum] 136)))
                have hb := hb.alloc hb.size (.cells #[i64 x.num, .string x.acct, i64 x.sum] 136)
                refine hK.out _ _ (HSS.out _ hb) (fun hH => ?_)
                clear hK K
                try simp only [Act.put, List.getElem_toArray, List.getElem_cons_zero, List.getElem_cons_succ, List.setIfInBounds_toArray, List.set_cons_zero, List.set_cons_succ]
                refine wpAnyL_one (i := 10) (by kernel_rfl) rfl (by decide) (fun K hK => ?_)
                rw [if_pos (by rfl)]
                refine oper_append_one (.tmp 102) (.tmp 104) 123 rfl (.agg #[i64 0, .string ByteArray.empty, i64 0]) 32 Tryz.underlying123 rheldInfo rfl (by decide) (by decide) rfl HO1.out u1.heap.size x (by rfl) _ 136 hgl rfl hne1 Hxa.out (by rw [← Hql.out]; omega) hb.size ?_
                intro v2 u2 hO2 hg2 hat2
                have hb := hb.trans (HO1.out.below hg2 (Nat.le_refl _) hb.size)
                have HO2 := Lib.hid hO2
                clear hg2 hat2 hO2 HO1 hgl hne1
                refine hK.out _ _ (HSS.out _ hb) (fun hH => ?_)
                clear hK K
                try simp only [Act.put, List.getElem_toArray, List.getElem_cons_zero, List.getElem_cons_succ, List.setIfInBounds_toArray, List.set_cons_zero, List.set_cons_succ]
                refine wpAnyL_one (i := 17) (by kernel_rfl) rfl (by decide) (fun K hK => ?_)
                rw [if_pos (by rfl)]
                refine oper_append (.tmp 105) (.tmp 111) 123 rfl (.agg #[i64 0, .string ByteArray.empty, i64 0]) 32 Tryz.underlying123 rheldInfo rfl (by decide) (by decide) rfl HO2.out _ _ _ (([] : List Held).drop 0) rfl (by simp) ((hDr.out _ hb).mono (HO2.out.oth (Nat.le_refl _) hb.size)) (by simp <;> omega) hb.size ?_
                intro v3 u3 hO3 hg3 hat3
                obtain ⟨A3, cap3, hv3, -⟩ := hO3.sl
                generalize List.length _ = n3 at hv3
                subst hv3
                have hb := hb.trans (HO2.out.below hg3 (Nat.le_refl _) hb.size)
                have HO3 := Lib.hid hO3
                clear hg3 hat3 hO3 HO2
                refine hK.out _ _ (HSS.out _ hb) (fun hH => ?_)
                clear hK K
                try simp only [Act.put, List.getElem_toArray, List.getElem_cons_zero, List.getElem_cons_succ, List.setIfInBounds_toArray, List.set_cons_zero, List.set_cons_succ]
                refine tkY 18 (v := ?v5015) ?y5015 ?r5015
                case y5015 => (intro W hW; go_simp; try with_reducible rfl)
                try simp only [List.set]
                refine tkY 19 (v := ?v5016) ?y5016 ?r5016
                case y5016 => (intro W hW; go_simp; try with_reducible rfl)
                try simp only [List.set]
                refine wpAnyL_last (by kernel_rfl) rfl (fun K hK => ?_)
                have c3 := (hb.cell (p := ⟨g, 0, none⟩) hlgq).trans c0q
                have hg3 := Lib.hid ((hb.block _ hlgq).trans hcq.out)
                have f3 := frozen_of_row _ g 0 _ _ hg3.out
                go_simp
                refine hK.out _ _ ?_
                clear hK K
                try simp only [Act.put, List.getElem_toArray, List.getElem_cons_zero, List.getElem_cons_succ, List.setIfInBounds_toArray, List.set_cons_zero, List.set_cons_succ]
                refine wpAnyL_done (by kernel_rfl) ?_ _
                refine NoPanic.normal ?_
                have hD := rh_put (Nat.le_refl _) hb hlgq (fun k hk => HTn.out k (Nat.le_trans (Nat.le_trans Hsz.out HBq.out.size) hk)) hg3.out HO3.out (ins_okH HH.out Hxa.out)
                have HD := Lib.hid hD
                clear hD
                go_wp2
                all_goals (go_ret; exact ⟨by rw [HR4.out]; rfl, by rw [HR4.out]; exact (Q1.out.later HBq.out).kept (Gr.of_grown HD.out.2) (fun e => hne (by injection e)) (fun k hk e => HTg.out (by injection e with e; rw [e]; exact hk)), by rw [HR4.out, HI.out, List.append_cons]; exact HD.out.1, (hG.trans (Gr.of_below HBq.out (GH g gc)) (fun _ e => .inl e)).trans ((Gr.of_grown HD.out.2).mono (fun k _ e => (show GH g gc k from .inl (by injection e with e; exact e.symm)))) (fun _ e => .inl e)⟩)
              refine AllReadyL.cons rfl (fun K hK => ?_) ?_
              · skip
                go_simp
                obtain ⟨gl, hgl, hgl2⟩ : ∃ gl, gl = wq.heap.size ∧ (wq.drew.alloc (.cells #[i64 x.num, .string x.acct, i64 x.sum] 136)).heap[gl]? = some (.cells #[i64 x.num, .string x.acct, i64 x.sum] 136 (0, 0)) := ⟨_, rfl, heap_alloc_new wq.drew _⟩
                have Hgl := Lib.hid hgl
                clear hgl
                have hgl := hgl2
                clear hgl2
                have hb := hb.alloc hb.size (.cells #[i64 x.num, .string x.acct, i64 x.sum] 136)
                refine hK.out _ _ (HSS.out _ hb) (fun hH => ?_)
                clear hK K
                try simp only [Act.put, List.getElem_toArray, List.getElem_cons_zero, List.getElem_cons_succ, List.setIfInBounds_toArray, List.set_cons_zero, List.set_cons_succ]
                refine wpAnyL_one (i := 7) (by kernel_rfl) rfl (by decide) (fun K hK => ?_)
                rw [if_pos (by rfl)]
                refine oper_append (.const (.slice none 0 0)) (.tmp 101) 123 rfl (.agg #[i64 0, .string ByteArray.empty, i64 0]) 32 Tryz.underlying123 rheldInfo rfl (by decide) (by decide) rfl (Own.nil_ _ wq.heap.size 136) none 0 0 (([] : List Held).take 0) rfl Hql.out (hTk.out _ hb) (by simp <;> omega) hb.size ?_
                intro v1 u1 hO1 hg1 hat1
                rw [List.nil_append] at hO1
                have hF := (Own.nil_ (α := Held) _ _ 136).below hg1 (Nat.le_refl _) (Nat.le_refl _)
                have hne1 : some gl ≠ v1.ownBlock := by
                  rcases hat1 with h | h
                  · have h2 : v1.ownBlock = none := h
                    rw [h2]; simp
                  · have h2 : v1.ownBlock = some (wq.heap.size + 1) := by rw [h]; simp
                    rw [h2, Hgl.out]; intro e; injection e with e; omega
                have hgl := (hF.block _ (Array.getElem?_eq_some_iff.1 hgl).1).trans hgl
                have hb := below_on hb (Nat.le_refl _) hF
                have HO1 := Lib.hid hO1
                clear hF hg1 hat1 hO1
                refine hK.out _ _ (HSS.out _ hb) (fun hH => ?_)
                clear hK K
                try simp only [Act.put, List.getElem_toArray, List.getElem_cons_zero, List.getElem_cons_succ, List.setIfInBounds_toArray, List.set_cons_zero, List.set_cons_succ]
                refine wpAnyL_one (i := 10) (by kernel_rfl) rfl (by decide) (fun K hK => ?_)
                rw [if_pos (by rfl)]
                refine oper_append_one (.tmp 102) (.tmp 104) 123 rfl (.agg #[i64 0, .string ByteArray.empty, i64 0]) 32 Tryz.underlying123 rheldInfo rfl (by decide) (by decide) rfl HO1.out gl x (by rw [Hgl.out]; rfl) _ 136 hgl rfl hne1 Hxa.out (by rw [← Hql.out]; omega) hb.size ?_
                intro v2 u2 hO2 hg2 hat2
                have hb := hb.trans (HO1.out.below hg2 (Nat.le_refl _) hb.size)
                have HO2 := Lib.hid hO2
                clear hg2 hat2 hO2 HO1 hgl hne1
                refine hK.out _ _ (HSS.out _ hb) (fun hH => ?_)
                clear hK K
                try simp only [Act.put, List.getElem_toArray, List.getElem_cons_zero, List.getElem_cons_succ, List.setIfInBounds_toArray, List.set_cons_zero, List.set_cons_succ]
                refine wpAnyL_one (i := 17) (by kernel_rfl) rfl (by decide) (fun K hK => ?_)
                rw [if_pos (by rfl)]
                refine oper_append (.tmp 105) (.tmp 111) 123 rfl (.agg #[i64 0, .string ByteArray.empty, i64 0]) 32 Tryz.underlying123 rheldInfo rfl (by decide) (by decide) rfl HO2.out _ _ _ (([] : List Held).drop 0) rfl (by simp) ((hDr.out _ hb).mono (HO2.out.oth (Nat.le_refl _) hb.size)) (by simp <;> omega) hb.size ?_
                intro v3 u3 hO3 hg3 hat3
                obtain ⟨A3, cap3, hv3, -⟩ := hO3.sl
                generalize List.length _ = n3 at hv3
                subst hv3
                have hb := hb.trans (HO2.out.below hg3 (Nat.le_refl _) hb.size)
                have HO3 := Lib.hid hO3
                clear hg3 hat3 hO3 HO2
                refine hK.out _ _ (HSS.out _ hb) (fun hH => ?_)
                clear hK K
                try simp only [Act.put, List.getElem_toArray, List.getElem_cons_zero, List.getElem_cons_succ, List.setIfInBounds_toArray, List.set_cons_zero, List.set_cons_succ]
                refine tkY 18 (v := ?v5017) ?y5017 ?r5017
                case y5017 => (intro W hW; go_simp; try with_reducible rfl)
                try simp only [List.set]
                refine tkY 19 (v := ?v5018) ?y5018 ?r5018
                case y5018 => (intro W hW; go_simp; try with_reducible rfl)
                try simp only [List.set]
                refine wpAnyL_last (by kernel_rfl) rfl (fun K hK => ?_)
                have c3 := (hb.cell (p := ⟨g, 0, none⟩) hlgq).trans c0q
                have hg3 := Lib.hid ((hb.block _ hlgq).trans hcq.out)
                have f3 := frozen_of_row _ g 0 _ _ hg3.out
                go_simp
                refine hK.out _ _ ?_
                clear hK K
                try simp only [Act.put, List.getElem_toArray, List.getElem_cons_zero, List.getElem_cons_succ, List.setIfInBounds_toArray, List.set_cons_zero, List.set_cons_succ]
                refine wpAnyL_done (by kernel_rfl) ?_ _
                refine NoPanic.normal ?_
                have hD := rh_put (Nat.le_refl _) hb hlgq (fun k hk => HTn.out k (Nat.le_trans (Nat.le_trans Hsz.out HBq.out.size) hk)) hg3.out HO3.out (ins_okH HH.out Hxa.out)
                have HD := Lib.hid hD
                clear hD
                go_wp2
                all_goals (go_ret; exact ⟨by rw [HR4.out]; rfl, by rw [HR4.out]; exact (Q1.out.later HBq.out).kept (Gr.of_grown HD.out.2) (fun e => hne (by injection e)) (fun k hk e => HTg.out (by injection e with e; rw [e]; exact hk)), by rw [HR4.out, HI.out, List.append_cons]; exact HD.out.1, (hG.trans (Gr.of_below HBq.out (GH g gc)) (fun _ e => .inl e)).trans ((Gr.of_grown HD.out.2).mono (fun k _ e => (show GH g gc k from .inl (by injection e with e; exact e.symm)))) (fun _ e => .inl e)⟩)
              exact AllReadyL.nil
            · go_wp2_with fail
              have HI := Lib.hid (insB_at keyH.strict x H q HSH.out (by omega) Hlo.out (fun j h hj => keyH.strict.asymm (Hup.out j h hj)))
              have HBq := Lib.hid hB
              have hcq := Lib.hid ((hB.block _ hlg2).trans Hc.out)
              have hlgq := Nat.lt_of_lt_of_le hlg2 hB.size
              have c0q := (hB.cell (p := ⟨g, 0, none⟩) hlg2).trans c0
              have hsq := Lib.hid (Hs.out.below_ hB)
              have hTk := Lib.hid (fun (V : World) (h : Below wq.heap.size wq V) => (show SlS V (Oth V (.slice none 0 0)) (some ⟨b, o, none⟩) c (H.take q) from ((hsq.out.below_ h).take q).keep (fun _ _ => rfl) (fun b hb => ⟨hb.1, by simp [Value.ownBlock]⟩)))
              have hDr := Lib.hid (fun (V : World) (h : Below wq.heap.size wq V) => (show Sl V wq.heap.size (if c = q then some ⟨b, o, none⟩ else some ⟨b, o + q * 3, none⟩) (c - q) (H.drop q) from by
                    have := ((hsq.out.mono (fun b hb => hb.1)).drop (k := q) (by omega)).below h
                    rwa [Option.map_some, show (⟨b, o, none⟩ : Addr).add (q * Enc.size Held) = ⟨b, o + q * 3, none⟩ from add_noneC ..] at this))
              have Hql := Lib.hid (show q = (H.take q).length by rw [List.length_take]; omega)
              have HSS := Lib.hid (show ∀ V, Below wq.heap.size wq V → (fun V : World => V.cell? ⟨g, 0, none⟩ = some (.slice (some ⟨b, o, none⟩) H.length c) ∧ V.cell? ⟨w.heap.size, 0, none⟩ = some (i64 x.num) ∧ V.cell? ⟨w.heap.size, 1, none⟩ = some (.string x.acct) ∧ V.cell? ⟨w.heap.size, 2, none⟩ = some (i64 x.sum)) V from fun V h => ⟨(h.cell (World.block_lt_of_cell? _ _ c0q)).trans c0q, (h.cell (Nat.lt_of_lt_of_le hlx2 hB.size)).trans ((hB.cell (p := ⟨w.heap.size, 0, none⟩) hlx2).trans n0), (h.cell (Nat.lt_of_lt_of_le hlx2 hB.size)).trans ((hB.cell (p := ⟨w.heap.size, 1, none⟩) hlx2).trans n1), (h.cell (Nat.lt_of_lt_of_le hlx2 hB.size)).trans ((hB.cell (p := ⟨w.heap.size, 2, none⟩) hlx2).trans n2)⟩)
              have q1 : ((q : Nat) : Int) ≤ (c : Int) := by omega
              have q2 : ((q : Nat) : Int) ≤ (H.length : Int) := by omega
              have q3 : (H.length : Int) ≤ (c : Int) := by omega
              have q0 : (0 : Int) ≤ ((q : Nat) : Int) := by omega
              clear hB c0 n0 n1 n2
              have hb : Below wq.heap.size wq wq.drew := (Below.refl _ _).drew
              refine wp_region_noPanic ?_
              refine wp_region_l 20 (fun V => V.cell? ⟨g, 0, none⟩ = some (.slice (some ⟨b, o, none⟩) H.length c) ∧ V.cell? ⟨w.heap.size, 0, none⟩ = some (i64 x.num) ∧ V.cell? ⟨w.heap.size, 1, none⟩ = some (.string x.acct) ∧ V.cell? ⟨w.heap.size, 2, none⟩ = some (i64 x.sum)) (by kernel_rfl) (HSS.out _ hb) (fun hH => ?_)
              refine tkY 0 (v := ?v5019) ?y5019 ?r5019
              case y5019 => (intro W hW; go_simp; try with_reducible rfl)
              try simp only [List.set]
              refine tkY 1 (v := ?v5020) ?y5020 ?r5020
              case y5020 => (intro W hW; go_simp; try with_reducible rfl)
              try simp only [List.set]
              refine tkY 2 (v := ?v5021) ?y5021 ?r5021
              case y5021 => (intro W hW; go_simp; try with_reducible rfl)
              try simp only [List.set]
              refine tkY 3 (v := ?v5022) ?y5022 ?r5022
              case y5022 => (intro W hW; go_simp; try with_reducible rfl)
              try simp only [List.set]
              refine tkY 4 (v := ?v5023) ?y5023 ?r5023
              case y5023 => (intro W hW; go_simp; try with_reducible rfl)
              try simp only [List.set]
              refine tkY 5 (v := ?v5024) ?y5024 ?r5024
              case y5024 => (intro W hW; go_simp; try with_reducible rfl)
              try simp only [List.set]
              refine tkY 6 (v := ?v5025) ?y5025 ?r5025
              case y5025 => (intro W hW; go_simp; try with_reducible rfl)
              try simp only [List.set]
              refine tkY 8 (v := ?v5026) ?y5026 ?r5026
              case y5026 => (intro W hW; go_simp; try with_reducible rfl)
              try simp only [List.set]
              refine tkY 11 (v := ?v5027) ?y5027 ?r5027
              case y5027 => (intro W hW; go_simp; try with_reducible rfl)
              try simp only [List.set]
              refine tkY 12 (v := ?v5028) ?y5028 ?r5028
              case y5028 => (intro W hW; go_simp; try with_reducible rfl)
              try simp only [List.set]
              refine tkY 13 (v := ?v5029) ?y5029 ?r5029
              case y5029 => (intro W hW; go_simp; try with_reducible rfl)
              try simp only [List.set]
              refine tkY 14 (v := ?v5030) ?y5030 ?r5030
              case y5030 => (intro W hW; go_simp; try with_reducible rfl)
              try simp only [List.set]
              refine tkY 15 (v := ?v5031) ?y5031 ?r5031
              case y5031 => (intro W hW; go_simp; try with_reducible rfl)
              try simp only [List.set]
              refine tkY 16 (v := ?v5032) ?y5032 ?r5032
              case y5032 => (intro W hW; go_simp; try with_reducible rfl)
              try simp only [List.set]
              refine wpAnyL_ready (rs := [7, 9]) (by kernel_rfl) (by simp) ?_
              refine AllReadyL.cons rfl (fun K hK => ?_) ?_
              · skip
                rw [if_pos (by rfl)]
                refine oper_append (.const (.slice none 0 0)) (.tmp 101) 123 rfl (.agg #[i64 0, .string ByteArray.empty, i64 0]) 32 Tryz.underlying123 rheldInfo rfl (by decide) (by decide) rfl (Own.nil_ _ wq.heap.size 136) (some ⟨b, o, none⟩) q c (H.take q) rfl Hql.out (hTk.out _ hb) (by simp <;> omega) hb.size ?_
                intro v1 u1 hO1 hg1 hat1
                rw [List.nil_append] at hO1
                have hF := (Own.nil_ (α := Held) _ _ 136).below hg1 (Nat.le_refl _) (Nat.le_refl _)
                have hb := below_on hb (Nat.le_refl _) hF
                have HO1 := Lib.hid hO1
                clear hF hg1 hat1 hO1
                refine hK.out _ _ (HSS.out _ hb) (fun hH => ?_)
                clear hK K
                try simp only [Act.put, List.getElem_toArray, List.getElem_cons_zero, List.getElem_cons_succ, List.setIfInBounds_toArray, List.set_cons_zero, List.set_cons_succ]
                refine wpAnyL_one (i := 9) (by kernel_rfl) rfl (by decide) (fun K hK => ?_)
                go_simp
                have hgl : (u1.alloc (.cells #[i64 x.num, .string x.acct, i64 x.sum] 136)).heap[u1.heap.size]? = some (.cells #[i64 x.num, .string x.acct, i64 x.sum] 136 (0, 0)) := heap_alloc_new u1 _
                have hne1 := HO1.out.new_ne (Nat.le_refl u1.heap.size)
                have HO1 := Lib.hid (HO1.out.later ((Below.refl _ _).alloc (Nat.le_refl _) (.cells #[i64 x.num, .string x.acct, i64 x.sum] 136)))
                have hb := hb.alloc hb.size (.cells #[i64 x.num, .string x.acct, i64 x.sum] 136)
                refine hK.out _ _ (HSS.out _ hb) (fun hH => ?_)
                clear hK K
                try simp only [Act.put, List.getElem_toArray, List.getElem_cons_zero, List.getElem_cons_succ, List.setIfInBounds_toArray, List.set_cons_zero, List.set_cons_succ]
                refine wpAnyL_one (i := 10) (by kernel_rfl) rfl (by decide) (fun K hK => ?_)
                rw [if_pos (by rfl)]
                refine oper_append_one (.tmp 102) (.tmp 104) 123 rfl (.agg #[i64 0, .string ByteArray.empty, i64 0]) 32 Tryz.underlying123 rheldInfo rfl (by decide) (by decide) rfl HO1.out u1.heap.size x (by rfl) _ 136 hgl rfl hne1 Hxa.out (by rw [← Hql.out]; omega) hb.size ?_
                intro v2 u2 hO2 hg2 hat2
                have hb := hb.trans (HO1.out.below hg2 (Nat.le_refl _) hb.size)
                have HO2 := Lib.hid hO2
                clear hg2 hat2 hO2 HO1 hgl hne1
                refine hK.out _ _ (HSS.out _ hb) (fun hH => ?_)
                clear hK K
                try simp only [Act.put, List.getElem_toArray, List.getElem_cons_zero, List.getElem_cons_succ, List.setIfInBounds_toArray, List.set_cons_zero, List.set_cons_succ]
                refine wpAnyL_one (i := 17) (by kernel_rfl) rfl (by decide) (fun K hK => ?_)
                rw [if_pos (by rfl)]
                refine oper_append (.tmp 105) (.tmp 111) 123 rfl (.agg #[i64 0, .string ByteArray.empty, i64 0]) 32 Tryz.underlying123 rheldInfo rfl (by decide) (by decide) rfl HO2.out _ _ _ (H.drop q) rfl (by simp) ((hDr.out _ hb).mono (HO2.out.oth (Nat.le_refl _) hb.size)) (by simp <;> omega) hb.size ?_
                intro v3 u3 hO3 hg3 hat3
                obtain ⟨A3, cap3, hv3, -⟩ := hO3.sl
                generalize List.length _ = n3 at hv3
                subst hv3
                have hb := hb.trans (HO2.out.below hg3 (Nat.le_refl _) hb.size)
                have HO3 := Lib.hid hO3
                clear hg3 hat3 hO3 HO2
                refine hK.out _ _ (HSS.out _ hb) (fun hH => ?_)
                clear hK K
                try simp only [Act.put, List.getElem_toArray, List.getElem_cons_zero, List.getElem_cons_succ, List.setIfInBounds_toArray, List.set_cons_zero, List.set_cons_succ]
                refine tkY 18 (v := ?v5033) ?y5033 ?r5033
                case y5033 => (intro W hW; go_simp; try with_reducible rfl)
                try simp only [List.set]
                refine tkY 19 (v := ?v5034) ?y5034 ?r5034
                case y5034 => (intro W hW; go_simp; try with_reducible rfl)
                try simp only [List.set]
                refine wpAnyL_last (by kernel_rfl) rfl (fun K hK => ?_)
                have c3 := (hb.cell (p := ⟨g, 0, none⟩) hlgq).trans c0q
                have hg3 := Lib.hid ((hb.block _ hlgq).trans hcq.out)
                have f3 := frozen_of_row _ g 0 _ _ hg3.out
                go_simp
                refine hK.out _ _ ?_
                clear hK K
                try simp only [Act.put, List.getElem_toArray, List.getElem_cons_zero, List.getElem_cons_succ, List.setIfInBounds_toArray, List.set_cons_zero, List.set_cons_succ]
                refine wpAnyL_done (by kernel_rfl) ?_ _
                refine NoPanic.normal ?_
                have hD := rh_put (Nat.le_refl _) hb hlgq (fun k hk => HTn.out k (Nat.le_trans (Nat.le_trans Hsz.out HBq.out.size) hk)) hg3.out HO3.out (ins_okH HH.out Hxa.out)
                have HD := Lib.hid hD
                clear hD
                go_wp2
                all_goals (go_ret; exact ⟨by rw [HR4.out]; rfl, by rw [HR4.out]; exact (Q1.out.later HBq.out).kept (Gr.of_grown HD.out.2) (fun e => hne (by injection e)) (fun k hk e => HTg.out (by injection e with e; rw [e]; exact hk)), by rw [HR4.out, HI.out, List.append_cons]; exact HD.out.1, (hG.trans (Gr.of_below HBq.out (GH g gc)) (fun _ e => .inl e)).trans ((Gr.of_grown HD.out.2).mono (fun k _ e => (show GH g gc k from .inl (by injection e with e; exact e.symm)))) (fun _ e => .inl e)⟩)
              refine AllReadyL.cons rfl (fun K hK => ?_) ?_
              · skip
                go_simp
                obtain ⟨gl, hgl, hgl2⟩ : ∃ gl, gl = wq.heap.size ∧ (wq.drew.alloc (.cells #[i64 x.num, .string x.acct, i64 x.sum] 136)).heap[gl]? = some (.cells #[i64 x.num, .string x.acct, i64 x.sum] 136 (0, 0)) := ⟨_, rfl, heap_alloc_new wq.drew _⟩
                have Hgl := Lib.hid hgl
                clear hgl
                have hgl := hgl2
                clear hgl2
                have hb := hb.alloc hb.size (.cells #[i64 x.num, .string x.acct, i64 x.sum] 136)
                refine hK.out _ _ (HSS.out _ hb) (fun hH => ?_)
                clear hK K
                try simp only [Act.put, List.getElem_toArray, List.getElem_cons_zero, List.getElem_cons_succ, List.setIfInBounds_toArray, List.set_cons_zero, List.set_cons_succ]
                refine wpAnyL_one (i := 7) (by kernel_rfl) rfl (by decide) (fun K hK => ?_)
                rw [if_pos (by rfl)]
                refine oper_append (.const (.slice none 0 0)) (.tmp 101) 123 rfl (.agg #[i64 0, .string ByteArray.empty, i64 0]) 32 Tryz.underlying123 rheldInfo rfl (by decide) (by decide) rfl (Own.nil_ _ wq.heap.size 136) (some ⟨b, o, none⟩) q c (H.take q) rfl Hql.out (hTk.out _ hb) (by simp <;> omega) hb.size ?_
                intro v1 u1 hO1 hg1 hat1
                rw [List.nil_append] at hO1
                have hF := (Own.nil_ (α := Held) _ _ 136).below hg1 (Nat.le_refl _) (Nat.le_refl _)
                have hne1 : some gl ≠ v1.ownBlock := by
                  rcases hat1 with h | h
                  · have h2 : v1.ownBlock = none := h
                    rw [h2]; simp
                  · have h2 : v1.ownBlock = some (wq.heap.size + 1) := by rw [h]; simp
                    rw [h2, Hgl.out]; intro e; injection e with e; omega
                have hgl := (hF.block _ (Array.getElem?_eq_some_iff.1 hgl).1).trans hgl
                have hb := below_on hb (Nat.le_refl _) hF
                have HO1 := Lib.hid hO1
                clear hF hg1 hat1 hO1
                refine hK.out _ _ (HSS.out _ hb) (fun hH => ?_)
                clear hK K
                try simp only [Act.put, List.getElem_toArray, List.getElem_cons_zero, List.getElem_cons_succ, List.setIfInBounds_toArray, List.set_cons_zero, List.set_cons_succ]
                refine wpAnyL_one (i := 10) (by kernel_rfl) rfl (by decide) (fun K hK => ?_)
                rw [if_pos (by rfl)]
                refine oper_append_one (.tmp 102) (.tmp 104) 123 rfl (.agg #[i64 0, .string ByteArray.empty, i64 0]) 32 Tryz.underlying123 rheldInfo rfl (by decide) (by decide) rfl HO1.out gl x (by rw [Hgl.out]; rfl) _ 136 hgl rfl hne1 Hxa.out (by rw [← Hql.out]; omega) hb.size ?_
                intro v2 u2 hO2 hg2 hat2
                have hb := hb.trans (HO1.out.below hg2 (Nat.le_refl _) hb.size)
                have HO2 := Lib.hid hO2
                clear hg2 hat2 hO2 HO1 hgl hne1
                refine hK.out _ _ (HSS.out _ hb) (fun hH => ?_)
                clear hK K
                try simp only [Act.put, List.getElem_toArray, List.getElem_cons_zero, List.getElem_cons_succ, List.setIfInBounds_toArray, List.set_cons_zero, List.set_cons_succ]
                refine wpAnyL_one (i := 17) (by kernel_rfl) rfl (by decide) (fun K hK => ?_)
                rw [if_pos (by rfl)]
                refine oper_append (.tmp 105) (.tmp 111) 123 rfl (.agg #[i64 0, .string ByteArray.empty, i64 0]) 32 Tryz.underlying123 rheldInfo rfl (by decide) (by decide) rfl HO2.out _ _ _ (H.drop q) rfl (by simp) ((hDr.out _ hb).mono (HO2.out.oth (Nat.le_refl _) hb.size)) (by simp <;> omega) hb.size ?_
                intro v3 u3 hO3 hg3 hat3
                obtain ⟨A3, cap3, hv3, -⟩ := hO3.sl
                generalize List.length _ = n3 at hv3
                subst hv3
                have hb := hb.trans (HO2.out.below hg3 (Nat.le_refl _) hb.size)
                have HO3 := Lib.hid hO3
                clear hg3 hat3 hO3 HO2
                refine hK.out _ _ (HSS.out _ hb) (fun hH => ?_)
                clear hK K
                try simp only [Act.put, List.getElem_toArray, List.getElem_cons_zero, List.getElem_cons_succ, List.setIfInBounds_toArray, List.set_cons_zero, List.set_cons_succ]
                refine tkY 18 (v := ?v5035) ?y5035 ?r5035
                case y5035 => (intro W hW; go_simp; try with_reducible rfl)
                try simp only [List.set]
                refine tkY 19 (v := ?v5036) ?y5036 ?r5036
                case y5036 => (intro W hW; go_simp; try with_reducible rfl)
                try simp only [List.set]
                refine wpAnyL_last (by kernel_rfl) rfl (fun K hK => ?_)
                have c3 := (hb.cell (p := ⟨g, 0, none⟩) hlgq).trans c0q
                have hg3 := Lib.hid ((hb.block _ hlgq).trans hcq.out)
                have f3 := frozen_of_row _ g 0 _ _ hg3.out
                go_simp
                refine hK.out _ _ ?_
                clear hK K
                try simp only [Act.put, List.getElem_toArray, List.getElem_cons_zero, List.getElem_cons_succ, List.setIfInBounds_toArray, List.set_cons_zero, List.set_cons_succ]
                refine wpAnyL_done (by kernel_rfl) ?_ _
                refine NoPanic.normal ?_
                have hD := rh_put (Nat.le_refl _) hb hlgq (fun k hk => HTn.out k (Nat.le_trans (Nat.le_trans Hsz.out HBq.out.size) hk)) hg3.out HO3.out (ins_okH HH.out Hxa.out)
                have HD := Lib.hid hD
                clear hD
                go_wp2
                all_goals (go_ret; exact ⟨by rw [HR4.out]; rfl, by rw [HR4.out]; exact (Q1.out.later HBq.out).kept (Gr.of_grown HD.out.2) (fun e => hne (by injection e)) (fun k hk e => HTg.out (by injection e with e; rw [e]; exact hk)), by rw [HR4.out, HI.out, List.append_cons]; exact HD.out.1, (hG.trans (Gr.of_below HBq.out (GH g gc)) (fun _ e => .inl e)).trans ((Gr.of_grown HD.out.2).mono (fun k _ e => (show GH g gc k from .inl (by injection e with e; exact e.symm)))) (fun _ e => .inl e)⟩)
              exact AllReadyL.nil
        · have g6 : (er != 0) = true := by simpa using he
          have HR4 := Lib.hid (show R = (er, L2, H) by rw [HR3.out, if_neg he])
          clear HR3 he
          go_wp2
          go_ret
          exact ⟨by rw [HR4.out]; rfl, by rw [HR4.out]; exact q1, by rw [HR4.out]; exact hh2, hG⟩
    · have HR2 := Lib.hid (show R = (7, L, H) by rw [HR1.out, show getK Held.key H x.key = some H[i] from i2]; rfl)
      have g4 : decide ((0 : Int) ≤ idxH H x.acct x.num) = true := decide_eq_true (by omega)
      generalize idxH H x.acct x.num = ix at *
      clear HR1 i1 i2 i3
      go_enter Tryz.func64, Tryz.ntmps64
      go_wp2_with fail
      refine hA.out.mono ?_
      rintro e w1 ⟨rfl, rfl⟩
      go_wp2
      go_ret
      exact ⟨by rw [HR2.out]; rfl, by rw [HR2.out]; exact HC0.out, by rw [HR2.out]; exact H0.out, Gr.of_below hb0 _⟩
end Go.Proofs.YtampniiehgimhaaGreat
