/- Texts of this claim, laid together: Rf08P. -/
import Derived.Test.YtmljlkjomjflpaaGreatRows
import Derived.Test.YtmljlkjomjflpaaGreatHp17
import Derived.Test.YtmljlkjomjflpaaGreatHp8
import Derived.WalkKit
import Derived.WalkSpells
import Derived.WalkLawsBesides
import Derived.Deep.QuietTactic
import Derived.BigQuiet
import Derived.Laws.StructEq
import Derived.Deep.DeepFit
import Derived.StillTailTactics

/- ref08.Put -/
namespace Go.Proofs.YtmljlkjomjflpaaGreat
open Go.RowKit
theorem ins_loH {H : List Held} (hS : SrtL ltH H) {x : Held} {q : Nat} (hq : q - 1 < H.length) (hnl : ltH x H[q - 1] = false) (hno : ∀ a ∈ H, a.key ≠ x.key) : ∀ j (h : j < H.length), j < q → ltH H[j] x = true := by
  have h1 : ltH H[q - 1] x = true := by
    rcases keyH.co H[q - 1] x (hno _ (List.getElem_mem hq)) with h | h
    · exact h
    · rw [hnl] at h; cases h
  intro j hj hjq
  rcases Nat.lt_or_ge j (q - 1) with h | h
  · exact keyH.strict.trans _ _ _ (List.pairwise_iff_getElem.1 hS j (q - 1) hj hq h) h1
  · obtain rfl : j = q - 1 := by omega
    exact h1
theorem ins_okH {H : List Held} (hH : OkH H) {x : Held} (hx : x.acct.size ≤ maxLen) {q : Nat} : ∀ y ∈ H.take q ++ [x] ++ H.drop q, y.acct.size ≤ maxLen := by
  intro y hy
  rcases List.mem_append.1 hy with hy | hy
  · rcases List.mem_append.1 hy with hy | hy
    · exact (hH y (List.mem_of_mem_take hy)).2.2.2.2
    · simp only [List.mem_singleton] at hy; subst hy; exact hx
  · exact (hH y (List.mem_of_mem_drop hy)).2.2.2.2
theorem ltH_1 {x y : Held} (h : bless x.acct y.acct = true) : ltH x y = true := by unfold ltH; rw [h]; rfl
theorem ltH_2 {x y : Held} (h : bless x.acct y.acct = false) (h2 : x.acct ≠ y.acct) : ltH x y = false := by unfold ltH; rw [h, decide_eq_false h2]; rfl
theorem ltH_3 {x y : Held} (h : bless x.acct y.acct = false) (h2 : x.acct = y.acct) : ltH x y = decide (x.num < y.num) := by unfold ltH; rw [h, decide_eq_true h2]; rfl
set_option maxRecDepth 100000 in
set_option maxHeartbeats 16000000 in
theorem rhput_c (T : Nat → Prop) (g gc : Nat) (H : List Held) (L : List Ac) (x : Held) (w : World) (h : RhIs w T g H) (hc : RcIs w T gc L) (hL : OkA L) (hS : SrtL ltA L) (hl : L.length ≤ 65536) (hH : OkH H) (hSH : SrtL ltH H) (hn : H.length ≤ 60000) (h8 : (ofL H x.acct).length ≤ 8) (hx : R64 x.sum) (hxa : x.acct.size ≤ maxLen) (hTn : ∀ k, w.heap.size ≤ k → T k) (hTg : ¬ T g) (hTc : ¬ T gc) :
    Calls Tryz.prog 58 #[.pointer (some ⟨g, 0, none⟩), .pointer (some ⟨gc, 0, none⟩), x.v] w fun e w' => e = .returned (i64 (putH L H x).1) ∧ RcIs w' T gc (putH L H x).2.1 ∧ RhIs w' T g (putH L H x).2.2 ∧ Gr w w' (GH g gc) := by
  have hne := h.ne hc
  obtain ⟨R, hR⟩ : ∃ R, putH L H x = R := ⟨_, rfl⟩
  rw [hR]
  unfold putH at hR
  have HR := Lib.hid hR.symm
  have HL := Lib.hid hL
  have HS := Lib.hid hS
  have HH := Lib.hid hH
  have HSH := Lib.hid hSH
  have H8 := Lib.hid h8
  have Hx := Lib.hid hx
  have Hxa := Lib.hid hxa
  have HTn := Lib.hid hTn
  have HTg := Lib.hid hTg
  have HTc := Lib.hid hTc
  have Hlg := Lib.hid h.lt
  have Hlc := Lib.hid hc.lt
  have hb0 := (Below.refl w.heap.size w).alloc (Nat.le_refl _) (.cells #[i64 x.num, .string x.acct, i64 x.sum] 104)
  have h0 := h.later hb0
  have hc0 := hc.later hb0
  have hx0 := heap_alloc_new w (.cells #[i64 x.num, .string x.acct, i64 x.sum] 104)
  clear hR hL hS hH hSH h8 hx hxa hTn hTg hTc h hc
  by_cases hbad : x.num < 1 ∨ 9999 < x.num ∨ x.sum < 1
  · have HR1 := Lib.hid (show R = (1, L, H) by rw [HR.out, if_pos hbad])
    have H0 := Lib.hid h0
    have HC0 := Lib.hid hc0
    clear HR
    by_cases h1 : x.num < 1
    · have g1 : decide (x.num < 1) = true := decide_eq_true h1
      clear h1 hbad
      go_enter Tryz.func58, Tryz.ntmps58
      go_wp2
      go_ret
      exact ⟨by rw [HR1.out]; rfl, by rw [HR1.out]; exact HC0.out, by rw [HR1.out]; exact H0.out, Gr.of_below hb0 _⟩
    · have g1 : decide (x.num < 1) = false := decide_eq_false h1
      by_cases h2 : 9999 < x.num
      · have g2 : decide (9999 < x.num) = true := decide_eq_true h2
        clear h1 h2 hbad
        go_enter Tryz.func58, Tryz.ntmps58
        go_wp2
        go_ret
        exact ⟨by rw [HR1.out]; rfl, by rw [HR1.out]; exact HC0.out, by rw [HR1.out]; exact H0.out, Gr.of_below hb0 _⟩
      · have g2 : decide (9999 < x.num) = false := decide_eq_false h2
        have g3 : decide (x.sum < 1) = true := decide_eq_true ((hbad.resolve_left h1).resolve_left h2)
        clear h1 h2 hbad
        go_enter Tryz.func58, Tryz.ntmps58
        go_wp2
        go_ret
        exact ⟨by rw [HR1.out]; rfl, by rw [HR1.out]; exact HC0.out, by rw [HR1.out]; exact H0.out, Gr.of_below hb0 _⟩
  · have g1 : decide (x.num < 1) = false := decide_eq_false (fun e => hbad (.inl e))
    have g2 : decide (9999 < x.num) = false := decide_eq_false (fun e => hbad (.inr (.inl e)))
    have g3 : decide (x.sum < 1) = false := decide_eq_false (fun e => hbad (.inr (.inr e)))
    have HR1 := Lib.hid (show R = _ by rw [HR.out, if_neg hbad])
    have hA := Lib.hid (rhat_c T g H x.acct x.num _ h0 (by omega))
    have H0 := Lib.hid h0
    have HC0 := Lib.hid hc0
    clear HR hbad h0 hc0
    have n0 := cell_of_row _ w.heap.size 0 _ _ (0, 0) hx0
    have n1 := cell_of_row _ w.heap.size 1 _ _ (0, 0) hx0
    have n2 := cell_of_row _ w.heap.size 2 _ _ (0, 0) hx0
    simp only [List.getElem?_toArray, List.getElem?_cons_zero, List.getElem?_cons_succ] at n0 n1 n2
    rcases idxH_get (H := H) (k := x.acct) (n := x.num) with ⟨i1, i2⟩ | ⟨i, hi, i1, i2, i3⟩
    · have HR2 := Lib.hid (show R = _ by rw [HR1.out, show getK Held.key H x.key = none from i2, if_neg (by decide)])
      have Hno := Lib.hid (show ∀ a ∈ H, a.key ≠ x.key from getK_none.1 i2)
      have g4 : decide ((0 : Int) ≤ idxH H x.acct x.num) = false := decide_eq_false (by omega)
      generalize idxH H x.acct x.num = ix at *
      have hOf := Lib.hid (rhof_c T g H x.acct _ H0.out (by omega))
      clear HR1 i1 i2
      go_enter Tryz.func58, Tryz.ntmps58
      go_wp2_with fail
      generalize hw0 : w.alloc (.cells #[i64 x.num, .string x.acct, i64 x.sum] 104) = w0 at *
      have Hw0 := Lib.hid hw0
      clear hw0
      refine hA.out.mono ?_
      rintro e w1 ⟨rfl, rfl⟩
      clear hA
      go_wp2_with fail
      refine hOf.out.mono ?_
      rintro e w1 ⟨v, rfl, hO, hF⟩
      obtain ⟨A5, c5, rfl, -⟩ := hO.sl
      have hb1 := below_on hb0 (Nat.le_refl _) hF
      have H1 := Lib.hid (H0.out.later hF)
      have hc1 := HC0.out.later hF
      have hx1 := (hF.block _ (Array.getElem?_eq_some_iff.1 hx0).1).trans hx0
      have n0 := (hF.cell (p := ⟨w.heap.size, 0, none⟩) (World.block_lt_of_cell? _ _ n0)).trans n0
      have n1 := (hF.cell (p := ⟨w.heap.size, 1, none⟩) (World.block_lt_of_cell? _ _ n1)).trans n1
      have n2 := (hF.cell (p := ⟨w.heap.size, 2, none⟩) (World.block_lt_of_cell? _ _ n2)).trans n2
      clear hF hO hOf H0 HC0 hx0 hb0
      have hm8 := H8.out
      generalize (ofL H x.acct).length = m at *
      by_cases hm : m = 8
      · have g5 : decide ((8 : Int) ≤ (m : Int)) = true := decide_eq_true (by omega)
        have HR3 := Lib.hid (show R = (5, L, H) by rw [HR2.out, if_pos hm])
        have HC1 := Lib.hid hc1
        clear HR2 hm hc1
        go_wp2
        go_ret
        exact ⟨by rw [HR3.out]; rfl, by rw [HR3.out]; exact HC1.out, by rw [HR3.out]; exact H1.out, Gr.of_below hb1 _⟩
      · have g5 : decide ((8 : Int) ≤ (m : Int)) = false := decide_eq_false (by omega)
        have HR3 := Lib.hid (show R = _ by rw [HR2.out, if_neg hm])
        have hAs := Lib.hid (raside_c T gc L x.acct x.sum w1 hc1 hl HL.out HS.out Hx.out (fun k hk => HTn.out k (Nat.le_trans hb1.size hk)) HTc.out)
        generalize turnL (asiD x.sum) L x.acct x.sum = tt at *
        obtain ⟨er, L2⟩ := tt
        dsimp only at hAs HR3
        clear HR2 hm hm8 hc1 H8
        go_wp2_with fail
        refine hAs.out.mono ?_
        rintro e w2 ⟨rfl, q1, q2⟩
        have hG : Gr w w2 (GH g gc) := (Gr.of_below hb1 (GH g gc)).trans ((Gr.of_grown q2).mono (fun k _ e => .inr (by injection e with e; exact e.symm))) (fun _ e => .inl e)
        have hh2 := H1.out.kept (Gr.of_grown q2) (fun e => hne (by injection e with e; exact e.symm)) (fun k hk e => HTc.out (by injection e with e; rw [e]; exact hk))
        have hx2 := (q2.block _ (Array.getElem?_eq_some_iff.1 hx1).1 (fun e => by injection e with e; have := Hlc.out; omega)).trans hx1
        have Hsz := Lib.hid (show w.heap.size ≤ w2.heap.size from hG.size)
        clear hAs q2 hx1 hb1 H1 n0 n1 n2
        by_cases he : er = 0
        · have g6 : (er != 0) = false := by rw [he]; rfl
          have HR4 := Lib.hid (show R = (er, L2, insB ltH x H) by rw [HR3.out, if_pos he])
          have Q1 := Lib.hid q1
          have H2 := Lib.hid hh2
          obtain ⟨A, c, hgc, hs, hf⟩ := hh2
          have c0 := cell_of_row _ g 0 _ _ (0, 0) hgc
          have n0 := cell_of_row _ w.heap.size 0 _ _ (0, 0) hx2
          have n1 := cell_of_row _ w.heap.size 1 _ _ (0, 0) hx2
          have n2 := cell_of_row _ w.heap.size 2 _ _ (0, 0) hx2
          simp only [List.getElem?_toArray, List.getElem?_cons_zero, List.getElem?_cons_succ] at c0 n0 n1 n2
          have Hc := Lib.hid hgc
          have Hs := Lib.hid hs
          have hlg2 : g < w2.heap.size := (Array.getElem?_eq_some_iff.1 hgc).1
          have hlx2 : w.heap.size < w2.heap.size := (Array.getElem?_eq_some_iff.1 hx2).1
          have hlc := hs.1
          clear hgc hs HR3 q1 hx2
          rw [he] at HR4
          clear he
          go_wp2_with fail
          go_loopw [8] (fun i wr => ∃ q : Nat, i = i64 q ∧ q ≤ H.length ∧ (∀ j (h : j < H.length), q ≤ j → ltH x H[j] = true) ∧ Below w2.heap.size w2 wr) (fun i _ => (intOf i).toNat)
          case atStart => exact ⟨H.length, rfl, Nat.le_refl _, fun j h1 h2 => by omega, Below.refl _ _⟩
          case round =>
            obtain ⟨q, rfl, hq, hup, hB⟩ := hrel
            have Hup := Lib.hid hup
            clear hup
            rcases Nat.eq_zero_or_pos q with hq0 | hq0
            · have g7 : decide ((0 : Int) < (q : Int)) = false := decide_eq_false (by omega)
              have g8 : decide (0 < q) = false := decide_eq_false (by omega)
              rcases hf with ⟨rfl, rfl⟩ | ⟨b, o, rfl⟩
              · have hL0 : H = [] := by
                  rcases H with _ | ⟨a, r⟩
                  · rfl
                  · simp at hlc
                subst hL0
                subst hq0
                go_wp2_with fail
                refine wp_region_noPanic ?_
                refine wp_region_held_drew (S := fun _ => True) (by kernel_rfl) (trivial) (fun hH => ?_)
                refine wpAnyH_take (i := 0) (v := ?v1) rfl (by kernel_rfl) (by kernel_rfl) (by kernel_rfl) (fun _ _ _ h => h) (Or.inl ⟨by kernel_rfl, ?hy1⟩) (by assumption) ?r1
                case hy1 => (intro W hSW; obtain ⟨s0⟩ := hSW; go_simp; try with_reducible rfl)
                simp only [Act.put, List.getElem_toArray, List.getElem_cons_zero, List.setIfInBounds_toArray, List.set_cons_zero, List.set_cons_succ]
                refine wpAnyH_take (i := 1) (v := ?v2) rfl (by kernel_rfl) (by kernel_rfl) (by kernel_rfl) (fun _ _ _ h => h) (Or.inl ⟨by kernel_rfl, ?hy2⟩) (by assumption) ?r2
                case hy2 => (intro W hSW; obtain ⟨s0⟩ := hSW; go_simp; try with_reducible rfl)
                simp only [Act.put, List.getElem_toArray, List.getElem_cons_zero, List.getElem_cons_succ, List.setIfInBounds_toArray, List.set_cons_zero, List.set_cons_succ]
                refine wpAnyH_take (i := 2) (v := ?v3) rfl (by kernel_rfl) (by kernel_rfl) (by kernel_rfl) (fun _ _ _ h => h) (Or.inl ⟨by kernel_rfl, ?hy3⟩) (by assumption) ?r3
                case hy3 => (intro W hSW; obtain ⟨s0⟩ := hSW; go_simp; try with_reducible rfl)
                simp only [Act.put, List.getElem_toArray, List.getElem_cons_zero, List.getElem_cons_succ, List.setIfInBounds_toArray, List.set_cons_zero, List.set_cons_succ]
                refine wpAnyH_take (i := 3) (v := undef) rfl (by kernel_rfl) (by kernel_rfl) (by kernel_rfl) (fun _ _ _ h => h) (Or.inr ⟨by kernel_rfl, rfl⟩) (by assumption) ?r4
                simp only [Act.put, List.getElem_toArray, List.getElem_cons_zero, List.getElem_cons_succ, List.setIfInBounds_toArray, List.set_cons_zero, List.set_cons_succ]
                refine wpAnyH_take (i := 4) (v := undef) rfl (by kernel_rfl) (by kernel_rfl) (by kernel_rfl) (fun _ _ _ h => h) (Or.inr ⟨by kernel_rfl, rfl⟩) (by assumption) ?r5
                simp only [Act.put, List.getElem_toArray, List.getElem_cons_zero, List.getElem_cons_succ, List.setIfInBounds_toArray, List.set_cons_zero, List.set_cons_succ]
                refine wpAnyH_take (i := 5) (v := undef) rfl (by kernel_rfl) (by kernel_rfl) (by kernel_rfl) (fun _ _ _ h => h) (Or.inr ⟨by kernel_rfl, rfl⟩) (by assumption) ?r6
                simp only [Act.put, List.getElem_toArray, List.getElem_cons_zero, List.getElem_cons_succ, List.setIfInBounds_toArray, List.set_cons_zero, List.set_cons_succ]
                refine wpAnyH_take (i := 6) (v := undef) rfl (by kernel_rfl) (by kernel_rfl) (by kernel_rfl) (fun _ _ _ h => h) (Or.inr ⟨by kernel_rfl, rfl⟩) (by assumption) ?r7
                simp only [Act.put, List.getElem_toArray, List.getElem_cons_zero, List.getElem_cons_succ, List.setIfInBounds_toArray, List.set_cons_zero, List.set_cons_succ]
                refine wpAnyH_take (i := 7) (v := undef) rfl (by kernel_rfl) (by kernel_rfl) (by kernel_rfl) (fun _ _ _ h => h) (Or.inr ⟨by kernel_rfl, rfl⟩) (by assumption) ?r8
                simp only [Act.put, List.getElem_toArray, List.getElem_cons_zero, List.getElem_cons_succ, List.setIfInBounds_toArray, List.set_cons_zero, List.set_cons_succ]
                refine wpAnyH_take (i := 8) (v := undef) rfl (by kernel_rfl) (by kernel_rfl) (by kernel_rfl) (fun _ _ _ h => h) (Or.inr ⟨by kernel_rfl, rfl⟩) (by assumption) ?r9
                simp only [Act.put, List.getElem_toArray, List.getElem_cons_zero, List.getElem_cons_succ, List.setIfInBounds_toArray, List.set_cons_zero, List.set_cons_succ]
                refine wpAnyH_take (i := 9) (v := undef) rfl (by kernel_rfl) (by kernel_rfl) (by kernel_rfl) (fun _ _ _ h => h) (Or.inr ⟨by kernel_rfl, rfl⟩) (by assumption) ?r10
                simp only [Act.put, List.getElem_toArray, List.getElem_cons_zero, List.getElem_cons_succ, List.setIfInBounds_toArray, List.set_cons_zero, List.set_cons_succ]
                refine wpAnyH_take (i := 10) (v := undef) rfl (by kernel_rfl) (by kernel_rfl) (by kernel_rfl) (fun _ _ _ h => h) (Or.inr ⟨by kernel_rfl, rfl⟩) (by assumption) ?r11
                simp only [Act.put, List.getElem_toArray, List.getElem_cons_zero, List.getElem_cons_succ, List.setIfInBounds_toArray, List.set_cons_zero, List.set_cons_succ]
                refine wpAnyH_take (i := 11) (v := undef) rfl (by kernel_rfl) (by kernel_rfl) (by kernel_rfl) (fun _ _ _ h => h) (Or.inr ⟨by kernel_rfl, rfl⟩) (by assumption) ?r12
                simp only [Act.put, List.getElem_toArray, List.getElem_cons_zero, List.getElem_cons_succ, List.setIfInBounds_toArray, List.set_cons_zero, List.set_cons_succ]
                refine wpAnyH_take (i := 12) (v := undef) rfl (by kernel_rfl) (by kernel_rfl) (by kernel_rfl) (fun _ _ _ h => h) (Or.inr ⟨by kernel_rfl, rfl⟩) (by assumption) ?r13
                simp only [Act.put, List.getElem_toArray, List.getElem_cons_zero, List.getElem_cons_succ, List.setIfInBounds_toArray, List.set_cons_zero, List.set_cons_succ]
                refine wpAnyH_take (i := 13) (v := undef) rfl (by kernel_rfl) (by kernel_rfl) (by kernel_rfl) (fun _ _ _ h => h) (Or.inr ⟨by kernel_rfl, rfl⟩) (by assumption) ?r14
                simp only [Act.put, List.getElem_toArray, List.getElem_cons_zero, List.getElem_cons_succ, List.setIfInBounds_toArray, List.set_cons_zero, List.set_cons_succ]
                refine wpAnyH_take (i := 14) (v := undef) rfl (by kernel_rfl) (by kernel_rfl) (by kernel_rfl) (fun _ _ _ h => h) (Or.inr ⟨by kernel_rfl, rfl⟩) (by assumption) ?r15
                simp only [Act.put, List.getElem_toArray, List.getElem_cons_zero, List.getElem_cons_succ, List.setIfInBounds_toArray, List.set_cons_zero, List.set_cons_succ]
                refine wpAnyH_take (i := 15) (v := undef) rfl (by kernel_rfl) (by kernel_rfl) (by kernel_rfl) (fun _ _ _ h => h) (Or.inr ⟨by kernel_rfl, rfl⟩) (by assumption) ?r16
                simp only [Act.put, List.getElem_toArray, List.getElem_cons_zero, List.getElem_cons_succ, List.setIfInBounds_toArray, List.set_cons_zero, List.set_cons_succ]
                refine wpAnyH_take (i := 16) (v := undef) rfl (by kernel_rfl) (by kernel_rfl) (by kernel_rfl) (fun _ _ _ h => h) (Or.inr ⟨by kernel_rfl, rfl⟩) (by assumption) ?r17
                simp only [Act.put, List.getElem_toArray, List.getElem_cons_zero, List.getElem_cons_succ, List.setIfInBounds_toArray, List.set_cons_zero, List.set_cons_succ]
                refine wpAnyH_take (i := 17) (v := undef) rfl (by kernel_rfl) (by kernel_rfl) (by kernel_rfl) (fun _ _ _ h => h) (Or.inr ⟨by kernel_rfl, rfl⟩) (by assumption) ?r18
                simp only [Act.put, List.getElem_toArray, List.getElem_cons_zero, List.getElem_cons_succ, List.setIfInBounds_toArray, List.set_cons_zero, List.set_cons_succ]
                refine wpAnyH_take (i := 18) (v := undef) rfl (by kernel_rfl) (by kernel_rfl) (by kernel_rfl) (fun _ _ _ h => h) (Or.inr ⟨by kernel_rfl, rfl⟩) (by assumption) ?r19
                simp only [Act.put, List.getElem_toArray, List.getElem_cons_zero, List.getElem_cons_succ, List.setIfInBounds_toArray, List.set_cons_zero, List.set_cons_succ]
                refine wpAnyH_take (i := 19) (v := undef) rfl (by kernel_rfl) (by kernel_rfl) (by kernel_rfl) (fun _ _ _ h => h) (Or.inr ⟨by kernel_rfl, rfl⟩) (by assumption) ?r20
                simp only [Act.put, List.getElem_toArray, List.getElem_cons_zero, List.getElem_cons_succ, List.setIfInBounds_toArray, List.set_cons_zero, List.set_cons_succ]
                refine wpAnyH_take (i := 20) (v := undef) rfl (by kernel_rfl) (by kernel_rfl) (by kernel_rfl) (fun _ _ _ h => h) (Or.inr ⟨by kernel_rfl, rfl⟩) (by assumption) ?r21
                simp only [Act.put, List.getElem_toArray, List.getElem_cons_zero, List.getElem_cons_succ, List.setIfInBounds_toArray, List.set_cons_zero, List.set_cons_succ]
                refine wpAnyH_take (i := 21) (v := undef) rfl (by kernel_rfl) (by kernel_rfl) (by kernel_rfl) (fun _ _ _ h => h) (Or.inr ⟨by kernel_rfl, rfl⟩) (by assumption) ?r22
                simp only [Act.put, List.getElem_toArray, List.getElem_cons_zero, List.getElem_cons_succ, List.setIfInBounds_toArray, List.set_cons_zero, List.set_cons_succ]
                refine wpAnyH_take (i := 22) (v := undef) rfl (by kernel_rfl) (by kernel_rfl) (by kernel_rfl) (fun _ _ _ h => h) (Or.inr ⟨by kernel_rfl, rfl⟩) (by assumption) ?r23
                simp only [Act.put, List.getElem_toArray, List.getElem_cons_zero, List.getElem_cons_succ, List.setIfInBounds_toArray, List.set_cons_zero, List.set_cons_succ]
                refine wpAnyH_take (i := 23) (v := undef) rfl (by kernel_rfl) (by kernel_rfl) (by kernel_rfl) (fun _ _ _ h => h) (Or.inr ⟨by kernel_rfl, rfl⟩) (by assumption) ?r24
                simp only [Act.put, List.getElem_toArray, List.getElem_cons_zero, List.getElem_cons_succ, List.setIfInBounds_toArray, List.set_cons_zero, List.set_cons_succ]
                refine wpAnyH_take (i := 24) (v := undef) rfl (by kernel_rfl) (by kernel_rfl) (by kernel_rfl) (fun _ _ _ h => h) (Or.inr ⟨by kernel_rfl, rfl⟩) (by assumption) ?r25
                simp only [Act.put, List.getElem_toArray, List.getElem_cons_zero, List.getElem_cons_succ, List.setIfInBounds_toArray, List.set_cons_zero, List.set_cons_succ]
                refine wpAnyH_take (i := 25) (v := undef) rfl (by kernel_rfl) (by kernel_rfl) (by kernel_rfl) (fun _ _ _ h => h) (Or.inr ⟨by kernel_rfl, rfl⟩) (by assumption) ?r26
                simp only [Act.put, List.getElem_toArray, List.getElem_cons_zero, List.getElem_cons_succ, List.setIfInBounds_toArray, List.set_cons_zero, List.set_cons_succ]
                refine wpAnyH_take (i := 26) (v := undef) rfl (by kernel_rfl) (by kernel_rfl) (by kernel_rfl) (fun _ _ _ h => h) (Or.inr ⟨by kernel_rfl, rfl⟩) (by assumption) ?r27
                simp only [Act.put, List.getElem_toArray, List.getElem_cons_zero, List.getElem_cons_succ, List.setIfInBounds_toArray, List.set_cons_zero, List.set_cons_succ]
                refine wpAnyH_take (i := 27) (v := undef) rfl (by kernel_rfl) (by kernel_rfl) (by kernel_rfl) (fun _ _ _ h => h) (Or.inr ⟨by kernel_rfl, rfl⟩) (by assumption) ?r28
                simp only [Act.put, List.getElem_toArray, List.getElem_cons_zero, List.getElem_cons_succ, List.setIfInBounds_toArray, List.set_cons_zero, List.set_cons_succ]
                refine wpAnyH_take (i := 28) (v := undef) rfl (by kernel_rfl) (by kernel_rfl) (by kernel_rfl) (fun _ _ _ h => h) (Or.inr ⟨by kernel_rfl, rfl⟩) (by assumption) ?r29
                simp only [Act.put, List.getElem_toArray, List.getElem_cons_zero, List.getElem_cons_succ, List.setIfInBounds_toArray, List.set_cons_zero, List.set_cons_succ]
                refine wpAnyH_take (i := 29) (v := undef) rfl (by kernel_rfl) (by kernel_rfl) (by kernel_rfl) (fun _ _ _ h => h) (Or.inr ⟨by kernel_rfl, rfl⟩) (by assumption) ?r30
                simp only [Act.put, List.getElem_toArray, List.getElem_cons_zero, List.getElem_cons_succ, List.setIfInBounds_toArray, List.set_cons_zero, List.set_cons_succ]
                refine wpAnyH_take (i := 30) (v := undef) rfl (by kernel_rfl) (by kernel_rfl) (by kernel_rfl) (fun _ _ _ h => h) (Or.inr ⟨by kernel_rfl, rfl⟩) (by assumption) ?r31
                simp only [Act.put, List.getElem_toArray, List.getElem_cons_zero, List.getElem_cons_succ, List.setIfInBounds_toArray, List.set_cons_zero, List.set_cons_succ]
                refine wpAnyH_take (i := 31) (v := undef) rfl (by kernel_rfl) (by kernel_rfl) (by kernel_rfl) (fun _ _ _ h => h) (Or.inr ⟨by kernel_rfl, rfl⟩) (by assumption) ?r32
                simp only [Act.put, List.getElem_toArray, List.getElem_cons_zero, List.getElem_cons_succ, List.setIfInBounds_toArray, List.set_cons_zero, List.set_cons_succ]
                refine wpAnyH_take (i := 32) (v := undef) rfl (by kernel_rfl) (by kernel_rfl) (by kernel_rfl) (fun _ _ _ h => h) (Or.inr ⟨by kernel_rfl, rfl⟩) (by assumption) ?r33
                simp only [Act.put, List.getElem_toArray, List.getElem_cons_zero, List.getElem_cons_succ, List.setIfInBounds_toArray, List.set_cons_zero, List.set_cons_succ]
                refine wpAnyH_take (i := 33) (v := undef) rfl (by kernel_rfl) (by kernel_rfl) (by kernel_rfl) (fun _ _ _ h => h) (Or.inr ⟨by kernel_rfl, rfl⟩) (by assumption) ?r34
                simp only [Act.put, List.getElem_toArray, List.getElem_cons_zero, List.getElem_cons_succ, List.setIfInBounds_toArray, List.set_cons_zero, List.set_cons_succ]
                refine wpAnyH_take (i := 34) (v := undef) rfl (by kernel_rfl) (by kernel_rfl) (by kernel_rfl) (fun _ _ _ h => h) (Or.inr ⟨by kernel_rfl, rfl⟩) (by assumption) ?r35
                simp only [Act.put, List.getElem_toArray, List.getElem_cons_zero, List.getElem_cons_succ, List.setIfInBounds_toArray, List.set_cons_zero, List.set_cons_succ]
                refine wpAnyH_take (i := 35) (v := undef) rfl (by kernel_rfl) (by kernel_rfl) (by kernel_rfl) (fun _ _ _ h => h) (Or.inr ⟨by kernel_rfl, rfl⟩) (by assumption) ?r36
                simp only [Act.put, List.getElem_toArray, List.getElem_cons_zero, List.getElem_cons_succ, List.setIfInBounds_toArray, List.set_cons_zero, List.set_cons_succ]
                refine wpAnyH_take (i := 36) (v := undef) rfl (by kernel_rfl) (by kernel_rfl) (by kernel_rfl) (fun _ _ _ h => h) (Or.inr ⟨by kernel_rfl, rfl⟩) (by assumption) ?r37
                simp only [Act.put, List.getElem_toArray, List.getElem_cons_zero, List.getElem_cons_succ, List.setIfInBounds_toArray, List.set_cons_zero, List.set_cons_succ]
                refine wpAnyH_take (i := 37) (v := undef) rfl (by kernel_rfl) (by kernel_rfl) (by kernel_rfl) (fun _ _ _ h => h) (Or.inr ⟨by kernel_rfl, rfl⟩) (by assumption) ?r38
                simp only [Act.put, List.getElem_toArray, List.getElem_cons_zero, List.getElem_cons_succ, List.setIfInBounds_toArray, List.set_cons_zero, List.set_cons_succ]
                refine wpAnyH_take (i := 38) (v := undef) rfl (by kernel_rfl) (by kernel_rfl) (by kernel_rfl) (fun _ _ _ h => h) (Or.inr ⟨by kernel_rfl, rfl⟩) (by assumption) ?r39
                simp only [Act.put, List.getElem_toArray, List.getElem_cons_zero, List.getElem_cons_succ, List.setIfInBounds_toArray, List.set_cons_zero, List.set_cons_succ]
                refine wpAnyH_take (i := 39) (v := undef) rfl (by kernel_rfl) (by kernel_rfl) (by kernel_rfl) (fun _ _ _ h => h) (Or.inr ⟨by kernel_rfl, rfl⟩) (by assumption) ?r40
                simp only [Act.put, List.getElem_toArray, List.getElem_cons_zero, List.getElem_cons_succ, List.setIfInBounds_toArray, List.set_cons_zero, List.set_cons_succ]
                refine wpAnyH_take (i := 40) (v := undef) rfl (by kernel_rfl) (by kernel_rfl) (by kernel_rfl) (fun _ _ _ h => h) (Or.inr ⟨by kernel_rfl, rfl⟩) (by assumption) ?r41
                simp only [Act.put, List.getElem_toArray, List.getElem_cons_zero, List.getElem_cons_succ, List.setIfInBounds_toArray, List.set_cons_zero, List.set_cons_succ]
                refine wpAnyH_take (i := 41) (v := undef) rfl (by kernel_rfl) (by kernel_rfl) (by kernel_rfl) (fun _ _ _ h => h) (Or.inr ⟨by kernel_rfl, rfl⟩) (by assumption) ?r42
                simp only [Act.put, List.getElem_toArray, List.getElem_cons_zero, List.getElem_cons_succ, List.setIfInBounds_toArray, List.set_cons_zero, List.set_cons_succ]
                refine wpAnyH_take (i := 42) (v := undef) rfl (by kernel_rfl) (by kernel_rfl) (by kernel_rfl) (fun _ _ _ h => h) (Or.inr ⟨by kernel_rfl, rfl⟩) (by assumption) ?r43
                simp only [Act.put, List.getElem_toArray, List.getElem_cons_zero, List.getElem_cons_succ, List.setIfInBounds_toArray, List.set_cons_zero, List.set_cons_succ]
                refine wpAnyH_take (i := 43) (v := ?v44) rfl (by kernel_rfl) (by kernel_rfl) (by kernel_rfl) (fun _ _ _ h => h) (Or.inl ⟨by kernel_rfl, ?hy44⟩) (by assumption) ?r44
                case hy44 => (intro W hSW; obtain ⟨s0⟩ := hSW; go_simp; try with_reducible rfl)
                simp only [Act.put, List.getElem_toArray, List.getElem_cons_zero, List.getElem_cons_succ, List.setIfInBounds_toArray, List.set_cons_zero, List.set_cons_succ]
                refine wpAnyH_done (by kernel_rfl) ?_ _
                refine NoPanic.normal ?_
                obtain ⟨wq, hwq⟩ : ∃ wq, wq = wr.drew := ⟨_, rfl⟩
                rw [← hwq]
                have hB : Below w2.heap.size w2 wq := by rw [hwq]; exact hB.drew
                clear hwq
                go_wp2_with fail
                have HI := Lib.hid (insB_at keyH.strict x ([] : List Held) 0 HSH.out (by omega) (fun j h _ => absurd h (by simp)) (fun j h _ => absurd h (by simp)))
                have HBq := Lib.hid hB
                have hcq := Lib.hid ((hB.block _ hlg2).trans Hc.out)
                have hlgq := Nat.lt_of_lt_of_le hlg2 hB.size
                have c0q := (hB.cell (p := ⟨g, 0, none⟩) hlg2).trans c0
                have hsq := Lib.hid (Hs.out.below_ hB)
                have hTk := Lib.hid (fun (V : World) (h : Below wq.heap.size wq V) => (show SlS V (Oth V (.slice none 0 0)) none 0 (([] : List Held).take 0) from ((hsq.out.below_ h).take 0).keep (fun _ _ => rfl) (fun b hb => ⟨hb.1, by simp [Value.ownBlock]⟩)))
                have hDr := Lib.hid (fun (V : World) (h : Below wq.heap.size wq V) => (show Sl V wq.heap.size none (0 - 0) (([] : List Held).drop 0) from ((hsq.out.mono (fun b hb => hb.1)).drop (by omega)).below h))
                have Hql := Lib.hid (show 0 = (([] : List Held).take 0).length by rw [List.length_take]; omega)
                have HSS := Lib.hid (show ∀ V, Below wq.heap.size wq V → (fun V : World => V.cell? ⟨g, 0, none⟩ = some (.slice none 0 0) ∧ V.cell? ⟨w.heap.size, 0, none⟩ = some (i64 x.num) ∧ V.cell? ⟨w.heap.size, 1, none⟩ = some (.string x.acct) ∧ V.cell? ⟨w.heap.size, 2, none⟩ = some (i64 x.sum)) V from fun V h => ⟨(h.cell (World.block_lt_of_cell? _ _ c0q)).trans c0q, (h.cell (Nat.lt_of_lt_of_le hlx2 hB.size)).trans ((hB.cell (p := ⟨w.heap.size, 0, none⟩) hlx2).trans n0), (h.cell (Nat.lt_of_lt_of_le hlx2 hB.size)).trans ((hB.cell (p := ⟨w.heap.size, 1, none⟩) hlx2).trans n1), (h.cell (Nat.lt_of_lt_of_le hlx2 hB.size)).trans ((hB.cell (p := ⟨w.heap.size, 2, none⟩) hlx2).trans n2)⟩)
                have q1 : ((0 : Nat) : Int) ≤ (0 : Int) := by omega
                have q2 : ((0 : Nat) : Int) ≤ (([] : List Held).length : Int) := by omega
                have q3 : (([] : List Held).length : Int) ≤ (0 : Int) := by omega
                have q0 : (0 : Int) ≤ ((0 : Nat) : Int) := by omega
                clear hB c0 n0 n1 n2
                have hb : Below wq.heap.size wq wq.drew := (Below.refl _ _).drew
                refine wp_region_noPanic ?_
                refine wp_region_l 20 (fun V => V.cell? ⟨g, 0, none⟩ = some (.slice none 0 0) ∧ V.cell? ⟨w.heap.size, 0, none⟩ = some (i64 x.num) ∧ V.cell? ⟨w.heap.size, 1, none⟩ = some (.string x.acct) ∧ V.cell? ⟨w.heap.size, 2, none⟩ = some (i64 x.sum)) (by kernel_rfl) (HSS.out _ hb) (fun hH => ?_)
                refine wpAnyL_take (i := 0) (v := ?v5001) rfl (by kernel_rfl) (by kernel_rfl) (by kernel_rfl) (by kernel_rfl) (fun _ _ _ h => h) (Or.inl ⟨by kernel_rfl, ?hy5001⟩) (by assumption) ?r5001
                case hy5001 => (intro W hSW; obtain ⟨s0, s1, s2, s3⟩ := hSW; go_simp; try with_reducible rfl)
                try simp only [Act.put, List.getElem_toArray, List.getElem_cons_zero, List.setIfInBounds_toArray, List.set_cons_zero, List.set_cons_succ]
                refine wpAnyL_take (i := 1) (v := ?v5002) rfl (by kernel_rfl) (by kernel_rfl) (by kernel_rfl) (by kernel_rfl) (fun _ _ _ h => h) (Or.inl ⟨by kernel_rfl, ?hy5002⟩) (by assumption) ?r5002
                case hy5002 => (intro W hSW; obtain ⟨s0, s1, s2, s3⟩ := hSW; go_simp; try with_reducible rfl)
                try simp only [Act.put, List.getElem_toArray, List.getElem_cons_zero, List.getElem_cons_succ, List.setIfInBounds_toArray, List.set_cons_zero, List.set_cons_succ]
                refine wpAnyL_take (i := 2) (v := ?v5003) rfl (by kernel_rfl) (by kernel_rfl) (by kernel_rfl) (by kernel_rfl) (fun _ _ _ h => h) (Or.inl ⟨by kernel_rfl, ?hy5003⟩) (by assumption) ?r5003
                case hy5003 => (intro W hSW; obtain ⟨s0, s1, s2, s3⟩ := hSW; go_simp; try with_reducible rfl)
                try simp only [Act.put, List.getElem_toArray, List.getElem_cons_zero, List.getElem_cons_succ, List.setIfInBounds_toArray, List.set_cons_zero, List.set_cons_succ]
                refine wpAnyL_take (i := 3) (v := ?v5004) rfl (by kernel_rfl) (by kernel_rfl) (by kernel_rfl) (by kernel_rfl) (fun _ _ _ h => h) (Or.inl ⟨by kernel_rfl, ?hy5004⟩) (by assumption) ?r5004
                case hy5004 => (intro W hSW; obtain ⟨s0, s1, s2, s3⟩ := hSW; go_simp; try with_reducible rfl)
                try simp only [Act.put, List.getElem_toArray, List.getElem_cons_zero, List.getElem_cons_succ, List.setIfInBounds_toArray, List.set_cons_zero, List.set_cons_succ]
                refine wpAnyL_take (i := 4) (v := ?v5005) rfl (by kernel_rfl) (by kernel_rfl) (by kernel_rfl) (by kernel_rfl) (fun _ _ _ h => h) (Or.inl ⟨by kernel_rfl, ?hy5005⟩) (by assumption) ?r5005
                case hy5005 => (intro W hSW; obtain ⟨s0, s1, s2, s3⟩ := hSW; go_simp; try with_reducible rfl)
                try simp only [Act.put, List.getElem_toArray, List.getElem_cons_zero, List.getElem_cons_succ, List.setIfInBounds_toArray, List.set_cons_zero, List.set_cons_succ]
                refine wpAnyL_take (i := 5) (v := ?v5006) rfl (by kernel_rfl) (by kernel_rfl) (by kernel_rfl) (by kernel_rfl) (fun _ _ _ h => h) (Or.inl ⟨by kernel_rfl, ?hy5006⟩) (by assumption) ?r5006
                case hy5006 => (intro W hSW; obtain ⟨s0, s1, s2, s3⟩ := hSW; go_simp; try with_reducible rfl)
                try simp only [Act.put, List.getElem_toArray, List.getElem_cons_zero, List.getElem_cons_succ, List.setIfInBounds_toArray, List.set_cons_zero, List.set_cons_succ]
                refine wpAnyL_take (i := 6) (v := ?v5007) rfl (by kernel_rfl) (by kernel_rfl) (by kernel_rfl) (by kernel_rfl) (fun _ _ _ h => h) (Or.inl ⟨by kernel_rfl, ?hy5007⟩) (by assumption) ?r5007
                case hy5007 => (intro W hSW; obtain ⟨s0, s1, s2, s3⟩ := hSW; go_simp; try with_reducible rfl)
                try simp only [Act.put, List.getElem_toArray, List.getElem_cons_zero, List.getElem_cons_succ, List.setIfInBounds_toArray, List.set_cons_zero, List.set_cons_succ]
                refine wpAnyL_take (i := 8) (v := ?v5008) rfl (by kernel_rfl) (by kernel_rfl) (by kernel_rfl) (by kernel_rfl) (fun _ _ _ h => h) (Or.inl ⟨by kernel_rfl, ?hy5008⟩) (by assumption) ?r5008
                case hy5008 => (intro W hSW; obtain ⟨s0, s1, s2, s3⟩ := hSW; go_simp; try with_reducible rfl)
                try simp only [Act.put, List.getElem_toArray, List.getElem_cons_zero, List.getElem_cons_succ, List.setIfInBounds_toArray, List.set_cons_zero, List.set_cons_succ]
                refine wpAnyL_take (i := 11) (v := ?v5009) rfl (by kernel_rfl) (by kernel_rfl) (by kernel_rfl) (by kernel_rfl) (fun _ _ _ h => h) (Or.inl ⟨by kernel_rfl, ?hy5009⟩) (by assumption) ?r5009
                case hy5009 => (intro W hSW; obtain ⟨s0, s1, s2, s3⟩ := hSW; go_simp; try with_reducible rfl)
                try simp only [Act.put, List.getElem_toArray, List.getElem_cons_zero, List.getElem_cons_succ, List.setIfInBounds_toArray, List.set_cons_zero, List.set_cons_succ]
                refine wpAnyL_take (i := 12) (v := ?v5010) rfl (by kernel_rfl) (by kernel_rfl) (by kernel_rfl) (by kernel_rfl) (fun _ _ _ h => h) (Or.inl ⟨by kernel_rfl, ?hy5010⟩) (by assumption) ?r5010
                case hy5010 => (intro W hSW; obtain ⟨s0, s1, s2, s3⟩ := hSW; go_simp; try with_reducible rfl)
                try simp only [Act.put, List.getElem_toArray, List.getElem_cons_zero, List.getElem_cons_succ, List.setIfInBounds_toArray, List.set_cons_zero, List.set_cons_succ]
                refine wpAnyL_take (i := 13) (v := ?v5011) rfl (by kernel_rfl) (by kernel_rfl) (by kernel_rfl) (by kernel_rfl) (fun _ _ _ h => h) (Or.inl ⟨by kernel_rfl, ?hy5011⟩) (by assumption) ?r5011
                case hy5011 => (intro W hSW; obtain ⟨s0, s1, s2, s3⟩ := hSW; go_simp; try with_reducible rfl)
                try simp only [Act.put, List.getElem_toArray, List.getElem_cons_zero, List.getElem_cons_succ, List.setIfInBounds_toArray, List.set_cons_zero, List.set_cons_succ]
                refine wpAnyL_take (i := 14) (v := ?v5012) rfl (by kernel_rfl) (by kernel_rfl) (by kernel_rfl) (by kernel_rfl) (fun _ _ _ h => h) (Or.inl ⟨by kernel_rfl, ?hy5012⟩) (by assumption) ?r5012
                case hy5012 => (intro W hSW; obtain ⟨s0, s1, s2, s3⟩ := hSW; go_simp; try with_reducible rfl)
                try simp only [Act.put, List.getElem_toArray, List.getElem_cons_zero, List.getElem_cons_succ, List.setIfInBounds_toArray, List.set_cons_zero, List.set_cons_succ]
                refine wpAnyL_take (i := 15) (v := ?v5013) rfl (by kernel_rfl) (by kernel_rfl) (by kernel_rfl) (by kernel_rfl) (fun _ _ _ h => h) (Or.inl ⟨by kernel_rfl, ?hy5013⟩) (by assumption) ?r5013
                case hy5013 => (intro W hSW; obtain ⟨s0, s1, s2, s3⟩ := hSW; go_simp; try with_reducible rfl)
                try simp only [Act.put, List.getElem_toArray, List.getElem_cons_zero, List.getElem_cons_succ, List.setIfInBounds_toArray, List.set_cons_zero, List.set_cons_succ]
                refine wpAnyL_take (i := 16) (v := ?v5014) rfl (by kernel_rfl) (by kernel_rfl) (by kernel_rfl) (by kernel_rfl) (fun _ _ _ h => h) (Or.inl ⟨by kernel_rfl, ?hy5014⟩) (by assumption) ?r5014
                case hy5014 => (intro W hSW; obtain ⟨s0, s1, s2, s3⟩ := hSW; go_simp; try with_reducible rfl)
                try simp only [Act.put, List.getElem_toArray, List.getElem_cons_zero, List.getElem_cons_succ, List.setIfInBounds_toArray, List.set_cons_zero, List.set_cons_succ]
                refine wpAnyL_ready (rs := [7, 9]) (by kernel_rfl) (by simp) ?_
                refine AllReadyL.cons rfl (fun K hK => ?_) ?_
                · skip
                  rw [if_pos (by rfl)]
                  refine oper_append (.const (.slice none 0 0)) (.tmp 101) 31 rfl (.agg #[i64 0, .string ByteArray.empty, i64 0]) 32 Tryz.underlying31 rheldInfo rfl (by decide) (by decide) rfl (Own.nil_ _ wq.heap.size 104) none 0 0 (([] : List Held).take 0) rfl Hql.out (hTk.out _ hb) (by simp <;> omega) hb.size ?_
                  intro v1 u1 hO1 hg1 hat1
                  rw [List.nil_append] at hO1
                  have hF := (Own.nil_ (α := Held) _ _ 104).below hg1 (Nat.le_refl _) (Nat.le_refl _)
                  have hb := below_on hb (Nat.le_refl _) hF
                  have HO1 := Lib.hid hO1
                  clear hF hg1 hat1 hO1
                  refine hK.out _ _ (HSS.out _ hb) (fun hH => ?_)
                  clear hK K
                  try simp only [Act.put, List.getElem_toArray, List.getElem_cons_zero, List.getElem_cons_succ, List.setIfInBounds_toArray, List.set_cons_zero, List.set_cons_succ]
                  refine wpAnyL_one (i := 9) (by kernel_rfl) rfl (by decide) (fun K hK => ?_)
                  go_simp
                  have hgl : (u1.alloc (.cells #[i64 x.num, .string x.acct, i64 x.sum] 104)).heap[u1.heap.size]? = some (.cells #[i64 x.num, .string x.acct, i64 x.sum] 104 (0, 0)) := heap_alloc_new u1 _
                  have hne1 := HO1.out.new_ne (Nat.le_refl u1.heap.size)
                  have HO1 := Lib.hid (HO1.out.later ((Below.refl _ _).alloc (Nat.le_refl _) (.cells #[i64 x.num, .string x.acct, i64 x.sum] 104)))
                  have hb := hb.alloc hb.size (.cells #[i64 x.num, .string x.acct, i64 x.sum] 104)
                  refine hK.out _ _ (HSS.out _ hb) (fun hH => ?_)
                  clear hK K
                  try simp only [Act.put, List.getElem_toArray, List.getElem_cons_zero, List.getElem_cons_succ, List.setIfInBounds_toArray, List.set_cons_zero, List.set_cons_succ]
                  refine wpAnyL_one (i := 10) (by kernel_rfl) rfl (by decide) (fun K hK => ?_)
                  rw [if_pos (by rfl)]
                  refine oper_append_one (.tmp 102) (.tmp 104) 31 rfl (.agg #[i64 0, .string ByteArray.empty, i64 0]) 32 Tryz.underlying31 rheldInfo rfl (by decide) (by decide) rfl HO1.out u1.heap.size x (by rfl) _ 104 hgl rfl hne1 Hxa.out (by rw [← Hql.out]; omega) hb.size ?_
                  intro v2 u2 hO2 hg2 hat2
                  have hb := hb.trans (HO1.out.below hg2 (Nat.le_refl _) hb.size)
                  have HO2 := Lib.hid hO2
                  clear hg2 hat2 hO2 HO1 hgl hne1
                  refine hK.out _ _ (HSS.out _ hb) (fun hH => ?_)
                  clear hK K
                  try simp only [Act.put, List.getElem_toArray, List.getElem_cons_zero, List.getElem_cons_succ, List.setIfInBounds_toArray, List.set_cons_zero, List.set_cons_succ]
                  refine wpAnyL_one (i := 17) (by kernel_rfl) rfl (by decide) (fun K hK => ?_)
                  rw [if_pos (by rfl)]
                  refine oper_append (.tmp 105) (.tmp 111) 31 rfl (.agg #[i64 0, .string ByteArray.empty, i64 0]) 32 Tryz.underlying31 rheldInfo rfl (by decide) (by decide) rfl HO2.out _ _ _ (([] : List Held).drop 0) rfl (by simp) ((hDr.out _ hb).mono (HO2.out.oth (Nat.le_refl _) hb.size)) (by simp <;> omega) hb.size ?_
                  intro v3 u3 hO3 hg3 hat3
                  obtain ⟨A3, cap3, hv3, -⟩ := hO3.sl
                  generalize List.length _ = n3 at hv3
                  subst hv3
                  have hb := hb.trans (HO2.out.below hg3 (Nat.le_refl _) hb.size)
                  have HO3 := Lib.hid hO3
                  clear hg3 hat3 hO3 HO2
                  refine hK.out _ _ (HSS.out _ hb) (fun hH => ?_)
                  clear hK K
                  try simp only [Act.put, List.getElem_toArray, List.getElem_cons_zero, List.getElem_cons_succ, List.setIfInBounds_toArray, List.set_cons_zero, List.set_cons_succ]
                  refine wpAnyL_take (i := 18) (v := ?v5015) rfl (by kernel_rfl) (by kernel_rfl) (by kernel_rfl) (by kernel_rfl) (fun _ _ _ h => h) (Or.inl ⟨by kernel_rfl, ?hy5015⟩) (by assumption) ?r5015
                  case hy5015 => (intro W hSW; obtain ⟨s0, s1, s2, s3⟩ := hSW; go_simp; try with_reducible rfl)
                  try simp only [Act.put, List.getElem_toArray, List.getElem_cons_zero, List.getElem_cons_succ, List.setIfInBounds_toArray, List.set_cons_zero, List.set_cons_succ]
                  refine wpAnyL_take (i := 19) (v := ?v5016) rfl (by kernel_rfl) (by kernel_rfl) (by kernel_rfl) (by kernel_rfl) (fun _ _ _ h => h) (Or.inl ⟨by kernel_rfl, ?hy5016⟩) (by assumption) ?r5016
                  case hy5016 => (intro W hSW; obtain ⟨s0, s1, s2, s3⟩ := hSW; go_simp; try with_reducible rfl)
                  try simp only [Act.put, List.getElem_toArray, List.getElem_cons_zero, List.getElem_cons_succ, List.setIfInBounds_toArray, List.set_cons_zero, List.set_cons_succ]
                  refine wpAnyL_last (by kernel_rfl) rfl (fun K hK => ?_)
                  have c3 := (hb.cell (p := ⟨g, 0, none⟩) hlgq).trans c0q
                  have hg3 := Lib.hid ((hb.block _ hlgq).trans hcq.out)
                  have f3 := frozen_of_row _ g 0 _ _ hg3.out
                  go_simp
                  refine hK.out _ _ ?_
                  clear hK K
                  try simp only [Act.put, List.getElem_toArray, List.getElem_cons_zero, List.getElem_cons_succ, List.setIfInBounds_toArray, List.set_cons_zero, List.set_cons_succ]
                  refine wpAnyL_done (by kernel_rfl) ?_ _
                  refine NoPanic.normal ?_
                  have hD := rh_put (Nat.le_refl _) hb hlgq (fun k hk => HTn.out k (Nat.le_trans (Nat.le_trans Hsz.out HBq.out.size) hk)) hg3.out HO3.out (ins_okH HH.out Hxa.out)
                  have HD := Lib.hid hD
                  clear hD
                  go_wp2
                  all_goals (go_ret; exact ⟨by rw [HR4.out]; rfl, by rw [HR4.out]; exact (Q1.out.later HBq.out).kept (Gr.of_grown HD.out.2) (fun e => hne (by injection e)) (fun k hk e => HTg.out (by injection e with e; rw [e]; exact hk)), by rw [HR4.out, HI.out, List.append_cons]; exact HD.out.1, (hG.trans (Gr.of_below HBq.out (GH g gc)) (fun _ e => .inl e)).trans ((Gr.of_grown HD.out.2).mono (fun k _ e => (show GH g gc k from .inl (by injection e with e; exact e.symm)))) (fun _ e => .inl e)⟩)
                refine AllReadyL.cons rfl (fun K hK => ?_) ?_
                · skip
                  go_simp
                  obtain ⟨gl, hgl, hgl2⟩ : ∃ gl, gl = wq.heap.size ∧ (wq.drew.alloc (.cells #[i64 x.num, .string x.acct, i64 x.sum] 104)).heap[gl]? = some (.cells #[i64 x.num, .string x.acct, i64 x.sum] 104 (0, 0)) := ⟨_, rfl, heap_alloc_new wq.drew _⟩
                  have Hgl := Lib.hid hgl
                  clear hgl
                  have hgl := hgl2
                  clear hgl2
                  have hb := hb.alloc hb.size (.cells #[i64 x.num, .string x.acct, i64 x.sum] 104)
                  refine hK.out _ _ (HSS.out _ hb) (fun hH => ?_)
                  clear hK K
                  try simp only [Act.put, List.getElem_toArray, List.getElem_cons_zero, List.getElem_cons_succ, List.setIfInBounds_toArray, List.set_cons_zero, List.set_cons_succ]
                  refine wpAnyL_one (i := 7) (by kernel_rfl) rfl (by decide) (fun K hK => ?_)
                  rw [if_pos (by rfl)]
                  refine oper_append (.const (.slice none 0 0)) (.tmp 101) 31 rfl (.agg #[i64 0, .string ByteArray.empty, i64 0]) 32 Tryz.underlying31 rheldInfo rfl (by decide) (by decide) rfl (Own.nil_ _ wq.heap.size 104) none 0 0 (([] : List Held).take 0) rfl Hql.out (hTk.out _ hb) (by simp <;> omega) hb.size ?_
                  intro v1 u1 hO1 hg1 hat1
                  rw [List.nil_append] at hO1
                  have hF := (Own.nil_ (α := Held) _ _ 104).below hg1 (Nat.le_refl _) (Nat.le_refl _)
                  have hne1 : some gl ≠ v1.ownBlock := by
                    rcases hat1 with h | h
                    · have h2 : v1.ownBlock = none := h
                      rw [h2]; simp
                    · have h2 : v1.ownBlock = some (wq.heap.size + 1) := by rw [h]; simp
                      rw [h2, Hgl.out]; intro e; injection e with e; omega
                  have hgl := (hF.block _ (Array.getElem?_eq_some_iff.1 hgl).1).trans hgl
                  have hb := below_on hb (Nat.le_refl _) hF
                  have HO1 := Lib.hid hO1
                  clear hF hg1 hat1 hO1
                  refine hK.out _ _ (HSS.out _ hb) (fun hH => ?_)
                  clear hK K
                  try simp only [Act.put, List.getElem_toArray, List.getElem_cons_zero, List.getElem_cons_succ, List.setIfInBounds_toArray, List.set_cons_zero, List.set_cons_succ]
                  refine wpAnyL_one (i := 10) (by kernel_rfl) rfl (by decide) (fun K hK => ?_)
                  rw [if_pos (by rfl)]
                  refine oper_append_one (.tmp 102) (.tmp 104) 31 rfl (.agg #[i64 0, .string ByteArray.empty, i64 0]) 32 Tryz.underlying31 rheldInfo rfl (by decide) (by decide) rfl HO1.out gl x (by rw [Hgl.out]; rfl) _ 104 hgl rfl hne1 Hxa.out (by rw [← Hql.out]; omega) hb.size ?_
                  intro v2 u2 hO2 hg2 hat2
                  have hb := hb.trans (HO1.out.below hg2 (Nat.le_refl _) hb.size)
                  have HO2 := Lib.hid hO2
                  clear hg2 hat2 hO2 HO1 hgl hne1
                  refine hK.out _ _ (HSS.out _ hb) (fun hH => ?_)
                  clear hK K
                  try simp only [Act.put, List.getElem_toArray, List.getElem_cons_zero, List.getElem_cons_succ, List.setIfInBounds_toArray, List.set_cons_zero, List.set_cons_succ]
                  refine wpAnyL_one (i := 17) (by kernel_rfl) rfl (by decide) (fun K hK => ?_)
                  rw [if_pos (by rfl)]
                  refine oper_append (.tmp 105) (.tmp 111) 31 rfl (.agg #[i64 0, .string ByteArray.empty, i64 0]) 32 Tryz.underlying31 rheldInfo rfl (by decide) (by decide) rfl HO2.out _ _ _ (([] : List Held).drop 0) rfl (by simp) ((hDr.out _ hb).mono (HO2.out.oth (Nat.le_refl _) hb.size)) (by simp <;> omega) hb.size ?_
                  intro v3 u3 hO3 hg3 hat3
                  obtain ⟨A3, cap3, hv3, -⟩ := hO3.sl
                  generalize List.length _ = n3 at hv3
                  subst hv3
                  have hb := hb.trans (HO2.out.below hg3 (Nat.le_refl _) hb.size)
                  have HO3 := Lib.hid hO3
                  clear hg3 hat3 hO3 HO2
                  refine hK.out _ _ (HSS.out _ hb) (fun hH => ?_)
                  clear hK K
                  try simp only [Act.put, List.getElem_toArray, List.getElem_cons_zero, List.getElem_cons_succ, List.setIfInBounds_toArray, List.set_cons_zero, List.set_cons_succ]
                  refine wpAnyL_take (i := 18) (v := ?v5017) rfl (by kernel_rfl) (by kernel_rfl) (by kernel_rfl) (by kernel_rfl) (fun _ _ _ h => h) (Or.inl ⟨by kernel_rfl, ?hy5017⟩) (by assumption) ?r5017
                  case hy5017 => (intro W hSW; obtain ⟨s0, s1, s2, s3⟩ := hSW; go_simp; try with_reducible rfl)
                  try simp only [Act.put, List.getElem_toArray, List.getElem_cons_zero, List.getElem_cons_succ, List.setIfInBounds_toArray, List.set_cons_zero, List.set_cons_succ]
                  refine wpAnyL_take (i := 19) (v := ?v5018) rfl (by kernel_rfl) (by kernel_rfl) (by kernel_rfl) (by kernel_rfl) (fun _ _ _ h => h) (Or.inl ⟨by kernel_rfl, ?hy5018⟩) (by assumption) ?r5018
                  case hy5018 => (intro W hSW; obtain ⟨s0, s1, s2, s3⟩ := hSW; go_simp; try with_reducible rfl)
                  try simp only [Act.put, List.getElem_toArray, List.getElem_cons_zero, List.getElem_cons_succ, List.setIfInBounds_toArray, List.set_cons_zero, List.set_cons_succ]
                  refine wpAnyL_last (by kernel_rfl) rfl (fun K hK => ?_)
                  have c3 := (hb.cell (p := ⟨g, 0, none⟩) hlgq).trans c0q
                  have hg3 := Lib.hid ((hb.block _ hlgq).trans hcq.out)
                  have f3 := frozen_of_row _ g 0 _ _ hg3.out
                  go_simp
                  refine hK.out _ _ ?_
                  clear hK K
                  try simp only [Act.put, List.getElem_toArray, List.getElem_cons_zero, List.getElem_cons_succ, List.setIfInBounds_toArray, List.set_cons_zero, List.set_cons_succ]
                  refine wpAnyL_done (by kernel_rfl) ?_ _
                  refine NoPanic.normal ?_
                  have hD := rh_put (Nat.le_refl _) hb hlgq (fun k hk => HTn.out k (Nat.le_trans (Nat.le_trans Hsz.out HBq.out.size) hk)) hg3.out HO3.out (ins_okH HH.out Hxa.out)
                  have HD := Lib.hid hD
                  clear hD
                  go_wp2
                  all_goals (go_ret; exact ⟨by rw [HR4.out]; rfl, by rw [HR4.out]; exact (Q1.out.later HBq.out).kept (Gr.of_grown HD.out.2) (fun e => hne (by injection e)) (fun k hk e => HTg.out (by injection e with e; rw [e]; exact hk)), by rw [HR4.out, HI.out, List.append_cons]; exact HD.out.1, (hG.trans (Gr.of_below HBq.out (GH g gc)) (fun _ e => .inl e)).trans ((Gr.of_grown HD.out.2).mono (fun k _ e => (show GH g gc k from .inl (by injection e with e; exact e.symm)))) (fun _ e => .inl e)⟩)
                exact AllReadyL.nil
              · have Hq0 := Lib.hid hq0
                clear hq0
                go_wp2_with fail
                refine wp_region_noPanic ?_
                refine wp_region_held_drew (S := fun _ => True) (by kernel_rfl) (trivial) (fun hH => ?_)
                refine wpAnyH_take (i := 0) (v := ?v45) rfl (by kernel_rfl) (by kernel_rfl) (by kernel_rfl) (fun _ _ _ h => h) (Or.inl ⟨by kernel_rfl, ?hy45⟩) (by assumption) ?r45
                case hy45 => (intro W hSW; obtain ⟨s0⟩ := hSW; go_simp; try with_reducible rfl)
                simp only [Act.put, List.getElem_toArray, List.getElem_cons_zero, List.setIfInBounds_toArray, List.set_cons_zero, List.set_cons_succ]
                refine wpAnyH_take (i := 1) (v := ?v46) rfl (by kernel_rfl) (by kernel_rfl) (by kernel_rfl) (fun _ _ _ h => h) (Or.inl ⟨by kernel_rfl, ?hy46⟩) (by assumption) ?r46
                case hy46 => (intro W hSW; obtain ⟨s0⟩ := hSW; go_simp; try with_reducible rfl)
                simp only [Act.put, List.getElem_toArray, List.getElem_cons_zero, List.getElem_cons_succ, List.setIfInBounds_toArray, List.set_cons_zero, List.set_cons_succ]
                refine wpAnyH_take (i := 2) (v := ?v47) rfl (by kernel_rfl) (by kernel_rfl) (by kernel_rfl) (fun _ _ _ h => h) (Or.inl ⟨by kernel_rfl, ?hy47⟩) (by assumption) ?r47
                case hy47 => (intro W hSW; obtain ⟨s0⟩ := hSW; go_simp; try with_reducible rfl)
                simp only [Act.put, List.getElem_toArray, List.getElem_cons_zero, List.getElem_cons_succ, List.setIfInBounds_toArray, List.set_cons_zero, List.set_cons_succ]
                refine wpAnyH_take (i := 3) (v := undef) rfl (by kernel_rfl) (by kernel_rfl) (by kernel_rfl) (fun _ _ _ h => h) (Or.inr ⟨by kernel_rfl, rfl⟩) (by assumption) ?r48
                simp only [Act.put, List.getElem_toArray, List.getElem_cons_zero, List.getElem_cons_succ, List.setIfInBounds_toArray, List.set_cons_zero, List.set_cons_succ]
                refine wpAnyH_take (i := 4) (v := undef) rfl (by kernel_rfl) (by kernel_rfl) (by kernel_rfl) (fun _ _ _ h => h) (Or.inr ⟨by kernel_rfl, rfl⟩) (by assumption) ?r49
                simp only [Act.put, List.getElem_toArray, List.getElem_cons_zero, List.getElem_cons_succ, List.setIfInBounds_toArray, List.set_cons_zero, List.set_cons_succ]
                refine wpAnyH_take (i := 5) (v := undef) rfl (by kernel_rfl) (by kernel_rfl) (by kernel_rfl) (fun _ _ _ h => h) (Or.inr ⟨by kernel_rfl, rfl⟩) (by assumption) ?r50
                simp only [Act.put, List.getElem_toArray, List.getElem_cons_zero, List.getElem_cons_succ, List.setIfInBounds_toArray, List.set_cons_zero, List.set_cons_succ]
                refine wpAnyH_take (i := 6) (v := undef) rfl (by kernel_rfl) (by kernel_rfl) (by kernel_rfl) (fun _ _ _ h => h) (Or.inr ⟨by kernel_rfl, rfl⟩) (by assumption) ?r51
                simp only [Act.put, List.getElem_toArray, List.getElem_cons_zero, List.getElem_cons_succ, List.setIfInBounds_toArray, List.set_cons_zero, List.set_cons_succ]
                refine wpAnyH_take (i := 7) (v := undef) rfl (by kernel_rfl) (by kernel_rfl) (by kernel_rfl) (fun _ _ _ h => h) (Or.inr ⟨by kernel_rfl, rfl⟩) (by assumption) ?r52
                simp only [Act.put, List.getElem_toArray, List.getElem_cons_zero, List.getElem_cons_succ, List.setIfInBounds_toArray, List.set_cons_zero, List.set_cons_succ]
                refine wpAnyH_take (i := 8) (v := undef) rfl (by kernel_rfl) (by kernel_rfl) (by kernel_rfl) (fun _ _ _ h => h) (Or.inr ⟨by kernel_rfl, rfl⟩) (by assumption) ?r53
                simp only [Act.put, List.getElem_toArray, List.getElem_cons_zero, List.getElem_cons_succ, List.setIfInBounds_toArray, List.set_cons_zero, List.set_cons_succ]
                refine wpAnyH_take (i := 9) (v := undef) rfl (by kernel_rfl) (by kernel_rfl) (by kernel_rfl) (fun _ _ _ h => h) (Or.inr ⟨by kernel_rfl, rfl⟩) (by assumption) ?r54
                simp only [Act.put, List.getElem_toArray, List.getElem_cons_zero, List.getElem_cons_succ, List.setIfInBounds_toArray, List.set_cons_zero, List.set_cons_succ]
                refine wpAnyH_take (i := 10) (v := undef) rfl (by kernel_rfl) (by kernel_rfl) (by kernel_rfl) (fun _ _ _ h => h) (Or.inr ⟨by kernel_rfl, rfl⟩) (by assumption) ?r55
                simp only [Act.put, List.getElem_toArray, List.getElem_cons_zero, List.getElem_cons_succ, List.setIfInBounds_toArray, List.set_cons_zero, List.set_cons_succ]
                refine wpAnyH_take (i := 11) (v := undef) rfl (by kernel_rfl) (by kernel_rfl) (by kernel_rfl) (fun _ _ _ h => h) (Or.inr ⟨by kernel_rfl, rfl⟩) (by assumption) ?r56
                simp only [Act.put, List.getElem_toArray, List.getElem_cons_zero, List.getElem_cons_succ, List.setIfInBounds_toArray, List.set_cons_zero, List.set_cons_succ]
                refine wpAnyH_take (i := 12) (v := undef) rfl (by kernel_rfl) (by kernel_rfl) (by kernel_rfl) (fun _ _ _ h => h) (Or.inr ⟨by kernel_rfl, rfl⟩) (by assumption) ?r57
                simp only [Act.put, List.getElem_toArray, List.getElem_cons_zero, List.getElem_cons_succ, List.setIfInBounds_toArray, List.set_cons_zero, List.set_cons_succ]
                refine wpAnyH_take (i := 13) (v := undef) rfl (by kernel_rfl) (by kernel_rfl) (by kernel_rfl) (fun _ _ _ h => h) (Or.inr ⟨by kernel_rfl, rfl⟩) (by assumption) ?r58
                simp only [Act.put, List.getElem_toArray, List.getElem_cons_zero, List.getElem_cons_succ, List.setIfInBounds_toArray, List.set_cons_zero, List.set_cons_succ]
                refine wpAnyH_take (i := 14) (v := undef) rfl (by kernel_rfl) (by kernel_rfl) (by kernel_rfl) (fun _ _ _ h => h) (Or.inr ⟨by kernel_rfl, rfl⟩) (by assumption) ?r59
                simp only [Act.put, List.getElem_toArray, List.getElem_cons_zero, List.getElem_cons_succ, List.setIfInBounds_toArray, List.set_cons_zero, List.set_cons_succ]
                refine wpAnyH_take (i := 15) (v := undef) rfl (by kernel_rfl) (by kernel_rfl) (by kernel_rfl) (fun _ _ _ h => h) (Or.inr ⟨by kernel_rfl, rfl⟩) (by assumption) ?r60
                simp only [Act.put, List.getElem_toArray, List.getElem_cons_zero, List.getElem_cons_succ, List.setIfInBounds_toArray, List.set_cons_zero, List.set_cons_succ]
                refine wpAnyH_take (i := 16) (v := undef) rfl (by kernel_rfl) (by kernel_rfl) (by kernel_rfl) (fun _ _ _ h => h) (Or.inr ⟨by kernel_rfl, rfl⟩) (by assumption) ?r61
                simp only [Act.put, List.getElem_toArray, List.getElem_cons_zero, List.getElem_cons_succ, List.setIfInBounds_toArray, List.set_cons_zero, List.set_cons_succ]
                refine wpAnyH_take (i := 17) (v := undef) rfl (by kernel_rfl) (by kernel_rfl) (by kernel_rfl) (fun _ _ _ h => h) (Or.inr ⟨by kernel_rfl, rfl⟩) (by assumption) ?r62
                simp only [Act.put, List.getElem_toArray, List.getElem_cons_zero, List.getElem_cons_succ, List.setIfInBounds_toArray, List.set_cons_zero, List.set_cons_succ]
                refine wpAnyH_take (i := 18) (v := undef) rfl (by kernel_rfl) (by kernel_rfl) (by kernel_rfl) (fun _ _ _ h => h) (Or.inr ⟨by kernel_rfl, rfl⟩) (by assumption) ?r63
                simp only [Act.put, List.getElem_toArray, List.getElem_cons_zero, List.getElem_cons_succ, List.setIfInBounds_toArray, List.set_cons_zero, List.set_cons_succ]
                refine wpAnyH_take (i := 19) (v := undef) rfl (by kernel_rfl) (by kernel_rfl) (by kernel_rfl) (fun _ _ _ h => h) (Or.inr ⟨by kernel_rfl, rfl⟩) (by assumption) ?r64
                simp only [Act.put, List.getElem_toArray, List.getElem_cons_zero, List.getElem_cons_succ, List.setIfInBounds_toArray, List.set_cons_zero, List.set_cons_succ]
                refine wpAnyH_take (i := 20) (v := undef) rfl (by kernel_rfl) (by kernel_rfl) (by kernel_rfl) (fun _ _ _ h => h) (Or.inr ⟨by kernel_rfl, rfl⟩) (by assumption) ?r65
                simp only [Act.put, List.getElem_toArray, List.getElem_cons_zero, List.getElem_cons_succ, List.setIfInBounds_toArray, List.set_cons_zero, List.set_cons_succ]
                refine wpAnyH_take (i := 21) (v := undef) rfl (by kernel_rfl) (by kernel_rfl) (by kernel_rfl) (fun _ _ _ h => h) (Or.inr ⟨by kernel_rfl, rfl⟩) (by assumption) ?r66
                simp only [Act.put, List.getElem_toArray, List.getElem_cons_zero, List.getElem_cons_succ, List.setIfInBounds_toArray, List.set_cons_zero, List.set_cons_succ]
                refine wpAnyH_take (i := 22) (v := undef) rfl (by kernel_rfl) (by kernel_rfl) (by kernel_rfl) (fun _ _ _ h => h) (Or.inr ⟨by kernel_rfl, rfl⟩) (by assumption) ?r67
                simp only [Act.put, List.getElem_toArray, List.getElem_cons_zero, List.getElem_cons_succ, List.setIfInBounds_toArray, List.set_cons_zero, List.set_cons_succ]
                refine wpAnyH_take (i := 23) (v := undef) rfl (by kernel_rfl) (by kernel_rfl) (by kernel_rfl) (fun _ _ _ h => h) (Or.inr ⟨by kernel_rfl, rfl⟩) (by assumption) ?r68
                simp only [Act.put, List.getElem_toArray, List.getElem_cons_zero, List.getElem_cons_succ, List.setIfInBounds_toArray, List.set_cons_zero, List.set_cons_succ]
                refine wpAnyH_take (i := 24) (v := undef) rfl (by kernel_rfl) (by kernel_rfl) (by kernel_rfl) (fun _ _ _ h => h) (Or.inr ⟨by kernel_rfl, rfl⟩) (by assumption) ?r69
                simp only [Act.put, List.getElem_toArray, List.getElem_cons_zero, List.getElem_cons_succ, List.setIfInBounds_toArray, List.set_cons_zero, List.set_cons_succ]
                refine wpAnyH_take (i := 25) (v := undef) rfl (by kernel_rfl) (by kernel_rfl) (by kernel_rfl) (fun _ _ _ h => h) (Or.inr ⟨by kernel_rfl, rfl⟩) (by assumption) ?r70
                simp only [Act.put, List.getElem_toArray, List.getElem_cons_zero, List.getElem_cons_succ, List.setIfInBounds_toArray, List.set_cons_zero, List.set_cons_succ]
                refine wpAnyH_take (i := 26) (v := undef) rfl (by kernel_rfl) (by kernel_rfl) (by kernel_rfl) (fun _ _ _ h => h) (Or.inr ⟨by kernel_rfl, rfl⟩) (by assumption) ?r71
                simp only [Act.put, List.getElem_toArray, List.getElem_cons_zero, List.getElem_cons_succ, List.setIfInBounds_toArray, List.set_cons_zero, List.set_cons_succ]
                refine wpAnyH_take (i := 27) (v := undef) rfl (by kernel_rfl) (by kernel_rfl) (by kernel_rfl) (fun _ _ _ h => h) (Or.inr ⟨by kernel_rfl, rfl⟩) (by assumption) ?r72
                simp only [Act.put, List.getElem_toArray, List.getElem_cons_zero, List.getElem_cons_succ, List.setIfInBounds_toArray, List.set_cons_zero, List.set_cons_succ]
                refine wpAnyH_take (i := 28) (v := undef) rfl (by kernel_rfl) (by kernel_rfl) (by kernel_rfl) (fun _ _ _ h => h) (Or.inr ⟨by kernel_rfl, rfl⟩) (by assumption) ?r73
                simp only [Act.put, List.getElem_toArray, List.getElem_cons_zero, List.getElem_cons_succ, List.setIfInBounds_toArray, List.set_cons_zero, List.set_cons_succ]
                refine wpAnyH_take (i := 29) (v := undef) rfl (by kernel_rfl) (by kernel_rfl) (by kernel_rfl) (fun _ _ _ h => h) (Or.inr ⟨by kernel_rfl, rfl⟩) (by assumption) ?r74
                simp only [Act.put, List.getElem_toArray, List.getElem_cons_zero, List.getElem_cons_succ, List.setIfInBounds_toArray, List.set_cons_zero, List.set_cons_succ]
                refine wpAnyH_take (i := 30) (v := undef) rfl (by kernel_rfl) (by kernel_rfl) (by kernel_rfl) (fun _ _ _ h => h) (Or.inr ⟨by kernel_rfl, rfl⟩) (by assumption) ?r75
                simp only [Act.put, List.getElem_toArray, List.getElem_cons_zero, List.getElem_cons_succ, List.setIfInBounds_toArray, List.set_cons_zero, List.set_cons_succ]
                refine wpAnyH_take (i := 31) (v := undef) rfl (by kernel_rfl) (by kernel_rfl) (by kernel_rfl) (fun _ _ _ h => h) (Or.inr ⟨by kernel_rfl, rfl⟩) (by assumption) ?r76
                simp only [Act.put, List.getElem_toArray, List.getElem_cons_zero, List.getElem_cons_succ, List.setIfInBounds_toArray, List.set_cons_zero, List.set_cons_succ]
                refine wpAnyH_take (i := 32) (v := undef) rfl (by kernel_rfl) (by kernel_rfl) (by kernel_rfl) (fun _ _ _ h => h) (Or.inr ⟨by kernel_rfl, rfl⟩) (by assumption) ?r77
                simp only [Act.put, List.getElem_toArray, List.getElem_cons_zero, List.getElem_cons_succ, List.setIfInBounds_toArray, List.set_cons_zero, List.set_cons_succ]
                refine wpAnyH_take (i := 33) (v := undef) rfl (by kernel_rfl) (by kernel_rfl) (by kernel_rfl) (fun _ _ _ h => h) (Or.inr ⟨by kernel_rfl, rfl⟩) (by assumption) ?r78
                simp only [Act.put, List.getElem_toArray, List.getElem_cons_zero, List.getElem_cons_succ, List.setIfInBounds_toArray, List.set_cons_zero, List.set_cons_succ]
                refine wpAnyH_take (i := 34) (v := undef) rfl (by kernel_rfl) (by kernel_rfl) (by kernel_rfl) (fun _ _ _ h => h) (Or.inr ⟨by kernel_rfl, rfl⟩) (by assumption) ?r79
                simp only [Act.put, List.getElem_toArray, List.getElem_cons_zero, List.getElem_cons_succ, List.setIfInBounds_toArray, List.set_cons_zero, List.set_cons_succ]
                refine wpAnyH_take (i := 35) (v := undef) rfl (by kernel_rfl) (by kernel_rfl) (by kernel_rfl) (fun _ _ _ h => h) (Or.inr ⟨by kernel_rfl, rfl⟩) (by assumption) ?r80
                simp only [Act.put, List.getElem_toArray, List.getElem_cons_zero, List.getElem_cons_succ, List.setIfInBounds_toArray, List.set_cons_zero, List.set_cons_succ]
                refine wpAnyH_take (i := 36) (v := undef) rfl (by kernel_rfl) (by kernel_rfl) (by kernel_rfl) (fun _ _ _ h => h) (Or.inr ⟨by kernel_rfl, rfl⟩) (by assumption) ?r81
                simp only [Act.put, List.getElem_toArray, List.getElem_cons_zero, List.getElem_cons_succ, List.setIfInBounds_toArray, List.set_cons_zero, List.set_cons_succ]
                refine wpAnyH_take (i := 37) (v := undef) rfl (by kernel_rfl) (by kernel_rfl) (by kernel_rfl) (fun _ _ _ h => h) (Or.inr ⟨by kernel_rfl, rfl⟩) (by assumption) ?r82
                simp only [Act.put, List.getElem_toArray, List.getElem_cons_zero, List.getElem_cons_succ, List.setIfInBounds_toArray, List.set_cons_zero, List.set_cons_succ]
                refine wpAnyH_take (i := 38) (v := undef) rfl (by kernel_rfl) (by kernel_rfl) (by kernel_rfl) (fun _ _ _ h => h) (Or.inr ⟨by kernel_rfl, rfl⟩) (by assumption) ?r83
                simp only [Act.put, List.getElem_toArray, List.getElem_cons_zero, List.getElem_cons_succ, List.setIfInBounds_toArray, List.set_cons_zero, List.set_cons_succ]
                refine wpAnyH_take (i := 39) (v := undef) rfl (by kernel_rfl) (by kernel_rfl) (by kernel_rfl) (fun _ _ _ h => h) (Or.inr ⟨by kernel_rfl, rfl⟩) (by assumption) ?r84
                simp only [Act.put, List.getElem_toArray, List.getElem_cons_zero, List.getElem_cons_succ, List.setIfInBounds_toArray, List.set_cons_zero, List.set_cons_succ]
                refine wpAnyH_take (i := 40) (v := undef) rfl (by kernel_rfl) (by kernel_rfl) (by kernel_rfl) (fun _ _ _ h => h) (Or.inr ⟨by kernel_rfl, rfl⟩) (by assumption) ?r85
                simp only [Act.put, List.getElem_toArray, List.getElem_cons_zero, List.getElem_cons_succ, List.setIfInBounds_toArray, List.set_cons_zero, List.set_cons_succ]
                refine wpAnyH_take (i := 41) (v := undef) rfl (by kernel_rfl) (by kernel_rfl) (by kernel_rfl) (fun _ _ _ h => h) (Or.inr ⟨by kernel_rfl, rfl⟩) (by assumption) ?r86
                simp only [Act.put, List.getElem_toArray, List.getElem_cons_zero, List.getElem_cons_succ, List.setIfInBounds_toArray, List.set_cons_zero, List.set_cons_succ]
                refine wpAnyH_take (i := 42) (v := undef) rfl (by kernel_rfl) (by kernel_rfl) (by kernel_rfl) (fun _ _ _ h => h) (Or.inr ⟨by kernel_rfl, rfl⟩) (by assumption) ?r87
                simp only [Act.put, List.getElem_toArray, List.getElem_cons_zero, List.getElem_cons_succ, List.setIfInBounds_toArray, List.set_cons_zero, List.set_cons_succ]
                refine wpAnyH_take (i := 43) (v := ?v88) rfl (by kernel_rfl) (by kernel_rfl) (by kernel_rfl) (fun _ _ _ h => h) (Or.inl ⟨by kernel_rfl, ?hy88⟩) (by assumption) ?r88
                case hy88 => (intro W hSW; obtain ⟨s0⟩ := hSW; go_simp; try with_reducible rfl)
                simp only [Act.put, List.getElem_toArray, List.getElem_cons_zero, List.getElem_cons_succ, List.setIfInBounds_toArray, List.set_cons_zero, List.set_cons_succ]
                refine wpAnyH_done (by kernel_rfl) ?_ _
                refine NoPanic.normal ?_
                obtain ⟨wq, hwq⟩ : ∃ wq, wq = wr.drew := ⟨_, rfl⟩
                rw [← hwq]
                have hB : Below w2.heap.size w2 wq := by rw [hwq]; exact hB.drew
                clear hwq
                go_wp2_with fail
                have HI := Lib.hid (insB_at keyH.strict x H q HSH.out (by omega) (fun j h hj => absurd hj (by have := Hq0.out; omega)) (fun j h hj => keyH.strict.asymm (Hup.out j h hj)))
                have HBq := Lib.hid hB
                have hcq := Lib.hid ((hB.block _ hlg2).trans Hc.out)
                have hlgq := Nat.lt_of_lt_of_le hlg2 hB.size
                have c0q := (hB.cell (p := ⟨g, 0, none⟩) hlg2).trans c0
                have hsq := Lib.hid (Hs.out.below_ hB)
                have hTk := Lib.hid (fun (V : World) (h : Below wq.heap.size wq V) => (show SlS V (Oth V (.slice none 0 0)) (some ⟨b, o, none⟩) c (H.take q) from ((hsq.out.below_ h).take q).keep (fun _ _ => rfl) (fun b hb => ⟨hb.1, by simp [Value.ownBlock]⟩)))
                have hDr := Lib.hid (fun (V : World) (h : Below wq.heap.size wq V) => (show Sl V wq.heap.size (if c = q then some ⟨b, o, none⟩ else some ⟨b, o + q * 3, none⟩) (c - q) (H.drop q) from by
                      have := ((hsq.out.mono (fun b hb => hb.1)).drop (k := q) (by omega)).below h
                      rwa [Option.map_some, show (⟨b, o, none⟩ : Addr).add (q * Enc.size Held) = ⟨b, o + q * 3, none⟩ from add_noneC ..] at this))
                have Hql := Lib.hid (show q = (H.take q).length by rw [List.length_take]; omega)
                have HSS := Lib.hid (show ∀ V, Below wq.heap.size wq V → (fun V : World => V.cell? ⟨g, 0, none⟩ = some (.slice (some ⟨b, o, none⟩) H.length c) ∧ V.cell? ⟨w.heap.size, 0, none⟩ = some (i64 x.num) ∧ V.cell? ⟨w.heap.size, 1, none⟩ = some (.string x.acct) ∧ V.cell? ⟨w.heap.size, 2, none⟩ = some (i64 x.sum)) V from fun V h => ⟨(h.cell (World.block_lt_of_cell? _ _ c0q)).trans c0q, (h.cell (Nat.lt_of_lt_of_le hlx2 hB.size)).trans ((hB.cell (p := ⟨w.heap.size, 0, none⟩) hlx2).trans n0), (h.cell (Nat.lt_of_lt_of_le hlx2 hB.size)).trans ((hB.cell (p := ⟨w.heap.size, 1, none⟩) hlx2).trans n1), (h.cell (Nat.lt_of_lt_of_le hlx2 hB.size)).trans ((hB.cell (p := ⟨w.heap.size, 2, none⟩) hlx2).trans n2)⟩)
                have q1 : ((q : Nat) : Int) ≤ (c : Int) := by omega
                have q2 : ((q : Nat) : Int) ≤ (H.length : Int) := by omega
                have q3 : (H.length : Int) ≤ (c : Int) := by omega
                have q0 : (0 : Int) ≤ ((q : Nat) : Int) := by omega
                clear hB c0 n0 n1 n2
                have hb : Below wq.heap.size wq wq.drew := (Below.refl _ _).drew
                refine wp_region_noPanic ?_
                refine wp_region_l 20 (fun V => V.cell? ⟨g, 0, none⟩ = some (.slice (some ⟨b, o, none⟩) H.length c) ∧ V.cell? ⟨w.heap.size, 0, none⟩ = some (i64 x.num) ∧ V.cell? ⟨w.heap.size, 1, none⟩ = some (.string x.acct) ∧ V.cell? ⟨w.heap.size, 2, none⟩ = some (i64 x.sum)) (by kernel_rfl) (HSS.out _ hb) (fun hH => ?_)
                refine wpAnyL_take (i := 0) (v := ?v5019) rfl (by kernel_rfl) (by kernel_rfl) (by kernel_rfl) (by kernel_rfl) (fun _ _ _ h => h) (Or.inl ⟨by kernel_rfl, ?hy5019⟩) (by assumption) ?r5019
                case hy5019 => (intro W hSW; obtain ⟨s0, s1, s2, s3⟩ := hSW; go_simp; try with_reducible rfl)
                try simp only [Act.put, List.getElem_toArray, List.getElem_cons_zero, List.setIfInBounds_toArray, List.set_cons_zero, List.set_cons_succ]
                refine wpAnyL_take (i := 1) (v := ?v5020) rfl (by kernel_rfl) (by kernel_rfl) (by kernel_rfl) (by kernel_rfl) (fun _ _ _ h => h) (Or.inl ⟨by kernel_rfl, ?hy5020⟩) (by assumption) ?r5020
                case hy5020 => (intro W hSW; obtain ⟨s0, s1, s2, s3⟩ := hSW; go_simp; try with_reducible rfl)
                try simp only [Act.put, List.getElem_toArray, List.getElem_cons_zero, List.getElem_cons_succ, List.setIfInBounds_toArray, List.set_cons_zero, List.set_cons_succ]
                refine wpAnyL_take (i := 2) (v := ?v5021) rfl (by kernel_rfl) (by kernel_rfl) (by kernel_rfl) (by kernel_rfl) (fun _ _ _ h => h) (Or.inl ⟨by kernel_rfl, ?hy5021⟩) (by assumption) ?r5021
                case hy5021 => (intro W hSW; obtain ⟨s0, s1, s2, s3⟩ := hSW; go_simp; try with_reducible rfl)
                try simp only [Act.put, List.getElem_toArray, List.getElem_cons_zero, List.getElem_cons_succ, List.setIfInBounds_toArray, List.set_cons_zero, List.set_cons_succ]
                refine wpAnyL_take (i := 3) (v := ?v5022) rfl (by kernel_rfl) (by kernel_rfl) (by kernel_rfl) (by kernel_rfl) (fun _ _ _ h => h) (Or.inl ⟨by kernel_rfl, ?hy5022⟩) (by assumption) ?r5022
                case hy5022 => (intro W hSW; obtain ⟨s0, s1, s2, s3⟩ := hSW; go_simp; try with_reducible rfl)
                try simp only [Act.put, List.getElem_toArray, List.getElem_cons_zero, List.getElem_cons_succ, List.setIfInBounds_toArray, List.set_cons_zero, List.set_cons_succ]
                refine wpAnyL_take (i := 4) (v := ?v5023) rfl (by kernel_rfl) (by kernel_rfl) (by kernel_rfl) (by kernel_rfl) (fun _ _ _ h => h) (Or.inl ⟨by kernel_rfl, ?hy5023⟩) (by assumption) ?r5023
                case hy5023 => (intro W hSW; obtain ⟨s0, s1, s2, s3⟩ := hSW; go_simp; try with_reducible rfl)
                try simp only [Act.put, List.getElem_toArray, List.getElem_cons_zero, List.getElem_cons_succ, List.setIfInBounds_toArray, List.set_cons_zero, List.set_cons_succ]
                refine wpAnyL_take (i := 5) (v := ?v5024) rfl (by kernel_rfl) (by kernel_rfl) (by kernel_rfl) (by kernel_rfl) (fun _ _ _ h => h) (Or.inl ⟨by kernel_rfl, ?hy5024⟩) (by assumption) ?r5024
                case hy5024 => (intro W hSW; obtain ⟨s0, s1, s2, s3⟩ := hSW; go_simp; try with_reducible rfl)
                try simp only [Act.put, List.getElem_toArray, List.getElem_cons_zero, List.getElem_cons_succ, List.setIfInBounds_toArray, List.set_cons_zero, List.set_cons_succ]
                refine wpAnyL_take (i := 6) (v := ?v5025) rfl (by kernel_rfl) (by kernel_rfl) (by kernel_rfl) (by kernel_rfl) (fun _ _ _ h => h) (Or.inl ⟨by kernel_rfl, ?hy5025⟩) (by assumption) ?r5025
                case hy5025 => (intro W hSW; obtain ⟨s0, s1, s2, s3⟩ := hSW; go_simp; try with_reducible rfl)
                try simp only [Act.put, List.getElem_toArray, List.getElem_cons_zero, List.getElem_cons_succ, List.setIfInBounds_toArray, List.set_cons_zero, List.set_cons_succ]
                refine wpAnyL_take (i := 8) (v := ?v5026) rfl (by kernel_rfl) (by kernel_rfl) (by kernel_rfl) (by kernel_rfl) (fun _ _ _ h => h) (Or.inl ⟨by kernel_rfl, ?hy5026⟩) (by assumption) ?r5026
                case hy5026 => (intro W hSW; obtain ⟨s0, s1, s2, s3⟩ := hSW; go_simp; try with_reducible rfl)
                try simp only [Act.put, List.getElem_toArray, List.getElem_cons_zero, List.getElem_cons_succ, List.setIfInBounds_toArray, List.set_cons_zero, List.set_cons_succ]
                refine wpAnyL_take (i := 11) (v := ?v5027) rfl (by kernel_rfl) (by kernel_rfl) (by kernel_rfl) (by kernel_rfl) (fun _ _ _ h => h) (Or.inl ⟨by kernel_rfl, ?hy5027⟩) (by assumption) ?r5027
                case hy5027 => (intro W hSW; obtain ⟨s0, s1, s2, s3⟩ := hSW; go_simp; try with_reducible rfl)
                try simp only [Act.put, List.getElem_toArray, List.getElem_cons_zero, List.getElem_cons_succ, List.setIfInBounds_toArray, List.set_cons_zero, List.set_cons_succ]
                refine wpAnyL_take (i := 12) (v := ?v5028) rfl (by kernel_rfl) (by kernel_rfl) (by kernel_rfl) (by kernel_rfl) (fun _ _ _ h => h) (Or.inl ⟨by kernel_rfl, ?hy5028⟩) (by assumption) ?r5028
                case hy5028 => (intro W hSW; obtain ⟨s0, s1, s2, s3⟩ := hSW; go_simp; try with_reducible rfl)
                try simp only [Act.put, List.getElem_toArray, List.getElem_cons_zero, List.getElem_cons_succ, List.setIfInBounds_toArray, List.set_cons_zero, List.set_cons_succ]
                refine wpAnyL_take (i := 13) (v := ?v5029) rfl (by kernel_rfl) (by kernel_rfl) (by kernel_rfl) (by kernel_rfl) (fun _ _ _ h => h) (Or.inl ⟨by kernel_rfl, ?hy5029⟩) (by assumption) ?r5029
                case hy5029 => (intro W hSW; obtain ⟨s0, s1, s2, s3⟩ := hSW; go_simp; try with_reducible rfl)
                try simp only [Act.put, List.getElem_toArray, List.getElem_cons_zero, List.getElem_cons_succ, List.setIfInBounds_toArray, List.set_cons_zero, List.set_cons_succ]
                refine wpAnyL_take (i := 14) (v := ?v5030) rfl (by kernel_rfl) (by kernel_rfl) (by kernel_rfl) (by kernel_rfl) (fun _ _ _ h => h) (Or.inl ⟨by kernel_rfl, ?hy5030⟩) (by assumption) ?r5030
                case hy5030 => (intro W hSW; obtain ⟨s0, s1, s2, s3⟩ := hSW; go_simp; try with_reducible rfl)
                try simp only [Act.put, List.getElem_toArray, List.getElem_cons_zero, List.getElem_cons_succ, List.setIfInBounds_toArray, List.set_cons_zero, List.set_cons_succ]
                refine wpAnyL_take (i := 15) (v := ?v5031) rfl (by kernel_rfl) (by kernel_rfl) (by kernel_rfl) (by kernel_rfl) (fun _ _ _ h => h) (Or.inl ⟨by kernel_rfl, ?hy5031⟩) (by assumption) ?r5031
                case hy5031 => (intro W hSW; obtain ⟨s0, s1, s2, s3⟩ := hSW; go_simp; try with_reducible rfl)
                try simp only [Act.put, List.getElem_toArray, List.getElem_cons_zero, List.getElem_cons_succ, List.setIfInBounds_toArray, List.set_cons_zero, List.set_cons_succ]
                refine wpAnyL_take (i := 16) (v := ?v5032) rfl (by kernel_rfl) (by kernel_rfl) (by kernel_rfl) (by kernel_rfl) (fun _ _ _ h => h) (Or.inl ⟨by kernel_rfl, ?hy5032⟩) (by assumption) ?r5032
                case hy5032 => (intro W hSW; obtain ⟨s0, s1, s2, s3⟩ := hSW; go_simp; try with_reducible rfl)
                try simp only [Act.put, List.getElem_toArray, List.getElem_cons_zero, List.getElem_cons_succ, List.setIfInBounds_toArray, List.set_cons_zero, List.set_cons_succ]
                refine wpAnyL_ready (rs := [7, 9]) (by kernel_rfl) (by simp) ?_
                refine AllReadyL.cons rfl (fun K hK => ?_) ?_
                · skip
                  rw [if_pos (by rfl)]
                  refine oper_append (.const (.slice none 0 0)) (.tmp 101) 31 rfl (.agg #[i64 0, .string ByteArray.empty, i64 0]) 32 Tryz.underlying31 rheldInfo rfl (by decide) (by decide) rfl (Own.nil_ _ wq.heap.size 104) (some ⟨b, o, none⟩) q c (H.take q) rfl Hql.out (hTk.out _ hb) (by simp <;> omega) hb.size ?_
                  intro v1 u1 hO1 hg1 hat1
                  rw [List.nil_append] at hO1
                  have hF := (Own.nil_ (α := Held) _ _ 104).below hg1 (Nat.le_refl _) (Nat.le_refl _)
                  have hb := below_on hb (Nat.le_refl _) hF
                  have HO1 := Lib.hid hO1
                  clear hF hg1 hat1 hO1
                  refine hK.out _ _ (HSS.out _ hb) (fun hH => ?_)
                  clear hK K
                  try simp only [Act.put, List.getElem_toArray, List.getElem_cons_zero, List.getElem_cons_succ, List.setIfInBounds_toArray, List.set_cons_zero, List.set_cons_succ]
                  refine wpAnyL_one (i := 9) (by kernel_rfl) rfl (by decide) (fun K hK => ?_)
                  go_simp
                  have hgl : (u1.alloc (.cells #[i64 x.num, .string x.acct, i64 x.sum] 104)).heap[u1.heap.size]? = some (.cells #[i64 x.num, .string x.acct, i64 x.sum] 104 (0, 0)) := heap_alloc_new u1 _
                  have hne1 := HO1.out.new_ne (Nat.le_refl u1.heap.size)
                  have HO1 := Lib.hid (HO1.out.later ((Below.refl _ _).alloc (Nat.le_refl _) (.cells #[i64 x.num, .string x.acct, i64 x.sum] 104)))
                  have hb := hb.alloc hb.size (.cells #[i64 x.num, .string x.acct, i64 x.sum] 104)
                  refine hK.out _ _ (HSS.out _ hb) (fun hH => ?_)
                  clear hK K
                  try simp only [Act.put, List.getElem_toArray, List.getElem_cons_zero, List.getElem_cons_succ, List.setIfInBounds_toArray, List.set_cons_zero, List.set_cons_succ]
                  refine wpAnyL_one (i := 10) (by kernel_rfl) rfl (by decide) (fun K hK => ?_)
                  rw [if_pos (by rfl)]
                  refine oper_append_one (.tmp 102) (.tmp 104) 31 rfl (.agg #[i64 0, .string ByteArray.empty, i64 0]) 32 Tryz.underlying31 rheldInfo rfl (by decide) (by decide) rfl HO1.out u1.heap.size x (by rfl) _ 104 hgl rfl hne1 Hxa.out (by rw [← Hql.out]; omega) hb.size ?_
                  intro v2 u2 hO2 hg2 hat2
                  have hb := hb.trans (HO1.out.below hg2 (Nat.le_refl _) hb.size)
                  have HO2 := Lib.hid hO2
                  clear hg2 hat2 hO2 HO1 hgl hne1
                  refine hK.out _ _ (HSS.out _ hb) (fun hH => ?_)
                  clear hK K
                  try simp only [Act.put, List.getElem_toArray, List.getElem_cons_zero, List.getElem_cons_succ, List.setIfInBounds_toArray, List.set_cons_zero, List.set_cons_succ]
                  refine wpAnyL_one (i := 17) (by kernel_rfl) rfl (by decide) (fun K hK => ?_)
                  rw [if_pos (by rfl)]
                  refine oper_append (.tmp 105) (.tmp 111) 31 rfl (.agg #[i64 0, .string ByteArray.empty, i64 0]) 32 Tryz.underlying31 rheldInfo rfl (by decide) (by decide) rfl HO2.out _ _ _ (H.drop q) rfl (by simp) ((hDr.out _ hb).mono (HO2.out.oth (Nat.le_refl _) hb.size)) (by simp <;> omega) hb.size ?_
                  intro v3 u3 hO3 hg3 hat3
                  obtain ⟨A3, cap3, hv3, -⟩ := hO3.sl
                  generalize List.length _ = n3 at hv3
                  subst hv3
                  have hb := hb.trans (HO2.out.below hg3 (Nat.le_refl _) hb.size)
                  have HO3 := Lib.hid hO3
                  clear hg3 hat3 hO3 HO2
                  refine hK.out _ _ (HSS.out _ hb) (fun hH => ?_)
                  clear hK K
                  try simp only [Act.put, List.getElem_toArray, List.getElem_cons_zero, List.getElem_cons_succ, List.setIfInBounds_toArray, List.set_cons_zero, List.set_cons_succ]
                  refine wpAnyL_take (i := 18) (v := ?v5033) rfl (by kernel_rfl) (by kernel_rfl) (by kernel_rfl) (by kernel_rfl) (fun _ _ _ h => h) (Or.inl ⟨by kernel_rfl, ?hy5033⟩) (by assumption) ?r5033
                  case hy5033 => (intro W hSW; obtain ⟨s0, s1, s2, s3⟩ := hSW; go_simp; try with_reducible rfl)
                  try simp only [Act.put, List.getElem_toArray, List.getElem_cons_zero, List.getElem_cons_succ, List.setIfInBounds_toArray, List.set_cons_zero, List.set_cons_succ]
                  refine wpAnyL_take (i := 19) (v := ?v5034) rfl (by kernel_rfl) (by kernel_rfl) (by kernel_rfl) (by kernel_rfl) (fun _ _ _ h => h) (Or.inl ⟨by kernel_rfl, ?hy5034⟩) (by assumption) ?r5034
                  case hy5034 => (intro W hSW; obtain ⟨s0, s1, s2, s3⟩ := hSW; go_simp; try with_reducible rfl)
                  try simp only [Act.put, List.getElem_toArray, List.getElem_cons_zero, List.getElem_cons_succ, List.setIfInBounds_toArray, List.set_cons_zero, List.set_cons_succ]
                  refine wpAnyL_last (by kernel_rfl) rfl (fun K hK => ?_)
                  have c3 := (hb.cell (p := ⟨g, 0, none⟩) hlgq).trans c0q
                  have hg3 := Lib.hid ((hb.block _ hlgq).trans hcq.out)
                  have f3 := frozen_of_row _ g 0 _ _ hg3.out
                  go_simp
                  refine hK.out _ _ ?_
                  clear hK K
                  try simp only [Act.put, List.getElem_toArray, List.getElem_cons_zero, List.getElem_cons_succ, List.setIfInBounds_toArray, List.set_cons_zero, List.set_cons_succ]
                  refine wpAnyL_done (by kernel_rfl) ?_ _
                  refine NoPanic.normal ?_
                  have hD := rh_put (Nat.le_refl _) hb hlgq (fun k hk => HTn.out k (Nat.le_trans (Nat.le_trans Hsz.out HBq.out.size) hk)) hg3.out HO3.out (ins_okH HH.out Hxa.out)
                  have HD := Lib.hid hD
                  clear hD
                  go_wp2
                  all_goals (go_ret; exact ⟨by rw [HR4.out]; rfl, by rw [HR4.out]; exact (Q1.out.later HBq.out).kept (Gr.of_grown HD.out.2) (fun e => hne (by injection e)) (fun k hk e => HTg.out (by injection e with e; rw [e]; exact hk)), by rw [HR4.out, HI.out, List.append_cons]; exact HD.out.1, (hG.trans (Gr.of_below HBq.out (GH g gc)) (fun _ e => .inl e)).trans ((Gr.of_grown HD.out.2).mono (fun k _ e => (show GH g gc k from .inl (by injection e with e; exact e.symm)))) (fun _ e => .inl e)⟩)
                refine AllReadyL.cons rfl (fun K hK => ?_) ?_
                · skip
                  go_simp
                  obtain ⟨gl, hgl, hgl2⟩ : ∃ gl, gl = wq.heap.size ∧ (wq.drew.alloc (.cells #[i64 x.num, .string x.acct, i64 x.sum] 104)).heap[gl]? = some (.cells #[i64 x.num, .string x.acct, i64 x.sum] 104 (0, 0)) := ⟨_, rfl, heap_alloc_new wq.drew _⟩
                  have Hgl := Lib.hid hgl
                  clear hgl
                  have hgl := hgl2
                  clear hgl2
                  have hb := hb.alloc hb.size (.cells #[i64 x.num, .string x.acct, i64 x.sum] 104)
                  refine hK.out _ _ (HSS.out _ hb) (fun hH => ?_)
                  clear hK K
                  try simp only [Act.put, List.getElem_toArray, List.getElem_cons_zero, List.getElem_cons_succ, List.setIfInBounds_toArray, List.set_cons_zero, List.set_cons_succ]
                  refine wpAnyL_one (i := 7) (by kernel_rfl) rfl (by decide) (fun K hK => ?_)
                  rw [if_pos (by rfl)]
                  refine oper_append (.const (.slice none 0 0)) (.tmp 101) 31 rfl (.agg #[i64 0, .string ByteArray.empty, i64 0]) 32 Tryz.underlying31 rheldInfo rfl (by decide) (by decide) rfl (Own.nil_ _ wq.heap.size 104) (some ⟨b, o, none⟩) q c (H.take q) rfl Hql.out (hTk.out _ hb) (by simp <;> omega) hb.size ?_
                  intro v1 u1 hO1 hg1 hat1
                  rw [List.nil_append] at hO1
                  have hF := (Own.nil_ (α := Held) _ _ 104).below hg1 (Nat.le_refl _) (Nat.le_refl _)
                  have hne1 : some gl ≠ v1.ownBlock := by
                    rcases hat1 with h | h
                    · have h2 : v1.ownBlock = none := h
                      rw [h2]; simp
                    · have h2 : v1.ownBlock = some (wq.heap.size + 1) := by rw [h]; simp
                      rw [h2, Hgl.out]; intro e; injection e with e; omega
                  have hgl := (hF.block _ (Array.getElem?_eq_some_iff.1 hgl).1).trans hgl
                  have hb := below_on hb (Nat.le_refl _) hF
                  have HO1 := Lib.hid hO1
                  clear hF hg1 hat1 hO1
                  refine hK.out _ _ (HSS.out _ hb) (fun hH => ?_)
                  clear hK K
                  try simp only [Act.put, List.getElem_toArray, List.getElem_cons_zero, List.getElem_cons_succ, List.setIfInBounds_toArray, List.set_cons_zero, List.set_cons_succ]
                  refine wpAnyL_one (i := 10) (by kernel_rfl) rfl (by decide) (fun K hK => ?_)
                  rw [if_pos (by rfl)]
                  refine oper_append_one (.tmp 102) (.tmp 104) 31 rfl (.agg #[i64 0, .string ByteArray.empty, i64 0]) 32 Tryz.underlying31 rheldInfo rfl (by decide) (by decide) rfl HO1.out gl x (by rw [Hgl.out]; rfl) _ 104 hgl rfl hne1 Hxa.out (by rw [← Hql.out]; omega) hb.size ?_
                  intro v2 u2 hO2 hg2 hat2
                  have hb := hb.trans (HO1.out.below hg2 (Nat.le_refl _) hb.size)
                  have HO2 := Lib.hid hO2
                  clear hg2 hat2 hO2 HO1 hgl hne1
                  refine hK.out _ _ (HSS.out _ hb) (fun hH => ?_)
                  clear hK K
                  try simp only [Act.put, List.getElem_toArray, List.getElem_cons_zero, List.getElem_cons_succ, List.setIfInBounds_toArray, List.set_cons_zero, List.set_cons_succ]
                  refine wpAnyL_one (i := 17) (by kernel_rfl) rfl (by decide) (fun K hK => ?_)
                  rw [if_pos (by rfl)]
                  refine oper_append (.tmp 105) (.tmp 111) 31 rfl (.agg #[i64 0, .string ByteArray.empty, i64 0]) 32 Tryz.underlying31 rheldInfo rfl (by decide) (by decide) rfl HO2.out _ _ _ (H.drop q) rfl (by simp) ((hDr.out _ hb).mono (HO2.out.oth (Nat.le_refl _) hb.size)) (by simp <;> omega) hb.size ?_
                  intro v3 u3 hO3 hg3 hat3
                  obtain ⟨A3, cap3, hv3, -⟩ := hO3.sl
                  generalize List.length _ = n3 at hv3
                  subst hv3
                  have hb := hb.trans (HO2.out.below hg3 (Nat.le_refl _) hb.size)
                  have HO3 := Lib.hid hO3
                  clear hg3 hat3 hO3 HO2
                  refine hK.out _ _ (HSS.out _ hb) (fun hH => ?_)
                  clear hK K
                  try simp only [Act.put, List.getElem_toArray, List.getElem_cons_zero, List.getElem_cons_succ, List.setIfInBounds_toArray, List.set_cons_zero, List.set_cons_succ]
                  refine wpAnyL_take (i := 18) (v := ?v5035) rfl (by kernel_rfl) (by kernel_rfl) (by kernel_rfl) (by kernel_rfl) (fun _ _ _ h => h) (Or.inl ⟨by kernel_rfl, ?hy5035⟩) (by assumption) ?r5035
                  case hy5035 => (intro W hSW; obtain ⟨s0, s1, s2, s3⟩ := hSW; go_simp; try with_reducible rfl)
                  try simp only [Act.put, List.getElem_toArray, List.getElem_cons_zero, List.getElem_cons_succ, List.setIfInBounds_toArray, List.set_cons_zero, List.set_cons_succ]
                  refine wpAnyL_take (i := 19) (v := ?v5036) rfl (by kernel_rfl) (by kernel_rfl) (by kernel_rfl) (by kernel_rfl) (fun _ _ _ h => h) (Or.inl ⟨by kernel_rfl, ?hy5036⟩) (by assumption) ?r5036
                  case hy5036 => (intro W hSW; obtain ⟨s0, s1, s2, s3⟩ := hSW; go_simp; try with_reducible rfl)
                  try simp only [Act.put, List.getElem_toArray, List.getElem_cons_zero, List.getElem_cons_succ, List.setIfInBounds_toArray, List.set_cons_zero, List.set_cons_succ]
                  refine wpAnyL_last (by kernel_rfl) rfl (fun K hK => ?_)
                  have c3 := (hb.cell (p := ⟨g, 0, none⟩) hlgq).trans c0q
                  have hg3 := Lib.hid ((hb.block _ hlgq).trans hcq.out)
                  have f3 := frozen_of_row _ g 0 _ _ hg3.out
                  go_simp
                  refine hK.out _ _ ?_
                  clear hK K
                  try simp only [Act.put, List.getElem_toArray, List.getElem_cons_zero, List.getElem_cons_succ, List.setIfInBounds_toArray, List.set_cons_zero, List.set_cons_succ]
                  refine wpAnyL_done (by kernel_rfl) ?_ _
                  refine NoPanic.normal ?_
                  have hD := rh_put (Nat.le_refl _) hb hlgq (fun k hk => HTn.out k (Nat.le_trans (Nat.le_trans Hsz.out HBq.out.size) hk)) hg3.out HO3.out (ins_okH HH.out Hxa.out)
                  have HD := Lib.hid hD
                  clear hD
                  go_wp2
                  all_goals (go_ret; exact ⟨by rw [HR4.out]; rfl, by rw [HR4.out]; exact (Q1.out.later HBq.out).kept (Gr.of_grown HD.out.2) (fun e => hne (by injection e)) (fun k hk e => HTg.out (by injection e with e; rw [e]; exact hk)), by rw [HR4.out, HI.out, List.append_cons]; exact HD.out.1, (hG.trans (Gr.of_below HBq.out (GH g gc)) (fun _ e => .inl e)).trans ((Gr.of_grown HD.out.2).mono (fun k _ e => (show GH g gc k from .inl (by injection e with e; exact e.symm)))) (fun _ e => .inl e)⟩)
                exact AllReadyL.nil
            · have g7 : decide ((0 : Int) < (q : Int)) = true := decide_eq_true (by omega)
              have g8 : decide (0 < q) = true := decide_eq_true hq0
              have hq1 : q - 1 < H.length := by omega
              obtain ⟨b, o, rfl, hb, hsz, d0, d1, d2⟩ := Hs.out.held hq1
              have hRa := Lib.hid fun W => rahead_c x.acct H[q - 1].acct Hxa.out hsz W
              have e1 : IntKind.i64.wrap ((q : Int) - 1) = ((q - 1 : Nat) : Int) := by rw [IntKind.wrap_i64]; omega
              have i0 : (0 : Int) ≤ ((q - 1 : Nat) : Int) := by omega
              have i1 : ((q - 1 : Nat) : Int) < (H.length : Int) := by omega
              have Hy := Lib.hid (show ∀ j (h : j < H.length), j = q - 1 → H[j] = H[q - 1] from fun j h e => by subst e; rfl)
              obtain ⟨y, hy⟩ : ∃ y, H[q - 1] = y := ⟨_, rfl⟩
              rw [hy] at hRa d0 d1 d2 Hy
              have Hyy := Lib.hid hy
              have hSS := Lib.hid (show ∀ V, Below w2.heap.size w2 V → (fun V : World => V.cell? ⟨w.heap.size, 0, none⟩ = some (i64 x.num) ∧ V.cell? ⟨w.heap.size, 1, none⟩ = some (.string x.acct) ∧ V.cell? ⟨g, 0, none⟩ = some (.slice (some ⟨b, o, none⟩) H.length c) ∧ V.cell? ⟨b, o + (q - 1) * 3, none⟩ = some (i64 y.num) ∧ V.cell? ⟨b, o + (q - 1) * 3 + 1, none⟩ = some (.string y.acct)) V from fun V h => ⟨(h.cell (World.block_lt_of_cell? _ _ n0)).trans n0, (h.cell (World.block_lt_of_cell? _ _ n1)).trans n1, (h.cell (World.block_lt_of_cell? _ _ c0)).trans c0, (h.cell (World.block_lt_of_cell? _ _ d0)).trans d0, (h.cell (World.block_lt_of_cell? _ _ d1)).trans d1⟩)
              clear hsz hf hy d0 d1 d2
              cases hbl : bless x.acct y.acct with
              | true =>
                have Hlt := Lib.hid (ltH_1 hbl)
                rw [hbl] at hRa
                clear hbl
                go_wp2_with fail
                refine wp_region_noPanic ?_
                refine wp_region_held_drew (S := fun V => V.cell? ⟨w.heap.size, 0, none⟩ = some (i64 x.num) ∧ V.cell? ⟨w.heap.size, 1, none⟩ = some (.string x.acct) ∧ V.cell? ⟨g, 0, none⟩ = some (.slice (some ⟨b, o, none⟩) H.length c) ∧ V.cell? ⟨b, o + (q - 1) * 3, none⟩ = some (i64 y.num) ∧ V.cell? ⟨b, o + (q - 1) * 3 + 1, none⟩ = some (.string y.acct)) (by kernel_rfl) (hSS.out _ hB.drew) (fun hH => ?_)
                refine wpAnyH_take (i := 0) (v := ?v89) rfl (by kernel_rfl) (by kernel_rfl) (by kernel_rfl) (fun _ _ _ h => h) (Or.inl ⟨by kernel_rfl, ?hy89⟩) (by assumption) ?r89
                case hy89 => (intro W hSW; obtain ⟨s0, s1, s2, s3, s4⟩ := hSW; go_simp; try with_reducible rfl)
                simp only [Act.put, List.getElem_toArray, List.getElem_cons_zero, List.setIfInBounds_toArray, List.set_cons_zero, List.set_cons_succ]
                refine wpAnyH_take (i := 1) (v := ?v90) rfl (by kernel_rfl) (by kernel_rfl) (by kernel_rfl) (fun _ _ _ h => h) (Or.inl ⟨by kernel_rfl, ?hy90⟩) (by assumption) ?r90
                case hy90 => (intro W hSW; obtain ⟨s0, s1, s2, s3, s4⟩ := hSW; go_simp; try with_reducible rfl)
                simp only [Act.put, List.getElem_toArray, List.getElem_cons_zero, List.getElem_cons_succ, List.setIfInBounds_toArray, List.set_cons_zero, List.set_cons_succ]
                refine wpAnyH_take (i := 2) (v := ?v91) rfl (by kernel_rfl) (by kernel_rfl) (by kernel_rfl) (fun _ _ _ h => h) (Or.inl ⟨by kernel_rfl, ?hy91⟩) (by assumption) ?r91
                case hy91 => (intro W hSW; obtain ⟨s0, s1, s2, s3, s4⟩ := hSW; go_simp; try with_reducible rfl)
                simp only [Act.put, List.getElem_toArray, List.getElem_cons_zero, List.getElem_cons_succ, List.setIfInBounds_toArray, List.set_cons_zero, List.set_cons_succ]
                refine wpAnyH_take (i := 3) (v := ?v92) rfl (by kernel_rfl) (by kernel_rfl) (by kernel_rfl) (fun _ _ _ h => h) (Or.inl ⟨by kernel_rfl, ?hy92⟩) (by assumption) ?r92
                case hy92 => (intro W hSW; obtain ⟨s0, s1, s2, s3, s4⟩ := hSW; go_simp; try with_reducible rfl)
                simp only [Act.put, List.getElem_toArray, List.getElem_cons_zero, List.getElem_cons_succ, List.setIfInBounds_toArray, List.set_cons_zero, List.set_cons_succ]
                refine wpAnyH_take (i := 4) (v := ?v93) rfl (by kernel_rfl) (by kernel_rfl) (by kernel_rfl) (fun _ _ _ h => h) (Or.inl ⟨by kernel_rfl, ?hy93⟩) (by assumption) ?r93
                case hy93 => (intro W hSW; obtain ⟨s0, s1, s2, s3, s4⟩ := hSW; go_simp; try with_reducible rfl)
                simp only [Act.put, List.getElem_toArray, List.getElem_cons_zero, List.getElem_cons_succ, List.setIfInBounds_toArray, List.set_cons_zero, List.set_cons_succ]
                refine wpAnyH_take (i := 5) (v := ?v94) rfl (by kernel_rfl) (by kernel_rfl) (by kernel_rfl) (fun _ _ _ h => h) (Or.inl ⟨by kernel_rfl, ?hy94⟩) (by assumption) ?r94
                case hy94 => (intro W hSW; obtain ⟨s0, s1, s2, s3, s4⟩ := hSW; go_simp; try with_reducible rfl)
                simp only [Act.put, List.getElem_toArray, List.getElem_cons_zero, List.getElem_cons_succ, List.setIfInBounds_toArray, List.set_cons_zero, List.set_cons_succ]
                refine wpAnyH_take (i := 6) (v := ?v95) rfl (by kernel_rfl) (by kernel_rfl) (by kernel_rfl) (fun _ _ _ h => h) (Or.inl ⟨by kernel_rfl, ?hy95⟩) (by assumption) ?r95
                case hy95 => (intro W hSW; obtain ⟨s0, s1, s2, s3, s4⟩ := hSW; go_simp; try with_reducible rfl)
                simp only [Act.put, List.getElem_toArray, List.getElem_cons_zero, List.getElem_cons_succ, List.setIfInBounds_toArray, List.set_cons_zero, List.set_cons_succ]
                refine wpAnyH_take (i := 7) (v := ?v96) rfl (by kernel_rfl) (by kernel_rfl) (by kernel_rfl) (fun _ _ _ h => h) (Or.inl ⟨by kernel_rfl, ?hy96⟩) (by assumption) ?r96
                case hy96 => (intro W hSW; obtain ⟨s0, s1, s2, s3, s4⟩ := hSW; go_simp; try with_reducible rfl)
                simp only [Act.put, List.getElem_toArray, List.getElem_cons_zero, List.getElem_cons_succ, List.setIfInBounds_toArray, List.set_cons_zero, List.set_cons_succ]
                refine wpAnyH_take (i := 8) (v := ?v97) rfl (by kernel_rfl) (by kernel_rfl) (by kernel_rfl) (fun _ _ _ h => h) (Or.inl ⟨by kernel_rfl, ?hy97⟩) (by assumption) ?r97
                case hy97 => (intro W hSW; obtain ⟨s0, s1, s2, s3, s4⟩ := hSW; go_simp; try with_reducible rfl)
                simp only [Act.put, List.getElem_toArray, List.getElem_cons_zero, List.getElem_cons_succ, List.setIfInBounds_toArray, List.set_cons_zero, List.set_cons_succ]
                refine wpAnyH_take (i := 9) (v := ?v98) rfl (by kernel_rfl) (by kernel_rfl) (by kernel_rfl) (fun _ _ _ h => h) (Or.inl ⟨by kernel_rfl, ?hy98⟩) (by assumption) ?r98
                case hy98 => (intro W hSW; obtain ⟨s0, s1, s2, s3, s4⟩ := hSW; go_simp; try with_reducible rfl)
                simp only [Act.put, List.getElem_toArray, List.getElem_cons_zero, List.getElem_cons_succ, List.setIfInBounds_toArray, List.set_cons_zero, List.set_cons_succ]
                refine wpAnyH_take (i := 10) (v := ?v99) rfl (by kernel_rfl) (by kernel_rfl) (by kernel_rfl) (fun _ _ _ h => h) (Or.inl ⟨by kernel_rfl, ?hy99⟩) (by assumption) ?r99
                case hy99 => (intro W hSW; obtain ⟨s0, s1, s2, s3, s4⟩ := hSW; go_simp; try with_reducible rfl)
                simp only [Act.put, List.getElem_toArray, List.getElem_cons_zero, List.getElem_cons_succ, List.setIfInBounds_toArray, List.set_cons_zero, List.set_cons_succ]
                refine wpAnyH_take (i := 11) (v := ?v100) rfl (by kernel_rfl) (by kernel_rfl) (by kernel_rfl) (fun _ _ _ h => h) (Or.inl ⟨by kernel_rfl, ?hy100⟩) (by assumption) ?r100
                case hy100 => (intro W hSW; obtain ⟨s0, s1, s2, s3, s4⟩ := hSW; go_simp; try with_reducible rfl)
                simp only [Act.put, List.getElem_toArray, List.getElem_cons_zero, List.getElem_cons_succ, List.setIfInBounds_toArray, List.set_cons_zero, List.set_cons_succ]
                refine wpAnyH_take (i := 12) (v := ?v101) rfl (by kernel_rfl) (by kernel_rfl) (by kernel_rfl) (fun _ _ _ h => h) (Or.inl ⟨by kernel_rfl, ?hy101⟩) (by assumption) ?r101
                case hy101 => (intro W hSW; obtain ⟨s0, s1, s2, s3, s4⟩ := hSW; go_simp; try with_reducible rfl)
                simp only [Act.put, List.getElem_toArray, List.getElem_cons_zero, List.getElem_cons_succ, List.setIfInBounds_toArray, List.set_cons_zero, List.set_cons_succ]
                refine wpAnyH_take (i := 13) (v := ?v102) rfl (by kernel_rfl) (by kernel_rfl) (by kernel_rfl) (fun _ _ _ h => h) (Or.inl ⟨by kernel_rfl, ?hy102⟩) (by assumption) ?r102
                case hy102 => (intro W hSW; obtain ⟨s0, s1, s2, s3, s4⟩ := hSW; go_simp; try with_reducible rfl)
                simp only [Act.put, List.getElem_toArray, List.getElem_cons_zero, List.getElem_cons_succ, List.setIfInBounds_toArray, List.set_cons_zero, List.set_cons_succ]
                refine wpAnyH_ready (rs := [14]) (by kernel_rfl) (by simp) ?_
                refine AllReadyH.cons rfl (fun K hK => ?_) AllReadyH.nil
                go_simp
                with_reducible refine (hRa.out _).mono ?_
                rintro e wq ⟨rfl, hF⟩
                have hB := below_on hB.drew (Nat.le_refl _) hF
                refine hK.out _ _ (hSS.out _ hB) (fun hH2 => ?_)
                clear hF
                clear hK K
                try simp only [Act.put, List.getElem_toArray, List.getElem_cons_zero, List.getElem_cons_succ, List.setIfInBounds_toArray, List.set_cons_zero, List.set_cons_succ]
                refine wpAnyH_take (i := 15) (v := ?v104) rfl (by kernel_rfl) (by kernel_rfl) (by kernel_rfl) (fun _ _ _ h => h) (Or.inl ⟨by kernel_rfl, ?hy104⟩) (by assumption) ?r104
                case hy104 => (intro W hSW; obtain ⟨s0, s1, s2, s3, s4⟩ := hSW; go_simp; try with_reducible rfl)
                simp only [Act.put, List.getElem_toArray, List.getElem_cons_zero, List.getElem_cons_succ, List.setIfInBounds_toArray, List.set_cons_zero, List.set_cons_succ]
                refine wpAnyH_take (i := 16) (v := undef) rfl (by kernel_rfl) (by kernel_rfl) (by kernel_rfl) (fun _ _ _ h => h) (Or.inr ⟨by kernel_rfl, rfl⟩) (by assumption) ?r105
                simp only [Act.put, List.getElem_toArray, List.getElem_cons_zero, List.getElem_cons_succ, List.setIfInBounds_toArray, List.set_cons_zero, List.set_cons_succ]
                refine wpAnyH_take (i := 17) (v := undef) rfl (by kernel_rfl) (by kernel_rfl) (by kernel_rfl) (fun _ _ _ h => h) (Or.inr ⟨by kernel_rfl, rfl⟩) (by assumption) ?r106
                simp only [Act.put, List.getElem_toArray, List.getElem_cons_zero, List.getElem_cons_succ, List.setIfInBounds_toArray, List.set_cons_zero, List.set_cons_succ]
                refine wpAnyH_take (i := 18) (v := undef) rfl (by kernel_rfl) (by kernel_rfl) (by kernel_rfl) (fun _ _ _ h => h) (Or.inr ⟨by kernel_rfl, rfl⟩) (by assumption) ?r107
                simp only [Act.put, List.getElem_toArray, List.getElem_cons_zero, List.getElem_cons_succ, List.setIfInBounds_toArray, List.set_cons_zero, List.set_cons_succ]
                refine wpAnyH_take (i := 19) (v := undef) rfl (by kernel_rfl) (by kernel_rfl) (by kernel_rfl) (fun _ _ _ h => h) (Or.inr ⟨by kernel_rfl, rfl⟩) (by assumption) ?r108
                simp only [Act.put, List.getElem_toArray, List.getElem_cons_zero, List.getElem_cons_succ, List.setIfInBounds_toArray, List.set_cons_zero, List.set_cons_succ]
                refine wpAnyH_take (i := 20) (v := undef) rfl (by kernel_rfl) (by kernel_rfl) (by kernel_rfl) (fun _ _ _ h => h) (Or.inr ⟨by kernel_rfl, rfl⟩) (by assumption) ?r109
                simp only [Act.put, List.getElem_toArray, List.getElem_cons_zero, List.getElem_cons_succ, List.setIfInBounds_toArray, List.set_cons_zero, List.set_cons_succ]
                refine wpAnyH_take (i := 21) (v := undef) rfl (by kernel_rfl) (by kernel_rfl) (by kernel_rfl) (fun _ _ _ h => h) (Or.inr ⟨by kernel_rfl, rfl⟩) (by assumption) ?r110
                simp only [Act.put, List.getElem_toArray, List.getElem_cons_zero, List.getElem_cons_succ, List.setIfInBounds_toArray, List.set_cons_zero, List.set_cons_succ]
                refine wpAnyH_take (i := 22) (v := undef) rfl (by kernel_rfl) (by kernel_rfl) (by kernel_rfl) (fun _ _ _ h => h) (Or.inr ⟨by kernel_rfl, rfl⟩) (by assumption) ?r111
                simp only [Act.put, List.getElem_toArray, List.getElem_cons_zero, List.getElem_cons_succ, List.setIfInBounds_toArray, List.set_cons_zero, List.set_cons_succ]
                refine wpAnyH_take (i := 23) (v := undef) rfl (by kernel_rfl) (by kernel_rfl) (by kernel_rfl) (fun _ _ _ h => h) (Or.inr ⟨by kernel_rfl, rfl⟩) (by assumption) ?r112
                simp only [Act.put, List.getElem_toArray, List.getElem_cons_zero, List.getElem_cons_succ, List.setIfInBounds_toArray, List.set_cons_zero, List.set_cons_succ]
                refine wpAnyH_take (i := 24) (v := undef) rfl (by kernel_rfl) (by kernel_rfl) (by kernel_rfl) (fun _ _ _ h => h) (Or.inr ⟨by kernel_rfl, rfl⟩) (by assumption) ?r113
                simp only [Act.put, List.getElem_toArray, List.getElem_cons_zero, List.getElem_cons_succ, List.setIfInBounds_toArray, List.set_cons_zero, List.set_cons_succ]
                refine wpAnyH_take (i := 25) (v := undef) rfl (by kernel_rfl) (by kernel_rfl) (by kernel_rfl) (fun _ _ _ h => h) (Or.inr ⟨by kernel_rfl, rfl⟩) (by assumption) ?r114
                simp only [Act.put, List.getElem_toArray, List.getElem_cons_zero, List.getElem_cons_succ, List.setIfInBounds_toArray, List.set_cons_zero, List.set_cons_succ]
                refine wpAnyH_take (i := 26) (v := undef) rfl (by kernel_rfl) (by kernel_rfl) (by kernel_rfl) (fun _ _ _ h => h) (Or.inr ⟨by kernel_rfl, rfl⟩) (by assumption) ?r115
                simp only [Act.put, List.getElem_toArray, List.getElem_cons_zero, List.getElem_cons_succ, List.setIfInBounds_toArray, List.set_cons_zero, List.set_cons_succ]
                refine wpAnyH_take (i := 27) (v := undef) rfl (by kernel_rfl) (by kernel_rfl) (by kernel_rfl) (fun _ _ _ h => h) (Or.inr ⟨by kernel_rfl, rfl⟩) (by assumption) ?r116
                simp only [Act.put, List.getElem_toArray, List.getElem_cons_zero, List.getElem_cons_succ, List.setIfInBounds_toArray, List.set_cons_zero, List.set_cons_succ]
                refine wpAnyH_take (i := 28) (v := undef) rfl (by kernel_rfl) (by kernel_rfl) (by kernel_rfl) (fun _ _ _ h => h) (Or.inr ⟨by kernel_rfl, rfl⟩) (by assumption) ?r117
                simp only [Act.put, List.getElem_toArray, List.getElem_cons_zero, List.getElem_cons_succ, List.setIfInBounds_toArray, List.set_cons_zero, List.set_cons_succ]
                refine wpAnyH_take (i := 29) (v := undef) rfl (by kernel_rfl) (by kernel_rfl) (by kernel_rfl) (fun _ _ _ h => h) (Or.inr ⟨by kernel_rfl, rfl⟩) (by assumption) ?r118
                simp only [Act.put, List.getElem_toArray, List.getElem_cons_zero, List.getElem_cons_succ, List.setIfInBounds_toArray, List.set_cons_zero, List.set_cons_succ]
                refine wpAnyH_take (i := 30) (v := undef) rfl (by kernel_rfl) (by kernel_rfl) (by kernel_rfl) (fun _ _ _ h => h) (Or.inr ⟨by kernel_rfl, rfl⟩) (by assumption) ?r119
                simp only [Act.put, List.getElem_toArray, List.getElem_cons_zero, List.getElem_cons_succ, List.setIfInBounds_toArray, List.set_cons_zero, List.set_cons_succ]
                refine wpAnyH_take (i := 31) (v := undef) rfl (by kernel_rfl) (by kernel_rfl) (by kernel_rfl) (fun _ _ _ h => h) (Or.inr ⟨by kernel_rfl, rfl⟩) (by assumption) ?r120
                simp only [Act.put, List.getElem_toArray, List.getElem_cons_zero, List.getElem_cons_succ, List.setIfInBounds_toArray, List.set_cons_zero, List.set_cons_succ]
                refine wpAnyH_take (i := 32) (v := undef) rfl (by kernel_rfl) (by kernel_rfl) (by kernel_rfl) (fun _ _ _ h => h) (Or.inr ⟨by kernel_rfl, rfl⟩) (by assumption) ?r121
                simp only [Act.put, List.getElem_toArray, List.getElem_cons_zero, List.getElem_cons_succ, List.setIfInBounds_toArray, List.set_cons_zero, List.set_cons_succ]
                refine wpAnyH_take (i := 33) (v := undef) rfl (by kernel_rfl) (by kernel_rfl) (by kernel_rfl) (fun _ _ _ h => h) (Or.inr ⟨by kernel_rfl, rfl⟩) (by assumption) ?r122
                simp only [Act.put, List.getElem_toArray, List.getElem_cons_zero, List.getElem_cons_succ, List.setIfInBounds_toArray, List.set_cons_zero, List.set_cons_succ]
                refine wpAnyH_take (i := 34) (v := undef) rfl (by kernel_rfl) (by kernel_rfl) (by kernel_rfl) (fun _ _ _ h => h) (Or.inr ⟨by kernel_rfl, rfl⟩) (by assumption) ?r123
                simp only [Act.put, List.getElem_toArray, List.getElem_cons_zero, List.getElem_cons_succ, List.setIfInBounds_toArray, List.set_cons_zero, List.set_cons_succ]
                refine wpAnyH_take (i := 35) (v := undef) rfl (by kernel_rfl) (by kernel_rfl) (by kernel_rfl) (fun _ _ _ h => h) (Or.inr ⟨by kernel_rfl, rfl⟩) (by assumption) ?r124
                simp only [Act.put, List.getElem_toArray, List.getElem_cons_zero, List.getElem_cons_succ, List.setIfInBounds_toArray, List.set_cons_zero, List.set_cons_succ]
                refine wpAnyH_take (i := 36) (v := undef) rfl (by kernel_rfl) (by kernel_rfl) (by kernel_rfl) (fun _ _ _ h => h) (Or.inr ⟨by kernel_rfl, rfl⟩) (by assumption) ?r125
                simp only [Act.put, List.getElem_toArray, List.getElem_cons_zero, List.getElem_cons_succ, List.setIfInBounds_toArray, List.set_cons_zero, List.set_cons_succ]
                refine wpAnyH_take (i := 37) (v := undef) rfl (by kernel_rfl) (by kernel_rfl) (by kernel_rfl) (fun _ _ _ h => h) (Or.inr ⟨by kernel_rfl, rfl⟩) (by assumption) ?r126
                simp only [Act.put, List.getElem_toArray, List.getElem_cons_zero, List.getElem_cons_succ, List.setIfInBounds_toArray, List.set_cons_zero, List.set_cons_succ]
                refine wpAnyH_take (i := 38) (v := undef) rfl (by kernel_rfl) (by kernel_rfl) (by kernel_rfl) (fun _ _ _ h => h) (Or.inr ⟨by kernel_rfl, rfl⟩) (by assumption) ?r127
                simp only [Act.put, List.getElem_toArray, List.getElem_cons_zero, List.getElem_cons_succ, List.setIfInBounds_toArray, List.set_cons_zero, List.set_cons_succ]
                refine wpAnyH_take (i := 39) (v := undef) rfl (by kernel_rfl) (by kernel_rfl) (by kernel_rfl) (fun _ _ _ h => h) (Or.inr ⟨by kernel_rfl, rfl⟩) (by assumption) ?r128
                simp only [Act.put, List.getElem_toArray, List.getElem_cons_zero, List.getElem_cons_succ, List.setIfInBounds_toArray, List.set_cons_zero, List.set_cons_succ]
                refine wpAnyH_take (i := 40) (v := undef) rfl (by kernel_rfl) (by kernel_rfl) (by kernel_rfl) (fun _ _ _ h => h) (Or.inr ⟨by kernel_rfl, rfl⟩) (by assumption) ?r129
                simp only [Act.put, List.getElem_toArray, List.getElem_cons_zero, List.getElem_cons_succ, List.setIfInBounds_toArray, List.set_cons_zero, List.set_cons_succ]
                refine wpAnyH_take (i := 41) (v := undef) rfl (by kernel_rfl) (by kernel_rfl) (by kernel_rfl) (fun _ _ _ h => h) (Or.inr ⟨by kernel_rfl, rfl⟩) (by assumption) ?r130
                simp only [Act.put, List.getElem_toArray, List.getElem_cons_zero, List.getElem_cons_succ, List.setIfInBounds_toArray, List.set_cons_zero, List.set_cons_succ]
                refine wpAnyH_take (i := 42) (v := ?v131) rfl (by kernel_rfl) (by kernel_rfl) (by kernel_rfl) (fun _ _ _ h => h) (Or.inl ⟨by kernel_rfl, ?hy131⟩) (by assumption) ?r131
                case hy131 => (intro W hSW; obtain ⟨s0, s1, s2, s3, s4⟩ := hSW; go_simp; try with_reducible rfl)
                simp only [Act.put, List.getElem_toArray, List.getElem_cons_zero, List.getElem_cons_succ, List.setIfInBounds_toArray, List.set_cons_zero, List.set_cons_succ]
                refine wpAnyH_take (i := 43) (v := ?v132) rfl (by kernel_rfl) (by kernel_rfl) (by kernel_rfl) (fun _ _ _ h => h) (Or.inl ⟨by kernel_rfl, ?hy132⟩) (by assumption) ?r132
                case hy132 => (intro W hSW; obtain ⟨s0, s1, s2, s3, s4⟩ := hSW; go_simp; try with_reducible rfl)
                simp only [Act.put, List.getElem_toArray, List.getElem_cons_zero, List.getElem_cons_succ, List.setIfInBounds_toArray, List.set_cons_zero, List.set_cons_succ]
                refine wpAnyH_done (by kernel_rfl) ?_ _
                refine NoPanic.normal ?_
                go_wp2
                go_roundw
                case rel => exact ⟨q - 1, by go_num, by omega, fun j h1 h2 => by
                    rcases Nat.eq_or_lt_of_le h2 with h2 | h2
                    · rw [Hy.out j h1 h2.symm]; exact Hlt.out
                    · exact Hup.out j h1 (by omega), hB⟩
                case measure => simp [intOf]; omega
              | false =>
                rw [hbl] at hRa
                by_cases hae : x.acct = y.acct
                · have e2 := beqS_of_eq hae
                  by_cases hnn : x.num < y.num
                  · have g9 : decide (x.num < y.num) = true := decide_eq_true hnn
                    have Hlt := Lib.hid (show ltH x y = true by rw [ltH_3 hbl hae, g9])
                    clear hbl hae hnn
                    go_wp2_with fail
                    refine wp_region_noPanic ?_
                    refine wp_region_held_drew (S := fun V => V.cell? ⟨w.heap.size, 0, none⟩ = some (i64 x.num) ∧ V.cell? ⟨w.heap.size, 1, none⟩ = some (.string x.acct) ∧ V.cell? ⟨g, 0, none⟩ = some (.slice (some ⟨b, o, none⟩) H.length c) ∧ V.cell? ⟨b, o + (q - 1) * 3, none⟩ = some (i64 y.num) ∧ V.cell? ⟨b, o + (q - 1) * 3 + 1, none⟩ = some (.string y.acct)) (by kernel_rfl) (hSS.out _ hB.drew) (fun hH => ?_)
                    refine wpAnyH_take (i := 0) (v := ?v177) rfl (by kernel_rfl) (by kernel_rfl) (by kernel_rfl) (fun _ _ _ h => h) (Or.inl ⟨by kernel_rfl, ?hy177⟩) (by assumption) ?r177
                    case hy177 => (intro W hSW; obtain ⟨s0, s1, s2, s3, s4⟩ := hSW; go_simp; try with_reducible rfl)
                    simp only [Act.put, List.getElem_toArray, List.getElem_cons_zero, List.setIfInBounds_toArray, List.set_cons_zero, List.set_cons_succ]
                    refine wpAnyH_take (i := 1) (v := ?v178) rfl (by kernel_rfl) (by kernel_rfl) (by kernel_rfl) (fun _ _ _ h => h) (Or.inl ⟨by kernel_rfl, ?hy178⟩) (by assumption) ?r178
                    case hy178 => (intro W hSW; obtain ⟨s0, s1, s2, s3, s4⟩ := hSW; go_simp; try with_reducible rfl)
                    simp only [Act.put, List.getElem_toArray, List.getElem_cons_zero, List.getElem_cons_succ, List.setIfInBounds_toArray, List.set_cons_zero, List.set_cons_succ]
                    refine wpAnyH_take (i := 2) (v := ?v179) rfl (by kernel_rfl) (by kernel_rfl) (by kernel_rfl) (fun _ _ _ h => h) (Or.inl ⟨by kernel_rfl, ?hy179⟩) (by assumption) ?r179
                    case hy179 => (intro W hSW; obtain ⟨s0, s1, s2, s3, s4⟩ := hSW; go_simp; try with_reducible rfl)
                    simp only [Act.put, List.getElem_toArray, List.getElem_cons_zero, List.getElem_cons_succ, List.setIfInBounds_toArray, List.set_cons_zero, List.set_cons_succ]
                    refine wpAnyH_take (i := 3) (v := ?v180) rfl (by kernel_rfl) (by kernel_rfl) (by kernel_rfl) (fun _ _ _ h => h) (Or.inl ⟨by kernel_rfl, ?hy180⟩) (by assumption) ?r180
                    case hy180 => (intro W hSW; obtain ⟨s0, s1, s2, s3, s4⟩ := hSW; go_simp; try with_reducible rfl)
                    simp only [Act.put, List.getElem_toArray, List.getElem_cons_zero, List.getElem_cons_succ, List.setIfInBounds_toArray, List.set_cons_zero, List.set_cons_succ]
                    refine wpAnyH_take (i := 4) (v := ?v181) rfl (by kernel_rfl) (by kernel_rfl) (by kernel_rfl) (fun _ _ _ h => h) (Or.inl ⟨by kernel_rfl, ?hy181⟩) (by assumption) ?r181
                    case hy181 => (intro W hSW; obtain ⟨s0, s1, s2, s3, s4⟩ := hSW; go_simp; try with_reducible rfl)
                    simp only [Act.put, List.getElem_toArray, List.getElem_cons_zero, List.getElem_cons_succ, List.setIfInBounds_toArray, List.set_cons_zero, List.set_cons_succ]
                    refine wpAnyH_take (i := 5) (v := ?v182) rfl (by kernel_rfl) (by kernel_rfl) (by kernel_rfl) (fun _ _ _ h => h) (Or.inl ⟨by kernel_rfl, ?hy182⟩) (by assumption) ?r182
                    case hy182 => (intro W hSW; obtain ⟨s0, s1, s2, s3, s4⟩ := hSW; go_simp; try with_reducible rfl)
                    simp only [Act.put, List.getElem_toArray, List.getElem_cons_zero, List.getElem_cons_succ, List.setIfInBounds_toArray, List.set_cons_zero, List.set_cons_succ]
                    refine wpAnyH_take (i := 6) (v := ?v183) rfl (by kernel_rfl) (by kernel_rfl) (by kernel_rfl) (fun _ _ _ h => h) (Or.inl ⟨by kernel_rfl, ?hy183⟩) (by assumption) ?r183
                    case hy183 => (intro W hSW; obtain ⟨s0, s1, s2, s3, s4⟩ := hSW; go_simp; try with_reducible rfl)
                    simp only [Act.put, List.getElem_toArray, List.getElem_cons_zero, List.getElem_cons_succ, List.setIfInBounds_toArray, List.set_cons_zero, List.set_cons_succ]
                    refine wpAnyH_take (i := 7) (v := ?v184) rfl (by kernel_rfl) (by kernel_rfl) (by kernel_rfl) (fun _ _ _ h => h) (Or.inl ⟨by kernel_rfl, ?hy184⟩) (by assumption) ?r184
                    case hy184 => (intro W hSW; obtain ⟨s0, s1, s2, s3, s4⟩ := hSW; go_simp; try with_reducible rfl)
                    simp only [Act.put, List.getElem_toArray, List.getElem_cons_zero, List.getElem_cons_succ, List.setIfInBounds_toArray, List.set_cons_zero, List.set_cons_succ]
                    refine wpAnyH_take (i := 8) (v := ?v185) rfl (by kernel_rfl) (by kernel_rfl) (by kernel_rfl) (fun _ _ _ h => h) (Or.inl ⟨by kernel_rfl, ?hy185⟩) (by assumption) ?r185
                    case hy185 => (intro W hSW; obtain ⟨s0, s1, s2, s3, s4⟩ := hSW; go_simp; try with_reducible rfl)
                    simp only [Act.put, List.getElem_toArray, List.getElem_cons_zero, List.getElem_cons_succ, List.setIfInBounds_toArray, List.set_cons_zero, List.set_cons_succ]
                    refine wpAnyH_take (i := 9) (v := ?v186) rfl (by kernel_rfl) (by kernel_rfl) (by kernel_rfl) (fun _ _ _ h => h) (Or.inl ⟨by kernel_rfl, ?hy186⟩) (by assumption) ?r186
                    case hy186 => (intro W hSW; obtain ⟨s0, s1, s2, s3, s4⟩ := hSW; go_simp; try with_reducible rfl)
                    simp only [Act.put, List.getElem_toArray, List.getElem_cons_zero, List.getElem_cons_succ, List.setIfInBounds_toArray, List.set_cons_zero, List.set_cons_succ]
                    refine wpAnyH_take (i := 10) (v := ?v187) rfl (by kernel_rfl) (by kernel_rfl) (by kernel_rfl) (fun _ _ _ h => h) (Or.inl ⟨by kernel_rfl, ?hy187⟩) (by assumption) ?r187
                    case hy187 => (intro W hSW; obtain ⟨s0, s1, s2, s3, s4⟩ := hSW; go_simp; try with_reducible rfl)
                    simp only [Act.put, List.getElem_toArray, List.getElem_cons_zero, List.getElem_cons_succ, List.setIfInBounds_toArray, List.set_cons_zero, List.set_cons_succ]
                    refine wpAnyH_take (i := 11) (v := ?v188) rfl (by kernel_rfl) (by kernel_rfl) (by kernel_rfl) (fun _ _ _ h => h) (Or.inl ⟨by kernel_rfl, ?hy188⟩) (by assumption) ?r188
                    case hy188 => (intro W hSW; obtain ⟨s0, s1, s2, s3, s4⟩ := hSW; go_simp; try with_reducible rfl)
                    simp only [Act.put, List.getElem_toArray, List.getElem_cons_zero, List.getElem_cons_succ, List.setIfInBounds_toArray, List.set_cons_zero, List.set_cons_succ]
                    refine wpAnyH_take (i := 12) (v := ?v189) rfl (by kernel_rfl) (by kernel_rfl) (by kernel_rfl) (fun _ _ _ h => h) (Or.inl ⟨by kernel_rfl, ?hy189⟩) (by assumption) ?r189
                    case hy189 => (intro W hSW; obtain ⟨s0, s1, s2, s3, s4⟩ := hSW; go_simp; try with_reducible rfl)
                    simp only [Act.put, List.getElem_toArray, List.getElem_cons_zero, List.getElem_cons_succ, List.setIfInBounds_toArray, List.set_cons_zero, List.set_cons_succ]
                    refine wpAnyH_take (i := 13) (v := ?v190) rfl (by kernel_rfl) (by kernel_rfl) (by kernel_rfl) (fun _ _ _ h => h) (Or.inl ⟨by kernel_rfl, ?hy190⟩) (by assumption) ?r190
                    case hy190 => (intro W hSW; obtain ⟨s0, s1, s2, s3, s4⟩ := hSW; go_simp; try with_reducible rfl)
                    simp only [Act.put, List.getElem_toArray, List.getElem_cons_zero, List.getElem_cons_succ, List.setIfInBounds_toArray, List.set_cons_zero, List.set_cons_succ]
                    refine wpAnyH_ready (rs := [14]) (by kernel_rfl) (by simp) ?_
                    refine AllReadyH.cons rfl (fun K hK => ?_) AllReadyH.nil
                    go_simp
                    with_reducible refine (hRa.out _).mono ?_
                    rintro e wq ⟨rfl, hF⟩
                    have hB := below_on hB.drew (Nat.le_refl _) hF
                    refine hK.out _ _ (hSS.out _ hB) (fun hH2 => ?_)
                    clear hF
                    clear hK K
                    try simp only [Act.put, List.getElem_toArray, List.getElem_cons_zero, List.getElem_cons_succ, List.setIfInBounds_toArray, List.set_cons_zero, List.set_cons_succ]
                    refine wpAnyH_take (i := 15) (v := ?v192) rfl (by kernel_rfl) (by kernel_rfl) (by kernel_rfl) (fun _ _ _ h => h) (Or.inl ⟨by kernel_rfl, ?hy192⟩) (by assumption) ?r192
                    case hy192 => (intro W hSW; obtain ⟨s0, s1, s2, s3, s4⟩ := hSW; go_simp; try with_reducible rfl)
                    simp only [Act.put, List.getElem_toArray, List.getElem_cons_zero, List.getElem_cons_succ, List.setIfInBounds_toArray, List.set_cons_zero, List.set_cons_succ]
                    refine wpAnyH_take (i := 16) (v := ?v193) rfl (by kernel_rfl) (by kernel_rfl) (by kernel_rfl) (fun _ _ _ h => h) (Or.inl ⟨by kernel_rfl, ?hy193⟩) (by assumption) ?r193
                    case hy193 => (intro W hSW; obtain ⟨s0, s1, s2, s3, s4⟩ := hSW; go_simp; try with_reducible rfl)
                    simp only [Act.put, List.getElem_toArray, List.getElem_cons_zero, List.getElem_cons_succ, List.setIfInBounds_toArray, List.set_cons_zero, List.set_cons_succ]
                    refine wpAnyH_take (i := 17) (v := ?v194) rfl (by kernel_rfl) (by kernel_rfl) (by kernel_rfl) (fun _ _ _ h => h) (Or.inl ⟨by kernel_rfl, ?hy194⟩) (by assumption) ?r194
                    case hy194 => (intro W hSW; obtain ⟨s0, s1, s2, s3, s4⟩ := hSW; go_simp; try with_reducible rfl)
                    simp only [Act.put, List.getElem_toArray, List.getElem_cons_zero, List.getElem_cons_succ, List.setIfInBounds_toArray, List.set_cons_zero, List.set_cons_succ]
                    refine wpAnyH_take (i := 18) (v := ?v195) rfl (by kernel_rfl) (by kernel_rfl) (by kernel_rfl) (fun _ _ _ h => h) (Or.inl ⟨by kernel_rfl, ?hy195⟩) (by assumption) ?r195
                    case hy195 => (intro W hSW; obtain ⟨s0, s1, s2, s3, s4⟩ := hSW; go_simp; try with_reducible rfl)
                    simp only [Act.put, List.getElem_toArray, List.getElem_cons_zero, List.getElem_cons_succ, List.setIfInBounds_toArray, List.set_cons_zero, List.set_cons_succ]
                    refine wpAnyH_take (i := 19) (v := ?v196) rfl (by kernel_rfl) (by kernel_rfl) (by kernel_rfl) (fun _ _ _ h => h) (Or.inl ⟨by kernel_rfl, ?hy196⟩) (by assumption) ?r196
                    case hy196 => (intro W hSW; obtain ⟨s0, s1, s2, s3, s4⟩ := hSW; go_simp; try with_reducible rfl)
                    simp only [Act.put, List.getElem_toArray, List.getElem_cons_zero, List.getElem_cons_succ, List.setIfInBounds_toArray, List.set_cons_zero, List.set_cons_succ]
                    refine wpAnyH_take (i := 20) (v := ?v197) rfl (by kernel_rfl) (by kernel_rfl) (by kernel_rfl) (fun _ _ _ h => h) (Or.inl ⟨by kernel_rfl, ?hy197⟩) (by assumption) ?r197
                    case hy197 => (intro W hSW; obtain ⟨s0, s1, s2, s3, s4⟩ := hSW; go_simp; try with_reducible rfl)
                    simp only [Act.put, List.getElem_toArray, List.getElem_cons_zero, List.getElem_cons_succ, List.setIfInBounds_toArray, List.set_cons_zero, List.set_cons_succ]
                    refine wpAnyH_take (i := 21) (v := ?v198) rfl (by kernel_rfl) (by kernel_rfl) (by kernel_rfl) (fun _ _ _ h => h) (Or.inl ⟨by kernel_rfl, ?hy198⟩) (by assumption) ?r198
                    case hy198 => (intro W hSW; obtain ⟨s0, s1, s2, s3, s4⟩ := hSW; go_simp; try with_reducible rfl)
                    simp only [Act.put, List.getElem_toArray, List.getElem_cons_zero, List.getElem_cons_succ, List.setIfInBounds_toArray, List.set_cons_zero, List.set_cons_succ]
                    refine wpAnyH_take (i := 22) (v := ?v199) rfl (by kernel_rfl) (by kernel_rfl) (by kernel_rfl) (fun _ _ _ h => h) (Or.inl ⟨by kernel_rfl, ?hy199⟩) (by assumption) ?r199
                    case hy199 => (intro W hSW; obtain ⟨s0, s1, s2, s3, s4⟩ := hSW; go_simp; try with_reducible rfl)
                    simp only [Act.put, List.getElem_toArray, List.getElem_cons_zero, List.getElem_cons_succ, List.setIfInBounds_toArray, List.set_cons_zero, List.set_cons_succ]
                    refine wpAnyH_take (i := 23) (v := ?v200) rfl (by kernel_rfl) (by kernel_rfl) (by kernel_rfl) (fun _ _ _ h => h) (Or.inl ⟨by kernel_rfl, ?hy200⟩) (by assumption) ?r200
                    case hy200 => (intro W hSW; obtain ⟨s0, s1, s2, s3, s4⟩ := hSW; go_simp; try with_reducible rfl)
                    simp only [Act.put, List.getElem_toArray, List.getElem_cons_zero, List.getElem_cons_succ, List.setIfInBounds_toArray, List.set_cons_zero, List.set_cons_succ]
                    refine wpAnyH_take (i := 24) (v := ?v201) rfl (by kernel_rfl) (by kernel_rfl) (by kernel_rfl) (fun _ _ _ h => h) (Or.inl ⟨by kernel_rfl, ?hy201⟩) (by assumption) ?r201
                    case hy201 => (intro W hSW; obtain ⟨s0, s1, s2, s3, s4⟩ := hSW; go_simp; try with_reducible rfl)
                    simp only [Act.put, List.getElem_toArray, List.getElem_cons_zero, List.getElem_cons_succ, List.setIfInBounds_toArray, List.set_cons_zero, List.set_cons_succ]
                    refine wpAnyH_take (i := 25) (v := ?v202) rfl (by kernel_rfl) (by kernel_rfl) (by kernel_rfl) (fun _ _ _ h => h) (Or.inl ⟨by kernel_rfl, ?hy202⟩) (by assumption) ?r202
                    case hy202 => (intro W hSW; obtain ⟨s0, s1, s2, s3, s4⟩ := hSW; go_simp; try with_reducible rfl)
                    simp only [Act.put, List.getElem_toArray, List.getElem_cons_zero, List.getElem_cons_succ, List.setIfInBounds_toArray, List.set_cons_zero, List.set_cons_succ]
                    refine wpAnyH_take (i := 26) (v := ?v203) rfl (by kernel_rfl) (by kernel_rfl) (by kernel_rfl) (fun _ _ _ h => h) (Or.inl ⟨by kernel_rfl, ?hy203⟩) (by assumption) ?r203
                    case hy203 => (intro W hSW; obtain ⟨s0, s1, s2, s3, s4⟩ := hSW; go_simp; try with_reducible rfl)
                    simp only [Act.put, List.getElem_toArray, List.getElem_cons_zero, List.getElem_cons_succ, List.setIfInBounds_toArray, List.set_cons_zero, List.set_cons_succ]
                    refine wpAnyH_take (i := 27) (v := ?v204) rfl (by kernel_rfl) (by kernel_rfl) (by kernel_rfl) (fun _ _ _ h => h) (Or.inl ⟨by kernel_rfl, ?hy204⟩) (by assumption) ?r204
                    case hy204 => (intro W hSW; obtain ⟨s0, s1, s2, s3, s4⟩ := hSW; go_simp; try with_reducible rfl)
                    simp only [Act.put, List.getElem_toArray, List.getElem_cons_zero, List.getElem_cons_succ, List.setIfInBounds_toArray, List.set_cons_zero, List.set_cons_succ]
                    refine wpAnyH_take (i := 28) (v := ?v205) rfl (by kernel_rfl) (by kernel_rfl) (by kernel_rfl) (fun _ _ _ h => h) (Or.inl ⟨by kernel_rfl, ?hy205⟩) (by assumption) ?r205
                    case hy205 => (intro W hSW; obtain ⟨s0, s1, s2, s3, s4⟩ := hSW; go_simp; try with_reducible rfl)
                    simp only [Act.put, List.getElem_toArray, List.getElem_cons_zero, List.getElem_cons_succ, List.setIfInBounds_toArray, List.set_cons_zero, List.set_cons_succ]
                    refine wpAnyH_take (i := 29) (v := ?v206) rfl (by kernel_rfl) (by kernel_rfl) (by kernel_rfl) (fun _ _ _ h => h) (Or.inl ⟨by kernel_rfl, ?hy206⟩) (by assumption) ?r206
                    case hy206 => (intro W hSW; obtain ⟨s0, s1, s2, s3, s4⟩ := hSW; go_simp; try with_reducible rfl)
                    simp only [Act.put, List.getElem_toArray, List.getElem_cons_zero, List.getElem_cons_succ, List.setIfInBounds_toArray, List.set_cons_zero, List.set_cons_succ]
                    refine wpAnyH_take (i := 30) (v := ?v207) rfl (by kernel_rfl) (by kernel_rfl) (by kernel_rfl) (fun _ _ _ h => h) (Or.inl ⟨by kernel_rfl, ?hy207⟩) (by assumption) ?r207
                    case hy207 => (intro W hSW; obtain ⟨s0, s1, s2, s3, s4⟩ := hSW; go_simp; try with_reducible rfl)
                    simp only [Act.put, List.getElem_toArray, List.getElem_cons_zero, List.getElem_cons_succ, List.setIfInBounds_toArray, List.set_cons_zero, List.set_cons_succ]
                    refine wpAnyH_take (i := 31) (v := ?v208) rfl (by kernel_rfl) (by kernel_rfl) (by kernel_rfl) (fun _ _ _ h => h) (Or.inl ⟨by kernel_rfl, ?hy208⟩) (by assumption) ?r208
                    case hy208 => (intro W hSW; obtain ⟨s0, s1, s2, s3, s4⟩ := hSW; go_simp; try with_reducible rfl)
                    simp only [Act.put, List.getElem_toArray, List.getElem_cons_zero, List.getElem_cons_succ, List.setIfInBounds_toArray, List.set_cons_zero, List.set_cons_succ]
                    refine wpAnyH_take (i := 32) (v := ?v209) rfl (by kernel_rfl) (by kernel_rfl) (by kernel_rfl) (fun _ _ _ h => h) (Or.inl ⟨by kernel_rfl, ?hy209⟩) (by assumption) ?r209
                    case hy209 => (intro W hSW; obtain ⟨s0, s1, s2, s3, s4⟩ := hSW; go_simp; try with_reducible rfl)
                    simp only [Act.put, List.getElem_toArray, List.getElem_cons_zero, List.getElem_cons_succ, List.setIfInBounds_toArray, List.set_cons_zero, List.set_cons_succ]
                    refine wpAnyH_take (i := 33) (v := ?v210) rfl (by kernel_rfl) (by kernel_rfl) (by kernel_rfl) (fun _ _ _ h => h) (Or.inl ⟨by kernel_rfl, ?hy210⟩) (by assumption) ?r210
                    case hy210 => (intro W hSW; obtain ⟨s0, s1, s2, s3, s4⟩ := hSW; go_simp; try with_reducible rfl)
                    simp only [Act.put, List.getElem_toArray, List.getElem_cons_zero, List.getElem_cons_succ, List.setIfInBounds_toArray, List.set_cons_zero, List.set_cons_succ]
                    refine wpAnyH_take (i := 34) (v := ?v211) rfl (by kernel_rfl) (by kernel_rfl) (by kernel_rfl) (fun _ _ _ h => h) (Or.inl ⟨by kernel_rfl, ?hy211⟩) (by assumption) ?r211
                    case hy211 => (intro W hSW; obtain ⟨s0, s1, s2, s3, s4⟩ := hSW; go_simp; try with_reducible rfl)
                    simp only [Act.put, List.getElem_toArray, List.getElem_cons_zero, List.getElem_cons_succ, List.setIfInBounds_toArray, List.set_cons_zero, List.set_cons_succ]
                    refine wpAnyH_take (i := 35) (v := ?v212) rfl (by kernel_rfl) (by kernel_rfl) (by kernel_rfl) (fun _ _ _ h => h) (Or.inl ⟨by kernel_rfl, ?hy212⟩) (by assumption) ?r212
                    case hy212 => (intro W hSW; obtain ⟨s0, s1, s2, s3, s4⟩ := hSW; go_simp; try with_reducible rfl)
                    simp only [Act.put, List.getElem_toArray, List.getElem_cons_zero, List.getElem_cons_succ, List.setIfInBounds_toArray, List.set_cons_zero, List.set_cons_succ]
                    refine wpAnyH_take (i := 36) (v := ?v213) rfl (by kernel_rfl) (by kernel_rfl) (by kernel_rfl) (fun _ _ _ h => h) (Or.inl ⟨by kernel_rfl, ?hy213⟩) (by assumption) ?r213
                    case hy213 => (intro W hSW; obtain ⟨s0, s1, s2, s3, s4⟩ := hSW; go_simp; try with_reducible rfl)
                    simp only [Act.put, List.getElem_toArray, List.getElem_cons_zero, List.getElem_cons_succ, List.setIfInBounds_toArray, List.set_cons_zero, List.set_cons_succ]
                    refine wpAnyH_take (i := 37) (v := ?v214) rfl (by kernel_rfl) (by kernel_rfl) (by kernel_rfl) (fun _ _ _ h => h) (Or.inl ⟨by kernel_rfl, ?hy214⟩) (by assumption) ?r214
                    case hy214 => (intro W hSW; obtain ⟨s0, s1, s2, s3, s4⟩ := hSW; go_simp; try with_reducible rfl)
                    simp only [Act.put, List.getElem_toArray, List.getElem_cons_zero, List.getElem_cons_succ, List.setIfInBounds_toArray, List.set_cons_zero, List.set_cons_succ]
                    refine wpAnyH_take (i := 38) (v := ?v215) rfl (by kernel_rfl) (by kernel_rfl) (by kernel_rfl) (fun _ _ _ h => h) (Or.inl ⟨by kernel_rfl, ?hy215⟩) (by assumption) ?r215
                    case hy215 => (intro W hSW; obtain ⟨s0, s1, s2, s3, s4⟩ := hSW; go_simp; try with_reducible rfl)
                    simp only [Act.put, List.getElem_toArray, List.getElem_cons_zero, List.getElem_cons_succ, List.setIfInBounds_toArray, List.set_cons_zero, List.set_cons_succ]
                    refine wpAnyH_take (i := 39) (v := ?v216) rfl (by kernel_rfl) (by kernel_rfl) (by kernel_rfl) (fun _ _ _ h => h) (Or.inl ⟨by kernel_rfl, ?hy216⟩) (by assumption) ?r216
                    case hy216 => (intro W hSW; obtain ⟨s0, s1, s2, s3, s4⟩ := hSW; go_simp; try with_reducible rfl)
                    simp only [Act.put, List.getElem_toArray, List.getElem_cons_zero, List.getElem_cons_succ, List.setIfInBounds_toArray, List.set_cons_zero, List.set_cons_succ]
                    refine wpAnyH_take (i := 40) (v := ?v217) rfl (by kernel_rfl) (by kernel_rfl) (by kernel_rfl) (fun _ _ _ h => h) (Or.inl ⟨by kernel_rfl, ?hy217⟩) (by assumption) ?r217
                    case hy217 => (intro W hSW; obtain ⟨s0, s1, s2, s3, s4⟩ := hSW; go_simp; try with_reducible rfl)
                    simp only [Act.put, List.getElem_toArray, List.getElem_cons_zero, List.getElem_cons_succ, List.setIfInBounds_toArray, List.set_cons_zero, List.set_cons_succ]
                    refine wpAnyH_take (i := 41) (v := ?v218) rfl (by kernel_rfl) (by kernel_rfl) (by kernel_rfl) (fun _ _ _ h => h) (Or.inl ⟨by kernel_rfl, ?hy218⟩) (by assumption) ?r218
                    case hy218 => (intro W hSW; obtain ⟨s0, s1, s2, s3, s4⟩ := hSW; go_simp; try with_reducible rfl)
                    simp only [Act.put, List.getElem_toArray, List.getElem_cons_zero, List.getElem_cons_succ, List.setIfInBounds_toArray, List.set_cons_zero, List.set_cons_succ]
                    refine wpAnyH_take (i := 42) (v := ?v219) rfl (by kernel_rfl) (by kernel_rfl) (by kernel_rfl) (fun _ _ _ h => h) (Or.inl ⟨by kernel_rfl, ?hy219⟩) (by assumption) ?r219
                    case hy219 => (intro W hSW; obtain ⟨s0, s1, s2, s3, s4⟩ := hSW; go_simp; try with_reducible rfl)
                    simp only [Act.put, List.getElem_toArray, List.getElem_cons_zero, List.getElem_cons_succ, List.setIfInBounds_toArray, List.set_cons_zero, List.set_cons_succ]
                    refine wpAnyH_take (i := 43) (v := ?v220) rfl (by kernel_rfl) (by kernel_rfl) (by kernel_rfl) (fun _ _ _ h => h) (Or.inl ⟨by kernel_rfl, ?hy220⟩) (by assumption) ?r220
                    case hy220 => (intro W hSW; obtain ⟨s0, s1, s2, s3, s4⟩ := hSW; go_simp; try with_reducible rfl)
                    simp only [Act.put, List.getElem_toArray, List.getElem_cons_zero, List.getElem_cons_succ, List.setIfInBounds_toArray, List.set_cons_zero, List.set_cons_succ]
                    refine wpAnyH_done (by kernel_rfl) ?_ _
                    refine NoPanic.normal ?_
                    go_wp2
                    go_roundw
                    case rel => exact ⟨q - 1, by go_num, by omega, fun j h1 h2 => by
                        rcases Nat.eq_or_lt_of_le h2 with h2 | h2
                        · rw [Hy.out j h1 h2.symm]; exact Hlt.out
                        · exact Hup.out j h1 (by omega), hB⟩
                    case measure => simp [intOf]; omega
                  · have g9 : decide (x.num < y.num) = false := decide_eq_false hnn
                    have Hlt := Lib.hid (show ltH x y = false by rw [ltH_3 hbl hae, g9])
                    clear hbl hae hnn
                    go_wp2_with fail
                    refine wp_region_noPanic ?_
                    refine wp_region_held_drew (S := fun V => V.cell? ⟨w.heap.size, 0, none⟩ = some (i64 x.num) ∧ V.cell? ⟨w.heap.size, 1, none⟩ = some (.string x.acct) ∧ V.cell? ⟨g, 0, none⟩ = some (.slice (some ⟨b, o, none⟩) H.length c) ∧ V.cell? ⟨b, o + (q - 1) * 3, none⟩ = some (i64 y.num) ∧ V.cell? ⟨b, o + (q - 1) * 3 + 1, none⟩ = some (.string y.acct)) (by kernel_rfl) (hSS.out _ hB.drew) (fun hH => ?_)
                    refine wpAnyH_take (i := 0) (v := ?v221) rfl (by kernel_rfl) (by kernel_rfl) (by kernel_rfl) (fun _ _ _ h => h) (Or.inl ⟨by kernel_rfl, ?hy221⟩) (by assumption) ?r221
                    case hy221 => (intro W hSW; obtain ⟨s0, s1, s2, s3, s4⟩ := hSW; go_simp; try with_reducible rfl)
                    simp only [Act.put, List.getElem_toArray, List.getElem_cons_zero, List.setIfInBounds_toArray, List.set_cons_zero, List.set_cons_succ]
                    refine wpAnyH_take (i := 1) (v := ?v222) rfl (by kernel_rfl) (by kernel_rfl) (by kernel_rfl) (fun _ _ _ h => h) (Or.inl ⟨by kernel_rfl, ?hy222⟩) (by assumption) ?r222
                    case hy222 => (intro W hSW; obtain ⟨s0, s1, s2, s3, s4⟩ := hSW; go_simp; try with_reducible rfl)
                    simp only [Act.put, List.getElem_toArray, List.getElem_cons_zero, List.getElem_cons_succ, List.setIfInBounds_toArray, List.set_cons_zero, List.set_cons_succ]
                    refine wpAnyH_take (i := 2) (v := ?v223) rfl (by kernel_rfl) (by kernel_rfl) (by kernel_rfl) (fun _ _ _ h => h) (Or.inl ⟨by kernel_rfl, ?hy223⟩) (by assumption) ?r223
                    case hy223 => (intro W hSW; obtain ⟨s0, s1, s2, s3, s4⟩ := hSW; go_simp; try with_reducible rfl)
                    simp only [Act.put, List.getElem_toArray, List.getElem_cons_zero, List.getElem_cons_succ, List.setIfInBounds_toArray, List.set_cons_zero, List.set_cons_succ]
                    refine wpAnyH_take (i := 3) (v := ?v224) rfl (by kernel_rfl) (by kernel_rfl) (by kernel_rfl) (fun _ _ _ h => h) (Or.inl ⟨by kernel_rfl, ?hy224⟩) (by assumption) ?r224
                    case hy224 => (intro W hSW; obtain ⟨s0, s1, s2, s3, s4⟩ := hSW; go_simp; try with_reducible rfl)
                    simp only [Act.put, List.getElem_toArray, List.getElem_cons_zero, List.getElem_cons_succ, List.setIfInBounds_toArray, List.set_cons_zero, List.set_cons_succ]
                    refine wpAnyH_take (i := 4) (v := ?v225) rfl (by kernel_rfl) (by kernel_rfl) (by kernel_rfl) (fun _ _ _ h => h) (Or.inl ⟨by kernel_rfl, ?hy225⟩) (by assumption) ?r225
                    case hy225 => (intro W hSW; obtain ⟨s0, s1, s2, s3, s4⟩ := hSW; go_simp; try with_reducible rfl)
                    simp only [Act.put, List.getElem_toArray, List.getElem_cons_zero, List.getElem_cons_succ, List.setIfInBounds_toArray, List.set_cons_zero, List.set_cons_succ]
                    refine wpAnyH_take (i := 5) (v := ?v226) rfl (by kernel_rfl) (by kernel_rfl) (by kernel_rfl) (fun _ _ _ h => h) (Or.inl ⟨by kernel_rfl, ?hy226⟩) (by assumption) ?r226
                    case hy226 => (intro W hSW; obtain ⟨s0, s1, s2, s3, s4⟩ := hSW; go_simp; try with_reducible rfl)
                    simp only [Act.put, List.getElem_toArray, List.getElem_cons_zero, List.getElem_cons_succ, List.setIfInBounds_toArray, List.set_cons_zero, List.set_cons_succ]
                    refine wpAnyH_take (i := 6) (v := ?v227) rfl (by kernel_rfl) (by kernel_rfl) (by kernel_rfl) (fun _ _ _ h => h) (Or.inl ⟨by kernel_rfl, ?hy227⟩) (by assumption) ?r227
                    case hy227 => (intro W hSW; obtain ⟨s0, s1, s2, s3, s4⟩ := hSW; go_simp; try with_reducible rfl)
                    simp only [Act.put, List.getElem_toArray, List.getElem_cons_zero, List.getElem_cons_succ, List.setIfInBounds_toArray, List.set_cons_zero, List.set_cons_succ]
                    refine wpAnyH_take (i := 7) (v := ?v228) rfl (by kernel_rfl) (by kernel_rfl) (by kernel_rfl) (fun _ _ _ h => h) (Or.inl ⟨by kernel_rfl, ?hy228⟩) (by assumption) ?r228
                    case hy228 => (intro W hSW; obtain ⟨s0, s1, s2, s3, s4⟩ := hSW; go_simp; try with_reducible rfl)
                    simp only [Act.put, List.getElem_toArray, List.getElem_cons_zero, List.getElem_cons_succ, List.setIfInBounds_toArray, List.set_cons_zero, List.set_cons_succ]
                    refine wpAnyH_take (i := 8) (v := ?v229) rfl (by kernel_rfl) (by kernel_rfl) (by kernel_rfl) (fun _ _ _ h => h) (Or.inl ⟨by kernel_rfl, ?hy229⟩) (by assumption) ?r229
                    case hy229 => (intro W hSW; obtain ⟨s0, s1, s2, s3, s4⟩ := hSW; go_simp; try with_reducible rfl)
                    simp only [Act.put, List.getElem_toArray, List.getElem_cons_zero, List.getElem_cons_succ, List.setIfInBounds_toArray, List.set_cons_zero, List.set_cons_succ]
                    refine wpAnyH_take (i := 9) (v := ?v230) rfl (by kernel_rfl) (by kernel_rfl) (by kernel_rfl) (fun _ _ _ h => h) (Or.inl ⟨by kernel_rfl, ?hy230⟩) (by assumption) ?r230
                    case hy230 => (intro W hSW; obtain ⟨s0, s1, s2, s3, s4⟩ := hSW; go_simp; try with_reducible rfl)
                    simp only [Act.put, List.getElem_toArray, List.getElem_cons_zero, List.getElem_cons_succ, List.setIfInBounds_toArray, List.set_cons_zero, List.set_cons_succ]
                    refine wpAnyH_take (i := 10) (v := ?v231) rfl (by kernel_rfl) (by kernel_rfl) (by kernel_rfl) (fun _ _ _ h => h) (Or.inl ⟨by kernel_rfl, ?hy231⟩) (by assumption) ?r231
                    case hy231 => (intro W hSW; obtain ⟨s0, s1, s2, s3, s4⟩ := hSW; go_simp; try with_reducible rfl)
                    simp only [Act.put, List.getElem_toArray, List.getElem_cons_zero, List.getElem_cons_succ, List.setIfInBounds_toArray, List.set_cons_zero, List.set_cons_succ]
                    refine wpAnyH_take (i := 11) (v := ?v232) rfl (by kernel_rfl) (by kernel_rfl) (by kernel_rfl) (fun _ _ _ h => h) (Or.inl ⟨by kernel_rfl, ?hy232⟩) (by assumption) ?r232
                    case hy232 => (intro W hSW; obtain ⟨s0, s1, s2, s3, s4⟩ := hSW; go_simp; try with_reducible rfl)
                    simp only [Act.put, List.getElem_toArray, List.getElem_cons_zero, List.getElem_cons_succ, List.setIfInBounds_toArray, List.set_cons_zero, List.set_cons_succ]
                    refine wpAnyH_take (i := 12) (v := ?v233) rfl (by kernel_rfl) (by kernel_rfl) (by kernel_rfl) (fun _ _ _ h => h) (Or.inl ⟨by kernel_rfl, ?hy233⟩) (by assumption) ?r233
                    case hy233 => (intro W hSW; obtain ⟨s0, s1, s2, s3, s4⟩ := hSW; go_simp; try with_reducible rfl)
                    simp only [Act.put, List.getElem_toArray, List.getElem_cons_zero, List.getElem_cons_succ, List.setIfInBounds_toArray, List.set_cons_zero, List.set_cons_succ]
                    refine wpAnyH_take (i := 13) (v := ?v234) rfl (by kernel_rfl) (by kernel_rfl) (by kernel_rfl) (fun _ _ _ h => h) (Or.inl ⟨by kernel_rfl, ?hy234⟩) (by assumption) ?r234
                    case hy234 => (intro W hSW; obtain ⟨s0, s1, s2, s3, s4⟩ := hSW; go_simp; try with_reducible rfl)
                    simp only [Act.put, List.getElem_toArray, List.getElem_cons_zero, List.getElem_cons_succ, List.setIfInBounds_toArray, List.set_cons_zero, List.set_cons_succ]
                    refine wpAnyH_ready (rs := [14]) (by kernel_rfl) (by simp) ?_
                    refine AllReadyH.cons rfl (fun K hK => ?_) AllReadyH.nil
                    go_simp
                    with_reducible refine (hRa.out _).mono ?_
                    rintro e wq ⟨rfl, hF⟩
                    have hB := below_on hB.drew (Nat.le_refl _) hF
                    refine hK.out _ _ (hSS.out _ hB) (fun hH2 => ?_)
                    clear hF
                    clear hK K
                    try simp only [Act.put, List.getElem_toArray, List.getElem_cons_zero, List.getElem_cons_succ, List.setIfInBounds_toArray, List.set_cons_zero, List.set_cons_succ]
                    refine wpAnyH_take (i := 15) (v := ?v236) rfl (by kernel_rfl) (by kernel_rfl) (by kernel_rfl) (fun _ _ _ h => h) (Or.inl ⟨by kernel_rfl, ?hy236⟩) (by assumption) ?r236
                    case hy236 => (intro W hSW; obtain ⟨s0, s1, s2, s3, s4⟩ := hSW; go_simp; try with_reducible rfl)
                    simp only [Act.put, List.getElem_toArray, List.getElem_cons_zero, List.getElem_cons_succ, List.setIfInBounds_toArray, List.set_cons_zero, List.set_cons_succ]
                    refine wpAnyH_take (i := 16) (v := ?v237) rfl (by kernel_rfl) (by kernel_rfl) (by kernel_rfl) (fun _ _ _ h => h) (Or.inl ⟨by kernel_rfl, ?hy237⟩) (by assumption) ?r237
                    case hy237 => (intro W hSW; obtain ⟨s0, s1, s2, s3, s4⟩ := hSW; go_simp; try with_reducible rfl)
                    simp only [Act.put, List.getElem_toArray, List.getElem_cons_zero, List.getElem_cons_succ, List.setIfInBounds_toArray, List.set_cons_zero, List.set_cons_succ]
                    refine wpAnyH_take (i := 17) (v := ?v238) rfl (by kernel_rfl) (by kernel_rfl) (by kernel_rfl) (fun _ _ _ h => h) (Or.inl ⟨by kernel_rfl, ?hy238⟩) (by assumption) ?r238
                    case hy238 => (intro W hSW; obtain ⟨s0, s1, s2, s3, s4⟩ := hSW; go_simp; try with_reducible rfl)
                    simp only [Act.put, List.getElem_toArray, List.getElem_cons_zero, List.getElem_cons_succ, List.setIfInBounds_toArray, List.set_cons_zero, List.set_cons_succ]
                    refine wpAnyH_take (i := 18) (v := ?v239) rfl (by kernel_rfl) (by kernel_rfl) (by kernel_rfl) (fun _ _ _ h => h) (Or.inl ⟨by kernel_rfl, ?hy239⟩) (by assumption) ?r239
                    case hy239 => (intro W hSW; obtain ⟨s0, s1, s2, s3, s4⟩ := hSW; go_simp; try with_reducible rfl)
                    simp only [Act.put, List.getElem_toArray, List.getElem_cons_zero, List.getElem_cons_succ, List.setIfInBounds_toArray, List.set_cons_zero, List.set_cons_succ]
                    refine wpAnyH_take (i := 19) (v := ?v240) rfl (by kernel_rfl) (by kernel_rfl) (by kernel_rfl) (fun _ _ _ h => h) (Or.inl ⟨by kernel_rfl, ?hy240⟩) (by assumption) ?r240
                    case hy240 => (intro W hSW; obtain ⟨s0, s1, s2, s3, s4⟩ := hSW; go_simp; try with_reducible rfl)
                    simp only [Act.put, List.getElem_toArray, List.getElem_cons_zero, List.getElem_cons_succ, List.setIfInBounds_toArray, List.set_cons_zero, List.set_cons_succ]
                    refine wpAnyH_take (i := 20) (v := ?v241) rfl (by kernel_rfl) (by kernel_rfl) (by kernel_rfl) (fun _ _ _ h => h) (Or.inl ⟨by kernel_rfl, ?hy241⟩) (by assumption) ?r241
                    case hy241 => (intro W hSW; obtain ⟨s0, s1, s2, s3, s4⟩ := hSW; go_simp; try with_reducible rfl)
                    simp only [Act.put, List.getElem_toArray, List.getElem_cons_zero, List.getElem_cons_succ, List.setIfInBounds_toArray, List.set_cons_zero, List.set_cons_succ]
                    refine wpAnyH_take (i := 21) (v := ?v242) rfl (by kernel_rfl) (by kernel_rfl) (by kernel_rfl) (fun _ _ _ h => h) (Or.inl ⟨by kernel_rfl, ?hy242⟩) (by assumption) ?r242
                    case hy242 => (intro W hSW; obtain ⟨s0, s1, s2, s3, s4⟩ := hSW; go_simp; try with_reducible rfl)
                    simp only [Act.put, List.getElem_toArray, List.getElem_cons_zero, List.getElem_cons_succ, List.setIfInBounds_toArray, List.set_cons_zero, List.set_cons_succ]
                    refine wpAnyH_take (i := 22) (v := ?v243) rfl (by kernel_rfl) (by kernel_rfl) (by kernel_rfl) (fun _ _ _ h => h) (Or.inl ⟨by kernel_rfl, ?hy243⟩) (by assumption) ?r243
                    case hy243 => (intro W hSW; obtain ⟨s0, s1, s2, s3, s4⟩ := hSW; go_simp; try with_reducible rfl)
                    simp only [Act.put, List.getElem_toArray, List.getElem_cons_zero, List.getElem_cons_succ, List.setIfInBounds_toArray, List.set_cons_zero, List.set_cons_succ]
                    refine wpAnyH_take (i := 23) (v := ?v244) rfl (by kernel_rfl) (by kernel_rfl) (by kernel_rfl) (fun _ _ _ h => h) (Or.inl ⟨by kernel_rfl, ?hy244⟩) (by assumption) ?r244
                    case hy244 => (intro W hSW; obtain ⟨s0, s1, s2, s3, s4⟩ := hSW; go_simp; try with_reducible rfl)
                    simp only [Act.put, List.getElem_toArray, List.getElem_cons_zero, List.getElem_cons_succ, List.setIfInBounds_toArray, List.set_cons_zero, List.set_cons_succ]
                    refine wpAnyH_take (i := 24) (v := ?v245) rfl (by kernel_rfl) (by kernel_rfl) (by kernel_rfl) (fun _ _ _ h => h) (Or.inl ⟨by kernel_rfl, ?hy245⟩) (by assumption) ?r245
                    case hy245 => (intro W hSW; obtain ⟨s0, s1, s2, s3, s4⟩ := hSW; go_simp; try with_reducible rfl)
                    simp only [Act.put, List.getElem_toArray, List.getElem_cons_zero, List.getElem_cons_succ, List.setIfInBounds_toArray, List.set_cons_zero, List.set_cons_succ]
                    refine wpAnyH_take (i := 25) (v := ?v246) rfl (by kernel_rfl) (by kernel_rfl) (by kernel_rfl) (fun _ _ _ h => h) (Or.inl ⟨by kernel_rfl, ?hy246⟩) (by assumption) ?r246
                    case hy246 => (intro W hSW; obtain ⟨s0, s1, s2, s3, s4⟩ := hSW; go_simp; try with_reducible rfl)
                    simp only [Act.put, List.getElem_toArray, List.getElem_cons_zero, List.getElem_cons_succ, List.setIfInBounds_toArray, List.set_cons_zero, List.set_cons_succ]
                    refine wpAnyH_take (i := 26) (v := ?v247) rfl (by kernel_rfl) (by kernel_rfl) (by kernel_rfl) (fun _ _ _ h => h) (Or.inl ⟨by kernel_rfl, ?hy247⟩) (by assumption) ?r247
                    case hy247 => (intro W hSW; obtain ⟨s0, s1, s2, s3, s4⟩ := hSW; go_simp; try with_reducible rfl)
                    simp only [Act.put, List.getElem_toArray, List.getElem_cons_zero, List.getElem_cons_succ, List.setIfInBounds_toArray, List.set_cons_zero, List.set_cons_succ]
                    refine wpAnyH_take (i := 27) (v := ?v248) rfl (by kernel_rfl) (by kernel_rfl) (by kernel_rfl) (fun _ _ _ h => h) (Or.inl ⟨by kernel_rfl, ?hy248⟩) (by assumption) ?r248
                    case hy248 => (intro W hSW; obtain ⟨s0, s1, s2, s3, s4⟩ := hSW; go_simp; try with_reducible rfl)
                    simp only [Act.put, List.getElem_toArray, List.getElem_cons_zero, List.getElem_cons_succ, List.setIfInBounds_toArray, List.set_cons_zero, List.set_cons_succ]
                    refine wpAnyH_take (i := 28) (v := ?v249) rfl (by kernel_rfl) (by kernel_rfl) (by kernel_rfl) (fun _ _ _ h => h) (Or.inl ⟨by kernel_rfl, ?hy249⟩) (by assumption) ?r249
                    case hy249 => (intro W hSW; obtain ⟨s0, s1, s2, s3, s4⟩ := hSW; go_simp; try with_reducible rfl)
                    simp only [Act.put, List.getElem_toArray, List.getElem_cons_zero, List.getElem_cons_succ, List.setIfInBounds_toArray, List.set_cons_zero, List.set_cons_succ]
                    refine wpAnyH_take (i := 29) (v := ?v250) rfl (by kernel_rfl) (by kernel_rfl) (by kernel_rfl) (fun _ _ _ h => h) (Or.inl ⟨by kernel_rfl, ?hy250⟩) (by assumption) ?r250
                    case hy250 => (intro W hSW; obtain ⟨s0, s1, s2, s3, s4⟩ := hSW; go_simp; try with_reducible rfl)
                    simp only [Act.put, List.getElem_toArray, List.getElem_cons_zero, List.getElem_cons_succ, List.setIfInBounds_toArray, List.set_cons_zero, List.set_cons_succ]
                    refine wpAnyH_take (i := 30) (v := ?v251) rfl (by kernel_rfl) (by kernel_rfl) (by kernel_rfl) (fun _ _ _ h => h) (Or.inl ⟨by kernel_rfl, ?hy251⟩) (by assumption) ?r251
                    case hy251 => (intro W hSW; obtain ⟨s0, s1, s2, s3, s4⟩ := hSW; go_simp; try with_reducible rfl)
                    simp only [Act.put, List.getElem_toArray, List.getElem_cons_zero, List.getElem_cons_succ, List.setIfInBounds_toArray, List.set_cons_zero, List.set_cons_succ]
                    refine wpAnyH_take (i := 31) (v := ?v252) rfl (by kernel_rfl) (by kernel_rfl) (by kernel_rfl) (fun _ _ _ h => h) (Or.inl ⟨by kernel_rfl, ?hy252⟩) (by assumption) ?r252
                    case hy252 => (intro W hSW; obtain ⟨s0, s1, s2, s3, s4⟩ := hSW; go_simp; try with_reducible rfl)
                    simp only [Act.put, List.getElem_toArray, List.getElem_cons_zero, List.getElem_cons_succ, List.setIfInBounds_toArray, List.set_cons_zero, List.set_cons_succ]
                    refine wpAnyH_take (i := 32) (v := ?v253) rfl (by kernel_rfl) (by kernel_rfl) (by kernel_rfl) (fun _ _ _ h => h) (Or.inl ⟨by kernel_rfl, ?hy253⟩) (by assumption) ?r253
                    case hy253 => (intro W hSW; obtain ⟨s0, s1, s2, s3, s4⟩ := hSW; go_simp; try with_reducible rfl)
                    simp only [Act.put, List.getElem_toArray, List.getElem_cons_zero, List.getElem_cons_succ, List.setIfInBounds_toArray, List.set_cons_zero, List.set_cons_succ]
                    refine wpAnyH_take (i := 33) (v := ?v254) rfl (by kernel_rfl) (by kernel_rfl) (by kernel_rfl) (fun _ _ _ h => h) (Or.inl ⟨by kernel_rfl, ?hy254⟩) (by assumption) ?r254
                    case hy254 => (intro W hSW; obtain ⟨s0, s1, s2, s3, s4⟩ := hSW; go_simp; try with_reducible rfl)
                    simp only [Act.put, List.getElem_toArray, List.getElem_cons_zero, List.getElem_cons_succ, List.setIfInBounds_toArray, List.set_cons_zero, List.set_cons_succ]
                    refine wpAnyH_take (i := 34) (v := ?v255) rfl (by kernel_rfl) (by kernel_rfl) (by kernel_rfl) (fun _ _ _ h => h) (Or.inl ⟨by kernel_rfl, ?hy255⟩) (by assumption) ?r255
                    case hy255 => (intro W hSW; obtain ⟨s0, s1, s2, s3, s4⟩ := hSW; go_simp; try with_reducible rfl)
                    simp only [Act.put, List.getElem_toArray, List.getElem_cons_zero, List.getElem_cons_succ, List.setIfInBounds_toArray, List.set_cons_zero, List.set_cons_succ]
                    refine wpAnyH_take (i := 35) (v := ?v256) rfl (by kernel_rfl) (by kernel_rfl) (by kernel_rfl) (fun _ _ _ h => h) (Or.inl ⟨by kernel_rfl, ?hy256⟩) (by assumption) ?r256
                    case hy256 => (intro W hSW; obtain ⟨s0, s1, s2, s3, s4⟩ := hSW; go_simp; try with_reducible rfl)
                    simp only [Act.put, List.getElem_toArray, List.getElem_cons_zero, List.getElem_cons_succ, List.setIfInBounds_toArray, List.set_cons_zero, List.set_cons_succ]
                    refine wpAnyH_take (i := 36) (v := ?v257) rfl (by kernel_rfl) (by kernel_rfl) (by kernel_rfl) (fun _ _ _ h => h) (Or.inl ⟨by kernel_rfl, ?hy257⟩) (by assumption) ?r257
                    case hy257 => (intro W hSW; obtain ⟨s0, s1, s2, s3, s4⟩ := hSW; go_simp; try with_reducible rfl)
                    simp only [Act.put, List.getElem_toArray, List.getElem_cons_zero, List.getElem_cons_succ, List.setIfInBounds_toArray, List.set_cons_zero, List.set_cons_succ]
                    refine wpAnyH_take (i := 37) (v := ?v258) rfl (by kernel_rfl) (by kernel_rfl) (by kernel_rfl) (fun _ _ _ h => h) (Or.inl ⟨by kernel_rfl, ?hy258⟩) (by assumption) ?r258
                    case hy258 => (intro W hSW; obtain ⟨s0, s1, s2, s3, s4⟩ := hSW; go_simp; try with_reducible rfl)
                    simp only [Act.put, List.getElem_toArray, List.getElem_cons_zero, List.getElem_cons_succ, List.setIfInBounds_toArray, List.set_cons_zero, List.set_cons_succ]
                    refine wpAnyH_take (i := 38) (v := ?v259) rfl (by kernel_rfl) (by kernel_rfl) (by kernel_rfl) (fun _ _ _ h => h) (Or.inl ⟨by kernel_rfl, ?hy259⟩) (by assumption) ?r259
                    case hy259 => (intro W hSW; obtain ⟨s0, s1, s2, s3, s4⟩ := hSW; go_simp; try with_reducible rfl)
                    simp only [Act.put, List.getElem_toArray, List.getElem_cons_zero, List.getElem_cons_succ, List.setIfInBounds_toArray, List.set_cons_zero, List.set_cons_succ]
                    refine wpAnyH_take (i := 39) (v := ?v260) rfl (by kernel_rfl) (by kernel_rfl) (by kernel_rfl) (fun _ _ _ h => h) (Or.inl ⟨by kernel_rfl, ?hy260⟩) (by assumption) ?r260
                    case hy260 => (intro W hSW; obtain ⟨s0, s1, s2, s3, s4⟩ := hSW; go_simp; try with_reducible rfl)
                    simp only [Act.put, List.getElem_toArray, List.getElem_cons_zero, List.getElem_cons_succ, List.setIfInBounds_toArray, List.set_cons_zero, List.set_cons_succ]
                    refine wpAnyH_take (i := 40) (v := ?v261) rfl (by kernel_rfl) (by kernel_rfl) (by kernel_rfl) (fun _ _ _ h => h) (Or.inl ⟨by kernel_rfl, ?hy261⟩) (by assumption) ?r261
                    case hy261 => (intro W hSW; obtain ⟨s0, s1, s2, s3, s4⟩ := hSW; go_simp; try with_reducible rfl)
                    simp only [Act.put, List.getElem_toArray, List.getElem_cons_zero, List.getElem_cons_succ, List.setIfInBounds_toArray, List.set_cons_zero, List.set_cons_succ]
                    refine wpAnyH_take (i := 41) (v := ?v262) rfl (by kernel_rfl) (by kernel_rfl) (by kernel_rfl) (fun _ _ _ h => h) (Or.inl ⟨by kernel_rfl, ?hy262⟩) (by assumption) ?r262
                    case hy262 => (intro W hSW; obtain ⟨s0, s1, s2, s3, s4⟩ := hSW; go_simp; try with_reducible rfl)
                    simp only [Act.put, List.getElem_toArray, List.getElem_cons_zero, List.getElem_cons_succ, List.setIfInBounds_toArray, List.set_cons_zero, List.set_cons_succ]
                    refine wpAnyH_take (i := 42) (v := ?v263) rfl (by kernel_rfl) (by kernel_rfl) (by kernel_rfl) (fun _ _ _ h => h) (Or.inl ⟨by kernel_rfl, ?hy263⟩) (by assumption) ?r263
                    case hy263 => (intro W hSW; obtain ⟨s0, s1, s2, s3, s4⟩ := hSW; go_simp; try with_reducible rfl)
                    simp only [Act.put, List.getElem_toArray, List.getElem_cons_zero, List.getElem_cons_succ, List.setIfInBounds_toArray, List.set_cons_zero, List.set_cons_succ]
                    refine wpAnyH_take (i := 43) (v := ?v264) rfl (by kernel_rfl) (by kernel_rfl) (by kernel_rfl) (fun _ _ _ h => h) (Or.inl ⟨by kernel_rfl, ?hy264⟩) (by assumption) ?r264
                    case hy264 => (intro W hSW; obtain ⟨s0, s1, s2, s3, s4⟩ := hSW; go_simp; try with_reducible rfl)
                    simp only [Act.put, List.getElem_toArray, List.getElem_cons_zero, List.getElem_cons_succ, List.setIfInBounds_toArray, List.set_cons_zero, List.set_cons_succ]
                    refine wpAnyH_done (by kernel_rfl) ?_ _
                    refine NoPanic.normal ?_
                    go_wp2_with fail
                    clear e1 i0 i1 hRa
                    have HI := Lib.hid (insB_at keyH.strict x H q HSH.out (by omega) (ins_loH HSH.out hq1 (by rw [Hyy.out]; exact Hlt.out) Hno.out) (fun j h hj => keyH.strict.asymm (Hup.out j h hj)))
                    have HBq := Lib.hid hB
                    have hcq := Lib.hid ((hB.block _ hlg2).trans Hc.out)
                    have hlgq := Nat.lt_of_lt_of_le hlg2 hB.size
                    have c0q := (hB.cell (p := ⟨g, 0, none⟩) hlg2).trans c0
                    have hsq := Lib.hid (Hs.out.below_ hB)
                    have hTk := Lib.hid (fun (V : World) (h : Below wq.heap.size wq V) => (show SlS V (Oth V (.slice none 0 0)) (some ⟨b, o, none⟩) c (H.take q) from ((hsq.out.below_ h).take q).keep (fun _ _ => rfl) (fun b hb => ⟨hb.1, by simp [Value.ownBlock]⟩)))
                    have hDr := Lib.hid (fun (V : World) (h : Below wq.heap.size wq V) => (show Sl V wq.heap.size (if c = q then some ⟨b, o, none⟩ else some ⟨b, o + q * 3, none⟩) (c - q) (H.drop q) from by
                          have := ((hsq.out.mono (fun b hb => hb.1)).drop (k := q) (by omega)).below h
                          rwa [Option.map_some, show (⟨b, o, none⟩ : Addr).add (q * Enc.size Held) = ⟨b, o + q * 3, none⟩ from add_noneC ..] at this))
                    have Hql := Lib.hid (show q = (H.take q).length by rw [List.length_take]; omega)
                    have HSS := Lib.hid (show ∀ V, Below wq.heap.size wq V → (fun V : World => V.cell? ⟨g, 0, none⟩ = some (.slice (some ⟨b, o, none⟩) H.length c) ∧ V.cell? ⟨w.heap.size, 0, none⟩ = some (i64 x.num) ∧ V.cell? ⟨w.heap.size, 1, none⟩ = some (.string x.acct) ∧ V.cell? ⟨w.heap.size, 2, none⟩ = some (i64 x.sum)) V from fun V h => ⟨(h.cell (World.block_lt_of_cell? _ _ c0q)).trans c0q, (h.cell (Nat.lt_of_lt_of_le hlx2 hB.size)).trans ((hB.cell (p := ⟨w.heap.size, 0, none⟩) hlx2).trans n0), (h.cell (Nat.lt_of_lt_of_le hlx2 hB.size)).trans ((hB.cell (p := ⟨w.heap.size, 1, none⟩) hlx2).trans n1), (h.cell (Nat.lt_of_lt_of_le hlx2 hB.size)).trans ((hB.cell (p := ⟨w.heap.size, 2, none⟩) hlx2).trans n2)⟩)
                    have q1 : ((q : Nat) : Int) ≤ (c : Int) := by omega
                    have q2 : ((q : Nat) : Int) ≤ (H.length : Int) := by omega
                    have q3 : (H.length : Int) ≤ (c : Int) := by omega
                    have q0 : (0 : Int) ≤ ((q : Nat) : Int) := by omega
                    clear hB c0 n0 n1 n2
                    have hb : Below wq.heap.size wq wq.drew := (Below.refl _ _).drew
                    refine wp_region_noPanic ?_
                    refine wp_region_l 20 (fun V => V.cell? ⟨g, 0, none⟩ = some (.slice (some ⟨b, o, none⟩) H.length c) ∧ V.cell? ⟨w.heap.size, 0, none⟩ = some (i64 x.num) ∧ V.cell? ⟨w.heap.size, 1, none⟩ = some (.string x.acct) ∧ V.cell? ⟨w.heap.size, 2, none⟩ = some (i64 x.sum)) (by kernel_rfl) (HSS.out _ hb) (fun hH => ?_)
                    refine wpAnyL_take (i := 0) (v := ?v5055) rfl (by kernel_rfl) (by kernel_rfl) (by kernel_rfl) (by kernel_rfl) (fun _ _ _ h => h) (Or.inl ⟨by kernel_rfl, ?hy5055⟩) (by assumption) ?r5055
                    case hy5055 => (intro W hSW; obtain ⟨s0, s1, s2, s3⟩ := hSW; go_simp; try with_reducible rfl)
                    try simp only [Act.put, List.getElem_toArray, List.getElem_cons_zero, List.setIfInBounds_toArray, List.set_cons_zero, List.set_cons_succ]
                    refine wpAnyL_take (i := 1) (v := ?v5056) rfl (by kernel_rfl) (by kernel_rfl) (by kernel_rfl) (by kernel_rfl) (fun _ _ _ h => h) (Or.inl ⟨by kernel_rfl, ?hy5056⟩) (by assumption) ?r5056
                    case hy5056 => (intro W hSW; obtain ⟨s0, s1, s2, s3⟩ := hSW; go_simp; try with_reducible rfl)
                    try simp only [Act.put, List.getElem_toArray, List.getElem_cons_zero, List.getElem_cons_succ, List.setIfInBounds_toArray, List.set_cons_zero, List.set_cons_succ]
                    refine wpAnyL_take (i := 2) (v := ?v5057) rfl (by kernel_rfl) (by kernel_rfl) (by kernel_rfl) (by kernel_rfl) (fun _ _ _ h => h) (Or.inl ⟨by kernel_rfl, ?hy5057⟩) (by assumption) ?r5057
                    case hy5057 => (intro W hSW; obtain ⟨s0, s1, s2, s3⟩ := hSW; go_simp; try with_reducible rfl)
                    try simp only [Act.put, List.getElem_toArray, List.getElem_cons_zero, List.getElem_cons_succ, List.setIfInBounds_toArray, List.set_cons_zero, List.set_cons_succ]
                    refine wpAnyL_take (i := 3) (v := ?v5058) rfl (by kernel_rfl) (by kernel_rfl) (by kernel_rfl) (by kernel_rfl) (fun _ _ _ h => h) (Or.inl ⟨by kernel_rfl, ?hy5058⟩) (by assumption) ?r5058
                    case hy5058 => (intro W hSW; obtain ⟨s0, s1, s2, s3⟩ := hSW; go_simp; try with_reducible rfl)
                    try simp only [Act.put, List.getElem_toArray, List.getElem_cons_zero, List.getElem_cons_succ, List.setIfInBounds_toArray, List.set_cons_zero, List.set_cons_succ]
                    refine wpAnyL_take (i := 4) (v := ?v5059) rfl (by kernel_rfl) (by kernel_rfl) (by kernel_rfl) (by kernel_rfl) (fun _ _ _ h => h) (Or.inl ⟨by kernel_rfl, ?hy5059⟩) (by assumption) ?r5059
                    case hy5059 => (intro W hSW; obtain ⟨s0, s1, s2, s3⟩ := hSW; go_simp; try with_reducible rfl)
                    try simp only [Act.put, List.getElem_toArray, List.getElem_cons_zero, List.getElem_cons_succ, List.setIfInBounds_toArray, List.set_cons_zero, List.set_cons_succ]
                    refine wpAnyL_take (i := 5) (v := ?v5060) rfl (by kernel_rfl) (by kernel_rfl) (by kernel_rfl) (by kernel_rfl) (fun _ _ _ h => h) (Or.inl ⟨by kernel_rfl, ?hy5060⟩) (by assumption) ?r5060
                    case hy5060 => (intro W hSW; obtain ⟨s0, s1, s2, s3⟩ := hSW; go_simp; try with_reducible rfl)
                    try simp only [Act.put, List.getElem_toArray, List.getElem_cons_zero, List.getElem_cons_succ, List.setIfInBounds_toArray, List.set_cons_zero, List.set_cons_succ]
                    refine wpAnyL_take (i := 6) (v := ?v5061) rfl (by kernel_rfl) (by kernel_rfl) (by kernel_rfl) (by kernel_rfl) (fun _ _ _ h => h) (Or.inl ⟨by kernel_rfl, ?hy5061⟩) (by assumption) ?r5061
                    case hy5061 => (intro W hSW; obtain ⟨s0, s1, s2, s3⟩ := hSW; go_simp; try with_reducible rfl)
                    try simp only [Act.put, List.getElem_toArray, List.getElem_cons_zero, List.getElem_cons_succ, List.setIfInBounds_toArray, List.set_cons_zero, List.set_cons_succ]
                    refine wpAnyL_take (i := 8) (v := ?v5062) rfl (by kernel_rfl) (by kernel_rfl) (by kernel_rfl) (by kernel_rfl) (fun _ _ _ h => h) (Or.inl ⟨by kernel_rfl, ?hy5062⟩) (by assumption) ?r5062
                    case hy5062 => (intro W hSW; obtain ⟨s0, s1, s2, s3⟩ := hSW; go_simp; try with_reducible rfl)
                    try simp only [Act.put, List.getElem_toArray, List.getElem_cons_zero, List.getElem_cons_succ, List.setIfInBounds_toArray, List.set_cons_zero, List.set_cons_succ]
                    refine wpAnyL_take (i := 11) (v := ?v5063) rfl (by kernel_rfl) (by kernel_rfl) (by kernel_rfl) (by kernel_rfl) (fun _ _ _ h => h) (Or.inl ⟨by kernel_rfl, ?hy5063⟩) (by assumption) ?r5063
                    case hy5063 => (intro W hSW; obtain ⟨s0, s1, s2, s3⟩ := hSW; go_simp; try with_reducible rfl)
                    try simp only [Act.put, List.getElem_toArray, List.getElem_cons_zero, List.getElem_cons_succ, List.setIfInBounds_toArray, List.set_cons_zero, List.set_cons_succ]
                    refine wpAnyL_take (i := 12) (v := ?v5064) rfl (by kernel_rfl) (by kernel_rfl) (by kernel_rfl) (by kernel_rfl) (fun _ _ _ h => h) (Or.inl ⟨by kernel_rfl, ?hy5064⟩) (by assumption) ?r5064
                    case hy5064 => (intro W hSW; obtain ⟨s0, s1, s2, s3⟩ := hSW; go_simp; try with_reducible rfl)
                    try simp only [Act.put, List.getElem_toArray, List.getElem_cons_zero, List.getElem_cons_succ, List.setIfInBounds_toArray, List.set_cons_zero, List.set_cons_succ]
                    refine wpAnyL_take (i := 13) (v := ?v5065) rfl (by kernel_rfl) (by kernel_rfl) (by kernel_rfl) (by kernel_rfl) (fun _ _ _ h => h) (Or.inl ⟨by kernel_rfl, ?hy5065⟩) (by assumption) ?r5065
                    case hy5065 => (intro W hSW; obtain ⟨s0, s1, s2, s3⟩ := hSW; go_simp; try with_reducible rfl)
                    try simp only [Act.put, List.getElem_toArray, List.getElem_cons_zero, List.getElem_cons_succ, List.setIfInBounds_toArray, List.set_cons_zero, List.set_cons_succ]
                    refine wpAnyL_take (i := 14) (v := ?v5066) rfl (by kernel_rfl) (by kernel_rfl) (by kernel_rfl) (by kernel_rfl) (fun _ _ _ h => h) (Or.inl ⟨by kernel_rfl, ?hy5066⟩) (by assumption) ?r5066
                    case hy5066 => (intro W hSW; obtain ⟨s0, s1, s2, s3⟩ := hSW; go_simp; try with_reducible rfl)
                    try simp only [Act.put, List.getElem_toArray, List.getElem_cons_zero, List.getElem_cons_succ, List.setIfInBounds_toArray, List.set_cons_zero, List.set_cons_succ]
                    refine wpAnyL_take (i := 15) (v := ?v5067) rfl (by kernel_rfl) (by kernel_rfl) (by kernel_rfl) (by kernel_rfl) (fun _ _ _ h => h) (Or.inl ⟨by kernel_rfl, ?hy5067⟩) (by assumption) ?r5067
                    case hy5067 => (intro W hSW; obtain ⟨s0, s1, s2, s3⟩ := hSW; go_simp; try with_reducible rfl)
                    try simp only [Act.put, List.getElem_toArray, List.getElem_cons_zero, List.getElem_cons_succ, List.setIfInBounds_toArray, List.set_cons_zero, List.set_cons_succ]
                    refine wpAnyL_take (i := 16) (v := ?v5068) rfl (by kernel_rfl) (by kernel_rfl) (by kernel_rfl) (by kernel_rfl) (fun _ _ _ h => h) (Or.inl ⟨by kernel_rfl, ?hy5068⟩) (by assumption) ?r5068
                    case hy5068 => (intro W hSW; obtain ⟨s0, s1, s2, s3⟩ := hSW; go_simp; try with_reducible rfl)
                    try simp only [Act.put, List.getElem_toArray, List.getElem_cons_zero, List.getElem_cons_succ, List.setIfInBounds_toArray, List.set_cons_zero, List.set_cons_succ]
                    refine wpAnyL_ready (rs := [7, 9]) (by kernel_rfl) (by simp) ?_
                    refine AllReadyL.cons rfl (fun K hK => ?_) ?_
                    · skip
                      rw [if_pos (by rfl)]
                      refine oper_append (.const (.slice none 0 0)) (.tmp 101) 31 rfl (.agg #[i64 0, .string ByteArray.empty, i64 0]) 32 Tryz.underlying31 rheldInfo rfl (by decide) (by decide) rfl (Own.nil_ _ wq.heap.size 104) (some ⟨b, o, none⟩) q c (H.take q) rfl Hql.out (hTk.out _ hb) (by simp <;> omega) hb.size ?_
                      intro v1 u1 hO1 hg1 hat1
                      rw [List.nil_append] at hO1
                      have hF := (Own.nil_ (α := Held) _ _ 104).below hg1 (Nat.le_refl _) (Nat.le_refl _)
                      have hb := below_on hb (Nat.le_refl _) hF
                      have HO1 := Lib.hid hO1
                      clear hF hg1 hat1 hO1
                      refine hK.out _ _ (HSS.out _ hb) (fun hH => ?_)
                      clear hK K
                      try simp only [Act.put, List.getElem_toArray, List.getElem_cons_zero, List.getElem_cons_succ, List.setIfInBounds_toArray, List.set_cons_zero, List.set_cons_succ]
                      refine wpAnyL_one (i := 9) (by kernel_rfl) rfl (by decide) (fun K hK => ?_)
                      go_simp
                      have hgl : (u1.alloc (.cells #[i64 x.num, .string x.acct, i64 x.sum] 104)).heap[u1.heap.size]? = some (.cells #[i64 x.num, .string x.acct, i64 x.sum] 104 (0, 0)) := heap_alloc_new u1 _
                      have hne1 := HO1.out.new_ne (Nat.le_refl u1.heap.size)
                      have HO1 := Lib.hid (HO1.out.later ((Below.refl _ _).alloc (Nat.le_refl _) (.cells #[i64 x.num, .string x.acct, i64 x.sum] 104)))
                      have hb := hb.alloc hb.size (.cells #[i64 x.num, .string x.acct, i64 x.sum] 104)
                      refine hK.out _ _ (HSS.out _ hb) (fun hH => ?_)
                      clear hK K
                      try simp only [Act.put, List.getElem_toArray, List.getElem_cons_zero, List.getElem_cons_succ, List.setIfInBounds_toArray, List.set_cons_zero, List.set_cons_succ]
                      refine wpAnyL_one (i := 10) (by kernel_rfl) rfl (by decide) (fun K hK => ?_)
                      rw [if_pos (by rfl)]
                      refine oper_append_one (.tmp 102) (.tmp 104) 31 rfl (.agg #[i64 0, .string ByteArray.empty, i64 0]) 32 Tryz.underlying31 rheldInfo rfl (by decide) (by decide) rfl HO1.out u1.heap.size x (by rfl) _ 104 hgl rfl hne1 Hxa.out (by rw [← Hql.out]; omega) hb.size ?_
                      intro v2 u2 hO2 hg2 hat2
                      have hb := hb.trans (HO1.out.below hg2 (Nat.le_refl _) hb.size)
                      have HO2 := Lib.hid hO2
                      clear hg2 hat2 hO2 HO1 hgl hne1
                      refine hK.out _ _ (HSS.out _ hb) (fun hH => ?_)
                      clear hK K
                      try simp only [Act.put, List.getElem_toArray, List.getElem_cons_zero, List.getElem_cons_succ, List.setIfInBounds_toArray, List.set_cons_zero, List.set_cons_succ]
                      refine wpAnyL_one (i := 17) (by kernel_rfl) rfl (by decide) (fun K hK => ?_)
                      rw [if_pos (by rfl)]
                      refine oper_append (.tmp 105) (.tmp 111) 31 rfl (.agg #[i64 0, .string ByteArray.empty, i64 0]) 32 Tryz.underlying31 rheldInfo rfl (by decide) (by decide) rfl HO2.out _ _ _ (H.drop q) rfl (by simp) ((hDr.out _ hb).mono (HO2.out.oth (Nat.le_refl _) hb.size)) (by simp <;> omega) hb.size ?_
                      intro v3 u3 hO3 hg3 hat3
                      obtain ⟨A3, cap3, hv3, -⟩ := hO3.sl
                      generalize List.length _ = n3 at hv3
                      subst hv3
                      have hb := hb.trans (HO2.out.below hg3 (Nat.le_refl _) hb.size)
                      have HO3 := Lib.hid hO3
                      clear hg3 hat3 hO3 HO2
                      refine hK.out _ _ (HSS.out _ hb) (fun hH => ?_)
                      clear hK K
                      try simp only [Act.put, List.getElem_toArray, List.getElem_cons_zero, List.getElem_cons_succ, List.setIfInBounds_toArray, List.set_cons_zero, List.set_cons_succ]
                      refine wpAnyL_take (i := 18) (v := ?v5069) rfl (by kernel_rfl) (by kernel_rfl) (by kernel_rfl) (by kernel_rfl) (fun _ _ _ h => h) (Or.inl ⟨by kernel_rfl, ?hy5069⟩) (by assumption) ?r5069
                      case hy5069 => (intro W hSW; obtain ⟨s0, s1, s2, s3⟩ := hSW; go_simp; try with_reducible rfl)
                      try simp only [Act.put, List.getElem_toArray, List.getElem_cons_zero, List.getElem_cons_succ, List.setIfInBounds_toArray, List.set_cons_zero, List.set_cons_succ]
                      refine wpAnyL_take (i := 19) (v := ?v5070) rfl (by kernel_rfl) (by kernel_rfl) (by kernel_rfl) (by kernel_rfl) (fun _ _ _ h => h) (Or.inl ⟨by kernel_rfl, ?hy5070⟩) (by assumption) ?r5070
                      case hy5070 => (intro W hSW; obtain ⟨s0, s1, s2, s3⟩ := hSW; go_simp; try with_reducible rfl)
                      try simp only [Act.put, List.getElem_toArray, List.getElem_cons_zero, List.getElem_cons_succ, List.setIfInBounds_toArray, List.set_cons_zero, List.set_cons_succ]
                      refine wpAnyL_last (by kernel_rfl) rfl (fun K hK => ?_)
                      have c3 := (hb.cell (p := ⟨g, 0, none⟩) hlgq).trans c0q
                      have hg3 := Lib.hid ((hb.block _ hlgq).trans hcq.out)
                      have f3 := frozen_of_row _ g 0 _ _ hg3.out
                      go_simp
                      refine hK.out _ _ ?_
                      clear hK K
                      try simp only [Act.put, List.getElem_toArray, List.getElem_cons_zero, List.getElem_cons_succ, List.setIfInBounds_toArray, List.set_cons_zero, List.set_cons_succ]
                      refine wpAnyL_done (by kernel_rfl) ?_ _
                      refine NoPanic.normal ?_
                      have hD := rh_put (Nat.le_refl _) hb hlgq (fun k hk => HTn.out k (Nat.le_trans (Nat.le_trans Hsz.out HBq.out.size) hk)) hg3.out HO3.out (ins_okH HH.out Hxa.out)
                      have HD := Lib.hid hD
                      clear hD
                      go_wp2
                      all_goals (go_ret; exact ⟨by rw [HR4.out]; rfl, by rw [HR4.out]; exact (Q1.out.later HBq.out).kept (Gr.of_grown HD.out.2) (fun e => hne (by injection e)) (fun k hk e => HTg.out (by injection e with e; rw [e]; exact hk)), by rw [HR4.out, HI.out, List.append_cons]; exact HD.out.1, (hG.trans (Gr.of_below HBq.out (GH g gc)) (fun _ e => .inl e)).trans ((Gr.of_grown HD.out.2).mono (fun k _ e => (show GH g gc k from .inl (by injection e with e; exact e.symm)))) (fun _ e => .inl e)⟩)
                    refine AllReadyL.cons rfl (fun K hK => ?_) ?_
                    · skip
                      go_simp
                      obtain ⟨gl, hgl, hgl2⟩ : ∃ gl, gl = wq.heap.size ∧ (wq.drew.alloc (.cells #[i64 x.num, .string x.acct, i64 x.sum] 104)).heap[gl]? = some (.cells #[i64 x.num, .string x.acct, i64 x.sum] 104 (0, 0)) := ⟨_, rfl, heap_alloc_new wq.drew _⟩
                      have Hgl := Lib.hid hgl
                      clear hgl
                      have hgl := hgl2
                      clear hgl2
                      have hb := hb.alloc hb.size (.cells #[i64 x.num, .string x.acct, i64 x.sum] 104)
                      refine hK.out _ _ (HSS.out _ hb) (fun hH => ?_)
                      clear hK K
                      try simp only [Act.put, List.getElem_toArray, List.getElem_cons_zero, List.getElem_cons_succ, List.setIfInBounds_toArray, List.set_cons_zero, List.set_cons_succ]
                      refine wpAnyL_one (i := 7) (by kernel_rfl) rfl (by decide) (fun K hK => ?_)
                      rw [if_pos (by rfl)]
                      refine oper_append (.const (.slice none 0 0)) (.tmp 101) 31 rfl (.agg #[i64 0, .string ByteArray.empty, i64 0]) 32 Tryz.underlying31 rheldInfo rfl (by decide) (by decide) rfl (Own.nil_ _ wq.heap.size 104) (some ⟨b, o, none⟩) q c (H.take q) rfl Hql.out (hTk.out _ hb) (by simp <;> omega) hb.size ?_
                      intro v1 u1 hO1 hg1 hat1
                      rw [List.nil_append] at hO1
                      have hF := (Own.nil_ (α := Held) _ _ 104).below hg1 (Nat.le_refl _) (Nat.le_refl _)
                      have hne1 : some gl ≠ v1.ownBlock := by
                        rcases hat1 with h | h
                        · have h2 : v1.ownBlock = none := h
                          rw [h2]; simp
                        · have h2 : v1.ownBlock = some (wq.heap.size + 1) := by rw [h]; simp
                          rw [h2, Hgl.out]; intro e; injection e with e; omega
                      have hgl := (hF.block _ (Array.getElem?_eq_some_iff.1 hgl).1).trans hgl
                      have hb := below_on hb (Nat.le_refl _) hF
                      have HO1 := Lib.hid hO1
                      clear hF hg1 hat1 hO1
                      refine hK.out _ _ (HSS.out _ hb) (fun hH => ?_)
                      clear hK K
                      try simp only [Act.put, List.getElem_toArray, List.getElem_cons_zero, List.getElem_cons_succ, List.setIfInBounds_toArray, List.set_cons_zero, List.set_cons_succ]
                      refine wpAnyL_one (i := 10) (by kernel_rfl) rfl (by decide) (fun K hK => ?_)
                      rw [if_pos (by rfl)]
                      refine oper_append_one (.tmp 102) (.tmp 104) 31 rfl (.agg #[i64 0, .string ByteArray.empty, i64 0]) 32 Tryz.underlying31 rheldInfo rfl (by decide) (by decide) rfl HO1.out gl x (by rw [Hgl.out]; rfl) _ 104 hgl rfl hne1 Hxa.out (by rw [← Hql.out]; omega) hb.size ?_
                      intro v2 u2 hO2 hg2 hat2
                      have hb := hb.trans (HO1.out.below hg2 (Nat.le_refl _) hb.size)
                      have HO2 := Lib.hid hO2
                      clear hg2 hat2 hO2 HO1 hgl hne1
                      refine hK.out _ _ (HSS.out _ hb) (fun hH => ?_)
                      clear hK K
                      try simp only [Act.put, List.getElem_toArray, List.getElem_cons_zero, List.getElem_cons_succ, List.setIfInBounds_toArray, List.set_cons_zero, List.set_cons_succ]
                      refine wpAnyL_one (i := 17) (by kernel_rfl) rfl (by decide) (fun K hK => ?_)
                      rw [if_pos (by rfl)]
                      refine oper_append (.tmp 105) (.tmp 111) 31 rfl (.agg #[i64 0, .string ByteArray.empty, i64 0]) 32 Tryz.underlying31 rheldInfo rfl (by decide) (by decide) rfl HO2.out _ _ _ (H.drop q) rfl (by simp) ((hDr.out _ hb).mono (HO2.out.oth (Nat.le_refl _) hb.size)) (by simp <;> omega) hb.size ?_
                      intro v3 u3 hO3 hg3 hat3
                      obtain ⟨A3, cap3, hv3, -⟩ := hO3.sl
                      generalize List.length _ = n3 at hv3
                      subst hv3
                      have hb := hb.trans (HO2.out.below hg3 (Nat.le_refl _) hb.size)
                      have HO3 := Lib.hid hO3
                      clear hg3 hat3 hO3 HO2
                      refine hK.out _ _ (HSS.out _ hb) (fun hH => ?_)
                      clear hK K
                      try simp only [Act.put, List.getElem_toArray, List.getElem_cons_zero, List.getElem_cons_succ, List.setIfInBounds_toArray, List.set_cons_zero, List.set_cons_succ]
                      refine wpAnyL_take (i := 18) (v := ?v5071) rfl (by kernel_rfl) (by kernel_rfl) (by kernel_rfl) (by kernel_rfl) (fun _ _ _ h => h) (Or.inl ⟨by kernel_rfl, ?hy5071⟩) (by assumption) ?r5071
                      case hy5071 => (intro W hSW; obtain ⟨s0, s1, s2, s3⟩ := hSW; go_simp; try with_reducible rfl)
                      try simp only [Act.put, List.getElem_toArray, List.getElem_cons_zero, List.getElem_cons_succ, List.setIfInBounds_toArray, List.set_cons_zero, List.set_cons_succ]
                      refine wpAnyL_take (i := 19) (v := ?v5072) rfl (by kernel_rfl) (by kernel_rfl) (by kernel_rfl) (by kernel_rfl) (fun _ _ _ h => h) (Or.inl ⟨by kernel_rfl, ?hy5072⟩) (by assumption) ?r5072
                      case hy5072 => (intro W hSW; obtain ⟨s0, s1, s2, s3⟩ := hSW; go_simp; try with_reducible rfl)
                      try simp only [Act.put, List.getElem_toArray, List.getElem_cons_zero, List.getElem_cons_succ, List.setIfInBounds_toArray, List.set_cons_zero, List.set_cons_succ]
                      refine wpAnyL_last (by kernel_rfl) rfl (fun K hK => ?_)
                      have c3 := (hb.cell (p := ⟨g, 0, none⟩) hlgq).trans c0q
                      have hg3 := Lib.hid ((hb.block _ hlgq).trans hcq.out)
                      have f3 := frozen_of_row _ g 0 _ _ hg3.out
                      go_simp
                      refine hK.out _ _ ?_
                      clear hK K
                      try simp only [Act.put, List.getElem_toArray, List.getElem_cons_zero, List.getElem_cons_succ, List.setIfInBounds_toArray, List.set_cons_zero, List.set_cons_succ]
                      refine wpAnyL_done (by kernel_rfl) ?_ _
                      refine NoPanic.normal ?_
                      have hD := rh_put (Nat.le_refl _) hb hlgq (fun k hk => HTn.out k (Nat.le_trans (Nat.le_trans Hsz.out HBq.out.size) hk)) hg3.out HO3.out (ins_okH HH.out Hxa.out)
                      have HD := Lib.hid hD
                      clear hD
                      go_wp2
                      all_goals (go_ret; exact ⟨by rw [HR4.out]; rfl, by rw [HR4.out]; exact (Q1.out.later HBq.out).kept (Gr.of_grown HD.out.2) (fun e => hne (by injection e)) (fun k hk e => HTg.out (by injection e with e; rw [e]; exact hk)), by rw [HR4.out, HI.out, List.append_cons]; exact HD.out.1, (hG.trans (Gr.of_below HBq.out (GH g gc)) (fun _ e => .inl e)).trans ((Gr.of_grown HD.out.2).mono (fun k _ e => (show GH g gc k from .inl (by injection e with e; exact e.symm)))) (fun _ e => .inl e)⟩)
                    exact AllReadyL.nil
                · have e2 := beqS_of_ne hae
                  have Hlt := Lib.hid (ltH_2 hbl hae)
                  clear hbl hae
                  go_wp2_with fail
                  refine wp_region_noPanic ?_
                  refine wp_region_held_drew (S := fun V => V.cell? ⟨w.heap.size, 0, none⟩ = some (i64 x.num) ∧ V.cell? ⟨w.heap.size, 1, none⟩ = some (.string x.acct) ∧ V.cell? ⟨g, 0, none⟩ = some (.slice (some ⟨b, o, none⟩) H.length c) ∧ V.cell? ⟨b, o + (q - 1) * 3, none⟩ = some (i64 y.num) ∧ V.cell? ⟨b, o + (q - 1) * 3 + 1, none⟩ = some (.string y.acct)) (by kernel_rfl) (hSS.out _ hB.drew) (fun hH => ?_)
                  refine wpAnyH_take (i := 0) (v := ?v133) rfl (by kernel_rfl) (by kernel_rfl) (by kernel_rfl) (fun _ _ _ h => h) (Or.inl ⟨by kernel_rfl, ?hy133⟩) (by assumption) ?r133
                  case hy133 => (intro W hSW; obtain ⟨s0, s1, s2, s3, s4⟩ := hSW; go_simp; try with_reducible rfl)
                  simp only [Act.put, List.getElem_toArray, List.getElem_cons_zero, List.setIfInBounds_toArray, List.set_cons_zero, List.set_cons_succ]
                  refine wpAnyH_take (i := 1) (v := ?v134) rfl (by kernel_rfl) (by kernel_rfl) (by kernel_rfl) (fun _ _ _ h => h) (Or.inl ⟨by kernel_rfl, ?hy134⟩) (by assumption) ?r134
                  case hy134 => (intro W hSW; obtain ⟨s0, s1, s2, s3, s4⟩ := hSW; go_simp; try with_reducible rfl)
                  simp only [Act.put, List.getElem_toArray, List.getElem_cons_zero, List.getElem_cons_succ, List.setIfInBounds_toArray, List.set_cons_zero, List.set_cons_succ]
                  refine wpAnyH_take (i := 2) (v := ?v135) rfl (by kernel_rfl) (by kernel_rfl) (by kernel_rfl) (fun _ _ _ h => h) (Or.inl ⟨by kernel_rfl, ?hy135⟩) (by assumption) ?r135
                  case hy135 => (intro W hSW; obtain ⟨s0, s1, s2, s3, s4⟩ := hSW; go_simp; try with_reducible rfl)
                  simp only [Act.put, List.getElem_toArray, List.getElem_cons_zero, List.getElem_cons_succ, List.setIfInBounds_toArray, List.set_cons_zero, List.set_cons_succ]
                  refine wpAnyH_take (i := 3) (v := ?v136) rfl (by kernel_rfl) (by kernel_rfl) (by kernel_rfl) (fun _ _ _ h => h) (Or.inl ⟨by kernel_rfl, ?hy136⟩) (by assumption) ?r136
                  case hy136 => (intro W hSW; obtain ⟨s0, s1, s2, s3, s4⟩ := hSW; go_simp; try with_reducible rfl)
                  simp only [Act.put, List.getElem_toArray, List.getElem_cons_zero, List.getElem_cons_succ, List.setIfInBounds_toArray, List.set_cons_zero, List.set_cons_succ]
                  refine wpAnyH_take (i := 4) (v := ?v137) rfl (by kernel_rfl) (by kernel_rfl) (by kernel_rfl) (fun _ _ _ h => h) (Or.inl ⟨by kernel_rfl, ?hy137⟩) (by assumption) ?r137
                  case hy137 => (intro W hSW; obtain ⟨s0, s1, s2, s3, s4⟩ := hSW; go_simp; try with_reducible rfl)
                  simp only [Act.put, List.getElem_toArray, List.getElem_cons_zero, List.getElem_cons_succ, List.setIfInBounds_toArray, List.set_cons_zero, List.set_cons_succ]
                  refine wpAnyH_take (i := 5) (v := ?v138) rfl (by kernel_rfl) (by kernel_rfl) (by kernel_rfl) (fun _ _ _ h => h) (Or.inl ⟨by kernel_rfl, ?hy138⟩) (by assumption) ?r138
                  case hy138 => (intro W hSW; obtain ⟨s0, s1, s2, s3, s4⟩ := hSW; go_simp; try with_reducible rfl)
                  simp only [Act.put, List.getElem_toArray, List.getElem_cons_zero, List.getElem_cons_succ, List.setIfInBounds_toArray, List.set_cons_zero, List.set_cons_succ]
                  refine wpAnyH_take (i := 6) (v := ?v139) rfl (by kernel_rfl) (by kernel_rfl) (by kernel_rfl) (fun _ _ _ h => h) (Or.inl ⟨by kernel_rfl, ?hy139⟩) (by assumption) ?r139
                  case hy139 => (intro W hSW; obtain ⟨s0, s1, s2, s3, s4⟩ := hSW; go_simp; try with_reducible rfl)
                  simp only [Act.put, List.getElem_toArray, List.getElem_cons_zero, List.getElem_cons_succ, List.setIfInBounds_toArray, List.set_cons_zero, List.set_cons_succ]
                  refine wpAnyH_take (i := 7) (v := ?v140) rfl (by kernel_rfl) (by kernel_rfl) (by kernel_rfl) (fun _ _ _ h => h) (Or.inl ⟨by kernel_rfl, ?hy140⟩) (by assumption) ?r140
                  case hy140 => (intro W hSW; obtain ⟨s0, s1, s2, s3, s4⟩ := hSW; go_simp; try with_reducible rfl)
                  simp only [Act.put, List.getElem_toArray, List.getElem_cons_zero, List.getElem_cons_succ, List.setIfInBounds_toArray, List.set_cons_zero, List.set_cons_succ]
                  refine wpAnyH_take (i := 8) (v := ?v141) rfl (by kernel_rfl) (by kernel_rfl) (by kernel_rfl) (fun _ _ _ h => h) (Or.inl ⟨by kernel_rfl, ?hy141⟩) (by assumption) ?r141
                  case hy141 => (intro W hSW; obtain ⟨s0, s1, s2, s3, s4⟩ := hSW; go_simp; try with_reducible rfl)
                  simp only [Act.put, List.getElem_toArray, List.getElem_cons_zero, List.getElem_cons_succ, List.setIfInBounds_toArray, List.set_cons_zero, List.set_cons_succ]
                  refine wpAnyH_take (i := 9) (v := ?v142) rfl (by kernel_rfl) (by kernel_rfl) (by kernel_rfl) (fun _ _ _ h => h) (Or.inl ⟨by kernel_rfl, ?hy142⟩) (by assumption) ?r142
                  case hy142 => (intro W hSW; obtain ⟨s0, s1, s2, s3, s4⟩ := hSW; go_simp; try with_reducible rfl)
                  simp only [Act.put, List.getElem_toArray, List.getElem_cons_zero, List.getElem_cons_succ, List.setIfInBounds_toArray, List.set_cons_zero, List.set_cons_succ]
                  refine wpAnyH_take (i := 10) (v := ?v143) rfl (by kernel_rfl) (by kernel_rfl) (by kernel_rfl) (fun _ _ _ h => h) (Or.inl ⟨by kernel_rfl, ?hy143⟩) (by assumption) ?r143
                  case hy143 => (intro W hSW; obtain ⟨s0, s1, s2, s3, s4⟩ := hSW; go_simp; try with_reducible rfl)
                  simp only [Act.put, List.getElem_toArray, List.getElem_cons_zero, List.getElem_cons_succ, List.setIfInBounds_toArray, List.set_cons_zero, List.set_cons_succ]
                  refine wpAnyH_take (i := 11) (v := ?v144) rfl (by kernel_rfl) (by kernel_rfl) (by kernel_rfl) (fun _ _ _ h => h) (Or.inl ⟨by kernel_rfl, ?hy144⟩) (by assumption) ?r144
                  case hy144 => (intro W hSW; obtain ⟨s0, s1, s2, s3, s4⟩ := hSW; go_simp; try with_reducible rfl)
                  simp only [Act.put, List.getElem_toArray, List.getElem_cons_zero, List.getElem_cons_succ, List.setIfInBounds_toArray, List.set_cons_zero, List.set_cons_succ]
                  refine wpAnyH_take (i := 12) (v := ?v145) rfl (by kernel_rfl) (by kernel_rfl) (by kernel_rfl) (fun _ _ _ h => h) (Or.inl ⟨by kernel_rfl, ?hy145⟩) (by assumption) ?r145
                  case hy145 => (intro W hSW; obtain ⟨s0, s1, s2, s3, s4⟩ := hSW; go_simp; try with_reducible rfl)
                  simp only [Act.put, List.getElem_toArray, List.getElem_cons_zero, List.getElem_cons_succ, List.setIfInBounds_toArray, List.set_cons_zero, List.set_cons_succ]
                  refine wpAnyH_take (i := 13) (v := ?v146) rfl (by kernel_rfl) (by kernel_rfl) (by kernel_rfl) (fun _ _ _ h => h) (Or.inl ⟨by kernel_rfl, ?hy146⟩) (by assumption) ?r146
                  case hy146 => (intro W hSW; obtain ⟨s0, s1, s2, s3, s4⟩ := hSW; go_simp; try with_reducible rfl)
                  simp only [Act.put, List.getElem_toArray, List.getElem_cons_zero, List.getElem_cons_succ, List.setIfInBounds_toArray, List.set_cons_zero, List.set_cons_succ]
                  refine wpAnyH_ready (rs := [14]) (by kernel_rfl) (by simp) ?_
                  refine AllReadyH.cons rfl (fun K hK => ?_) AllReadyH.nil
                  go_simp
                  with_reducible refine (hRa.out _).mono ?_
                  rintro e wq ⟨rfl, hF⟩
                  have hB := below_on hB.drew (Nat.le_refl _) hF
                  refine hK.out _ _ (hSS.out _ hB) (fun hH2 => ?_)
                  clear hF
                  clear hK K
                  try simp only [Act.put, List.getElem_toArray, List.getElem_cons_zero, List.getElem_cons_succ, List.setIfInBounds_toArray, List.set_cons_zero, List.set_cons_succ]
                  refine wpAnyH_take (i := 15) (v := ?v148) rfl (by kernel_rfl) (by kernel_rfl) (by kernel_rfl) (fun _ _ _ h => h) (Or.inl ⟨by kernel_rfl, ?hy148⟩) (by assumption) ?r148
                  case hy148 => (intro W hSW; obtain ⟨s0, s1, s2, s3, s4⟩ := hSW; go_simp; try with_reducible rfl)
                  simp only [Act.put, List.getElem_toArray, List.getElem_cons_zero, List.getElem_cons_succ, List.setIfInBounds_toArray, List.set_cons_zero, List.set_cons_succ]
                  refine wpAnyH_take (i := 16) (v := ?v149) rfl (by kernel_rfl) (by kernel_rfl) (by kernel_rfl) (fun _ _ _ h => h) (Or.inl ⟨by kernel_rfl, ?hy149⟩) (by assumption) ?r149
                  case hy149 => (intro W hSW; obtain ⟨s0, s1, s2, s3, s4⟩ := hSW; go_simp; try with_reducible rfl)
                  simp only [Act.put, List.getElem_toArray, List.getElem_cons_zero, List.getElem_cons_succ, List.setIfInBounds_toArray, List.set_cons_zero, List.set_cons_succ]
                  refine wpAnyH_take (i := 17) (v := ?v150) rfl (by kernel_rfl) (by kernel_rfl) (by kernel_rfl) (fun _ _ _ h => h) (Or.inl ⟨by kernel_rfl, ?hy150⟩) (by assumption) ?r150
                  case hy150 => (intro W hSW; obtain ⟨s0, s1, s2, s3, s4⟩ := hSW; go_simp; try with_reducible rfl)
                  simp only [Act.put, List.getElem_toArray, List.getElem_cons_zero, List.getElem_cons_succ, List.setIfInBounds_toArray, List.set_cons_zero, List.set_cons_succ]
                  refine wpAnyH_take (i := 18) (v := ?v151) rfl (by kernel_rfl) (by kernel_rfl) (by kernel_rfl) (fun _ _ _ h => h) (Or.inl ⟨by kernel_rfl, ?hy151⟩) (by assumption) ?r151
                  case hy151 => (intro W hSW; obtain ⟨s0, s1, s2, s3, s4⟩ := hSW; go_simp; try with_reducible rfl)
                  simp only [Act.put, List.getElem_toArray, List.getElem_cons_zero, List.getElem_cons_succ, List.setIfInBounds_toArray, List.set_cons_zero, List.set_cons_succ]
                  refine wpAnyH_take (i := 19) (v := ?v152) rfl (by kernel_rfl) (by kernel_rfl) (by kernel_rfl) (fun _ _ _ h => h) (Or.inl ⟨by kernel_rfl, ?hy152⟩) (by assumption) ?r152
                  case hy152 => (intro W hSW; obtain ⟨s0, s1, s2, s3, s4⟩ := hSW; go_simp; try with_reducible rfl)
                  simp only [Act.put, List.getElem_toArray, List.getElem_cons_zero, List.getElem_cons_succ, List.setIfInBounds_toArray, List.set_cons_zero, List.set_cons_succ]
                  refine wpAnyH_take (i := 20) (v := ?v153) rfl (by kernel_rfl) (by kernel_rfl) (by kernel_rfl) (fun _ _ _ h => h) (Or.inl ⟨by kernel_rfl, ?hy153⟩) (by assumption) ?r153
                  case hy153 => (intro W hSW; obtain ⟨s0, s1, s2, s3, s4⟩ := hSW; go_simp; try with_reducible rfl)
                  simp only [Act.put, List.getElem_toArray, List.getElem_cons_zero, List.getElem_cons_succ, List.setIfInBounds_toArray, List.set_cons_zero, List.set_cons_succ]
                  refine wpAnyH_take (i := 21) (v := ?v154) rfl (by kernel_rfl) (by kernel_rfl) (by kernel_rfl) (fun _ _ _ h => h) (Or.inl ⟨by kernel_rfl, ?hy154⟩) (by assumption) ?r154
                  case hy154 => (intro W hSW; obtain ⟨s0, s1, s2, s3, s4⟩ := hSW; go_simp; try with_reducible rfl)
                  simp only [Act.put, List.getElem_toArray, List.getElem_cons_zero, List.getElem_cons_succ, List.setIfInBounds_toArray, List.set_cons_zero, List.set_cons_succ]
                  refine wpAnyH_take (i := 22) (v := ?v155) rfl (by kernel_rfl) (by kernel_rfl) (by kernel_rfl) (fun _ _ _ h => h) (Or.inl ⟨by kernel_rfl, ?hy155⟩) (by assumption) ?r155
                  case hy155 => (intro W hSW; obtain ⟨s0, s1, s2, s3, s4⟩ := hSW; go_simp; try with_reducible rfl)
                  simp only [Act.put, List.getElem_toArray, List.getElem_cons_zero, List.getElem_cons_succ, List.setIfInBounds_toArray, List.set_cons_zero, List.set_cons_succ]
                  refine wpAnyH_take (i := 23) (v := ?v156) rfl (by kernel_rfl) (by kernel_rfl) (by kernel_rfl) (fun _ _ _ h => h) (Or.inl ⟨by kernel_rfl, ?hy156⟩) (by assumption) ?r156
                  case hy156 => (intro W hSW; obtain ⟨s0, s1, s2, s3, s4⟩ := hSW; go_simp; try with_reducible rfl)
                  simp only [Act.put, List.getElem_toArray, List.getElem_cons_zero, List.getElem_cons_succ, List.setIfInBounds_toArray, List.set_cons_zero, List.set_cons_succ]
                  refine wpAnyH_take (i := 24) (v := ?v157) rfl (by kernel_rfl) (by kernel_rfl) (by kernel_rfl) (fun _ _ _ h => h) (Or.inl ⟨by kernel_rfl, ?hy157⟩) (by assumption) ?r157
                  case hy157 => (intro W hSW; obtain ⟨s0, s1, s2, s3, s4⟩ := hSW; go_simp; try with_reducible rfl)
                  simp only [Act.put, List.getElem_toArray, List.getElem_cons_zero, List.getElem_cons_succ, List.setIfInBounds_toArray, List.set_cons_zero, List.set_cons_succ]
                  refine wpAnyH_take (i := 25) (v := ?v158) rfl (by kernel_rfl) (by kernel_rfl) (by kernel_rfl) (fun _ _ _ h => h) (Or.inl ⟨by kernel_rfl, ?hy158⟩) (by assumption) ?r158
                  case hy158 => (intro W hSW; obtain ⟨s0, s1, s2, s3, s4⟩ := hSW; go_simp; try with_reducible rfl)
                  simp only [Act.put, List.getElem_toArray, List.getElem_cons_zero, List.getElem_cons_succ, List.setIfInBounds_toArray, List.set_cons_zero, List.set_cons_succ]
                  refine wpAnyH_take (i := 26) (v := ?v159) rfl (by kernel_rfl) (by kernel_rfl) (by kernel_rfl) (fun _ _ _ h => h) (Or.inl ⟨by kernel_rfl, ?hy159⟩) (by assumption) ?r159
                  case hy159 => (intro W hSW; obtain ⟨s0, s1, s2, s3, s4⟩ := hSW; go_simp; try with_reducible rfl)
                  simp only [Act.put, List.getElem_toArray, List.getElem_cons_zero, List.getElem_cons_succ, List.setIfInBounds_toArray, List.set_cons_zero, List.set_cons_succ]
                  refine wpAnyH_take (i := 27) (v := ?v160) rfl (by kernel_rfl) (by kernel_rfl) (by kernel_rfl) (fun _ _ _ h => h) (Or.inl ⟨by kernel_rfl, ?hy160⟩) (by assumption) ?r160
                  case hy160 => (intro W hSW; obtain ⟨s0, s1, s2, s3, s4⟩ := hSW; go_simp; try with_reducible rfl)
                  simp only [Act.put, List.getElem_toArray, List.getElem_cons_zero, List.getElem_cons_succ, List.setIfInBounds_toArray, List.set_cons_zero, List.set_cons_succ]
                  refine wpAnyH_take (i := 28) (v := ?v161) rfl (by kernel_rfl) (by kernel_rfl) (by kernel_rfl) (fun _ _ _ h => h) (Or.inl ⟨by kernel_rfl, ?hy161⟩) (by assumption) ?r161
                  case hy161 => (intro W hSW; obtain ⟨s0, s1, s2, s3, s4⟩ := hSW; go_simp; try with_reducible rfl)
                  simp only [Act.put, List.getElem_toArray, List.getElem_cons_zero, List.getElem_cons_succ, List.setIfInBounds_toArray, List.set_cons_zero, List.set_cons_succ]
                  refine wpAnyH_take (i := 29) (v := undef) rfl (by kernel_rfl) (by kernel_rfl) (by kernel_rfl) (fun _ _ _ h => h) (Or.inr ⟨by kernel_rfl, rfl⟩) (by assumption) ?r162
                  simp only [Act.put, List.getElem_toArray, List.getElem_cons_zero, List.getElem_cons_succ, List.setIfInBounds_toArray, List.set_cons_zero, List.set_cons_succ]
                  refine wpAnyH_take (i := 30) (v := undef) rfl (by kernel_rfl) (by kernel_rfl) (by kernel_rfl) (fun _ _ _ h => h) (Or.inr ⟨by kernel_rfl, rfl⟩) (by assumption) ?r163
                  simp only [Act.put, List.getElem_toArray, List.getElem_cons_zero, List.getElem_cons_succ, List.setIfInBounds_toArray, List.set_cons_zero, List.set_cons_succ]
                  refine wpAnyH_take (i := 31) (v := undef) rfl (by kernel_rfl) (by kernel_rfl) (by kernel_rfl) (fun _ _ _ h => h) (Or.inr ⟨by kernel_rfl, rfl⟩) (by assumption) ?r164
                  simp only [Act.put, List.getElem_toArray, List.getElem_cons_zero, List.getElem_cons_succ, List.setIfInBounds_toArray, List.set_cons_zero, List.set_cons_succ]
                  refine wpAnyH_take (i := 32) (v := undef) rfl (by kernel_rfl) (by kernel_rfl) (by kernel_rfl) (fun _ _ _ h => h) (Or.inr ⟨by kernel_rfl, rfl⟩) (by assumption) ?r165
                  simp only [Act.put, List.getElem_toArray, List.getElem_cons_zero, List.getElem_cons_succ, List.setIfInBounds_toArray, List.set_cons_zero, List.set_cons_succ]
                  refine wpAnyH_take (i := 33) (v := undef) rfl (by kernel_rfl) (by kernel_rfl) (by kernel_rfl) (fun _ _ _ h => h) (Or.inr ⟨by kernel_rfl, rfl⟩) (by assumption) ?r166
                  simp only [Act.put, List.getElem_toArray, List.getElem_cons_zero, List.getElem_cons_succ, List.setIfInBounds_toArray, List.set_cons_zero, List.set_cons_succ]
                  refine wpAnyH_take (i := 34) (v := undef) rfl (by kernel_rfl) (by kernel_rfl) (by kernel_rfl) (fun _ _ _ h => h) (Or.inr ⟨by kernel_rfl, rfl⟩) (by assumption) ?r167
                  simp only [Act.put, List.getElem_toArray, List.getElem_cons_zero, List.getElem_cons_succ, List.setIfInBounds_toArray, List.set_cons_zero, List.set_cons_succ]
                  refine wpAnyH_take (i := 35) (v := undef) rfl (by kernel_rfl) (by kernel_rfl) (by kernel_rfl) (fun _ _ _ h => h) (Or.inr ⟨by kernel_rfl, rfl⟩) (by assumption) ?r168
                  simp only [Act.put, List.getElem_toArray, List.getElem_cons_zero, List.getElem_cons_succ, List.setIfInBounds_toArray, List.set_cons_zero, List.set_cons_succ]
                  refine wpAnyH_take (i := 36) (v := undef) rfl (by kernel_rfl) (by kernel_rfl) (by kernel_rfl) (fun _ _ _ h => h) (Or.inr ⟨by kernel_rfl, rfl⟩) (by assumption) ?r169
                  simp only [Act.put, List.getElem_toArray, List.getElem_cons_zero, List.getElem_cons_succ, List.setIfInBounds_toArray, List.set_cons_zero, List.set_cons_succ]
                  refine wpAnyH_take (i := 37) (v := undef) rfl (by kernel_rfl) (by kernel_rfl) (by kernel_rfl) (fun _ _ _ h => h) (Or.inr ⟨by kernel_rfl, rfl⟩) (by assumption) ?r170
                  simp only [Act.put, List.getElem_toArray, List.getElem_cons_zero, List.getElem_cons_succ, List.setIfInBounds_toArray, List.set_cons_zero, List.set_cons_succ]
                  refine wpAnyH_take (i := 38) (v := undef) rfl (by kernel_rfl) (by kernel_rfl) (by kernel_rfl) (fun _ _ _ h => h) (Or.inr ⟨by kernel_rfl, rfl⟩) (by assumption) ?r171
                  simp only [Act.put, List.getElem_toArray, List.getElem_cons_zero, List.getElem_cons_succ, List.setIfInBounds_toArray, List.set_cons_zero, List.set_cons_succ]
                  refine wpAnyH_take (i := 39) (v := undef) rfl (by kernel_rfl) (by kernel_rfl) (by kernel_rfl) (fun _ _ _ h => h) (Or.inr ⟨by kernel_rfl, rfl⟩) (by assumption) ?r172
                  simp only [Act.put, List.getElem_toArray, List.getElem_cons_zero, List.getElem_cons_succ, List.setIfInBounds_toArray, List.set_cons_zero, List.set_cons_succ]
                  refine wpAnyH_take (i := 40) (v := undef) rfl (by kernel_rfl) (by kernel_rfl) (by kernel_rfl) (fun _ _ _ h => h) (Or.inr ⟨by kernel_rfl, rfl⟩) (by assumption) ?r173
                  simp only [Act.put, List.getElem_toArray, List.getElem_cons_zero, List.getElem_cons_succ, List.setIfInBounds_toArray, List.set_cons_zero, List.set_cons_succ]
                  refine wpAnyH_take (i := 41) (v := ?v174) rfl (by kernel_rfl) (by kernel_rfl) (by kernel_rfl) (fun _ _ _ h => h) (Or.inl ⟨by kernel_rfl, ?hy174⟩) (by assumption) ?r174
                  case hy174 => (intro W hSW; obtain ⟨s0, s1, s2, s3, s4⟩ := hSW; go_simp; try with_reducible rfl)
                  simp only [Act.put, List.getElem_toArray, List.getElem_cons_zero, List.getElem_cons_succ, List.setIfInBounds_toArray, List.set_cons_zero, List.set_cons_succ]
                  refine wpAnyH_take (i := 42) (v := ?v175) rfl (by kernel_rfl) (by kernel_rfl) (by kernel_rfl) (fun _ _ _ h => h) (Or.inl ⟨by kernel_rfl, ?hy175⟩) (by assumption) ?r175
                  case hy175 => (intro W hSW; obtain ⟨s0, s1, s2, s3, s4⟩ := hSW; go_simp; try with_reducible rfl)
                  simp only [Act.put, List.getElem_toArray, List.getElem_cons_zero, List.getElem_cons_succ, List.setIfInBounds_toArray, List.set_cons_zero, List.set_cons_succ]
                  refine wpAnyH_take (i := 43) (v := ?v176) rfl (by kernel_rfl) (by kernel_rfl) (by kernel_rfl) (fun _ _ _ h => h) (Or.inl ⟨by kernel_rfl, ?hy176⟩) (by assumption) ?r176
                  case hy176 => (intro W hSW; obtain ⟨s0, s1, s2, s3, s4⟩ := hSW; go_simp; try with_reducible rfl)
                  simp only [Act.put, List.getElem_toArray, List.getElem_cons_zero, List.getElem_cons_succ, List.setIfInBounds_toArray, List.set_cons_zero, List.set_cons_succ]
                  refine wpAnyH_done (by kernel_rfl) ?_ _
                  refine NoPanic.normal ?_
                  go_wp2_with fail
                  clear e1 i0 i1 hRa
                  have HI := Lib.hid (insB_at keyH.strict x H q HSH.out (by omega) (ins_loH HSH.out hq1 (by rw [Hyy.out]; exact Hlt.out) Hno.out) (fun j h hj => keyH.strict.asymm (Hup.out j h hj)))
                  have HBq := Lib.hid hB
                  have hcq := Lib.hid ((hB.block _ hlg2).trans Hc.out)
                  have hlgq := Nat.lt_of_lt_of_le hlg2 hB.size
                  have c0q := (hB.cell (p := ⟨g, 0, none⟩) hlg2).trans c0
                  have hsq := Lib.hid (Hs.out.below_ hB)
                  have hTk := Lib.hid (fun (V : World) (h : Below wq.heap.size wq V) => (show SlS V (Oth V (.slice none 0 0)) (some ⟨b, o, none⟩) c (H.take q) from ((hsq.out.below_ h).take q).keep (fun _ _ => rfl) (fun b hb => ⟨hb.1, by simp [Value.ownBlock]⟩)))
                  have hDr := Lib.hid (fun (V : World) (h : Below wq.heap.size wq V) => (show Sl V wq.heap.size (if c = q then some ⟨b, o, none⟩ else some ⟨b, o + q * 3, none⟩) (c - q) (H.drop q) from by
                        have := ((hsq.out.mono (fun b hb => hb.1)).drop (k := q) (by omega)).below h
                        rwa [Option.map_some, show (⟨b, o, none⟩ : Addr).add (q * Enc.size Held) = ⟨b, o + q * 3, none⟩ from add_noneC ..] at this))
                  have Hql := Lib.hid (show q = (H.take q).length by rw [List.length_take]; omega)
                  have HSS := Lib.hid (show ∀ V, Below wq.heap.size wq V → (fun V : World => V.cell? ⟨g, 0, none⟩ = some (.slice (some ⟨b, o, none⟩) H.length c) ∧ V.cell? ⟨w.heap.size, 0, none⟩ = some (i64 x.num) ∧ V.cell? ⟨w.heap.size, 1, none⟩ = some (.string x.acct) ∧ V.cell? ⟨w.heap.size, 2, none⟩ = some (i64 x.sum)) V from fun V h => ⟨(h.cell (World.block_lt_of_cell? _ _ c0q)).trans c0q, (h.cell (Nat.lt_of_lt_of_le hlx2 hB.size)).trans ((hB.cell (p := ⟨w.heap.size, 0, none⟩) hlx2).trans n0), (h.cell (Nat.lt_of_lt_of_le hlx2 hB.size)).trans ((hB.cell (p := ⟨w.heap.size, 1, none⟩) hlx2).trans n1), (h.cell (Nat.lt_of_lt_of_le hlx2 hB.size)).trans ((hB.cell (p := ⟨w.heap.size, 2, none⟩) hlx2).trans n2)⟩)
                  have q1 : ((q : Nat) : Int) ≤ (c : Int) := by omega
                  have q2 : ((q : Nat) : Int) ≤ (H.length : Int) := by omega
                  have q3 : (H.length : Int) ≤ (c : Int) := by omega
                  have q0 : (0 : Int) ≤ ((q : Nat) : Int) := by omega
                  clear hB c0 n0 n1 n2
                  have hb : Below wq.heap.size wq wq.drew := (Below.refl _ _).drew
                  refine wp_region_noPanic ?_
                  refine wp_region_l 20 (fun V => V.cell? ⟨g, 0, none⟩ = some (.slice (some ⟨b, o, none⟩) H.length c) ∧ V.cell? ⟨w.heap.size, 0, none⟩ = some (i64 x.num) ∧ V.cell? ⟨w.heap.size, 1, none⟩ = some (.string x.acct) ∧ V.cell? ⟨w.heap.size, 2, none⟩ = some (i64 x.sum)) (by kernel_rfl) (HSS.out _ hb) (fun hH => ?_)
                  refine wpAnyL_take (i := 0) (v := ?v5037) rfl (by kernel_rfl) (by kernel_rfl) (by kernel_rfl) (by kernel_rfl) (fun _ _ _ h => h) (Or.inl ⟨by kernel_rfl, ?hy5037⟩) (by assumption) ?r5037
                  case hy5037 => (intro W hSW; obtain ⟨s0, s1, s2, s3⟩ := hSW; go_simp; try with_reducible rfl)
                  try simp only [Act.put, List.getElem_toArray, List.getElem_cons_zero, List.setIfInBounds_toArray, List.set_cons_zero, List.set_cons_succ]
                  refine wpAnyL_take (i := 1) (v := ?v5038) rfl (by kernel_rfl) (by kernel_rfl) (by kernel_rfl) (by kernel_rfl) (fun _ _ _ h => h) (Or.inl ⟨by kernel_rfl, ?hy5038⟩) (by assumption) ?r5038
                  case hy5038 => (intro W hSW; obtain ⟨s0, s1, s2, s3⟩ := hSW; go_simp; try with_reducible rfl)
                  try simp only [Act.put, List.getElem_toArray, List.getElem_cons_zero, List.getElem_cons_succ, List.setIfInBounds_toArray, List.set_cons_zero, List.set_cons_succ]
                  refine wpAnyL_take (i := 2) (v := ?v5039) rfl (by kernel_rfl) (by kernel_rfl) (by kernel_rfl) (by kernel_rfl) (fun _ _ _ h => h) (Or.inl ⟨by kernel_rfl, ?hy5039⟩) (by assumption) ?r5039
                  case hy5039 => (intro W hSW; obtain ⟨s0, s1, s2, s3⟩ := hSW; go_simp; try with_reducible rfl)
                  try simp only [Act.put, List.getElem_toArray, List.getElem_cons_zero, List.getElem_cons_succ, List.setIfInBounds_toArray, List.set_cons_zero, List.set_cons_succ]
                  refine wpAnyL_take (i := 3) (v := ?v5040) rfl (by kernel_rfl) (by kernel_rfl) (by kernel_rfl) (by kernel_rfl) (fun _ _ _ h => h) (Or.inl ⟨by kernel_rfl, ?hy5040⟩) (by assumption) ?r5040
                  case hy5040 => (intro W hSW; obtain ⟨s0, s1, s2, s3⟩ := hSW; go_simp; try with_reducible rfl)
                  try simp only [Act.put, List.getElem_toArray, List.getElem_cons_zero, List.getElem_cons_succ, List.setIfInBounds_toArray, List.set_cons_zero, List.set_cons_succ]
                  refine wpAnyL_take (i := 4) (v := ?v5041) rfl (by kernel_rfl) (by kernel_rfl) (by kernel_rfl) (by kernel_rfl) (fun _ _ _ h => h) (Or.inl ⟨by kernel_rfl, ?hy5041⟩) (by assumption) ?r5041
                  case hy5041 => (intro W hSW; obtain ⟨s0, s1, s2, s3⟩ := hSW; go_simp; try with_reducible rfl)
                  try simp only [Act.put, List.getElem_toArray, List.getElem_cons_zero, List.getElem_cons_succ, List.setIfInBounds_toArray, List.set_cons_zero, List.set_cons_succ]
                  refine wpAnyL_take (i := 5) (v := ?v5042) rfl (by kernel_rfl) (by kernel_rfl) (by kernel_rfl) (by kernel_rfl) (fun _ _ _ h => h) (Or.inl ⟨by kernel_rfl, ?hy5042⟩) (by assumption) ?r5042
                  case hy5042 => (intro W hSW; obtain ⟨s0, s1, s2, s3⟩ := hSW; go_simp; try with_reducible rfl)
                  try simp only [Act.put, List.getElem_toArray, List.getElem_cons_zero, List.getElem_cons_succ, List.setIfInBounds_toArray, List.set_cons_zero, List.set_cons_succ]
                  refine wpAnyL_take (i := 6) (v := ?v5043) rfl (by kernel_rfl) (by kernel_rfl) (by kernel_rfl) (by kernel_rfl) (fun _ _ _ h => h) (Or.inl ⟨by kernel_rfl, ?hy5043⟩) (by assumption) ?r5043
                  case hy5043 => (intro W hSW; obtain ⟨s0, s1, s2, s3⟩ := hSW; go_simp; try with_reducible rfl)
                  try simp only [Act.put, List.getElem_toArray, List.getElem_cons_zero, List.getElem_cons_succ, List.setIfInBounds_toArray, List.set_cons_zero, List.set_cons_succ]
                  refine wpAnyL_take (i := 8) (v := ?v5044) rfl (by kernel_rfl) (by kernel_rfl) (by kernel_rfl) (by kernel_rfl) (fun _ _ _ h => h) (Or.inl ⟨by kernel_rfl, ?hy5044⟩) (by assumption) ?r5044
                  case hy5044 => (intro W hSW; obtain ⟨s0, s1, s2, s3⟩ := hSW; go_simp; try with_reducible rfl)
                  try simp only [Act.put, List.getElem_toArray, List.getElem_cons_zero, List.getElem_cons_succ, List.setIfInBounds_toArray, List.set_cons_zero, List.set_cons_succ]
                  refine wpAnyL_take (i := 11) (v := ?v5045) rfl (by kernel_rfl) (by kernel_rfl) (by kernel_rfl) (by kernel_rfl) (fun _ _ _ h => h) (Or.inl ⟨by kernel_rfl, ?hy5045⟩) (by assumption) ?r5045
                  case hy5045 => (intro W hSW; obtain ⟨s0, s1, s2, s3⟩ := hSW; go_simp; try with_reducible rfl)
                  try simp only [Act.put, List.getElem_toArray, List.getElem_cons_zero, List.getElem_cons_succ, List.setIfInBounds_toArray, List.set_cons_zero, List.set_cons_succ]
                  refine wpAnyL_take (i := 12) (v := ?v5046) rfl (by kernel_rfl) (by kernel_rfl) (by kernel_rfl) (by kernel_rfl) (fun _ _ _ h => h) (Or.inl ⟨by kernel_rfl, ?hy5046⟩) (by assumption) ?r5046
                  case hy5046 => (intro W hSW; obtain ⟨s0, s1, s2, s3⟩ := hSW; go_simp; try with_reducible rfl)
                  try simp only [Act.put, List.getElem_toArray, List.getElem_cons_zero, List.getElem_cons_succ, List.setIfInBounds_toArray, List.set_cons_zero, List.set_cons_succ]
                  refine wpAnyL_take (i := 13) (v := ?v5047) rfl (by kernel_rfl) (by kernel_rfl) (by kernel_rfl) (by kernel_rfl) (fun _ _ _ h => h) (Or.inl ⟨by kernel_rfl, ?hy5047⟩) (by assumption) ?r5047
                  case hy5047 => (intro W hSW; obtain ⟨s0, s1, s2, s3⟩ := hSW; go_simp; try with_reducible rfl)
                  try simp only [Act.put, List.getElem_toArray, List.getElem_cons_zero, List.getElem_cons_succ, List.setIfInBounds_toArray, List.set_cons_zero, List.set_cons_succ]
                  refine wpAnyL_take (i := 14) (v := ?v5048) rfl (by kernel_rfl) (by kernel_rfl) (by kernel_rfl) (by kernel_rfl) (fun _ _ _ h => h) (Or.inl ⟨by kernel_rfl, ?hy5048⟩) (by assumption) ?r5048
                  case hy5048 => (intro W hSW; obtain ⟨s0, s1, s2, s3⟩ := hSW; go_simp; try with_reducible rfl)
                  try simp only [Act.put, List.getElem_toArray, List.getElem_cons_zero, List.getElem_cons_succ, List.setIfInBounds_toArray, List.set_cons_zero, List.set_cons_succ]
                  refine wpAnyL_take (i := 15) (v := ?v5049) rfl (by kernel_rfl) (by kernel_rfl) (by kernel_rfl) (by kernel_rfl) (fun _ _ _ h => h) (Or.inl ⟨by kernel_rfl, ?hy5049⟩) (by assumption) ?r5049
                  case hy5049 => (intro W hSW; obtain ⟨s0, s1, s2, s3⟩ := hSW; go_simp; try with_reducible rfl)
                  try simp only [Act.put, List.getElem_toArray, List.getElem_cons_zero, List.getElem_cons_succ, List.setIfInBounds_toArray, List.set_cons_zero, List.set_cons_succ]
                  refine wpAnyL_take (i := 16) (v := ?v5050) rfl (by kernel_rfl) (by kernel_rfl) (by kernel_rfl) (by kernel_rfl) (fun _ _ _ h => h) (Or.inl ⟨by kernel_rfl, ?hy5050⟩) (by assumption) ?r5050
                  case hy5050 => (intro W hSW; obtain ⟨s0, s1, s2, s3⟩ := hSW; go_simp; try with_reducible rfl)
                  try simp only [Act.put, List.getElem_toArray, List.getElem_cons_zero, List.getElem_cons_succ, List.setIfInBounds_toArray, List.set_cons_zero, List.set_cons_succ]
                  refine wpAnyL_ready (rs := [7, 9]) (by kernel_rfl) (by simp) ?_
                  refine AllReadyL.cons rfl (fun K hK => ?_) ?_
                  · skip
                    rw [if_pos (by rfl)]
                    refine oper_append (.const (.slice none 0 0)) (.tmp 101) 31 rfl (.agg #[i64 0, .string ByteArray.empty, i64 0]) 32 Tryz.underlying31 rheldInfo rfl (by decide) (by decide) rfl (Own.nil_ _ wq.heap.size 104) (some ⟨b, o, none⟩) q c (H.take q) rfl Hql.out (hTk.out _ hb) (by simp <;> omega) hb.size ?_
                    intro v1 u1 hO1 hg1 hat1
                    rw [List.nil_append] at hO1
                    have hF := (Own.nil_ (α := Held) _ _ 104).below hg1 (Nat.le_refl _) (Nat.le_refl _)
                    have hb := below_on hb (Nat.le_refl _) hF
                    have HO1 := Lib.hid hO1
                    clear hF hg1 hat1 hO1
                    refine hK.out _ _ (HSS.out _ hb) (fun hH => ?_)
                    clear hK K
                    try simp only [Act.put, List.getElem_toArray, List.getElem_cons_zero, List.getElem_cons_succ, List.setIfInBounds_toArray, List.set_cons_zero, List.set_cons_succ]
                    refine wpAnyL_one (i := 9) (by kernel_rfl) rfl (by decide) (fun K hK => ?_)
                    go_simp
                    have hgl : (u1.alloc (.cells #[i64 x.num, .string x.acct, i64 x.sum] 104)).heap[u1.heap.size]? = some (.cells #[i64 x.num, .string x.acct, i64 x.sum] 104 (0, 0)) := heap_alloc_new u1 _
                    have hne1 := HO1.out.new_ne (Nat.le_refl u1.heap.size)
                    have HO1 := Lib.hid (HO1.out.later ((Below.refl _ _).alloc (Nat.le_refl _) (.cells #[i64 x.num, .string x.acct, i64 x.sum] 104)))
                    have hb := hb.alloc hb.size (.cells #[i64 x.num, .string x.acct, i64 x.sum] 104)
                    refine hK.out _ _ (HSS.out _ hb) (fun hH => ?_)
                    clear hK K
                    try simp only [Act.put, List.getElem_toArray, List.getElem_cons_zero, List.getElem_cons_succ, List.setIfInBounds_toArray, List.set_cons_zero, List.set_cons_succ]
                    refine wpAnyL_one (i := 10) (by kernel_rfl) rfl (by decide) (fun K hK => ?_)
                    rw [if_pos (by rfl)]
                    refine oper_append_one (.tmp 102) (.tmp 104) 31 rfl (.agg #[i64 0, .string ByteArray.empty, i64 0]) 32 Tryz.underlying31 rheldInfo rfl (by decide) (by decide) rfl HO1.out u1.heap.size x (by rfl) _ 104 hgl rfl hne1 Hxa.out (by rw [← Hql.out]; omega) hb.size ?_
                    intro v2 u2 hO2 hg2 hat2
                    have hb := hb.trans (HO1.out.below hg2 (Nat.le_refl _) hb.size)
                    have HO2 := Lib.hid hO2
                    clear hg2 hat2 hO2 HO1 hgl hne1
                    refine hK.out _ _ (HSS.out _ hb) (fun hH => ?_)
                    clear hK K
                    try simp only [Act.put, List.getElem_toArray, List.getElem_cons_zero, List.getElem_cons_succ, List.setIfInBounds_toArray, List.set_cons_zero, List.set_cons_succ]
                    refine wpAnyL_one (i := 17) (by kernel_rfl) rfl (by decide) (fun K hK => ?_)
                    rw [if_pos (by rfl)]
                    refine oper_append (.tmp 105) (.tmp 111) 31 rfl (.agg #[i64 0, .string ByteArray.empty, i64 0]) 32 Tryz.underlying31 rheldInfo rfl (by decide) (by decide) rfl HO2.out _ _ _ (H.drop q) rfl (by simp) ((hDr.out _ hb).mono (HO2.out.oth (Nat.le_refl _) hb.size)) (by simp <;> omega) hb.size ?_
                    intro v3 u3 hO3 hg3 hat3
                    obtain ⟨A3, cap3, hv3, -⟩ := hO3.sl
                    generalize List.length _ = n3 at hv3
                    subst hv3
                    have hb := hb.trans (HO2.out.below hg3 (Nat.le_refl _) hb.size)
                    have HO3 := Lib.hid hO3
                    clear hg3 hat3 hO3 HO2
                    refine hK.out _ _ (HSS.out _ hb) (fun hH => ?_)
                    clear hK K
                    try simp only [Act.put, List.getElem_toArray, List.getElem_cons_zero, List.getElem_cons_succ, List.setIfInBounds_toArray, List.set_cons_zero, List.set_cons_succ]
                    refine wpAnyL_take (i := 18) (v := ?v5051) rfl (by kernel_rfl) (by kernel_rfl) (by kernel_rfl) (by kernel_rfl) (fun _ _ _ h => h) (Or.inl ⟨by kernel_rfl, ?hy5051⟩) (by assumption) ?r5051
                    case hy5051 => (intro W hSW; obtain ⟨s0, s1, s2, s3⟩ := hSW; go_simp; try with_reducible rfl)
                    try simp only [Act.put, List.getElem_toArray, List.getElem_cons_zero, List.getElem_cons_succ, List.setIfInBounds_toArray, List.set_cons_zero, List.set_cons_succ]
                    refine wpAnyL_take (i := 19) (v := ?v5052) rfl (by kernel_rfl) (by kernel_rfl) (by kernel_rfl) (by kernel_rfl) (fun _ _ _ h => h) (Or.inl ⟨by kernel_rfl, ?hy5052⟩) (by assumption) ?r5052
                    case hy5052 => (intro W hSW; obtain ⟨s0, s1, s2, s3⟩ := hSW; go_simp; try with_reducible rfl)
                    try simp only [Act.put, List.getElem_toArray, List.getElem_cons_zero, List.getElem_cons_succ, List.setIfInBounds_toArray, List.set_cons_zero, List.set_cons_succ]
                    refine wpAnyL_last (by kernel_rfl) rfl (fun K hK => ?_)
                    have c3 := (hb.cell (p := ⟨g, 0, none⟩) hlgq).trans c0q
                    have hg3 := Lib.hid ((hb.block _ hlgq).trans hcq.out)
                    have f3 := frozen_of_row _ g 0 _ _ hg3.out
                    go_simp
                    refine hK.out _ _ ?_
                    clear hK K
                    try simp only [Act.put, List.getElem_toArray, List.getElem_cons_zero, List.getElem_cons_succ, List.setIfInBounds_toArray, List.set_cons_zero, List.set_cons_succ]
                    refine wpAnyL_done (by kernel_rfl) ?_ _
                    refine NoPanic.normal ?_
                    have hD := rh_put (Nat.le_refl _) hb hlgq (fun k hk => HTn.out k (Nat.le_trans (Nat.le_trans Hsz.out HBq.out.size) hk)) hg3.out HO3.out (ins_okH HH.out Hxa.out)
                    have HD := Lib.hid hD
                    clear hD
                    go_wp2
                    all_goals (go_ret; exact ⟨by rw [HR4.out]; rfl, by rw [HR4.out]; exact (Q1.out.later HBq.out).kept (Gr.of_grown HD.out.2) (fun e => hne (by injection e)) (fun k hk e => HTg.out (by injection e with e; rw [e]; exact hk)), by rw [HR4.out, HI.out, List.append_cons]; exact HD.out.1, (hG.trans (Gr.of_below HBq.out (GH g gc)) (fun _ e => .inl e)).trans ((Gr.of_grown HD.out.2).mono (fun k _ e => (show GH g gc k from .inl (by injection e with e; exact e.symm)))) (fun _ e => .inl e)⟩)
                  refine AllReadyL.cons rfl (fun K hK => ?_) ?_
                  · skip
                    go_simp
                    obtain ⟨gl, hgl, hgl2⟩ : ∃ gl, gl = wq.heap.size ∧ (wq.drew.alloc (.cells #[i64 x.num, .string x.acct, i64 x.sum] 104)).heap[gl]? = some (.cells #[i64 x.num, .string x.acct, i64 x.sum] 104 (0, 0)) := ⟨_, rfl, heap_alloc_new wq.drew _⟩
                    have Hgl := Lib.hid hgl
                    clear hgl
                    have hgl := hgl2
                    clear hgl2
                    have hb := hb.alloc hb.size (.cells #[i64 x.num, .string x.acct, i64 x.sum] 104)
                    refine hK.out _ _ (HSS.out _ hb) (fun hH => ?_)
                    clear hK K
                    try simp only [Act.put, List.getElem_toArray, List.getElem_cons_zero, List.getElem_cons_succ, List.setIfInBounds_toArray, List.set_cons_zero, List.set_cons_succ]
                    refine wpAnyL_one (i := 7) (by kernel_rfl) rfl (by decide) (fun K hK => ?_)
                    rw [if_pos (by rfl)]
                    refine oper_append (.const (.slice none 0 0)) (.tmp 101) 31 rfl (.agg #[i64 0, .string ByteArray.empty, i64 0]) 32 Tryz.underlying31 rheldInfo rfl (by decide) (by decide) rfl (Own.nil_ _ wq.heap.size 104) (some ⟨b, o, none⟩) q c (H.take q) rfl Hql.out (hTk.out _ hb) (by simp <;> omega) hb.size ?_
                    intro v1 u1 hO1 hg1 hat1
                    rw [List.nil_append] at hO1
                    have hF := (Own.nil_ (α := Held) _ _ 104).below hg1 (Nat.le_refl _) (Nat.le_refl _)
                    have hne1 : some gl ≠ v1.ownBlock := by
                      rcases hat1 with h | h
                      · have h2 : v1.ownBlock = none := h
                        rw [h2]; simp
                      · have h2 : v1.ownBlock = some (wq.heap.size + 1) := by rw [h]; simp
                        rw [h2, Hgl.out]; intro e; injection e with e; omega
                    have hgl := (hF.block _ (Array.getElem?_eq_some_iff.1 hgl).1).trans hgl
                    have hb := below_on hb (Nat.le_refl _) hF
                    have HO1 := Lib.hid hO1
                    clear hF hg1 hat1 hO1
                    refine hK.out _ _ (HSS.out _ hb) (fun hH => ?_)
                    clear hK K
                    try simp only [Act.put, List.getElem_toArray, List.getElem_cons_zero, List.getElem_cons_succ, List.setIfInBounds_toArray, List.set_cons_zero, List.set_cons_succ]
                    refine wpAnyL_one (i := 10) (by kernel_rfl) rfl (by decide) (fun K hK => ?_)
                    rw [if_pos (by rfl)]
                    refine oper_append_one (.tmp 102) (.tmp 104) 31 rfl (.agg #[i64 0, .string ByteArray.empty, i64 0]) 32 Tryz.underlying31 rheldInfo rfl (by decide) (by decide) rfl HO1.out gl x (by rw [Hgl.out]; rfl) _ 104 hgl rfl hne1 Hxa.out (by rw [← Hql.out]; omega) hb.size ?_
                    intro v2 u2 hO2 hg2 hat2
                    have hb := hb.trans (HO1.out.below hg2 (Nat.le_refl _) hb.size)
                    have HO2 := Lib.hid hO2
                    clear hg2 hat2 hO2 HO1 hgl hne1
                    refine hK.out _ _ (HSS.out _ hb) (fun hH => ?_)
                    clear hK K
                    try simp only [Act.put, List.getElem_toArray, List.getElem_cons_zero, List.getElem_cons_succ, List.setIfInBounds_toArray, List.set_cons_zero, List.set_cons_succ]
                    refine wpAnyL_one (i := 17) (by kernel_rfl) rfl (by decide) (fun K hK => ?_)
                    rw [if_pos (by rfl)]
                    refine oper_append (.tmp 105) (.tmp 111) 31 rfl (.agg #[i64 0, .string ByteArray.empty, i64 0]) 32 Tryz.underlying31 rheldInfo rfl (by decide) (by decide) rfl HO2.out _ _ _ (H.drop q) rfl (by simp) ((hDr.out _ hb).mono (HO2.out.oth (Nat.le_refl _) hb.size)) (by simp <;> omega) hb.size ?_
                    intro v3 u3 hO3 hg3 hat3
                    obtain ⟨A3, cap3, hv3, -⟩ := hO3.sl
                    generalize List.length _ = n3 at hv3
                    subst hv3
                    have hb := hb.trans (HO2.out.below hg3 (Nat.le_refl _) hb.size)
                    have HO3 := Lib.hid hO3
                    clear hg3 hat3 hO3 HO2
                    refine hK.out _ _ (HSS.out _ hb) (fun hH => ?_)
                    clear hK K
                    try simp only [Act.put, List.getElem_toArray, List.getElem_cons_zero, List.getElem_cons_succ, List.setIfInBounds_toArray, List.set_cons_zero, List.set_cons_succ]
                    refine wpAnyL_take (i := 18) (v := ?v5053) rfl (by kernel_rfl) (by kernel_rfl) (by kernel_rfl) (by kernel_rfl) (fun _ _ _ h => h) (Or.inl ⟨by kernel_rfl, ?hy5053⟩) (by assumption) ?r5053
                    case hy5053 => (intro W hSW; obtain ⟨s0, s1, s2, s3⟩ := hSW; go_simp; try with_reducible rfl)
                    try simp only [Act.put, List.getElem_toArray, List.getElem_cons_zero, List.getElem_cons_succ, List.setIfInBounds_toArray, List.set_cons_zero, List.set_cons_succ]
                    refine wpAnyL_take (i := 19) (v := ?v5054) rfl (by kernel_rfl) (by kernel_rfl) (by kernel_rfl) (by kernel_rfl) (fun _ _ _ h => h) (Or.inl ⟨by kernel_rfl, ?hy5054⟩) (by assumption) ?r5054
                    case hy5054 => (intro W hSW; obtain ⟨s0, s1, s2, s3⟩ := hSW; go_simp; try with_reducible rfl)
                    try simp only [Act.put, List.getElem_toArray, List.getElem_cons_zero, List.getElem_cons_succ, List.setIfInBounds_toArray, List.set_cons_zero, List.set_cons_succ]
                    refine wpAnyL_last (by kernel_rfl) rfl (fun K hK => ?_)
                    have c3 := (hb.cell (p := ⟨g, 0, none⟩) hlgq).trans c0q
                    have hg3 := Lib.hid ((hb.block _ hlgq).trans hcq.out)
                    have f3 := frozen_of_row _ g 0 _ _ hg3.out
                    go_simp
                    refine hK.out _ _ ?_
                    clear hK K
                    try simp only [Act.put, List.getElem_toArray, List.getElem_cons_zero, List.getElem_cons_succ, List.setIfInBounds_toArray, List.set_cons_zero, List.set_cons_succ]
                    refine wpAnyL_done (by kernel_rfl) ?_ _
                    refine NoPanic.normal ?_
                    have hD := rh_put (Nat.le_refl _) hb hlgq (fun k hk => HTn.out k (Nat.le_trans (Nat.le_trans Hsz.out HBq.out.size) hk)) hg3.out HO3.out (ins_okH HH.out Hxa.out)
                    have HD := Lib.hid hD
                    clear hD
                    go_wp2
                    all_goals (go_ret; exact ⟨by rw [HR4.out]; rfl, by rw [HR4.out]; exact (Q1.out.later HBq.out).kept (Gr.of_grown HD.out.2) (fun e => hne (by injection e)) (fun k hk e => HTg.out (by injection e with e; rw [e]; exact hk)), by rw [HR4.out, HI.out, List.append_cons]; exact HD.out.1, (hG.trans (Gr.of_below HBq.out (GH g gc)) (fun _ e => .inl e)).trans ((Gr.of_grown HD.out.2).mono (fun k _ e => (show GH g gc k from .inl (by injection e with e; exact e.symm)))) (fun _ e => .inl e)⟩)
                  exact AllReadyL.nil
        · have g6 : (er != 0) = true := by simpa using he
          have HR4 := Lib.hid (show R = (er, L2, H) by rw [HR3.out, if_neg he])
          clear HR3 he
          go_wp2
          go_ret
          exact ⟨by rw [HR4.out]; rfl, by rw [HR4.out]; exact q1, by rw [HR4.out]; exact hh2, hG⟩
    · have HR2 := Lib.hid (show R = (7, L, H) by rw [HR1.out, show getK Held.key H x.key = some H[i] from i2]; rfl)
      have g4 : decide ((0 : Int) ≤ idxH H x.acct x.num) = true := decide_eq_true (by omega)
      generalize idxH H x.acct x.num = ix at *
      clear HR1 i1 i2 i3
      go_enter Tryz.func58, Tryz.ntmps58
      go_wp2_with fail
      refine hA.out.mono ?_
      rintro e w1 ⟨rfl, rfl⟩
      go_wp2
      go_ret
      exact ⟨by rw [HR2.out]; rfl, by rw [HR2.out]; exact HC0.out, by rw [HR2.out]; exact H0.out, Gr.of_below hb0 _⟩
end Go.Proofs.YtmljlkjomjflpaaGreat
