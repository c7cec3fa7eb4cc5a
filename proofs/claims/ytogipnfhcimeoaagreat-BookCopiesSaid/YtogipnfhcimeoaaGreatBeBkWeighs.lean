/- law09.BookWeighs -/
import Derived.Test.YtogipnfhcimeoaaGreatRows
import Derived.Test.YtogipnfhcimeoaaGreatBd10
import Derived.WalkKit
import Derived.WalkSpells
import Derived.WalkLawsBesides
import Derived.Deep.QuietTactic
import Derived.BigQuiet
import Derived.Laws.StructEq
import Derived.Deep.DeepFit
import Derived.StillTailTactics
namespace Go.Proofs.YtogipnfhcimeoaaGreat
open Go.RowKit
theorem own_notW {a c : BA} {n : Nat} (ha : ∀ k, a.all k → k < n) (hc : ∀ k, c.all k → n ≤ k) : ∀ k, c.all k → ¬ a.own k := fun k h1 h2 => by have := ha k (BA.own_all h2); have := hc k h1; omega
theorem Own.slW {α : Type} [Enc α] {w : World} {base : Nat} {e : TypeId} {v : Value} {l : List α} {S : Nat → Prop} (h : Own w base e v l) (hb : ∀ b, v.ownBlock = some b → S b) (hx : ∀ x ∈ l, Enc.ok w S x) : ∃ A c, v = .slice A l.length c ∧ SlS w S A c l := by
  obtain ⟨⟨h1, h2⟩, h3⟩ := h
  rcases h2 with ⟨rfl, h0⟩ | ⟨g, cap, cur, rfl, hg, hh, hn, hm, hz, ht⟩
  · have : l = [] := List.length_eq_zero_iff.1 h0
    subst this
    exact ⟨none, 0, rfl, SlS.nil_ _ _⟩
  · refine ⟨_, _, rfl, hn, hm, fun _ => ⟨g, 0, rfl, hb g rfl, fun j u hu => ?_⟩, hx⟩
    rw [cell_of_row w g (0 + j) cur e (0, 0) hh, Nat.zero_add]
    rw [← ht, List.getElem?_take] at hu
    split at hu
    · rw [← hu]; simp
    · cases hu
/-- few's orders, apart from a book that lies ahead of them -/
theorem few_apart {w w1 w2 w3 : World} {a : BA} {A : Option Addr} {c m n : Nat} {l : List Od} {v : Value} {e : TypeId} (h : Sl w w.heap.size A c l) (hO : Own w3 w2.heap.size e v (fewN m n l)) (hb : Below w.heap.size w w3) (h1 : ∀ k, a.all k → w1.heap.size ≤ k) (h2 : ∀ k, a.all k → k < w2.heap.size) (h01 : w.heap.size ≤ w1.heap.size) :
    ∃ A c, v = .slice A (fewN m n l).length c ∧ SlS w3 (fun k => k < w3.heap.size ∧ ¬ a.all k) A c (fewN m n l) :=
  by
    obtain ⟨A', c', e1, e2⟩ := Own.slW (S := fun k => k < w3.heap.size ∧ ¬ a.all k) hO (fun b hb' => ⟨(hO.1.lt b hb').2, fun e => absurd (h2 b e) (Nat.not_lt.2 (hO.1.lt b hb').1)⟩) fun x hx => by
      obtain ⟨y, hy, rfl⟩ := List.mem_map.1 hx
      exact cutN_ok (Enc.keep (α := Od) (h.2.2.2 y (List.mem_of_mem_take hy)) (fun p hp => hb.cell hp) (fun k hk => ⟨Nat.lt_of_lt_of_le hk hb.size, fun e => absurd (h1 k e) (by omega)⟩))
    exact ⟨A', c', e1, e2⟩
theorem sl_gr {w w' : World} {T S : Nat → Prop} {A : Option Addr} {c n : Nat} {l : List Od} (h : SlS w (fun k => k < n ∧ T k) A c l) (hg : Gr w w' S) (hn : n ≤ w.heap.size) (hS : ∀ k, S k → ¬ T k) : SlS w' (fun k => k < n ∧ T k) A c l :=
  h.grs hg fun _ hk => ⟨Nat.lt_of_lt_of_le hk.1 hn, fun e => hS _ e hk.2⟩
theorem sumH_take {H : List Held} {k : Nat} (hk : k < H.length) : sumH (H.take (k + 1)) = sumH (H.take k) + H[k].sum := by
  rw [List.take_succ_eq_append_getElem hk, sumH_snoc]
theorem R64_wrap {n : Int} (h : R64 n) : IntKind.i64.wrap n = n := by rw [IntKind.wrap_i64]; unfold R64 at h; omega
set_option maxRecDepth 100000 in
set_option maxHeartbeats 16000000 in
theorem bookWeighs_c (A : Option Addr) (c : Nat) (l : List Od) (w : World) (h : Sl w w.heap.size A c l) (hr : ∀ x ∈ l, InR x) :
    Calls Tryz.prog 12 #[.slice A l.length c] w fun e w' => e = .returned (.bool true) ∧ Below w.heap.size w w' := by
  have hL := Lib.hid fun W => lives9_c W
  have HN := Lib.hid fun W => bnew_c W
  have Hod := Lib.hid (fewN_odB (m := 10) (n := 80) h hr)
  have H := Lib.hid h
  clear h hr
  go_enter Tryz.func12, Tryz.ntmps12
  go_wp2_with fail
  refine (hL.out _).mono ?_
  rintro e w1 ⟨rfl, hF⟩
  have hb1 := hF
  clear hL hF
  go_wp2_with fail
  refine (HN.out _).mono ?_
  rintro e w2 ⟨a, rfl, hB, ha, hF⟩
  have hb2 := below_on hb1 (Nat.le_refl _) hF
  have hlt2 := hB.lt
  have HFw := Lib.hid (few_09 A c 80 l w2 (H.out.later hb2) (by decide))
  clear HN hF
  go_wp2_with fail
  refine HFw.out.mono ?_
  rintro e w3 ⟨v, rfl, hO, hF⟩
  have hb3 := below_on hb2 (Nat.le_refl _) hF
  have hB3 := hB.later hF
  obtain ⟨A2, c2, rfl, s2⟩ := few_apart H.out hO hb3 ha hlt2 hb1.size
  have Hge := Lib.hid (show ∀ k, a.all k → w.heap.size ≤ k from fun k hk => Nat.le_trans hb1.size (ha k hk))
  have Hlt := Lib.hid (show ∀ k, a.all k → k < w3.heap.size from fun k hk => Nat.lt_of_lt_of_le (hlt2 k hk) hF.size)
  have Hlg := Lib.hid (show ∀ x ∈ fewN 10 80 l, x.legs.length ≤ 65536 from fun x hx => Nat.le_trans (fewN_legs 10 80 l x hx) (by decide))
  have hlm : (fewN 10 80 l).length ≤ 80 := fewN_le 10 80 l
  have hmc : (fewN 10 80 l).length ≤ c2 := s2.1
  clear HFw hO hF hB ha hlt2 H hb2 hb1
  generalize fewN 10 80 l = m at *
  go_wp2_with fail
  go_loopw [4] (fun i wr => ∃ k : Nat, i = i64 k ∧ k ≤ m.length ∧ BkA wr a (foldL bk0 (m.take k)) ∧ InvW (foldL bk0 (m.take k)) ∧ SlS wr (fun k => k < w3.heap.size ∧ ¬ a.all k) A2 c2 m ∧ Below w.heap.size w wr ∧ w3.heap.size ≤ wr.heap.size) (fun i _ => m.length - (intOf i).toNat)
  case atStart => exact ⟨0, rfl, Nat.zero_le _, hB3, inv_w0, s2, hb3, Nat.le_refl _⟩
  case round =>
    obtain ⟨k, rfl, hk, hB, hI, hS, hb, hz⟩ := hrel
    clear hB3 s2 hb3
    by_cases hlt : k < m.length
    · have g1 : decide ((k : Int) < (m.length : Int)) = true := decide_eq_true (by omega)
      have g2 : decide (k < m.length) = true := decide_eq_true hlt
      have i0 : (0 : Int) ≤ (k : Int) := by omega
      have i1 : (k : Int) < (m.length : Int) := by omega
      have HF := Lib.hid (show foldL bk0 (m.take (k + 1)) = (doL (foldL bk0 (m.take k)) m[k]).2 by rw [List.take_succ_eq_append_getElem hlt, foldL_snoc])
      have hxo := Hod.out m[k] (List.getElem_mem hlt)
      have hI2 := hI.do_ hxo
      generalize foldL bk0 (m.take k) = B at *
      have HCp := Lib.hid (bcopy_c a B wr hB)
      have hltr := hB.lt
      go_wp2_with fail
      refine HCp.out.mono ?_
      rintro e w4 ⟨c4, rfl, hC4, hca, hF⟩
      have hb4 := below_on hb (Nat.le_refl _) hF
      have hB4 := hB.later hF
      have hS4 := sl_gr hS (Gr.of_below hF (fun _ => False)) hz (fun _ e => e.elim)
      have hz4 := Nat.le_trans hz hF.size
      have Hnc := Lib.hid (own_notW hltr hca)
      clear HCp hF hB hb hS hz
      obtain ⟨b, o, rfl, hbb, hok, c0, c1, c2', c3, c4', c5, c6, c7, c8, c9⟩ := hS4.od hlt
      have hin : OdIn w4 a m[k] := ⟨Enc.keep (α := Od) hok (fun _ _ => rfl) (fun j hj => ⟨Nat.lt_of_lt_of_le hj.1 hz4, hj.2⟩), Hlg.out _ (List.getElem_mem hlt)⟩
      obtain ⟨x, hxk⟩ : ∃ x, m[k] = x := ⟨_, rfl⟩
      rw [hxk] at c0 c1 c2' c3 c4' c5 c6 c7 c8 c9 hin hxo HF hI2
      have HD := Lib.hid (bdo_c a B x _ hB4 hI.inv hxo hin)
      have Hask := Lib.hid (fun e => doL_ask B (x := x) e)
      have Herr := Lib.hid (fun e => doL_err hI.inv (x := x) e)
      have hcl := do_cl (B := B) x
      generalize doL B x = d at *
      obtain ⟨R, B2⟩ := d
      dsimp only at *
      have HI := Lib.hid hI
      have HI2 := Lib.hid hI2
      clear hin hxo hok hbb hB4 hI hI2
      go_wp2_with fail
      refine HD.out.mono ?_
      rintro e w5 ⟨rfl, hB5, hG⟩
      have hb5 := hb4.trans (BkA.own_below hG hb4.size Hge.out)
      have hS5 := sl_gr hS4 hG hz4 (fun k e h => h (BA.own_all e))
      have hC5 := hC4.kept hG Hnc.out
      have hz5 := Nat.le_trans hz4 hG.size
      have hba := (Below.refl w5.heap.size w5).alloc (Nat.le_refl _) (.cells #[i64 R.err, i64 R.hav, i64 R.set_, i64 R.num] 57)
      have hr5 := heap_alloc_new w5 (.cells #[i64 R.err, i64 R.hav, i64 R.set_, i64 R.num] 57)
      have hb6 := hb5.alloc hb5.size (.cells #[i64 R.err, i64 R.hav, i64 R.set_, i64 R.num] 57)
      have hB6 := hB5.later hba
      have hC6 := hC5.later hba
      have hS6 := sl_gr hS5 (Gr.of_below hba (fun _ => False)) hz5 (fun _ e => e.elim)
      have hz6 := Nat.le_trans hz5 hba.size
      clear HD hG hba hB5 hC5 hC4 hS5 hS4 hb5 hb4 hz5 hz4 c0 c1 c2' c3 c4' c5 c6 c7 c8 c9
      go_upto_region 10 with fail
      generalize w5.alloc (.cells #[i64 R.err, i64 R.hav, i64 R.set_, i64 R.num] 57) = w6 at *
      generalize w5.heap.size = g6 at *
      have hSx := hS6
      obtain ⟨b, o, hA, _, _, _, _, d2, _, _, _, _, _, _, _⟩ := hS6.od hlt
      injection hA with hA
      injection hA with hA1 hA2
      subst hA1 hA2
      rw [hxk] at d2
      have p0 := cell_of_row _ g6 0 _ _ (0, 0) hr5
      have p1 := cell_of_row _ g6 1 _ _ (0, 0) hr5
      have p2 := cell_of_row _ g6 2 _ _ (0, 0) hr5
      have p3 := cell_of_row _ g6 3 _ _ (0, 0) hr5
      simp only [List.getElem?_toArray, List.getElem?_cons_zero, List.getElem?_cons_succ] at p0 p1 p2 p3
      clear hxk hS6
      go_cut [60] from 18 (fun s60 wx => s60 = .bool false ∧ Below w6.heap.size w6 wx)
      case first =>
        by_cases he : R.err = 0
        · have e1 : (R.err != 0) = false := by rw [he]; rfl
          by_cases k7 : x.kind = 7
          · obtain rfl := Hask.out k7
            have e7 : (x.kind == 7) = true := by rw [k7]; rfl
            have HS := Lib.hid (bsame_c c4 a B2 B2 w6 hC6 hB6 HI2.out.inv HI2.out.inv)
            rw [sameBk_refl] at HS
            clear k7 he Hask Herr
            go_wp2_with fail
            refine HS.out.mono ?_
            rintro e u1 ⟨rfl, hF⟩
            have p0 := (hF.cell (p := ⟨g6, 0, none⟩) (Array.getElem?_eq_some_iff.1 hr5).1).trans p0
            clear HS
            go_wp2
            go_meet
            exact ⟨rfl, hF⟩
          · have e7 : (x.kind == 7) = false := by rw [beq_eq_false_iff_ne]; exact k7
            clear k7 he Hask Herr
            go_wp2
            go_meet
            exact ⟨rfl, Below.refl _ _⟩
        · obtain ⟨rfl, hRe⟩ := Herr.out he
          have e1 : (R.err != 0) = true := by simpa using he
          have HS := Lib.hid (bsame_c c4 a B2 B2 w6 hC6 hB6 HI2.out.inv HI2.out.inv)
          rw [sameBk_refl] at HS
          have hne : ∀ W : World, (binOp .neq 57 (.agg #[i64 R.err, i64 R.hav, i64 R.set_, i64 R.num]) (.agg #[i64 R.err, i64 0, i64 0, i64 0])).run Tryz.prog W = .ok (.bool false) W := fun W => (neq_rp R (rpE R.err) W).trans (by rw [decide_eq_true hRe]; rfl)
          clear he Hask Herr hRe
          go_wp2_with fail
          refine HS.out.mono ?_
          rintro e u1 ⟨rfl, hF⟩
          have p0 := (hF.cell (p := ⟨g6, 0, none⟩) (Array.getElem?_eq_some_iff.1 hr5).1).trans p0
          have p1 := (hF.cell (p := ⟨g6, 1, none⟩) (Array.getElem?_eq_some_iff.1 hr5).1).trans p1
          have p2 := (hF.cell (p := ⟨g6, 2, none⟩) (Array.getElem?_eq_some_iff.1 hr5).1).trans p2
          have p3 := (hF.cell (p := ⟨g6, 3, none⟩) (Array.getElem?_eq_some_iff.1 hr5).1).trans p3
          clear HS
          go_wp2
          go_meet
          exact ⟨rfl, hF⟩
      case rest =>
      obtain ⟨rfl, hF⟩ := hcut
      clear p0 p1 p2 p3 d2 hr5
      have hb7 := hb6.trans (hF.mono hb6.size)
      have hB7 := hB6.later hF
      have hC7 := hC6.later hF
      have hS7 := sl_gr hSx (Gr.of_below hF (fun _ => False)) hz6 (fun _ e => e.elim)
      have hz7 := Nat.le_trans hz6 hF.size
      clear hF hb6 hB6 hC6 hSx hz6
      have HA := Lib.hid (baccts_c a B2 _ hB7 HI2.out.inv)
      have HH := Lib.hid (fun W (hW : BkA W a B2) => bholds_c a B2 W hW HI2.out.inv)
      go_wp2_with fail
      refine HA.out.mono ?_
      rintro e w8 ⟨v8, rfl, hO8, hF⟩
      obtain ⟨A8, c8, rfl, s8⟩ := hO8.sl
      have hb8 := hb7.trans (hF.mono hb7.size)
      have hB8 := hB7.later hF
      have hC8 := hC7.later hF
      have hS8 := sl_gr hS7 (Gr.of_below hF (fun _ => False)) hz7 (fun _ e => e.elim)
      have hz8 := Nat.le_trans hz7 hF.size
      clear HA hF hb7 hB7 hC7 hS7 hz7 hO8
      go_wp2_with fail
      refine (HH.out _ hB8).mono ?_
      rintro e w9 ⟨v9, rfl, hO9, hF⟩
      obtain ⟨A9, c9, rfl, s9⟩ := hO9.sl
      have s8 := s8.later hF
      have hb9 := hb8.trans (hF.mono hb8.size)
      have hB9 := hB8.later hF
      have hC9 := hC8.later hF
      have hS9 := sl_gr hS8 (Gr.of_below hF (fun _ => False)) hz8 (fun _ e => e.elim)
      have hz9 := Nat.le_trans hz8 hF.size
      have hlL : B2.L.length ≤ 12 := HI2.out.inv.len
      have hlH : B2.H.length ≤ 96 := HI2.out.inv.lenH
      have hlc8 : B2.L.length ≤ c8 := s8.1
      have hlc9 : B2.H.length ≤ c9 := s9.1
      have HCl := Lib.hid (fun W (hW : BkA W a B2) => bclosed_c a B2 W hW)
      have HCl4 := Lib.hid (fun W (hW : BkA W c4 B) => bclosed_c c4 B W hW)
      clear HH hF hb8 hB8 hC8 hS8 hz8 hO9
      go_wp2_with fail
      go_loopw [9, 10, 11] (fun t s i wr => ∃ j : Nat, t = i64 (IntKind.i64.wrap (havL (B2.L.take j))) ∧ s = i64 (IntKind.i64.wrap (setL (B2.L.take j))) ∧ i = i64 j ∧ j ≤ B2.L.length ∧ ∃ q, wr = w9.drewN q) (fun _ _ i _ => B2.L.length - (intOf i).toNat)
      case atStart => exact ⟨0, rfl, rfl, rfl, Nat.zero_le _, 0, rfl⟩
      case round =>
        obtain ⟨j, rfl, rfl, rfl, hj, q, rfl⟩ := hrel
        by_cases hjl : j < B2.L.length
        · have g3 : decide ((j : Int) < (B2.L.length : Int)) = true := decide_eq_true (by omega)
          have g4 : decide (j < B2.L.length) = true := decide_eq_true hjl
          have i2 : (0 : Int) ≤ (j : Int) := by omega
          have i3 : (j : Int) < (B2.L.length : Int) := by omega
          have s8' := s8.later (below_drewN (Below.refl w9.heap.size w9) q)
          obtain ⟨b8, o8, rfl, _, _, d0, d1, d2, d3⟩ := s8'.acc hjl
          have HT := Lib.hid (show IntKind.i64.wrap (IntKind.i64.wrap (havL (B2.L.take j)) + B2.L[j].hav) = IntKind.i64.wrap (havL (B2.L.take (j + 1))) by rw [wrap_add, havL_snoc hjl])
          have HS := Lib.hid (show IntKind.i64.wrap (IntKind.i64.wrap (setL (B2.L.take j)) + B2.L[j].set_) = IntKind.i64.wrap (setL (B2.L.take (j + 1))) by rw [wrap_add, setL_snoc hjl])
          have hlim := HI2.out.lim B2.L[j] (List.getElem_mem hjl)
          have hok := HI2.out.inv.inv.okA B2.L[j] (List.getElem_mem hjl)
          generalize IntKind.i64.wrap (havL (B2.L.take j)) = t at *
          generalize IntKind.i64.wrap (setL (B2.L.take j)) = s at *
          generalize B2.L[j] = y at *
          obtain ⟨⟨o1, o2, o3, o4⟩, o5, _⟩ := hok
          unfold R64 at o1 o2
          go_upto_region 19 with fail
          by_cases hl40 : y.lim < 1099511627776
          · have l1 : decide (y.lim < 1099511627776) = true := decide_eq_true hl40
            have ws : IntKind.i64.wrap (y.hav - y.set_) = y.hav - y.set_ := by rw [IntKind.wrap_i64]; omega
            have ws2 : wrap64 (y.hav - y.set_) = y.hav - y.set_ := by rw [← IntWalk.i64_left]; exact ws
            have wn : IntKind.i64.wrap (-y.lim) = -y.lim := by rw [IntKind.wrap_i64]; omega
            have wn2 : wrap64 (-y.lim) = -y.lim := by rw [← IntWalk.i64_left]; exact wn
            have l2 : decide (y.hav - y.set_ < -y.lim) = false := decide_eq_false (by omega)
            refine wp_region_noPanic ?_
            refine wp_region_l 25 (fun V : World => V.cell? ⟨b8, o8 + j * 4 + 1, none⟩ = some (i64 y.hav) ∧ V.cell? ⟨b8, o8 + j * 4 + 2, none⟩ = some (i64 y.set_) ∧ V.cell? ⟨b8, o8 + j * 4 + 3, none⟩ = some (i64 y.lim)) (by kernel_rfl) (⟨d1, d2, d3⟩) (fun hH => ?_)
            refine wpAnyL_take (i := 0) (v := ?v20001) rfl (by kernel_rfl) (by kernel_rfl) (by kernel_rfl) (by kernel_rfl) (fun _ _ _ h => h) (Or.inl ⟨by kernel_rfl, ?hy20001⟩) (by assumption) ?r20001
            case hy20001 => (intro W hSW; obtain ⟨s1, s2, s3⟩ := hSW; go_simp; try with_reducible rfl)
            try simp only [Act.put, List.getElem_toArray, List.getElem_cons_zero, List.setIfInBounds_toArray, List.set_cons_zero, List.set_cons_succ]
            refine wpAnyL_take (i := 1) (v := ?v20002) rfl (by kernel_rfl) (by kernel_rfl) (by kernel_rfl) (by kernel_rfl) (fun _ _ _ h => h) (Or.inl ⟨by kernel_rfl, ?hy20002⟩) (by assumption) ?r20002
            case hy20002 => (intro W hSW; obtain ⟨s1, s2, s3⟩ := hSW; go_simp; try with_reducible rfl)
            try simp only [Act.put, List.getElem_toArray, List.getElem_cons_zero, List.getElem_cons_succ, List.setIfInBounds_toArray, List.set_cons_zero, List.set_cons_succ]
            refine wpAnyL_take (i := 2) (v := ?v20003) rfl (by kernel_rfl) (by kernel_rfl) (by kernel_rfl) (by kernel_rfl) (fun _ _ _ h => h) (Or.inl ⟨by kernel_rfl, ?hy20003⟩) (by assumption) ?r20003
            case hy20003 => (intro W hSW; obtain ⟨s1, s2, s3⟩ := hSW; go_simp; try with_reducible rfl)
            try simp only [Act.put, List.getElem_toArray, List.getElem_cons_zero, List.getElem_cons_succ, List.setIfInBounds_toArray, List.set_cons_zero, List.set_cons_succ]
            refine wpAnyL_take (i := 3) (v := ?v20004) rfl (by kernel_rfl) (by kernel_rfl) (by kernel_rfl) (by kernel_rfl) (fun _ _ _ h => h) (Or.inl ⟨by kernel_rfl, ?hy20004⟩) (by assumption) ?r20004
            case hy20004 => (intro W hSW; obtain ⟨s1, s2, s3⟩ := hSW; go_simp; try with_reducible rfl)
            try simp only [Act.put, List.getElem_toArray, List.getElem_cons_zero, List.getElem_cons_succ, List.setIfInBounds_toArray, List.set_cons_zero, List.set_cons_succ]
            refine wpAnyL_take (i := 4) (v := ?v20005) rfl (by kernel_rfl) (by kernel_rfl) (by kernel_rfl) (by kernel_rfl) (fun _ _ _ h => h) (Or.inl ⟨by kernel_rfl, ?hy20005⟩) (by assumption) ?r20005
            case hy20005 => (intro W hSW; obtain ⟨s1, s2, s3⟩ := hSW; go_simp; try with_reducible rfl)
            try simp only [Act.put, List.getElem_toArray, List.getElem_cons_zero, List.getElem_cons_succ, List.setIfInBounds_toArray, List.set_cons_zero, List.set_cons_succ]
            refine wpAnyL_take (i := 5) (v := ?v20006) rfl (by kernel_rfl) (by kernel_rfl) (by kernel_rfl) (by kernel_rfl) (fun _ _ _ h => h) (Or.inl ⟨by kernel_rfl, ?hy20006⟩) (by assumption) ?r20006
            case hy20006 => (intro W hSW; obtain ⟨s1, s2, s3⟩ := hSW; go_simp; try with_reducible rfl)
            try simp only [Act.put, List.getElem_toArray, List.getElem_cons_zero, List.getElem_cons_succ, List.setIfInBounds_toArray, List.set_cons_zero, List.set_cons_succ]
            refine wpAnyL_take (i := 6) (v := ?v20007) rfl (by kernel_rfl) (by kernel_rfl) (by kernel_rfl) (by kernel_rfl) (fun _ _ _ h => h) (Or.inl ⟨by kernel_rfl, ?hy20007⟩) (by assumption) ?r20007
            case hy20007 => (intro W hSW; obtain ⟨s1, s2, s3⟩ := hSW; go_simp; try with_reducible rfl)
            try simp only [Act.put, List.getElem_toArray, List.getElem_cons_zero, List.getElem_cons_succ, List.setIfInBounds_toArray, List.set_cons_zero, List.set_cons_succ]
            refine wpAnyL_take (i := 7) (v := ?v20008) rfl (by kernel_rfl) (by kernel_rfl) (by kernel_rfl) (by kernel_rfl) (fun _ _ _ h => h) (Or.inl ⟨by kernel_rfl, ?hy20008⟩) (by assumption) ?r20008
            case hy20008 => (intro W hSW; obtain ⟨s1, s2, s3⟩ := hSW; go_simp; try with_reducible rfl)
            try simp only [Act.put, List.getElem_toArray, List.getElem_cons_zero, List.getElem_cons_succ, List.setIfInBounds_toArray, List.set_cons_zero, List.set_cons_succ]
            refine wpAnyL_take (i := 8) (v := ?v20009) rfl (by kernel_rfl) (by kernel_rfl) (by kernel_rfl) (by kernel_rfl) (fun _ _ _ h => h) (Or.inl ⟨by kernel_rfl, ?hy20009⟩) (by assumption) ?r20009
            case hy20009 => (intro W hSW; obtain ⟨s1, s2, s3⟩ := hSW; go_simp; try with_reducible rfl)
            try simp only [Act.put, List.getElem_toArray, List.getElem_cons_zero, List.getElem_cons_succ, List.setIfInBounds_toArray, List.set_cons_zero, List.set_cons_succ]
            refine wpAnyL_take (i := 9) (v := ?v20010) rfl (by kernel_rfl) (by kernel_rfl) (by kernel_rfl) (by kernel_rfl) (fun _ _ _ h => h) (Or.inl ⟨by kernel_rfl, ?hy20010⟩) (by assumption) ?r20010
            case hy20010 => (intro W hSW; obtain ⟨s1, s2, s3⟩ := hSW; go_simp; try with_reducible rfl)
            try simp only [Act.put, List.getElem_toArray, List.getElem_cons_zero, List.getElem_cons_succ, List.setIfInBounds_toArray, List.set_cons_zero, List.set_cons_succ]
            refine wpAnyL_take (i := 10) (v := ?v20011) rfl (by kernel_rfl) (by kernel_rfl) (by kernel_rfl) (by kernel_rfl) (fun _ _ _ h => h) (Or.inl ⟨by kernel_rfl, ?hy20011⟩) (by assumption) ?r20011
            case hy20011 => (intro W hSW; obtain ⟨s1, s2, s3⟩ := hSW; go_simp; try with_reducible rfl)
            try simp only [Act.put, List.getElem_toArray, List.getElem_cons_zero, List.getElem_cons_succ, List.setIfInBounds_toArray, List.set_cons_zero, List.set_cons_succ]
            refine wpAnyL_take (i := 11) (v := ?v20012) rfl (by kernel_rfl) (by kernel_rfl) (by kernel_rfl) (by kernel_rfl) (fun _ _ _ h => h) (Or.inl ⟨by kernel_rfl, ?hy20012⟩) (by assumption) ?r20012
            case hy20012 => (intro W hSW; obtain ⟨s1, s2, s3⟩ := hSW; go_simp; try with_reducible rfl)
            try simp only [Act.put, List.getElem_toArray, List.getElem_cons_zero, List.getElem_cons_succ, List.setIfInBounds_toArray, List.set_cons_zero, List.set_cons_succ]
            refine wpAnyL_take (i := 12) (v := ?v20013) rfl (by kernel_rfl) (by kernel_rfl) (by kernel_rfl) (by kernel_rfl) (fun _ _ _ h => h) (Or.inl ⟨by kernel_rfl, ?hy20013⟩) (by assumption) ?r20013
            case hy20013 => (intro W hSW; obtain ⟨s1, s2, s3⟩ := hSW; go_simp; try with_reducible rfl)
            try simp only [Act.put, List.getElem_toArray, List.getElem_cons_zero, List.getElem_cons_succ, List.setIfInBounds_toArray, List.set_cons_zero, List.set_cons_succ]
            refine wpAnyL_take (i := 13) (v := ?v20014) rfl (by kernel_rfl) (by kernel_rfl) (by kernel_rfl) (by kernel_rfl) (fun _ _ _ h => h) (Or.inl ⟨by kernel_rfl, ?hy20014⟩) (by assumption) ?r20014
            case hy20014 => (intro W hSW; obtain ⟨s1, s2, s3⟩ := hSW; go_simp; try with_reducible rfl)
            try simp only [Act.put, List.getElem_toArray, List.getElem_cons_zero, List.getElem_cons_succ, List.setIfInBounds_toArray, List.set_cons_zero, List.set_cons_succ]
            refine wpAnyL_take (i := 14) (v := ?v20015) rfl (by kernel_rfl) (by kernel_rfl) (by kernel_rfl) (by kernel_rfl) (fun _ _ _ h => h) (Or.inl ⟨by kernel_rfl, ?hy20015⟩) (by assumption) ?r20015
            case hy20015 => (intro W hSW; obtain ⟨s1, s2, s3⟩ := hSW; go_simp; try with_reducible rfl)
            try simp only [Act.put, List.getElem_toArray, List.getElem_cons_zero, List.getElem_cons_succ, List.setIfInBounds_toArray, List.set_cons_zero, List.set_cons_succ]
            refine wpAnyL_take (i := 15) (v := ?v20016) rfl (by kernel_rfl) (by kernel_rfl) (by kernel_rfl) (by kernel_rfl) (fun _ _ _ h => h) (Or.inl ⟨by kernel_rfl, ?hy20016⟩) (by assumption) ?r20016
            case hy20016 => (intro W hSW; obtain ⟨s1, s2, s3⟩ := hSW; go_simp; try with_reducible rfl)
            try simp only [Act.put, List.getElem_toArray, List.getElem_cons_zero, List.getElem_cons_succ, List.setIfInBounds_toArray, List.set_cons_zero, List.set_cons_succ]
            refine wpAnyL_take (i := 16) (v := ?v20017) rfl (by kernel_rfl) (by kernel_rfl) (by kernel_rfl) (by kernel_rfl) (fun _ _ _ h => h) (Or.inl ⟨by kernel_rfl, ?hy20017⟩) (by assumption) ?r20017
            case hy20017 => (intro W hSW; obtain ⟨s1, s2, s3⟩ := hSW; go_simp; try with_reducible rfl)
            try simp only [Act.put, List.getElem_toArray, List.getElem_cons_zero, List.getElem_cons_succ, List.setIfInBounds_toArray, List.set_cons_zero, List.set_cons_succ]
            refine wpAnyL_take (i := 17) (v := ?v20018) rfl (by kernel_rfl) (by kernel_rfl) (by kernel_rfl) (by kernel_rfl) (fun _ _ _ h => h) (Or.inl ⟨by kernel_rfl, ?hy20018⟩) (by assumption) ?r20018
            case hy20018 => (intro W hSW; obtain ⟨s1, s2, s3⟩ := hSW; go_simp; try with_reducible rfl)
            try simp only [Act.put, List.getElem_toArray, List.getElem_cons_zero, List.getElem_cons_succ, List.setIfInBounds_toArray, List.set_cons_zero, List.set_cons_succ]
            refine wpAnyL_take (i := 18) (v := ?v20019) rfl (by kernel_rfl) (by kernel_rfl) (by kernel_rfl) (by kernel_rfl) (fun _ _ _ h => h) (Or.inl ⟨by kernel_rfl, ?hy20019⟩) (by assumption) ?r20019
            case hy20019 => (intro W hSW; obtain ⟨s1, s2, s3⟩ := hSW; go_simp; try with_reducible rfl)
            try simp only [Act.put, List.getElem_toArray, List.getElem_cons_zero, List.getElem_cons_succ, List.setIfInBounds_toArray, List.set_cons_zero, List.set_cons_succ]
            refine wpAnyL_take (i := 19) (v := ?v20020) rfl (by kernel_rfl) (by kernel_rfl) (by kernel_rfl) (by kernel_rfl) (fun _ _ _ h => h) (Or.inl ⟨by kernel_rfl, ?hy20020⟩) (by assumption) ?r20020
            case hy20020 => (intro W hSW; obtain ⟨s1, s2, s3⟩ := hSW; go_simp; try with_reducible rfl)
            try simp only [Act.put, List.getElem_toArray, List.getElem_cons_zero, List.getElem_cons_succ, List.setIfInBounds_toArray, List.set_cons_zero, List.set_cons_succ]
            refine wpAnyL_take (i := 20) (v := ?v20021) rfl (by kernel_rfl) (by kernel_rfl) (by kernel_rfl) (by kernel_rfl) (fun _ _ _ h => h) (Or.inl ⟨by kernel_rfl, ?hy20021⟩) (by assumption) ?r20021
            case hy20021 => (intro W hSW; obtain ⟨s1, s2, s3⟩ := hSW; go_simp; try with_reducible rfl)
            try simp only [Act.put, List.getElem_toArray, List.getElem_cons_zero, List.getElem_cons_succ, List.setIfInBounds_toArray, List.set_cons_zero, List.set_cons_succ]
            refine wpAnyL_take (i := 21) (v := ?v20022) rfl (by kernel_rfl) (by kernel_rfl) (by kernel_rfl) (by kernel_rfl) (fun _ _ _ h => h) (Or.inl ⟨by kernel_rfl, ?hy20022⟩) (by assumption) ?r20022
            case hy20022 => (intro W hSW; obtain ⟨s1, s2, s3⟩ := hSW; go_simp; try with_reducible rfl)
            try simp only [Act.put, List.getElem_toArray, List.getElem_cons_zero, List.getElem_cons_succ, List.setIfInBounds_toArray, List.set_cons_zero, List.set_cons_succ]
            refine wpAnyL_take (i := 22) (v := ?v20023) rfl (by kernel_rfl) (by kernel_rfl) (by kernel_rfl) (by kernel_rfl) (fun _ _ _ h => h) (Or.inl ⟨by kernel_rfl, ?hy20023⟩) (by assumption) ?r20023
            case hy20023 => (intro W hSW; obtain ⟨s1, s2, s3⟩ := hSW; go_simp; try with_reducible rfl)
            try simp only [Act.put, List.getElem_toArray, List.getElem_cons_zero, List.getElem_cons_succ, List.setIfInBounds_toArray, List.set_cons_zero, List.set_cons_succ]
            refine wpAnyL_take (i := 23) (v := ?v20024) rfl (by kernel_rfl) (by kernel_rfl) (by kernel_rfl) (by kernel_rfl) (fun _ _ _ h => h) (Or.inl ⟨by kernel_rfl, ?hy20024⟩) (by assumption) ?r20024
            case hy20024 => (intro W hSW; obtain ⟨s1, s2, s3⟩ := hSW; go_simp; try with_reducible rfl)
            try simp only [Act.put, List.getElem_toArray, List.getElem_cons_zero, List.getElem_cons_succ, List.setIfInBounds_toArray, List.set_cons_zero, List.set_cons_succ]
            refine wpAnyL_take (i := 24) (v := ?v20025) rfl (by kernel_rfl) (by kernel_rfl) (by kernel_rfl) (by kernel_rfl) (fun _ _ _ h => h) (Or.inl ⟨by kernel_rfl, ?hy20025⟩) (by assumption) ?r20025
            case hy20025 => (intro W hSW; obtain ⟨s1, s2, s3⟩ := hSW; go_simp; try with_reducible rfl)
            try simp only [Act.put, List.getElem_toArray, List.getElem_cons_zero, List.getElem_cons_succ, List.setIfInBounds_toArray, List.set_cons_zero, List.set_cons_succ]
            refine wpAnyL_last (by kernel_rfl) rfl (fun K hK => ?_)
            go_simp
            refine hK.out _ _ ?_
            clear hK K
            try simp only [Act.put, List.getElem_toArray, List.getElem_cons_zero, List.getElem_cons_succ, List.setIfInBounds_toArray, List.set_cons_zero, List.set_cons_succ]
            refine wpAnyL_done (by kernel_rfl) ?_ _
            refine NoPanic.normal ?_
            clear hH
            go_wp2
            go_roundw
            case rel => exact ⟨j + 1, by rw [← HT.out, IntWalk.i64_left], by rw [← HS.out, IntWalk.i64_left], by go_num, by omega, q + 1, rfl⟩
            case measure => simp [intOf]; omega
          · have l1 : decide (y.lim < 1099511627776) = false := decide_eq_false hl40
            refine wp_region_noPanic ?_
            refine wp_region_l 25 (fun V : World => V.cell? ⟨b8, o8 + j * 4 + 1, none⟩ = some (i64 y.hav) ∧ V.cell? ⟨b8, o8 + j * 4 + 2, none⟩ = some (i64 y.set_) ∧ V.cell? ⟨b8, o8 + j * 4 + 3, none⟩ = some (i64 y.lim)) (by kernel_rfl) (⟨d1, d2, d3⟩) (fun hH => ?_)
            refine wpAnyL_take (i := 0) (v := ?v20026) rfl (by kernel_rfl) (by kernel_rfl) (by kernel_rfl) (by kernel_rfl) (fun _ _ _ h => h) (Or.inl ⟨by kernel_rfl, ?hy20026⟩) (by assumption) ?r20026
            case hy20026 => (intro W hSW; obtain ⟨s1, s2, s3⟩ := hSW; go_simp; try with_reducible rfl)
            try simp only [Act.put, List.getElem_toArray, List.getElem_cons_zero, List.setIfInBounds_toArray, List.set_cons_zero, List.set_cons_succ]
            refine wpAnyL_take (i := 1) (v := ?v20027) rfl (by kernel_rfl) (by kernel_rfl) (by kernel_rfl) (by kernel_rfl) (fun _ _ _ h => h) (Or.inl ⟨by kernel_rfl, ?hy20027⟩) (by assumption) ?r20027
            case hy20027 => (intro W hSW; obtain ⟨s1, s2, s3⟩ := hSW; go_simp; try with_reducible rfl)
            try simp only [Act.put, List.getElem_toArray, List.getElem_cons_zero, List.getElem_cons_succ, List.setIfInBounds_toArray, List.set_cons_zero, List.set_cons_succ]
            refine wpAnyL_take (i := 2) (v := ?v20028) rfl (by kernel_rfl) (by kernel_rfl) (by kernel_rfl) (by kernel_rfl) (fun _ _ _ h => h) (Or.inl ⟨by kernel_rfl, ?hy20028⟩) (by assumption) ?r20028
            case hy20028 => (intro W hSW; obtain ⟨s1, s2, s3⟩ := hSW; go_simp; try with_reducible rfl)
            try simp only [Act.put, List.getElem_toArray, List.getElem_cons_zero, List.getElem_cons_succ, List.setIfInBounds_toArray, List.set_cons_zero, List.set_cons_succ]
            refine wpAnyL_take (i := 3) (v := ?v20029) rfl (by kernel_rfl) (by kernel_rfl) (by kernel_rfl) (by kernel_rfl) (fun _ _ _ h => h) (Or.inl ⟨by kernel_rfl, ?hy20029⟩) (by assumption) ?r20029
            case hy20029 => (intro W hSW; obtain ⟨s1, s2, s3⟩ := hSW; go_simp; try with_reducible rfl)
            try simp only [Act.put, List.getElem_toArray, List.getElem_cons_zero, List.getElem_cons_succ, List.setIfInBounds_toArray, List.set_cons_zero, List.set_cons_succ]
            refine wpAnyL_take (i := 4) (v := ?v20030) rfl (by kernel_rfl) (by kernel_rfl) (by kernel_rfl) (by kernel_rfl) (fun _ _ _ h => h) (Or.inl ⟨by kernel_rfl, ?hy20030⟩) (by assumption) ?r20030
            case hy20030 => (intro W hSW; obtain ⟨s1, s2, s3⟩ := hSW; go_simp; try with_reducible rfl)
            try simp only [Act.put, List.getElem_toArray, List.getElem_cons_zero, List.getElem_cons_succ, List.setIfInBounds_toArray, List.set_cons_zero, List.set_cons_succ]
            refine wpAnyL_take (i := 5) (v := ?v20031) rfl (by kernel_rfl) (by kernel_rfl) (by kernel_rfl) (by kernel_rfl) (fun _ _ _ h => h) (Or.inl ⟨by kernel_rfl, ?hy20031⟩) (by assumption) ?r20031
            case hy20031 => (intro W hSW; obtain ⟨s1, s2, s3⟩ := hSW; go_simp; try with_reducible rfl)
            try simp only [Act.put, List.getElem_toArray, List.getElem_cons_zero, List.getElem_cons_succ, List.setIfInBounds_toArray, List.set_cons_zero, List.set_cons_succ]
            refine wpAnyL_take (i := 6) (v := ?v20032) rfl (by kernel_rfl) (by kernel_rfl) (by kernel_rfl) (by kernel_rfl) (fun _ _ _ h => h) (Or.inl ⟨by kernel_rfl, ?hy20032⟩) (by assumption) ?r20032
            case hy20032 => (intro W hSW; obtain ⟨s1, s2, s3⟩ := hSW; go_simp; try with_reducible rfl)
            try simp only [Act.put, List.getElem_toArray, List.getElem_cons_zero, List.getElem_cons_succ, List.setIfInBounds_toArray, List.set_cons_zero, List.set_cons_succ]
            refine wpAnyL_take (i := 7) (v := undef) rfl (by kernel_rfl) (by kernel_rfl) (by kernel_rfl) (by kernel_rfl) (fun _ _ _ h => h) (Or.inr ⟨by kernel_rfl, rfl⟩) (by assumption) ?r20033
            try simp only [Act.put, List.getElem_toArray, List.getElem_cons_zero, List.getElem_cons_succ, List.setIfInBounds_toArray, List.set_cons_zero, List.set_cons_succ]
            refine wpAnyL_take (i := 8) (v := undef) rfl (by kernel_rfl) (by kernel_rfl) (by kernel_rfl) (by kernel_rfl) (fun _ _ _ h => h) (Or.inr ⟨by kernel_rfl, rfl⟩) (by assumption) ?r20034
            try simp only [Act.put, List.getElem_toArray, List.getElem_cons_zero, List.getElem_cons_succ, List.setIfInBounds_toArray, List.set_cons_zero, List.set_cons_succ]
            refine wpAnyL_take (i := 9) (v := undef) rfl (by kernel_rfl) (by kernel_rfl) (by kernel_rfl) (by kernel_rfl) (fun _ _ _ h => h) (Or.inr ⟨by kernel_rfl, rfl⟩) (by assumption) ?r20035
            try simp only [Act.put, List.getElem_toArray, List.getElem_cons_zero, List.getElem_cons_succ, List.setIfInBounds_toArray, List.set_cons_zero, List.set_cons_succ]
            refine wpAnyL_take (i := 10) (v := undef) rfl (by kernel_rfl) (by kernel_rfl) (by kernel_rfl) (by kernel_rfl) (fun _ _ _ h => h) (Or.inr ⟨by kernel_rfl, rfl⟩) (by assumption) ?r20036
            try simp only [Act.put, List.getElem_toArray, List.getElem_cons_zero, List.getElem_cons_succ, List.setIfInBounds_toArray, List.set_cons_zero, List.set_cons_succ]
            refine wpAnyL_take (i := 11) (v := undef) rfl (by kernel_rfl) (by kernel_rfl) (by kernel_rfl) (by kernel_rfl) (fun _ _ _ h => h) (Or.inr ⟨by kernel_rfl, rfl⟩) (by assumption) ?r20037
            try simp only [Act.put, List.getElem_toArray, List.getElem_cons_zero, List.getElem_cons_succ, List.setIfInBounds_toArray, List.set_cons_zero, List.set_cons_succ]
            refine wpAnyL_take (i := 12) (v := undef) rfl (by kernel_rfl) (by kernel_rfl) (by kernel_rfl) (by kernel_rfl) (fun _ _ _ h => h) (Or.inr ⟨by kernel_rfl, rfl⟩) (by assumption) ?r20038
            try simp only [Act.put, List.getElem_toArray, List.getElem_cons_zero, List.getElem_cons_succ, List.setIfInBounds_toArray, List.set_cons_zero, List.set_cons_succ]
            refine wpAnyL_take (i := 13) (v := undef) rfl (by kernel_rfl) (by kernel_rfl) (by kernel_rfl) (by kernel_rfl) (fun _ _ _ h => h) (Or.inr ⟨by kernel_rfl, rfl⟩) (by assumption) ?r20039
            try simp only [Act.put, List.getElem_toArray, List.getElem_cons_zero, List.getElem_cons_succ, List.setIfInBounds_toArray, List.set_cons_zero, List.set_cons_succ]
            refine wpAnyL_take (i := 14) (v := undef) rfl (by kernel_rfl) (by kernel_rfl) (by kernel_rfl) (by kernel_rfl) (fun _ _ _ h => h) (Or.inr ⟨by kernel_rfl, rfl⟩) (by assumption) ?r20040
            try simp only [Act.put, List.getElem_toArray, List.getElem_cons_zero, List.getElem_cons_succ, List.setIfInBounds_toArray, List.set_cons_zero, List.set_cons_succ]
            refine wpAnyL_take (i := 15) (v := undef) rfl (by kernel_rfl) (by kernel_rfl) (by kernel_rfl) (by kernel_rfl) (fun _ _ _ h => h) (Or.inr ⟨by kernel_rfl, rfl⟩) (by assumption) ?r20041
            try simp only [Act.put, List.getElem_toArray, List.getElem_cons_zero, List.getElem_cons_succ, List.setIfInBounds_toArray, List.set_cons_zero, List.set_cons_succ]
            refine wpAnyL_take (i := 16) (v := undef) rfl (by kernel_rfl) (by kernel_rfl) (by kernel_rfl) (by kernel_rfl) (fun _ _ _ h => h) (Or.inr ⟨by kernel_rfl, rfl⟩) (by assumption) ?r20042
            try simp only [Act.put, List.getElem_toArray, List.getElem_cons_zero, List.getElem_cons_succ, List.setIfInBounds_toArray, List.set_cons_zero, List.set_cons_succ]
            refine wpAnyL_take (i := 17) (v := undef) rfl (by kernel_rfl) (by kernel_rfl) (by kernel_rfl) (by kernel_rfl) (fun _ _ _ h => h) (Or.inr ⟨by kernel_rfl, rfl⟩) (by assumption) ?r20043
            try simp only [Act.put, List.getElem_toArray, List.getElem_cons_zero, List.getElem_cons_succ, List.setIfInBounds_toArray, List.set_cons_zero, List.set_cons_succ]
            refine wpAnyL_take (i := 18) (v := undef) rfl (by kernel_rfl) (by kernel_rfl) (by kernel_rfl) (by kernel_rfl) (fun _ _ _ h => h) (Or.inr ⟨by kernel_rfl, rfl⟩) (by assumption) ?r20044
            try simp only [Act.put, List.getElem_toArray, List.getElem_cons_zero, List.getElem_cons_succ, List.setIfInBounds_toArray, List.set_cons_zero, List.set_cons_succ]
            refine wpAnyL_take (i := 19) (v := undef) rfl (by kernel_rfl) (by kernel_rfl) (by kernel_rfl) (by kernel_rfl) (fun _ _ _ h => h) (Or.inr ⟨by kernel_rfl, rfl⟩) (by assumption) ?r20045
            try simp only [Act.put, List.getElem_toArray, List.getElem_cons_zero, List.getElem_cons_succ, List.setIfInBounds_toArray, List.set_cons_zero, List.set_cons_succ]
            refine wpAnyL_take (i := 20) (v := undef) rfl (by kernel_rfl) (by kernel_rfl) (by kernel_rfl) (by kernel_rfl) (fun _ _ _ h => h) (Or.inr ⟨by kernel_rfl, rfl⟩) (by assumption) ?r20046
            try simp only [Act.put, List.getElem_toArray, List.getElem_cons_zero, List.getElem_cons_succ, List.setIfInBounds_toArray, List.set_cons_zero, List.set_cons_succ]
            refine wpAnyL_take (i := 21) (v := undef) rfl (by kernel_rfl) (by kernel_rfl) (by kernel_rfl) (by kernel_rfl) (fun _ _ _ h => h) (Or.inr ⟨by kernel_rfl, rfl⟩) (by assumption) ?r20047
            try simp only [Act.put, List.getElem_toArray, List.getElem_cons_zero, List.getElem_cons_succ, List.setIfInBounds_toArray, List.set_cons_zero, List.set_cons_succ]
            refine wpAnyL_take (i := 22) (v := undef) rfl (by kernel_rfl) (by kernel_rfl) (by kernel_rfl) (by kernel_rfl) (fun _ _ _ h => h) (Or.inr ⟨by kernel_rfl, rfl⟩) (by assumption) ?r20048
            try simp only [Act.put, List.getElem_toArray, List.getElem_cons_zero, List.getElem_cons_succ, List.setIfInBounds_toArray, List.set_cons_zero, List.set_cons_succ]
            refine wpAnyL_take (i := 23) (v := undef) rfl (by kernel_rfl) (by kernel_rfl) (by kernel_rfl) (by kernel_rfl) (fun _ _ _ h => h) (Or.inr ⟨by kernel_rfl, rfl⟩) (by assumption) ?r20049
            try simp only [Act.put, List.getElem_toArray, List.getElem_cons_zero, List.getElem_cons_succ, List.setIfInBounds_toArray, List.set_cons_zero, List.set_cons_succ]
            refine wpAnyL_take (i := 24) (v := undef) rfl (by kernel_rfl) (by kernel_rfl) (by kernel_rfl) (by kernel_rfl) (fun _ _ _ h => h) (Or.inr ⟨by kernel_rfl, rfl⟩) (by assumption) ?r20050
            try simp only [Act.put, List.getElem_toArray, List.getElem_cons_zero, List.getElem_cons_succ, List.setIfInBounds_toArray, List.set_cons_zero, List.set_cons_succ]
            refine wpAnyL_last (by kernel_rfl) rfl (fun K hK => ?_)
            go_simp
            refine hK.out _ _ ?_
            clear hK K
            try simp only [Act.put, List.getElem_toArray, List.getElem_cons_zero, List.getElem_cons_succ, List.setIfInBounds_toArray, List.set_cons_zero, List.set_cons_succ]
            refine wpAnyL_done (by kernel_rfl) ?_ _
            refine NoPanic.normal ?_
            clear hH
            go_wp2
            go_roundw
            case rel => exact ⟨j + 1, by rw [← HT.out, IntWalk.i64_left], by rw [← HS.out, IntWalk.i64_left], by go_num, by omega, q + 1, rfl⟩
            case measure => simp [intOf]; omega
        · obtain rfl : j = B2.L.length := by omega
          have g3 : decide ((B2.L.length : Int) < (B2.L.length : Int)) = false := decide_eq_false (by omega)
          rw [List.take_length, HI2.out.hav, set_held HI2.out.inv]
          go_wp2_with fail
          go_loopw [10, 12] (fun s i wr => ∃ n : Nat, s = i64 (IntKind.i64.wrap (sumH B2.H - sumH (B2.H.take n))) ∧ i = i64 n ∧ n ≤ B2.H.length ∧ wr = w9.drewN q) (fun _ i _ => B2.H.length - (intOf i).toNat)
          case atStart => exact ⟨0, by show _ = i64 (IntKind.i64.wrap (sumH B2.H - 0)); rw [Int.sub_zero], rfl, Nat.zero_le _, rfl⟩
          case round =>
            obtain ⟨n, rfl, rfl, hn, rfl⟩ := hrel
            by_cases hnl : n < B2.H.length
            · have g5 : decide ((n : Int) < (B2.H.length : Int)) = true := decide_eq_true (by omega)
              have g6 : decide (n < B2.H.length) = true := decide_eq_true hnl
              have i2 : (0 : Int) ≤ (n : Int) := by omega
              have i3 : (n : Int) < (B2.H.length : Int) := by omega
              have s9' := s9.later (below_drewN (Below.refl w9.heap.size w9) q)
              obtain ⟨b9, o9, rfl, _, _, d0, d1, d2⟩ := s9'.held hnl
              have HS := Lib.hid (show IntKind.i64.wrap (IntKind.i64.wrap (sumH B2.H - sumH (B2.H.take n)) - B2.H[n].sum) = IntKind.i64.wrap (sumH B2.H - sumH (B2.H.take (n + 1))) by rw [wrap_sub, sumH_take hnl]; congr 1; omega)
              generalize IntKind.i64.wrap (sumH B2.H - sumH (B2.H.take n)) = s at *
              go_wp2
              go_roundw
              case rel => exact ⟨n + 1, by rw [← HS.out, IntWalk.i64_left], by go_num, by omega, trivial⟩
              case measure => simp [intOf]; omega
            · obtain rfl : n = B2.H.length := by omega
              have g5 : decide ((B2.H.length : Int) < (B2.H.length : Int)) = false := decide_eq_false (by omega)
              rw [List.take_length, Int.sub_self]
              have e0 : IntKind.i64.wrap 0 = 0 := rfl
              rw [e0]
              have hF := below_drewN (Below.refl w9.heap.size w9) q
              have hBq := hB9.later hF
              have hCq := hC9.later hF
              have g7 : decide ((B2.L.length : Int) > 12) = false := decide_eq_false (by omega)
              have g8 : decide (B2.cl < B.cl) = false := decide_eq_false (by omega)
              have HBq := Lib.hid (HCl.out _ hBq)
              have HCq := Lib.hid (HCl4.out _ hCq)
              have hbq := hb9.trans (hF.mono hb9.size)
              have hSq := sl_gr hS9 (Gr.of_below hF (fun _ => False)) hz9 (fun _ e => e.elim)
              have hzq := Nat.le_trans hz9 hF.size
              clear hF hB9 hC9 hb9 hS9 hz9 s8 s9 HCl HCl4
              generalize w9.drewN q = wq at *
              go_wp2_with fail
              refine HBq.out.mono ?_
              rintro e u1 ⟨rfl, rfl⟩
              go_wp2_with fail
              refine HCq.out.mono ?_
              rintro e u2 ⟨rfl, rfl⟩
              go_wp2
              go_roundw
              case rel => exact ⟨k + 1, by go_num, by omega, by rw [HF.out]; exact hBq, by rw [HF.out]; exact HI2.out, hSq, hbq, hzq⟩
              case measure => simp [intOf]; omega
    · obtain rfl : k = m.length := by omega
      have g1 : decide ((m.length : Int) < (m.length : Int)) = false := decide_eq_false (by omega)
      clear hB hI hS
      go_wp2
      go_ret
      exact ⟨rfl, hb⟩
end Go.Proofs.YtogipnfhcimeoaaGreat
