/- Texts of this claim, laid together: RfBytes, RfRdr. -/
import Derived.Test.YtdkkblhfjblpkaaGreatRows
import Derived.Test.YtdkkblhfjblpkaaGreatBi22
import Derived.Test.YtdkkblhfjblpkaaGreatBi11
import Derived.Test.YtdkkblhfjblpkaaGreatBi13
import Derived.WalkKit
import Derived.WalkSpells
import Derived.WalkLawsBesides
import Derived.Deep.QuietTactic
import Derived.BigQuiet
import Derived.Laws.StructEq
import Derived.Deep.DeepFit
import Derived.StillTailTactics
import Derived.Deep.Cut

/- ref06.Told, ref06.Bytes -/
namespace Go.Proofs.YtdkkblhfjblpkaaGreat
open Go.RowKit
/-- what a later call owns lies apart from an older row -/
theorem Own.sl_oth {w w' : World} {B base : Nat} {t u : TypeId} {v a : Value} {l la : List UInt8} (h : Own w' B t v l) (ha : Own w base u a la) (hB : w.heap.size ≤ B) : ∃ A c, v = .slice A l.length c ∧ SlS w' (Oth w' a) A c l := by
  obtain ⟨⟨h1, h2⟩, h3⟩ := h
  rcases h2 with ⟨rfl, h0⟩ | ⟨g, cap, cur, rfl, hg, hh, hn, hm, hz, ht⟩
  · have : l = [] := List.length_eq_zero_iff.1 h0
    subst this
    exact ⟨none, 0, rfl, SlS.nil_ _ _⟩
  · refine ⟨_, _, rfl, hn, hm, fun _ => ⟨g, 0, rfl, ⟨(Array.getElem?_eq_some_iff.1 hh).1, fun hv => ?_⟩, fun j u hu => ?_⟩, fun _ _ => trivial⟩
    · have := (ha.1.lt g hv.symm).2
      omega
    · rw [cell_of_row w' g (0 + j) cur t (0, 0) hh, Nat.zero_add]
      rw [← ht, List.getElem?_take] at hu
      split at hu
      · rw [← hu]; simp
      · cases hu
theorem headBs_le {x : Od} (f : Fine x) (r : InR x) : (headBs x).length ≤ 280 := by
  obtain ⟨a, b, c, d, _, _, _⟩ := r
  have hl := f.legs
  have n1 := numB_le a
  have n2 := numB_le b
  have n3 := numB_le c
  have n4 := numB_le d
  have n7 := numB_le (n := (x.legs.length : Int)) ⟨by omega, by omega⟩
  have m1 := textB_le f.acct
  have m2 := textB_le f.peer
  unfold headBs
  generalize textB x.acct = t1 at *
  generalize textB x.peer = t2 at *
  simp only [List.length_append]
  omega
set_option maxRecDepth 100000 in
set_option maxHeartbeats 8000000 in
theorem rbytes_c (x : Od) (w : World) (hx : Okb w w.heap.size x) (hl : x.legs.length ≤ 65536) (hin : InR x) :
    Calls Tryz.prog 64 #[x.v] w fun e w' => ∃ v, e = .returned (.tuple #[v, i64 (if rightB x then 0 else 1)]) ∧ Own w' w.heap.size 5 v (if rightB x then bytesB x else []) ∧ Below w.heap.size w w' := by
  have hb0 := (Below.refl w.heap.size w).alloc (Nat.le_refl _) (.cells #[i64 x.client, i64 x.seq, i64 x.kind, .string x.acct, .string x.peer, i64 x.sum, .slice x.la x.legs.length x.lc, i64 x.period, i64 x.hold, .string x.note] 50)
  have hg := heap_alloc_new w (.cells #[i64 x.client, i64 x.seq, i64 x.kind, .string x.acct, .string x.peer, i64 x.sum, .slice x.la x.legs.length x.lc, i64 x.period, i64 x.hold, .string x.note] 50)
  have hz : w.heap.size < (w.alloc (.cells #[i64 x.client, i64 x.seq, i64 x.kind, .string x.acct, .string x.peer, i64 x.sum, .slice x.la x.legs.length x.lc, i64 x.period, i64 x.hold, .string x.note] 50)).heap.size := by simp
  have hlg := hx.legs.later hb0
  have hRt := Lib.hid (rright_c x _ (Okb.later hx hb0) hl)
  clear hx
  have k0 := cell_of_row _ (w.heap.size) 0 _ _ (0, 0) hg
  have k1 := cell_of_row _ (w.heap.size) 1 _ _ (0, 0) hg
  have k2 := cell_of_row _ (w.heap.size) 2 _ _ (0, 0) hg
  have k3 := cell_of_row _ (w.heap.size) 3 _ _ (0, 0) hg
  have k4 := cell_of_row _ (w.heap.size) 4 _ _ (0, 0) hg
  have k5 := cell_of_row _ (w.heap.size) 5 _ _ (0, 0) hg
  have k6 := cell_of_row _ (w.heap.size) 6 _ _ (0, 0) hg
  have k7 := cell_of_row _ (w.heap.size) 7 _ _ (0, 0) hg
  have k8 := cell_of_row _ (w.heap.size) 8 _ _ (0, 0) hg
  have k9 := cell_of_row _ (w.heap.size) 9 _ _ (0, 0) hg
  simp only [List.getElem?_toArray, List.getElem?_cons_zero, List.getElem?_cons_succ] at k0 k1 k2 k3 k4 k5 k6 k7 k8 k9
  clear hg
  unfold Od.v at hRt ⊢
  go_enter Tryz.func64, Tryz.ntmps64
  go_wp2_with fail
  generalize w.alloc (.cells #[i64 x.client, i64 x.seq, i64 x.kind, .string x.acct, .string x.peer, i64 x.sum, .slice x.la x.legs.length x.lc, i64 x.period, i64 x.hold, .string x.note] 50) = w1 at *
  refine hRt.out.mono ?_
  rintro e u0 ⟨rfl, hbR⟩
  clear hRt
  by_cases hr : rightB x = true
  · rw [hr]
    have f := fine_of hr
    have hh := headBs_le f hin
    obtain ⟨r1, r2, r3, r4, r5, r6, r7⟩ := hin
    obtain ⟨f1, f2, f3, f4, f5⟩ := f
    have q1 := numB_le r1
    have q2 := numB_le r2
    have q3 := numB_le r3
    have q4 := numB_le r4
    have q5 := numB_le r5
    have q6 := numB_le r6
    have q7 := numB_le (n := (x.legs.length : Int)) ⟨by omega, by omega⟩
    have t1 := textB_le f1
    have t2 := textB_le f2
    have t3 := textB_le f3
    have x1 := fun W => rnum6_c x.client W r1.1 r1.2
    have x2 := fun W => rnum6_c x.seq W r2.1 r2.2
    have x3 := fun W => rnum6_c x.kind W r3.1 r3.2
    have x4 := fun W => rtext2_c x.acct W (by omega)
    have x5 := fun W => rtext2_c x.peer W (by omega)
    have x6 := fun W => rnum2_c x.sum W r4.1 r4.2
    have x7 := fun W => rnum6_c (x.legs.length : Int) W (by omega) (by omega)
    have x8 := fun W => rnum6_c x.period W r5.1 r5.2
    have x9 := fun W => rnum6_c x.hold W r6.1 r6.2
    have x10 := Lib.hid fun W => rtext2_c x.note W (by omega)
    have HH := Lib.hid (show headBs x = ((((((numB x.client ++ numB x.seq) ++ numB x.kind) ++ textB x.acct) ++ textB x.peer) ++ numB x.sum) ++ numB x.legs.length) from rfl)
    have HE := Lib.hid (show bytesB x = (((headBs x ++ x.legs.flatMap legBs) ++ numB x.period) ++ numB x.hold) ++ textB x.note from rfl)
    have XL := Lib.hid fun (k : Nat) (hk : k < x.legs.length) W => rtext2_c x.legs[k].acct W (Nat.le_trans (f5 _ (List.getElem_mem hk)) (by decide))
    have XS := Lib.hid fun (k : Nat) (hk : k < x.legs.length) W => rnum2_c x.legs[k].sum W (r7 _ (List.getElem_mem hk)).1 (r7 _ (List.getElem_mem hk)).2
    have TL := Lib.hid fun (k : Nat) (hk : k < x.legs.length) => textB_le (f5 _ (List.getElem_mem hk))
    have NL := Lib.hid fun (k : Nat) (hk : k < x.legs.length) => numB_le (r7 _ (List.getElem_mem hk))
    generalize textB x.acct = tA at *
    generalize textB x.peer = tP at *
    generalize textB x.note = tN at *
    generalize numB x.client = n1 at *
    generalize numB x.seq = n2 at *
    generalize numB x.kind = n3 at *
    generalize numB x.sum = n4 at *
    generalize numB x.period = n5 at *
    generalize numB x.hold = n6 at *
    generalize hnl : numB (x.legs.length : Int) = n7 at *
    generalize headBs x = hs at *
    clear r1 r2 r3 r4 r5 r6 r7 f1 f2 f3 f5 hnl
    have hSS : ∀ V, Below w1.heap.size w1 V → (fun V : World => Below w1.heap.size w1 V ∧ V.cell? ⟨w.heap.size, 0, none⟩ = some (i64 x.client) ∧ V.cell? ⟨w.heap.size, 1, none⟩ = some (i64 x.seq) ∧ V.cell? ⟨w.heap.size, 2, none⟩ = some (i64 x.kind) ∧ V.cell? ⟨w.heap.size, 3, none⟩ = some (.string x.acct) ∧ V.cell? ⟨w.heap.size, 4, none⟩ = some (.string x.peer) ∧ V.cell? ⟨w.heap.size, 5, none⟩ = some (i64 x.sum) ∧ V.cell? ⟨w.heap.size, 6, none⟩ = some (.slice x.la x.legs.length x.lc) ∧ V.cell? ⟨w.heap.size, 7, none⟩ = some (i64 x.period) ∧ V.cell? ⟨w.heap.size, 8, none⟩ = some (i64 x.hold) ∧ V.cell? ⟨w.heap.size, 9, none⟩ = some (.string x.note)) V := fun V h => ⟨h, (h.cell (p := ⟨w.heap.size, 0, none⟩) hz).trans k0, (h.cell (p := ⟨w.heap.size, 1, none⟩) hz).trans k1, (h.cell (p := ⟨w.heap.size, 2, none⟩) hz).trans k2, (h.cell (p := ⟨w.heap.size, 3, none⟩) hz).trans k3, (h.cell (p := ⟨w.heap.size, 4, none⟩) hz).trans k4, (h.cell (p := ⟨w.heap.size, 5, none⟩) hz).trans k5, (h.cell (p := ⟨w.heap.size, 6, none⟩) hz).trans k6, (h.cell (p := ⟨w.heap.size, 7, none⟩) hz).trans k7, (h.cell (p := ⟨w.heap.size, 8, none⟩) hz).trans k8, (h.cell (p := ⟨w.heap.size, 9, none⟩) hz).trans k9⟩
    have k6' := k6
    have k9' := k9
    clear k0 k1 k2 k3 k4 k5 k6 k7 k8 k9
    have h0 := hbR.drew
    clear hbR
    go_wp2_with fail
    go_region_held3 (fun V : World => Below w1.heap.size w1 V ∧ V.cell? ⟨w.heap.size, 0, none⟩ = some (i64 x.client) ∧ V.cell? ⟨w.heap.size, 1, none⟩ = some (i64 x.seq) ∧ V.cell? ⟨w.heap.size, 2, none⟩ = some (i64 x.kind) ∧ V.cell? ⟨w.heap.size, 3, none⟩ = some (.string x.acct) ∧ V.cell? ⟨w.heap.size, 4, none⟩ = some (.string x.peer) ∧ V.cell? ⟨w.heap.size, 5, none⟩ = some (i64 x.sum) ∧ V.cell? ⟨w.heap.size, 6, none⟩ = some (.slice x.la x.legs.length x.lc) ∧ V.cell? ⟨w.heap.size, 7, none⟩ = some (i64 x.period) ∧ V.cell? ⟨w.heap.size, 8, none⟩ = some (i64 x.hold) ∧ V.cell? ⟨w.heap.size, 9, none⟩ = some (.string x.note)) (first | exact hSS _ h0 | exact hSS _ (by assumption))
      (first
        | (go_at_call 118; with_reducible refine (x1 _).mono ?_; rintro e u1 ⟨v, rfl, hO, hF⟩; obtain ⟨A1, c1, hv, -⟩ := hO.sl; subst hv; have hOa := hO.mono h0.size; have hb1 := below_on h0 (Nat.le_refl _) hF; clear hO hF)
        | (go_at_call 118; with_reducible refine (x2 _).mono ?_; rintro e u2 ⟨v, rfl, hO, hF⟩; obtain ⟨A2, c2, hv, hsX⟩ := hO.sl_oth hOa (Nat.le_refl _); subst hv; replace hOa := hOa.later hF; have hb2 := below_on hb1 (Nat.le_refl _) hF; clear hO hF)
        | ((try rw [if_pos (by rfl)]); refine oper_append (.tmp 12) (.tmp 16) 25 rfl (.int .u8 0) 1 Tryz.underlying25 inf_byte rfl (by decide) (by decide) rfl hOa _ _ _ n2 rfl rfl hsX (by omega) hb2.size ?_; intro v2 u3 hO2 hg2 hat2; have hb3 := hb2.trans (hOa.below hg2 (Nat.le_refl _) hb2.size); obtain ⟨m3, hm⟩ : ∃ mm, mm = n1 ++ n2 := ⟨_, rfl⟩; have e3 : m3.length ≤ 20 := (by rw [hm, List.length_append]; omega); rw [← hm] at hO2; have H3 := Lib.hid hm; obtain ⟨A3, c3, hv, -⟩ := hO2.sl; subst hv; clear hOa hsX hat2 hg2 hm; have hOa := hO2; clear hO2)
        | (go_at_call 118; with_reducible refine (x3 _).mono ?_; rintro e u4 ⟨v, rfl, hO, hF⟩; obtain ⟨A4, c4, hv, hsX⟩ := hO.sl_oth hOa (Nat.le_refl _); subst hv; replace hOa := hOa.later hF; have hb4 := below_on hb3 (Nat.le_refl _) hF; clear hO hF)
        | ((try rw [if_pos (by rfl)]); refine oper_append (.tmp 17) (.tmp 20) 25 rfl (.int .u8 0) 1 Tryz.underlying25 inf_byte rfl (by decide) (by decide) rfl hOa _ _ _ n3 rfl rfl hsX (by omega) hb4.size ?_; intro v2 u5 hO2 hg2 hat2; have hb5 := hb4.trans (hOa.below hg2 (Nat.le_refl _) hb4.size); obtain ⟨m5, hm⟩ : ∃ mm, mm = m3 ++ n3 := ⟨_, rfl⟩; have e5 : m5.length ≤ 30 := (by rw [hm, List.length_append]; omega); rw [← hm] at hO2; have H5 := Lib.hid hm; obtain ⟨A5, c5, hv, -⟩ := hO2.sl; subst hv; clear hOa hsX hat2 hg2 hm; have hOa := hO2; clear hO2))
    clear x1 x2 x3 h0 hb1 hb2 hb3 hb4
    have h0 := hb5.drew
    replace hOa := hOa.later (Below.refl u5.heap.size u5).drew
    clear hb5
    go_wp2_with fail
    go_region_held3 (fun V : World => Below w1.heap.size w1 V ∧ V.cell? ⟨w.heap.size, 0, none⟩ = some (i64 x.client) ∧ V.cell? ⟨w.heap.size, 1, none⟩ = some (i64 x.seq) ∧ V.cell? ⟨w.heap.size, 2, none⟩ = some (i64 x.kind) ∧ V.cell? ⟨w.heap.size, 3, none⟩ = some (.string x.acct) ∧ V.cell? ⟨w.heap.size, 4, none⟩ = some (.string x.peer) ∧ V.cell? ⟨w.heap.size, 5, none⟩ = some (i64 x.sum) ∧ V.cell? ⟨w.heap.size, 6, none⟩ = some (.slice x.la x.legs.length x.lc) ∧ V.cell? ⟨w.heap.size, 7, none⟩ = some (i64 x.period) ∧ V.cell? ⟨w.heap.size, 8, none⟩ = some (i64 x.hold) ∧ V.cell? ⟨w.heap.size, 9, none⟩ = some (.string x.note)) (first | exact hSS _ h0 | exact hSS _ (by assumption))
      (first
        | (go_at_call 65; with_reducible refine (x4 _).mono ?_; rintro e u6 ⟨v, rfl, hO, hF⟩; obtain ⟨A6, c6, hv, hsX⟩ := hO.sl_oth hOa (Nat.le_refl _); subst hv; replace hOa := hOa.later hF; have hb6 := below_on h0 (Nat.le_refl _) hF; clear hO hF)
        | ((try rw [if_pos (by rfl)]); refine oper_append (.tmp 22) (.tmp 25) 25 rfl (.int .u8 0) 1 Tryz.underlying25 inf_byte rfl (by decide) (by decide) rfl hOa _ _ _ tA rfl rfl hsX (by omega) hb6.size ?_; intro v2 u7 hO2 hg2 hat2; have hb7 := hb6.trans (hOa.below hg2 (Nat.le_refl _) hb6.size); obtain ⟨m7, hm⟩ : ∃ mm, mm = m5 ++ tA := ⟨_, rfl⟩; have e7 : m7.length ≤ 140 := (by rw [hm, List.length_append]; omega); rw [← hm] at hO2; have H7 := Lib.hid hm; obtain ⟨A7, c7, hv, -⟩ := hO2.sl; subst hv; clear hOa hsX hat2 hg2 hm; have hOa := hO2; clear hO2)
        | (go_at_call 65; with_reducible refine (x5 _).mono ?_; rintro e u8 ⟨v, rfl, hO, hF⟩; obtain ⟨A8, c8, hv, hsX⟩ := hO.sl_oth hOa (Nat.le_refl _); subst hv; replace hOa := hOa.later hF; have hb8 := below_on hb7 (Nat.le_refl _) hF; clear hO hF)
        | ((try rw [if_pos (by rfl)]); refine oper_append (.tmp 26) (.tmp 29) 25 rfl (.int .u8 0) 1 Tryz.underlying25 inf_byte rfl (by decide) (by decide) rfl hOa _ _ _ tP rfl rfl hsX (by omega) hb8.size ?_; intro v2 u9 hO2 hg2 hat2; have hb9 := hb8.trans (hOa.below hg2 (Nat.le_refl _) hb8.size); obtain ⟨m9, hm⟩ : ∃ mm, mm = m7 ++ tP := ⟨_, rfl⟩; have e9 : m9.length ≤ 250 := (by rw [hm, List.length_append]; omega); rw [← hm] at hO2; have H9 := Lib.hid hm; obtain ⟨A9, c9, hv, -⟩ := hO2.sl; subst hv; clear hOa hsX hat2 hg2 hm; have hOa := hO2; clear hO2))
    clear x4 x5 h0 hb6 hb7 hb8
    have h0 := hb9.drew
    replace hOa := hOa.later (Below.refl u9.heap.size u9).drew
    clear hb9
    go_wp2_with fail
    go_region_held3 (fun V : World => Below w1.heap.size w1 V ∧ V.cell? ⟨w.heap.size, 0, none⟩ = some (i64 x.client) ∧ V.cell? ⟨w.heap.size, 1, none⟩ = some (i64 x.seq) ∧ V.cell? ⟨w.heap.size, 2, none⟩ = some (i64 x.kind) ∧ V.cell? ⟨w.heap.size, 3, none⟩ = some (.string x.acct) ∧ V.cell? ⟨w.heap.size, 4, none⟩ = some (.string x.peer) ∧ V.cell? ⟨w.heap.size, 5, none⟩ = some (i64 x.sum) ∧ V.cell? ⟨w.heap.size, 6, none⟩ = some (.slice x.la x.legs.length x.lc) ∧ V.cell? ⟨w.heap.size, 7, none⟩ = some (i64 x.period) ∧ V.cell? ⟨w.heap.size, 8, none⟩ = some (i64 x.hold) ∧ V.cell? ⟨w.heap.size, 9, none⟩ = some (.string x.note)) (first | exact hSS _ h0 | exact hSS _ (by assumption))
      (first
        | (go_at_call 63; with_reducible refine (x6 _).mono ?_; rintro e u10 ⟨v, rfl, hO, hF⟩; obtain ⟨A10, c10, hv, hsX⟩ := hO.sl_oth hOa (Nat.le_refl _); subst hv; replace hOa := hOa.later hF; have hb10 := below_on h0 (Nat.le_refl _) hF; clear hO hF)
        | ((try rw [if_pos (by rfl)]); refine oper_append (.tmp 31) (.tmp 34) 25 rfl (.int .u8 0) 1 Tryz.underlying25 inf_byte rfl (by decide) (by decide) rfl hOa _ _ _ n4 rfl rfl hsX (by omega) hb10.size ?_; intro v2 u11 hO2 hg2 hat2; have hb11 := hb10.trans (hOa.below hg2 (Nat.le_refl _) hb10.size); obtain ⟨m11, hm⟩ : ∃ mm, mm = m9 ++ n4 := ⟨_, rfl⟩; have e11 : m11.length ≤ 260 := (by rw [hm, List.length_append]; omega); rw [← hm] at hO2; have H11 := Lib.hid hm; obtain ⟨A11, c11, hv, -⟩ := hO2.sl; subst hv; clear hOa hsX hat2 hg2 hm; have hOa := hO2; clear hO2)
        | (go_at_call 118; with_reducible refine (x7 _).mono ?_; rintro e u12 ⟨v, rfl, hO, hF⟩; obtain ⟨A12, c12, hv, hsX⟩ := hO.sl_oth hOa (Nat.le_refl _); subst hv; replace hOa := hOa.later hF; have hb12 := below_on hb11 (Nat.le_refl _) hF; clear hO hF)
        | ((try rw [if_pos (by rfl)]); refine oper_append (.tmp 35) (.tmp 39) 25 rfl (.int .u8 0) 1 Tryz.underlying25 inf_byte rfl (by decide) (by decide) rfl hOa _ _ _ n7 rfl rfl hsX (by omega) hb12.size ?_; intro v2 u13 hO2 hg2 hat2; have hb13 := hb12.trans (hOa.below hg2 (Nat.le_refl _) hb12.size); obtain ⟨m13, hm⟩ : ∃ mm, mm = m11 ++ n7 := ⟨_, rfl⟩; have e13 : m13.length ≤ 270 := (by rw [hm, List.length_append]; omega); rw [← hm] at hO2; have H13 := Lib.hid hm; obtain ⟨A13, c13, hv, -⟩ := hO2.sl; subst hv; clear hOa hsX hat2 hg2 hm; have hOa := hO2; clear hO2))
    clear x6 x7 h0 hb10 hb11 hb12
    have Hm := Lib.hid (show m13 = hs by rw [H13.out, H11.out, H9.out, H7.out, H5.out, H3.out, HH.out])
    have hbL := hb13
    clear hb13 H3 H5 H7 H9 H11 H13 HH q1 q2 q3 q4 q7 t1 t2
    have e14 : m13.length ≤ 300 := by rw [Hm.out]; omega
    clear e3 e5 e7 e9 e11 e13
    go_wp2_with fail
    go_loopw [4, 5] (fun v i wr => ∃ (k : Nat) (A : Option Addr) (c : Nat) (m : List UInt8), i = i64 k ∧ v = .slice A m.length c ∧ k ≤ x.legs.length ∧ m.length ≤ 300 + 120 * k ∧ m = hs ++ (x.legs.take k).flatMap legBs ∧ Own wr w1.heap.size 5 (.slice A m.length c) m ∧ Below w1.heap.size w1 wr) (fun _ i _ => x.legs.length - (intOf i).toNat)
    case atStart => exact ⟨0, A13, c13, m13, rfl, rfl, by omega, by omega, by rw [Hm.out]; simp, hOa, hbL⟩
    case round =>
      clear hOa hbL Hm
      obtain ⟨k, A, c, m, rfl, rfl, hk, hmb, hm, hOa, hB⟩ := hrel
      have HM := Lib.hid hm
      clear hm
      by_cases hlt : k < x.legs.length
      · obtain ⟨b, ob, hA, hbb, hsz, c0, c1⟩ := hlg.leg hlt
        have y1 := XL.out k hlt
        have y2 := XS.out k hlt
        have b1 := TL.out k hlt
        have b2 := NL.out k hlt
        have i0 : (0 : Int) ≤ (k : Int) := by omega
        have i1 : (k : Int) < (x.legs.length : Int) := by omega
        have hstep := Lib.hid (show hs ++ (x.legs.take (k + 1)).flatMap legBs = ((hs ++ (x.legs.take k).flatMap legBs) ++ textB x.legs[k].acct) ++ numB x.legs[k].sum by rw [flat_step hlt]; unfold legBs; simp only [List.append_assoc])
        generalize textB x.legs[k].acct = tL at *
        generalize numB x.legs[k].sum = nL at *
        have k6 := k6'
        rw [hA] at k6
        clear hbb hsz hA XL XS TL NL
        have hS9 : ∀ V, Below w1.heap.size w1 V → (fun V : World => Below w1.heap.size w1 V ∧ V.cell? ⟨w.heap.size, 6, none⟩ = some (.slice (some ⟨b, ob, none⟩) x.legs.length x.lc) ∧ V.cell? ⟨b, ob + k * 2, none⟩ = some (.string x.legs[k].acct) ∧ V.cell? ⟨b, ob + k * 2 + 1, none⟩ = some (i64 x.legs[k].sum)) V := fun V h => ⟨h, (h.cell (p := ⟨w.heap.size, 6, none⟩) hz).trans k6, (h.cell (World.block_lt_of_cell? _ _ c0)).trans c0, (h.cell (World.block_lt_of_cell? _ _ c1)).trans c1⟩
        have h0 := hB.drew
        have k6 := (hB.cell (p := ⟨w.heap.size, 6, none⟩) hz).trans k6
        replace hOa := hOa.later (Below.refl wr.heap.size wr).drew
        clear hB c0 c1 hSS
        go_wp2_with fail
        go_region_held3 (fun V : World => Below w1.heap.size w1 V ∧ V.cell? ⟨w.heap.size, 6, none⟩ = some (.slice (some ⟨b, ob, none⟩) x.legs.length x.lc) ∧ V.cell? ⟨b, ob + k * 2, none⟩ = some (.string x.legs[k].acct) ∧ V.cell? ⟨b, ob + k * 2 + 1, none⟩ = some (i64 x.legs[k].sum)) (first | exact hS9 _ h0 | exact hS9 _ (by assumption))
          (first
            | (go_at_call 65; with_reducible refine (y1 _).mono ?_; rintro e u21 ⟨v, rfl, hO, hF⟩; obtain ⟨A21, c21, hv, hsX⟩ := hO.sl_oth hOa (Nat.le_refl _); subst hv; replace hOa := hOa.later hF; have hb21 := below_on h0 (Nat.le_refl _) hF; clear hO hF)
            | ((try rw [if_pos (by rfl)]); refine oper_append (.tmp 48) (.tmp 55) 25 rfl (.int .u8 0) 1 Tryz.underlying25 inf_byte rfl (by decide) (by decide) rfl hOa _ _ _ tL rfl rfl hsX (by omega) hb21.size ?_; intro v2 u22 hO2 hg2 hat2; have hb22 := hb21.trans (hOa.below hg2 (Nat.le_refl _) hb21.size); obtain ⟨m22, hm⟩ : ∃ mm, mm = m ++ tL := ⟨_, rfl⟩; have e22 : m22.length ≤ 300 + 120 * k + 110 := (by rw [hm, List.length_append]; omega); rw [← hm] at hO2; have H22 := Lib.hid hm; obtain ⟨A22, c22, hv, -⟩ := hO2.sl; subst hv; clear hOa hsX hat2 hg2 hm; have hOa := hO2; clear hO2)
            | (go_at_call 63; with_reducible refine (y2 _).mono ?_; rintro e u23 ⟨v, rfl, hO, hF⟩; obtain ⟨A23, c23, hv, hsX⟩ := hO.sl_oth hOa (Nat.le_refl _); subst hv; replace hOa := hOa.later hF; have hb23 := below_on hb22 (Nat.le_refl _) hF; clear hO hF)
            | ((try rw [if_pos (by rfl)]); refine oper_append (.tmp 56) (.tmp 63) 25 rfl (.int .u8 0) 1 Tryz.underlying25 inf_byte rfl (by decide) (by decide) rfl hOa _ _ _ nL rfl rfl hsX (by omega) hb23.size ?_; intro v2 u24 hO2 hg2 hat2; have hb24 := hb23.trans (hOa.below hg2 (Nat.le_refl _) hb23.size); obtain ⟨m24, hm⟩ : ∃ mm, mm = m22 ++ nL := ⟨_, rfl⟩; have e24 : m24.length ≤ 300 + 120 * (k + 1) := (by rw [hm, List.length_append]; omega); rw [← hm] at hO2; have H24 := Lib.hid hm; obtain ⟨A24, c24, hv, -⟩ := hO2.sl; subst hv; clear hOa hsX hat2 hg2 hm; have hOa := hO2; clear hO2))
        clear y1 y2 h0 hb21 hb22 hb23 hS9
        go_wp2
        go_roundw
        case rel => exact ⟨k + 1, A24, c24, m24, by go_num, rfl, by omega, e24, by rw [hstep.out, ← HM.out, ← H22.out, ← H24.out], hOa, hb24⟩
        case measure => simp [intOf]; omega
      · obtain rfl : k = x.legs.length := by omega
        rw [List.take_length] at HM
        have k6 := (hB.cell (p := ⟨w.heap.size, 6, none⟩) hz).trans k6'
        have h0 := hB.drew
        have hOa' := hOa
        replace hOa := hOa.later (Below.refl wr.heap.size wr).drew
        clear hB hOa' XL XS TL NL hlg
        have hmb2 : m.length ≤ 1500 := by omega
        clear hmb
        go_wp2_with fail
        go_region_held3 (fun V : World => Below w1.heap.size w1 V ∧ V.cell? ⟨w.heap.size, 0, none⟩ = some (i64 x.client) ∧ V.cell? ⟨w.heap.size, 1, none⟩ = some (i64 x.seq) ∧ V.cell? ⟨w.heap.size, 2, none⟩ = some (i64 x.kind) ∧ V.cell? ⟨w.heap.size, 3, none⟩ = some (.string x.acct) ∧ V.cell? ⟨w.heap.size, 4, none⟩ = some (.string x.peer) ∧ V.cell? ⟨w.heap.size, 5, none⟩ = some (i64 x.sum) ∧ V.cell? ⟨w.heap.size, 6, none⟩ = some (.slice x.la x.legs.length x.lc) ∧ V.cell? ⟨w.heap.size, 7, none⟩ = some (i64 x.period) ∧ V.cell? ⟨w.heap.size, 8, none⟩ = some (i64 x.hold) ∧ V.cell? ⟨w.heap.size, 9, none⟩ = some (.string x.note)) (first | exact hSS _ h0 | exact hSS _ (by assumption))
          (first
            | (go_at_call 118; with_reducible refine (x8 _).mono ?_; rintro e u31 ⟨v, rfl, hO, hF⟩; obtain ⟨A31, c31, hv, hsX⟩ := hO.sl_oth hOa (Nat.le_refl _); subst hv; replace hOa := hOa.later hF; have hb31 := below_on h0 (Nat.le_refl _) hF; clear hO hF)
            | ((try rw [if_pos (by rfl)]); refine oper_append (.tmp 65) (.tmp 68) 25 rfl (.int .u8 0) 1 Tryz.underlying25 inf_byte rfl (by decide) (by decide) rfl hOa _ _ _ n5 rfl rfl hsX (by omega) hb31.size ?_; intro v2 u32 hO2 hg2 hat2; have hb32 := hb31.trans (hOa.below hg2 (Nat.le_refl _) hb31.size); obtain ⟨m32, hm⟩ : ∃ mm, mm = m ++ n5 := ⟨_, rfl⟩; have e32 : m32.length ≤ 1510 := (by rw [hm, List.length_append]; omega); rw [← hm] at hO2; have H32 := Lib.hid hm; obtain ⟨A32, c32, hv, -⟩ := hO2.sl; subst hv; clear hOa hsX hat2 hg2 hm; have hOa := hO2; clear hO2)
            | (go_at_call 118; with_reducible refine (x9 _).mono ?_; rintro e u33 ⟨v, rfl, hO, hF⟩; obtain ⟨A33, c33, hv, hsX⟩ := hO.sl_oth hOa (Nat.le_refl _); subst hv; replace hOa := hOa.later hF; have hb33 := below_on hb32 (Nat.le_refl _) hF; clear hO hF)
            | ((try rw [if_pos (by rfl)]); refine oper_append (.tmp 69) (.tmp 72) 25 rfl (.int .u8 0) 1 Tryz.underlying25 inf_byte rfl (by decide) (by decide) rfl hOa _ _ _ n6 rfl rfl hsX (by omega) hb33.size ?_; intro v2 u34 hO2 hg2 hat2; have hb34 := hb33.trans (hOa.below hg2 (Nat.le_refl _) hb33.size); obtain ⟨m34, hm⟩ : ∃ mm, mm = m32 ++ n6 := ⟨_, rfl⟩; have e34 : m34.length ≤ 1520 := (by rw [hm, List.length_append]; omega); rw [← hm] at hO2; have H34 := Lib.hid hm; obtain ⟨A34, c34, hv, -⟩ := hO2.sl; subst hv; clear hOa hsX hat2 hg2 hm; have hOa := hO2; clear hO2))
        clear x8 x9 h0 hb31 hb32 hb33 hSS
        have hbE := hb34
        clear hb34
        have k9 := (hbE.cell (p := ⟨w.heap.size, 9, none⟩) hz).trans k9'
        go_wp2_with fail
        refine (x10.out _).mono ?_
        rintro e uN ⟨v, rfl, hO, hF⟩
        obtain ⟨AN, cN, hv, hsX⟩ := hO.sl_oth hOa (Nat.le_refl _)
        subst hv
        replace hOa := hOa.later hF
        have hbN := below_on hbE (Nat.le_refl _) hF
        have HO := Lib.hid hOa
        have HX := Lib.hid hsX
        clear hO hF hsX hOa hbE x10
        go_wp2_with (at_builtin; refine wpList_append_slice rfl (some 78) (.tmp 74) (.tmp 77) 25 rfl rfl (.int .u8 0) 1 Tryz.underlying25 inf_byte rfl (by decide) (by decide) rfl HO.out _ _ _ tN rfl rfl HX.out (by omega) hbN.size ?_; intro v3 w3 hO3 hg3 hat3)
        go_ret2
        exact ⟨_, rfl, by show Own _ w.heap.size 5 _ (bytesB x); rw [HE.out, ← HM.out, ← H32.out, ← H34.out]; exact hO3.mono hb0.size, below_on hb0 (Nat.le_refl _) (hbN.trans (HO.out.below hg3 (Nat.le_refl _) hbN.size))⟩
  · have hr' : rightB x = false := by simpa using hr
    rw [hr']
    clear hr'
    go_wp2
    go_ret2
    exact ⟨_, rfl, Own.nil_ _ _ _, below_on hb0 (Nat.le_refl _) hbR⟩
end Go.Proofs.YtdkkblhfjblpkaaGreat

/- the reference's reader: fail, Num, Range, Text -/
namespace Go.Proofs.YtdkkblhfjblpkaaGreat
open Go.RowKit
/-- block g holds a reader: its error, and what is left, which lies in block r -/
def RQ (w : World) (g r : Nat) (err : Int) (l : List UInt8) : Prop :=
  r ≠ g ∧ ∃ A c, w.heap[g]? = some (.cells #[.slice A l.length c, i64 err] 124 (0, 0)) ∧ SlS w (fun b => b = r) A c l
theorem RQ.lt {w : World} {g r : Nat} {err : Int} {l : List UInt8} (h : RQ w g r err l) : g < w.heap.size := by
  obtain ⟨_, _, _, hg, _⟩ := h
  exact (Array.getElem?_eq_some_iff.1 hg).1
theorem RQ.grown {w w' : World} {g r : Nat} {err : Int} {l : List UInt8} {row : Option Nat} (h : RQ w g r err l) (hk : w.grownBy w' row) (h1 : row ≠ some g) (h2 : row ≠ some r) (hr : r < w.heap.size) : RQ w' g r err l := by
  obtain ⟨hne, A, c, hg, hs⟩ := h
  refine ⟨hne, A, c, ?_, hs.keep (fun p hp => ?_) (fun _ h => h)⟩
  · rw [hk.block g (Array.getElem?_eq_some_iff.1 hg).1 (fun e => h1 e.symm), hg]
  · refine World.cell?_of_block (w := w) ?_
    rw [hp]
    exact hk.block r hr (fun e => h2 e.symm)
theorem RQ.later {w w' : World} {g r : Nat} {err : Int} {l : List UInt8} (h : RQ w g r err l) (hr : r < w.heap.size) (hb : Below w.heap.size w w') : RQ w' g r err l := h.grown (grown_of_below hb none) (by simp) (by simp) hr
set_option maxRecDepth 100000 in
set_option maxHeartbeats 400000 in
theorem qfail_c (g r : Nat) (err x : Int) (l : List UInt8) (w : World) (h : RQ w g r err l) :
    Calls Tryz.prog 129 #[.pointer (some ⟨g, 0, none⟩), i64 x] w fun e w' => e = .returned (i64 x) ∧ RQ w' g r x [] ∧ w.grownBy w' (some g) := by
  obtain ⟨hne, A, c, hg, hs⟩ := h
  have c0 := cell_of_row w g 0 _ _ (0, 0) hg
  have c1 := cell_of_row w g 1 _ _ (0, 0) hg
  have f0 := frozen_of_row w g 0 _ _ hg
  have f1 := frozen_of_row w g 1 _ _ hg
  have hS1 := heap_setCell_same w g 0 _ _ (.slice none 0 0) hg
  have hS2 := heap_setCell_same _ g 1 _ _ (i64 x) hS1
  have hG1 := grown_setCell (g := g) (World.grownBy.refl w (some g)) (p := ⟨g, 0, none⟩) (.inl rfl) (.slice none 0 0)
  have hG2 := grown_setCell (g := g) hG1 (p := ⟨g, 1, none⟩) (.inl rfl) (i64 x)
  have HS := Lib.hid hS2
  have HG := Lib.hid hG2
  clear hg hs hS1 hS2 hG1 hG2
  go_enter Tryz.func129, Tryz.ntmps129
  go_wp2
  go_ret
  refine ⟨rfl, ⟨hne, none, 0, ?_, SlS.nil_ _ _⟩, HG.out⟩
  rw [HS.out]
  rfl
/-- bytes that lie below lie in one block -/
theorem SlS.one_block {w : World} {n : Nat} {A : Option Addr} {c : Nat} {l : List UInt8} (h : Sl w n A c l) (hn : 0 < n) : ∃ r < n, SlS w (fun b => b = r) A c l := by
  obtain ⟨h1, h2, h3, h4⟩ := h
  by_cases hl : 0 < l.length
  · obtain ⟨b, o, hA, hb, hc⟩ := h3 hl
    exact ⟨b, hb, h1, h2, fun _ => ⟨b, o, hA, rfl, hc⟩, fun x hx => h4 x hx⟩
  · exact ⟨0, hn, h1, h2, fun h => absurd h hl, fun x hx => h4 x hx⟩
theorem RQ.of_cell {w : World} {g r : Nat} {err : Int} {l : List UInt8} (h : RQ w g r err l) : w.cell? ⟨g, 1, none⟩ = some (i64 err) := by
  obtain ⟨_, A, c, hg, _⟩ := h
  have := cell_of_row w g 1 _ _ (0, 0) hg
  simpa only [List.getElem?_toArray, List.getElem?_cons_zero, List.getElem?_cons_succ] using this
set_option maxRecDepth 100000 in
set_option maxHeartbeats 4000000 in
theorem qnum_c (g r : Nat) (err : Int) (l : List UInt8) (w : World) (h : RQ w g r err l) (hr : r < w.heap.size) (hn : l.length ≤ 65536) :
    Calls Tryz.prog 128 #[.pointer (some ⟨g, 0, none⟩)] w fun e w' => e = .returned (.tuple #[i64 (numRd err l).1.1, i64 (numRd err l).1.2]) ∧ RQ w' g r (numRd err l).2.1 (numRd err l).2.2 ∧ w.grownBy w' (some g) := by
  have H := Lib.hid h
  obtain ⟨hne, A, c, hg, hs⟩ := h
  have hglt := (Array.getElem?_eq_some_iff.1 hg).1
  have c0 := cell_of_row w g 0 _ _ (0, 0) hg
  have c1 := cell_of_row w g 1 _ _ (0, 0) hg
  simp only [List.getElem?_toArray, List.getElem?_cons_zero, List.getElem?_cons_succ] at c0 c1
  by_cases he : err = 0
  · subst he
    have HG := Lib.hid hg
    have hlc : l.length ≤ c := hs.1
    clear hg
    go_enter Tryz.func128, Tryz.ntmps128
    go_wp2_with fail
    go_loopw [4] (fun i wr => ∃ k : Nat, i = i64 k ∧ k ≤ l.length ∧ k ≤ 10 ∧ (∀ (j : Nat) (hj : j < l.length), j < k → 128 ≤ l[j].toNat) ∧ w = wr) (fun i _ => l.length - (intOf i).toNat)
    case atStart => exact ⟨0, rfl, by omega, by omega, fun j hj h => absurd h (by omega), rfl⟩
    case round =>
      obtain ⟨k, rfl, hk, hk10, hc, rfl⟩ := hrel
      have Hc := Lib.hid hc
      clear hc
      have i0 : (0 : Int) ≤ (k : Int) := by omega
      by_cases hlt : k < l.length
      · have t0 : decide ((k : Int) < (l.length : Int)) = true := decide_eq_true (by omega)
        have t9 : ((k : Int) == (l.length : Int)) = false := by rw [beq_eq_false_iff_ne]; omega
        by_cases k10 : k = 10
        · have t1 : decide ((k : Int) < (10 : Int)) = false := decide_eq_false (by omega)
          have t2 : ((k : Int) == 10) = true := by rw [beq_iff_eq]; omega
          have hL := Lib.hid (rf_over (l := l) (by omega) fun j hj hk => Hc.out j hj (by omega))
          clear Hc k10
          go_wp2_with fail
          refine (qfail_c g r 0 3 l _ H.out).mono ?_
          rintro e w3 ⟨rfl, hR, hG⟩
          go_wp2
          go_ret2
          rw [hL.out]
          exact ⟨rfl, hR, hG⟩
        · have t1 : decide ((k : Int) < (10 : Int)) = true := decide_eq_true (by omega)
          have t2 : ((k : Int) == 10) = false := by rw [beq_eq_false_iff_ne]; omega
          obtain ⟨b, o, rfl, hbr, -, hcc⟩ := hs.at_ hlt
          have hbr := hbr.symm
          subst hbr
          have d0 := hcc 0 _ rfl
          rw [show k * Enc.size UInt8 + 0 = k from Nat.mul_one k] at d0
          have i1 : (k : Int) < (l.length : Int) := by omega
          have hlb := l[k].toNat_lt
          clear hcc
          by_cases hb : 128 ≤ l[k].toNat
          · have t3 : decide ((128 : Int) ≤ ((l[k].toNat : Nat) : Int)) = true := decide_eq_true (by omega)
            have Hb := Lib.hid hb
            clear hb
            go_wp2
            go_roundw
            case rel => exact ⟨k + 1, by go_num, by omega, by omega, fun j hj hk => by
              rcases Nat.lt_succ_iff_lt_or_eq.1 hk with h1 | rfl
              · exact Hc.out j hj h1
              · exact Hb.out, trivial⟩
            case measure => simp [intOf]; omega
          · have t3 : decide ((128 : Int) ≤ ((l[k].toNat : Nat) : Int)) = false := decide_eq_false (by omega)
            have hLaw := Lib.hid (rf_num (l := l) hlt (by omega) (fun j hj => Hc.out j (by omega) hj) (by omega))
            clear Hc hb
            go_wp2_with fail
            go_loopw [5, 6] (fun m i wr => ∃ j : Nat, j ≤ k + 1 ∧ i = i64 ((j : Int) - 1) ∧ m = .int .u64 ((val7 ((l.take (k + 1)).drop j) % 18446744073709551616 : Nat) : Int) ∧ w = wr) (fun _ i _ => (intOf i + 1).toNat)
            case atStart => exact ⟨k + 1, Nat.le_refl _, by rw [show (((k + 1 : Nat) : Int) - 1) = (k : Int) by omega], by rw [List.drop_of_length_le (by simp; omega)]; rfl, rfl⟩
            case round =>
              obtain ⟨j, hj, rfl, rfl, rfl⟩ := hrel
              by_cases hj0 : 0 < j
              · obtain ⟨i, rfl⟩ : ∃ i, j = i + 1 := ⟨j - 1, by omega⟩
                have hil : i < l.length := by omega
                obtain ⟨b1, o1, hA1, -, -, hcc⟩ := hs.at_ hil
                injection hA1 with hA1
                injection hA1 with e1 e2
                subst e1 e2
                have d1 := hcc 0 _ rfl
                rw [show i * Enc.size UInt8 + 0 = i from Nat.mul_one i] at d1
                clear hcc
                rw [show (((i + 1 : Nat) : Int) - 1) = (i : Int) by omega]
                have hV : val7 ((l.take (k + 1)).drop i) % 18446744073709551616 = ((val7 ((l.take (k + 1)).drop (i + 1)) % 18446744073709551616) * 128 + l[i].toNat % 128) % 18446744073709551616 := by
                  have e : (l.take (k + 1)).drop i = l[i] :: (l.take (k + 1)).drop (i + 1) := by
                    rw [List.drop_eq_getElem_cons (by simp; omega)]
                    simp
                  rw [e, val7_app]
                  omega
                have HV := Lib.hid hV
                have hM := Nat.mod_lt (val7 ((l.take (k + 1)).drop (i + 1))) (show 18446744073709551616 > 0 by decide)
                generalize val7 ((l.take (k + 1)).drop (i + 1)) % 18446744073709551616 = M at *
                have s0 : (0 : Int) ≤ (i : Int) := by omega
                have s1 : (i : Int) < (l.length : Int) := by omega
                have hlb2 := l[i].toNat_lt
                have k0 : decide ((0 : Int) ≤ (i : Int)) = true := decide_eq_true s0
                have Hlaw := hLaw
                clear hV hLaw
                go_wp2
                go_roundw
                case rel => exact ⟨i, by omega, by go_num, by rw [HV.out, IntKind.wrap_u64, IntKind.wrap_u64]; congr 1; omega, trivial⟩
                case measure => simp [intOf]
              · obtain rfl : j = 0 := by omega
                rw [List.drop_zero]
                have hM := Nat.mod_lt (val7 (l.take (k + 1))) (show 18446744073709551616 > 0 by decide)
                generalize val7 (l.take (k + 1)) % 18446744073709551616 = M at *
                go_upto_if 77 with fail
                go_cut [7] from 10 (fun s7 wx => s7 = i64 (Lib.unzigzag M) ∧ w = wx)
                case first =>
                  by_cases hodd : M % 2 = 1
                  · have t5 : ((M : Int) % 2 == 1) = true := by rw [beq_iff_eq]; omega
                    have E := Lib.hid (show Lib.unzigzag M = -1 - (M : Int) / 2 by unfold Lib.unzigzag; rw [if_neg (by omega)]; omega)
                    rw [t5]
                    clear t5 hodd
                    go_wp2
                    go_meet
                    exact ⟨by rw [E.out], rfl⟩
                  · have t5 : ((M : Int) % 2 == 1) = false := by rw [beq_eq_false_iff_ne]; omega
                    have E := Lib.hid (show Lib.unzigzag M = (M : Int) / 2 by unfold Lib.unzigzag; rw [if_pos (by omega)]; omega)
                    rw [t5]
                    clear t5 hodd
                    go_wp2
                    go_meet
                    exact ⟨by rw [E.out], rfl⟩
                case rest =>
                obtain ⟨rfl, rfl⟩ := hcut
                have hv := unzig_in hM
                generalize Lib.unzigzag M = v at *
                have hC := Lib.hid (rnum2_c v w hv.1 hv.2)
                have hL10 := uvarint_le (Lib.zigzag_lt hv.1 hv.2)
                have hL10 : (numB v).length ≤ 10 := hL10
                generalize numB v = L2 at *
                clear hv hM
                go_wp2_with fail
                refine hC.out.mono ?_
                rintro e w1 ⟨va, rfl, hO, hB⟩
                obtain ⟨A2, c2, rfl, hs2⟩ := hO.sl
                clear hO hC
                by_cases hlen : L2.length = k + 1
                · have t6 : ((L2.length : Int) != (k : Int) + 1) = false := by rw [bne_eq_false_iff_eq]; omega
                  have hlc2 : L2.length ≤ c2 := hs2.1
                  go_wp2_with fail
                  go_loopw [9] (fun i wr => ∃ j : Nat, i = i64 j ∧ j ≤ k + 1 ∧ (∀ q, q < j → L2[q]? = l[q]?) ∧ Below w1.heap.size w1 wr) (fun i _ => k + 1 - (intOf i).toNat)
                  case atStart => exact ⟨0, rfl, by omega, fun q hq => absurd hq (by omega), Below.refl _ _⟩
                  case round =>
                    obtain ⟨j, rfl, hj, hq, hb⟩ := hrel
                    have Hq := Lib.hid hq
                    have hbw := below_on hB (Nat.le_refl _) hb
                    clear hq
                    by_cases hjk : j ≤ k
                    · have hjl : j < l.length := by omega
                      have hjl2 : j < L2.length := by omega
                      obtain ⟨b1, o1, hA1, -, -, hcc⟩ := hs.at_ hjl
                      injection hA1 with hA1
                      injection hA1 with e1 e2
                      subst e1 e2
                      have d1 := hcc 0 _ rfl
                      rw [show j * Enc.size UInt8 + 0 = j from Nat.mul_one j] at d1
                      obtain ⟨b2, o2, rfl, hb2l, -, hc2⟩ := hs2.at_ hjl2
                      have d2 := hc2 0 _ rfl
                      rw [show j * Enc.size UInt8 + 0 = j from Nat.mul_one j] at d2
                      have d1 := (hbw.cell (World.block_lt_of_cell? _ _ d1)).trans d1
                      have d2 := (hb.cell (World.block_lt_of_cell? _ _ d2)).trans d2
                      have c0 := (hbw.cell (World.block_lt_of_cell? _ _ c0)).trans c0
                      clear hcc hc2
                      have s0 : (0 : Int) ≤ (j : Int) := by omega
                      have s1 : (j : Int) < (l.length : Int) := by omega
                      have s2 : (j : Int) < (L2.length : Int) := by omega
                      have k0 : decide ((j : Int) ≤ (k : Int)) = true := decide_eq_true (by omega)
                      by_cases heq : L2[j] = l[j]
                      · have t7 : ((L2[j].toNat : Int) != (l[j].toNat : Int)) = false := by rw [heq]; simp
                        have Heq := Lib.hid heq
                        clear heq
                        go_wp2_with fail
                        go_quiet (fail)
                        go_wp2
                        go_roundw
                        case rel => exact ⟨j + 1, by go_num, by omega, fun q hq => by
                          rcases Nat.lt_succ_iff_lt_or_eq.1 hq with h1 | rfl
                          · exact Hq.out q h1
                          · rw [List.getElem?_eq_getElem hjl2, List.getElem?_eq_getElem hjl, Heq.out], below_drewN hb _⟩
                        case measure => simp [intOf]; omega
                      · have t7 : ((L2[j].toNat : Int) != (l[j].toNat : Int)) = true := by
                          rw [bne_iff_ne]
                          intro h
                          exact heq (UInt8.toNat_inj.1 (by omega))
                        have hZ := Lib.hid (show numRd 0 l = ((0, 3), (3, [])) by
                          rw [hLaw.out, if_neg]
                          intro h
                          apply heq
                          have h2 : L2[j]? = (l.take (k + 1))[j]? := by rw [h]
                          rw [List.getElem?_take_of_lt (by omega), List.getElem?_eq_getElem hjl2, List.getElem?_eq_getElem hjl] at h2
                          exact Option.some.inj h2)
                        have hRR := Lib.hid (fun W (h : Below w.heap.size w W) => qfail_c g _ 0 3 l W (H.out.later hr h))
                        clear heq hLaw
                        go_wp2_with fail
                        go_quiet (fail)
                        go_wp2_with fail
                        refine (hRR.out _ (below_drewN hbw _)).mono ?_
                        rintro e w3 ⟨rfl, hR, hG⟩
                        go_wp2
                        go_ret2
                        rw [hZ.out]
                        exact ⟨rfl, hR, grown_trans (grown_of_below (below_drewN hbw _) _) hG⟩
                    · obtain rfl : j = k + 1 := by omega
                      have hZ := Lib.hid (show numRd 0 l = ((v, 0), (0, l.drop (k + 1))) by
                        rw [hLaw.out, if_pos]
                        refine List.ext_getElem? fun q => ?_
                        rcases Nat.lt_or_ge q (k + 1) with h1 | h1
                        · rw [Hq.out q h1, List.getElem?_take_of_lt h1]
                        · rw [List.getElem?_eq_none (by omega), List.getElem?_eq_none (by simp; omega)])
                      have hgr := (hbw.block g hglt).trans HG.out
                      have c0 := (hbw.cell (p := ⟨g, 0, none⟩) hglt).trans c0
                      have f0 := frozen_of_row wr g 0 _ _ hgr
                      have Hgr := Lib.hid hgr
                      have s0 : (0 : Int) ≤ (k : Int) + 1 := by omega
                      have s1 : (k : Int) + 1 ≤ (l.length : Int) := by omega
                      have k0 : decide ((k : Int) + 1 ≤ (k : Int)) = false := decide_eq_false (by omega)
                      clear hgr Hq hLaw hjk
                      by_cases hcc : c = k + 1
                      · obtain rfl := hcc
                        have hset := Lib.hid (heap_setCell_same wr g 0 _ _ (.slice (some ⟨r, o, none⟩) 0 0) Hgr.out)
                        have hdr := Lib.hid (hs.drop (k := k + 1) (by omega))
                        have hG1 := grown_setCell (g := g) (World.grownBy.refl wr (some g)) (p := ⟨g, 0, none⟩) (.inl rfl) (.slice (some ⟨r, o, none⟩) 0 0)
                        go_wp2
                        go_ret2
                        rw [hZ.out]
                        have hnd : (l.drop (k + 1)).length = 0 := by rw [List.length_drop]; omega
                        refine ⟨rfl, ⟨hne, _, _, by rw [hset.out]; simp only [List.setIfInBounds_toArray, List.set_cons_zero, hnd]; rfl, ?_⟩, grown_trans (grown_of_below hbw _) hG1⟩
                        have := hdr.out
                        simp only [if_true, Nat.sub_self] at this
                        exact this.keep (fun p hp => World.cell?_of_block (w := w) (by rw [hp]; exact (hG1.block r (Nat.lt_of_lt_of_le hr hbw.size) (fun e => hne (by injection e))).trans (hbw.block r hr))) (fun _ h => h)
                      · have hset := Lib.hid (heap_setCell_same wr g 0 _ _ (.slice (some ⟨r, o + (k + 1), none⟩) (l.length - (k + 1)) (c - (k + 1))) Hgr.out)
                        have hdr := Lib.hid (hs.drop (k := k + 1) (by omega))
                        have hG1 := grown_setCell (g := g) (World.grownBy.refl wr (some g)) (p := ⟨g, 0, none⟩) (.inl rfl) (.slice (some ⟨r, o + (k + 1), none⟩) (l.length - (k + 1)) (c - (k + 1)))
                        go_wp2
                        go_ret2
                        rw [hZ.out]
                        have hnd : (l.drop (k + 1)).length = l.length - (k + 1) := by rw [List.length_drop]
                        refine ⟨rfl, ⟨hne, _, _, by rw [hset.out]; simp only [List.setIfInBounds_toArray, List.set_cons_zero, hnd]; rfl, ?_⟩, grown_trans (grown_of_below hbw _) hG1⟩
                        have := hdr.out
                        rw [if_neg hcc, Option.map_some, show (⟨r, o, none⟩ : Addr).add ((k + 1) * Enc.size UInt8) = ⟨r, o + (k + 1), none⟩ from by rw [show Enc.size UInt8 = 1 from rfl, Nat.mul_one]; unfold Addr.add; rw [if_neg (by omega)]] at this
                        exact this.keep (fun p hp => World.cell?_of_block (w := w) (by rw [hp]; exact (hG1.block r (Nat.lt_of_lt_of_le hr hbw.size) (fun e => hne (by injection e))).trans (hbw.block r hr))) (fun _ h => h)
                · have t6 : ((L2.length : Int) != (k : Int) + 1) = true := by rw [bne_iff_ne]; omega
                  have hZ := Lib.hid (show numRd 0 l = ((0, 3), (3, [])) by
                    rw [hLaw.out, if_neg]
                    intro h
                    apply hlen
                    rw [h, List.length_take]
                    omega)
                  have hRR := Lib.hid (fun W (h : Below w.heap.size w W) => qfail_c g _ 0 3 l W (H.out.later hr h))
                  clear hLaw
                  go_wp2_with fail
                  refine (hRR.out _ hB).mono ?_
                  rintro e w3 ⟨rfl, hR, hG⟩
                  go_wp2
                  go_ret2
                  rw [hZ.out]
                  exact ⟨rfl, hR, grown_trans (grown_of_below hB _) hG⟩
      · obtain rfl : k = l.length := by omega
        have t0 : decide ((l.length : Int) < (l.length : Int)) = false := decide_eq_false (by omega)
        have t9 : ((l.length : Int) == (l.length : Int)) = true := by rw [beq_iff_eq]
        have hL := Lib.hid (rf_torn (l := l) hk10 fun b hb => by
          obtain ⟨j, hj, rfl⟩ := List.getElem_of_mem hb
          exact Hc.out j hj hj)
        clear Hc hlt
        go_wp2_with fail
        refine (qfail_c g r 0 4 l _ H.out).mono ?_
        rintro e w3 ⟨rfl, hR, hG⟩
        go_wp2
        go_ret2
        rw [hL.out]
        exact ⟨rfl, hR, hG⟩
  · have g1 : (err != 0) = true := by simpa using he
    have hZ := Lib.hid (numRd_err he l)
    clear he
    go_enter Tryz.func128, Tryz.ntmps128
    go_wp2_with fail
    go_quiet (fail)
    go_wp2
    go_ret2
    rw [hZ.out]
    exact ⟨rfl, H.out.later hr (below_drewN (Below.refl _ _) _), grown_of_below (below_drewN (Below.refl _ _) _) _⟩
set_option maxRecDepth 100000 in
set_option maxHeartbeats 2000000 in
theorem qrange_c (g r : Nat) (lo hi err : Int) (l : List UInt8) (w : World) (h : RQ w g r err l) (hr : r < w.heap.size) (hn : l.length ≤ 65536) :
    Calls Tryz.prog 76 #[.pointer (some ⟨g, 0, none⟩), i64 lo, i64 hi] w fun e w' => e = .returned (.tuple #[i64 (rangeRd lo hi err l).1.1, i64 (rangeRd lo hi err l).1.2]) ∧ RQ w' g r (rangeRd lo hi err l).2.1 (rangeRd lo hi err l).2.2 ∧ w.grownBy w' (some g) := by
  have hN := Lib.hid (qnum_c g r err l w h hr hn)
  have HR : Hid (∀ q, q = numRd err l → rangeRd lo hi err l = if q.1.2 ≠ 0 then ((0, q.1.2), q.2) else if q.1.1 < lo ∨ hi < q.1.1 then ((0, 3), (3, [])) else ((q.1.1, 0), q.2)) := Lib.hid fun q hq => by subst hq; rfl
  have hN2 := HR.out _ rfl
  have HN2 := Lib.hid hN2
  clear HR hN2
  generalize rangeRd lo hi err l = Z at HN2 ⊢
  generalize numRd err l = q at hN HN2
  obtain ⟨⟨n, e⟩, x, t⟩ := q
  go_enter Tryz.func76, Tryz.ntmps76
  go_wp2_with fail
  refine hN.out.mono ?_
  rintro e1 w1 ⟨rfl, hR, hG⟩
  have HR := Lib.hid hR
  have HG := Lib.hid hG
  clear hR hG
  by_cases he : e = 0
  · subst he
    by_cases h1 : n < lo
    · have hZ := Lib.hid (show Z = ((0, 3), (3, [])) by rw [HN2.out, if_neg (by simp), if_pos (.inl h1)])
      have g1 : decide (n < lo) = true := decide_eq_true h1
      clear h1 HN2 hN
      go_wp2_with fail
      refine (qfail_c g r x 3 t _ HR.out).mono ?_
      rintro e w3 ⟨rfl, hR, hG⟩
      go_wp2
      go_ret2
      rw [hZ.out]
      exact ⟨rfl, hR, grown_trans HG.out hG⟩
    · by_cases h2 : hi < n
      · have hZ := Lib.hid (show Z = ((0, 3), (3, [])) by rw [HN2.out, if_neg (by simp), if_pos (.inr h2)])
        have g1 : decide (n < lo) = false := decide_eq_false h1
        have g2 : decide (hi < n) = true := decide_eq_true h2
        clear h1 h2 HN2 hN
        go_wp2_with fail
        refine (qfail_c g r x 3 t _ HR.out).mono ?_
        rintro e w3 ⟨rfl, hR, hG⟩
        go_wp2
        go_ret2
        rw [hZ.out]
        exact ⟨rfl, hR, grown_trans HG.out hG⟩
      · have hZ := Lib.hid (show Z = ((n, 0), (x, t)) by rw [HN2.out, if_neg (by simp), if_neg (by omega)])
        have g1 : decide (n < lo) = false := decide_eq_false h1
        have g2 : decide (hi < n) = false := decide_eq_false h2
        clear h1 h2 HN2 hN
        go_wp2
        go_ret2
        rw [hZ.out]
        exact ⟨rfl, HR.out, HG.out⟩
  · have hZ := Lib.hid (show Z = ((0, e), (x, t)) by rw [HN2.out, if_pos he])
    have g1 : (e != 0) = true := by simpa using he
    clear he HN2 hN
    go_wp2
    go_ret2
    rw [hZ.out]
    exact ⟨rfl, HR.out, HG.out⟩
set_option maxRecDepth 100000 in
set_option maxHeartbeats 4000000 in
theorem qtext_c (g r : Nat) (most err : Int) (l : List UInt8) (w : World) (h : RQ w g r err l) (hr : r < w.heap.size) (hn : l.length ≤ 65536) :
    Calls Tryz.prog 77 #[.pointer (some ⟨g, 0, none⟩), i64 most] w fun e w' => e = .returned (.tuple #[.string (textRd most err l).1.1, i64 (textRd most err l).1.2]) ∧ RQ w' g r (textRd most err l).2.1 (textRd most err l).2.2 ∧ w.grownBy w' (some g) := by
  have hN := Lib.hid (qrange_c g r 0 most err l w h hr hn)
  have hl := rangeRd_left 0 most err l
  have hi := rangeRd_in (lo := 0) (hi := most) (err := err) (l := l)
  have HN2 := Lib.hid (show textRd most err l = _ from rfl)
  unfold textRd at HN2
  have HN2 := Lib.hid (show ∀ q, q = rangeRd 0 most err l → textRd most err l = if q.1.2 ≠ 0 then ((⟨#[]⟩, q.1.2), q.2) else if (q.2.2.length : Int) < q.1.1 then ((⟨#[]⟩, 4), (4, [])) else ((⟨(q.2.2.take q.1.1.toNat).toArray⟩, 0), (0, q.2.2.drop q.1.1.toNat)) from fun q hq => by subst hq; rfl)
  have HN2 := Lib.hid (HN2.out _ rfl)
  generalize textRd most err l = Z at HN2 ⊢
  generalize rangeRd 0 most err l = q at hN HN2 hl hi
  obtain ⟨⟨n, e⟩, x, t⟩ := q
  obtain ⟨hl1, hl2⟩ := hl
  simp only at hl1 hl2 hi
  subst hl2
  go_enter Tryz.func77, Tryz.ntmps77
  go_wp2_with fail
  refine hN.out.mono ?_
  rintro e1 w1 ⟨rfl, hR, hG⟩
  have HR := Lib.hid hR
  have HG := Lib.hid hG
  clear hN
  have hr1 := Nat.lt_of_lt_of_le hr hG.size
  clear hG
  by_cases he : x = 0
  · subst he
    obtain ⟨hn0, hn1⟩ := hi rfl
    obtain ⟨m, rfl⟩ := Int.eq_ofNat_of_zero_le hn0
    clear hi hn0
    obtain ⟨hne, A, c, hg, hs⟩ := hR
    have c0 := cell_of_row w1 g 0 _ _ (0, 0) hg
    simp only [List.getElem?_toArray, List.getElem?_cons_zero] at c0
    have f0 := frozen_of_row w1 g 0 _ _ hg
    have hlc : t.length ≤ c := hs.1
    have Hg := Lib.hid hg
    have Hs := Lib.hid hs
    clear hg hs
    by_cases hm : t.length < m
    · have hZ := Lib.hid (show Z = ((⟨#[]⟩, 4), (4, [])) by rw [HN2.out, if_neg (by simp), if_pos (by omega)])
      have g1 : decide ((t.length : Int) < (m : Int)) = true := decide_eq_true (by omega)
      clear HN2
      go_wp2_with fail
      refine (qfail_c g r 0 4 t _ HR.out).mono ?_
      rintro e w3 ⟨rfl, hR, hG⟩
      go_wp2
      go_ret2
      rw [hZ.out]
      exact ⟨rfl, hR, grown_trans HG.out hG⟩
    · have hZ := Lib.hid (show Z = ((⟨(t.take m).toArray⟩, 0), (0, t.drop m)) by rw [HN2.out, if_neg (by simp), if_neg (by omega)]; rfl)
      have g1 : decide ((t.length : Int) < (m : Int)) = false := decide_eq_false (by omega)
      have hcv := conv_bytes (Hs.out.take m)
      rw [List.length_take, Nat.min_eq_left (by omega)] at hcv
      have j0 : (0 : Int) ≤ (m : Int) := by omega
      have j1 : (m : Int) ≤ (t.length : Int) := by omega
      have j2 : (t.length : Int) ≤ (c : Int) := by omega
      have j3 : (m : Int) ≤ (c : Int) := by omega
      have hdr := Lib.hid (Hs.out.drop (k := m) (by omega))
      have Hcv := Lib.hid hcv
      clear HN2
      by_cases hcm : c = m
      · obtain rfl := hcm
        have hset := Lib.hid (heap_setCell_same w1 g 0 _ _ (.slice A 0 0) Hg.out)
        have hG1 := grown_setCell (g := g) (World.grownBy.refl w1 (some g)) (p := ⟨g, 0, none⟩) (.inl rfl) (.slice A 0 0)
        have hnd : (t.drop c).length = 0 := by rw [List.length_drop]; omega
        go_wp2
        go_ret2
        rw [hZ.out]
        refine ⟨rfl, ⟨hne, _, _, by rw [hset.out]; simp only [List.setIfInBounds_toArray, List.set_cons_zero, hnd]; rfl, ?_⟩, grown_trans HG.out hG1⟩
        have := hdr.out
        simp only [if_true, Nat.sub_self] at this
        exact this.keep (fun p hp => World.cell?_of_block (w := w1) (by rw [hp]; exact hG1.block r hr1 (fun e => hne (by injection e)))) (fun _ h => h)
      · have hset := Lib.hid (heap_setCell_same w1 g 0 _ _ (.slice (Option.map (fun x : Addr => x.add m) A) (t.length - m) (c - m)) Hg.out)
        have hG1 := grown_setCell (g := g) (World.grownBy.refl w1 (some g)) (p := ⟨g, 0, none⟩) (.inl rfl) (.slice (Option.map (fun x : Addr => x.add m) A) (t.length - m) (c - m))
        have hnd : (t.drop m).length = t.length - m := List.length_drop ..
        go_wp2
        go_ret2
        rw [hZ.out]
        refine ⟨rfl, ⟨hne, _, _, by rw [hset.out]; simp only [List.setIfInBounds_toArray, List.set_cons_zero, hnd]; rfl, ?_⟩, grown_trans HG.out hG1⟩
        have := hdr.out
        rw [if_neg hcm, show Enc.size UInt8 = 1 from rfl, Nat.mul_one] at this
        exact this.keep (fun p hp => World.cell?_of_block (w := w1) (by rw [hp]; exact hG1.block r hr1 (fun e => hne (by injection e)))) (fun _ h => h)
  · have hZ := Lib.hid (show Z = ((⟨#[]⟩, x), (x, t)) by rw [HN2.out, if_pos he])
    have g1 : (x != 0) = true := by simpa using he
    clear he HN2 hi hR
    go_wp2
    go_ret2
    rw [hZ.out]
    exact ⟨rfl, HR.out, HG.out⟩
end Go.Proofs.YtdkkblhfjblpkaaGreat
