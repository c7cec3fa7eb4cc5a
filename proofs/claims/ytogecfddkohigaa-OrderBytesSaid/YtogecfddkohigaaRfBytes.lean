/- ref06.Told, ref06.Bytes -/
import Derived.Test.YtogecfddkohigaaRows
import Derived.Test.YtogecfddkohigaaRfText
import Derived.Test.YtogecfddkohigaaRfRightB
import Derived.Test.YtogecfddkohigaaBytesO
import Derived.Test.YtogecfddkohigaaAppendG
import Derived.Test.YtogecfddkohigaaTRead
import Derived.WalkKit
import Derived.WalkSpells
import Derived.WalkLawsBesides
import Derived.Deep.QuietTactic
import Derived.BigQuiet
import Derived.Laws.StructEq
import Derived.Deep.DeepFit
import Derived.StillTailTactics
namespace Go.Proofs.Ytogecfddkohigaa
open Go.RowKit
/-- what a later call owns lies apart from an older row -/
theorem Own.sl_oth {w w' : World} {B base : Nat} {t u : TypeId} {v a : Value} {l la : List UInt8} (h : Own w' B t v l) (ha : Own w base u a la) (hB : w.heap.size ≤ B) : ∃ A c, v = .slice A l.length c ∧ SlS w' (Oth w' a) A c l := by
  obtain ⟨⟨h1, h2⟩, h3⟩ := h
  rcases h2 with ⟨rfl, h0⟩ | ⟨g, cap, cur, rfl, hg, hh, hn, hm, hz, ht⟩
  · have : l = [] := List.length_eq_zero_iff.1 h0
    subst this
    exact ⟨none, 0, rfl, SlS.nil_ _ _⟩
  · refine ⟨_, _, rfl, hn, hm, fun _ => ⟨g, 0, rfl, ⟨(Array.getElem?_eq_some_iff.1 hh).1, fun hv => ?_⟩, fun j u hu => ?_⟩, fun _ _ => trivial⟩
    · have := (ha.1.lt g hv.symm).2
      omega
    · rw [cell_of_row w' g (0 + j) cur t (0, 0) hh, Nat.zero_add]
      rw [← ht, List.getElem?_take] at hu
      split at hu
      · rw [← hu]; simp
      · cases hu
set_option maxRecDepth 100000 in
set_option maxHeartbeats 4000000 in
theorem rtold_c (x : Rp) (w : World) (hx : InP x) :
    Calls Try.prog 44 #[x.v] w fun e w' => ∃ v, e = .returned v ∧ Own w' w.heap.size 5 v (toldB x) ∧ Below w.heap.size w w' := by
  obtain ⟨r1, r2, r3, r4⟩ := hx
  have hb0 := (Below.refl w.heap.size w).alloc (Nat.le_refl _) (.cells #[i64 x.err, i64 x.hav, i64 x.set_, i64 x.num] 49)
  have hg := heap_alloc_new w (.cells #[i64 x.err, i64 x.hav, i64 x.set_, i64 x.num] 49)
  have hz : w.heap.size < (w.alloc (.cells #[i64 x.err, i64 x.hav, i64 x.set_, i64 x.num] 49)).heap.size := by simp
  have k0 := cell_of_row _ w.heap.size 0 _ _ (0, 0) hg
  have k1 := cell_of_row _ w.heap.size 1 _ _ (0, 0) hg
  have k2 := cell_of_row _ w.heap.size 2 _ _ (0, 0) hg
  have k3 := cell_of_row _ w.heap.size 3 _ _ (0, 0) hg
  simp only [List.getElem?_toArray, List.getElem?_cons_zero, List.getElem?_cons_succ] at k0 k1 k2 k3
  have q1 := numB_le r1
  have q2 := numB_le r2
  have q3 := numB_le r3
  have q4 := numB_le r4
  have x1 := fun W => rnum6_c x.err W r1.1 r1.2
  have x2 := fun W => rnum2_c x.hav W r2.1 r2.2
  have x3 := fun W => rnum2_c x.set_ W r3.1 r3.2
  have x4 := fun W => rnum6_c x.num W r4.1 r4.2
  have HE := Lib.hid (show toldB x = ((numB x.err ++ numB x.hav) ++ numB x.set_) ++ numB x.num from rfl)
  clear r1 r2 r3 r4 hg
  generalize toldB x = bs at *
  generalize numB x.err = n1 at *
  generalize numB x.hav = n2 at *
  generalize numB x.set_ = n3 at *
  generalize numB x.num = n4 at *
  unfold Rp.v
  go_enter Try.func44, Try.ntmps44
  go_wp2_with fail
  generalize w.alloc (.cells #[i64 x.err, i64 x.hav, i64 x.set_, i64 x.num] 49) = w1 at *
  have hSS : ∀ V, Below w1.heap.size w1 V → (fun V : World => Below w1.heap.size w1 V ∧ V.cell? ⟨w.heap.size, 0, none⟩ = some (i64 x.err) ∧ V.cell? ⟨w.heap.size, 1, none⟩ = some (i64 x.hav) ∧ V.cell? ⟨w.heap.size, 2, none⟩ = some (i64 x.set_) ∧ V.cell? ⟨w.heap.size, 3, none⟩ = some (i64 x.num)) V := fun V h => ⟨h, (h.cell (p := ⟨w.heap.size, 0, none⟩) hz).trans k0, (h.cell (p := ⟨w.heap.size, 1, none⟩) hz).trans k1, (h.cell (p := ⟨w.heap.size, 2, none⟩) hz).trans k2, (h.cell (p := ⟨w.heap.size, 3, none⟩) hz).trans k3⟩
  clear k0 k1 k2 k3
  have h0 := (Below.refl w1.heap.size w1).drew
  go_region_held3 (fun V : World => Below w1.heap.size w1 V ∧ V.cell? ⟨w.heap.size, 0, none⟩ = some (i64 x.err) ∧ V.cell? ⟨w.heap.size, 1, none⟩ = some (i64 x.hav) ∧ V.cell? ⟨w.heap.size, 2, none⟩ = some (i64 x.set_) ∧ V.cell? ⟨w.heap.size, 3, none⟩ = some (i64 x.num)) (first | exact hSS _ h0 | exact hSS _ (by assumption))
    (first
      | (go_at_call 77; with_reducible refine (x1 _).mono ?_; rintro e u1 ⟨v, rfl, hO, hF⟩; obtain ⟨A1, c1, hv, -⟩ := hO.sl; subst hv; have hOa := hO.mono h0.size; have hb1 := below_on h0 (Nat.le_refl _) hF; clear hO hF)
      | (go_at_call 79; with_reducible refine (x2 _).mono ?_; rintro e u2 ⟨v, rfl, hO, hF⟩; obtain ⟨A2, c2, hv, hsX⟩ := hO.sl_oth hOa (Nat.le_refl _); subst hv; replace hOa := hOa.later hF; have hb2 := below_on hb1 (Nat.le_refl _) hF; clear hO hF)
      | ((try rw [if_pos (by rfl)]); refine oper_append (.tmp 6) (.tmp 9) 36 rfl (.int .u8 0) 1 Try.underlying36 inf_byte rfl (by decide) (by decide) rfl hOa _ _ _ n2 rfl rfl hsX (by omega) hb2.size ?_; intro v2 u3 hO2 hg2 hat2; have hb3 := hb2.trans (hOa.below hg2 (Nat.le_refl _) hb2.size); obtain ⟨m3, hm⟩ : ∃ mm, mm = n1 ++ n2 := ⟨_, rfl⟩; have e3 : m3.length ≤ 20 := (by rw [hm, List.length_append]; omega); rw [← hm] at hO2; have H3 := Lib.hid hm; obtain ⟨A3, c3, hv, -⟩ := hO2.sl; subst hv; clear hOa hsX hat2 hg2 hm; have hOa := hO2; clear hO2))
  clear x1 x2 h0 hb1 hb2
  have h0 := hb3.drew
  have hOa := hOa.later (Below.refl u3.heap.size u3).drew
  clear hb3
  go_wp2_with fail
  go_region_held3 (fun V : World => Below w1.heap.size w1 V ∧ V.cell? ⟨w.heap.size, 0, none⟩ = some (i64 x.err) ∧ V.cell? ⟨w.heap.size, 1, none⟩ = some (i64 x.hav) ∧ V.cell? ⟨w.heap.size, 2, none⟩ = some (i64 x.set_) ∧ V.cell? ⟨w.heap.size, 3, none⟩ = some (i64 x.num)) (first | exact hSS _ h0 | exact hSS _ (by assumption))
    (first
      | (go_at_call 79; with_reducible refine (x3 _).mono ?_; rintro e u4 ⟨v, rfl, hO, hF⟩; obtain ⟨A4, c4, hv, hsX⟩ := hO.sl_oth hOa (Nat.le_refl _); subst hv; replace hOa := hOa.later hF; have hb4 := below_on h0 (Nat.le_refl _) hF; clear hO hF)
      | ((try rw [if_pos (by rfl)]); refine oper_append (.tmp 11) (.tmp 14) 36 rfl (.int .u8 0) 1 Try.underlying36 inf_byte rfl (by decide) (by decide) rfl hOa _ _ _ n3 rfl rfl hsX (by omega) hb4.size ?_; intro v2 u5 hO2 hg2 hat2; have hb5 := hb4.trans (hOa.below hg2 (Nat.le_refl _) hb4.size); obtain ⟨m5, hm⟩ : ∃ mm, mm = m3 ++ n3 := ⟨_, rfl⟩; have e5 : m5.length ≤ 30 := (by rw [hm, List.length_append]; omega); rw [← hm] at hO2; have H5 := Lib.hid hm; obtain ⟨A5, c5, hv, -⟩ := hO2.sl; subst hv; clear hOa hsX hat2 hg2 hm; have hOa := hO2; clear hO2)
      | (go_at_call 77; with_reducible refine (x4 _).mono ?_; rintro e u6 ⟨v, rfl, hO, hF⟩; obtain ⟨A6, c6, hv, hsX⟩ := hO.sl_oth hOa (Nat.le_refl _); subst hv; replace hOa := hOa.later hF; have hb6 := below_on hb5 (Nat.le_refl _) hF; clear hO hF)
      | ((try rw [if_pos (by rfl)]); refine oper_append (.tmp 15) (.tmp 18) 36 rfl (.int .u8 0) 1 Try.underlying36 inf_byte rfl (by decide) (by decide) rfl hOa _ _ _ n4 rfl rfl hsX (by omega) hb6.size ?_; intro v2 u7 hO2 hg2 hat2; have hb7 := hb6.trans (hOa.below hg2 (Nat.le_refl _) hb6.size); obtain ⟨m7, hm⟩ : ∃ mm, mm = m5 ++ n4 := ⟨_, rfl⟩; have e7 : m7.length ≤ 40 := (by rw [hm, List.length_append]; omega); rw [← hm] at hO2; have H7 := Lib.hid hm; obtain ⟨A7, c7, hv, -⟩ := hO2.sl; subst hv; clear hOa hsX hat2 hg2 hm; have hOa := hO2; clear hO2))
  go_wp2
  go_ret
  exact ⟨_, rfl, by rw [HE.out, ← H3.out, ← H5.out, ← H7.out]; exact hOa.mono hb0.size, below_on hb0 (Nat.le_refl _) hb7⟩
theorem headBs_le {x : Od} (f : Fine x) (r : InR x) : (headBs x).length ≤ 280 := by
  obtain ⟨a, b, c, d, _, _, _⟩ := r
  have hl := f.legs
  have n1 := numB_le a
  have n2 := numB_le b
  have n3 := numB_le c
  have n4 := numB_le d
  have n7 := numB_le (n := (x.legs.length : Int)) ⟨by omega, by omega⟩
  have m1 := textB_le f.acct
  have m2 := textB_le f.peer
  unfold headBs
  generalize textB x.acct = t1 at *
  generalize textB x.peer = t2 at *
  simp only [List.length_append]
  omega
set_option maxRecDepth 100000 in
set_option maxHeartbeats 8000000 in
theorem rbytes_c (x : Od) (w : World) (hx : Okb w w.heap.size x) (hl : x.legs.length ≤ 65536) (hin : InR x) :
    Calls Try.prog 42 #[x.v] w fun e w' => ∃ v, e = .returned (.tuple #[v, i64 (if rightB x then 0 else 1)]) ∧ Own w' w.heap.size 5 v (if rightB x then bytesB x else []) ∧ Below w.heap.size w w' := by
  have hb0 := (Below.refl w.heap.size w).alloc (Nat.le_refl _) (.cells #[i64 x.client, i64 x.seq, i64 x.kind, .string x.acct, .string x.peer, i64 x.sum, .slice x.la x.legs.length x.lc, i64 x.period, i64 x.hold, .string x.note] 30)
  have hg := heap_alloc_new w (.cells #[i64 x.client, i64 x.seq, i64 x.kind, .string x.acct, .string x.peer, i64 x.sum, .slice x.la x.legs.length x.lc, i64 x.period, i64 x.hold, .string x.note] 30)
  have hz : w.heap.size < (w.alloc (.cells #[i64 x.client, i64 x.seq, i64 x.kind, .string x.acct, .string x.peer, i64 x.sum, .slice x.la x.legs.length x.lc, i64 x.period, i64 x.hold, .string x.note] 30)).heap.size := by simp
  have hlg := hx.legs.later hb0
  have hRt := Lib.hid (rright_c x _ (Okb.later hx hb0) hl)
  clear hx
  have k0 := cell_of_row _ (w.heap.size) 0 _ _ (0, 0) hg
  have k1 := cell_of_row _ (w.heap.size) 1 _ _ (0, 0) hg
  have k2 := cell_of_row _ (w.heap.size) 2 _ _ (0, 0) hg
  have k3 := cell_of_row _ (w.heap.size) 3 _ _ (0, 0) hg
  have k4 := cell_of_row _ (w.heap.size) 4 _ _ (0, 0) hg
  have k5 := cell_of_row _ (w.heap.size) 5 _ _ (0, 0) hg
  have k6 := cell_of_row _ (w.heap.size) 6 _ _ (0, 0) hg
  have k7 := cell_of_row _ (w.heap.size) 7 _ _ (0, 0) hg
  have k8 := cell_of_row _ (w.heap.size) 8 _ _ (0, 0) hg
  have k9 := cell_of_row _ (w.heap.size) 9 _ _ (0, 0) hg
  simp only [List.getElem?_toArray, List.getElem?_cons_zero, List.getElem?_cons_succ] at k0 k1 k2 k3 k4 k5 k6 k7 k8 k9
  clear hg
  unfold Od.v at hRt ⊢
  go_enter Try.func42, Try.ntmps42
  go_wp2_with fail
  generalize w.alloc (.cells #[i64 x.client, i64 x.seq, i64 x.kind, .string x.acct, .string x.peer, i64 x.sum, .slice x.la x.legs.length x.lc, i64 x.period, i64 x.hold, .string x.note] 30) = w1 at *
  refine hRt.out.mono ?_
  rintro e u0 ⟨rfl, hbR⟩
  clear hRt
  by_cases hr : rightB x = true
  · rw [hr]
    have f := fine_of hr
    have hh := headBs_le f hin
    obtain ⟨r1, r2, r3, r4, r5, r6, r7⟩ := hin
    obtain ⟨f1, f2, f3, f4, f5⟩ := f
    have q1 := numB_le r1
    have q2 := numB_le r2
    have q3 := numB_le r3
    have q4 := numB_le r4
    have q5 := numB_le r5
    have q6 := numB_le r6
    have q7 := numB_le (n := (x.legs.length : Int)) ⟨by omega, by omega⟩
    have t1 := textB_le f1
    have t2 := textB_le f2
    have t3 := textB_le f3
    have x1 := fun W => rnum6_c x.client W r1.1 r1.2
    have x2 := fun W => rnum6_c x.seq W r2.1 r2.2
    have x3 := fun W => rnum6_c x.kind W r3.1 r3.2
    have x4 := fun W => rtext2_c x.acct W (by omega)
    have x5 := fun W => rtext2_c x.peer W (by omega)
    have x6 := fun W => rnum2_c x.sum W r4.1 r4.2
    have x7 := fun W => rnum6_c (x.legs.length : Int) W (by omega) (by omega)
    have x8 := fun W => rnum6_c x.period W r5.1 r5.2
    have x9 := fun W => rnum6_c x.hold W r6.1 r6.2
    have x10 := Lib.hid fun W => rtext2_c x.note W (by omega)
    have HH := Lib.hid (show headBs x = ((((((numB x.client ++ numB x.seq) ++ numB x.kind) ++ textB x.acct) ++ textB x.peer) ++ numB x.sum) ++ numB x.legs.length) from rfl)
    have HE := Lib.hid (show bytesB x = (((headBs x ++ x.legs.flatMap legBs) ++ numB x.period) ++ numB x.hold) ++ textB x.note from rfl)
    have XL := Lib.hid fun (k : Nat) (hk : k < x.legs.length) W => rtext2_c x.legs[k].acct W (Nat.le_trans (f5 _ (List.getElem_mem hk)) (by decide))
    have XS := Lib.hid fun (k : Nat) (hk : k < x.legs.length) W => rnum2_c x.legs[k].sum W (r7 _ (List.getElem_mem hk)).1 (r7 _ (List.getElem_mem hk)).2
    have TL := Lib.hid fun (k : Nat) (hk : k < x.legs.length) => textB_le (f5 _ (List.getElem_mem hk))
    have NL := Lib.hid fun (k : Nat) (hk : k < x.legs.length) => numB_le (r7 _ (List.getElem_mem hk))
    generalize textB x.acct = tA at *
    generalize textB x.peer = tP at *
    generalize textB x.note = tN at *
    generalize numB x.client = n1 at *
    generalize numB x.seq = n2 at *
    generalize numB x.kind = n3 at *
    generalize numB x.sum = n4 at *
    generalize numB x.period = n5 at *
    generalize numB x.hold = n6 at *
    generalize hnl : numB (x.legs.length : Int) = n7 at *
    generalize headBs x = hs at *
    clear r1 r2 r3 r4 r5 r6 r7 f1 f2 f3 f5 hnl
    have hSS : ∀ V, Below w1.heap.size w1 V → (fun V : World => Below w1.heap.size w1 V ∧ V.cell? ⟨w.heap.size, 0, none⟩ = some (i64 x.client) ∧ V.cell? ⟨w.heap.size, 1, none⟩ = some (i64 x.seq) ∧ V.cell? ⟨w.heap.size, 2, none⟩ = some (i64 x.kind) ∧ V.cell? ⟨w.heap.size, 3, none⟩ = some (.string x.acct) ∧ V.cell? ⟨w.heap.size, 4, none⟩ = some (.string x.peer) ∧ V.cell? ⟨w.heap.size, 5, none⟩ = some (i64 x.sum) ∧ V.cell? ⟨w.heap.size, 6, none⟩ = some (.slice x.la x.legs.length x.lc) ∧ V.cell? ⟨w.heap.size, 7, none⟩ = some (i64 x.period) ∧ V.cell? ⟨w.heap.size, 8, none⟩ = some (i64 x.hold) ∧ V.cell? ⟨w.heap.size, 9, none⟩ = some (.string x.note)) V := fun V h => ⟨h, (h.cell (p := ⟨w.heap.size, 0, none⟩) hz).trans k0, (h.cell (p := ⟨w.heap.size, 1, none⟩) hz).trans k1, (h.cell (p := ⟨w.heap.size, 2, none⟩) hz).trans k2, (h.cell (p := ⟨w.heap.size, 3, none⟩) hz).trans k3, (h.cell (p := ⟨w.heap.size, 4, none⟩) hz).trans k4, (h.cell (p := ⟨w.heap.size, 5, none⟩) hz).trans k5, (h.cell (p := ⟨w.heap.size, 6, none⟩) hz).trans k6, (h.cell (p := ⟨w.heap.size, 7, none⟩) hz).trans k7, (h.cell (p := ⟨w.heap.size, 8, none⟩) hz).trans k8, (h.cell (p := ⟨w.heap.size, 9, none⟩) hz).trans k9⟩
    have k6' := k6
    have k9' := k9
    clear k0 k1 k2 k3 k4 k5 k6 k7 k8 k9
    have h0 := hbR.drew
    clear hbR
    go_wp2_with fail
    go_region_held3 (fun V : World => Below w1.heap.size w1 V ∧ V.cell? ⟨w.heap.size, 0, none⟩ = some (i64 x.client) ∧ V.cell? ⟨w.heap.size, 1, none⟩ = some (i64 x.seq) ∧ V.cell? ⟨w.heap.size, 2, none⟩ = some (i64 x.kind) ∧ V.cell? ⟨w.heap.size, 3, none⟩ = some (.string x.acct) ∧ V.cell? ⟨w.heap.size, 4, none⟩ = some (.string x.peer) ∧ V.cell? ⟨w.heap.size, 5, none⟩ = some (i64 x.sum) ∧ V.cell? ⟨w.heap.size, 6, none⟩ = some (.slice x.la x.legs.length x.lc) ∧ V.cell? ⟨w.heap.size, 7, none⟩ = some (i64 x.period) ∧ V.cell? ⟨w.heap.size, 8, none⟩ = some (i64 x.hold) ∧ V.cell? ⟨w.heap.size, 9, none⟩ = some (.string x.note)) (first | exact hSS _ h0 | exact hSS _ (by assumption))
      (first
        | (go_at_call 77; with_reducible refine (x1 _).mono ?_; rintro e u1 ⟨v, rfl, hO, hF⟩; obtain ⟨A1, c1, hv, -⟩ := hO.sl; subst hv; have hOa := hO.mono h0.size; have hb1 := below_on h0 (Nat.le_refl _) hF; clear hO hF)
        | (go_at_call 77; with_reducible refine (x2 _).mono ?_; rintro e u2 ⟨v, rfl, hO, hF⟩; obtain ⟨A2, c2, hv, hsX⟩ := hO.sl_oth hOa (Nat.le_refl _); subst hv; replace hOa := hOa.later hF; have hb2 := below_on hb1 (Nat.le_refl _) hF; clear hO hF)
        | ((try rw [if_pos (by rfl)]); refine oper_append (.tmp 12) (.tmp 16) 36 rfl (.int .u8 0) 1 Try.underlying36 inf_byte rfl (by decide) (by decide) rfl hOa _ _ _ n2 rfl rfl hsX (by omega) hb2.size ?_; intro v2 u3 hO2 hg2 hat2; have hb3 := hb2.trans (hOa.below hg2 (Nat.le_refl _) hb2.size); obtain ⟨m3, hm⟩ : ∃ mm, mm = n1 ++ n2 := ⟨_, rfl⟩; have e3 : m3.length ≤ 20 := (by rw [hm, List.length_append]; omega); rw [← hm] at hO2; have H3 := Lib.hid hm; obtain ⟨A3, c3, hv, -⟩ := hO2.sl; subst hv; clear hOa hsX hat2 hg2 hm; have hOa := hO2; clear hO2)
        | (go_at_call 77; with_reducible refine (x3 _).mono ?_; rintro e u4 ⟨v, rfl, hO, hF⟩; obtain ⟨A4, c4, hv, hsX⟩ := hO.sl_oth hOa (Nat.le_refl _); subst hv; replace hOa := hOa.later hF; have hb4 := below_on hb3 (Nat.le_refl _) hF; clear hO hF)
        | ((try rw [if_pos (by rfl)]); refine oper_append (.tmp 17) (.tmp 20) 36 rfl (.int .u8 0) 1 Try.underlying36 inf_byte rfl (by decide) (by decide) rfl hOa _ _ _ n3 rfl rfl hsX (by omega) hb4.size ?_; intro v2 u5 hO2 hg2 hat2; have hb5 := hb4.trans (hOa.below hg2 (Nat.le_refl _) hb4.size); obtain ⟨m5, hm⟩ : ∃ mm, mm = m3 ++ n3 := ⟨_, rfl⟩; have e5 : m5.length ≤ 30 := (by rw [hm, List.length_append]; omega); rw [← hm] at hO2; have H5 := Lib.hid hm; obtain ⟨A5, c5, hv, -⟩ := hO2.sl; subst hv; clear hOa hsX hat2 hg2 hm; have hOa := hO2; clear hO2))
    clear x1 x2 x3 h0 hb1 hb2 hb3 hb4
    have h0 := hb5.drew
    replace hOa := hOa.later (Below.refl u5.heap.size u5).drew
    clear hb5
    go_wp2_with fail
    go_region_held3 (fun V : World => Below w1.heap.size w1 V ∧ V.cell? ⟨w.heap.size, 0, none⟩ = some (i64 x.client) ∧ V.cell? ⟨w.heap.size, 1, none⟩ = some (i64 x.seq) ∧ V.cell? ⟨w.heap.size, 2, none⟩ = some (i64 x.kind) ∧ V.cell? ⟨w.heap.size, 3, none⟩ = some (.string x.acct) ∧ V.cell? ⟨w.heap.size, 4, none⟩ = some (.string x.peer) ∧ V.cell? ⟨w.heap.size, 5, none⟩ = some (i64 x.sum) ∧ V.cell? ⟨w.heap.size, 6, none⟩ = some (.slice x.la x.legs.length x.lc) ∧ V.cell? ⟨w.heap.size, 7, none⟩ = some (i64 x.period) ∧ V.cell? ⟨w.heap.size, 8, none⟩ = some (i64 x.hold) ∧ V.cell? ⟨w.heap.size, 9, none⟩ = some (.string x.note)) (first | exact hSS _ h0 | exact hSS _ (by assumption))
      (first
        | (go_at_call 78; with_reducible refine (x4 _).mono ?_; rintro e u6 ⟨v, rfl, hO, hF⟩; obtain ⟨A6, c6, hv, hsX⟩ := hO.sl_oth hOa (Nat.le_refl _); subst hv; replace hOa := hOa.later hF; have hb6 := below_on h0 (Nat.le_refl _) hF; clear hO hF)
        | ((try rw [if_pos (by rfl)]); refine oper_append (.tmp 22) (.tmp 25) 36 rfl (.int .u8 0) 1 Try.underlying36 inf_byte rfl (by decide) (by decide) rfl hOa _ _ _ tA rfl rfl hsX (by omega) hb6.size ?_; intro v2 u7 hO2 hg2 hat2; have hb7 := hb6.trans (hOa.below hg2 (Nat.le_refl _) hb6.size); obtain ⟨m7, hm⟩ : ∃ mm, mm = m5 ++ tA := ⟨_, rfl⟩; have e7 : m7.length ≤ 140 := (by rw [hm, List.length_append]; omega); rw [← hm] at hO2; have H7 := Lib.hid hm; obtain ⟨A7, c7, hv, -⟩ := hO2.sl; subst hv; clear hOa hsX hat2 hg2 hm; have hOa := hO2; clear hO2)
        | (go_at_call 78; with_reducible refine (x5 _).mono ?_; rintro e u8 ⟨v, rfl, hO, hF⟩; obtain ⟨A8, c8, hv, hsX⟩ := hO.sl_oth hOa (Nat.le_refl _); subst hv; replace hOa := hOa.later hF; have hb8 := below_on hb7 (Nat.le_refl _) hF; clear hO hF)
        | ((try rw [if_pos (by rfl)]); refine oper_append (.tmp 26) (.tmp 29) 36 rfl (.int .u8 0) 1 Try.underlying36 inf_byte rfl (by decide) (by decide) rfl hOa _ _ _ tP rfl rfl hsX (by omega) hb8.size ?_; intro v2 u9 hO2 hg2 hat2; have hb9 := hb8.trans (hOa.below hg2 (Nat.le_refl _) hb8.size); obtain ⟨m9, hm⟩ : ∃ mm, mm = m7 ++ tP := ⟨_, rfl⟩; have e9 : m9.length ≤ 250 := (by rw [hm, List.length_append]; omega); rw [← hm] at hO2; have H9 := Lib.hid hm; obtain ⟨A9, c9, hv, -⟩ := hO2.sl; subst hv; clear hOa hsX hat2 hg2 hm; have hOa := hO2; clear hO2))
    clear x4 x5 h0 hb6 hb7 hb8
    have h0 := hb9.drew
    replace hOa := hOa.later (Below.refl u9.heap.size u9).drew
    clear hb9
    go_wp2_with fail
    go_region_held3 (fun V : World => Below w1.heap.size w1 V ∧ V.cell? ⟨w.heap.size, 0, none⟩ = some (i64 x.client) ∧ V.cell? ⟨w.heap.size, 1, none⟩ = some (i64 x.seq) ∧ V.cell? ⟨w.heap.size, 2, none⟩ = some (i64 x.kind) ∧ V.cell? ⟨w.heap.size, 3, none⟩ = some (.string x.acct) ∧ V.cell? ⟨w.heap.size, 4, none⟩ = some (.string x.peer) ∧ V.cell? ⟨w.heap.size, 5, none⟩ = some (i64 x.sum) ∧ V.cell? ⟨w.heap.size, 6, none⟩ = some (.slice x.la x.legs.length x.lc) ∧ V.cell? ⟨w.heap.size, 7, none⟩ = some (i64 x.period) ∧ V.cell? ⟨w.heap.size, 8, none⟩ = some (i64 x.hold) ∧ V.cell? ⟨w.heap.size, 9, none⟩ = some (.string x.note)) (first | exact hSS _ h0 | exact hSS _ (by assumption))
      (first
        | (go_at_call 79; with_reducible refine (x6 _).mono ?_; rintro e u10 ⟨v, rfl, hO, hF⟩; obtain ⟨A10, c10, hv, hsX⟩ := hO.sl_oth hOa (Nat.le_refl _); subst hv; replace hOa := hOa.later hF; have hb10 := below_on h0 (Nat.le_refl _) hF; clear hO hF)
        | ((try rw [if_pos (by rfl)]); refine oper_append (.tmp 31) (.tmp 34) 36 rfl (.int .u8 0) 1 Try.underlying36 inf_byte rfl (by decide) (by decide) rfl hOa _ _ _ n4 rfl rfl hsX (by omega) hb10.size ?_; intro v2 u11 hO2 hg2 hat2; have hb11 := hb10.trans (hOa.below hg2 (Nat.le_refl _) hb10.size); obtain ⟨m11, hm⟩ : ∃ mm, mm = m9 ++ n4 := ⟨_, rfl⟩; have e11 : m11.length ≤ 260 := (by rw [hm, List.length_append]; omega); rw [← hm] at hO2; have H11 := Lib.hid hm; obtain ⟨A11, c11, hv, -⟩ := hO2.sl; subst hv; clear hOa hsX hat2 hg2 hm; have hOa := hO2; clear hO2)
        | (go_at_call 77; with_reducible refine (x7 _).mono ?_; rintro e u12 ⟨v, rfl, hO, hF⟩; obtain ⟨A12, c12, hv, hsX⟩ := hO.sl_oth hOa (Nat.le_refl _); subst hv; replace hOa := hOa.later hF; have hb12 := below_on hb11 (Nat.le_refl _) hF; clear hO hF)
        | ((try rw [if_pos (by rfl)]); refine oper_append (.tmp 35) (.tmp 39) 36 rfl (.int .u8 0) 1 Try.underlying36 inf_byte rfl (by decide) (by decide) rfl hOa _ _ _ n7 rfl rfl hsX (by omega) hb12.size ?_; intro v2 u13 hO2 hg2 hat2; have hb13 := hb12.trans (hOa.below hg2 (Nat.le_refl _) hb12.size); obtain ⟨m13, hm⟩ : ∃ mm, mm = m11 ++ n7 := ⟨_, rfl⟩; have e13 : m13.length ≤ 270 := (by rw [hm, List.length_append]; omega); rw [← hm] at hO2; have H13 := Lib.hid hm; obtain ⟨A13, c13, hv, -⟩ := hO2.sl; subst hv; clear hOa hsX hat2 hg2 hm; have hOa := hO2; clear hO2))
    clear x6 x7 h0 hb10 hb11 hb12
    have Hm := Lib.hid (show m13 = hs by rw [H13.out, H11.out, H9.out, H7.out, H5.out, H3.out, HH.out])
    have hbL := hb13
    clear hb13 H3 H5 H7 H9 H11 H13 HH q1 q2 q3 q4 q7 t1 t2
    have e14 : m13.length ≤ 300 := by rw [Hm.out]; omega
    clear e3 e5 e7 e9 e11 e13
    go_wp2_with fail
    go_loopw [4, 5] (fun v i wr => ∃ (k : Nat) (A : Option Addr) (c : Nat) (m : List UInt8), i = i64 k ∧ v = .slice A m.length c ∧ k ≤ x.legs.length ∧ m.length ≤ 300 + 120 * k ∧ m = hs ++ (x.legs.take k).flatMap legBs ∧ Own wr w1.heap.size 5 (.slice A m.length c) m ∧ Below w1.heap.size w1 wr) (fun _ i _ => x.legs.length - (intOf i).toNat)
    case atStart => exact ⟨0, A13, c13, m13, rfl, rfl, by omega, by omega, by rw [Hm.out]; simp, hOa, hbL⟩
    case round =>
      clear hOa hbL Hm
      obtain ⟨k, A, c, m, rfl, rfl, hk, hmb, hm, hOa, hB⟩ := hrel
      have HM := Lib.hid hm
      clear hm
      by_cases hlt : k < x.legs.length
      · obtain ⟨b, ob, hA, hbb, hsz, c0, c1⟩ := hlg.leg hlt
        have y1 := XL.out k hlt
        have y2 := XS.out k hlt
        have b1 := TL.out k hlt
        have b2 := NL.out k hlt
        have i0 : (0 : Int) ≤ (k : Int) := by omega
        have i1 : (k : Int) < (x.legs.length : Int) := by omega
        have hstep := Lib.hid (show hs ++ (x.legs.take (k + 1)).flatMap legBs = ((hs ++ (x.legs.take k).flatMap legBs) ++ textB x.legs[k].acct) ++ numB x.legs[k].sum by rw [flat_step hlt]; unfold legBs; simp only [List.append_assoc])
        generalize textB x.legs[k].acct = tL at *
        generalize numB x.legs[k].sum = nL at *
        have k6 := k6'
        rw [hA] at k6
        clear hbb hsz hA XL XS TL NL
        have hS9 : ∀ V, Below w1.heap.size w1 V → (fun V : World => Below w1.heap.size w1 V ∧ V.cell? ⟨w.heap.size, 6, none⟩ = some (.slice (some ⟨b, ob, none⟩) x.legs.length x.lc) ∧ V.cell? ⟨b, ob + k * 2, none⟩ = some (.string x.legs[k].acct) ∧ V.cell? ⟨b, ob + k * 2 + 1, none⟩ = some (i64 x.legs[k].sum)) V := fun V h => ⟨h, (h.cell (p := ⟨w.heap.size, 6, none⟩) hz).trans k6, (h.cell (World.block_lt_of_cell? _ _ c0)).trans c0, (h.cell (World.block_lt_of_cell? _ _ c1)).trans c1⟩
        have h0 := hB.drew
        have k6 := (hB.cell (p := ⟨w.heap.size, 6, none⟩) hz).trans k6
        replace hOa := hOa.later (Below.refl wr.heap.size wr).drew
        clear hB c0 c1 hSS
        go_wp2_with fail
        go_region_held3 (fun V : World => Below w1.heap.size w1 V ∧ V.cell? ⟨w.heap.size, 6, none⟩ = some (.slice (some ⟨b, ob, none⟩) x.legs.length x.lc) ∧ V.cell? ⟨b, ob + k * 2, none⟩ = some (.string x.legs[k].acct) ∧ V.cell? ⟨b, ob + k * 2 + 1, none⟩ = some (i64 x.legs[k].sum)) (first | exact hS9 _ h0 | exact hS9 _ (by assumption))
          (first
            | (go_at_call 78; with_reducible refine (y1 _).mono ?_; rintro e u21 ⟨v, rfl, hO, hF⟩; obtain ⟨A21, c21, hv, hsX⟩ := hO.sl_oth hOa (Nat.le_refl _); subst hv; replace hOa := hOa.later hF; have hb21 := below_on h0 (Nat.le_refl _) hF; clear hO hF)
            | ((try rw [if_pos (by rfl)]); refine oper_append (.tmp 48) (.tmp 55) 36 rfl (.int .u8 0) 1 Try.underlying36 inf_byte rfl (by decide) (by decide) rfl hOa _ _ _ tL rfl rfl hsX (by omega) hb21.size ?_; intro v2 u22 hO2 hg2 hat2; have hb22 := hb21.trans (hOa.below hg2 (Nat.le_refl _) hb21.size); obtain ⟨m22, hm⟩ : ∃ mm, mm = m ++ tL := ⟨_, rfl⟩; have e22 : m22.length ≤ 300 + 120 * k + 110 := (by rw [hm, List.length_append]; omega); rw [← hm] at hO2; have H22 := Lib.hid hm; obtain ⟨A22, c22, hv, -⟩ := hO2.sl; subst hv; clear hOa hsX hat2 hg2 hm; have hOa := hO2; clear hO2)
            | (go_at_call 79; with_reducible refine (y2 _).mono ?_; rintro e u23 ⟨v, rfl, hO, hF⟩; obtain ⟨A23, c23, hv, hsX⟩ := hO.sl_oth hOa (Nat.le_refl _); subst hv; replace hOa := hOa.later hF; have hb23 := below_on hb22 (Nat.le_refl _) hF; clear hO hF)
            | ((try rw [if_pos (by rfl)]); refine oper_append (.tmp 56) (.tmp 63) 36 rfl (.int .u8 0) 1 Try.underlying36 inf_byte rfl (by decide) (by decide) rfl hOa _ _ _ nL rfl rfl hsX (by omega) hb23.size ?_; intro v2 u24 hO2 hg2 hat2; have hb24 := hb23.trans (hOa.below hg2 (Nat.le_refl _) hb23.size); obtain ⟨m24, hm⟩ : ∃ mm, mm = m22 ++ nL := ⟨_, rfl⟩; have e24 : m24.length ≤ 300 + 120 * (k + 1) := (by rw [hm, List.length_append]; omega); rw [← hm] at hO2; have H24 := Lib.hid hm; obtain ⟨A24, c24, hv, -⟩ := hO2.sl; subst hv; clear hOa hsX hat2 hg2 hm; have hOa := hO2; clear hO2))
        clear y1 y2 h0 hb21 hb22 hb23 hS9
        go_wp2
        go_roundw
        case rel => exact ⟨k + 1, A24, c24, m24, by go_num, rfl, by omega, e24, by rw [hstep.out, ← HM.out, ← H22.out, ← H24.out], hOa, hb24⟩
        case measure => simp [intOf]; omega
      · obtain rfl : k = x.legs.length := by omega
        rw [List.take_length] at HM
        have k6 := (hB.cell (p := ⟨w.heap.size, 6, none⟩) hz).trans k6'
        have h0 := hB.drew
        have hOa' := hOa
        replace hOa := hOa.later (Below.refl wr.heap.size wr).drew
        clear hB hOa' XL XS TL NL hlg
        have hmb2 : m.length ≤ 1500 := by omega
        clear hmb
        go_wp2_with fail
        go_region_held3 (fun V : World => Below w1.heap.size w1 V ∧ V.cell? ⟨w.heap.size, 0, none⟩ = some (i64 x.client) ∧ V.cell? ⟨w.heap.size, 1, none⟩ = some (i64 x.seq) ∧ V.cell? ⟨w.heap.size, 2, none⟩ = some (i64 x.kind) ∧ V.cell? ⟨w.heap.size, 3, none⟩ = some (.string x.acct) ∧ V.cell? ⟨w.heap.size, 4, none⟩ = some (.string x.peer) ∧ V.cell? ⟨w.heap.size, 5, none⟩ = some (i64 x.sum) ∧ V.cell? ⟨w.heap.size, 6, none⟩ = some (.slice x.la x.legs.length x.lc) ∧ V.cell? ⟨w.heap.size, 7, none⟩ = some (i64 x.period) ∧ V.cell? ⟨w.heap.size, 8, none⟩ = some (i64 x.hold) ∧ V.cell? ⟨w.heap.size, 9, none⟩ = some (.string x.note)) (first | exact hSS _ h0 | exact hSS _ (by assumption))
          (first
            | (go_at_call 77; with_reducible refine (x8 _).mono ?_; rintro e u31 ⟨v, rfl, hO, hF⟩; obtain ⟨A31, c31, hv, hsX⟩ := hO.sl_oth hOa (Nat.le_refl _); subst hv; replace hOa := hOa.later hF; have hb31 := below_on h0 (Nat.le_refl _) hF; clear hO hF)
            | ((try rw [if_pos (by rfl)]); refine oper_append (.tmp 65) (.tmp 68) 36 rfl (.int .u8 0) 1 Try.underlying36 inf_byte rfl (by decide) (by decide) rfl hOa _ _ _ n5 rfl rfl hsX (by omega) hb31.size ?_; intro v2 u32 hO2 hg2 hat2; have hb32 := hb31.trans (hOa.below hg2 (Nat.le_refl _) hb31.size); obtain ⟨m32, hm⟩ : ∃ mm, mm = m ++ n5 := ⟨_, rfl⟩; have e32 : m32.length ≤ 1510 := (by rw [hm, List.length_append]; omega); rw [← hm] at hO2; have H32 := Lib.hid hm; obtain ⟨A32, c32, hv, -⟩ := hO2.sl; subst hv; clear hOa hsX hat2 hg2 hm; have hOa := hO2; clear hO2)
            | (go_at_call 77; with_reducible refine (x9 _).mono ?_; rintro e u33 ⟨v, rfl, hO, hF⟩; obtain ⟨A33, c33, hv, hsX⟩ := hO.sl_oth hOa (Nat.le_refl _); subst hv; replace hOa := hOa.later hF; have hb33 := below_on hb32 (Nat.le_refl _) hF; clear hO hF)
            | ((try rw [if_pos (by rfl)]); refine oper_append (.tmp 69) (.tmp 72) 36 rfl (.int .u8 0) 1 Try.underlying36 inf_byte rfl (by decide) (by decide) rfl hOa _ _ _ n6 rfl rfl hsX (by omega) hb33.size ?_; intro v2 u34 hO2 hg2 hat2; have hb34 := hb33.trans (hOa.below hg2 (Nat.le_refl _) hb33.size); obtain ⟨m34, hm⟩ : ∃ mm, mm = m32 ++ n6 := ⟨_, rfl⟩; have e34 : m34.length ≤ 1520 := (by rw [hm, List.length_append]; omega); rw [← hm] at hO2; have H34 := Lib.hid hm; obtain ⟨A34, c34, hv, -⟩ := hO2.sl; subst hv; clear hOa hsX hat2 hg2 hm; have hOa := hO2; clear hO2))
        clear x8 x9 h0 hb31 hb32 hb33 hSS
        have hbE := hb34
        clear hb34
        have k9 := (hbE.cell (p := ⟨w.heap.size, 9, none⟩) hz).trans k9'
        go_wp2_with fail
        refine (x10.out _).mono ?_
        rintro e uN ⟨v, rfl, hO, hF⟩
        obtain ⟨AN, cN, hv, hsX⟩ := hO.sl_oth hOa (Nat.le_refl _)
        subst hv
        replace hOa := hOa.later hF
        have hbN := below_on hbE (Nat.le_refl _) hF
        have HO := Lib.hid hOa
        have HX := Lib.hid hsX
        clear hO hF hsX hOa hbE x10
        go_wp2_with (at_builtin; refine wpList_append_slice rfl (some 78) (.tmp 74) (.tmp 77) 36 rfl rfl (.int .u8 0) 1 Try.underlying36 inf_byte rfl (by decide) (by decide) rfl HO.out _ _ _ tN rfl rfl HX.out (by omega) hbN.size ?_; intro v3 w3 hO3 hg3 hat3)
        go_ret2
        exact ⟨_, rfl, by show Own _ w.heap.size 5 _ (bytesB x); rw [HE.out, ← HM.out, ← H32.out, ← H34.out]; exact hO3.mono hb0.size, below_on hb0 (Nat.le_refl _) (hbN.trans (HO.out.below hg3 (Nat.le_refl _) hbN.size))⟩
  · have hr' : rightB x = false := by simpa using hr
    rw [hr']
    clear hr'
    go_wp2
    go_ret2
    exact ⟨_, rfl, Own.nil_ _ _ _, below_on hb0 (Nat.le_refl _) hbR⟩
end Go.Proofs.Ytogecfddkohigaa
