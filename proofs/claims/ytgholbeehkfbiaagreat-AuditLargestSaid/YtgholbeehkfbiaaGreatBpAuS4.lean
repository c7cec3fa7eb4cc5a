/- audit: sorting moves: symMerge -/
import Derived.Test.YtgholbeehkfbiaaGreatRows
import Derived.Test.YtgholbeehkfbiaaGreatBpAuS3
import Derived.WalkKit
import Derived.WalkSpells
import Derived.WalkLawsBesides
import Derived.Deep.QuietTactic
import Derived.BigQuiet
import Derived.Laws.StructEq
import Derived.Deep.DeepFit
import Derived.StillTailTactics
namespace Go.Proofs.YtgholbeehkfbiaaGreat
open Go.RowKit
theorem dltT {x y : Nat} (h : x < y) : decide ((x : Int) < (y : Int)) = true ∧ decide (x < y) = true := ⟨decide_eq_true (by omega), decide_eq_true h⟩
theorem dltF {x y : Nat} (h : ¬ x < y) : decide ((x : Int) < (y : Int)) = false ∧ decide (x < y) = false := ⟨decide_eq_false (by omega), decide_eq_false h⟩
theorem part_z {α : Type} (l : List α) (k : Nat) (h : k = l.length ∨ k = 0) : l.take k ++ l.drop k = l := List.take_append_drop k l
set_option maxRecDepth 100000 in
set_option maxHeartbeats 16000000 in
theorem asym3_c (D B g n cap a m b : Nat) (P U V Q : List Mv) (w : World) (h : RowM w B g n cap (P ++ U ++ V ++ Q)) (ha : P.length = a) (hm : a + U.length = m) (hb : m + V.length = b) (h2U : 2 ≤ U.length) (h2V : 2 ≤ V.length) (hD : U.length + V.length = D) (hn : n ≤ 60000) (hB : B ≤ w.heap.size) (hU : SortedB ltM U) (hV : SortedB ltM V) (hq : ∀ x ∈ U ++ V, okMv x)
  (hrec : ∀ (a m b : Nat) (P U V Q : List Mv) (W : World), U.length + V.length < D → RowM W B g n cap (P ++ U ++ V ++ Q) → P.length = a → a + U.length = m → m + V.length = b → 0 < U.length → 0 < V.length → B ≤ W.heap.size → SortedB ltM U → SortedB ltM V → (∀ x ∈ U ++ V, okMv x) → Calls Tryz.prog 190 #[.slice (some ⟨g, 0, none⟩) n cap, i64 a, i64 m, i64 b, .func (.func 89) #[] #[]] W fun e w' => e = .returned (.tuple #[]) ∧ RowM w' B g n cap (P ++ mrg ltM U V ++ Q) ∧ Below B W w') :
  Calls Tryz.prog 190 #[.slice (some ⟨g, 0, none⟩) n cap, i64 a, i64 m, i64 b, .func (.func 89) #[] #[]] w fun e w' => e = .returned (.tuple #[]) ∧ RowM w' B g n cap (P ++ mrg ltM U V ++ Q) ∧ Below B w w' := by
 have hlen := h.len
 simp only [List.length_append] at hlen
 have hcn := h.capn
 have hbn : b ≤ n := by omega
 obtain ⟨ul, hul⟩ : ∃ ul, U.length = ul := ⟨_, rfl⟩
 obtain ⟨vl, hvl⟩ : ∃ vl, V.length = vl := ⟨_, rfl⟩
 have e0 : (m : Int) - (a : Int) = (ul : Int) := by omega
 have wul : IntKind.i64.wrap (ul : Int) = (ul : Int) := by rw [IntKind.wrap_i64]; omega
 have b0 : ((ul : Int) == 1) = false := by rw [beq_eq_false_iff_ne]; omega
 have e1 : (b : Int) - (m : Int) = (vl : Int) := by omega
 have wvl : IntKind.i64.wrap (vl : Int) = (vl : Int) := by rw [IntKind.wrap_i64]; omega
 have b1 : ((vl : Int) == 1) = false := by rw [beq_eq_false_iff_ne]; omega
 obtain ⟨mid, hmid⟩ : ∃ mid : Nat, mid = (a + b) / 2 := ⟨_, rfl⟩
 have em : ((a : Int) + (b : Int)) / 2 = (mid : Int) := by omega
 obtain ⟨nn, hnn⟩ : ∃ nn : Nat, nn = mid + m := ⟨_, rfl⟩
 have en : (mid : Int) + (m : Int) = (nn : Int) := by omega
 have wnn : IntKind.i64.wrap (nn : Int) = (nn : Int) := by rw [IntKind.wrap_i64]; omega
 have wmid : IntKind.i64.wrap (mid : Int) = (mid : Int) := by rw [IntKind.wrap_i64]; omega
 obtain ⟨p, hp⟩ : ∃ p : Nat, nn = p + 1 := ⟨nn - 1, by omega⟩
 have ep : (nn : Int) - 1 = (p : Int) := by omega
 have wp : IntKind.i64.wrap (p : Int) = (p : Int) := by rw [IntKind.wrap_i64]; omega
 have hm1 : a < mid := by omega
 have hm2 : mid < b := by omega
 have hm3 : a < m := by omega
 have hm4 : m < b := by omega
 obtain ⟨st0, r0, hst⟩ : ∃ st0 r0 : Nat, (mid < m ∧ st0 + b = nn ∧ r0 = mid) ∨ (m ≤ mid ∧ st0 = a ∧ r0 = m) := by
  by_cases hc : mid < m
  ·exact ⟨nn - b, mid, .inl ⟨hc, by omega, rfl⟩⟩
  ·exact ⟨a, m, .inr ⟨by omega, rfl, rfl⟩⟩
 have hs0 : a ≤ st0 ∧ st0 ≤ r0 ∧ r0 ≤ m ∧ r0 ≤ mid ∧ nn ≤ st0 + b := by rcases hst with ⟨h1, h2, h3⟩ | ⟨h1, h2, h3⟩ <;> omega
 obtain ⟨t1, t2, t3, t4, t5⟩ := hs0
 have hmn : m ≤ 60000 := by omega
 have hmd : mid ≤ 60000 := by omega
 have Hst := Lib.hid hst
 have H := Lib.hid h
 have HB := Lib.hid hB
 have Ha := Lib.hid ha
 have Hm := Lib.hid hm
 have Hb := Lib.hid hb
 have HU := Lib.hid hU
 have HV := Lib.hid hV
 have Hq := Lib.hid hq
 have HREC := Lib.hid hrec
 have Hnn := Lib.hid hnn
 have Hp := Lib.hid hp
 have HD := Lib.hid hD
 have HbI := Lib.hid (show IntKind.i64.wrap (st0 : Int) = (st0 : Int) by rw [IntKind.wrap_i64]; omega)
 clear h hB ha hm hb hU hV hq hlen hul hvl hrec hnn hp hst h2U h2V hD hmid
 obtain ⟨bq, hbq⟩ : ∃ bq, decide (mid < m) = bq := ⟨_, rfl⟩
 have g1 : decide ((m : Int) > (mid : Int)) = bq := by rw [← hbq]; exact decide_eq_decide.2 (by omega)
 have g2 : decide ((mid : Int) < (m : Int)) = bq := by rw [← hbq]; exact decide_eq_decide.2 (by omega)
 have Hbq := Lib.hid hbq
 go_enter Tryz.func190, Tryz.ntmps190
 go_upto_if 140 with fail
 clear g1 g2
 clear e0 wul b0 e1 wvl b1 wnn wmid wp
 go_cut [20, 21] from 141 to 147 (fun s20 s21 wx => s20 = i64 (st0 : Int) ∧ s21 = i64 (r0 : Int) ∧ wx = w)
 case first =>
  rcases Hst.out with ⟨q1, q2, q3⟩ | ⟨q1, q2, q3⟩
  ·obtain rfl : bq = true := by rw [← Hbq.out]; exact decide_eq_true q1
   have e5 : (nn : Int) - (b : Int) = (st0 : Int) := by omega
   have w5 := HbI.out
   have Q3 := Lib.hid q3
   clear q1 q2 q3
   go_wp2_with fail
   go_meet
   exact ⟨rfl, by rw [Q3.out], rfl⟩
  ·obtain rfl : bq = false := by rw [← Hbq.out]; exact decide_eq_false (by omega)
   have Q2 := Lib.hid q2
   have Q3 := Lib.hid q3
   clear q1 q2 q3
   go_wp2_with fail
   go_meet
   exact ⟨by rw [Q2.out], by rw [Q3.out], rfl⟩
 case rest =>
  obtain ⟨rfl, rfl, hwx⟩ := hcut
  obtain rfl : w = wc := hwx.symm
  have wp : IntKind.i64.wrap (p : Int) = (p : Int) := by rw [IntKind.wrap_i64]; have := Hp.out; have := Hnn.out; omega
  go_wp2_with fail
  clear wp
  go_loopw [20, 21] (fun i20 i21 wr => ∃ (s r : Nat), i20 = i64 (s : Int) ∧ i21 = i64 (r : Int) ∧ st0 ≤ s ∧ s ≤ r ∧ r ≤ r0 ∧ Hid (s = st0 ∨ ∃ (i j : Nat) (hi : i < U.length) (hj : j < V.length), a + i + 1 = s ∧ m + j + s = nn ∧ ltM V[j] U[i] = false) ∧ Hid (r = r0 ∨ ∃ (i j : Nat) (hi : i < U.length) (hj : j < V.length), a + i = r ∧ m + j + 1 + r = nn ∧ ltM V[j] U[i] = true) ∧ Hid (RowM wr B g n cap (P ++ U ++ V ++ Q)) ∧ Hid (Below B w wr)) (fun i20 i21 _ => (intOf i21).toNat - (intOf i20).toNat)
  case atStart => exact ⟨st0, r0, rfl, rfl, Nat.le_refl _, t2, Nat.le_refl _, Lib.hid (.inl rfl), Lib.hid (.inl rfl), H, Lib.hid (Below.refl _ _)⟩
  case round =>
   obtain ⟨s, r, rfl, rfl, h1, h2, h3, Hs, Hr, HR, Hbw⟩ := hrel
   obtain ⟨wi, rfl⟩ : ∃ wi, wi = wr := ⟨wr, rfl⟩
   by_cases hlt : s < r
   ·have g1 : decide ((s : Int) < (r : Int)) = true := decide_eq_true (by omega)
    have g2 : decide (s < r) = true := decide_eq_true hlt
    obtain ⟨c, hc⟩ : ∃ c : Nat, c = (s + r) / 2 := ⟨_, rfl⟩
    have ec : ((s : Int) + (r : Int)) / 2 = (c : Int) := by omega
    have hc1 : s ≤ c := by omega
    have hc2 : c < r := by omega
    have hpn := Hp.out
    have hnn := Hnn.out
    obtain ⟨i, hi⟩ : ∃ i, c = a + i := ⟨c - a, by omega⟩
    obtain ⟨pc, hpc⟩ : ∃ pc : Nat, pc + c = p := ⟨p - c, by omega⟩
    obtain ⟨j, hj⟩ : ∃ j, pc = m + j := ⟨pc - m, by omega⟩
    have hiU : i < U.length := by have := Hm.out; omega
    have hjV : j < V.length := by have := Hb.out; omega
    have epc : (p : Int) - (c : Int) = (pc : Int) := by omega
    obtain ⟨y, hye⟩ : ∃ y, U[i] = y := ⟨_, rfl⟩
    obtain ⟨x, hxe⟩ : ∃ x, V[j] = x := ⟨_, rfl⟩
    have HRy := Lib.hid (show RowM wi B g n cap ((P ++ U.take i) ++ y :: (U.drop (i + 1) ++ V ++ Q)) by
     have e : U = U.take i ++ y :: U.drop (i + 1) := by rw [← hye, ← List.drop_eq_getElem_cons hiU, List.take_append_drop]
     have h1 := HR.out
     rw [show P ++ U ++ V ++ Q = P ++ (U.take i ++ y :: U.drop (i + 1)) ++ V ++ Q by rw [← e]] at h1
     simpa using h1)
    have HRx := Lib.hid (show RowM wi B g n cap ((P ++ U ++ V.take j) ++ x :: (V.drop (j + 1) ++ Q)) by
     have e : V = V.take j ++ x :: V.drop (j + 1) := by rw [← hxe, ← List.drop_eq_getElem_cons hjV, List.take_append_drop]
     have h1 := HR.out
     rw [show P ++ U ++ V ++ Q = P ++ U ++ (V.take j ++ x :: V.drop (j + 1)) ++ Q by rw [← e]] at h1
     simpa using h1)
    have Hyl := Lib.hid (show c = (P ++ U.take i).length by have := Ha.out; simp; omega)
    have Hxl := Lib.hid (show pc = (P ++ U ++ V.take j).length by have := Ha.out; have := Hm.out; simp; omega)
    have Hyo := Lib.hid (show okMv y from Hq.out y (by rw [← hye]; exact List.mem_append.2 (.inl (List.getElem_mem hiU))))
    have Hxo := Lib.hid (show okMv x from Hq.out x (by rw [← hxe]; exact List.mem_append.2 (.inr (List.getElem_mem hjV))))
    have HT := Lib.hid (show ltM x y = false → ∃ (i j : Nat) (hi : i < U.length) (hj : j < V.length), a + i + 1 = c + 1 ∧ m + j + (c + 1) = nn ∧ ltM V[j] U[i] = false from fun hl => ⟨i, j, hiU, hjV, by omega, by omega, by rw [hxe, hye]; exact hl⟩)
    have HFa := Lib.hid (show ltM x y = true → ∃ (i j : Nat) (hi : i < U.length) (hj : j < V.length), a + i = c ∧ m + j + 1 + c = nn ∧ ltM V[j] U[i] = true from fun hl => ⟨i, j, hiU, hjV, by omega, by omega, by rw [hxe, hye]; exact hl⟩)
    have i0 : (0 : Int) ≤ (c : Int) := by omega
    have i1 : (c : Int) < (n : Int) := by omega
    have i2 : (0 : Int) ≤ (pc : Int) := by omega
    have i3 : (pc : Int) < (n : Int) := by have := Hb.out; omega
    have c6 : c ≤ 60000 := by omega
    have Wpc := Lib.hid (show IntKind.i64.wrap (pc : Int) = (pc : Int) by rw [IntKind.wrap_i64]; omega)
    obtain ⟨cq, hcq⟩ : ∃ cq, cmpM x y = cq := ⟨_, rfl⟩
    have Hcq := Lib.hid (show decide (cq < 0) = ltM x y by rw [← hcq, cmpM_lt])
    have HC : Hid (∀ V, Below wi.heap.size wi V → Calls Tryz.prog 89 #[x.v, y.v] V fun e w' => e = .returned (i64 cq) ∧ Below V.heap.size V w') := Lib.hid fun V hV => by
     rw [← hcq]
     exact acmp_c x y V (Enc.keep (α := Mv) (HRx.out.later hV).mid.1 (fun _ _ => rfl) (fun _ hb => hb.1)) (Enc.keep (α := Mv) (HRy.out.later hV).mid.1 (fun _ _ => rfl) (fun _ hb => hb.1)) Hxo.out Hyo.out
    clear hc hcq hi hj hye hxe hiU hjV hpc hpn hnn
    cases hl : ltM x y with
    | false =>
     have q1 : decide (cq < 0) = false := by rw [Hcq.out, hl]
     have HT2 := Lib.hid (HT.out hl)
     clear hl HT HFa
     go_upto_region 35 with fail
     refine wp_region_noPanic ?_
     refine wp_region_l 13 (fun _ : World => True) (by kernel_rfl) (trivial) (fun hH => ?_)
     have hbd := (Below.refl wi.heap.size wi).drew
     generalize wi.drew = Wd at *
     obtain ⟨-, x0, x1, x2, x3⟩ := (HRx.out.later hbd).mid' rfl Hxl.out
     obtain ⟨-, y0, y1, y2, y3⟩ := (HRy.out.later hbd).mid' rfl Hyl.out
     have wpc := Wpc.out
     refine tkY 0 (v := ?v20141) ?y20141 ?r20141
     case y20141 => (intro W hW; go_simp; try with_reducible rfl)
     try simp only [List.set]
     refine tkY 1 (v := ?v20142) ?y20142 ?r20142
     case y20142 => (intro W hW; go_simp; try with_reducible rfl)
     try simp only [List.set]
     refine tkY 2 (v := ?v20143) ?y20143 ?r20143
     case y20143 => (intro W hW; go_simp; try with_reducible rfl)
     try simp only [List.set]
     refine tkY 3 (v := ?v20144) ?y20144 ?r20144
     case y20144 => (intro W hW; go_simp; try with_reducible rfl)
     try simp only [List.set]
     refine tkY 4 (v := ?v20145) ?y20145 ?r20145
     case y20145 => (intro W hW; go_simp; try with_reducible rfl)
     try simp only [List.set]
     refine tkY 5 (v := ?v20146) ?y20146 ?r20146
     case y20146 => (intro W hW; go_simp; try with_reducible rfl)
     try simp only [List.set]
     refine tkY 7 (v := ?v20147) ?y20147 ?r20147
     case y20147 => (intro W hW; go_simp; try with_reducible rfl)
     try simp only [List.set]
     refine tkY 8 (v := ?v20148) ?y20148 ?r20148
     case y20148 => (intro W hW; go_simp; try with_reducible rfl)
     try simp only [List.set]
     refine tkY 9 (v := ?v20149) ?y20149 ?r20149
     case y20149 => (intro W hW; go_simp; try with_reducible rfl)
     try simp only [List.set]
     refine wpAnyL_ready (rs := [6, 10]) (by kernel_rfl) (by simp) ?_
     refine AllReadyL.cons rfl (fun K hK => ?_) ?_
     ·skip
      refine oper_load_mv 163 rfl g (pc * 4) x rfl x0 x1 x2 x3 ?_
      refine hK.out _ _ (trivial) (fun hH => ?_)
      clear hK K
      try simp only [Act.put, List.getElem_toArray, List.getElem_cons_zero, List.getElem_cons_succ, List.setIfInBounds_toArray, List.set_cons_zero, List.set_cons_succ]
      refine wpAnyL_one (i := 10) (by kernel_rfl) rfl (by decide) (fun K hK => ?_)
      refine oper_load_mv 167 rfl g (c * 4) y rfl y0 y1 y2 y3 ?_
      refine hK.out _ _ (trivial) (fun hH => ?_)
      clear hK K
      try simp only [Act.put, List.getElem_toArray, List.getElem_cons_zero, List.getElem_cons_succ, List.setIfInBounds_toArray, List.set_cons_zero, List.set_cons_succ]
      refine wpAnyL_one (i := 11) (by kernel_rfl) rfl (by decide) (fun K hK => ?_)
      refine oper_callv2 89 158 164 168 _ rfl rfl _ _ rfl rfl (enters_of Tryz.func89 (by kernel_rfl) rfl) ?_
      refine (HC.out _ hbd).mono ?_
      rintro e u1 ⟨rfl, hF⟩
      refine ⟨_, rfl, ?_⟩
      have HF1 := Lib.hid hF
      clear hF
      refine hK.out _ _ (trivial) (fun hH => ?_)
      clear hK K
      try simp only [Act.put, List.getElem_toArray, List.getElem_cons_zero, List.getElem_cons_succ, List.setIfInBounds_toArray, List.set_cons_zero, List.set_cons_succ]
      refine tkY 12 (v := ?v20150) ?y20150 ?r20150
      case y20150 => (intro W hW; go_simp; try with_reducible rfl)
      try simp only [List.set]
      refine wpAnyL_last (by kernel_rfl) rfl (fun K hK => ?_)
      go_simp
      refine hK.out _ _ ?_
      clear hK K
      try simp only [Act.put, List.getElem_toArray, List.getElem_cons_zero, List.getElem_cons_succ, List.setIfInBounds_toArray, List.set_cons_zero, List.set_cons_succ]
      refine wpAnyL_done (by kernel_rfl) ?_ _
      refine NoPanic.normal ?_
      clear hH wpc
      have hsz := Hbw.out.size
      have hbu := hbd.trans (HF1.out.mono hbd.size)
      have Hbd := Lib.hid (Hbw.out.trans (hbu.mono (Nat.le_trans HB.out hsz)))
      have HR3 := Lib.hid (HR.out.later hbu)
      clear hbu hbd HF1 x0 x1 x2 x3 y0 y1 y2 y3 HC
      go_wp2
      go_roundw
      case rel => exact ⟨c + 1, r, by go_num, rfl, by omega, by omega, h3, Lib.hid (.inr HT2.out), Hr, HR3, Hbd⟩
      case measure => simp [intOf]; omega
     refine AllReadyL.cons rfl (fun K hK => ?_) ?_
     ·skip
      refine oper_load_mv 167 rfl g (c * 4) y rfl y0 y1 y2 y3 ?_
      refine hK.out _ _ (trivial) (fun hH => ?_)
      clear hK K
      try simp only [Act.put, List.getElem_toArray, List.getElem_cons_zero, List.getElem_cons_succ, List.setIfInBounds_toArray, List.set_cons_zero, List.set_cons_succ]
      refine wpAnyL_one (i := 6) (by kernel_rfl) rfl (by decide) (fun K hK => ?_)
      refine oper_load_mv 163 rfl g (pc * 4) x rfl x0 x1 x2 x3 ?_
      refine hK.out _ _ (trivial) (fun hH => ?_)
      clear hK K
      try simp only [Act.put, List.getElem_toArray, List.getElem_cons_zero, List.getElem_cons_succ, List.setIfInBounds_toArray, List.set_cons_zero, List.set_cons_succ]
      refine wpAnyL_one (i := 11) (by kernel_rfl) rfl (by decide) (fun K hK => ?_)
      refine oper_callv2 89 158 164 168 _ rfl rfl _ _ rfl rfl (enters_of Tryz.func89 (by kernel_rfl) rfl) ?_
      refine (HC.out _ hbd).mono ?_
      rintro e u1 ⟨rfl, hF⟩
      refine ⟨_, rfl, ?_⟩
      have HF1 := Lib.hid hF
      clear hF
      refine hK.out _ _ (trivial) (fun hH => ?_)
      clear hK K
      try simp only [Act.put, List.getElem_toArray, List.getElem_cons_zero, List.getElem_cons_succ, List.setIfInBounds_toArray, List.set_cons_zero, List.set_cons_succ]
      refine tkY 12 (v := ?v20151) ?y20151 ?r20151
      case y20151 => (intro W hW; go_simp; try with_reducible rfl)
      try simp only [List.set]
      refine wpAnyL_last (by kernel_rfl) rfl (fun K hK => ?_)
      go_simp
      refine hK.out _ _ ?_
      clear hK K
      try simp only [Act.put, List.getElem_toArray, List.getElem_cons_zero, List.getElem_cons_succ, List.setIfInBounds_toArray, List.set_cons_zero, List.set_cons_succ]
      refine wpAnyL_done (by kernel_rfl) ?_ _
      refine NoPanic.normal ?_
      clear hH wpc
      have hsz := Hbw.out.size
      have hbu := hbd.trans (HF1.out.mono hbd.size)
      have Hbd := Lib.hid (Hbw.out.trans (hbu.mono (Nat.le_trans HB.out hsz)))
      have HR3 := Lib.hid (HR.out.later hbu)
      clear hbu hbd HF1 x0 x1 x2 x3 y0 y1 y2 y3 HC
      go_wp2
      go_roundw
      case rel => exact ⟨c + 1, r, by go_num, rfl, by omega, by omega, h3, Lib.hid (.inr HT2.out), Hr, HR3, Hbd⟩
      case measure => simp [intOf]; omega
     exact AllReadyL.nil
    | true =>
     have q1 : decide (cq < 0) = true := by rw [Hcq.out, hl]
     have HT2 := Lib.hid (HFa.out hl)
     clear hl HT HFa
     go_upto_region 35 with fail
     refine wp_region_noPanic ?_
     refine wp_region_l 13 (fun _ : World => True) (by kernel_rfl) (trivial) (fun hH => ?_)
     have hbd := (Below.refl wi.heap.size wi).drew
     generalize wi.drew = Wd at *
     obtain ⟨-, x0, x1, x2, x3⟩ := (HRx.out.later hbd).mid' rfl Hxl.out
     obtain ⟨-, y0, y1, y2, y3⟩ := (HRy.out.later hbd).mid' rfl Hyl.out
     have wpc := Wpc.out
     refine tkY 0 (v := ?v20152) ?y20152 ?r20152
     case y20152 => (intro W hW; go_simp; try with_reducible rfl)
     try simp only [List.set]
     refine tkY 1 (v := ?v20153) ?y20153 ?r20153
     case y20153 => (intro W hW; go_simp; try with_reducible rfl)
     try simp only [List.set]
     refine tkY 2 (v := ?v20154) ?y20154 ?r20154
     case y20154 => (intro W hW; go_simp; try with_reducible rfl)
     try simp only [List.set]
     refine tkY 3 (v := ?v20155) ?y20155 ?r20155
     case y20155 => (intro W hW; go_simp; try with_reducible rfl)
     try simp only [List.set]
     refine tkY 4 (v := ?v20156) ?y20156 ?r20156
     case y20156 => (intro W hW; go_simp; try with_reducible rfl)
     try simp only [List.set]
     refine tkY 5 (v := ?v20157) ?y20157 ?r20157
     case y20157 => (intro W hW; go_simp; try with_reducible rfl)
     try simp only [List.set]
     refine tkY 7 (v := ?v20158) ?y20158 ?r20158
     case y20158 => (intro W hW; go_simp; try with_reducible rfl)
     try simp only [List.set]
     refine tkY 8 (v := ?v20159) ?y20159 ?r20159
     case y20159 => (intro W hW; go_simp; try with_reducible rfl)
     try simp only [List.set]
     refine tkY 9 (v := ?v20160) ?y20160 ?r20160
     case y20160 => (intro W hW; go_simp; try with_reducible rfl)
     try simp only [List.set]
     refine wpAnyL_ready (rs := [6, 10]) (by kernel_rfl) (by simp) ?_
     refine AllReadyL.cons rfl (fun K hK => ?_) ?_
     ·skip
      refine oper_load_mv 163 rfl g (pc * 4) x rfl x0 x1 x2 x3 ?_
      refine hK.out _ _ (trivial) (fun hH => ?_)
      clear hK K
      try simp only [Act.put, List.getElem_toArray, List.getElem_cons_zero, List.getElem_cons_succ, List.setIfInBounds_toArray, List.set_cons_zero, List.set_cons_succ]
      refine wpAnyL_one (i := 10) (by kernel_rfl) rfl (by decide) (fun K hK => ?_)
      refine oper_load_mv 167 rfl g (c * 4) y rfl y0 y1 y2 y3 ?_
      refine hK.out _ _ (trivial) (fun hH => ?_)
      clear hK K
      try simp only [Act.put, List.getElem_toArray, List.getElem_cons_zero, List.getElem_cons_succ, List.setIfInBounds_toArray, List.set_cons_zero, List.set_cons_succ]
      refine wpAnyL_one (i := 11) (by kernel_rfl) rfl (by decide) (fun K hK => ?_)
      refine oper_callv2 89 158 164 168 _ rfl rfl _ _ rfl rfl (enters_of Tryz.func89 (by kernel_rfl) rfl) ?_
      refine (HC.out _ hbd).mono ?_
      rintro e u1 ⟨rfl, hF⟩
      refine ⟨_, rfl, ?_⟩
      have HF1 := Lib.hid hF
      clear hF
      refine hK.out _ _ (trivial) (fun hH => ?_)
      clear hK K
      try simp only [Act.put, List.getElem_toArray, List.getElem_cons_zero, List.getElem_cons_succ, List.setIfInBounds_toArray, List.set_cons_zero, List.set_cons_succ]
      refine tkY 12 (v := ?v20161) ?y20161 ?r20161
      case y20161 => (intro W hW; go_simp; try with_reducible rfl)
      try simp only [List.set]
      refine wpAnyL_last (by kernel_rfl) rfl (fun K hK => ?_)
      go_simp
      refine hK.out _ _ ?_
      clear hK K
      try simp only [Act.put, List.getElem_toArray, List.getElem_cons_zero, List.getElem_cons_succ, List.setIfInBounds_toArray, List.set_cons_zero, List.set_cons_succ]
      refine wpAnyL_done (by kernel_rfl) ?_ _
      refine NoPanic.normal ?_
      clear hH wpc
      have hsz := Hbw.out.size
      have hbu := hbd.trans (HF1.out.mono hbd.size)
      have Hbd := Lib.hid (Hbw.out.trans (hbu.mono (Nat.le_trans HB.out hsz)))
      have HR3 := Lib.hid (HR.out.later hbu)
      clear hbu hbd HF1 x0 x1 x2 x3 y0 y1 y2 y3 HC
      go_wp2
      go_roundw
      case rel => exact ⟨s, c, rfl, by go_num, h1, by omega, by omega, Hs, Lib.hid (.inr HT2.out), HR3, Hbd⟩
      case measure => simp [intOf]; omega
     refine AllReadyL.cons rfl (fun K hK => ?_) ?_
     ·skip
      refine oper_load_mv 167 rfl g (c * 4) y rfl y0 y1 y2 y3 ?_
      refine hK.out _ _ (trivial) (fun hH => ?_)
      clear hK K
      try simp only [Act.put, List.getElem_toArray, List.getElem_cons_zero, List.getElem_cons_succ, List.setIfInBounds_toArray, List.set_cons_zero, List.set_cons_succ]
      refine wpAnyL_one (i := 6) (by kernel_rfl) rfl (by decide) (fun K hK => ?_)
      refine oper_load_mv 163 rfl g (pc * 4) x rfl x0 x1 x2 x3 ?_
      refine hK.out _ _ (trivial) (fun hH => ?_)
      clear hK K
      try simp only [Act.put, List.getElem_toArray, List.getElem_cons_zero, List.getElem_cons_succ, List.setIfInBounds_toArray, List.set_cons_zero, List.set_cons_succ]
      refine wpAnyL_one (i := 11) (by kernel_rfl) rfl (by decide) (fun K hK => ?_)
      refine oper_callv2 89 158 164 168 _ rfl rfl _ _ rfl rfl (enters_of Tryz.func89 (by kernel_rfl) rfl) ?_
      refine (HC.out _ hbd).mono ?_
      rintro e u1 ⟨rfl, hF⟩
      refine ⟨_, rfl, ?_⟩
      have HF1 := Lib.hid hF
      clear hF
      refine hK.out _ _ (trivial) (fun hH => ?_)
      clear hK K
      try simp only [Act.put, List.getElem_toArray, List.getElem_cons_zero, List.getElem_cons_succ, List.setIfInBounds_toArray, List.set_cons_zero, List.set_cons_succ]
      refine tkY 12 (v := ?v20162) ?y20162 ?r20162
      case y20162 => (intro W hW; go_simp; try with_reducible rfl)
      try simp only [List.set]
      refine wpAnyL_last (by kernel_rfl) rfl (fun K hK => ?_)
      go_simp
      refine hK.out _ _ ?_
      clear hK K
      try simp only [Act.put, List.getElem_toArray, List.getElem_cons_zero, List.getElem_cons_succ, List.setIfInBounds_toArray, List.set_cons_zero, List.set_cons_succ]
      refine wpAnyL_done (by kernel_rfl) ?_ _
      refine NoPanic.normal ?_
      clear hH wpc
      have hsz := Hbw.out.size
      have hbu := hbd.trans (HF1.out.mono hbd.size)
      have Hbd := Lib.hid (Hbw.out.trans (hbu.mono (Nat.le_trans HB.out hsz)))
      have HR3 := Lib.hid (HR.out.later hbu)
      clear hbu hbd HF1 x0 x1 x2 x3 y0 y1 y2 y3 HC
      go_wp2
      go_roundw
      case rel => exact ⟨s, c, rfl, by go_num, h1, by omega, by omega, Hs, Lib.hid (.inr HT2.out), HR3, Hbd⟩
      case measure => simp [intOf]; omega
     exact AllReadyL.nil
   ·obtain rfl : s = r := by omega
    have g1 : decide ((s : Int) < (s : Int)) = false := decide_eq_false (by omega)
    have hpn := Hp.out
    have hnn := Hnn.out
    obtain ⟨en', hen⟩ : ∃ en' : Nat, en' + s = nn := ⟨nn - s, by omega⟩
    have ee : (nn : Int) - (s : Int) = (en' : Int) := by omega
    have hen1 : m ≤ en' := by omega
    have hen2 : en' ≤ b := by omega
    have hsm : s ≤ m := by omega
    have has : a ≤ s := by omega
    have hsd : s ≤ mid := by omega
    have hend : mid ≤ en' := by omega
    have hen6 : en' ≤ 60000 := by omega
    have HM := Lib.hid (sym_plain HU.out HV.out (s := s - a) (e := en' - m) (by have := Hm.out; omega) (by have := Hb.out; omega) (by
     rcases Hs.out with e | ⟨i, j, hi, hj, e1, e2, e3⟩
     ·rcases Hst.out with ⟨z1, z2, z3⟩ | ⟨z1, z2, z3⟩
      ·right; left; have := Hb.out; omega
      ·left; omega
     ·right; right
      have e4 : en' - m = j := by omega
      exact ⟨i, hi, by omega, by omega, by simp only [e4]; exact e3⟩) (by
     rcases Hr.out with e | ⟨i, j, hi, hj, e1, e2, e3⟩
     ·rcases Hst.out with ⟨z1, z2, z3⟩ | ⟨z1, z2, z3⟩
      ·right; left; omega
      ·left; have := Hm.out; omega
     ·right; right
      have e4 : s - a = i := by omega
      exact ⟨j, by omega, hj, by omega, by simp only [e4]; exact e3⟩))
    have Hfacts := Lib.hid (show (U.take (s - a)).length = s - a ∧ (U.drop (s - a)).length = m - s ∧ (V.take (en' - m)).length = en' - m ∧ (V.drop (en' - m)).length = b - en' ∧ en' - m = mid - s ∧ m - s = en' - mid by
     have := Hm.out
     have := Hb.out
     refine ⟨by rw [List.length_take]; omega, by rw [List.length_drop]; omega, by rw [List.length_take]; omega, by rw [List.length_drop]; omega, by omega, by omega⟩)
    have HUs1 := Lib.hid (show SortedB ltM (U.take (s - a)) from HU.out.sublist (List.take_sublist _ _))
    have HUs2 := Lib.hid (show SortedB ltM (U.drop (s - a)) from HU.out.sublist (List.drop_sublist _ _))
    have HVs1 := Lib.hid (show SortedB ltM (V.take (en' - m)) from HV.out.sublist (List.take_sublist _ _))
    have HVs2 := Lib.hid (show SortedB ltM (V.drop (en' - m)) from HV.out.sublist (List.drop_sublist _ _))
    have Hq1 := Lib.hid (show ∀ x ∈ U.take (s - a) ++ V.take (en' - m), okMv x from fun x hx => Hq.out x (by
     rcases List.mem_append.1 hx with hx | hx
     ·exact List.mem_append.2 (.inl (List.mem_of_mem_take hx))
     ·exact List.mem_append.2 (.inr (List.mem_of_mem_take hx))))
    have Hq2 := Lib.hid (show ∀ x ∈ U.drop (s - a) ++ V.drop (en' - m), okMv x from fun x hx => Hq.out x (by
     rcases List.mem_append.1 hx with hx | hx
     ·exact List.mem_append.2 (.inl (List.mem_of_mem_drop hx))
     ·exact List.mem_append.2 (.inr (List.mem_of_mem_drop hx))))
    have HR1 := Lib.hid (show RowM wi B g n cap (P ++ U.take (s - a) ++ U.drop (s - a) ++ V.take (en' - m) ++ (V.drop (en' - m) ++ Q)) by
     have h1 := HR.out
     rw [List.append_assoc P (U.take (s - a)), List.take_append_drop, List.append_assoc (P ++ U), ← List.append_assoc (V.take (en' - m)), List.take_append_drop]
     simpa using h1)
    have HDl := Lib.hid (show (U.take (s - a)).length + (V.take (en' - m)).length < D ∧ (U.drop (s - a)).length + (V.drop (en' - m)).length < D by
     obtain ⟨f1, f2, f3, f4, f5, f6⟩ := Hfacts.out
     have := HD.out
     have := Hm.out
     have := Hb.out
     omega)
    have Hpl := Lib.hid (show P.length = a from Ha.out)
    have hwB := Nat.le_trans HB.out Hbw.out.size
    have Hwe := Lib.hid (show IntKind.i64.wrap (en' : Int) = (en' : Int) by rw [IntKind.wrap_i64]; omega)
    clear Hs Hr HR hpn hnn hen
    generalize U.take (s - a) = U1 at *
    generalize U.drop (s - a) = U2 at *
    generalize V.take (en' - m) = V1 at *
    generalize V.drop (en' - m) = V2 at *
    have hwe := Hwe.out
    go_upto_region 39 with fail
    clear hwe
    have C1 : Hid (∀ W, RowM W B g n cap (P ++ U1 ++ U2 ++ V1 ++ (V2 ++ Q)) → Below B w W → s < m → m < en' → Calls Tryz.prog 214 #[.slice (some ⟨g, 0, none⟩) n cap, i64 s, i64 m, i64 en', .func (.func 89) #[] #[]] W fun e w' => e = .returned (.tuple #[]) ∧ Hid (RowM w' B g n cap (P ++ U1 ++ V1 ++ (U2 ++ V2 ++ Q))) ∧ Hid (Below B w w')) := Lib.hid fun W hR hb k1 k2 => (arot_c B g n cap s m en' (P ++ U1) U2 V1 (V2 ++ Q) (.func (.func 89) #[] #[]) W hR (by obtain ⟨f1, f2, f3, f4, f5, f6⟩ := Hfacts.out; rw [List.length_append, f1, Hpl.out]; omega) (by obtain ⟨f1, f2, f3, f4, f5, f6⟩ := Hfacts.out; omega) (by obtain ⟨f1, f2, f3, f4, f5, f6⟩ := Hfacts.out; omega) (by obtain ⟨f1, f2, f3, f4, f5, f6⟩ := Hfacts.out; omega) (by obtain ⟨f1, f2, f3, f4, f5, f6⟩ := Hfacts.out; omega) hn (Nat.le_trans HB.out hb.size)).mono fun e w' ⟨h1, h2, h3⟩ => ⟨h1, Lib.hid (by simpa [List.append_assoc] using h2), Lib.hid (hb.trans h3)⟩
    have Z1 : Hid (∀ W, Hid (RowM W B g n cap (P ++ U1 ++ U2 ++ V1 ++ (V2 ++ Q))) → ¬ s < m ∨ ¬ m < en' → Hid (RowM W B g n cap (P ++ U1 ++ V1 ++ (U2 ++ V2 ++ Q)))) := Lib.hid fun W hR hk => by
     have h9 := hR.out
     obtain ⟨f1, f2, f3, f4, f5, f6⟩ := Hfacts.out
     rcases hk with hk | hk
     ·have hz : U2 = [] := List.length_eq_zero_iff.1 (by omega)
      exact Lib.hid (by simpa [hz, mrg_nil, mrg_nil2, List.append_assoc] using h9)
     ·have hz : V1 = [] := List.length_eq_zero_iff.1 (by omega)
      exact Lib.hid (by simpa [hz, mrg_nil, mrg_nil2, List.append_assoc] using h9)
    have C2 : Hid (∀ W, RowM W B g n cap (P ++ U1 ++ V1 ++ (U2 ++ V2 ++ Q)) → Below B w W → a < s → s < mid → Calls Tryz.prog 190 #[.slice (some ⟨g, 0, none⟩) n cap, i64 a, i64 s, i64 mid, .func (.func 89) #[] #[]] W fun e w' => e = .returned (.tuple #[]) ∧ Hid (RowM w' B g n cap (P ++ mrg ltM U1 V1 ++ U2 ++ V2 ++ Q)) ∧ Hid (Below B w w')) := Lib.hid fun W hR hb k1 k2 => (HREC.out a s mid P U1 V1 (U2 ++ V2 ++ Q) W HDl.out.1 hR Hpl.out (by obtain ⟨f1, f2, f3, f4, f5, f6⟩ := Hfacts.out; omega) (by obtain ⟨f1, f2, f3, f4, f5, f6⟩ := Hfacts.out; omega) (by obtain ⟨f1, f2, f3, f4, f5, f6⟩ := Hfacts.out; omega) (by obtain ⟨f1, f2, f3, f4, f5, f6⟩ := Hfacts.out; omega) (Nat.le_trans HB.out hb.size) HUs1.out HVs1.out Hq1.out).mono fun e w' ⟨h1, h2, h3⟩ => ⟨h1, Lib.hid (by simpa [List.append_assoc] using h2), Lib.hid (hb.trans h3)⟩
    have Z2 : Hid (∀ W, Hid (RowM W B g n cap (P ++ U1 ++ V1 ++ (U2 ++ V2 ++ Q))) → ¬ a < s ∨ ¬ s < mid → Hid (RowM W B g n cap (P ++ mrg ltM U1 V1 ++ U2 ++ V2 ++ Q))) := Lib.hid fun W hR hk => by
     have h9 := hR.out
     obtain ⟨f1, f2, f3, f4, f5, f6⟩ := Hfacts.out
     rcases hk with hk | hk
     ·have hz : U1 = [] := List.length_eq_zero_iff.1 (by omega)
      exact Lib.hid (by simpa [hz, mrg_nil, mrg_nil2, List.append_assoc] using h9)
     ·have hz : V1 = [] := List.length_eq_zero_iff.1 (by omega)
      exact Lib.hid (by simpa [hz, mrg_nil, mrg_nil2, List.append_assoc] using h9)
    have C3 : Hid (∀ W, RowM W B g n cap (P ++ mrg ltM U1 V1 ++ U2 ++ V2 ++ Q) → Below B w W → mid < en' → en' < b → Calls Tryz.prog 190 #[.slice (some ⟨g, 0, none⟩) n cap, i64 mid, i64 en', i64 b, .func (.func 89) #[] #[]] W fun e w' => e = .returned (.tuple #[]) ∧ Hid (RowM w' B g n cap (P ++ (mrg ltM U1 V1 ++ mrg ltM U2 V2) ++ Q)) ∧ Hid (Below B w w')) := Lib.hid fun W hR hb k1 k2 => (HREC.out mid en' b (P ++ mrg ltM U1 V1) U2 V2 Q W HDl.out.2 hR (by obtain ⟨f1, f2, f3, f4, f5, f6⟩ := Hfacts.out; rw [List.length_append, mrg_len, Hpl.out]; omega) (by obtain ⟨f1, f2, f3, f4, f5, f6⟩ := Hfacts.out; omega) (by obtain ⟨f1, f2, f3, f4, f5, f6⟩ := Hfacts.out; omega) (by obtain ⟨f1, f2, f3, f4, f5, f6⟩ := Hfacts.out; omega) (by obtain ⟨f1, f2, f3, f4, f5, f6⟩ := Hfacts.out; omega) (Nat.le_trans HB.out hb.size) HUs2.out HVs2.out Hq2.out).mono fun e w' ⟨h1, h2, h3⟩ => ⟨h1, Lib.hid (by simpa [List.append_assoc] using h2), Lib.hid (hb.trans h3)⟩
    have Z3 : Hid (∀ W, Hid (RowM W B g n cap (P ++ mrg ltM U1 V1 ++ U2 ++ V2 ++ Q)) → ¬ mid < en' ∨ ¬ en' < b → Hid (RowM W B g n cap (P ++ (mrg ltM U1 V1 ++ mrg ltM U2 V2) ++ Q))) := Lib.hid fun W hR hk => by
     have h9 := hR.out
     obtain ⟨f1, f2, f3, f4, f5, f6⟩ := Hfacts.out
     rcases hk with hk | hk
     ·have hz : U2 = [] := List.length_eq_zero_iff.1 (by omega)
      exact Lib.hid (by simpa [hz, mrg_nil, mrg_nil2, List.append_assoc] using h9)
     ·have hz : V2 = [] := List.length_eq_zero_iff.1 (by omega)
      exact Lib.hid (by simpa [hz, mrg_nil, mrg_nil2, List.append_assoc] using h9)
    by_cases k1 : s < m
    ·have c11 := dltT k1
     by_cases k2 : m < en'
     ·have c12 := dltT k2
      have HS := Lib.hid (C1.out _ HR1.out Hbw.out k1 k2)
      clear k1 k2
      go_wp2_with fail
      refine HS.out.mono ?_
      rintro e w41 ⟨rfl, HR2, Hb1⟩
      clear HS
      by_cases k1 : a < s
      ·have c21 := dltT k1
       by_cases k2 : s < mid
       ·have c22 := dltT k2
        have HS := Lib.hid (C2.out _ HR2.out Hb1.out k1 k2)
        clear k1 k2
        go_wp2_with fail
        refine HS.out.mono ?_
        rintro e w42 ⟨rfl, HR3, Hb2⟩
        clear HS
        by_cases k1 : mid < en'
        ·have c31 := dltT k1
         by_cases k2 : en' < b
         ·have c32 := dltT k2
          have HS := Lib.hid (C3.out _ HR3.out Hb2.out k1 k2)
          clear k1 k2
          go_wp2_with fail
          refine HS.out.mono ?_
          rintro e w43 ⟨rfl, HR4, Hb3⟩
          clear HS
          go_wp2
          go_end0
          exact ⟨rfl, by rw [HM.out]; exact HR4.out, Hb3.out⟩
         ·have c32 := dltF k2
          have HR4 := Z3.out _ HR3 (.inr k2)
          have Hb3 := Hb2
          clear k1 k2
          go_wp2
          go_end0
          exact ⟨rfl, by rw [HM.out]; exact HR4.out, Hb3.out⟩
        ·have c31 := dltF k1
         have HR4 := Z3.out _ HR3 (.inl k1)
         have Hb3 := Hb2
         clear k1
         go_wp2
         go_end0
         exact ⟨rfl, by rw [HM.out]; exact HR4.out, Hb3.out⟩
       ·have c22 := dltF k2
        have HR3 := Z2.out _ HR2 (.inr k2)
        have Hb2 := Hb1
        clear k1 k2
        by_cases k1 : mid < en'
        ·have c31 := dltT k1
         by_cases k2 : en' < b
         ·have c32 := dltT k2
          have HS := Lib.hid (C3.out _ HR3.out Hb2.out k1 k2)
          clear k1 k2
          go_wp2_with fail
          refine HS.out.mono ?_
          rintro e w44 ⟨rfl, HR4, Hb3⟩
          clear HS
          go_wp2
          go_end0
          exact ⟨rfl, by rw [HM.out]; exact HR4.out, Hb3.out⟩
         ·have c32 := dltF k2
          have HR4 := Z3.out _ HR3 (.inr k2)
          have Hb3 := Hb2
          clear k1 k2
          go_wp2
          go_end0
          exact ⟨rfl, by rw [HM.out]; exact HR4.out, Hb3.out⟩
        ·have c31 := dltF k1
         have HR4 := Z3.out _ HR3 (.inl k1)
         have Hb3 := Hb2
         clear k1
         go_wp2
         go_end0
         exact ⟨rfl, by rw [HM.out]; exact HR4.out, Hb3.out⟩
      ·have c21 := dltF k1
       have HR3 := Z2.out _ HR2 (.inl k1)
       have Hb2 := Hb1
       clear k1
       by_cases k1 : mid < en'
       ·have c31 := dltT k1
        by_cases k2 : en' < b
        ·have c32 := dltT k2
         have HS := Lib.hid (C3.out _ HR3.out Hb2.out k1 k2)
         clear k1 k2
         go_wp2_with fail
         refine HS.out.mono ?_
         rintro e w45 ⟨rfl, HR4, Hb3⟩
         clear HS
         go_wp2
         go_end0
         exact ⟨rfl, by rw [HM.out]; exact HR4.out, Hb3.out⟩
        ·have c32 := dltF k2
         have HR4 := Z3.out _ HR3 (.inr k2)
         have Hb3 := Hb2
         clear k1 k2
         go_wp2
         go_end0
         exact ⟨rfl, by rw [HM.out]; exact HR4.out, Hb3.out⟩
       ·have c31 := dltF k1
        have HR4 := Z3.out _ HR3 (.inl k1)
        have Hb3 := Hb2
        clear k1
        go_wp2
        go_end0
        exact ⟨rfl, by rw [HM.out]; exact HR4.out, Hb3.out⟩
     ·have c12 := dltF k2
      have HR2 := Z1.out _ HR1 (.inr k2)
      have Hb1 := Hbw
      clear k1 k2
      by_cases k1 : a < s
      ·have c21 := dltT k1
       by_cases k2 : s < mid
       ·have c22 := dltT k2
        have HS := Lib.hid (C2.out _ HR2.out Hb1.out k1 k2)
        clear k1 k2
        go_wp2_with fail
        refine HS.out.mono ?_
        rintro e w46 ⟨rfl, HR3, Hb2⟩
        clear HS
        by_cases k1 : mid < en'
        ·have c31 := dltT k1
         by_cases k2 : en' < b
         ·have c32 := dltT k2
          have HS := Lib.hid (C3.out _ HR3.out Hb2.out k1 k2)
          clear k1 k2
          go_wp2_with fail
          refine HS.out.mono ?_
          rintro e w47 ⟨rfl, HR4, Hb3⟩
          clear HS
          go_wp2
          go_end0
          exact ⟨rfl, by rw [HM.out]; exact HR4.out, Hb3.out⟩
         ·have c32 := dltF k2
          have HR4 := Z3.out _ HR3 (.inr k2)
          have Hb3 := Hb2
          clear k1 k2
          go_wp2
          go_end0
          exact ⟨rfl, by rw [HM.out]; exact HR4.out, Hb3.out⟩
        ·have c31 := dltF k1
         have HR4 := Z3.out _ HR3 (.inl k1)
         have Hb3 := Hb2
         clear k1
         go_wp2
         go_end0
         exact ⟨rfl, by rw [HM.out]; exact HR4.out, Hb3.out⟩
       ·have c22 := dltF k2
        have HR3 := Z2.out _ HR2 (.inr k2)
        have Hb2 := Hb1
        clear k1 k2
        by_cases k1 : mid < en'
        ·have c31 := dltT k1
         by_cases k2 : en' < b
         ·have c32 := dltT k2
          have HS := Lib.hid (C3.out _ HR3.out Hb2.out k1 k2)
          clear k1 k2
          go_wp2_with fail
          refine HS.out.mono ?_
          rintro e w48 ⟨rfl, HR4, Hb3⟩
          clear HS
          go_wp2
          go_end0
          exact ⟨rfl, by rw [HM.out]; exact HR4.out, Hb3.out⟩
         ·have c32 := dltF k2
          have HR4 := Z3.out _ HR3 (.inr k2)
          have Hb3 := Hb2
          clear k1 k2
          go_wp2
          go_end0
          exact ⟨rfl, by rw [HM.out]; exact HR4.out, Hb3.out⟩
        ·have c31 := dltF k1
         have HR4 := Z3.out _ HR3 (.inl k1)
         have Hb3 := Hb2
         clear k1
         go_wp2
         go_end0
         exact ⟨rfl, by rw [HM.out]; exact HR4.out, Hb3.out⟩
      ·have c21 := dltF k1
       have HR3 := Z2.out _ HR2 (.inl k1)
       have Hb2 := Hb1
       clear k1
       by_cases k1 : mid < en'
       ·have c31 := dltT k1
        by_cases k2 : en' < b
        ·have c32 := dltT k2
         have HS := Lib.hid (C3.out _ HR3.out Hb2.out k1 k2)
         clear k1 k2
         go_wp2_with fail
         refine HS.out.mono ?_
         rintro e w49 ⟨rfl, HR4, Hb3⟩
         clear HS
         go_wp2
         go_end0
         exact ⟨rfl, by rw [HM.out]; exact HR4.out, Hb3.out⟩
        ·have c32 := dltF k2
         have HR4 := Z3.out _ HR3 (.inr k2)
         have Hb3 := Hb2
         clear k1 k2
         go_wp2
         go_end0
         exact ⟨rfl, by rw [HM.out]; exact HR4.out, Hb3.out⟩
       ·have c31 := dltF k1
        have HR4 := Z3.out _ HR3 (.inl k1)
        have Hb3 := Hb2
        clear k1
        go_wp2
        go_end0
        exact ⟨rfl, by rw [HM.out]; exact HR4.out, Hb3.out⟩
    ·have c11 := dltF k1
     have HR2 := Z1.out _ HR1 (.inl k1)
     have Hb1 := Hbw
     clear k1
     by_cases k1 : a < s
     ·have c21 := dltT k1
      by_cases k2 : s < mid
      ·have c22 := dltT k2
       have HS := Lib.hid (C2.out _ HR2.out Hb1.out k1 k2)
       clear k1 k2
       go_wp2_with fail
       refine HS.out.mono ?_
       rintro e w50 ⟨rfl, HR3, Hb2⟩
       clear HS
       by_cases k1 : mid < en'
       ·have c31 := dltT k1
        by_cases k2 : en' < b
        ·have c32 := dltT k2
         have HS := Lib.hid (C3.out _ HR3.out Hb2.out k1 k2)
         clear k1 k2
         go_wp2_with fail
         refine HS.out.mono ?_
         rintro e w51 ⟨rfl, HR4, Hb3⟩
         clear HS
         go_wp2
         go_end0
         exact ⟨rfl, by rw [HM.out]; exact HR4.out, Hb3.out⟩
        ·have c32 := dltF k2
         have HR4 := Z3.out _ HR3 (.inr k2)
         have Hb3 := Hb2
         clear k1 k2
         go_wp2
         go_end0
         exact ⟨rfl, by rw [HM.out]; exact HR4.out, Hb3.out⟩
       ·have c31 := dltF k1
        have HR4 := Z3.out _ HR3 (.inl k1)
        have Hb3 := Hb2
        clear k1
        go_wp2
        go_end0
        exact ⟨rfl, by rw [HM.out]; exact HR4.out, Hb3.out⟩
      ·have c22 := dltF k2
       have HR3 := Z2.out _ HR2 (.inr k2)
       have Hb2 := Hb1
       clear k1 k2
       by_cases k1 : mid < en'
       ·have c31 := dltT k1
        by_cases k2 : en' < b
        ·have c32 := dltT k2
         have HS := Lib.hid (C3.out _ HR3.out Hb2.out k1 k2)
         clear k1 k2
         go_wp2_with fail
         refine HS.out.mono ?_
         rintro e w52 ⟨rfl, HR4, Hb3⟩
         clear HS
         go_wp2
         go_end0
         exact ⟨rfl, by rw [HM.out]; exact HR4.out, Hb3.out⟩
        ·have c32 := dltF k2
         have HR4 := Z3.out _ HR3 (.inr k2)
         have Hb3 := Hb2
         clear k1 k2
         go_wp2
         go_end0
         exact ⟨rfl, by rw [HM.out]; exact HR4.out, Hb3.out⟩
       ·have c31 := dltF k1
        have HR4 := Z3.out _ HR3 (.inl k1)
        have Hb3 := Hb2
        clear k1
        go_wp2
        go_end0
        exact ⟨rfl, by rw [HM.out]; exact HR4.out, Hb3.out⟩
     ·have c21 := dltF k1
      have HR3 := Z2.out _ HR2 (.inl k1)
      have Hb2 := Hb1
      clear k1
      by_cases k1 : mid < en'
      ·have c31 := dltT k1
       by_cases k2 : en' < b
       ·have c32 := dltT k2
        have HS := Lib.hid (C3.out _ HR3.out Hb2.out k1 k2)
        clear k1 k2
        go_wp2_with fail
        refine HS.out.mono ?_
        rintro e w53 ⟨rfl, HR4, Hb3⟩
        clear HS
        go_wp2
        go_end0
        exact ⟨rfl, by rw [HM.out]; exact HR4.out, Hb3.out⟩
       ·have c32 := dltF k2
        have HR4 := Z3.out _ HR3 (.inr k2)
        have Hb3 := Hb2
        clear k1 k2
        go_wp2
        go_end0
        exact ⟨rfl, by rw [HM.out]; exact HR4.out, Hb3.out⟩
      ·have c31 := dltF k1
       have HR4 := Z3.out _ HR3 (.inl k1)
       have Hb3 := Hb2
       clear k1
       go_wp2
       go_end0
       exact ⟨rfl, by rw [HM.out]; exact HR4.out, Hb3.out⟩
theorem asym_c (B g n cap : Nat) (hn : n ≤ 60000) : ∀ (D a m b : Nat) (P U V Q : List Mv) (w : World), U.length + V.length = D → RowM w B g n cap (P ++ U ++ V ++ Q) → P.length = a → a + U.length = m → m + V.length = b → 0 < U.length → 0 < V.length → B ≤ w.heap.size → SortedB ltM U → SortedB ltM V → (∀ x ∈ U ++ V, okMv x) →
  Calls Tryz.prog 190 #[.slice (some ⟨g, 0, none⟩) n cap, i64 a, i64 m, i64 b, .func (.func 89) #[] #[]] w fun e w' => e = .returned (.tuple #[]) ∧ RowM w' B g n cap (P ++ mrg ltM U V ++ Q) ∧ Below B w w' := by
 intro D
 induction D using Nat.strongRecOn with
 | ind D ih =>
  intro a m b P U V Q w hD h ha hm hb hU0 hV0 hB hU hV hq
  by_cases h1 : U.length = 1
  ·obtain ⟨y, rfl⟩ := List.length_eq_one_iff.1 h1
   exact asym1_c B g n cap a m b P V Q y w (by simpa using h) ha (by simpa using hm) hb hn hB hV (hq y (by simp)) (fun x hx => hq x (by simp [hx]))
  ·by_cases h2 : V.length = 1
   ·obtain ⟨x, rfl⟩ := List.length_eq_one_iff.1 h2
    exact asym2_c B g n cap a m b P U Q x w (by simpa using h) ha hm (by simpa using hb) (by omega) hn hB hU (hq x (by simp)) (fun y hy => hq y (by simp [hy]))
   ·exact asym3_c D B g n cap a m b P U V Q w h ha hm hb (by omega) (by omega) hD hn hB hU hV hq (fun a m b P U V Q W hlt h1 h2 h3 h4 h5 h6 h7 h8 h9 h10 => ih _ hlt a m b P U V Q W rfl h1 h2 h3 h4 h5 h6 h7 h8 h9 h10)
end Go.Proofs.YtgholbeehkfbiaaGreat
