/- Texts of this claim, laid together: AuS4, BlP, AuS5, AuS6. -/
import Derived.Test.YtampniiehgimhaaGreatRows
import Derived.Test.YtampniiehgimhaaGreatBq35
import Derived.WalkKit
import Derived.WalkSpells
import Derived.WalkLawsBesides
import Derived.Deep.QuietTactic
import Derived.BigQuiet
import Derived.Laws.StructEq
import Derived.Deep.DeepFit
import Derived.StillTailTactics
import Derived.Test.YtampniiehgimhaaGreatBq33
import Derived.Test.YtampniiehgimhaaGreatBq34

/- audit: sorting moves: symMerge -/
namespace Go.Proofs.YtampniiehgimhaaGreat
open Go.RowKit
theorem dltT {x y : Nat} (h : x < y) : decide ((x : Int) < (y : Int)) = true ∧ decide (x < y) = true := ⟨decide_eq_true (by omega), decide_eq_true h⟩
theorem dltF {x y : Nat} (h : ¬ x < y) : decide ((x : Int) < (y : Int)) = false ∧ decide (x < y) = false := ⟨decide_eq_false (by omega), decide_eq_false h⟩
theorem part_z {α : Type} (l : List α) (k : Nat) (_h : k = l.length ∨ k = 0) : l.take k ++ l.drop k = l := List.take_append_drop k l
set_option maxRecDepth 100000 in
set_option maxHeartbeats 16000000 in
theorem asym3_c (D B g n cap a m b : Nat) (P U V Q : List Mv) (w : World) (h : RowM w B g n cap (P ++ U ++ V ++ Q)) (ha : P.length = a) (hm : a + U.length = m) (hb : m + V.length = b) (h2U : 2 ≤ U.length) (h2V : 2 ≤ V.length) (hD : U.length + V.length = D) (hn : n ≤ 60000) (hB : B ≤ w.heap.size) (hU : SortedB ltM U) (hV : SortedB ltM V) (hq : ∀ x ∈ U ++ V, okMv x)
  (hrec : ∀ (a m b : Nat) (P U V Q : List Mv) (W : World), U.length + V.length < D → RowM W B g n cap (P ++ U ++ V ++ Q) → P.length = a → a + U.length = m → m + V.length = b → 0 < U.length → 0 < V.length → B ≤ W.heap.size → SortedB ltM U → SortedB ltM V → (∀ x ∈ U ++ V, okMv x) → Calls Tryz.prog 180 #[.slice (some ⟨g, 0, none⟩) n cap, i64 a, i64 m, i64 b, .func (.func 83) #[] #[]] W fun e w' => e = .returned (.tuple #[]) ∧ RowM w' B g n cap (P ++ mrg ltM U V ++ Q) ∧ Below B W w') :
  Calls Tryz.prog 180 #[.slice (some ⟨g, 0, none⟩) n cap, i64 a, i64 m, i64 b, .func (.func 83) #[] #[]] w fun e w' => e = .returned (.tuple #[]) ∧ RowM w' B g n cap (P ++ mrg ltM U V ++ Q) ∧ Below B w w' := by
 have hlen := h.len
 simp only [List.length_append] at hlen
 have hcn := h.capn
 have hbn : b ≤ n := by omega
 obtain ⟨ul, hul⟩ : ∃ ul, U.length = ul := ⟨_, rfl⟩
 obtain ⟨vl, hvl⟩ : ∃ vl, V.length = vl := ⟨_, rfl⟩
 have e0 : (m : Int) - (a : Int) = (ul : Int) := by omega
 have wul : IntKind.i64.wrap (ul : Int) = (ul : Int) := by rw [IntKind.wrap_i64]; omega
 have b0 : ((ul : Int) == 1) = false := by rw [beq_eq_false_iff_ne]; omega
 have e1 : (b : Int) - (m : Int) = (vl : Int) := by omega
 have wvl : IntKind.i64.wrap (vl : Int) = (vl : Int) := by rw [IntKind.wrap_i64]; omega
 have b1 : ((vl : Int) == 1) = false := by rw [beq_eq_false_iff_ne]; omega
 obtain ⟨mid, hmid⟩ : ∃ mid : Nat, mid = (a + b) / 2 := ⟨_, rfl⟩
 have em : ((a : Int) + (b : Int)) / 2 = (mid : Int) := by omega
 obtain ⟨nn, hnn⟩ : ∃ nn : Nat, nn = mid + m := ⟨_, rfl⟩
 have en : (mid : Int) + (m : Int) = (nn : Int) := by omega
 have wnn : IntKind.i64.wrap (nn : Int) = (nn : Int) := by rw [IntKind.wrap_i64]; omega
 have wmid : IntKind.i64.wrap (mid : Int) = (mid : Int) := by rw [IntKind.wrap_i64]; omega
 obtain ⟨p, hp⟩ : ∃ p : Nat, nn = p + 1 := ⟨nn - 1, by omega⟩
 have ep : (nn : Int) - 1 = (p : Int) := by omega
 have wp : IntKind.i64.wrap (p : Int) = (p : Int) := by rw [IntKind.wrap_i64]; omega
 have hm1 : a < mid := by omega
 have hm2 : mid < b := by omega
 have hm3 : a < m := by omega
 have hm4 : m < b := by omega
 obtain ⟨st0, r0, hst⟩ : ∃ st0 r0 : Nat, (mid < m ∧ st0 + b = nn ∧ r0 = mid) ∨ (m ≤ mid ∧ st0 = a ∧ r0 = m) := by
  by_cases hc : mid < m
  ·exact ⟨nn - b, mid, .inl ⟨hc, by omega, rfl⟩⟩
  ·exact ⟨a, m, .inr ⟨by omega, rfl, rfl⟩⟩
 have hs0 : a ≤ st0 ∧ st0 ≤ r0 ∧ r0 ≤ m ∧ r0 ≤ mid ∧ nn ≤ st0 + b := by rcases hst with ⟨h1, h2, h3⟩ | ⟨h1, h2, h3⟩ <;> omega
 obtain ⟨t1, t2, t3, t4, t5⟩ := hs0
 have hmn : m ≤ 60000 := by omega
 have hmd : mid ≤ 60000 := by omega
 have Hst := Lib.hid hst
 have H := Lib.hid h
 have HB := Lib.hid hB
 have Ha := Lib.hid ha
 have Hm := Lib.hid hm
 have Hb := Lib.hid hb
 have HU := Lib.hid hU
 have HV := Lib.hid hV
 have Hq := Lib.hid hq
 have HREC := Lib.hid hrec
 have Hnn := Lib.hid hnn
 have Hp := Lib.hid hp
 have HD := Lib.hid hD
 have HbI := Lib.hid (show IntKind.i64.wrap (st0 : Int) = (st0 : Int) by rw [IntKind.wrap_i64]; omega)
 clear h hB ha hm hb hU hV hq hlen hul hvl hrec hnn hp hst h2U h2V hD hmid
 obtain ⟨bq, hbq⟩ : ∃ bq, decide (mid < m) = bq := ⟨_, rfl⟩
 have g1 : decide ((m : Int) > (mid : Int)) = bq := by rw [← hbq]; exact decide_eq_decide.2 (by omega)
 have g2 : decide ((mid : Int) < (m : Int)) = bq := by rw [← hbq]; exact decide_eq_decide.2 (by omega)
 have Hbq := Lib.hid hbq
 go_enter Tryz.func180, Tryz.ntmps180
 go_upto_if 140 with fail
 clear g1 g2
 clear e0 wul b0 e1 wvl b1 wnn wmid wp
 go_cut [20, 21] from 141 to 147 (fun s20 s21 wx => s20 = i64 (st0 : Int) ∧ s21 = i64 (r0 : Int) ∧ wx = w)
 case first =>
  rcases Hst.out with ⟨q1, q2, q3⟩ | ⟨q1, q2, q3⟩
  ·obtain rfl : bq = true := by rw [← Hbq.out]; exact decide_eq_true q1
   have e5 : (nn : Int) - (b : Int) = (st0 : Int) := by omega
   have w5 := HbI.out
   have Q3 := Lib.hid q3
   clear q1 q2 q3
   go_wp2_with fail
   go_meet
   exact ⟨rfl, by rw [Q3.out], rfl⟩
  ·obtain rfl : bq = false := by rw [← Hbq.out]; exact decide_eq_false (by omega)
   have Q2 := Lib.hid q2
   have Q3 := Lib.hid q3
   clear q1 q2 q3
   go_wp2_with fail
   go_meet
   exact ⟨by rw [Q2.out], by rw [Q3.out], rfl⟩
 case rest =>
  obtain ⟨rfl, rfl, hwx⟩ := hcut
  obtain rfl : w = wc := hwx.symm
  have wp : IntKind.i64.wrap (p : Int) = (p : Int) := by rw [IntKind.wrap_i64]; have := Hp.out; have := Hnn.out; omega
  go_wp2_with fail
  clear wp
  go_loopw [20, 21] (fun i20 i21 wr => ∃ (s r : Nat), i20 = i64 (s : Int) ∧ i21 = i64 (r : Int) ∧ st0 ≤ s ∧ s ≤ r ∧ r ≤ r0 ∧ Hid (s = st0 ∨ ∃ (i j : Nat) (hi : i < U.length) (hj : j < V.length), a + i + 1 = s ∧ m + j + s = nn ∧ ltM V[j] U[i] = false) ∧ Hid (r = r0 ∨ ∃ (i j : Nat) (hi : i < U.length) (hj : j < V.length), a + i = r ∧ m + j + 1 + r = nn ∧ ltM V[j] U[i] = true) ∧ Hid (RowM wr B g n cap (P ++ U ++ V ++ Q)) ∧ Hid (Below B w wr)) (fun i20 i21 _ => (intOf i21).toNat - (intOf i20).toNat)
  case atStart => exact ⟨st0, r0, rfl, rfl, Nat.le_refl _, t2, Nat.le_refl _, Lib.hid (.inl rfl), Lib.hid (.inl rfl), H, Lib.hid (Below.refl _ _)⟩
  case round =>
   obtain ⟨s, r, rfl, rfl, h1, h2, h3, Hs, Hr, HR, Hbw⟩ := hrel
   obtain ⟨wi, rfl⟩ : ∃ wi, wi = wr := ⟨wr, rfl⟩
   by_cases hlt : s < r
   ·have g1 : decide ((s : Int) < (r : Int)) = true := decide_eq_true (by omega)
    have g2 : decide (s < r) = true := decide_eq_true hlt
    obtain ⟨c, hc⟩ : ∃ c : Nat, c = (s + r) / 2 := ⟨_, rfl⟩
    have ec : ((s : Int) + (r : Int)) / 2 = (c : Int) := by omega
    have hc1 : s ≤ c := by omega
    have hc2 : c < r := by omega
    have hpn := Hp.out
    have hnn := Hnn.out
    obtain ⟨i, hi⟩ : ∃ i, c = a + i := ⟨c - a, by omega⟩
    obtain ⟨pc, hpc⟩ : ∃ pc : Nat, pc + c = p := ⟨p - c, by omega⟩
    obtain ⟨j, hj⟩ : ∃ j, pc = m + j := ⟨pc - m, by omega⟩
    have hiU : i < U.length := by have := Hm.out; omega
    have hjV : j < V.length := by have := Hb.out; omega
    have epc : (p : Int) - (c : Int) = (pc : Int) := by omega
    obtain ⟨y, hye⟩ : ∃ y, U[i] = y := ⟨_, rfl⟩
    obtain ⟨x, hxe⟩ : ∃ x, V[j] = x := ⟨_, rfl⟩
    have HRy := Lib.hid (show RowM wi B g n cap ((P ++ U.take i) ++ y :: (U.drop (i + 1) ++ V ++ Q)) by
     have e : U = U.take i ++ y :: U.drop (i + 1) := by rw [← hye, ← List.drop_eq_getElem_cons hiU, List.take_append_drop]
     have h1 := HR.out
     rw [show P ++ U ++ V ++ Q = P ++ (U.take i ++ y :: U.drop (i + 1)) ++ V ++ Q by rw [← e]] at h1
     simpa using h1)
    have HRx := Lib.hid (show RowM wi B g n cap ((P ++ U ++ V.take j) ++ x :: (V.drop (j + 1) ++ Q)) by
     have e : V = V.take j ++ x :: V.drop (j + 1) := by rw [← hxe, ← List.drop_eq_getElem_cons hjV, List.take_append_drop]
     have h1 := HR.out
     rw [show P ++ U ++ V ++ Q = P ++ U ++ (V.take j ++ x :: V.drop (j + 1)) ++ Q by rw [← e]] at h1
     simpa using h1)
    have Hyl := Lib.hid (show c = (P ++ U.take i).length by have := Ha.out; simp; omega)
    have Hxl := Lib.hid (show pc = (P ++ U ++ V.take j).length by have := Ha.out; have := Hm.out; simp; omega)
    have Hyo := Lib.hid (show okMv y from Hq.out y (by rw [← hye]; exact List.mem_append.2 (.inl (List.getElem_mem hiU))))
    have Hxo := Lib.hid (show okMv x from Hq.out x (by rw [← hxe]; exact List.mem_append.2 (.inr (List.getElem_mem hjV))))
    have HT := Lib.hid (show ltM x y = false → ∃ (i j : Nat) (hi : i < U.length) (hj : j < V.length), a + i + 1 = c + 1 ∧ m + j + (c + 1) = nn ∧ ltM V[j] U[i] = false from fun hl => ⟨i, j, hiU, hjV, by omega, by omega, by rw [hxe, hye]; exact hl⟩)
    have HFa := Lib.hid (show ltM x y = true → ∃ (i j : Nat) (hi : i < U.length) (hj : j < V.length), a + i = c ∧ m + j + 1 + c = nn ∧ ltM V[j] U[i] = true from fun hl => ⟨i, j, hiU, hjV, by omega, by omega, by rw [hxe, hye]; exact hl⟩)
    have i0 : (0 : Int) ≤ (c : Int) := by omega
    have i1 : (c : Int) < (n : Int) := by omega
    have i2 : (0 : Int) ≤ (pc : Int) := by omega
    have i3 : (pc : Int) < (n : Int) := by have := Hb.out; omega
    have c6 : c ≤ 60000 := by omega
    have Wpc := Lib.hid (show IntKind.i64.wrap (pc : Int) = (pc : Int) by rw [IntKind.wrap_i64]; omega)
    obtain ⟨cq, hcq⟩ : ∃ cq, cmpM x y = cq := ⟨_, rfl⟩
    have Hcq := Lib.hid (show decide (cq < 0) = ltM x y by rw [← hcq, cmpM_lt])
    have HC : Hid (∀ V, Below wi.heap.size wi V → Calls Tryz.prog 83 #[x.v, y.v] V fun e w' => e = .returned (i64 cq) ∧ Below V.heap.size V w') := Lib.hid fun V hV => by
     rw [← hcq]
     exact acmp_c x y V (Enc.keep (α := Mv) (HRx.out.later hV).mid.1 (fun _ _ => rfl) (fun _ hb => hb.1)) (Enc.keep (α := Mv) (HRy.out.later hV).mid.1 (fun _ _ => rfl) (fun _ hb => hb.1)) Hxo.out Hyo.out
    clear hc hcq hi hj hye hxe hiU hjV hpc hpn hnn
    cases hl : ltM x y with
    | false =>
     have q1 : decide (cq < 0) = false := by rw [Hcq.out, hl]
     have HT2 := Lib.hid (HT.out hl)
     clear hl HT HFa
     go_upto_region 35 with fail
     refine wp_region_noPanic ?_
     refine wp_region_l 13 (fun _ : World => True) (by kernel_rfl) (trivial) (fun hH => ?_)
     have hbd := (Below.refl wi.heap.size wi).drew
     generalize wi.drew = Wd at *
     obtain ⟨-, x0, x1, x2, x3⟩ := (HRx.out.later hbd).mid' rfl Hxl.out
     obtain ⟨-, y0, y1, y2, y3⟩ := (HRy.out.later hbd).mid' rfl Hyl.out
     have wpc := Wpc.out
     refine tkZ 0 ?_; refine tkZ 1 ?_; refine tkZ 2 ?_; refine tkZ 3 ?_; refine tkZ 4 ?_; refine tkZ 5 ?_; refine tkZ 7 ?_; refine tkZ 8 ?_; refine tkZ 9 ?_
     refine wpAnyL_ready (rs := [6, 10]) (by kernel_rfl) (by simp) ?_
     refine AllReadyL.cons rfl (fun K hK => ?_) ?_
     ·skip
      refine oper_load_mv 163 rfl g (pc * 4) x rfl x0 x1 x2 x3 ?_
      refine hK.out _ _ (trivial) (fun hH => ?_)
      clear hK K
      try simp only [Act.put, uA, uZ, uS, vA, vZ, vS]
      refine tkO 10 (fun K hK => ?_)
      refine oper_load_mv 167 rfl g (c * 4) y rfl y0 y1 y2 y3 ?_
      refine hK.out _ _ (trivial) (fun hH => ?_)
      clear hK K
      try simp only [Act.put, uA, uZ, uS, vA, vZ, vS]
      refine tkO 11 (fun K hK => ?_)
      refine oper_callv2 83 158 164 168 _ rfl rfl _ _ rfl rfl (enters_of Tryz.func83 (by kernel_rfl) rfl) ?_
      refine (HC.out _ hbd).mono ?_
      rintro e u1 ⟨rfl, hF⟩
      refine ⟨_, rfl, ?_⟩
      have HF1 := Lib.hid hF
      clear hF
      refine hK.out _ _ (trivial) (fun hH => ?_)
      clear hK K
      try simp only [Act.put, uA, uZ, uS, vA, vZ, vS]
      refine tkZ 12 ?_
      refine tkL (fun K hK => ?_)
      go_simp
      refine hK.out _ _ ?_
      clear hK K
      try simp only [Act.put, uA, uZ, uS, vA, vZ, vS]
      refine tkD ?_
      clear hH wpc
      have hsz := Hbw.out.size
      have hbu := hbd.trans (HF1.out.mono hbd.size)
      have Hbd := Lib.hid (Hbw.out.trans (hbu.mono (Nat.le_trans HB.out hsz)))
      have HR3 := Lib.hid (HR.out.later hbu)
      clear hbu hbd HF1 x0 x1 x2 x3 y0 y1 y2 y3 HC
      go_wp2
      go_roundw
      case rel => exact ⟨c + 1, r, by go_num, rfl, by omega, by omega, h3, Lib.hid (.inr HT2.out), Hr, HR3, Hbd⟩
      case measure => simp [intOf]; omega
     refine AllReadyL.cons rfl (fun K hK => ?_) ?_
     ·skip
      refine oper_load_mv 167 rfl g (c * 4) y rfl y0 y1 y2 y3 ?_
      refine hK.out _ _ (trivial) (fun hH => ?_)
      clear hK K
      try simp only [Act.put, uA, uZ, uS, vA, vZ, vS]
      refine tkO 6 (fun K hK => ?_)
      refine oper_load_mv 163 rfl g (pc * 4) x rfl x0 x1 x2 x3 ?_
      refine hK.out _ _ (trivial) (fun hH => ?_)
      clear hK K
      try simp only [Act.put, uA, uZ, uS, vA, vZ, vS]
      refine tkO 11 (fun K hK => ?_)
      refine oper_callv2 83 158 164 168 _ rfl rfl _ _ rfl rfl (enters_of Tryz.func83 (by kernel_rfl) rfl) ?_
      refine (HC.out _ hbd).mono ?_
      rintro e u1 ⟨rfl, hF⟩
      refine ⟨_, rfl, ?_⟩
      have HF1 := Lib.hid hF
      clear hF
      refine hK.out _ _ (trivial) (fun hH => ?_)
      clear hK K
      try simp only [Act.put, uA, uZ, uS, vA, vZ, vS]
      refine tkZ 12 ?_
      refine tkL (fun K hK => ?_)
      go_simp
      refine hK.out _ _ ?_
      clear hK K
      try simp only [Act.put, uA, uZ, uS, vA, vZ, vS]
      refine tkD ?_
      clear hH wpc
      have hsz := Hbw.out.size
      have hbu := hbd.trans (HF1.out.mono hbd.size)
      have Hbd := Lib.hid (Hbw.out.trans (hbu.mono (Nat.le_trans HB.out hsz)))
      have HR3 := Lib.hid (HR.out.later hbu)
      clear hbu hbd HF1 x0 x1 x2 x3 y0 y1 y2 y3 HC
      go_wp2
      go_roundw
      case rel => exact ⟨c + 1, r, by go_num, rfl, by omega, by omega, h3, Lib.hid (.inr HT2.out), Hr, HR3, Hbd⟩
      case measure => simp [intOf]; omega
     exact AllReadyL.nil
    | true =>
     have q1 : decide (cq < 0) = true := by rw [Hcq.out, hl]
     have HT2 := Lib.hid (HFa.out hl)
     clear hl HT HFa
     go_upto_region 35 with fail
     refine wp_region_noPanic ?_
     refine wp_region_l 13 (fun _ : World => True) (by kernel_rfl) (trivial) (fun hH => ?_)
     have hbd := (Below.refl wi.heap.size wi).drew
     generalize wi.drew = Wd at *
     obtain ⟨-, x0, x1, x2, x3⟩ := (HRx.out.later hbd).mid' rfl Hxl.out
     obtain ⟨-, y0, y1, y2, y3⟩ := (HRy.out.later hbd).mid' rfl Hyl.out
     have wpc := Wpc.out
     refine tkZ 0 ?_; refine tkZ 1 ?_; refine tkZ 2 ?_; refine tkZ 3 ?_; refine tkZ 4 ?_; refine tkZ 5 ?_; refine tkZ 7 ?_; refine tkZ 8 ?_; refine tkZ 9 ?_
     refine wpAnyL_ready (rs := [6, 10]) (by kernel_rfl) (by simp) ?_
     refine AllReadyL.cons rfl (fun K hK => ?_) ?_
     ·skip
      refine oper_load_mv 163 rfl g (pc * 4) x rfl x0 x1 x2 x3 ?_
      refine hK.out _ _ (trivial) (fun hH => ?_)
      clear hK K
      try simp only [Act.put, uA, uZ, uS, vA, vZ, vS]
      refine tkO 10 (fun K hK => ?_)
      refine oper_load_mv 167 rfl g (c * 4) y rfl y0 y1 y2 y3 ?_
      refine hK.out _ _ (trivial) (fun hH => ?_)
      clear hK K
      try simp only [Act.put, uA, uZ, uS, vA, vZ, vS]
      refine tkO 11 (fun K hK => ?_)
      refine oper_callv2 83 158 164 168 _ rfl rfl _ _ rfl rfl (enters_of Tryz.func83 (by kernel_rfl) rfl) ?_
      refine (HC.out _ hbd).mono ?_
      rintro e u1 ⟨rfl, hF⟩
      refine ⟨_, rfl, ?_⟩
      have HF1 := Lib.hid hF
      clear hF
      refine hK.out _ _ (trivial) (fun hH => ?_)
      clear hK K
      try simp only [Act.put, uA, uZ, uS, vA, vZ, vS]
      refine tkZ 12 ?_
      refine tkL (fun K hK => ?_)
      go_simp
      refine hK.out _ _ ?_
      clear hK K
      try simp only [Act.put, uA, uZ, uS, vA, vZ, vS]
      refine tkD ?_
      clear hH wpc
      have hsz := Hbw.out.size
      have hbu := hbd.trans (HF1.out.mono hbd.size)
      have Hbd := Lib.hid (Hbw.out.trans (hbu.mono (Nat.le_trans HB.out hsz)))
      have HR3 := Lib.hid (HR.out.later hbu)
      clear hbu hbd HF1 x0 x1 x2 x3 y0 y1 y2 y3 HC
      go_wp2
      go_roundw
      case rel => exact ⟨s, c, rfl, by go_num, h1, by omega, by omega, Hs, Lib.hid (.inr HT2.out), HR3, Hbd⟩
      case measure => simp [intOf]; omega
     refine AllReadyL.cons rfl (fun K hK => ?_) ?_
     ·skip
      refine oper_load_mv 167 rfl g (c * 4) y rfl y0 y1 y2 y3 ?_
      refine hK.out _ _ (trivial) (fun hH => ?_)
      clear hK K
      try simp only [Act.put, uA, uZ, uS, vA, vZ, vS]
      refine tkO 6 (fun K hK => ?_)
      refine oper_load_mv 163 rfl g (pc * 4) x rfl x0 x1 x2 x3 ?_
      refine hK.out _ _ (trivial) (fun hH => ?_)
      clear hK K
      try simp only [Act.put, uA, uZ, uS, vA, vZ, vS]
      refine tkO 11 (fun K hK => ?_)
      refine oper_callv2 83 158 164 168 _ rfl rfl _ _ rfl rfl (enters_of Tryz.func83 (by kernel_rfl) rfl) ?_
      refine (HC.out _ hbd).mono ?_
      rintro e u1 ⟨rfl, hF⟩
      refine ⟨_, rfl, ?_⟩
      have HF1 := Lib.hid hF
      clear hF
      refine hK.out _ _ (trivial) (fun hH => ?_)
      clear hK K
      try simp only [Act.put, uA, uZ, uS, vA, vZ, vS]
      refine tkZ 12 ?_
      refine tkL (fun K hK => ?_)
      go_simp
      refine hK.out _ _ ?_
      clear hK K
      try simp only [Act.put, uA, uZ, uS, vA, vZ, vS]
      refine tkD ?_
      clear hH wpc
      have hsz := Hbw.out.size
      have hbu := hbd.trans (HF1.out.mono hbd.size)
      have Hbd := Lib.hid (Hbw.out.trans (hbu.mono (Nat.le_trans HB.out hsz)))
      have HR3 := Lib.hid (HR.out.later hbu)
      clear hbu hbd HF1 x0 x1 x2 x3 y0 y1 y2 y3 HC
      go_wp2
      go_roundw
      case rel => exact ⟨s, c, rfl, by go_num, h1, by omega, by omega, Hs, Lib.hid (.inr HT2.out), HR3, Hbd⟩
      case measure => simp [intOf]; omega
     exact AllReadyL.nil
   ·obtain rfl : s = r := by omega
    have g1 : decide ((s : Int) < (s : Int)) = false := decide_eq_false (by omega)
    have hpn := Hp.out
    have hnn := Hnn.out
    obtain ⟨en', hen⟩ : ∃ en' : Nat, en' + s = nn := ⟨nn - s, by omega⟩
    have ee : (nn : Int) - (s : Int) = (en' : Int) := by omega
    have hen1 : m ≤ en' := by omega
    have hen2 : en' ≤ b := by omega
    have hsm : s ≤ m := by omega
    have has : a ≤ s := by omega
    have hsd : s ≤ mid := by omega
    have hend : mid ≤ en' := by omega
    have hen6 : en' ≤ 60000 := by omega
    have HM := Lib.hid (sym_plain HU.out HV.out (s := s - a) (e := en' - m) (by have := Hm.out; omega) (by have := Hb.out; omega) (by
     rcases Hs.out with e | ⟨i, j, hi, hj, e1, e2, e3⟩
     ·rcases Hst.out with ⟨z1, z2, z3⟩ | ⟨z1, z2, z3⟩
      ·right; left; have := Hb.out; omega
      ·left; omega
     ·right; right
      have e4 : en' - m = j := by omega
      exact ⟨i, hi, by omega, by omega, by simp only [e4]; exact e3⟩) (by
     rcases Hr.out with e | ⟨i, j, hi, hj, e1, e2, e3⟩
     ·rcases Hst.out with ⟨z1, z2, z3⟩ | ⟨z1, z2, z3⟩
      ·right; left; omega
      ·left; have := Hm.out; omega
     ·right; right
      have e4 : s - a = i := by omega
      exact ⟨j, by omega, hj, by omega, by simp only [e4]; exact e3⟩))
    have Hfacts := Lib.hid (show (U.take (s - a)).length = s - a ∧ (U.drop (s - a)).length = m - s ∧ (V.take (en' - m)).length = en' - m ∧ (V.drop (en' - m)).length = b - en' ∧ en' - m = mid - s ∧ m - s = en' - mid by
     have := Hm.out
     have := Hb.out
     refine ⟨by rw [List.length_take]; omega, by rw [List.length_drop]; omega, by rw [List.length_take]; omega, by rw [List.length_drop]; omega, by omega, by omega⟩)
    have HUs1 := Lib.hid (show SortedB ltM (U.take (s - a)) from HU.out.sublist (List.take_sublist _ _))
    have HUs2 := Lib.hid (show SortedB ltM (U.drop (s - a)) from HU.out.sublist (List.drop_sublist _ _))
    have HVs1 := Lib.hid (show SortedB ltM (V.take (en' - m)) from HV.out.sublist (List.take_sublist _ _))
    have HVs2 := Lib.hid (show SortedB ltM (V.drop (en' - m)) from HV.out.sublist (List.drop_sublist _ _))
    have Hq1 := Lib.hid (show ∀ x ∈ U.take (s - a) ++ V.take (en' - m), okMv x from fun x hx => Hq.out x (by
     rcases List.mem_append.1 hx with hx | hx
     ·exact List.mem_append.2 (.inl (List.mem_of_mem_take hx))
     ·exact List.mem_append.2 (.inr (List.mem_of_mem_take hx))))
    have Hq2 := Lib.hid (show ∀ x ∈ U.drop (s - a) ++ V.drop (en' - m), okMv x from fun x hx => Hq.out x (by
     rcases List.mem_append.1 hx with hx | hx
     ·exact List.mem_append.2 (.inl (List.mem_of_mem_drop hx))
     ·exact List.mem_append.2 (.inr (List.mem_of_mem_drop hx))))
    have HR1 := Lib.hid (show RowM wi B g n cap (P ++ U.take (s - a) ++ U.drop (s - a) ++ V.take (en' - m) ++ (V.drop (en' - m) ++ Q)) by
     have h1 := HR.out
     rw [List.append_assoc P (U.take (s - a)), List.take_append_drop, List.append_assoc (P ++ U), ← List.append_assoc (V.take (en' - m)), List.take_append_drop]
     simpa using h1)
    have HDl := Lib.hid (show (U.take (s - a)).length + (V.take (en' - m)).length < D ∧ (U.drop (s - a)).length + (V.drop (en' - m)).length < D by
     obtain ⟨f1, f2, f3, f4, f5, f6⟩ := Hfacts.out
     have := HD.out
     have := Hm.out
     have := Hb.out
     omega)
    have Hpl := Lib.hid (show P.length = a from Ha.out)
    have hwB := Nat.le_trans HB.out Hbw.out.size
    have Hwe := Lib.hid (show IntKind.i64.wrap (en' : Int) = (en' : Int) by rw [IntKind.wrap_i64]; omega)
    clear Hs Hr HR hpn hnn hen
    generalize U.take (s - a) = U1 at *
    generalize U.drop (s - a) = U2 at *
    generalize V.take (en' - m) = V1 at *
    generalize V.drop (en' - m) = V2 at *
    have hwe := Hwe.out
    go_upto_region 39 with fail
    clear hwe
    have C1 : Hid (∀ W, RowM W B g n cap (P ++ U1 ++ U2 ++ V1 ++ (V2 ++ Q)) → Below B w W → s < m → m < en' → Calls Tryz.prog 204 #[.slice (some ⟨g, 0, none⟩) n cap, i64 s, i64 m, i64 en', .func (.func 83) #[] #[]] W fun e w' => e = .returned (.tuple #[]) ∧ Hid (RowM w' B g n cap (P ++ U1 ++ V1 ++ (U2 ++ V2 ++ Q))) ∧ Hid (Below B w w')) := Lib.hid fun W hR hb k1 k2 => (arot_c B g n cap s m en' (P ++ U1) U2 V1 (V2 ++ Q) (.func (.func 83) #[] #[]) W hR (by obtain ⟨f1, f2, f3, f4, f5, f6⟩ := Hfacts.out; rw [List.length_append, f1, Hpl.out]; omega) (by obtain ⟨f1, f2, f3, f4, f5, f6⟩ := Hfacts.out; omega) (by obtain ⟨f1, f2, f3, f4, f5, f6⟩ := Hfacts.out; omega) (by obtain ⟨f1, f2, f3, f4, f5, f6⟩ := Hfacts.out; omega) (by obtain ⟨f1, f2, f3, f4, f5, f6⟩ := Hfacts.out; omega) hn (Nat.le_trans HB.out hb.size)).mono fun e w' ⟨h1, h2, h3⟩ => ⟨h1, Lib.hid (by simpa [List.append_assoc] using h2), Lib.hid (hb.trans h3)⟩
    have Z1 : Hid (∀ W, Hid (RowM W B g n cap (P ++ U1 ++ U2 ++ V1 ++ (V2 ++ Q))) → ¬ s < m ∨ ¬ m < en' → Hid (RowM W B g n cap (P ++ U1 ++ V1 ++ (U2 ++ V2 ++ Q)))) := Lib.hid fun W hR hk => by
     have h9 := hR.out
     obtain ⟨f1, f2, f3, f4, f5, f6⟩ := Hfacts.out
     rcases hk with hk | hk
     ·have hz : U2 = [] := List.length_eq_zero_iff.1 (by omega)
      exact Lib.hid (by simpa [hz, mrg_nil, mrg_nil2, List.append_assoc] using h9)
     ·have hz : V1 = [] := List.length_eq_zero_iff.1 (by omega)
      exact Lib.hid (by simpa [hz, mrg_nil, mrg_nil2, List.append_assoc] using h9)
    have C2 : Hid (∀ W, RowM W B g n cap (P ++ U1 ++ V1 ++ (U2 ++ V2 ++ Q)) → Below B w W → a < s → s < mid → Calls Tryz.prog 180 #[.slice (some ⟨g, 0, none⟩) n cap, i64 a, i64 s, i64 mid, .func (.func 83) #[] #[]] W fun e w' => e = .returned (.tuple #[]) ∧ Hid (RowM w' B g n cap (P ++ mrg ltM U1 V1 ++ U2 ++ V2 ++ Q)) ∧ Hid (Below B w w')) := Lib.hid fun W hR hb k1 k2 => (HREC.out a s mid P U1 V1 (U2 ++ V2 ++ Q) W HDl.out.1 hR Hpl.out (by obtain ⟨f1, f2, f3, f4, f5, f6⟩ := Hfacts.out; omega) (by obtain ⟨f1, f2, f3, f4, f5, f6⟩ := Hfacts.out; omega) (by obtain ⟨f1, f2, f3, f4, f5, f6⟩ := Hfacts.out; omega) (by obtain ⟨f1, f2, f3, f4, f5, f6⟩ := Hfacts.out; omega) (Nat.le_trans HB.out hb.size) HUs1.out HVs1.out Hq1.out).mono fun e w' ⟨h1, h2, h3⟩ => ⟨h1, Lib.hid (by simpa [List.append_assoc] using h2), Lib.hid (hb.trans h3)⟩
    have Z2 : Hid (∀ W, Hid (RowM W B g n cap (P ++ U1 ++ V1 ++ (U2 ++ V2 ++ Q))) → ¬ a < s ∨ ¬ s < mid → Hid (RowM W B g n cap (P ++ mrg ltM U1 V1 ++ U2 ++ V2 ++ Q))) := Lib.hid fun W hR hk => by
     have h9 := hR.out
     obtain ⟨f1, f2, f3, f4, f5, f6⟩ := Hfacts.out
     rcases hk with hk | hk
     ·have hz : U1 = [] := List.length_eq_zero_iff.1 (by omega)
      exact Lib.hid (by simpa [hz, mrg_nil, mrg_nil2, List.append_assoc] using h9)
     ·have hz : V1 = [] := List.length_eq_zero_iff.1 (by omega)
      exact Lib.hid (by simpa [hz, mrg_nil, mrg_nil2, List.append_assoc] using h9)
    have C3 : Hid (∀ W, RowM W B g n cap (P ++ mrg ltM U1 V1 ++ U2 ++ V2 ++ Q) → Below B w W → mid < en' → en' < b → Calls Tryz.prog 180 #[.slice (some ⟨g, 0, none⟩) n cap, i64 mid, i64 en', i64 b, .func (.func 83) #[] #[]] W fun e w' => e = .returned (.tuple #[]) ∧ Hid (RowM w' B g n cap (P ++ (mrg ltM U1 V1 ++ mrg ltM U2 V2) ++ Q)) ∧ Hid (Below B w w')) := Lib.hid fun W hR hb k1 k2 => (HREC.out mid en' b (P ++ mrg ltM U1 V1) U2 V2 Q W HDl.out.2 hR (by obtain ⟨f1, f2, f3, f4, f5, f6⟩ := Hfacts.out; rw [List.length_append, mrg_len, Hpl.out]; omega) (by obtain ⟨f1, f2, f3, f4, f5, f6⟩ := Hfacts.out; omega) (by obtain ⟨f1, f2, f3, f4, f5, f6⟩ := Hfacts.out; omega) (by obtain ⟨f1, f2, f3, f4, f5, f6⟩ := Hfacts.out; omega) (by obtain ⟨f1, f2, f3, f4, f5, f6⟩ := Hfacts.out; omega) (Nat.le_trans HB.out hb.size) HUs2.out HVs2.out Hq2.out).mono fun e w' ⟨h1, h2, h3⟩ => ⟨h1, Lib.hid (by simpa [List.append_assoc] using h2), Lib.hid (hb.trans h3)⟩
    have Z3 : Hid (∀ W, Hid (RowM W B g n cap (P ++ mrg ltM U1 V1 ++ U2 ++ V2 ++ Q)) → ¬ mid < en' ∨ ¬ en' < b → Hid (RowM W B g n cap (P ++ (mrg ltM U1 V1 ++ mrg ltM U2 V2) ++ Q))) := Lib.hid fun W hR hk => by
     have h9 := hR.out
     obtain ⟨f1, f2, f3, f4, f5, f6⟩ := Hfacts.out
     rcases hk with hk | hk
     ·have hz : U2 = [] := List.length_eq_zero_iff.1 (by omega)
      exact Lib.hid (by simpa [hz, mrg_nil, mrg_nil2, List.append_assoc] using h9)
     ·have hz : V2 = [] := List.length_eq_zero_iff.1 (by omega)
      exact Lib.hid (by simpa [hz, mrg_nil, mrg_nil2, List.append_assoc] using h9)
    by_cases k1 : s < m
    ·have c11 := dltT k1
     by_cases k2 : m < en'
     ·have c12 := dltT k2
      have HS := Lib.hid (C1.out _ HR1.out Hbw.out k1 k2)
      clear k1 k2
      go_wp2_with fail
      refine HS.out.mono ?_
      rintro e w41 ⟨rfl, HR2, Hb1⟩
      clear HS
      by_cases k1 : a < s
      ·have c21 := dltT k1
       by_cases k2 : s < mid
       ·have c22 := dltT k2
        have HS := Lib.hid (C2.out _ HR2.out Hb1.out k1 k2)
        clear k1 k2
        go_wp2_with fail
        refine HS.out.mono ?_
        rintro e w42 ⟨rfl, HR3, Hb2⟩
        clear HS
        by_cases k1 : mid < en'
        ·have c31 := dltT k1
         by_cases k2 : en' < b
         ·have c32 := dltT k2
          have HS := Lib.hid (C3.out _ HR3.out Hb2.out k1 k2)
          clear k1 k2
          go_wp2_with fail
          refine HS.out.mono ?_
          rintro e w43 ⟨rfl, HR4, Hb3⟩
          clear HS
          go_wp2
          go_end0
          exact ⟨rfl, by rw [HM.out]; exact HR4.out, Hb3.out⟩
         ·have c32 := dltF k2
          have HR4 := Z3.out _ HR3 (.inr k2)
          have Hb3 := Hb2
          clear k1 k2
          go_wp2
          go_end0
          exact ⟨rfl, by rw [HM.out]; exact HR4.out, Hb3.out⟩
        ·have c31 := dltF k1
         have HR4 := Z3.out _ HR3 (.inl k1)
         have Hb3 := Hb2
         clear k1
         go_wp2
         go_end0
         exact ⟨rfl, by rw [HM.out]; exact HR4.out, Hb3.out⟩
       ·have c22 := dltF k2
        have HR3 := Z2.out _ HR2 (.inr k2)
        have Hb2 := Hb1
        clear k1 k2
        by_cases k1 : mid < en'
        ·have c31 := dltT k1
         by_cases k2 : en' < b
         ·have c32 := dltT k2
          have HS := Lib.hid (C3.out _ HR3.out Hb2.out k1 k2)
          clear k1 k2
          go_wp2_with fail
          refine HS.out.mono ?_
          rintro e w44 ⟨rfl, HR4, Hb3⟩
          clear HS
          go_wp2
          go_end0
          exact ⟨rfl, by rw [HM.out]; exact HR4.out, Hb3.out⟩
         ·have c32 := dltF k2
          have HR4 := Z3.out _ HR3 (.inr k2)
          have Hb3 := Hb2
          clear k1 k2
          go_wp2
          go_end0
          exact ⟨rfl, by rw [HM.out]; exact HR4.out, Hb3.out⟩
        ·have c31 := dltF k1
         have HR4 := Z3.out _ HR3 (.inl k1)
         have Hb3 := Hb2
         clear k1
         go_wp2
         go_end0
         exact ⟨rfl, by rw [HM.out]; exact HR4.out, Hb3.out⟩
      ·have c21 := dltF k1
       have HR3 := Z2.out _ HR2 (.inl k1)
       have Hb2 := Hb1
       clear k1
       by_cases k1 : mid < en'
       ·have c31 := dltT k1
        by_cases k2 : en' < b
        ·have c32 := dltT k2
         have HS := Lib.hid (C3.out _ HR3.out Hb2.out k1 k2)
         clear k1 k2
         go_wp2_with fail
         refine HS.out.mono ?_
         rintro e w45 ⟨rfl, HR4, Hb3⟩
         clear HS
         go_wp2
         go_end0
         exact ⟨rfl, by rw [HM.out]; exact HR4.out, Hb3.out⟩
        ·have c32 := dltF k2
         have HR4 := Z3.out _ HR3 (.inr k2)
         have Hb3 := Hb2
         clear k1 k2
         go_wp2
         go_end0
         exact ⟨rfl, by rw [HM.out]; exact HR4.out, Hb3.out⟩
       ·have c31 := dltF k1
        have HR4 := Z3.out _ HR3 (.inl k1)
        have Hb3 := Hb2
        clear k1
        go_wp2
        go_end0
        exact ⟨rfl, by rw [HM.out]; exact HR4.out, Hb3.out⟩
     ·have c12 := dltF k2
      have HR2 := Z1.out _ HR1 (.inr k2)
      have Hb1 := Hbw
      clear k1 k2
      by_cases k1 : a < s
      ·have c21 := dltT k1
       by_cases k2 : s < mid
       ·have c22 := dltT k2
        have HS := Lib.hid (C2.out _ HR2.out Hb1.out k1 k2)
        clear k1 k2
        go_wp2_with fail
        refine HS.out.mono ?_
        rintro e w46 ⟨rfl, HR3, Hb2⟩
        clear HS
        by_cases k1 : mid < en'
        ·have c31 := dltT k1
         by_cases k2 : en' < b
         ·have c32 := dltT k2
          have HS := Lib.hid (C3.out _ HR3.out Hb2.out k1 k2)
          clear k1 k2
          go_wp2_with fail
          refine HS.out.mono ?_
          rintro e w47 ⟨rfl, HR4, Hb3⟩
          clear HS
          go_wp2
          go_end0
          exact ⟨rfl, by rw [HM.out]; exact HR4.out, Hb3.out⟩
         ·have c32 := dltF k2
          have HR4 := Z3.out _ HR3 (.inr k2)
          have Hb3 := Hb2
          clear k1 k2
          go_wp2
          go_end0
          exact ⟨rfl, by rw [HM.out]; exact HR4.out, Hb3.out⟩
        ·have c31 := dltF k1
         have HR4 := Z3.out _ HR3 (.inl k1)
         have Hb3 := Hb2
         clear k1
         go_wp2
         go_end0
         exact ⟨rfl, by rw [HM.out]; exact HR4.out, Hb3.out⟩
       ·have c22 := dltF k2
        have HR3 := Z2.out _ HR2 (.inr k2)
        have Hb2 := Hb1
        clear k1 k2
        by_cases k1 : mid < en'
        ·have c31 := dltT k1
         by_cases k2 : en' < b
         ·have c32 := dltT k2
          have HS := Lib.hid (C3.out _ HR3.out Hb2.out k1 k2)
          clear k1 k2
          go_wp2_with fail
          refine HS.out.mono ?_
          rintro e w48 ⟨rfl, HR4, Hb3⟩
          clear HS
          go_wp2
          go_end0
          exact ⟨rfl, by rw [HM.out]; exact HR4.out, Hb3.out⟩
         ·have c32 := dltF k2
          have HR4 := Z3.out _ HR3 (.inr k2)
          have Hb3 := Hb2
          clear k1 k2
          go_wp2
          go_end0
          exact ⟨rfl, by rw [HM.out]; exact HR4.out, Hb3.out⟩
        ·have c31 := dltF k1
         have HR4 := Z3.out _ HR3 (.inl k1)
         have Hb3 := Hb2
         clear k1
         go_wp2
         go_end0
         exact ⟨rfl, by rw [HM.out]; exact HR4.out, Hb3.out⟩
      ·have c21 := dltF k1
       have HR3 := Z2.out _ HR2 (.inl k1)
       have Hb2 := Hb1
       clear k1
       by_cases k1 : mid < en'
       ·have c31 := dltT k1
        by_cases k2 : en' < b
        ·have c32 := dltT k2
         have HS := Lib.hid (C3.out _ HR3.out Hb2.out k1 k2)
         clear k1 k2
         go_wp2_with fail
         refine HS.out.mono ?_
         rintro e w49 ⟨rfl, HR4, Hb3⟩
         clear HS
         go_wp2
         go_end0
         exact ⟨rfl, by rw [HM.out]; exact HR4.out, Hb3.out⟩
        ·have c32 := dltF k2
         have HR4 := Z3.out _ HR3 (.inr k2)
         have Hb3 := Hb2
         clear k1 k2
         go_wp2
         go_end0
         exact ⟨rfl, by rw [HM.out]; exact HR4.out, Hb3.out⟩
       ·have c31 := dltF k1
        have HR4 := Z3.out _ HR3 (.inl k1)
        have Hb3 := Hb2
        clear k1
        go_wp2
        go_end0
        exact ⟨rfl, by rw [HM.out]; exact HR4.out, Hb3.out⟩
    ·have c11 := dltF k1
     have HR2 := Z1.out _ HR1 (.inl k1)
     have Hb1 := Hbw
     clear k1
     by_cases k1 : a < s
     ·have c21 := dltT k1
      by_cases k2 : s < mid
      ·have c22 := dltT k2
       have HS := Lib.hid (C2.out _ HR2.out Hb1.out k1 k2)
       clear k1 k2
       go_wp2_with fail
       refine HS.out.mono ?_
       rintro e w50 ⟨rfl, HR3, Hb2⟩
       clear HS
       by_cases k1 : mid < en'
       ·have c31 := dltT k1
        by_cases k2 : en' < b
        ·have c32 := dltT k2
         have HS := Lib.hid (C3.out _ HR3.out Hb2.out k1 k2)
         clear k1 k2
         go_wp2_with fail
         refine HS.out.mono ?_
         rintro e w51 ⟨rfl, HR4, Hb3⟩
         clear HS
         go_wp2
         go_end0
         exact ⟨rfl, by rw [HM.out]; exact HR4.out, Hb3.out⟩
        ·have c32 := dltF k2
         have HR4 := Z3.out _ HR3 (.inr k2)
         have Hb3 := Hb2
         clear k1 k2
         go_wp2
         go_end0
         exact ⟨rfl, by rw [HM.out]; exact HR4.out, Hb3.out⟩
       ·have c31 := dltF k1
        have HR4 := Z3.out _ HR3 (.inl k1)
        have Hb3 := Hb2
        clear k1
        go_wp2
        go_end0
        exact ⟨rfl, by rw [HM.out]; exact HR4.out, Hb3.out⟩
      ·have c22 := dltF k2
       have HR3 := Z2.out _ HR2 (.inr k2)
       have Hb2 := Hb1
       clear k1 k2
       by_cases k1 : mid < en'
       ·have c31 := dltT k1
        by_cases k2 : en' < b
        ·have c32 := dltT k2
         have HS := Lib.hid (C3.out _ HR3.out Hb2.out k1 k2)
         clear k1 k2
         go_wp2_with fail
         refine HS.out.mono ?_
         rintro e w52 ⟨rfl, HR4, Hb3⟩
         clear HS
         go_wp2
         go_end0
         exact ⟨rfl, by rw [HM.out]; exact HR4.out, Hb3.out⟩
        ·have c32 := dltF k2
         have HR4 := Z3.out _ HR3 (.inr k2)
         have Hb3 := Hb2
         clear k1 k2
         go_wp2
         go_end0
         exact ⟨rfl, by rw [HM.out]; exact HR4.out, Hb3.out⟩
       ·have c31 := dltF k1
        have HR4 := Z3.out _ HR3 (.inl k1)
        have Hb3 := Hb2
        clear k1
        go_wp2
        go_end0
        exact ⟨rfl, by rw [HM.out]; exact HR4.out, Hb3.out⟩
     ·have c21 := dltF k1
      have HR3 := Z2.out _ HR2 (.inl k1)
      have Hb2 := Hb1
      clear k1
      by_cases k1 : mid < en'
      ·have c31 := dltT k1
       by_cases k2 : en' < b
       ·have c32 := dltT k2
        have HS := Lib.hid (C3.out _ HR3.out Hb2.out k1 k2)
        clear k1 k2
        go_wp2_with fail
        refine HS.out.mono ?_
        rintro e w53 ⟨rfl, HR4, Hb3⟩
        clear HS
        go_wp2
        go_end0
        exact ⟨rfl, by rw [HM.out]; exact HR4.out, Hb3.out⟩
       ·have c32 := dltF k2
        have HR4 := Z3.out _ HR3 (.inr k2)
        have Hb3 := Hb2
        clear k1 k2
        go_wp2
        go_end0
        exact ⟨rfl, by rw [HM.out]; exact HR4.out, Hb3.out⟩
      ·have c31 := dltF k1
       have HR4 := Z3.out _ HR3 (.inl k1)
       have Hb3 := Hb2
       clear k1
       go_wp2
       go_end0
       exact ⟨rfl, by rw [HM.out]; exact HR4.out, Hb3.out⟩
theorem asym_c (B g n cap : Nat) (hn : n ≤ 60000) : ∀ (D a m b : Nat) (P U V Q : List Mv) (w : World), U.length + V.length = D → RowM w B g n cap (P ++ U ++ V ++ Q) → P.length = a → a + U.length = m → m + V.length = b → 0 < U.length → 0 < V.length → B ≤ w.heap.size → SortedB ltM U → SortedB ltM V → (∀ x ∈ U ++ V, okMv x) →
  Calls Tryz.prog 180 #[.slice (some ⟨g, 0, none⟩) n cap, i64 a, i64 m, i64 b, .func (.func 83) #[] #[]] w fun e w' => e = .returned (.tuple #[]) ∧ RowM w' B g n cap (P ++ mrg ltM U V ++ Q) ∧ Below B w w' := by
 intro D
 induction D using Nat.strongRecOn with
 | ind D ih =>
  intro a m b P U V Q w hD h ha hm hb hU0 hV0 hB hU hV hq
  by_cases h1 : U.length = 1
  ·obtain ⟨y, rfl⟩ := List.length_eq_one_iff.1 h1
   exact asym1_c B g n cap a m b P V Q y w (by simpa using h) ha (by simpa using hm) hb hn hB hV (hq y (by simp)) (fun x hx => hq x (by simp [hx]))
  ·by_cases h2 : V.length = 1
   ·obtain ⟨x, rfl⟩ := List.length_eq_one_iff.1 h2
    exact asym2_c B g n cap a m b P U Q x w (by simpa using h) ha hm (by simpa using hb) (by omega) hn hB hU (hq x (by simp)) (fun y hy => hq y (by simp [hy]))
   ·exact asym3_c D B g n cap a m b P U V Q w h ha hm hb (by omega) (by omega) hD hn hB hU hV hq (fun a m b P U V Q W hlt h1 h2 h3 h4 h5 h6 h7 h8 h9 h10 => ih _ hlt a m b P U V Q W rfl h1 h2 h3 h4 h5 h6 h7 h8 h9 h10)
end Go.Proofs.YtampniiehgimhaaGreat

/- audit: sorting moves: blocks, plain -/
namespace Go.Proofs.YtampniiehgimhaaGreat
open Go.RowKit
/-- Runs of `d` sorted, each by itself. -/
def blL (d : Nat) : Nat → List Mv → List Mv
 | 0, M => sortB ltM M
 | f + 1, M => if M.length ≤ d then sortB ltM M else sortB ltM (M.take d) ++ blL d f (M.drop d)
def BL (d : Nat) (M : List Mv) : List Mv := blL d M.length M
theorem BL_le {d : Nat} {M : List Mv} (h : M.length ≤ d) : BL d M = sortB ltM M := by
 unfold BL
 cases M.length with
 | zero => rfl
 | succ f => unfold blL; rw [if_pos h]
theorem blL_fuel {d : Nat} (hd : 0 < d) : ∀ (f g : Nat) (M : List Mv), M.length ≤ f → M.length ≤ g → blL d f M = blL d g M
 | 0, 0, M, _, _ => rfl
 | 0, g + 1, M, h, _ => by
  unfold blL
  rw [if_pos (by omega)]
 | f + 1, 0, M, _, h => by
  unfold blL
  rw [if_pos (by omega)]
 | f + 1, g + 1, M, h1, h2 => by
  unfold blL
  by_cases h : M.length ≤ d
  ·rw [if_pos h, if_pos h]
  ·rw [if_neg h, if_neg h, blL_fuel hd f g (M.drop d) (by rw [List.length_drop]; omega) (by rw [List.length_drop]; omega)]
theorem BL_app {d : Nat} (hd : 0 < d) {S : List Mv} (hS : S.length = d) (M : List Mv) : BL d (S ++ M) = sortB ltM S ++ BL d M := by
 by_cases h : M = []
 ·subst h
  rw [List.append_nil, BL_le (Nat.le_of_eq hS), BL_le (Nat.zero_le _), show sortB ltM ([] : List Mv) = [] from rfl, List.append_nil]
 ·have h1 : 0 < M.length := List.length_pos_iff.2 h
  have e : blL d (S ++ M).length (S ++ M) = blL d ((S ++ M).length + 1) (S ++ M) := blL_fuel hd _ _ _ (Nat.le_refl _) (by omega)
  unfold BL
  rw [e]
  rw [blL, if_neg (by rw [List.length_append]; omega), List.take_append_of_le_length (by omega), List.take_of_length_le (by omega), List.drop_append_of_le_length (by omega), List.drop_of_length_le (by omega), List.nil_append]
  rw [blL_fuel hd (S ++ M).length M.length M (by rw [List.length_append]; omega) (Nat.le_refl _)]
theorem blL_perm (d : Nat) : ∀ (f : Nat) (M : List Mv), (blL d f M).Perm M
 | 0, M => sortB_perm M
 | f + 1, M => by
  unfold blL
  split
  ·exact sortB_perm M
  ·exact ((sortB_perm _).append (blL_perm d f _)).trans (by rw [List.take_append_drop])
theorem BL_perm (d : Nat) (M : List Mv) : (BL d M).Perm M := blL_perm d _ M
theorem BL_len (d : Nat) (M : List Mv) : (BL d M).length = M.length := (BL_perm d M).length_eq
/-- One merge: two runs of `d` make one run of `2 d`. -/
theorem BL_two {d : Nat} (hd : 0 < d) {S T : List Mv} (hS : S.length = d) (hT : T.length = d) (M : List Mv) : BL d (S ++ T ++ M) = sortB ltM S ++ sortB ltM T ++ BL d M ∧ BL (2 * d) (S ++ T ++ M) = mrg ltM (sortB ltM S) (sortB ltM T) ++ BL (2 * d) M := by
 constructor
 ·rw [List.append_assoc, BL_app hd hS, BL_app hd hT, List.append_assoc]
 ·rw [BL_app (by omega) (by rw [List.length_append]; omega), sortB_app ltM_strict]
theorem BL_last {d : Nat} (hd : 0 < d) {S T : List Mv} (hS : S.length = d) (hT : T.length ≤ d) : BL d (S ++ T) = sortB ltM S ++ sortB ltM T ∧ BL (2 * d) (S ++ T) = mrg ltM (sortB ltM S) (sortB ltM T) := by
 constructor
 ·rw [BL_app hd hS, BL_le hT]
 ·rw [BL_le (by rw [List.length_append]; omega), sortB_app ltM_strict]
end Go.Proofs.YtampniiehgimhaaGreat

/- audit: sorting moves: the stable sort -/
namespace Go.Proofs.YtampniiehgimhaaGreat
open Go.RowKit
theorem bl_mem {d : Nat} {P M1 M : List Mv} (h : P ++ BL d M1 = BL d M) {x : Mv} (hx : x ∈ P ++ M1) : x ∈ M := by
 have h1 : (P ++ M1).Perm M := ((List.Perm.append_left P (BL_perm d M1)).symm.trans (by rw [h])).trans (BL_perm d M)
 exact h1.mem_iff.1 hx
theorem cut1 (d : Nat) (M : List Mv) (h : d ≤ M.length) : ∃ S R, M = S ++ R ∧ S.length = d := ⟨M.take d, M.drop d, (List.take_append_drop d M).symm, by rw [List.length_take]; omega⟩
theorem cut2 (d : Nat) (M : List Mv) (h : d + d ≤ M.length) : ∃ S T R, M = S ++ T ++ R ∧ S.length = d ∧ T.length = d := by
 obtain ⟨S, R, rfl, hS⟩ := cut1 d M (by omega)
 obtain ⟨T, R, rfl, hT⟩ := cut1 d R (by rw [List.length_append] at h; omega)
 exact ⟨S, T, R, by simp, hS, hT⟩
set_option maxRecDepth 100000 in
set_option maxHeartbeats 16000000 in
theorem astab_c (B g n cap : Nat) (M : List Mv) (w : World) (h : RowM w B g n cap M) (hn : n ≤ 60000) (hq : ∀ x ∈ M, okMv x) (hB : B ≤ w.heap.size) :
  Calls Tryz.prog 126 #[.slice (some ⟨g, 0, none⟩) n cap, i64 n, .func (.func 83) #[] #[]] w fun e w' => e = .returned (.tuple #[]) ∧ RowM w' B g n cap (sortB ltM M) ∧ Below B w w' := by
 have hcn := h.capn
 have Hq := Lib.hid hq
 have H := Lib.hid h
 have HB := Lib.hid hB
 have Hl := Lib.hid h.len
 clear h hq hB
 go_enter Tryz.func126, Tryz.ntmps126
 go_wp2_with fail
 go_loopw [7, 8] (fun i7 i8 wr => ∃ (a b : Nat) (P1 M1 : List Mv), i7 = i64 (a : Int) ∧ i8 = i64 (b : Int) ∧ Hid (b = a + 20) ∧ Hid (P1.length = a) ∧ Hid (P1 ++ BL 20 M1 = BL 20 M) ∧ Hid (RowM wr B g n cap (P1 ++ M1)) ∧ Hid (Below B w wr)) (fun i7 _ _ => n + 1 - (intOf i7).toNat)
 case atStart => exact ⟨0, 20, [], M, by go_num, by go_num, Lib.hid rfl, Lib.hid rfl, Lib.hid rfl, H, Lib.hid (Below.refl _ _)⟩
 case round =>
  obtain ⟨a, b, P1, M1, rfl, rfl, Hab, Hpa, He, HR, Hbw⟩ := hrel
  have hlen : P1.length + M1.length = n := by have := HR.out.len; rwa [List.length_append] at this
  have han : a ≤ n := by have := Hpa.out; omega
  by_cases hlt : b ≤ n
  ·have g1 : decide ((b : Int) ≤ (n : Int)) = true := decide_eq_true (by omega)
   have g1b : decide (b ≤ n) = true := decide_eq_true hlt
   obtain ⟨S, M2, hM, hS⟩ := cut1 20 M1 (by have := Hab.out; have := Hpa.out; omega)
   subst hM
   obtain ⟨b2, hb2⟩ : ∃ b2, b2 = b + 20 := ⟨_, rfl⟩
   have e1 : (b : Int) + 20 = (b2 : Int) := by omega
   have w1 : IntKind.i64.wrap (b2 : Int) = (b2 : Int) := by rw [IntKind.wrap_i64]; omega
   have HS := Lib.hid (ains_c B g n cap a b P1 S M2 wr (by have := HR.out; simpa using this) Hpa.out (by have := Hab.out; omega) hn (fun x hx => Hq.out x (bl_mem He.out (by simpa using hx))) (Nat.le_trans HB.out Hbw.out.size))
   have He2 := Lib.hid (show P1 ++ sortB ltM S ++ BL 20 M2 = BL 20 M by rw [List.append_assoc, ← BL_app (by omega) hS]; exact He.out)
   have Hb2 := Lib.hid hb2
   have HL2 := Lib.hid (show (P1 ++ sortB ltM S).length = b by rw [List.length_append, (sortB_perm S).length_eq, hS, Hpa.out]; exact Hab.out.symm)
   clear hb2 hS hlen HR He
   go_wp2_with fail
   refine HS.out.mono ?_
   rintro e wi ⟨rfl, hR, hF⟩
   have HR2 := Lib.hid hR
   have Hb3 := Lib.hid (Hbw.out.trans hF)
   clear hR hF HS
   go_wp2
   go_roundw
   case rel => exact ⟨b, b2, P1 ++ sortB ltM S, M2, by go_num, by go_num, Hb2, HL2, He2, HR2, Hb3⟩
   case measure => have := Hab.out; simp [intOf]; omega
  ·have g1 : decide ((b : Int) ≤ (n : Int)) = false := decide_eq_false (by omega)
   have g1b : decide (b ≤ n) = false := decide_eq_false hlt
   have HS := Lib.hid (ains_c B g n cap a n P1 M1 [] wr (by rw [List.append_nil]; exact HR.out) Hpa.out (by have := Hpa.out; omega) hn (fun x hx => Hq.out x (bl_mem He.out (by simpa using hx))) (Nat.le_trans HB.out Hbw.out.size))
   have He2 := Lib.hid (show P1 ++ sortB ltM M1 ++ [] = BL 20 M by rw [List.append_nil, ← BL_le (d := 20) (by have := Hab.out; have := Hpa.out; omega)]; exact He.out)
   clear hlen HR He
   go_wp2_with fail
   refine HS.out.mono ?_
   rintro e wi ⟨rfl, hR, hF⟩
   rw [He2.out] at hR
   have HR2 := Lib.hid hR
   have Hb3 := Lib.hid (Hbw.out.trans hF)
   clear hR hF HS He2 Hbw Hab Hpa
   go_wp2
   go_loopw [6] (fun i6 wr => ∃ (d : Nat), i6 = i64 (d : Int) ∧ 20 ≤ d ∧ d ≤ 120000 ∧ Hid (RowM wr B g n cap (BL d M)) ∧ Hid (Below B w wr)) (fun i6 _ => n - (intOf i6).toNat)
   case atStart => exact ⟨20, by go_num, by omega, by omega, HR2, Hb3⟩
   case round =>
    clear HR2 Hb3 g1 g1b hlt
    obtain ⟨d, rfl, hd1, hd2, HR, Hbw⟩ := hrel
    by_cases hlt : d < n
    ·have g1 : decide ((d : Int) < (n : Int)) = true := decide_eq_true (by omega)
     have g1b : decide (d < n) = true := decide_eq_true hlt
     obtain ⟨dd, hdd⟩ : ∃ dd, dd = 2 * d := ⟨_, rfl⟩
     have e1 : (2 : Int) * (d : Int) = (dd : Int) := by omega
     have e2 : (d : Int) * 2 = (dd : Int) := by omega
     have w1 : IntKind.i64.wrap (dd : Int) = (dd : Int) := by rw [IntKind.wrap_i64]; omega
     have Hdd := Lib.hid hdd
     clear hdd
     go_wp2_with fail
     go_loopw [7, 8] (fun i7 i8 wr => ∃ (a b : Nat) (P1 M1 : List Mv), i7 = i64 (a : Int) ∧ i8 = i64 (b : Int) ∧ Hid (b = a + dd) ∧ Hid (P1.length = a) ∧ Hid (P1 ++ BL dd M1 = BL dd M) ∧ Hid (RowM wr B g n cap (P1 ++ BL d M1)) ∧ Hid (Below B w wr)) (fun i7 _ _ => n + 1 - (intOf i7).toNat)
     case atStart => exact ⟨0, dd, [], M, by go_num, by go_num, Lib.hid (by omega), Lib.hid rfl, Lib.hid rfl, HR, Hbw⟩
     case round =>
      clear HR Hbw
      obtain ⟨a, b, P1, M1, rfl, rfl, Hab, Hpa, He, HR, Hbw⟩ := hrel
      have hlen : P1.length + M1.length = n := by have := HR.out.len; rwa [List.length_append, BL_len] at this
      have han : a ≤ n := by have := Hpa.out; omega
      obtain ⟨m, hm⟩ : ∃ m, m = a + d := ⟨_, rfl⟩
      have e3 : (a : Int) + (d : Int) = (m : Int) := by omega
      have w3 : IntKind.i64.wrap (m : Int) = (m : Int) := by rw [IntKind.wrap_i64]; omega
      by_cases hbn : b ≤ n
      ·have g3 : decide ((b : Int) ≤ (n : Int)) = true := decide_eq_true (by omega)
       have g3b : decide (b ≤ n) = true := decide_eq_true hbn
       obtain ⟨S, T, M2, hM, hS, hT⟩ := cut2 d M1 (by have := Hab.out; have := Hpa.out; have := Hdd.out; omega)
       subst hM
       obtain ⟨b2, hb2⟩ : ∃ b2, b2 = b + dd := ⟨_, rfl⟩
       have e4 : (b : Int) + (dd : Int) = (b2 : Int) := by omega
       have w4 : IntKind.i64.wrap (b2 : Int) = (b2 : Int) := by rw [IntKind.wrap_i64]; have := Hdd.out; omega
       have HB2 := BL_two (by omega) hS hT M2
       have HS := Lib.hid (asym_c B g n cap hn _ a m b P1 (sortB ltM S) (sortB ltM T) (BL d M2) wr rfl (by have := HR.out; rw [HB2.1] at this; simpa using this) Hpa.out (by rw [(sortB_perm S).length_eq]; omega) (by rw [(sortB_perm T).length_eq]; have := Hab.out; have := Hdd.out; omega) (by rw [(sortB_perm S).length_eq]; omega) (by rw [(sortB_perm T).length_eq]; omega) (Nat.le_trans HB.out Hbw.out.size) (sortB_sorted ltM_strict S) (sortB_sorted ltM_strict T) (fun x hx => Hq.out x (bl_mem He.out (by
        rcases List.mem_append.1 hx with hx | hx
        ·have := (sortB_perm S).mem_iff.1 hx; simp [this]
        ·have := (sortB_perm T).mem_iff.1 hx; simp [this]))))
       have He2 := Lib.hid (show P1 ++ mrg ltM (sortB ltM S) (sortB ltM T) ++ BL dd M2 = BL dd M by rw [← He.out, Hdd.out, HB2.2, List.append_assoc])
       have Hb2 := Lib.hid hb2
       have HL2 := Lib.hid (show (P1 ++ mrg ltM (sortB ltM S) (sortB ltM T)).length = b by rw [List.length_append, mrg_len, (sortB_perm S).length_eq, (sortB_perm T).length_eq, hS, hT, Hpa.out]; have := Hab.out; have := Hdd.out; omega)
       clear hb2 hS hT hlen HR He HB2 hm
       go_wp2_with fail
       refine HS.out.mono ?_
       rintro e wi ⟨rfl, hR, hF⟩
       have HR2 := Lib.hid hR
       have Hb3 := Lib.hid (Hbw.out.trans hF)
       clear hR hF HS
       go_wp2
       go_roundw
       case rel => exact ⟨b, b2, P1 ++ mrg ltM (sortB ltM S) (sortB ltM T), M2, by go_num, by go_num, Hb2, HL2, He2, HR2, Hb3⟩
       case measure => have := Hab.out; have := Hdd.out; simp [intOf]; omega
      ·have g3 : decide ((b : Int) ≤ (n : Int)) = false := decide_eq_false (by omega)
       have g3b : decide (b ≤ n) = false := decide_eq_false hbn
       by_cases hmn : m < n
       ·have g4 : decide ((m : Int) < (n : Int)) = true := decide_eq_true (by omega)
        have g4b : decide (m < n) = true := decide_eq_true hmn
        obtain ⟨S, T, hM, hS⟩ := cut1 d M1 (by have := Hpa.out; omega)
        subst hM
        rw [List.length_append] at hlen
        have HB2 := BL_last (by omega) hS (T := T) (by have := Hab.out; have := Hdd.out; have := Hpa.out; omega)
        have HS := Lib.hid (asym_c B g n cap hn _ a m n P1 (sortB ltM S) (sortB ltM T) [] wr rfl (by have := HR.out; rw [HB2.1] at this; simpa using this) Hpa.out (by rw [(sortB_perm S).length_eq]; omega) (by rw [(sortB_perm T).length_eq]; have := Hpa.out; omega) (by rw [(sortB_perm S).length_eq]; omega) (by rw [(sortB_perm T).length_eq]; have := Hpa.out; omega) (Nat.le_trans HB.out Hbw.out.size) (sortB_sorted ltM_strict S) (sortB_sorted ltM_strict T) (fun x hx => Hq.out x (bl_mem He.out (by
         rcases List.mem_append.1 hx with hx | hx
         ·have := (sortB_perm S).mem_iff.1 hx; simp [this]
         ·have := (sortB_perm T).mem_iff.1 hx; simp [this]))))
        have He2 := Lib.hid (show P1 ++ mrg ltM (sortB ltM S) (sortB ltM T) ++ [] = BL dd M by rw [← He.out, Hdd.out, HB2.2, List.append_nil])
        clear hS hlen HR He HB2 hm
        go_wp2_with fail
        refine HS.out.mono ?_
        rintro e wi ⟨rfl, hR, hF⟩
        rw [He2.out] at hR
        have HR2 := Lib.hid hR
        have Hb3 := Lib.hid (Hbw.out.trans hF)
        clear hR hF HS
        go_wp2
        go_roundw
        case rel => exact ⟨dd, by go_num, by have := Hdd.out; omega, by have := Hdd.out; omega, HR2, Hb3⟩
        case measure => have := Hdd.out; simp [intOf]; omega
       ·have g4 : decide ((m : Int) < (n : Int)) = false := decide_eq_false (by omega)
        have g4b : decide (m < n) = false := decide_eq_false hmn
        have HR2 := Lib.hid (show RowM wr B g n cap (BL dd M) by
         have h1 := HR.out
         rw [← He.out, BL_le (d := dd) (by have := Hdd.out; have := Hpa.out; omega)]
         rwa [BL_le (d := d) (by have := Hpa.out; omega)] at h1)
        clear hlen HR He hm
        go_wp2
        go_roundw
        case rel => exact ⟨dd, by go_num, by have := Hdd.out; omega, by have := Hdd.out; omega, HR2, Hbw⟩
        case measure => have := Hdd.out; simp [intOf]; omega
    ·have g1 : decide ((d : Int) < (n : Int)) = false := decide_eq_false (by omega)
     have g1b : decide (d < n) = false := decide_eq_false hlt
     have HR2 := Lib.hid (show RowM wr B g n cap (sortB ltM M) by rw [← BL_le (d := d) (by have := Hl.out; omega)]; exact HR.out)
     clear HR
     go_wp2
     go_end0
     exact ⟨rfl, HR2.out, Hbw.out⟩
end Go.Proofs.YtampniiehgimhaaGreat

/- audit: Largest -/
namespace Go.Proofs.YtampniiehgimhaaGreat
open Go.RowKit
set_option maxRecDepth 100000 in
set_option maxHeartbeats 4000000 in
theorem asort_c (B : Nat) (v : Value) (M : List Mv) (w : World) (h : Own w B 85 v M) (hn : M.length ≤ 60000) (hq : ∀ x ∈ M, okMv x) (hB : B ≤ w.heap.size) :
  Calls Tryz.prog 82 #[v, .func (.func 83) #[] #[]] w fun e w' => e = .returned (.tuple #[]) ∧ Own w' B 85 v (sortB ltM M) ∧ Below B w w' := by
 by_cases h1 : M.length ≤ 1
 ·obtain ⟨Am, cm, rfl, hsm⟩ := h.sl
  have e : sortB ltM M = M := by
   cases M with
   | nil => rfl
   | cons x M =>
    cases M with
    | nil => rfl
    | cons y M => simp at h1
  refine (asort1_c Am M.length cm _ w h1).mono ?_
  rintro e w' ⟨rfl, rfl⟩
  exact ⟨rfl, by rw [show sortB ltM M = M from ‹_›]; exact h, Below.refl _ _⟩
 ·obtain ⟨g, cap, cur, rfl, -⟩ := h.form (by omega)
  have hR : RowM w B g M.length cap M := ⟨h, rfl⟩
  have HS := Lib.hid (astab_c B g M.length cap M w hR hn hq hB)
  clear h hR hq hB
  generalize hk : M.length = n at *
  have Hk := Lib.hid hk
  clear hk
  go_enter Tryz.func82, Tryz.ntmps82
  go_wp2_with fail
  refine HS.out.mono ?_
  rintro e w1 ⟨rfl, hO, hF⟩
  have HO := Lib.hid hO.own
  have HF := Lib.hid hF
  clear hO hF HS
  go_wp2
  go_end0
  exact ⟨rfl, HO.out, HF.out⟩
/-- moves, sorted by what they move -/
def ltC (a b : Id × Int × List Leg) : Bool := decide (amtL b.2.2 < amtL a.2.2)
theorem map_insM (x : Mv) : ∀ L : List Mv, (insB ltM x L).map Mv.core = insB ltC x.core (L.map Mv.core)
 | [] => rfl
 | y :: L => by
  have ih := map_insM x L
  show List.map Mv.core (if ltM y x = true then y :: insB ltM x L else x :: y :: L) = (if ltM y x = true then y.core :: insB ltC x.core (L.map Mv.core) else x.core :: y.core :: L.map Mv.core)
  by_cases h : ltM y x = true
  ·rw [if_pos h, if_pos h, List.map_cons, ih]
  ·rw [if_neg h, if_neg h]; rfl
theorem map_sortM : ∀ L : List Mv, (sortB ltM L).map Mv.core = sortB ltC (L.map Mv.core)
 | [] => rfl
 | x :: L => by
  show (insB ltM x (sortB ltM L)).map Mv.core = insB ltC x.core (sortB ltC (L.map Mv.core))
  rw [map_insM, map_sortM L]
theorem mv_ok {l : List Od} (hx : ∀ x ∈ l, OdB x) {M : List Mv} (hc : M.map Mv.core = (movedL l).map coreM) : ∀ x ∈ M, okMv x := fun x hm => by
 have h1 : x.core ∈ (movedL l).map coreM := by rw [← hc]; exact List.mem_map_of_mem hm
 obtain ⟨y, hy, e⟩ := List.mem_map.1 h1
 obtain ⟨hyl, hmv⟩ := movedL_mem hx hy
 have e3 : mvL y = x.legs := congrArg (fun p => p.2.2) e
 exact ⟨by rw [← e3]; have := hmv.fits.2.1; omega, by rw [← e3]; exact hmv.sums (hx y hyl)⟩
/-- audit.Largest: the ids of the moves that move most -/
def largI (l : List Od) (n : Int) : List Id := ((sortB ltC ((movedL l).map coreM)).take (max n 0).toNat).map (·.1)
theorem alarg_c (A : Option Addr) (c : Nat) (l : List Od) (n : Int) (w : World) (h : Sl w w.heap.size A c l) (hx : ∀ x ∈ l, OdB x) (hl : ∀ x ∈ l, x.legs.length ≤ 65536) (hn : l.length ≤ 60000) :
  Calls Tryz.prog 47 #[.slice A l.length c, i64 n] w fun e w' => ∃ v, e = .returned v ∧ Own w' w.heap.size 34 v (largI l n) ∧ Below w.heap.size w w' :=
 alargG_c A c l n _ w h hx hl hn (by rw [(sortB_perm _).length_eq, List.length_map]) fun v M W hc hO hW => by
  have hM : M.length ≤ 60000 := by have := congrArg List.length hc; rw [List.length_map, List.length_map] at this; have := movedL_len l; omega
  refine (asort_c w.heap.size v M W hO hM (mv_ok hx hc) hW).mono ?_
  rintro e w' ⟨rfl, h1, h2⟩
  exact ⟨rfl, sortB ltM M, by rw [map_sortM, hc], h1, h2⟩
end Go.Proofs.YtampniiehgimhaaGreat
