/- law09.BookCopies -/
import Derived.Test.YtogipnfhcimeoaaGreatRows
import Derived.Test.YtogipnfhcimeoaaGreatBeBkWeighs
import Derived.Test.YtogipnfhcimeoaaGreatBeBkNil
import Derived.WalkKit
import Derived.WalkSpells
import Derived.WalkLawsBesides
import Derived.Deep.QuietTactic
import Derived.BigQuiet
import Derived.Laws.StructEq
import Derived.Deep.DeepFit
import Derived.StillTailTactics
namespace Go.Proofs.YtogipnfhcimeoaaGreat
open Go.RowKit
/-- books apart: what one has of its own the other has not -/
theorem apart_of {a c : BA} {n : Nat} (ha : ∀ k, a.all k → k < n) (hc : ∀ k, c.all k → n ≤ k) : ∀ k, a.all k → ¬ c.own k := fun k h1 h2 => by have := ha k h1; have := hc k (BA.own_all h2); omega
theorem sl_own {w w' : World} {B : Nat} {S : Nat → Prop} {A : Option Addr} {c : Nat} {l : List Od} (h : Sl w B A c l) (hg : Gr w w' S) (hB : B ≤ w.heap.size) (hS : ∀ k, S k → B ≤ k) : Sl w' B A c l :=
  h.grs hg fun b hb => ⟨Nat.lt_of_lt_of_le hb hB, fun e => absurd (hS b e) (Nat.not_le.2 hb)⟩
set_option maxRecDepth 100000 in
set_option maxHeartbeats 16000000 in
theorem bookCopies_c (A B : Option Addr) (c d : Nat) (l m : List Od) (w : World) (h : Sl w w.heap.size A c l) (hr : ∀ x ∈ l, InR x) (hm : Sl w w.heap.size B d m) (hrm : ∀ x ∈ m, InR x) :
    Calls Tryz.prog 10 #[.slice A l.length c, .slice B m.length d] w fun e w' => e = .returned (.bool true) ∧ Below w.heap.size w w' := by
  have hL := Lib.hid fun W => lives9_c W
  have Hod := Lib.hid (fewN_odB (m := 10) (n := 60) h hr)
  have Hom := Lib.hid (fewN_odB (m := 10) (n := 30) hm hrm)
  have H := Lib.hid h
  have HM := Lib.hid hm
  clear h hr hm hrm
  go_enter Tryz.func10, Tryz.ntmps10
  go_wp2_with fail
  refine (hL.out _).mono ?_
  rintro e w1 ⟨rfl, hF⟩
  have hb1 := hF
  clear hL hF
  have HFw := Lib.hid (few_09 A c 60 l w1 (H.out.later hb1) (by decide))
  have HFm := Lib.hid (fun W (hW : Below w.heap.size w W) => few_09 B d 30 m W (HM.out.later hW) (by decide))
  go_wp2_with fail
  refine HFw.out.mono ?_
  rintro e w2 ⟨v, rfl, hO, hF⟩
  obtain ⟨A2, c2, rfl, s2⟩ := hO.sl
  have hb2 := below_on hb1 (Nat.le_refl _) hF
  clear HFw hO hF
  go_wp2_with fail
  refine (HFm.out _ hb2).mono ?_
  rintro e w3 ⟨v, rfl, hO, hF⟩
  obtain ⟨A3, c3, rfl, s3⟩ := hO.sl
  have s2 := s2.later hF
  have hb3 := below_on hb2 (Nat.le_refl _) hF
  have HFo := Lib.hid (fun W (hW : Sl W W.heap.size A2 c2 (fewN 10 60 l)) => bfold_c A2 c2 (fewN 10 60 l) W hW Hod.out (fun x hx => Nat.le_trans (fewN_legs 10 60 l x hx) (by decide)) (Nat.le_trans (fewN_le 10 60 l) (by decide)))
  have Hlg := Lib.hid (show ∀ x ∈ fewN 10 30 m, x.legs.length ≤ 65536 from fun x hx => Nat.le_trans (fewN_legs 10 30 m x hx) (by decide))
  have hlm : (fewN 10 30 m).length ≤ 30 := fewN_le 10 30 m
  have hmc : (fewN 10 30 m).length ≤ c3 := s3.1
  clear HFm hO hF hb1 hb2 H HM Hod
  generalize fewN 10 60 l = l2 at *
  generalize fewN 10 30 m = m2 at *
  go_wp2_with fail
  refine (HFo.out _ s2).mono ?_
  rintro e w4 ⟨a, v4, B4, rfl, hA, hI, -, h0, ha, hF⟩
  have hb4 := below_on hb3 (Nat.le_refl _) hF
  have s2 := s2.later hF
  have hza := Lib.hid hF.size
  have Hla := Lib.hid hA.lt
  have s3 := s3.below hF
  clear hF h0
  go_wp2_with fail
  refine (HFo.out _ s2).mono ?_
  rintro e w5 ⟨a2, v5, B5, rfl, hA2, hI2, -, h0, ha2, hF⟩
  have hb5 := below_on hb4 (Nat.le_refl _) hF
  have hA := hA.later hF
  have hz5 := Lib.hid hF.size
  have s3 := s3.below (hF.mono hza.out)
  generalize foldL bk0 l2 = Bk1 at *
  have HCp := Lib.hid (fun W (hW : BkA W a Bk1) => bcopy_c a Bk1 W hW)
  have Hla2 := Lib.hid hA2.lt
  clear hF h0 HFo s2
  go_wp2_with fail
  refine (HCp.out _ hA).mono ?_
  rintro e w6 ⟨c6, rfl, hC, hca, hF⟩
  have hb6 := below_on hb5 (Nat.le_refl _) hF
  have hA := hA.later hF
  have hA2 := hA2.later hF
  have s3 := s3.below (hF.mono (Nat.le_trans hza.out hz5.out))
  have Hz6 := Lib.hid (show w3.heap.size ≤ w6.heap.size from Nat.le_trans hza.out (Nat.le_trans hz5.out hF.size))
  have Hlc := Lib.hid hC.lt
  have Hac := Lib.hid (apart_of (fun k hk => Nat.lt_of_lt_of_le (Hla.out k hk) hz5.out) hca)
  have Ha2c := Lib.hid (apart_of Hla2.out hca)
  have Hca := Lib.hid (show ∀ k, c6.all k → w3.heap.size ≤ k from fun k hk => Nat.le_trans (Nat.le_trans hza.out hz5.out) (hca k hk))
  have Hge := Lib.hid (show ∀ k, c6.all k → w.heap.size ≤ k from fun k hk => Nat.le_trans hb3.size (Hca.out k hk))
  have Hla6 := Lib.hid (show ∀ k, a.all k → k < w6.heap.size from fun k hk => Nat.lt_of_lt_of_le (Hla.out k hk) (Nat.le_trans hz5.out hF.size))
  have Hla26 := Lib.hid (show ∀ k, a2.all k → k < w6.heap.size from fun k hk => Nat.lt_of_lt_of_le (Hla2.out k hk) hF.size)
  have HI := Lib.hid hI
  have hz6 := Hz6.out
  clear hF ha ha2 hca hb3 hb4 hb5 hI hI2
  go_wp2_with fail
  go_loopw [10] (fun v wr => ∃ i : Nat, v = i64 i ∧ i ≤ m2.length ∧ BkA wr c6 (foldL Bk1 (m2.take i)) ∧ InvB (foldL Bk1 (m2.take i)) ∧ Sl wr w3.heap.size A3 c3 m2 ∧ BkA wr a Bk1 ∧ BkA wr a2 Bk1 ∧ Below w.heap.size w wr ∧ w6.heap.size ≤ wr.heap.size) (fun v _ => m2.length - (intOf v).toNat)
  case atStart => exact ⟨0, rfl, Nat.zero_le _, hC, HI.out, s3, hA, hA2, hb6, Nat.le_refl _⟩
  case round =>
    clear hC s3 hA hA2 hb6
    obtain ⟨i, rfl, hi, hC, hIi, s3, hA, hA2, hb, hz⟩ := hrel
    by_cases hlt : i < m2.length
    · have g1 : decide ((i : Int) < (m2.length : Int)) = true := decide_eq_true (by omega)
      have g2 : decide (i < m2.length) = true := decide_eq_true hlt
      have i0 : (0 : Int) ≤ (i : Int) := by omega
      have i1 : (i : Int) < (m2.length : Int) := by omega
      have HF := Lib.hid (show foldL Bk1 (m2.take (i + 1)) = (doL (foldL Bk1 (m2.take i)) m2[i]).2 by rw [List.take_succ_eq_append_getElem hlt, foldL_snoc])
      have hxo := Hom.out m2[i] (List.getElem_mem hlt)
      have Hdi := Lib.hid (show ∀ j, j = i → foldL Bk1 (m2.take j) = foldL Bk1 (m2.take i) from fun j e => by rw [e])
      have hin := OdIn.of_sl s3 (a := c6) Hca.out (Nat.le_trans hz6 hz) Hlg.out m2[i] (List.getElem_mem hlt)
      obtain ⟨b, o, rfl, hbb, _, c0, c1, c2', c3', c4', c5, c6', c7, c8, c9⟩ := s3.od hlt
      generalize foldL Bk1 (m2.take i) = Bi at *
      obtain ⟨x, hx⟩ : ∃ x, m2[i] = x := ⟨_, rfl⟩
      have Hx := Lib.hid hx
      rw [hx] at c0 c1 c2' c3' c4' c5 c6' c7 c8 c9 hin hxo HF
      have HIi := Lib.hid hIi
      have HI2 := Lib.hid (hIi.do_ hxo)
      have HD := Lib.hid (bdo_c c6 Bi x wr hC hIi hxo hin)
      have HDd := Lib.hid (fun (d : BA) W (hW : BkA W d Bi) (hin : OdIn W d x) => bdo_c d Bi x W hW hIi hxo hin)
      generalize doL Bi x = q at *
      obtain ⟨R, Bn⟩ := q
      dsimp only at *
      clear hx hxo hin hIi hC hbb
      go_wp2_with fail
      refine HD.out.mono ?_
      rintro e w7 ⟨rfl, hC, hG⟩
      have hb7 := hb.trans (BkA.own_below hG hb.size Hge.out)
      have hA := hA.kept hG Hac.out
      have hA2 := hA2.kept hG Ha2c.out
      have s3 := sl_own s3 hG (Nat.le_trans hz6 hz) (fun k hk => Hca.out k (BA.own_all hk))
      have hz7 := Nat.le_trans hz hG.size
      have hba := (Below.refl w7.heap.size w7).alloc (Nat.le_refl _) (.cells #[i64 R.err, i64 R.hav, i64 R.set_, i64 R.num] 57)
      have hr7 := heap_alloc_new w7 (.cells #[i64 R.err, i64 R.hav, i64 R.set_, i64 R.num] 57)
      have hb8 := hb7.alloc hb7.size (.cells #[i64 R.err, i64 R.hav, i64 R.set_, i64 R.num] 57)
      have hC := hC.later hba
      have hA := hA.later hba
      have hA2 := hA2.later hba
      have s3 := sl_own s3 (Gr.of_below hba (fun _ => False)) (Nat.le_trans hz6 hz7) (fun _ e => e.elim)
      have hz8 := Nat.le_trans hz7 hba.size
      have hg7 : w7.heap.size < (w7.alloc (.cells #[i64 R.err, i64 R.hav, i64 R.set_, i64 R.num] 57)).heap.size := by simp
      have hg7' : w6.heap.size ≤ w7.heap.size := hz7
      clear HD hG hba hb hb7 hz hz7 c0 c1 c2' c3' c4' c5 c6' c7 c8 c9
      have HS1 := Lib.hid (bsame_c a a2 Bk1 Bk1 _ hA hA2 HI.out HI.out)
      rw [sameBk_refl] at HS1
      go_wp2_with fail
      generalize w7.alloc (.cells #[i64 R.err, i64 R.hav, i64 R.set_, i64 R.num] 57) = w8 at *
      generalize w7.heap.size = g7 at *
      refine HS1.out.mono ?_
      rintro e w9 ⟨rfl, hF⟩
      have hb9 := hb8.trans (hF.mono hb8.size)
      have hC := hC.later hF
      have hA := hA.later hF
      have hA2 := hA2.later hF
      have hr9 := row_later hr7 hF
      have s3 := sl_own s3 (Gr.of_below hF (fun _ => False)) (Nat.le_trans hz6 hz8) (fun _ e => e.elim)
      have hz9 := Nat.le_trans hz8 hF.size
      have hg9 := Nat.lt_of_lt_of_le hg7 hF.size
      clear HS1 hF hb8 hz8 hg7 hr7
      go_wp2_with fail
      refine (HCp.out _ hA).mono ?_
      rintro e w10 ⟨d, rfl, hD, hda, hF⟩
      have hb10 := hb9.trans (hF.mono hb9.size)
      have hC := hC.later hF
      have hA := hA.later hF
      have hA2 := hA2.later hF
      have hr10 := row_later hr9 hF
      have s3 := sl_own s3 (Gr.of_below hF (fun _ => False)) (Nat.le_trans hz6 hz9) (fun _ e => e.elim)
      have hz10 := Nat.le_trans hz9 hF.size
      have Hda := Lib.hid hda
      have Hz9 := Lib.hid hz9
      have Hg9 := Lib.hid hg9
      have Hcd := Lib.hid (show ∀ k, c6.all k → ¬ d.own k from fun k h1 h2 => by have := Hlc.out k h1; have := Hda.out k (BA.own_all h2); omega)
      have Had := Lib.hid (show ∀ k, a.all k → ¬ d.own k from fun k h1 h2 => by have := Hla6.out k h1; have := Hda.out k (BA.own_all h2); omega)
      have Ha2d := Lib.hid (show ∀ k, a2.all k → ¬ d.own k from fun k h1 h2 => by have := Hla26.out k h1; have := Hda.out k (BA.own_all h2); omega)
      have Hd3 := Lib.hid (show ∀ k, d.all k → w3.heap.size ≤ k from fun k h1 => by have := Hda.out k h1; omega)
      have Hdg := Lib.hid (show ∀ k, d.all k → k ≠ g7 from fun k h1 => by have := Hda.out k h1; omega)
      have Hdw := Lib.hid (show ∀ k, d.all k → w.heap.size ≤ k from fun k h1 => by have := Hda.out k h1; have := hb9.size; omega)
      clear hF hb9 hz9 hg9 hr9 hda
      go_wp2_with fail
      go_loopw [13] (fun v wq => ∃ j : Nat, v = i64 j ∧ j ≤ i ∧ BkA wq d (foldL Bk1 (m2.take j)) ∧ InvB (foldL Bk1 (m2.take j)) ∧ BkA wq c6 Bn ∧ BkA wq a Bk1 ∧ BkA wq a2 Bk1 ∧ Sl wq w3.heap.size (some ⟨b, o, none⟩) c3 m2 ∧ wq.heap[g7]? = some (.cells #[i64 R.err, i64 R.hav, i64 R.set_, i64 R.num] 57 (0, 0)) ∧ Below w.heap.size w wq ∧ w6.heap.size ≤ wq.heap.size) (fun v _ => i - (intOf v).toNat)
      case atStart => exact ⟨0, rfl, Nat.zero_le _, hD, HI.out, hC, hA, hA2, s3, hr10, hb10, hz10⟩
      case round =>
        clear hD hC hA hA2 s3 hr10 hb10 hz10
        obtain ⟨j, rfl, hj, hD, hIj, hC, hA, hA2, s3, hr, hb, hz⟩ := hrel
        by_cases hjl : j < i
        · have g3 : decide ((j : Int) < (i : Int)) = true := decide_eq_true (by omega)
          have g4 : decide (j < i) = true := decide_eq_true hjl
          have j0 : (0 : Int) ≤ (j : Int) := by omega
          have j1 : (j : Int) < (m2.length : Int) := by omega
          have hjm : j < m2.length := by omega
          have HFj := Lib.hid (show foldL Bk1 (m2.take (j + 1)) = (doL (foldL Bk1 (m2.take j)) m2[j]).2 by rw [List.take_succ_eq_append_getElem hjm, foldL_snoc])
          have hyo := Hom.out m2[j] (List.getElem_mem hjm)
          have hin := OdIn.of_sl s3 (a := d) Hd3.out (Nat.le_trans hz6 hz) Hlg.out m2[j] (List.getElem_mem hjm)
          obtain ⟨b', o', hA', _, _, c0, c1, c2', c3', c4', c5, c6', c7, c8, c9⟩ := s3.od hjm
          injection hA' with hA'
          injection hA' with hA1 hA2'
          subst hA1 hA2'
          generalize foldL Bk1 (m2.take j) = Bj at *
          generalize m2[j] = y at *
          have HIj := Lib.hid (hIj.do_ hyo)
          have HD := Lib.hid (bdo_c d Bj y wr hD hIj hyo hin)
          generalize doL Bj y = q at *
          obtain ⟨R', Bj'⟩ := q
          dsimp only at *
          clear hyo hin hIj hD
          go_wp2_with fail
          refine HD.out.mono ?_
          rintro e w11 ⟨rfl, hD, hG⟩
          have hb11 := hb.trans (BkA.own_below hG hb.size Hdw.out)
          have hC := hC.kept hG Hcd.out
          have hA := hA.kept hG Had.out
          have hA2 := hA2.kept hG Ha2d.out
          have s3 := sl_own s3 hG (Nat.le_trans hz6 hz) (fun k hk => Hd3.out k (BA.own_all hk))
          have hr := row_kept hr hG Hdg.out
          have hz11 := Nat.le_trans hz hG.size
          clear HD hG hb hz c0 c1 c2' c3' c4' c5 c6' c7 c8 c9
          go_wp2
          go_roundw
          case rel => exact ⟨j + 1, by go_num, by omega, by rw [HFj.out]; exact hD, by rw [HFj.out]; exact HIj.out, hC, hA, hA2, s3, hr, hb11, hz11⟩
          case measure => simp [intOf]; omega
        · have hji : j = i := by omega
          rw [Hdi.out j hji] at hD
          clear hIj
          have g3 : decide ((j : Int) < (i : Int)) = false := decide_eq_false (by omega)
          have g4 : decide (j < i) = false := decide_eq_false hjl
          have hin := OdIn.of_sl s3 (a := d) Hd3.out (Nat.le_trans hz6 hz) Hlg.out m2[i] (List.getElem_mem hlt)
          obtain ⟨b', o', hA', _, _, c0, c1, c2', c3', c4', c5, c6', c7, c8, c9⟩ := s3.od hlt
          injection hA' with hA'
          injection hA' with hA1 hA2'
          subst hA1 hA2'
          rw [Hx.out] at hin c0 c1 c2' c3' c4' c5 c6' c7 c8 c9
          have hne : ∀ W : World, (binOp .neq 57 (.agg #[i64 R.err, i64 R.hav, i64 R.set_, i64 R.num]) (.agg #[i64 R.err, i64 R.hav, i64 R.set_, i64 R.num])).run Tryz.prog W = .ok (.bool false) W := fun W => (neq_rp R R W).trans (by rw [decide_eq_true rfl]; rfl)
          have HD := Lib.hid (HDd.out d wr.drew (hD.later (Below.refl _ _).drew) (hin.later (Below.refl _ _).drew))
          have HSm := Lib.hid (fun W (h1 : BkA W c6 Bn) (h2 : BkA W d Bn) => bsame_c c6 d Bn Bn W h1 h2 HI2.out HI2.out)
          have HSm2 := Lib.hid (fun W (h1 : BkA W c6 Bn) (h2 : BkA W d Bn) => bsame_c d c6 Bn Bn W h2 h1 HI2.out HI2.out)
          rw [sameBk_refl] at HSm HSm2
          have q0 := cell_of_row _ g7 0 _ _ (0, 0) hr
          have q1 := cell_of_row _ g7 1 _ _ (0, 0) hr
          have q2 := cell_of_row _ g7 2 _ _ (0, 0) hr
          have q3 := cell_of_row _ g7 3 _ _ (0, 0) hr
          simp only [List.getElem?_toArray, List.getElem?_cons_zero, List.getElem?_cons_succ] at q0 q1 q2 q3
          have hbl : b < w3.heap.size := by
            obtain ⟨b', o', hA', hl, _⟩ := s3.od hlt
            have e : b = b' := congrArg (fun A : Option Addr => (A.map Addr.block).getD 0) hA'
            exact e ▸ hl
          unfold Od.v at HD
          have hS : ∀ V, Gr wr V d.own → (fun V : World => Gr wr V d.own ∧ V.cell? ⟨b, o + i * 10, none⟩ = some (i64 x.client) ∧ V.cell? ⟨b, o + i * 10 + 1, none⟩ = some (i64 x.seq) ∧ V.cell? ⟨b, o + i * 10 + 2, none⟩ = some (i64 x.kind) ∧ V.cell? ⟨b, o + i * 10 + 3, none⟩ = some (.string x.acct) ∧ V.cell? ⟨b, o + i * 10 + 4, none⟩ = some (.string x.peer) ∧ V.cell? ⟨b, o + i * 10 + 5, none⟩ = some (i64 x.sum) ∧ V.cell? ⟨b, o + i * 10 + 6, none⟩ = some (.slice x.la x.legs.length x.lc) ∧ V.cell? ⟨b, o + i * 10 + 7, none⟩ = some (i64 x.period) ∧ V.cell? ⟨b, o + i * 10 + 8, none⟩ = some (i64 x.hold) ∧ V.cell? ⟨b, o + i * 10 + 9, none⟩ = some (.string x.note) ∧ V.cell? ⟨g7, 0, none⟩ = some (i64 R.err) ∧ V.cell? ⟨g7, 1, none⟩ = some (i64 R.hav) ∧ V.cell? ⟨g7, 2, none⟩ = some (i64 R.set_) ∧ V.cell? ⟨g7, 3, none⟩ = some (i64 R.num)) V := fun V hV => ⟨hV, (World.cell?_of_block (hV.block b (World.block_lt_of_cell? _ _ c0) (fun e => absurd (Hd3.out b (BA.own_all e)) (Nat.not_le.2 hbl)))).trans c0, (World.cell?_of_block (hV.block b (World.block_lt_of_cell? _ _ c1) (fun e => absurd (Hd3.out b (BA.own_all e)) (Nat.not_le.2 hbl)))).trans c1, (World.cell?_of_block (hV.block b (World.block_lt_of_cell? _ _ c2') (fun e => absurd (Hd3.out b (BA.own_all e)) (Nat.not_le.2 hbl)))).trans c2', (World.cell?_of_block (hV.block b (World.block_lt_of_cell? _ _ c3') (fun e => absurd (Hd3.out b (BA.own_all e)) (Nat.not_le.2 hbl)))).trans c3', (World.cell?_of_block (hV.block b (World.block_lt_of_cell? _ _ c4') (fun e => absurd (Hd3.out b (BA.own_all e)) (Nat.not_le.2 hbl)))).trans c4', (World.cell?_of_block (hV.block b (World.block_lt_of_cell? _ _ c5) (fun e => absurd (Hd3.out b (BA.own_all e)) (Nat.not_le.2 hbl)))).trans c5, (World.cell?_of_block (hV.block b (World.block_lt_of_cell? _ _ c6') (fun e => absurd (Hd3.out b (BA.own_all e)) (Nat.not_le.2 hbl)))).trans c6', (World.cell?_of_block (hV.block b (World.block_lt_of_cell? _ _ c7) (fun e => absurd (Hd3.out b (BA.own_all e)) (Nat.not_le.2 hbl)))).trans c7, (World.cell?_of_block (hV.block b (World.block_lt_of_cell? _ _ c8) (fun e => absurd (Hd3.out b (BA.own_all e)) (Nat.not_le.2 hbl)))).trans c8, (World.cell?_of_block (hV.block b (World.block_lt_of_cell? _ _ c9) (fun e => absurd (Hd3.out b (BA.own_all e)) (Nat.not_le.2 hbl)))).trans c9, (World.cell?_of_block (hV.block g7 (World.block_lt_of_cell? _ _ q0) (fun e => Hdg.out g7 (BA.own_all e) rfl))).trans q0, (World.cell?_of_block (hV.block g7 (World.block_lt_of_cell? _ _ q1) (fun e => Hdg.out g7 (BA.own_all e) rfl))).trans q1, (World.cell?_of_block (hV.block g7 (World.block_lt_of_cell? _ _ q2) (fun e => Hdg.out g7 (BA.own_all e) rfl))).trans q2, (World.cell?_of_block (hV.block g7 (World.block_lt_of_cell? _ _ q3) (fun e => Hdg.out g7 (BA.own_all e) rfl))).trans q3⟩
          have HS := Lib.hid hS
          have hCD := hC.later (Below.refl _ _).drew
          have hAD := hA.later (Below.refl _ _).drew
          have hA2D := hA2.later (Below.refl _ _).drew
          have s3D := sl_own s3 (Gr.of_below (Below.refl _ _).drew (fun _ => False)) (Nat.le_trans hz6 hz) (fun _ e => e.elim)
          have hbD := hb.drew
          clear hS hD hC hA hA2 hin hr
          go_upto_region 18 with fail
          refine wp_region_noPanic ?_
          refine wp_region_l 19 (fun V : World => Gr wr V d.own ∧ V.cell? ⟨b, o + i * 10, none⟩ = some (i64 x.client) ∧ V.cell? ⟨b, o + i * 10 + 1, none⟩ = some (i64 x.seq) ∧ V.cell? ⟨b, o + i * 10 + 2, none⟩ = some (i64 x.kind) ∧ V.cell? ⟨b, o + i * 10 + 3, none⟩ = some (.string x.acct) ∧ V.cell? ⟨b, o + i * 10 + 4, none⟩ = some (.string x.peer) ∧ V.cell? ⟨b, o + i * 10 + 5, none⟩ = some (i64 x.sum) ∧ V.cell? ⟨b, o + i * 10 + 6, none⟩ = some (.slice x.la x.legs.length x.lc) ∧ V.cell? ⟨b, o + i * 10 + 7, none⟩ = some (i64 x.period) ∧ V.cell? ⟨b, o + i * 10 + 8, none⟩ = some (i64 x.hold) ∧ V.cell? ⟨b, o + i * 10 + 9, none⟩ = some (.string x.note) ∧ V.cell? ⟨g7, 0, none⟩ = some (i64 R.err) ∧ V.cell? ⟨g7, 1, none⟩ = some (i64 R.hav) ∧ V.cell? ⟨g7, 2, none⟩ = some (i64 R.set_) ∧ V.cell? ⟨g7, 3, none⟩ = some (i64 R.num)) (by kernel_rfl) (HS.out _ (Gr.of_below (Below.refl _ _).drew _)) (fun hH => ?_)
          refine wpAnyL_take (i := 0) (v := ?v20001) rfl (by kernel_rfl) (by kernel_rfl) (by kernel_rfl) (by kernel_rfl) (fun _ _ _ h => h) (Or.inl ⟨by kernel_rfl, ?hy20001⟩) (by assumption) ?r20001
          case hy20001 => (intro W hSW; obtain ⟨hV0, s0, s1, s2, s3, s4, s5, s6, s7, s8, s9, s10, s11, s12, s13⟩ := hSW; go_simp; try with_reducible rfl)
          try simp only [Act.put, List.getElem_toArray, List.getElem_cons_zero, List.setIfInBounds_toArray, List.set_cons_zero, List.set_cons_succ]
          refine wpAnyL_take (i := 1) (v := ?v20002) rfl (by kernel_rfl) (by kernel_rfl) (by kernel_rfl) (by kernel_rfl) (fun _ _ _ h => h) (Or.inl ⟨by kernel_rfl, ?hy20002⟩) (by assumption) ?r20002
          case hy20002 => (intro W hSW; obtain ⟨hV0, s0, s1, s2, s3, s4, s5, s6, s7, s8, s9, s10, s11, s12, s13⟩ := hSW; go_simp; try with_reducible rfl)
          try simp only [Act.put, List.getElem_toArray, List.getElem_cons_zero, List.getElem_cons_succ, List.setIfInBounds_toArray, List.set_cons_zero, List.set_cons_succ]
          refine wpAnyL_take (i := 2) (v := ?v20003) rfl (by kernel_rfl) (by kernel_rfl) (by kernel_rfl) (by kernel_rfl) (fun _ _ _ h => h) (Or.inl ⟨by kernel_rfl, ?hy20003⟩) (by assumption) ?r20003
          case hy20003 => (intro W hSW; obtain ⟨hV0, s0, s1, s2, s3, s4, s5, s6, s7, s8, s9, s10, s11, s12, s13⟩ := hSW; go_simp; try with_reducible rfl)
          try simp only [Act.put, List.getElem_toArray, List.getElem_cons_zero, List.getElem_cons_succ, List.setIfInBounds_toArray, List.set_cons_zero, List.set_cons_succ]
          refine wpAnyL_take (i := 3) (v := ?v20004) rfl (by kernel_rfl) (by kernel_rfl) (by kernel_rfl) (by kernel_rfl) (fun _ _ _ h => h) (Or.inl ⟨by kernel_rfl, ?hy20004⟩) (by assumption) ?r20004
          case hy20004 => (intro W hSW; obtain ⟨hV0, s0, s1, s2, s3, s4, s5, s6, s7, s8, s9, s10, s11, s12, s13⟩ := hSW; go_simp; try with_reducible rfl)
          try simp only [Act.put, List.getElem_toArray, List.getElem_cons_zero, List.getElem_cons_succ, List.setIfInBounds_toArray, List.set_cons_zero, List.set_cons_succ]
          refine wpAnyL_take (i := 4) (v := ?v20005) rfl (by kernel_rfl) (by kernel_rfl) (by kernel_rfl) (by kernel_rfl) (fun _ _ _ h => h) (Or.inl ⟨by kernel_rfl, ?hy20005⟩) (by assumption) ?r20005
          case hy20005 => (intro W hSW; obtain ⟨hV0, s0, s1, s2, s3, s4, s5, s6, s7, s8, s9, s10, s11, s12, s13⟩ := hSW; go_simp; try with_reducible rfl)
          try simp only [Act.put, List.getElem_toArray, List.getElem_cons_zero, List.getElem_cons_succ, List.setIfInBounds_toArray, List.set_cons_zero, List.set_cons_succ]
          refine wpAnyL_take (i := 6) (v := ?v20006) rfl (by kernel_rfl) (by kernel_rfl) (by kernel_rfl) (by kernel_rfl) (fun _ _ _ h => h) (Or.inl ⟨by kernel_rfl, ?hy20006⟩) (by assumption) ?r20006
          case hy20006 => (intro W hSW; obtain ⟨hV0, s0, s1, s2, s3, s4, s5, s6, s7, s8, s9, s10, s11, s12, s13⟩ := hSW; go_simp; try with_reducible rfl)
          try simp only [Act.put, List.getElem_toArray, List.getElem_cons_zero, List.getElem_cons_succ, List.setIfInBounds_toArray, List.set_cons_zero, List.set_cons_succ]
          refine wpAnyL_one (i := 5) (by kernel_rfl) rfl (by decide) (fun K hK => ?_)
          go_simp
          go_at_call 37
          with_reducible refine HD.out.mono ?_
          rintro e v1 ⟨rfl, hD, hG⟩
          have hgv := (Gr.of_below (Below.refl wr.heap.size wr).drew d.own).after hG
          have hC1 := hCD.kept hG Hcd.out
          have hA1 := hAD.kept hG Had.out
          have hA21 := hA2D.kept hG Ha2d.out
          have s31 := sl_own s3D hG (Nat.le_trans hz6 hz) (fun k hk => Hd3.out k (BA.own_all hk))
          have hb1 := hbD.trans (BkA.own_below hG hbD.size Hdw.out)
          have hz1 := Nat.le_trans hz hG.size
          clear hCD hAD hA2D s3D hbD HD hG
          refine hK.out _ _ (HS.out _ hgv) (fun hH => ?_)
          clear hK K
          try simp only [Act.put, List.getElem_toArray, List.getElem_cons_zero, List.getElem_cons_succ, List.setIfInBounds_toArray, List.set_cons_zero, List.set_cons_succ]
          refine wpAnyL_take (i := 7) (v := ?v20007) rfl (by kernel_rfl) (by kernel_rfl) (by kernel_rfl) (by kernel_rfl) (fun _ _ _ h => h) (Or.inl ⟨by kernel_rfl, ?hy20007⟩) (by assumption) ?r20007
          case hy20007 => (intro W hSW; obtain ⟨hV0, s0, s1, s2, s3, s4, s5, s6, s7, s8, s9, s10, s11, s12, s13⟩ := hSW; go_simp; try with_reducible rfl)
          try simp only [Act.put, List.getElem_toArray, List.getElem_cons_zero, List.getElem_cons_succ, List.setIfInBounds_toArray, List.set_cons_zero, List.set_cons_succ]
          refine wpAnyL_take (i := 8) (v := ?v20008) rfl (by kernel_rfl) (by kernel_rfl) (by kernel_rfl) (by kernel_rfl) (fun _ _ _ h => h) (Or.inl ⟨by kernel_rfl, ?hy20008⟩) (by assumption) ?r20008
          case hy20008 => (intro W hSW; obtain ⟨hV0, s0, s1, s2, s3, s4, s5, s6, s7, s8, s9, s10, s11, s12, s13⟩ := hSW; go_simp; try with_reducible rfl)
          try simp only [Act.put, List.getElem_toArray, List.getElem_cons_zero, List.getElem_cons_succ, List.setIfInBounds_toArray, List.set_cons_zero, List.set_cons_succ]
          refine wpAnyL_take (i := 9) (v := ?v20009) rfl (by kernel_rfl) (by kernel_rfl) (by kernel_rfl) (by kernel_rfl) (fun _ _ _ h => h) (Or.inl ⟨by kernel_rfl, ?hy20009⟩) (by assumption) ?r20009
          case hy20009 => (intro W hSW; obtain ⟨hV0, s0, s1, s2, s3, s4, s5, s6, s7, s8, s9, s10, s11, s12, s13⟩ := hSW; go_simp; try with_reducible rfl)
          try simp only [Act.put, List.getElem_toArray, List.getElem_cons_zero, List.getElem_cons_succ, List.setIfInBounds_toArray, List.set_cons_zero, List.set_cons_succ]
          refine wpAnyL_take (i := 10) (v := ?v20010) rfl (by kernel_rfl) (by kernel_rfl) (by kernel_rfl) (by kernel_rfl) (fun _ _ _ h => h) (Or.inl ⟨by kernel_rfl, ?hy20010⟩) (by assumption) ?r20010
          case hy20010 => (intro W hSW; obtain ⟨hV0, s0, s1, s2, s3, s4, s5, s6, s7, s8, s9, s10, s11, s12, s13⟩ := hSW; go_simp; try with_reducible rfl)
          try simp only [Act.put, List.getElem_toArray, List.getElem_cons_zero, List.getElem_cons_succ, List.setIfInBounds_toArray, List.set_cons_zero, List.set_cons_succ]
          refine wpAnyL_one (i := 11) (by kernel_rfl) rfl (by decide) (fun K hK => ?_)
          go_simp
          go_at_call 38
          with_reducible refine (HSm.out _ hC1 hD).mono ?_
          rintro e v2 ⟨rfl, hF⟩
          have hgv := hgv.more hF
          have hC1 := hC1.later hF
          have hD := hD.later hF
          have hA1 := hA1.later hF
          have hA21 := hA21.later hF
          have s31 := sl_own s31 (Gr.of_below hF (fun _ => False)) (Nat.le_trans hz6 hz1) (fun _ e => e.elim)
          have hb1 := hb1.trans (hF.mono hb1.size)
          have hz1 := Nat.le_trans hz1 hF.size
          clear hF
          refine hK.out _ _ (HS.out _ hgv) (fun hH => ?_)
          clear hK K
          try simp only [Act.put, List.getElem_toArray, List.getElem_cons_zero, List.getElem_cons_succ, List.setIfInBounds_toArray, List.set_cons_zero, List.set_cons_succ]
          refine wpAnyL_take (i := 12) (v := ?v20011) rfl (by kernel_rfl) (by kernel_rfl) (by kernel_rfl) (by kernel_rfl) (fun _ _ _ h => h) (Or.inl ⟨by kernel_rfl, ?hy20011⟩) (by assumption) ?r20011
          case hy20011 => (intro W hSW; obtain ⟨hV0, s0, s1, s2, s3, s4, s5, s6, s7, s8, s9, s10, s11, s12, s13⟩ := hSW; go_simp; try with_reducible rfl)
          try simp only [Act.put, List.getElem_toArray, List.getElem_cons_zero, List.getElem_cons_succ, List.setIfInBounds_toArray, List.set_cons_zero, List.set_cons_succ]
          refine wpAnyL_take (i := 13) (v := ?v20012) rfl (by kernel_rfl) (by kernel_rfl) (by kernel_rfl) (by kernel_rfl) (fun _ _ _ h => h) (Or.inl ⟨by kernel_rfl, ?hy20012⟩) (by assumption) ?r20012
          case hy20012 => (intro W hSW; obtain ⟨hV0, s0, s1, s2, s3, s4, s5, s6, s7, s8, s9, s10, s11, s12, s13⟩ := hSW; go_simp; try with_reducible rfl)
          try simp only [Act.put, List.getElem_toArray, List.getElem_cons_zero, List.getElem_cons_succ, List.setIfInBounds_toArray, List.set_cons_zero, List.set_cons_succ]
          refine wpAnyL_take (i := 14) (v := ?v20013) rfl (by kernel_rfl) (by kernel_rfl) (by kernel_rfl) (by kernel_rfl) (fun _ _ _ h => h) (Or.inl ⟨by kernel_rfl, ?hy20013⟩) (by assumption) ?r20013
          case hy20013 => (intro W hSW; obtain ⟨hV0, s0, s1, s2, s3, s4, s5, s6, s7, s8, s9, s10, s11, s12, s13⟩ := hSW; go_simp; try with_reducible rfl)
          try simp only [Act.put, List.getElem_toArray, List.getElem_cons_zero, List.getElem_cons_succ, List.setIfInBounds_toArray, List.set_cons_zero, List.set_cons_succ]
          refine wpAnyL_take (i := 15) (v := ?v20014) rfl (by kernel_rfl) (by kernel_rfl) (by kernel_rfl) (by kernel_rfl) (fun _ _ _ h => h) (Or.inl ⟨by kernel_rfl, ?hy20014⟩) (by assumption) ?r20014
          case hy20014 => (intro W hSW; obtain ⟨hV0, s0, s1, s2, s3, s4, s5, s6, s7, s8, s9, s10, s11, s12, s13⟩ := hSW; go_simp; try with_reducible rfl)
          try simp only [Act.put, List.getElem_toArray, List.getElem_cons_zero, List.getElem_cons_succ, List.setIfInBounds_toArray, List.set_cons_zero, List.set_cons_succ]
          refine wpAnyL_take (i := 16) (v := ?v20015) rfl (by kernel_rfl) (by kernel_rfl) (by kernel_rfl) (by kernel_rfl) (fun _ _ _ h => h) (Or.inl ⟨by kernel_rfl, ?hy20015⟩) (by assumption) ?r20015
          case hy20015 => (intro W hSW; obtain ⟨hV0, s0, s1, s2, s3, s4, s5, s6, s7, s8, s9, s10, s11, s12, s13⟩ := hSW; go_simp; try with_reducible rfl)
          try simp only [Act.put, List.getElem_toArray, List.getElem_cons_zero, List.getElem_cons_succ, List.setIfInBounds_toArray, List.set_cons_zero, List.set_cons_succ]
          refine wpAnyL_one (i := 17) (by kernel_rfl) rfl (by decide) (fun K hK => ?_)
          go_simp
          go_at_call 38
          with_reducible refine (HSm2.out _ hC1 hD).mono ?_
          rintro e v3 ⟨rfl, hF⟩
          have hgv := hgv.more hF
          have hC1 := hC1.later hF
          have hA1 := hA1.later hF
          have hA21 := hA21.later hF
          have s31 := sl_own s31 (Gr.of_below hF (fun _ => False)) (Nat.le_trans hz6 hz1) (fun _ e => e.elim)
          have hb1 := hb1.trans (hF.mono hb1.size)
          have hz1 := Nat.le_trans hz1 hF.size
          clear hF
          refine hK.out _ _ (HS.out _ hgv) (fun hH => ?_)
          clear hK K
          try simp only [Act.put, List.getElem_toArray, List.getElem_cons_zero, List.getElem_cons_succ, List.setIfInBounds_toArray, List.set_cons_zero, List.set_cons_succ]
          refine wpAnyL_take (i := 18) (v := ?v20016) rfl (by kernel_rfl) (by kernel_rfl) (by kernel_rfl) (by kernel_rfl) (fun _ _ _ h => h) (Or.inl ⟨by kernel_rfl, ?hy20016⟩) (by assumption) ?r20016
          case hy20016 => (intro W hSW; obtain ⟨hV0, s0, s1, s2, s3, s4, s5, s6, s7, s8, s9, s10, s11, s12, s13⟩ := hSW; go_simp; try with_reducible rfl)
          try simp only [Act.put, List.getElem_toArray, List.getElem_cons_zero, List.getElem_cons_succ, List.setIfInBounds_toArray, List.set_cons_zero, List.set_cons_succ]
          refine wpAnyL_last (by kernel_rfl) rfl (fun K hK => ?_)
          go_simp
          refine hK.out _ _ ?_
          clear hK K
          try simp only [Act.put, List.getElem_toArray, List.getElem_cons_zero, List.getElem_cons_succ, List.setIfInBounds_toArray, List.set_cons_zero, List.set_cons_succ]
          refine wpAnyL_done (by kernel_rfl) ?_ _
          refine NoPanic.normal ?_
          clear hH HS c0 c1 c2' c3' c4' c5 c6' c7 c8 c9 q0 q1 q2 q3
          go_wp2
          go_roundw
          case rel => exact ⟨i + 1, by go_num, by omega, by rw [HF.out]; exact hC1, by rw [HF.out]; exact HI2.out, s31, hA1, hA21, hb1, hz1⟩
          case measure => simp [intOf]; omega
    · obtain rfl : i = m2.length := by omega
      have g1 : decide ((m2.length : Int) < (m2.length : Int)) = false := decide_eq_false (by omega)
      clear hC hIi s3 hA2
      go_wp2_with fail
      refine (ask9_c 1 7 ⟨#[97]⟩ 0 _).mono ?_
      rintro e w12 ⟨rfl, hF⟩
      have hb12 := hb.trans (hF.mono hb.size)
      clear hF
      go_wp2_with fail
      refine (bdo_nil (askK 1 7 ⟨#[97]⟩ 0) _).mono ?_
      rintro e w13 ⟨rfl, hF⟩
      have hfd : ∀ W : World, (Instr.field 57 (.agg #[i64 1, i64 0, i64 0, i64 0]) 0).run Tryz.prog W = .ok (i64 1) W := fun W => by kernel_rfl
      have hb13 := hb12.trans (hF.mono hb12.size)
      clear hF
      go_wp2_with fail
      refine (baccts_nil _).mono ?_
      rintro e u1 ⟨rfl, rfl⟩
      go_wp2_with fail
      refine (bcopy_nil _).mono ?_
      rintro e u2 ⟨rfl, rfl⟩
      go_wp2_with fail
      refine (bsame_nil _).mono ?_
      rintro e u3 ⟨rfl, rfl⟩
      go_wp2_with fail
      refine (bsame_one a _).mono ?_
      rintro e u4 ⟨rfl, rfl⟩
      go_wp2
      go_ret
      exact ⟨rfl, hb13⟩
end Go.Proofs.YtogipnfhcimeoaaGreat
