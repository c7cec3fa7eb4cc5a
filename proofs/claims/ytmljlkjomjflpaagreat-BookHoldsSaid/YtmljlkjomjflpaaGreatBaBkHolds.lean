/- law09.BookHolds -/
import Derived.Test.YtmljlkjomjflpaaGreatRows
import Derived.Test.YtmljlkjomjflpaaGreatBaBkAsks
import Derived.WalkKit
import Derived.WalkSpells
import Derived.WalkLawsBesides
import Derived.Deep.QuietTactic
import Derived.BigQuiet
import Derived.Laws.StructEq
import Derived.Deep.DeepFit
import Derived.StillTailTactics
namespace Go.Proofs.YtmljlkjomjflpaaGreat
open Go.RowKit
theorem right_hold {k : ByteArray} {s : Int} (_h : rightB (askK 500 3 k s) = true) : numO (askK 500 3 k s) = 500 := rfl
def freeO (k : ByteArray) (n : Int) : Od := ⟨0, 501, 5, k, ⟨#[]⟩, 0, none, 0, [], 0, n, ⟨#[]⟩⟩
theorem right_free {k : ByteArray} (h : nameB k = true) : rightB (freeO k 500) = true := by
  unfold rightB
  have hb : sameB (freeO k 500) (dress (freeO k 500) (bareO (freeO k 500))) = true := decide_eq_true ⟨rfl, rfl, rfl, rfl, rfl, rfl, rfl, rfl, rfl⟩
  have hf : fitsO (freeO k 500) = (nameB k && heldB 500) := rfl
  rw [hb, hf, h]
  rfl
theorem free_none {L : List Ac} {H : List Held} {k : ByteArray} {n : Int} (h : getK Held.key H ⟨k, n⟩ = none) : freeHL L H k n = (6, L, H) := by unfold freeHL; rw [h]
/-- a hold that is told a number, freed, and freed again -/
theorem holds_plain {B : Bk} (hI : InvB B) {k : ByteArray} {s : Int} (_hs : R64 s) (_hk : k.size ≤ maxLen) (h : (doL B (askK 500 3 k s)).1.err = 0) :
    0 < s ∧ (doL B (askK 500 3 k s)).1.num = 500 ∧ s ≤ (doL B (askK 500 3 k s)).1.set_ ∧ R64 (doL B (askK 500 3 k s)).1.set_ ∧ (doL (doL B (askK 500 3 k s)).2 (freeO k 500)).1.err = 0 ∧ (doL (doL B (askK 500 3 k s)).2 (freeO k 500)).1.set_ = (doL B (askK 500 3 k s)).1.set_ - s ∧
      0 ≤ (doL B (askK 500 3 k s)).1.set_ - s ∧ (doL (doL B (askK 500 3 k s)).2 (freeO k 500)).2 = B ∧ (doL B (freeO k 500)).1 = rpE 6 := by
  by_cases hr : rightB (askK 500 3 k s) = false
  · unfold doL at h
    rw [if_pos hr] at h
    cases h
  have hr' : rightB (askK 500 3 k s) = true := by simpa using hr
  have hf := rightB_fits hr'
  have hf : (nameB k && decide ((0 : Int) < s)) = true := hf
  simp only [Bool.and_eq_true, decide_eq_true_eq] at hf
  have hd : doL B (askK 500 3 k s) = holdD B (askK 500 3 k s) := by
    unfold doL
    rw [if_neg hr]
    rfl
  have hH : holdD B (askK 500 3 k s) = (withN (tellsL (putH B.L B.H ⟨500, k, s⟩).2.1 k (putH B.L B.H ⟨500, k, s⟩).1) 500, ⟨(putH B.L B.H ⟨500, k, s⟩).2.1, (putH B.L B.H ⟨500, k, s⟩).2.2, B.cl⟩) := rfl
  rw [hd, hH] at h ⊢
  dsimp only at h ⊢
  have hp0 : (putH B.L B.H ⟨500, k, s⟩).1 = 0 := by
    apply Classical.byContradiction
    intro e
    rw [tells_of e] at h
    unfold withN at h
    split at h
    · rename_i h2; exact e h2
    · exact e h
  obtain ⟨a, ha, h1, h2, h3, h4, h5⟩ := put_free hI.inv (y := ⟨500, k, s⟩) hp0
  dsimp only at h1 h2 h3 h4 h5
  have hoa := hI.inv.okA a (getK_mem ha).1
  have hT : withN (tellsL (putH B.L B.H ⟨500, k, s⟩).2.1 k (putH B.L B.H ⟨500, k, s⟩).1) 500 = ⟨0, a.hav, a.set_ + s, 500⟩ := by
    rw [hp0, tells_ok (by rw [h3]), h3]
    rfl
  rw [hT]
  have hfr : doL ⟨(putH B.L B.H ⟨500, k, s⟩).2.1, (putH B.L B.H ⟨500, k, s⟩).2.2, B.cl⟩ (freeO k 500) = (tellsL B.L k 0, B) := by
    unfold doL
    rw [if_neg (by rw [right_free hf.1]; decide)]
    show relD _ _ = _
    unfold relD
    show (tellsL (freeHL (putH B.L B.H ⟨500, k, s⟩).2.1 (putH B.L B.H ⟨500, k, s⟩).2.2 k 500).2.1 k (freeHL (putH B.L B.H ⟨500, k, s⟩).2.1 (putH B.L B.H ⟨500, k, s⟩).2.2 k 500).1, (⟨(freeHL (putH B.L B.H ⟨500, k, s⟩).2.1 (putH B.L B.H ⟨500, k, s⟩).2.2 k 500).2.1, (freeHL (putH B.L B.H ⟨500, k, s⟩).2.1 (putH B.L B.H ⟨500, k, s⟩).2.2 k 500).2.2, B.cl⟩ : Bk)) = _
    rw [h2]
  rw [hfr]
  have hg := getLR_some ha
  have ht0 : tellsL B.L k 0 = ⟨0, a.hav, a.set_, 0⟩ := by rw [tells_ok (by rw [hg]), hg]
  rw [ht0]
  refine ⟨hf.2, rfl, ?_, h4, rfl, ?_, ?_, rfl, ?_⟩
  · show s ≤ a.set_ + s; have := hoa.2.1; omega
  · show a.set_ = a.set_ + s - s; omega
  · show 0 ≤ a.set_ + s - s; have := hoa.2.1; omega
  · unfold doL
    rw [if_neg (by rw [right_free hf.1]; decide)]
    show (relD B (freeO k 500)).1 = _
    unfold relD
    rw [show freeHL B.L B.H (freeO k 500).acct (freeO k 500).hold = (6, B.L, B.H) from free_none h5]
    show tellsL B.L k 6 = rpE 6
    exact tells_of (by show (6 : Int) ≠ 0; decide)
-- walk
theorem own_not {a c : BA} {n : Nat} (ha : ∀ k, a.all k → k < n) (hc : ∀ k, c.all k → n ≤ k) : ∀ k, c.all k → ¬ a.own k := fun k h1 h2 => by have := ha k (BA.own_all h2); have := hc k h1; omega
set_option maxRecDepth 100000 in
set_option maxHeartbeats 16000000 in
theorem bookHolds_c (A : Option Addr) (c : Nat) (l : List Od) (k : ByteArray) (s : Int) (w : World) (h : Sl w w.heap.size A c l) (hr : ∀ x ∈ l, InR x) (hk : k.size ≤ maxLen) (hs : R64 s) :
    Calls Tryz.prog 6 #[.slice A l.length c, .string k, i64 s] w fun e w' => e = .returned (.bool true) ∧ Below w.heap.size w w' := by
  have hL := Lib.hid fun W => lives9_c W
  have HAs := Lib.hid (fun (W : World) => ask9_c 500 3 k s W)
  have Hod := Lib.hid (fewN_odB (m := 10) (n := 60) h hr)
  have H := Lib.hid h
  clear h hr
  go_enter Tryz.func6, Tryz.ntmps6
  go_wp2_with fail
  refine (hL.out _).mono ?_
  rintro e w1 ⟨rfl, hF⟩
  have hb1 := hF
  have HFw := Lib.hid (few_09 A c 60 l w1 (H.out.later hF) (by decide))
  clear hL hF
  go_wp2_with fail
  refine HFw.out.mono ?_
  rintro e w2 ⟨v, rfl, hO, hF⟩
  obtain ⟨A2, c2, rfl, s2⟩ := hO.sl
  have hb2 := below_on hb1 (Nat.le_refl _) hF
  have HFo := Lib.hid (bfold_c A2 c2 (fewN 10 60 l) w2 s2 Hod.out (fun x hx => Nat.le_trans (fewN_legs 10 60 l x hx) (by decide)) (Nat.le_trans (fewN_le 10 60 l) (by decide)))
  clear HFw hO hF s2 hb1 H Hod
  generalize fewN 10 60 l = m at *
  go_wp2_with fail
  refine HFo.out.mono ?_
  rintro e w3 ⟨a, v3, B0, rfl, hB, hI, -, h0, ha, hF⟩
  generalize foldL bk0 m = B at *
  have hb3 := below_on hb2 (Nat.le_refl _) hF
  have Hge := Lib.hid (show ∀ k, a.all k → w.heap.size ≤ k from fun k hk => Nat.le_trans hb2.size (ha k hk).1)
  have Hlt := Lib.hid hB.lt
  have HI := Lib.hid hI
  have HCp := Lib.hid (bcopy_c a B w3 hB)
  have hB0 := hB
  clear HFo hF hb2 h0 ha hI hB
  go_wp2_with fail
  refine HCp.out.mono ?_
  rintro e w4 ⟨c, rfl, hC, hca, hF⟩
  have Hnc := Lib.hid (own_not Hlt.out hca)
  have hb4 := below_on hb3 (Nat.le_refl _) hF
  have hB4 := hB0.later hF
  have hz4 := hF.size
  have Hcl := Lib.hid hC.lt
  clear HCp hF hb3 hB0 hca
  go_wp2_with fail
  refine (HAs.out _).mono ?_
  rintro e w5 ⟨rfl, hF⟩
  have hb5 := below_on hb4 (Nat.le_refl _) hF
  have hB5 := hB4.later hF
  have hC5 := hC.later hF
  have hz5 := hF.size
  have HDo := Lib.hid (bdo_c a B (askK 500 3 k s) w5 hB5 HI.out (askK_odB hk ⟨by decide, by decide⟩ ⟨by decide, by decide⟩ hs) ⟨askK_ok 500 3 k s hk w5 _, Nat.zero_le _⟩)
  have HI2 := Lib.hid (HI.out.do_ (askK_odB (seq := 500) (kind := 3) hk ⟨by decide, by decide⟩ ⟨by decide, by decide⟩ hs))
  have HP := Lib.hid (holds_plain HI.out hs hk)
  have HE := Lib.hid (fun h => (doL_err (x := askK 500 3 k s) HI.out h).1)
  generalize doL B (askK 500 3 k s) = d at *
  obtain ⟨R, B2⟩ := d
  dsimp only at *
  clear hF hb4 hB4 hC HAs
  go_wp2_with fail
  refine HDo.out.mono ?_
  rintro e w6 ⟨rfl, hB6, hG⟩
  have hb6 := hb5.trans (BkA.own_below hG hb5.size Hge.out)
  have hC6 := hC5.kept hG Hnc.out
  have hz6 := hG.size
  have hba := (Below.refl w6.heap.size w6).alloc (Nat.le_refl _) (.cells #[i64 R.err, i64 R.hav, i64 R.set_, i64 R.num] 59)
  have hg6 := heap_alloc_new w6 (.cells #[i64 R.err, i64 R.hav, i64 R.set_, i64 R.num] 59)
  have hb7 := hb6.alloc hb6.size (.cells #[i64 R.err, i64 R.hav, i64 R.set_, i64 R.num] 59)
  have hB7 := hB6.later hba
  have hC7 := hC6.later hba
  have Hn6 := Lib.hid (show ∀ k, a.all k → k ≠ w6.heap.size from fun k hk e => by have := Hlt.out k hk; omega)
  have hz7 := hba.size
  clear hG hB5 hb5 hC5 hB6 hb6 hC6 hba HDo
  have r0 := cell_of_row _ w6.heap.size 0 _ _ (0, 0) hg6
  have r2 := cell_of_row _ w6.heap.size 2 _ _ (0, 0) hg6
  have r3 := cell_of_row _ w6.heap.size 3 _ _ (0, 0) hg6
  simp only [List.getElem?_toArray, List.getElem?_cons_zero, List.getElem?_cons_succ] at r0 r2 r3
  by_cases he : R.err = 0
  · have g1 : (R.err != 0) = false := by rw [he]; rfl
    obtain ⟨p0, p1, p2, p3, p4, p5, p6, p7, p8⟩ := HP.out he
    rw [← p1] at p4 p5 p7 p8
    have hx1 : OdB (freeO k R.num) := ⟨hk, Nat.zero_le _, R64_0, (show R64 501 from ⟨by decide, by decide⟩), (show R64 5 from ⟨by decide, by decide⟩), R64_0, R64_0, (show R64 R.num by rw [p1]; exact ⟨by decide, by decide⟩), fun _ h => by cases h⟩
    have HD1 := Lib.hid (fun (W : World) (hW : BkA W a B2) => bdo_c a B2 (freeO k R.num) W hW HI2.out hx1 ⟨⟨hk, Nat.zero_le _, Nat.zero_le _, SlS.nil_ _ _⟩, Nat.zero_le _⟩)
    have HD2 := Lib.hid (fun (W : World) (hW : BkA W a B) => bdo_c a B (freeO k R.num) W hW HI.out hx1 ⟨⟨hk, Nat.zero_le _, Nat.zero_le _, SlS.nil_ _ _⟩, Nat.zero_le _⟩)
    rw [p7] at HD1
    have hB2e : (doL B (freeO k R.num)).2 = B := (doL_err HI.out (by rw [p8]; show (6 : Int) ≠ 0; decide)).1
    rw [p8, hB2e] at HD2
    generalize (doL B2 (freeO k R.num)).1 = X at *
    have Hp := Lib.hid (show s ≤ R.set_ ∧ R64 R.set_ ∧ X.err = 0 ∧ X.set_ = R.set_ - s ∧ 0 < s from ⟨p2, p3, p4, p5, p0⟩)
    have Hp1 := Lib.hid p1
    clear p0 p1 p2 p3 p4 p5 p6 p7 p8 hB2e HP HE he hx1
    have hba := (Below.refl (w6.alloc (.cells #[i64 R.err, i64 R.hav, i64 R.set_, i64 R.num] 59)).heap.size (w6.alloc (.cells #[i64 R.err, i64 R.hav, i64 R.set_, i64 R.num] 59))).alloc (Nat.le_refl _) (.cells #[i64 0, i64 501, i64 5, .string k, .string ⟨#[]⟩, i64 0, .slice none 0 0, i64 0, i64 R.num, .string ⟨#[]⟩] 65)
    have ho8 := heap_alloc2_new w6 (.cells #[i64 R.err, i64 R.hav, i64 R.set_, i64 R.num] 59) (.cells #[i64 0, i64 501, i64 5, .string k, .string ⟨#[]⟩, i64 0, .slice none 0 0, i64 0, i64 R.num, .string ⟨#[]⟩] 65)
    have hz9 : w6.heap.size + 2 ≤ ((w6.alloc (.cells #[i64 R.err, i64 R.hav, i64 R.set_, i64 R.num] 59)).alloc (.cells #[i64 0, i64 501, i64 5, .string k, .string ⟨#[]⟩, i64 0, .slice none 0 0, i64 0, i64 R.num, .string ⟨#[]⟩] 65)).heap.size := by simp
    have hB8 := hB7.later hba
    have hC8 := hC7.later hba
    have hg8 := row_later hg6 hba
    have hb8 := hb7.trans (hba.mono hb7.size)
    go_upto_region 9 with fail
    generalize (w6.alloc (.cells #[i64 R.err, i64 R.hav, i64 R.set_, i64 R.num] 59)).alloc (.cells #[i64 0, i64 501, i64 5, .string k, .string ⟨#[]⟩, i64 0, .slice none 0 0, i64 0, i64 R.num, .string ⟨#[]⟩] 65) = w8 at *
    clear hba
    generalize hg8i : w6.heap.size + 1 = g8 at *
    have hz8 : w6.heap.size < g8 := by omega
    have hgl8 := (Array.getElem?_eq_some_iff.1 ho8).1
    have Hno := Lib.hid (show ∀ k, a.all k → k ≠ g8 from fun k hk e => by have := Hlt.out k hk; omega)
    have Hno2 := Lib.hid (show ∀ k, c.all k → k < w4.heap.size from Hcl.out)
    have Hw8 := Lib.hid (show w3.heap.size ≤ w8.heap.size ∧ w4.heap.size ≤ w8.heap.size ∧ w6.heap.size < w8.heap.size from by omega)
    have Hg6 := Lib.hid (show w4.heap.size ≤ w6.heap.size by omega)
    generalize w6.heap.size = g6 at *
    clear hg8i hz8 hz9 hB7 hC7 hg6 hb7 hz7 hz6 hz5 hz4 r0 r2 r3
    go_cut [12, 13] from 14 (fun s12 s13 wx => ∃ g12 g13, s12 = .pointer (some ⟨g12, 0, none⟩) ∧ s13 = .pointer (some ⟨g13, 0, none⟩) ∧ wx.heap[g12]? = some (.cells #[i64 X.err, i64 X.hav, i64 X.set_, i64 X.num] 59 (0, 0)) ∧ wx.heap[g13]? = some (.cells #[i64 6, i64 0, i64 0, i64 0] 59 (0, 0)) ∧ wx.heap[g6]? = some (.cells #[i64 R.err, i64 R.hav, i64 R.set_, i64 R.num] 59 (0, 0)) ∧ BkA wx a B ∧ BkA wx c B ∧ Below w.heap.size w wx)
    case first =>
      have hB := hB8.later (Below.refl _ _).drew
      have hC := hC8.later (Below.refl _ _).drew
      have hg := row_later hg8 (Below.refl _ _).drew
      have ho := row_later ho8 (Below.refl _ _).drew
      have hb := hb8.drew
      have hz : w8.heap.size ≤ w8.drew.heap.size := Nat.le_refl _
      have hb8s := Lib.hid hb8.size
      clear hB8 hC8 hg8 ho8 hb8
      refine wp_region_noPanic ?_
      refine wp_region_l 9 (fun V : World => V.cell? ⟨g8, 0, none⟩ = some (i64 0) ∧ V.cell? ⟨g8, 1, none⟩ = some (i64 501) ∧ V.cell? ⟨g8, 2, none⟩ = some (i64 5) ∧ V.cell? ⟨g8, 3, none⟩ = some (.string k) ∧ V.cell? ⟨g8, 4, none⟩ = some (.string ⟨#[]⟩) ∧ V.cell? ⟨g8, 5, none⟩ = some (i64 0) ∧ V.cell? ⟨g8, 6, none⟩ = some (.slice none 0 0) ∧ V.cell? ⟨g8, 7, none⟩ = some (i64 0) ∧ V.cell? ⟨g8, 8, none⟩ = some (i64 R.num) ∧ V.cell? ⟨g8, 9, none⟩ = some (.string ⟨#[]⟩)) (by kernel_rfl) (⟨cell_of_row _ g8 0 _ _ (0, 0) ho, cell_of_row _ g8 1 _ _ (0, 0) ho, cell_of_row _ g8 2 _ _ (0, 0) ho, cell_of_row _ g8 3 _ _ (0, 0) ho, cell_of_row _ g8 4 _ _ (0, 0) ho, cell_of_row _ g8 5 _ _ (0, 0) ho, cell_of_row _ g8 6 _ _ (0, 0) ho, cell_of_row _ g8 7 _ _ (0, 0) ho, cell_of_row _ g8 8 _ _ (0, 0) ho, cell_of_row _ g8 9 _ _ (0, 0) ho⟩) (fun hH => ?_)
      generalize w8.drew = u0 at *
      refine wpAnyL_take (i := 0) (v := ?v20001) rfl (by kernel_rfl) (by kernel_rfl) (by kernel_rfl) (by kernel_rfl) (fun _ _ _ h => h) (Or.inl ⟨by kernel_rfl, ?hy20001⟩) (by assumption) ?r20001
      case hy20001 => (intro W hSW; obtain ⟨o0, o1, o2, o3, o4, o5, o6, o7, o8, o9⟩ := hSW; go_simp; try with_reducible rfl)
      try simp only [Act.put, List.getElem_toArray, List.getElem_cons_zero, List.setIfInBounds_toArray, List.set_cons_zero, List.set_cons_succ]
      refine wpAnyL_take (i := 1) (v := ?v20002) rfl (by kernel_rfl) (by kernel_rfl) (by kernel_rfl) (by kernel_rfl) (fun _ _ _ h => h) (Or.inl ⟨by kernel_rfl, ?hy20002⟩) (by assumption) ?r20002
      case hy20002 => (intro W hSW; obtain ⟨o0, o1, o2, o3, o4, o5, o6, o7, o8, o9⟩ := hSW; go_simp; try with_reducible rfl)
      try simp only [Act.put, List.getElem_toArray, List.getElem_cons_zero, List.getElem_cons_succ, List.setIfInBounds_toArray, List.set_cons_zero, List.set_cons_succ]
      refine wpAnyL_take (i := 3) (v := ?v20003) rfl (by kernel_rfl) (by kernel_rfl) (by kernel_rfl) (by kernel_rfl) (fun _ _ _ h => h) (Or.inl ⟨by kernel_rfl, ?hy20003⟩) (by assumption) ?r20003
      case hy20003 => (intro W hSW; obtain ⟨o0, o1, o2, o3, o4, o5, o6, o7, o8, o9⟩ := hSW; go_simp; try with_reducible rfl)
      try simp only [Act.put, List.getElem_toArray, List.getElem_cons_zero, List.getElem_cons_succ, List.setIfInBounds_toArray, List.set_cons_zero, List.set_cons_succ]
      refine wpAnyL_take (i := 4) (v := ?v20004) rfl (by kernel_rfl) (by kernel_rfl) (by kernel_rfl) (by kernel_rfl) (fun _ _ _ h => h) (Or.inl ⟨by kernel_rfl, ?hy20004⟩) (by assumption) ?r20004
      case hy20004 => (intro W hSW; obtain ⟨o0, o1, o2, o3, o4, o5, o6, o7, o8, o9⟩ := hSW; go_simp; try with_reducible rfl)
      try simp only [Act.put, List.getElem_toArray, List.getElem_cons_zero, List.getElem_cons_succ, List.setIfInBounds_toArray, List.set_cons_zero, List.set_cons_succ]
      refine wpAnyL_ready (rs := [2, 6, 7]) (by kernel_rfl) (by simp) ?_
      refine AllReadyL.cons rfl (fun K hK => ?_) ?_
      · skip
        go_simp
        refine (HD1.out _ hB).mono ?_
        rintro e u1 ⟨rfl, hB, hG⟩
        have hC := hC.kept hG Hnc.out
        have hg := row_kept hg hG Hn6.out
        have ho := row_kept ho hG Hno.out
        have hb := hb.trans (BkA.own_below hG hb.size Hge.out)
        have hz := Nat.le_trans hz hG.size
        clear hG
        refine hK.out _ _ (⟨cell_of_row _ g8 0 _ _ (0, 0) ho, cell_of_row _ g8 1 _ _ (0, 0) ho, cell_of_row _ g8 2 _ _ (0, 0) ho, cell_of_row _ g8 3 _ _ (0, 0) ho, cell_of_row _ g8 4 _ _ (0, 0) ho, cell_of_row _ g8 5 _ _ (0, 0) ho, cell_of_row _ g8 6 _ _ (0, 0) ho, cell_of_row _ g8 7 _ _ (0, 0) ho, cell_of_row _ g8 8 _ _ (0, 0) ho, cell_of_row _ g8 9 _ _ (0, 0) ho⟩) (fun hH => ?_)
        clear hK K
        try simp only [Act.put, List.getElem_toArray, List.getElem_cons_zero, List.getElem_cons_succ, List.setIfInBounds_toArray, List.set_cons_zero, List.set_cons_succ]
        refine wpAnyL_ready (rs := [5, 6, 7]) (by kernel_rfl) (by simp) ?_
        refine AllReadyL.cons rfl (fun K hK => ?_) ?_
        · skip
          go_simp
          refine (HD2.out _ hB).mono ?_
          rintro e u2 ⟨rfl, hB, hG⟩
          have hC := hC.kept hG Hnc.out
          have hg := row_kept hg hG Hn6.out
          have ho := row_kept ho hG Hno.out
          have hb := hb.trans (BkA.own_below hG hb.size Hge.out)
          have hz := Nat.le_trans hz hG.size
          clear hG
          refine hK.out _ _ (⟨cell_of_row _ g8 0 _ _ (0, 0) ho, cell_of_row _ g8 1 _ _ (0, 0) ho, cell_of_row _ g8 2 _ _ (0, 0) ho, cell_of_row _ g8 3 _ _ (0, 0) ho, cell_of_row _ g8 4 _ _ (0, 0) ho, cell_of_row _ g8 5 _ _ (0, 0) ho, cell_of_row _ g8 6 _ _ (0, 0) ho, cell_of_row _ g8 7 _ _ (0, 0) ho, cell_of_row _ g8 8 _ _ (0, 0) ho, cell_of_row _ g8 9 _ _ (0, 0) ho⟩) (fun hH => ?_)
          clear hK K
          try simp only [Act.put, List.getElem_toArray, List.getElem_cons_zero, List.getElem_cons_succ, List.setIfInBounds_toArray, List.set_cons_zero, List.set_cons_succ]
          refine wpAnyL_ready (rs := [6, 7]) (by kernel_rfl) (by simp) ?_
          refine AllReadyL.cons rfl (fun K hK => ?_) ?_
          · skip
            go_simp
            have hba := (Below.refl u2.heap.size u2).alloc (Nat.le_refl _) (.cells #[i64 0, i64 0, i64 0, i64 0] 59)
            obtain ⟨g12, hi12, h12⟩ : ∃ j, j = u2.heap.size ∧ (u2.alloc (.cells #[i64 0, i64 0, i64 0, i64 0] 59)).heap[j]? = some (.cells #[i64 0, i64 0, i64 0, i64 0] 59) := ⟨_, rfl, heap_alloc_new _ _⟩
            have hge12 : w8.heap.size ≤ g12 := by rw [hi12]; exact hz
            have Hi12 := Lib.hid hi12
            clear hi12
            have hB := hB.later hba
            have hC := hC.later hba
            have hg := row_later hg hba
            have ho := row_later ho hba
            have hb := hb.trans (hba.mono hb.size)
            have hz := Nat.le_trans hz hba.size
            clear hba
            generalize hU : u2.alloc (.cells #[i64 0, i64 0, i64 0, i64 0] 59) = u3 at *
            clear hU
            refine hK.out _ _ (⟨cell_of_row _ g8 0 _ _ (0, 0) ho, cell_of_row _ g8 1 _ _ (0, 0) ho, cell_of_row _ g8 2 _ _ (0, 0) ho, cell_of_row _ g8 3 _ _ (0, 0) ho, cell_of_row _ g8 4 _ _ (0, 0) ho, cell_of_row _ g8 5 _ _ (0, 0) ho, cell_of_row _ g8 6 _ _ (0, 0) ho, cell_of_row _ g8 7 _ _ (0, 0) ho, cell_of_row _ g8 8 _ _ (0, 0) ho, cell_of_row _ g8 9 _ _ (0, 0) ho⟩) (fun hH => ?_)
            clear hK K
            try simp only [Act.put, List.getElem_toArray, List.getElem_cons_zero, List.getElem_cons_succ, List.setIfInBounds_toArray, List.set_cons_zero, List.set_cons_succ]
            refine wpAnyL_one (i := 7) (by kernel_rfl) rfl (by decide) (fun K hK => ?_)
            go_simp
            have hba := (Below.refl u3.heap.size u3).alloc (Nat.le_refl _) (.cells #[i64 0, i64 0, i64 0, i64 0] 59)
            obtain ⟨g13, hi13, h13⟩ : ∃ j, j = u3.heap.size ∧ (u3.alloc (.cells #[i64 0, i64 0, i64 0, i64 0] 59)).heap[j]? = some (.cells #[i64 0, i64 0, i64 0, i64 0] 59) := ⟨_, rfl, heap_alloc_new _ _⟩
            have hge13 : w8.heap.size ≤ g13 := by rw [hi13]; exact hz
            have hne : g12 ≠ g13 := by have := (Array.getElem?_eq_some_iff.1 h12).1; rw [hi13]; exact Nat.ne_of_lt this
            have Hi13 := Lib.hid hi13
            clear hi13
            have hB := hB.later hba
            have hC := hC.later hba
            have hg := row_later hg hba
            have ho := row_later ho hba
            have h12 := row_later h12 hba
            have hb := hb.trans (hba.mono hb.size)
            have hz := Nat.le_trans hz hba.size
            clear hba
            generalize hU : u3.alloc (.cells #[i64 0, i64 0, i64 0, i64 0] 59) = u4 at *
            clear hU
            refine hK.out _ _ (⟨cell_of_row _ g8 0 _ _ (0, 0) ho, cell_of_row _ g8 1 _ _ (0, 0) ho, cell_of_row _ g8 2 _ _ (0, 0) ho, cell_of_row _ g8 3 _ _ (0, 0) ho, cell_of_row _ g8 4 _ _ (0, 0) ho, cell_of_row _ g8 5 _ _ (0, 0) ho, cell_of_row _ g8 6 _ _ (0, 0) ho, cell_of_row _ g8 7 _ _ (0, 0) ho, cell_of_row _ g8 8 _ _ (0, 0) ho, cell_of_row _ g8 9 _ _ (0, 0) ho⟩) (fun hH => ?_)
            clear hK K
            try simp only [Act.put, List.getElem_toArray, List.getElem_cons_zero, List.getElem_cons_succ, List.setIfInBounds_toArray, List.set_cons_zero, List.set_cons_succ]
            refine wpAnyL_one (i := 8) (by kernel_rfl) rfl (by decide) (fun K hK => ?_)
            refine wp_store_row 59 (.tmp 12) (.tmp 42) rfl g12 #[i64 X.err, i64 X.hav, i64 X.set_, i64 X.num] (by rw [Hi12.out] <;> rfl) rfl 59 #[i64 0, i64 0, i64 0, i64 0] h12 (by kernel_rfl) rfl (by simp [Value.oneCell']) ?_
            have hB := hB.row (g := g12) (fun j hj e => by have := Hlt.out j hj; have := Hw8.out; omega) #[i64 X.err, i64 X.hav, i64 X.set_, i64 X.num]
            have hC := hC.row (g := g12) (fun j hj e => by have := Hno2.out j hj; have := Hw8.out; omega) #[i64 X.err, i64 X.hav, i64 X.set_, i64 X.num]
            have hg := (setRow_other _ g12 g6 #[i64 X.err, i64 X.hav, i64 X.set_, i64 X.num] (by have := Hw8.out; omega)).trans hg
            have ho := (setRow_other _ g12 g8 #[i64 X.err, i64 X.hav, i64 X.set_, i64 X.num] (by omega)).trans ho
            have h13 := (setRow_other _ g12 g13 #[i64 X.err, i64 X.hav, i64 X.set_, i64 X.num] (by omega)).trans h13
            have h12 := setRow_heap _ g12 _ #[i64 X.err, i64 X.hav, i64 X.set_, i64 X.num] _ _ h12
            have hb := below_setRow hb (show w.heap.size ≤ g12 by have := hb8s.out; omega) #[i64 X.err, i64 X.hav, i64 X.set_, i64 X.num]
            refine hK.out _ _ (⟨cell_of_row _ g8 0 _ _ (0, 0) ho, cell_of_row _ g8 1 _ _ (0, 0) ho, cell_of_row _ g8 2 _ _ (0, 0) ho, cell_of_row _ g8 3 _ _ (0, 0) ho, cell_of_row _ g8 4 _ _ (0, 0) ho, cell_of_row _ g8 5 _ _ (0, 0) ho, cell_of_row _ g8 6 _ _ (0, 0) ho, cell_of_row _ g8 7 _ _ (0, 0) ho, cell_of_row _ g8 8 _ _ (0, 0) ho, cell_of_row _ g8 9 _ _ (0, 0) ho⟩) (fun hH => ?_)
            clear hK K
            try simp only [Act.put, List.getElem_toArray, List.getElem_cons_zero, List.getElem_cons_succ]
            refine wpAnyL_last (by kernel_rfl) rfl (fun K hK => ?_)
            refine wp_store_row 59 (.tmp 13) (.tmp 45) rfl g13 #[i64 6, i64 0, i64 0, i64 0] (by rw [Hi13.out] <;> rfl) rfl 59 #[i64 0, i64 0, i64 0, i64 0] h13 (by kernel_rfl) rfl (by simp [Value.oneCell']) ?_
            refine hK.out _ _ ?_
            clear hK K
            try simp only [Act.put, List.getElem_toArray, List.getElem_cons_zero, List.getElem_cons_succ]
            have hB := hB.row (g := g13) (fun j hj e => by have := Hlt.out j hj; have := Hw8.out; omega) #[i64 6, i64 0, i64 0, i64 0]
            have hC := hC.row (g := g13) (fun j hj e => by have := Hno2.out j hj; have := Hw8.out; omega) #[i64 6, i64 0, i64 0, i64 0]
            have hg := (setRow_other _ g13 g6 #[i64 6, i64 0, i64 0, i64 0] (by have := Hw8.out; omega)).trans hg
            have ho := (setRow_other _ g13 g8 #[i64 6, i64 0, i64 0, i64 0] (by omega)).trans ho
            have h12 := (setRow_other _ g13 g12 #[i64 6, i64 0, i64 0, i64 0] (by omega)).trans h12
            have h13 := setRow_heap _ g13 _ #[i64 6, i64 0, i64 0, i64 0] _ _ h13
            have hb := below_setRow hb (show w.heap.size ≤ g13 by have := hb8s.out; omega) #[i64 6, i64 0, i64 0, i64 0]
            refine wpAnyL_done (by kernel_rfl) ?_ _
            refine NoPanic.normal ?_
            repeat go_step
            go_meet
            exact ⟨g12, g13, by rw [Hi12.out] <;> rfl, by rw [Hi13.out] <;> rfl, h12, h13, hg, hB, hC, hb⟩
          refine AllReadyL.cons rfl (fun K hK => ?_) ?_
          · skip
            go_simp
            have hba := (Below.refl u2.heap.size u2).alloc (Nat.le_refl _) (.cells #[i64 0, i64 0, i64 0, i64 0] 59)
            obtain ⟨g13, hi13, h13⟩ : ∃ j, j = u2.heap.size ∧ (u2.alloc (.cells #[i64 0, i64 0, i64 0, i64 0] 59)).heap[j]? = some (.cells #[i64 0, i64 0, i64 0, i64 0] 59) := ⟨_, rfl, heap_alloc_new _ _⟩
            have hge13 : w8.heap.size ≤ g13 := by rw [hi13]; exact hz
            have Hi13 := Lib.hid hi13
            clear hi13
            have hB := hB.later hba
            have hC := hC.later hba
            have hg := row_later hg hba
            have ho := row_later ho hba
            have hb := hb.trans (hba.mono hb.size)
            have hz := Nat.le_trans hz hba.size
            clear hba
            generalize hU : u2.alloc (.cells #[i64 0, i64 0, i64 0, i64 0] 59) = u3 at *
            clear hU
            refine hK.out _ _ (⟨cell_of_row _ g8 0 _ _ (0, 0) ho, cell_of_row _ g8 1 _ _ (0, 0) ho, cell_of_row _ g8 2 _ _ (0, 0) ho, cell_of_row _ g8 3 _ _ (0, 0) ho, cell_of_row _ g8 4 _ _ (0, 0) ho, cell_of_row _ g8 5 _ _ (0, 0) ho, cell_of_row _ g8 6 _ _ (0, 0) ho, cell_of_row _ g8 7 _ _ (0, 0) ho, cell_of_row _ g8 8 _ _ (0, 0) ho, cell_of_row _ g8 9 _ _ (0, 0) ho⟩) (fun hH => ?_)
            clear hK K
            try simp only [Act.put, List.getElem_toArray, List.getElem_cons_zero, List.getElem_cons_succ, List.setIfInBounds_toArray, List.set_cons_zero, List.set_cons_succ]
            refine wpAnyL_one (i := 6) (by kernel_rfl) rfl (by decide) (fun K hK => ?_)
            go_simp
            have hba := (Below.refl u3.heap.size u3).alloc (Nat.le_refl _) (.cells #[i64 0, i64 0, i64 0, i64 0] 59)
            obtain ⟨g12, hi12, h12⟩ : ∃ j, j = u3.heap.size ∧ (u3.alloc (.cells #[i64 0, i64 0, i64 0, i64 0] 59)).heap[j]? = some (.cells #[i64 0, i64 0, i64 0, i64 0] 59) := ⟨_, rfl, heap_alloc_new _ _⟩
            have hge12 : w8.heap.size ≤ g12 := by rw [hi12]; exact hz
            have hne : g12 ≠ g13 := by have := (Array.getElem?_eq_some_iff.1 h13).1; rw [hi12]; exact Nat.ne_of_gt this
            have Hi12 := Lib.hid hi12
            clear hi12
            have hB := hB.later hba
            have hC := hC.later hba
            have hg := row_later hg hba
            have ho := row_later ho hba
            have h13 := row_later h13 hba
            have hb := hb.trans (hba.mono hb.size)
            have hz := Nat.le_trans hz hba.size
            clear hba
            generalize hU : u3.alloc (.cells #[i64 0, i64 0, i64 0, i64 0] 59) = u4 at *
            clear hU
            refine hK.out _ _ (⟨cell_of_row _ g8 0 _ _ (0, 0) ho, cell_of_row _ g8 1 _ _ (0, 0) ho, cell_of_row _ g8 2 _ _ (0, 0) ho, cell_of_row _ g8 3 _ _ (0, 0) ho, cell_of_row _ g8 4 _ _ (0, 0) ho, cell_of_row _ g8 5 _ _ (0, 0) ho, cell_of_row _ g8 6 _ _ (0, 0) ho, cell_of_row _ g8 7 _ _ (0, 0) ho, cell_of_row _ g8 8 _ _ (0, 0) ho, cell_of_row _ g8 9 _ _ (0, 0) ho⟩) (fun hH => ?_)
            clear hK K
            try simp only [Act.put, List.getElem_toArray, List.getElem_cons_zero, List.getElem_cons_succ, List.setIfInBounds_toArray, List.set_cons_zero, List.set_cons_succ]
            refine wpAnyL_one (i := 8) (by kernel_rfl) rfl (by decide) (fun K hK => ?_)
            refine wp_store_row 59 (.tmp 12) (.tmp 42) rfl g12 #[i64 X.err, i64 X.hav, i64 X.set_, i64 X.num] (by rw [Hi12.out] <;> rfl) rfl 59 #[i64 0, i64 0, i64 0, i64 0] h12 (by kernel_rfl) rfl (by simp [Value.oneCell']) ?_
            have hB := hB.row (g := g12) (fun j hj e => by have := Hlt.out j hj; have := Hw8.out; omega) #[i64 X.err, i64 X.hav, i64 X.set_, i64 X.num]
            have hC := hC.row (g := g12) (fun j hj e => by have := Hno2.out j hj; have := Hw8.out; omega) #[i64 X.err, i64 X.hav, i64 X.set_, i64 X.num]
            have hg := (setRow_other _ g12 g6 #[i64 X.err, i64 X.hav, i64 X.set_, i64 X.num] (by have := Hw8.out; omega)).trans hg
            have ho := (setRow_other _ g12 g8 #[i64 X.err, i64 X.hav, i64 X.set_, i64 X.num] (by omega)).trans ho
            have h13 := (setRow_other _ g12 g13 #[i64 X.err, i64 X.hav, i64 X.set_, i64 X.num] (by omega)).trans h13
            have h12 := setRow_heap _ g12 _ #[i64 X.err, i64 X.hav, i64 X.set_, i64 X.num] _ _ h12
            have hb := below_setRow hb (show w.heap.size ≤ g12 by have := hb8s.out; omega) #[i64 X.err, i64 X.hav, i64 X.set_, i64 X.num]
            refine hK.out _ _ (⟨cell_of_row _ g8 0 _ _ (0, 0) ho, cell_of_row _ g8 1 _ _ (0, 0) ho, cell_of_row _ g8 2 _ _ (0, 0) ho, cell_of_row _ g8 3 _ _ (0, 0) ho, cell_of_row _ g8 4 _ _ (0, 0) ho, cell_of_row _ g8 5 _ _ (0, 0) ho, cell_of_row _ g8 6 _ _ (0, 0) ho, cell_of_row _ g8 7 _ _ (0, 0) ho, cell_of_row _ g8 8 _ _ (0, 0) ho, cell_of_row _ g8 9 _ _ (0, 0) ho⟩) (fun hH => ?_)
            clear hK K
            try simp only [Act.put, List.getElem_toArray, List.getElem_cons_zero, List.getElem_cons_succ]
            refine wpAnyL_last (by kernel_rfl) rfl (fun K hK => ?_)
            refine wp_store_row 59 (.tmp 13) (.tmp 45) rfl g13 #[i64 6, i64 0, i64 0, i64 0] (by rw [Hi13.out] <;> rfl) rfl 59 #[i64 0, i64 0, i64 0, i64 0] h13 (by kernel_rfl) rfl (by simp [Value.oneCell']) ?_
            refine hK.out _ _ ?_
            clear hK K
            try simp only [Act.put, List.getElem_toArray, List.getElem_cons_zero, List.getElem_cons_succ]
            have hB := hB.row (g := g13) (fun j hj e => by have := Hlt.out j hj; have := Hw8.out; omega) #[i64 6, i64 0, i64 0, i64 0]
            have hC := hC.row (g := g13) (fun j hj e => by have := Hno2.out j hj; have := Hw8.out; omega) #[i64 6, i64 0, i64 0, i64 0]
            have hg := (setRow_other _ g13 g6 #[i64 6, i64 0, i64 0, i64 0] (by have := Hw8.out; omega)).trans hg
            have ho := (setRow_other _ g13 g8 #[i64 6, i64 0, i64 0, i64 0] (by omega)).trans ho
            have h12 := (setRow_other _ g13 g12 #[i64 6, i64 0, i64 0, i64 0] (by omega)).trans h12
            have h13 := setRow_heap _ g13 _ #[i64 6, i64 0, i64 0, i64 0] _ _ h13
            have hb := below_setRow hb (show w.heap.size ≤ g13 by have := hb8s.out; omega) #[i64 6, i64 0, i64 0, i64 0]
            refine wpAnyL_done (by kernel_rfl) ?_ _
            refine NoPanic.normal ?_
            repeat go_step
            go_meet
            exact ⟨g12, g13, by rw [Hi12.out] <;> rfl, by rw [Hi13.out] <;> rfl, h12, h13, hg, hB, hC, hb⟩
          exact AllReadyL.nil
        refine AllReadyL.cons rfl (fun K hK => ?_) ?_
        · skip
          go_simp
          have hba := (Below.refl u1.heap.size u1).alloc (Nat.le_refl _) (.cells #[i64 0, i64 0, i64 0, i64 0] 59)
          obtain ⟨g12, hi12, h12⟩ : ∃ j, j = u1.heap.size ∧ (u1.alloc (.cells #[i64 0, i64 0, i64 0, i64 0] 59)).heap[j]? = some (.cells #[i64 0, i64 0, i64 0, i64 0] 59) := ⟨_, rfl, heap_alloc_new _ _⟩
          have hge12 : w8.heap.size ≤ g12 := by rw [hi12]; exact hz
          have Hi12 := Lib.hid hi12
          clear hi12
          have hB := hB.later hba
          have hC := hC.later hba
          have hg := row_later hg hba
          have ho := row_later ho hba
          have hb := hb.trans (hba.mono hb.size)
          have hz := Nat.le_trans hz hba.size
          clear hba
          generalize hU : u1.alloc (.cells #[i64 0, i64 0, i64 0, i64 0] 59) = u2 at *
          clear hU
          refine hK.out _ _ (⟨cell_of_row _ g8 0 _ _ (0, 0) ho, cell_of_row _ g8 1 _ _ (0, 0) ho, cell_of_row _ g8 2 _ _ (0, 0) ho, cell_of_row _ g8 3 _ _ (0, 0) ho, cell_of_row _ g8 4 _ _ (0, 0) ho, cell_of_row _ g8 5 _ _ (0, 0) ho, cell_of_row _ g8 6 _ _ (0, 0) ho, cell_of_row _ g8 7 _ _ (0, 0) ho, cell_of_row _ g8 8 _ _ (0, 0) ho, cell_of_row _ g8 9 _ _ (0, 0) ho⟩) (fun hH => ?_)
          clear hK K
          try simp only [Act.put, List.getElem_toArray, List.getElem_cons_zero, List.getElem_cons_succ, List.setIfInBounds_toArray, List.set_cons_zero, List.set_cons_succ]
          refine wpAnyL_ready (rs := [5, 7]) (by kernel_rfl) (by simp) ?_
          refine AllReadyL.cons rfl (fun K hK => ?_) ?_
          · skip
            go_simp
            refine (HD2.out _ hB).mono ?_
            rintro e u3 ⟨rfl, hB, hG⟩
            have hC := hC.kept hG Hnc.out
            have hg := row_kept hg hG Hn6.out
            have ho := row_kept ho hG Hno.out
            have h12 := row_kept h12 hG (fun k hk e => by have := Hlt.out k hk; have := Hw8.out; omega)
            have hb := hb.trans (BkA.own_below hG hb.size Hge.out)
            have hz := Nat.le_trans hz hG.size
            clear hG
            refine hK.out _ _ (⟨cell_of_row _ g8 0 _ _ (0, 0) ho, cell_of_row _ g8 1 _ _ (0, 0) ho, cell_of_row _ g8 2 _ _ (0, 0) ho, cell_of_row _ g8 3 _ _ (0, 0) ho, cell_of_row _ g8 4 _ _ (0, 0) ho, cell_of_row _ g8 5 _ _ (0, 0) ho, cell_of_row _ g8 6 _ _ (0, 0) ho, cell_of_row _ g8 7 _ _ (0, 0) ho, cell_of_row _ g8 8 _ _ (0, 0) ho, cell_of_row _ g8 9 _ _ (0, 0) ho⟩) (fun hH => ?_)
            clear hK K
            try simp only [Act.put, List.getElem_toArray, List.getElem_cons_zero, List.getElem_cons_succ, List.setIfInBounds_toArray, List.set_cons_zero, List.set_cons_succ]
            refine wpAnyL_one (i := 7) (by kernel_rfl) rfl (by decide) (fun K hK => ?_)
            go_simp
            have hba := (Below.refl u3.heap.size u3).alloc (Nat.le_refl _) (.cells #[i64 0, i64 0, i64 0, i64 0] 59)
            obtain ⟨g13, hi13, h13⟩ : ∃ j, j = u3.heap.size ∧ (u3.alloc (.cells #[i64 0, i64 0, i64 0, i64 0] 59)).heap[j]? = some (.cells #[i64 0, i64 0, i64 0, i64 0] 59) := ⟨_, rfl, heap_alloc_new _ _⟩
            have hge13 : w8.heap.size ≤ g13 := by rw [hi13]; exact hz
            have hne : g12 ≠ g13 := by have := (Array.getElem?_eq_some_iff.1 h12).1; rw [hi13]; exact Nat.ne_of_lt this
            have Hi13 := Lib.hid hi13
            clear hi13
            have hB := hB.later hba
            have hC := hC.later hba
            have hg := row_later hg hba
            have ho := row_later ho hba
            have h12 := row_later h12 hba
            have hb := hb.trans (hba.mono hb.size)
            have hz := Nat.le_trans hz hba.size
            clear hba
            generalize hU : u3.alloc (.cells #[i64 0, i64 0, i64 0, i64 0] 59) = u4 at *
            clear hU
            refine hK.out _ _ (⟨cell_of_row _ g8 0 _ _ (0, 0) ho, cell_of_row _ g8 1 _ _ (0, 0) ho, cell_of_row _ g8 2 _ _ (0, 0) ho, cell_of_row _ g8 3 _ _ (0, 0) ho, cell_of_row _ g8 4 _ _ (0, 0) ho, cell_of_row _ g8 5 _ _ (0, 0) ho, cell_of_row _ g8 6 _ _ (0, 0) ho, cell_of_row _ g8 7 _ _ (0, 0) ho, cell_of_row _ g8 8 _ _ (0, 0) ho, cell_of_row _ g8 9 _ _ (0, 0) ho⟩) (fun hH => ?_)
            clear hK K
            try simp only [Act.put, List.getElem_toArray, List.getElem_cons_zero, List.getElem_cons_succ, List.setIfInBounds_toArray, List.set_cons_zero, List.set_cons_succ]
            refine wpAnyL_one (i := 8) (by kernel_rfl) rfl (by decide) (fun K hK => ?_)
            refine wp_store_row 59 (.tmp 12) (.tmp 42) rfl g12 #[i64 X.err, i64 X.hav, i64 X.set_, i64 X.num] (by rw [Hi12.out] <;> rfl) rfl 59 #[i64 0, i64 0, i64 0, i64 0] h12 (by kernel_rfl) rfl (by simp [Value.oneCell']) ?_
            have hB := hB.row (g := g12) (fun j hj e => by have := Hlt.out j hj; have := Hw8.out; omega) #[i64 X.err, i64 X.hav, i64 X.set_, i64 X.num]
            have hC := hC.row (g := g12) (fun j hj e => by have := Hno2.out j hj; have := Hw8.out; omega) #[i64 X.err, i64 X.hav, i64 X.set_, i64 X.num]
            have hg := (setRow_other _ g12 g6 #[i64 X.err, i64 X.hav, i64 X.set_, i64 X.num] (by have := Hw8.out; omega)).trans hg
            have ho := (setRow_other _ g12 g8 #[i64 X.err, i64 X.hav, i64 X.set_, i64 X.num] (by omega)).trans ho
            have h13 := (setRow_other _ g12 g13 #[i64 X.err, i64 X.hav, i64 X.set_, i64 X.num] (by omega)).trans h13
            have h12 := setRow_heap _ g12 _ #[i64 X.err, i64 X.hav, i64 X.set_, i64 X.num] _ _ h12
            have hb := below_setRow hb (show w.heap.size ≤ g12 by have := hb8s.out; omega) #[i64 X.err, i64 X.hav, i64 X.set_, i64 X.num]
            refine hK.out _ _ (⟨cell_of_row _ g8 0 _ _ (0, 0) ho, cell_of_row _ g8 1 _ _ (0, 0) ho, cell_of_row _ g8 2 _ _ (0, 0) ho, cell_of_row _ g8 3 _ _ (0, 0) ho, cell_of_row _ g8 4 _ _ (0, 0) ho, cell_of_row _ g8 5 _ _ (0, 0) ho, cell_of_row _ g8 6 _ _ (0, 0) ho, cell_of_row _ g8 7 _ _ (0, 0) ho, cell_of_row _ g8 8 _ _ (0, 0) ho, cell_of_row _ g8 9 _ _ (0, 0) ho⟩) (fun hH => ?_)
            clear hK K
            try simp only [Act.put, List.getElem_toArray, List.getElem_cons_zero, List.getElem_cons_succ]
            refine wpAnyL_last (by kernel_rfl) rfl (fun K hK => ?_)
            refine wp_store_row 59 (.tmp 13) (.tmp 45) rfl g13 #[i64 6, i64 0, i64 0, i64 0] (by rw [Hi13.out] <;> rfl) rfl 59 #[i64 0, i64 0, i64 0, i64 0] h13 (by kernel_rfl) rfl (by simp [Value.oneCell']) ?_
            refine hK.out _ _ ?_
            clear hK K
            try simp only [Act.put, List.getElem_toArray, List.getElem_cons_zero, List.getElem_cons_succ]
            have hB := hB.row (g := g13) (fun j hj e => by have := Hlt.out j hj; have := Hw8.out; omega) #[i64 6, i64 0, i64 0, i64 0]
            have hC := hC.row (g := g13) (fun j hj e => by have := Hno2.out j hj; have := Hw8.out; omega) #[i64 6, i64 0, i64 0, i64 0]
            have hg := (setRow_other _ g13 g6 #[i64 6, i64 0, i64 0, i64 0] (by have := Hw8.out; omega)).trans hg
            have ho := (setRow_other _ g13 g8 #[i64 6, i64 0, i64 0, i64 0] (by omega)).trans ho
            have h12 := (setRow_other _ g13 g12 #[i64 6, i64 0, i64 0, i64 0] (by omega)).trans h12
            have h13 := setRow_heap _ g13 _ #[i64 6, i64 0, i64 0, i64 0] _ _ h13
            have hb := below_setRow hb (show w.heap.size ≤ g13 by have := hb8s.out; omega) #[i64 6, i64 0, i64 0, i64 0]
            refine wpAnyL_done (by kernel_rfl) ?_ _
            refine NoPanic.normal ?_
            repeat go_step
            go_meet
            exact ⟨g12, g13, by rw [Hi12.out] <;> rfl, by rw [Hi13.out] <;> rfl, h12, h13, hg, hB, hC, hb⟩
          refine AllReadyL.cons rfl (fun K hK => ?_) ?_
          · skip
            go_simp
            have hba := (Below.refl u2.heap.size u2).alloc (Nat.le_refl _) (.cells #[i64 0, i64 0, i64 0, i64 0] 59)
            obtain ⟨g13, hi13, h13⟩ : ∃ j, j = u2.heap.size ∧ (u2.alloc (.cells #[i64 0, i64 0, i64 0, i64 0] 59)).heap[j]? = some (.cells #[i64 0, i64 0, i64 0, i64 0] 59) := ⟨_, rfl, heap_alloc_new _ _⟩
            have hge13 : w8.heap.size ≤ g13 := by rw [hi13]; exact hz
            have hne : g12 ≠ g13 := by have := (Array.getElem?_eq_some_iff.1 h12).1; rw [hi13]; exact Nat.ne_of_lt this
            have Hi13 := Lib.hid hi13
            clear hi13
            have hB := hB.later hba
            have hC := hC.later hba
            have hg := row_later hg hba
            have ho := row_later ho hba
            have h12 := row_later h12 hba
            have hb := hb.trans (hba.mono hb.size)
            have hz := Nat.le_trans hz hba.size
            clear hba
            generalize hU : u2.alloc (.cells #[i64 0, i64 0, i64 0, i64 0] 59) = u3 at *
            clear hU
            refine hK.out _ _ (⟨cell_of_row _ g8 0 _ _ (0, 0) ho, cell_of_row _ g8 1 _ _ (0, 0) ho, cell_of_row _ g8 2 _ _ (0, 0) ho, cell_of_row _ g8 3 _ _ (0, 0) ho, cell_of_row _ g8 4 _ _ (0, 0) ho, cell_of_row _ g8 5 _ _ (0, 0) ho, cell_of_row _ g8 6 _ _ (0, 0) ho, cell_of_row _ g8 7 _ _ (0, 0) ho, cell_of_row _ g8 8 _ _ (0, 0) ho, cell_of_row _ g8 9 _ _ (0, 0) ho⟩) (fun hH => ?_)
            clear hK K
            try simp only [Act.put, List.getElem_toArray, List.getElem_cons_zero, List.getElem_cons_succ, List.setIfInBounds_toArray, List.set_cons_zero, List.set_cons_succ]
            refine wpAnyL_one (i := 5) (by kernel_rfl) rfl (by decide) (fun K hK => ?_)
            go_simp
            refine (HD2.out _ hB).mono ?_
            rintro e u4 ⟨rfl, hB, hG⟩
            have hC := hC.kept hG Hnc.out
            have hg := row_kept hg hG Hn6.out
            have ho := row_kept ho hG Hno.out
            have h12 := row_kept h12 hG (fun k hk e => by have := Hlt.out k hk; have := Hw8.out; omega)
            have h13 := row_kept h13 hG (fun k hk e => by have := Hlt.out k hk; have := Hw8.out; omega)
            have hb := hb.trans (BkA.own_below hG hb.size Hge.out)
            have hz := Nat.le_trans hz hG.size
            clear hG
            refine hK.out _ _ (⟨cell_of_row _ g8 0 _ _ (0, 0) ho, cell_of_row _ g8 1 _ _ (0, 0) ho, cell_of_row _ g8 2 _ _ (0, 0) ho, cell_of_row _ g8 3 _ _ (0, 0) ho, cell_of_row _ g8 4 _ _ (0, 0) ho, cell_of_row _ g8 5 _ _ (0, 0) ho, cell_of_row _ g8 6 _ _ (0, 0) ho, cell_of_row _ g8 7 _ _ (0, 0) ho, cell_of_row _ g8 8 _ _ (0, 0) ho, cell_of_row _ g8 9 _ _ (0, 0) ho⟩) (fun hH => ?_)
            clear hK K
            try simp only [Act.put, List.getElem_toArray, List.getElem_cons_zero, List.getElem_cons_succ, List.setIfInBounds_toArray, List.set_cons_zero, List.set_cons_succ]
            refine wpAnyL_one (i := 8) (by kernel_rfl) rfl (by decide) (fun K hK => ?_)
            refine wp_store_row 59 (.tmp 12) (.tmp 42) rfl g12 #[i64 X.err, i64 X.hav, i64 X.set_, i64 X.num] (by rw [Hi12.out] <;> rfl) rfl 59 #[i64 0, i64 0, i64 0, i64 0] h12 (by kernel_rfl) rfl (by simp [Value.oneCell']) ?_
            have hB := hB.row (g := g12) (fun j hj e => by have := Hlt.out j hj; have := Hw8.out; omega) #[i64 X.err, i64 X.hav, i64 X.set_, i64 X.num]
            have hC := hC.row (g := g12) (fun j hj e => by have := Hno2.out j hj; have := Hw8.out; omega) #[i64 X.err, i64 X.hav, i64 X.set_, i64 X.num]
            have hg := (setRow_other _ g12 g6 #[i64 X.err, i64 X.hav, i64 X.set_, i64 X.num] (by have := Hw8.out; omega)).trans hg
            have ho := (setRow_other _ g12 g8 #[i64 X.err, i64 X.hav, i64 X.set_, i64 X.num] (by omega)).trans ho
            have h13 := (setRow_other _ g12 g13 #[i64 X.err, i64 X.hav, i64 X.set_, i64 X.num] (by omega)).trans h13
            have h12 := setRow_heap _ g12 _ #[i64 X.err, i64 X.hav, i64 X.set_, i64 X.num] _ _ h12
            have hb := below_setRow hb (show w.heap.size ≤ g12 by have := hb8s.out; omega) #[i64 X.err, i64 X.hav, i64 X.set_, i64 X.num]
            refine hK.out _ _ (⟨cell_of_row _ g8 0 _ _ (0, 0) ho, cell_of_row _ g8 1 _ _ (0, 0) ho, cell_of_row _ g8 2 _ _ (0, 0) ho, cell_of_row _ g8 3 _ _ (0, 0) ho, cell_of_row _ g8 4 _ _ (0, 0) ho, cell_of_row _ g8 5 _ _ (0, 0) ho, cell_of_row _ g8 6 _ _ (0, 0) ho, cell_of_row _ g8 7 _ _ (0, 0) ho, cell_of_row _ g8 8 _ _ (0, 0) ho, cell_of_row _ g8 9 _ _ (0, 0) ho⟩) (fun hH => ?_)
            clear hK K
            try simp only [Act.put, List.getElem_toArray, List.getElem_cons_zero, List.getElem_cons_succ]
            refine wpAnyL_last (by kernel_rfl) rfl (fun K hK => ?_)
            refine wp_store_row 59 (.tmp 13) (.tmp 45) rfl g13 #[i64 6, i64 0, i64 0, i64 0] (by rw [Hi13.out] <;> rfl) rfl 59 #[i64 0, i64 0, i64 0, i64 0] h13 (by kernel_rfl) rfl (by simp [Value.oneCell']) ?_
            refine hK.out _ _ ?_
            clear hK K
            try simp only [Act.put, List.getElem_toArray, List.getElem_cons_zero, List.getElem_cons_succ]
            have hB := hB.row (g := g13) (fun j hj e => by have := Hlt.out j hj; have := Hw8.out; omega) #[i64 6, i64 0, i64 0, i64 0]
            have hC := hC.row (g := g13) (fun j hj e => by have := Hno2.out j hj; have := Hw8.out; omega) #[i64 6, i64 0, i64 0, i64 0]
            have hg := (setRow_other _ g13 g6 #[i64 6, i64 0, i64 0, i64 0] (by have := Hw8.out; omega)).trans hg
            have ho := (setRow_other _ g13 g8 #[i64 6, i64 0, i64 0, i64 0] (by omega)).trans ho
            have h12 := (setRow_other _ g13 g12 #[i64 6, i64 0, i64 0, i64 0] (by omega)).trans h12
            have h13 := setRow_heap _ g13 _ #[i64 6, i64 0, i64 0, i64 0] _ _ h13
            have hb := below_setRow hb (show w.heap.size ≤ g13 by have := hb8s.out; omega) #[i64 6, i64 0, i64 0, i64 0]
            refine wpAnyL_done (by kernel_rfl) ?_ _
            refine NoPanic.normal ?_
            repeat go_step
            go_meet
            exact ⟨g12, g13, by rw [Hi12.out] <;> rfl, by rw [Hi13.out] <;> rfl, h12, h13, hg, hB, hC, hb⟩
          exact AllReadyL.nil
        refine AllReadyL.cons rfl (fun K hK => ?_) ?_
        · skip
          go_simp
          have hba := (Below.refl u1.heap.size u1).alloc (Nat.le_refl _) (.cells #[i64 0, i64 0, i64 0, i64 0] 59)
          obtain ⟨g13, hi13, h13⟩ : ∃ j, j = u1.heap.size ∧ (u1.alloc (.cells #[i64 0, i64 0, i64 0, i64 0] 59)).heap[j]? = some (.cells #[i64 0, i64 0, i64 0, i64 0] 59) := ⟨_, rfl, heap_alloc_new _ _⟩
          have hge13 : w8.heap.size ≤ g13 := by rw [hi13]; exact hz
          have Hi13 := Lib.hid hi13
          clear hi13
          have hB := hB.later hba
          have hC := hC.later hba
          have hg := row_later hg hba
          have ho := row_later ho hba
          have hb := hb.trans (hba.mono hb.size)
          have hz := Nat.le_trans hz hba.size
          clear hba
          generalize hU : u1.alloc (.cells #[i64 0, i64 0, i64 0, i64 0] 59) = u2 at *
          clear hU
          refine hK.out _ _ (⟨cell_of_row _ g8 0 _ _ (0, 0) ho, cell_of_row _ g8 1 _ _ (0, 0) ho, cell_of_row _ g8 2 _ _ (0, 0) ho, cell_of_row _ g8 3 _ _ (0, 0) ho, cell_of_row _ g8 4 _ _ (0, 0) ho, cell_of_row _ g8 5 _ _ (0, 0) ho, cell_of_row _ g8 6 _ _ (0, 0) ho, cell_of_row _ g8 7 _ _ (0, 0) ho, cell_of_row _ g8 8 _ _ (0, 0) ho, cell_of_row _ g8 9 _ _ (0, 0) ho⟩) (fun hH => ?_)
          clear hK K
          try simp only [Act.put, List.getElem_toArray, List.getElem_cons_zero, List.getElem_cons_succ, List.setIfInBounds_toArray, List.set_cons_zero, List.set_cons_succ]
          refine wpAnyL_ready (rs := [5, 6]) (by kernel_rfl) (by simp) ?_
          refine AllReadyL.cons rfl (fun K hK => ?_) ?_
          · skip
            go_simp
            refine (HD2.out _ hB).mono ?_
            rintro e u3 ⟨rfl, hB, hG⟩
            have hC := hC.kept hG Hnc.out
            have hg := row_kept hg hG Hn6.out
            have ho := row_kept ho hG Hno.out
            have h13 := row_kept h13 hG (fun k hk e => by have := Hlt.out k hk; have := Hw8.out; omega)
            have hb := hb.trans (BkA.own_below hG hb.size Hge.out)
            have hz := Nat.le_trans hz hG.size
            clear hG
            refine hK.out _ _ (⟨cell_of_row _ g8 0 _ _ (0, 0) ho, cell_of_row _ g8 1 _ _ (0, 0) ho, cell_of_row _ g8 2 _ _ (0, 0) ho, cell_of_row _ g8 3 _ _ (0, 0) ho, cell_of_row _ g8 4 _ _ (0, 0) ho, cell_of_row _ g8 5 _ _ (0, 0) ho, cell_of_row _ g8 6 _ _ (0, 0) ho, cell_of_row _ g8 7 _ _ (0, 0) ho, cell_of_row _ g8 8 _ _ (0, 0) ho, cell_of_row _ g8 9 _ _ (0, 0) ho⟩) (fun hH => ?_)
            clear hK K
            try simp only [Act.put, List.getElem_toArray, List.getElem_cons_zero, List.getElem_cons_succ, List.setIfInBounds_toArray, List.set_cons_zero, List.set_cons_succ]
            refine wpAnyL_one (i := 6) (by kernel_rfl) rfl (by decide) (fun K hK => ?_)
            go_simp
            have hba := (Below.refl u3.heap.size u3).alloc (Nat.le_refl _) (.cells #[i64 0, i64 0, i64 0, i64 0] 59)
            obtain ⟨g12, hi12, h12⟩ : ∃ j, j = u3.heap.size ∧ (u3.alloc (.cells #[i64 0, i64 0, i64 0, i64 0] 59)).heap[j]? = some (.cells #[i64 0, i64 0, i64 0, i64 0] 59) := ⟨_, rfl, heap_alloc_new _ _⟩
            have hge12 : w8.heap.size ≤ g12 := by rw [hi12]; exact hz
            have hne : g12 ≠ g13 := by have := (Array.getElem?_eq_some_iff.1 h13).1; rw [hi12]; exact Nat.ne_of_gt this
            have Hi12 := Lib.hid hi12
            clear hi12
            have hB := hB.later hba
            have hC := hC.later hba
            have hg := row_later hg hba
            have ho := row_later ho hba
            have h13 := row_later h13 hba
            have hb := hb.trans (hba.mono hb.size)
            have hz := Nat.le_trans hz hba.size
            clear hba
            generalize hU : u3.alloc (.cells #[i64 0, i64 0, i64 0, i64 0] 59) = u4 at *
            clear hU
            refine hK.out _ _ (⟨cell_of_row _ g8 0 _ _ (0, 0) ho, cell_of_row _ g8 1 _ _ (0, 0) ho, cell_of_row _ g8 2 _ _ (0, 0) ho, cell_of_row _ g8 3 _ _ (0, 0) ho, cell_of_row _ g8 4 _ _ (0, 0) ho, cell_of_row _ g8 5 _ _ (0, 0) ho, cell_of_row _ g8 6 _ _ (0, 0) ho, cell_of_row _ g8 7 _ _ (0, 0) ho, cell_of_row _ g8 8 _ _ (0, 0) ho, cell_of_row _ g8 9 _ _ (0, 0) ho⟩) (fun hH => ?_)
            clear hK K
            try simp only [Act.put, List.getElem_toArray, List.getElem_cons_zero, List.getElem_cons_succ, List.setIfInBounds_toArray, List.set_cons_zero, List.set_cons_succ]
            refine wpAnyL_one (i := 8) (by kernel_rfl) rfl (by decide) (fun K hK => ?_)
            refine wp_store_row 59 (.tmp 12) (.tmp 42) rfl g12 #[i64 X.err, i64 X.hav, i64 X.set_, i64 X.num] (by rw [Hi12.out] <;> rfl) rfl 59 #[i64 0, i64 0, i64 0, i64 0] h12 (by kernel_rfl) rfl (by simp [Value.oneCell']) ?_
            have hB := hB.row (g := g12) (fun j hj e => by have := Hlt.out j hj; have := Hw8.out; omega) #[i64 X.err, i64 X.hav, i64 X.set_, i64 X.num]
            have hC := hC.row (g := g12) (fun j hj e => by have := Hno2.out j hj; have := Hw8.out; omega) #[i64 X.err, i64 X.hav, i64 X.set_, i64 X.num]
            have hg := (setRow_other _ g12 g6 #[i64 X.err, i64 X.hav, i64 X.set_, i64 X.num] (by have := Hw8.out; omega)).trans hg
            have ho := (setRow_other _ g12 g8 #[i64 X.err, i64 X.hav, i64 X.set_, i64 X.num] (by omega)).trans ho
            have h13 := (setRow_other _ g12 g13 #[i64 X.err, i64 X.hav, i64 X.set_, i64 X.num] (by omega)).trans h13
            have h12 := setRow_heap _ g12 _ #[i64 X.err, i64 X.hav, i64 X.set_, i64 X.num] _ _ h12
            have hb := below_setRow hb (show w.heap.size ≤ g12 by have := hb8s.out; omega) #[i64 X.err, i64 X.hav, i64 X.set_, i64 X.num]
            refine hK.out _ _ (⟨cell_of_row _ g8 0 _ _ (0, 0) ho, cell_of_row _ g8 1 _ _ (0, 0) ho, cell_of_row _ g8 2 _ _ (0, 0) ho, cell_of_row _ g8 3 _ _ (0, 0) ho, cell_of_row _ g8 4 _ _ (0, 0) ho, cell_of_row _ g8 5 _ _ (0, 0) ho, cell_of_row _ g8 6 _ _ (0, 0) ho, cell_of_row _ g8 7 _ _ (0, 0) ho, cell_of_row _ g8 8 _ _ (0, 0) ho, cell_of_row _ g8 9 _ _ (0, 0) ho⟩) (fun hH => ?_)
            clear hK K
            try simp only [Act.put, List.getElem_toArray, List.getElem_cons_zero, List.getElem_cons_succ]
            refine wpAnyL_last (by kernel_rfl) rfl (fun K hK => ?_)
            refine wp_store_row 59 (.tmp 13) (.tmp 45) rfl g13 #[i64 6, i64 0, i64 0, i64 0] (by rw [Hi13.out] <;> rfl) rfl 59 #[i64 0, i64 0, i64 0, i64 0] h13 (by kernel_rfl) rfl (by simp [Value.oneCell']) ?_
            refine hK.out _ _ ?_
            clear hK K
            try simp only [Act.put, List.getElem_toArray, List.getElem_cons_zero, List.getElem_cons_succ]
            have hB := hB.row (g := g13) (fun j hj e => by have := Hlt.out j hj; have := Hw8.out; omega) #[i64 6, i64 0, i64 0, i64 0]
            have hC := hC.row (g := g13) (fun j hj e => by have := Hno2.out j hj; have := Hw8.out; omega) #[i64 6, i64 0, i64 0, i64 0]
            have hg := (setRow_other _ g13 g6 #[i64 6, i64 0, i64 0, i64 0] (by have := Hw8.out; omega)).trans hg
            have ho := (setRow_other _ g13 g8 #[i64 6, i64 0, i64 0, i64 0] (by omega)).trans ho
            have h12 := (setRow_other _ g13 g12 #[i64 6, i64 0, i64 0, i64 0] (by omega)).trans h12
            have h13 := setRow_heap _ g13 _ #[i64 6, i64 0, i64 0, i64 0] _ _ h13
            have hb := below_setRow hb (show w.heap.size ≤ g13 by have := hb8s.out; omega) #[i64 6, i64 0, i64 0, i64 0]
            refine wpAnyL_done (by kernel_rfl) ?_ _
            refine NoPanic.normal ?_
            repeat go_step
            go_meet
            exact ⟨g12, g13, by rw [Hi12.out] <;> rfl, by rw [Hi13.out] <;> rfl, h12, h13, hg, hB, hC, hb⟩
          refine AllReadyL.cons rfl (fun K hK => ?_) ?_
          · skip
            go_simp
            have hba := (Below.refl u2.heap.size u2).alloc (Nat.le_refl _) (.cells #[i64 0, i64 0, i64 0, i64 0] 59)
            obtain ⟨g12, hi12, h12⟩ : ∃ j, j = u2.heap.size ∧ (u2.alloc (.cells #[i64 0, i64 0, i64 0, i64 0] 59)).heap[j]? = some (.cells #[i64 0, i64 0, i64 0, i64 0] 59) := ⟨_, rfl, heap_alloc_new _ _⟩
            have hge12 : w8.heap.size ≤ g12 := by rw [hi12]; exact hz
            have hne : g12 ≠ g13 := by have := (Array.getElem?_eq_some_iff.1 h13).1; rw [hi12]; exact Nat.ne_of_gt this
            have Hi12 := Lib.hid hi12
            clear hi12
            have hB := hB.later hba
            have hC := hC.later hba
            have hg := row_later hg hba
            have ho := row_later ho hba
            have h13 := row_later h13 hba
            have hb := hb.trans (hba.mono hb.size)
            have hz := Nat.le_trans hz hba.size
            clear hba
            generalize hU : u2.alloc (.cells #[i64 0, i64 0, i64 0, i64 0] 59) = u3 at *
            clear hU
            refine hK.out _ _ (⟨cell_of_row _ g8 0 _ _ (0, 0) ho, cell_of_row _ g8 1 _ _ (0, 0) ho, cell_of_row _ g8 2 _ _ (0, 0) ho, cell_of_row _ g8 3 _ _ (0, 0) ho, cell_of_row _ g8 4 _ _ (0, 0) ho, cell_of_row _ g8 5 _ _ (0, 0) ho, cell_of_row _ g8 6 _ _ (0, 0) ho, cell_of_row _ g8 7 _ _ (0, 0) ho, cell_of_row _ g8 8 _ _ (0, 0) ho, cell_of_row _ g8 9 _ _ (0, 0) ho⟩) (fun hH => ?_)
            clear hK K
            try simp only [Act.put, List.getElem_toArray, List.getElem_cons_zero, List.getElem_cons_succ, List.setIfInBounds_toArray, List.set_cons_zero, List.set_cons_succ]
            refine wpAnyL_one (i := 5) (by kernel_rfl) rfl (by decide) (fun K hK => ?_)
            go_simp
            refine (HD2.out _ hB).mono ?_
            rintro e u4 ⟨rfl, hB, hG⟩
            have hC := hC.kept hG Hnc.out
            have hg := row_kept hg hG Hn6.out
            have ho := row_kept ho hG Hno.out
            have h12 := row_kept h12 hG (fun k hk e => by have := Hlt.out k hk; have := Hw8.out; omega)
            have h13 := row_kept h13 hG (fun k hk e => by have := Hlt.out k hk; have := Hw8.out; omega)
            have hb := hb.trans (BkA.own_below hG hb.size Hge.out)
            have hz := Nat.le_trans hz hG.size
            clear hG
            refine hK.out _ _ (⟨cell_of_row _ g8 0 _ _ (0, 0) ho, cell_of_row _ g8 1 _ _ (0, 0) ho, cell_of_row _ g8 2 _ _ (0, 0) ho, cell_of_row _ g8 3 _ _ (0, 0) ho, cell_of_row _ g8 4 _ _ (0, 0) ho, cell_of_row _ g8 5 _ _ (0, 0) ho, cell_of_row _ g8 6 _ _ (0, 0) ho, cell_of_row _ g8 7 _ _ (0, 0) ho, cell_of_row _ g8 8 _ _ (0, 0) ho, cell_of_row _ g8 9 _ _ (0, 0) ho⟩) (fun hH => ?_)
            clear hK K
            try simp only [Act.put, List.getElem_toArray, List.getElem_cons_zero, List.getElem_cons_succ, List.setIfInBounds_toArray, List.set_cons_zero, List.set_cons_succ]
            refine wpAnyL_one (i := 8) (by kernel_rfl) rfl (by decide) (fun K hK => ?_)
            refine wp_store_row 59 (.tmp 12) (.tmp 42) rfl g12 #[i64 X.err, i64 X.hav, i64 X.set_, i64 X.num] (by rw [Hi12.out] <;> rfl) rfl 59 #[i64 0, i64 0, i64 0, i64 0] h12 (by kernel_rfl) rfl (by simp [Value.oneCell']) ?_
            have hB := hB.row (g := g12) (fun j hj e => by have := Hlt.out j hj; have := Hw8.out; omega) #[i64 X.err, i64 X.hav, i64 X.set_, i64 X.num]
            have hC := hC.row (g := g12) (fun j hj e => by have := Hno2.out j hj; have := Hw8.out; omega) #[i64 X.err, i64 X.hav, i64 X.set_, i64 X.num]
            have hg := (setRow_other _ g12 g6 #[i64 X.err, i64 X.hav, i64 X.set_, i64 X.num] (by have := Hw8.out; omega)).trans hg
            have ho := (setRow_other _ g12 g8 #[i64 X.err, i64 X.hav, i64 X.set_, i64 X.num] (by omega)).trans ho
            have h13 := (setRow_other _ g12 g13 #[i64 X.err, i64 X.hav, i64 X.set_, i64 X.num] (by omega)).trans h13
            have h12 := setRow_heap _ g12 _ #[i64 X.err, i64 X.hav, i64 X.set_, i64 X.num] _ _ h12
            have hb := below_setRow hb (show w.heap.size ≤ g12 by have := hb8s.out; omega) #[i64 X.err, i64 X.hav, i64 X.set_, i64 X.num]
            refine hK.out _ _ (⟨cell_of_row _ g8 0 _ _ (0, 0) ho, cell_of_row _ g8 1 _ _ (0, 0) ho, cell_of_row _ g8 2 _ _ (0, 0) ho, cell_of_row _ g8 3 _ _ (0, 0) ho, cell_of_row _ g8 4 _ _ (0, 0) ho, cell_of_row _ g8 5 _ _ (0, 0) ho, cell_of_row _ g8 6 _ _ (0, 0) ho, cell_of_row _ g8 7 _ _ (0, 0) ho, cell_of_row _ g8 8 _ _ (0, 0) ho, cell_of_row _ g8 9 _ _ (0, 0) ho⟩) (fun hH => ?_)
            clear hK K
            try simp only [Act.put, List.getElem_toArray, List.getElem_cons_zero, List.getElem_cons_succ]
            refine wpAnyL_last (by kernel_rfl) rfl (fun K hK => ?_)
            refine wp_store_row 59 (.tmp 13) (.tmp 45) rfl g13 #[i64 6, i64 0, i64 0, i64 0] (by rw [Hi13.out] <;> rfl) rfl 59 #[i64 0, i64 0, i64 0, i64 0] h13 (by kernel_rfl) rfl (by simp [Value.oneCell']) ?_
            refine hK.out _ _ ?_
            clear hK K
            try simp only [Act.put, List.getElem_toArray, List.getElem_cons_zero, List.getElem_cons_succ]
            have hB := hB.row (g := g13) (fun j hj e => by have := Hlt.out j hj; have := Hw8.out; omega) #[i64 6, i64 0, i64 0, i64 0]
            have hC := hC.row (g := g13) (fun j hj e => by have := Hno2.out j hj; have := Hw8.out; omega) #[i64 6, i64 0, i64 0, i64 0]
            have hg := (setRow_other _ g13 g6 #[i64 6, i64 0, i64 0, i64 0] (by have := Hw8.out; omega)).trans hg
            have ho := (setRow_other _ g13 g8 #[i64 6, i64 0, i64 0, i64 0] (by omega)).trans ho
            have h12 := (setRow_other _ g13 g12 #[i64 6, i64 0, i64 0, i64 0] (by omega)).trans h12
            have h13 := setRow_heap _ g13 _ #[i64 6, i64 0, i64 0, i64 0] _ _ h13
            have hb := below_setRow hb (show w.heap.size ≤ g13 by have := hb8s.out; omega) #[i64 6, i64 0, i64 0, i64 0]
            refine wpAnyL_done (by kernel_rfl) ?_ _
            refine NoPanic.normal ?_
            repeat go_step
            go_meet
            exact ⟨g12, g13, by rw [Hi12.out] <;> rfl, by rw [Hi13.out] <;> rfl, h12, h13, hg, hB, hC, hb⟩
          exact AllReadyL.nil
        exact AllReadyL.nil
      refine AllReadyL.cons rfl (fun K hK => ?_) ?_
      · skip
        go_simp
        have hba := (Below.refl u0.heap.size u0).alloc (Nat.le_refl _) (.cells #[i64 0, i64 0, i64 0, i64 0] 59)
        obtain ⟨g12, hi12, h12⟩ : ∃ j, j = u0.heap.size ∧ (u0.alloc (.cells #[i64 0, i64 0, i64 0, i64 0] 59)).heap[j]? = some (.cells #[i64 0, i64 0, i64 0, i64 0] 59) := ⟨_, rfl, heap_alloc_new _ _⟩
        have hge12 : w8.heap.size ≤ g12 := by rw [hi12]; exact hz
        have Hi12 := Lib.hid hi12
        clear hi12
        have hB := hB.later hba
        have hC := hC.later hba
        have hg := row_later hg hba
        have ho := row_later ho hba
        have hb := hb.trans (hba.mono hb.size)
        have hz := Nat.le_trans hz hba.size
        clear hba
        generalize hU : u0.alloc (.cells #[i64 0, i64 0, i64 0, i64 0] 59) = u1 at *
        clear hU
        refine hK.out _ _ (⟨cell_of_row _ g8 0 _ _ (0, 0) ho, cell_of_row _ g8 1 _ _ (0, 0) ho, cell_of_row _ g8 2 _ _ (0, 0) ho, cell_of_row _ g8 3 _ _ (0, 0) ho, cell_of_row _ g8 4 _ _ (0, 0) ho, cell_of_row _ g8 5 _ _ (0, 0) ho, cell_of_row _ g8 6 _ _ (0, 0) ho, cell_of_row _ g8 7 _ _ (0, 0) ho, cell_of_row _ g8 8 _ _ (0, 0) ho, cell_of_row _ g8 9 _ _ (0, 0) ho⟩) (fun hH => ?_)
        clear hK K
        try simp only [Act.put, List.getElem_toArray, List.getElem_cons_zero, List.getElem_cons_succ, List.setIfInBounds_toArray, List.set_cons_zero, List.set_cons_succ]
        refine wpAnyL_ready (rs := [2, 7]) (by kernel_rfl) (by simp) ?_
        refine AllReadyL.cons rfl (fun K hK => ?_) ?_
        · skip
          go_simp
          refine (HD1.out _ hB).mono ?_
          rintro e u2 ⟨rfl, hB, hG⟩
          have hC := hC.kept hG Hnc.out
          have hg := row_kept hg hG Hn6.out
          have ho := row_kept ho hG Hno.out
          have h12 := row_kept h12 hG (fun k hk e => by have := Hlt.out k hk; have := Hw8.out; omega)
          have hb := hb.trans (BkA.own_below hG hb.size Hge.out)
          have hz := Nat.le_trans hz hG.size
          clear hG
          refine hK.out _ _ (⟨cell_of_row _ g8 0 _ _ (0, 0) ho, cell_of_row _ g8 1 _ _ (0, 0) ho, cell_of_row _ g8 2 _ _ (0, 0) ho, cell_of_row _ g8 3 _ _ (0, 0) ho, cell_of_row _ g8 4 _ _ (0, 0) ho, cell_of_row _ g8 5 _ _ (0, 0) ho, cell_of_row _ g8 6 _ _ (0, 0) ho, cell_of_row _ g8 7 _ _ (0, 0) ho, cell_of_row _ g8 8 _ _ (0, 0) ho, cell_of_row _ g8 9 _ _ (0, 0) ho⟩) (fun hH => ?_)
          clear hK K
          try simp only [Act.put, List.getElem_toArray, List.getElem_cons_zero, List.getElem_cons_succ, List.setIfInBounds_toArray, List.set_cons_zero, List.set_cons_succ]
          refine wpAnyL_ready (rs := [5, 7]) (by kernel_rfl) (by simp) ?_
          refine AllReadyL.cons rfl (fun K hK => ?_) ?_
          · skip
            go_simp
            refine (HD2.out _ hB).mono ?_
            rintro e u3 ⟨rfl, hB, hG⟩
            have hC := hC.kept hG Hnc.out
            have hg := row_kept hg hG Hn6.out
            have ho := row_kept ho hG Hno.out
            have h12 := row_kept h12 hG (fun k hk e => by have := Hlt.out k hk; have := Hw8.out; omega)
            have hb := hb.trans (BkA.own_below hG hb.size Hge.out)
            have hz := Nat.le_trans hz hG.size
            clear hG
            refine hK.out _ _ (⟨cell_of_row _ g8 0 _ _ (0, 0) ho, cell_of_row _ g8 1 _ _ (0, 0) ho, cell_of_row _ g8 2 _ _ (0, 0) ho, cell_of_row _ g8 3 _ _ (0, 0) ho, cell_of_row _ g8 4 _ _ (0, 0) ho, cell_of_row _ g8 5 _ _ (0, 0) ho, cell_of_row _ g8 6 _ _ (0, 0) ho, cell_of_row _ g8 7 _ _ (0, 0) ho, cell_of_row _ g8 8 _ _ (0, 0) ho, cell_of_row _ g8 9 _ _ (0, 0) ho⟩) (fun hH => ?_)
            clear hK K
            try simp only [Act.put, List.getElem_toArray, List.getElem_cons_zero, List.getElem_cons_succ, List.setIfInBounds_toArray, List.set_cons_zero, List.set_cons_succ]
            refine wpAnyL_one (i := 7) (by kernel_rfl) rfl (by decide) (fun K hK => ?_)
            go_simp
            have hba := (Below.refl u3.heap.size u3).alloc (Nat.le_refl _) (.cells #[i64 0, i64 0, i64 0, i64 0] 59)
            obtain ⟨g13, hi13, h13⟩ : ∃ j, j = u3.heap.size ∧ (u3.alloc (.cells #[i64 0, i64 0, i64 0, i64 0] 59)).heap[j]? = some (.cells #[i64 0, i64 0, i64 0, i64 0] 59) := ⟨_, rfl, heap_alloc_new _ _⟩
            have hge13 : w8.heap.size ≤ g13 := by rw [hi13]; exact hz
            have hne : g12 ≠ g13 := by have := (Array.getElem?_eq_some_iff.1 h12).1; rw [hi13]; exact Nat.ne_of_lt this
            have Hi13 := Lib.hid hi13
            clear hi13
            have hB := hB.later hba
            have hC := hC.later hba
            have hg := row_later hg hba
            have ho := row_later ho hba
            have h12 := row_later h12 hba
            have hb := hb.trans (hba.mono hb.size)
            have hz := Nat.le_trans hz hba.size
            clear hba
            generalize hU : u3.alloc (.cells #[i64 0, i64 0, i64 0, i64 0] 59) = u4 at *
            clear hU
            refine hK.out _ _ (⟨cell_of_row _ g8 0 _ _ (0, 0) ho, cell_of_row _ g8 1 _ _ (0, 0) ho, cell_of_row _ g8 2 _ _ (0, 0) ho, cell_of_row _ g8 3 _ _ (0, 0) ho, cell_of_row _ g8 4 _ _ (0, 0) ho, cell_of_row _ g8 5 _ _ (0, 0) ho, cell_of_row _ g8 6 _ _ (0, 0) ho, cell_of_row _ g8 7 _ _ (0, 0) ho, cell_of_row _ g8 8 _ _ (0, 0) ho, cell_of_row _ g8 9 _ _ (0, 0) ho⟩) (fun hH => ?_)
            clear hK K
            try simp only [Act.put, List.getElem_toArray, List.getElem_cons_zero, List.getElem_cons_succ, List.setIfInBounds_toArray, List.set_cons_zero, List.set_cons_succ]
            refine wpAnyL_one (i := 8) (by kernel_rfl) rfl (by decide) (fun K hK => ?_)
            refine wp_store_row 59 (.tmp 12) (.tmp 42) rfl g12 #[i64 X.err, i64 X.hav, i64 X.set_, i64 X.num] (by rw [Hi12.out] <;> rfl) rfl 59 #[i64 0, i64 0, i64 0, i64 0] h12 (by kernel_rfl) rfl (by simp [Value.oneCell']) ?_
            have hB := hB.row (g := g12) (fun j hj e => by have := Hlt.out j hj; have := Hw8.out; omega) #[i64 X.err, i64 X.hav, i64 X.set_, i64 X.num]
            have hC := hC.row (g := g12) (fun j hj e => by have := Hno2.out j hj; have := Hw8.out; omega) #[i64 X.err, i64 X.hav, i64 X.set_, i64 X.num]
            have hg := (setRow_other _ g12 g6 #[i64 X.err, i64 X.hav, i64 X.set_, i64 X.num] (by have := Hw8.out; omega)).trans hg
            have ho := (setRow_other _ g12 g8 #[i64 X.err, i64 X.hav, i64 X.set_, i64 X.num] (by omega)).trans ho
            have h13 := (setRow_other _ g12 g13 #[i64 X.err, i64 X.hav, i64 X.set_, i64 X.num] (by omega)).trans h13
            have h12 := setRow_heap _ g12 _ #[i64 X.err, i64 X.hav, i64 X.set_, i64 X.num] _ _ h12
            have hb := below_setRow hb (show w.heap.size ≤ g12 by have := hb8s.out; omega) #[i64 X.err, i64 X.hav, i64 X.set_, i64 X.num]
            refine hK.out _ _ (⟨cell_of_row _ g8 0 _ _ (0, 0) ho, cell_of_row _ g8 1 _ _ (0, 0) ho, cell_of_row _ g8 2 _ _ (0, 0) ho, cell_of_row _ g8 3 _ _ (0, 0) ho, cell_of_row _ g8 4 _ _ (0, 0) ho, cell_of_row _ g8 5 _ _ (0, 0) ho, cell_of_row _ g8 6 _ _ (0, 0) ho, cell_of_row _ g8 7 _ _ (0, 0) ho, cell_of_row _ g8 8 _ _ (0, 0) ho, cell_of_row _ g8 9 _ _ (0, 0) ho⟩) (fun hH => ?_)
            clear hK K
            try simp only [Act.put, List.getElem_toArray, List.getElem_cons_zero, List.getElem_cons_succ]
            refine wpAnyL_last (by kernel_rfl) rfl (fun K hK => ?_)
            refine wp_store_row 59 (.tmp 13) (.tmp 45) rfl g13 #[i64 6, i64 0, i64 0, i64 0] (by rw [Hi13.out] <;> rfl) rfl 59 #[i64 0, i64 0, i64 0, i64 0] h13 (by kernel_rfl) rfl (by simp [Value.oneCell']) ?_
            refine hK.out _ _ ?_
            clear hK K
            try simp only [Act.put, List.getElem_toArray, List.getElem_cons_zero, List.getElem_cons_succ]
            have hB := hB.row (g := g13) (fun j hj e => by have := Hlt.out j hj; have := Hw8.out; omega) #[i64 6, i64 0, i64 0, i64 0]
            have hC := hC.row (g := g13) (fun j hj e => by have := Hno2.out j hj; have := Hw8.out; omega) #[i64 6, i64 0, i64 0, i64 0]
            have hg := (setRow_other _ g13 g6 #[i64 6, i64 0, i64 0, i64 0] (by have := Hw8.out; omega)).trans hg
            have ho := (setRow_other _ g13 g8 #[i64 6, i64 0, i64 0, i64 0] (by omega)).trans ho
            have h12 := (setRow_other _ g13 g12 #[i64 6, i64 0, i64 0, i64 0] (by omega)).trans h12
            have h13 := setRow_heap _ g13 _ #[i64 6, i64 0, i64 0, i64 0] _ _ h13
            have hb := below_setRow hb (show w.heap.size ≤ g13 by have := hb8s.out; omega) #[i64 6, i64 0, i64 0, i64 0]
            refine wpAnyL_done (by kernel_rfl) ?_ _
            refine NoPanic.normal ?_
            repeat go_step
            go_meet
            exact ⟨g12, g13, by rw [Hi12.out] <;> rfl, by rw [Hi13.out] <;> rfl, h12, h13, hg, hB, hC, hb⟩
          refine AllReadyL.cons rfl (fun K hK => ?_) ?_
          · skip
            go_simp
            have hba := (Below.refl u2.heap.size u2).alloc (Nat.le_refl _) (.cells #[i64 0, i64 0, i64 0, i64 0] 59)
            obtain ⟨g13, hi13, h13⟩ : ∃ j, j = u2.heap.size ∧ (u2.alloc (.cells #[i64 0, i64 0, i64 0, i64 0] 59)).heap[j]? = some (.cells #[i64 0, i64 0, i64 0, i64 0] 59) := ⟨_, rfl, heap_alloc_new _ _⟩
            have hge13 : w8.heap.size ≤ g13 := by rw [hi13]; exact hz
            have hne : g12 ≠ g13 := by have := (Array.getElem?_eq_some_iff.1 h12).1; rw [hi13]; exact Nat.ne_of_lt this
            have Hi13 := Lib.hid hi13
            clear hi13
            have hB := hB.later hba
            have hC := hC.later hba
            have hg := row_later hg hba
            have ho := row_later ho hba
            have h12 := row_later h12 hba
            have hb := hb.trans (hba.mono hb.size)
            have hz := Nat.le_trans hz hba.size
            clear hba
            generalize hU : u2.alloc (.cells #[i64 0, i64 0, i64 0, i64 0] 59) = u3 at *
            clear hU
            refine hK.out _ _ (⟨cell_of_row _ g8 0 _ _ (0, 0) ho, cell_of_row _ g8 1 _ _ (0, 0) ho, cell_of_row _ g8 2 _ _ (0, 0) ho, cell_of_row _ g8 3 _ _ (0, 0) ho, cell_of_row _ g8 4 _ _ (0, 0) ho, cell_of_row _ g8 5 _ _ (0, 0) ho, cell_of_row _ g8 6 _ _ (0, 0) ho, cell_of_row _ g8 7 _ _ (0, 0) ho, cell_of_row _ g8 8 _ _ (0, 0) ho, cell_of_row _ g8 9 _ _ (0, 0) ho⟩) (fun hH => ?_)
            clear hK K
            try simp only [Act.put, List.getElem_toArray, List.getElem_cons_zero, List.getElem_cons_succ, List.setIfInBounds_toArray, List.set_cons_zero, List.set_cons_succ]
            refine wpAnyL_one (i := 5) (by kernel_rfl) rfl (by decide) (fun K hK => ?_)
            go_simp
            refine (HD2.out _ hB).mono ?_
            rintro e u4 ⟨rfl, hB, hG⟩
            have hC := hC.kept hG Hnc.out
            have hg := row_kept hg hG Hn6.out
            have ho := row_kept ho hG Hno.out
            have h12 := row_kept h12 hG (fun k hk e => by have := Hlt.out k hk; have := Hw8.out; omega)
            have h13 := row_kept h13 hG (fun k hk e => by have := Hlt.out k hk; have := Hw8.out; omega)
            have hb := hb.trans (BkA.own_below hG hb.size Hge.out)
            have hz := Nat.le_trans hz hG.size
            clear hG
            refine hK.out _ _ (⟨cell_of_row _ g8 0 _ _ (0, 0) ho, cell_of_row _ g8 1 _ _ (0, 0) ho, cell_of_row _ g8 2 _ _ (0, 0) ho, cell_of_row _ g8 3 _ _ (0, 0) ho, cell_of_row _ g8 4 _ _ (0, 0) ho, cell_of_row _ g8 5 _ _ (0, 0) ho, cell_of_row _ g8 6 _ _ (0, 0) ho, cell_of_row _ g8 7 _ _ (0, 0) ho, cell_of_row _ g8 8 _ _ (0, 0) ho, cell_of_row _ g8 9 _ _ (0, 0) ho⟩) (fun hH => ?_)
            clear hK K
            try simp only [Act.put, List.getElem_toArray, List.getElem_cons_zero, List.getElem_cons_succ, List.setIfInBounds_toArray, List.set_cons_zero, List.set_cons_succ]
            refine wpAnyL_one (i := 8) (by kernel_rfl) rfl (by decide) (fun K hK => ?_)
            refine wp_store_row 59 (.tmp 12) (.tmp 42) rfl g12 #[i64 X.err, i64 X.hav, i64 X.set_, i64 X.num] (by rw [Hi12.out] <;> rfl) rfl 59 #[i64 0, i64 0, i64 0, i64 0] h12 (by kernel_rfl) rfl (by simp [Value.oneCell']) ?_
            have hB := hB.row (g := g12) (fun j hj e => by have := Hlt.out j hj; have := Hw8.out; omega) #[i64 X.err, i64 X.hav, i64 X.set_, i64 X.num]
            have hC := hC.row (g := g12) (fun j hj e => by have := Hno2.out j hj; have := Hw8.out; omega) #[i64 X.err, i64 X.hav, i64 X.set_, i64 X.num]
            have hg := (setRow_other _ g12 g6 #[i64 X.err, i64 X.hav, i64 X.set_, i64 X.num] (by have := Hw8.out; omega)).trans hg
            have ho := (setRow_other _ g12 g8 #[i64 X.err, i64 X.hav, i64 X.set_, i64 X.num] (by omega)).trans ho
            have h13 := (setRow_other _ g12 g13 #[i64 X.err, i64 X.hav, i64 X.set_, i64 X.num] (by omega)).trans h13
            have h12 := setRow_heap _ g12 _ #[i64 X.err, i64 X.hav, i64 X.set_, i64 X.num] _ _ h12
            have hb := below_setRow hb (show w.heap.size ≤ g12 by have := hb8s.out; omega) #[i64 X.err, i64 X.hav, i64 X.set_, i64 X.num]
            refine hK.out _ _ (⟨cell_of_row _ g8 0 _ _ (0, 0) ho, cell_of_row _ g8 1 _ _ (0, 0) ho, cell_of_row _ g8 2 _ _ (0, 0) ho, cell_of_row _ g8 3 _ _ (0, 0) ho, cell_of_row _ g8 4 _ _ (0, 0) ho, cell_of_row _ g8 5 _ _ (0, 0) ho, cell_of_row _ g8 6 _ _ (0, 0) ho, cell_of_row _ g8 7 _ _ (0, 0) ho, cell_of_row _ g8 8 _ _ (0, 0) ho, cell_of_row _ g8 9 _ _ (0, 0) ho⟩) (fun hH => ?_)
            clear hK K
            try simp only [Act.put, List.getElem_toArray, List.getElem_cons_zero, List.getElem_cons_succ]
            refine wpAnyL_last (by kernel_rfl) rfl (fun K hK => ?_)
            refine wp_store_row 59 (.tmp 13) (.tmp 45) rfl g13 #[i64 6, i64 0, i64 0, i64 0] (by rw [Hi13.out] <;> rfl) rfl 59 #[i64 0, i64 0, i64 0, i64 0] h13 (by kernel_rfl) rfl (by simp [Value.oneCell']) ?_
            refine hK.out _ _ ?_
            clear hK K
            try simp only [Act.put, List.getElem_toArray, List.getElem_cons_zero, List.getElem_cons_succ]
            have hB := hB.row (g := g13) (fun j hj e => by have := Hlt.out j hj; have := Hw8.out; omega) #[i64 6, i64 0, i64 0, i64 0]
            have hC := hC.row (g := g13) (fun j hj e => by have := Hno2.out j hj; have := Hw8.out; omega) #[i64 6, i64 0, i64 0, i64 0]
            have hg := (setRow_other _ g13 g6 #[i64 6, i64 0, i64 0, i64 0] (by have := Hw8.out; omega)).trans hg
            have ho := (setRow_other _ g13 g8 #[i64 6, i64 0, i64 0, i64 0] (by omega)).trans ho
            have h12 := (setRow_other _ g13 g12 #[i64 6, i64 0, i64 0, i64 0] (by omega)).trans h12
            have h13 := setRow_heap _ g13 _ #[i64 6, i64 0, i64 0, i64 0] _ _ h13
            have hb := below_setRow hb (show w.heap.size ≤ g13 by have := hb8s.out; omega) #[i64 6, i64 0, i64 0, i64 0]
            refine wpAnyL_done (by kernel_rfl) ?_ _
            refine NoPanic.normal ?_
            repeat go_step
            go_meet
            exact ⟨g12, g13, by rw [Hi12.out] <;> rfl, by rw [Hi13.out] <;> rfl, h12, h13, hg, hB, hC, hb⟩
          exact AllReadyL.nil
        refine AllReadyL.cons rfl (fun K hK => ?_) ?_
        · skip
          go_simp
          have hba := (Below.refl u1.heap.size u1).alloc (Nat.le_refl _) (.cells #[i64 0, i64 0, i64 0, i64 0] 59)
          obtain ⟨g13, hi13, h13⟩ : ∃ j, j = u1.heap.size ∧ (u1.alloc (.cells #[i64 0, i64 0, i64 0, i64 0] 59)).heap[j]? = some (.cells #[i64 0, i64 0, i64 0, i64 0] 59) := ⟨_, rfl, heap_alloc_new _ _⟩
          have hge13 : w8.heap.size ≤ g13 := by rw [hi13]; exact hz
          have hne : g12 ≠ g13 := by have := (Array.getElem?_eq_some_iff.1 h12).1; rw [hi13]; exact Nat.ne_of_lt this
          have Hi13 := Lib.hid hi13
          clear hi13
          have hB := hB.later hba
          have hC := hC.later hba
          have hg := row_later hg hba
          have ho := row_later ho hba
          have h12 := row_later h12 hba
          have hb := hb.trans (hba.mono hb.size)
          have hz := Nat.le_trans hz hba.size
          clear hba
          generalize hU : u1.alloc (.cells #[i64 0, i64 0, i64 0, i64 0] 59) = u2 at *
          clear hU
          refine hK.out _ _ (⟨cell_of_row _ g8 0 _ _ (0, 0) ho, cell_of_row _ g8 1 _ _ (0, 0) ho, cell_of_row _ g8 2 _ _ (0, 0) ho, cell_of_row _ g8 3 _ _ (0, 0) ho, cell_of_row _ g8 4 _ _ (0, 0) ho, cell_of_row _ g8 5 _ _ (0, 0) ho, cell_of_row _ g8 6 _ _ (0, 0) ho, cell_of_row _ g8 7 _ _ (0, 0) ho, cell_of_row _ g8 8 _ _ (0, 0) ho, cell_of_row _ g8 9 _ _ (0, 0) ho⟩) (fun hH => ?_)
          clear hK K
          try simp only [Act.put, List.getElem_toArray, List.getElem_cons_zero, List.getElem_cons_succ, List.setIfInBounds_toArray, List.set_cons_zero, List.set_cons_succ]
          refine wpAnyL_one (i := 2) (by kernel_rfl) rfl (by decide) (fun K hK => ?_)
          go_simp
          refine (HD1.out _ hB).mono ?_
          rintro e u3 ⟨rfl, hB, hG⟩
          have hC := hC.kept hG Hnc.out
          have hg := row_kept hg hG Hn6.out
          have ho := row_kept ho hG Hno.out
          have h12 := row_kept h12 hG (fun k hk e => by have := Hlt.out k hk; have := Hw8.out; omega)
          have h13 := row_kept h13 hG (fun k hk e => by have := Hlt.out k hk; have := Hw8.out; omega)
          have hb := hb.trans (BkA.own_below hG hb.size Hge.out)
          have hz := Nat.le_trans hz hG.size
          clear hG
          refine hK.out _ _ (⟨cell_of_row _ g8 0 _ _ (0, 0) ho, cell_of_row _ g8 1 _ _ (0, 0) ho, cell_of_row _ g8 2 _ _ (0, 0) ho, cell_of_row _ g8 3 _ _ (0, 0) ho, cell_of_row _ g8 4 _ _ (0, 0) ho, cell_of_row _ g8 5 _ _ (0, 0) ho, cell_of_row _ g8 6 _ _ (0, 0) ho, cell_of_row _ g8 7 _ _ (0, 0) ho, cell_of_row _ g8 8 _ _ (0, 0) ho, cell_of_row _ g8 9 _ _ (0, 0) ho⟩) (fun hH => ?_)
          clear hK K
          try simp only [Act.put, List.getElem_toArray, List.getElem_cons_zero, List.getElem_cons_succ, List.setIfInBounds_toArray, List.set_cons_zero, List.set_cons_succ]
          refine wpAnyL_one (i := 5) (by kernel_rfl) rfl (by decide) (fun K hK => ?_)
          go_simp
          refine (HD2.out _ hB).mono ?_
          rintro e u4 ⟨rfl, hB, hG⟩
          have hC := hC.kept hG Hnc.out
          have hg := row_kept hg hG Hn6.out
          have ho := row_kept ho hG Hno.out
          have h12 := row_kept h12 hG (fun k hk e => by have := Hlt.out k hk; have := Hw8.out; omega)
          have h13 := row_kept h13 hG (fun k hk e => by have := Hlt.out k hk; have := Hw8.out; omega)
          have hb := hb.trans (BkA.own_below hG hb.size Hge.out)
          have hz := Nat.le_trans hz hG.size
          clear hG
          refine hK.out _ _ (⟨cell_of_row _ g8 0 _ _ (0, 0) ho, cell_of_row _ g8 1 _ _ (0, 0) ho, cell_of_row _ g8 2 _ _ (0, 0) ho, cell_of_row _ g8 3 _ _ (0, 0) ho, cell_of_row _ g8 4 _ _ (0, 0) ho, cell_of_row _ g8 5 _ _ (0, 0) ho, cell_of_row _ g8 6 _ _ (0, 0) ho, cell_of_row _ g8 7 _ _ (0, 0) ho, cell_of_row _ g8 8 _ _ (0, 0) ho, cell_of_row _ g8 9 _ _ (0, 0) ho⟩) (fun hH => ?_)
          clear hK K
          try simp only [Act.put, List.getElem_toArray, List.getElem_cons_zero, List.getElem_cons_succ, List.setIfInBounds_toArray, List.set_cons_zero, List.set_cons_succ]
          refine wpAnyL_one (i := 8) (by kernel_rfl) rfl (by decide) (fun K hK => ?_)
          refine wp_store_row 59 (.tmp 12) (.tmp 42) rfl g12 #[i64 X.err, i64 X.hav, i64 X.set_, i64 X.num] (by rw [Hi12.out] <;> rfl) rfl 59 #[i64 0, i64 0, i64 0, i64 0] h12 (by kernel_rfl) rfl (by simp [Value.oneCell']) ?_
          have hB := hB.row (g := g12) (fun j hj e => by have := Hlt.out j hj; have := Hw8.out; omega) #[i64 X.err, i64 X.hav, i64 X.set_, i64 X.num]
          have hC := hC.row (g := g12) (fun j hj e => by have := Hno2.out j hj; have := Hw8.out; omega) #[i64 X.err, i64 X.hav, i64 X.set_, i64 X.num]
          have hg := (setRow_other _ g12 g6 #[i64 X.err, i64 X.hav, i64 X.set_, i64 X.num] (by have := Hw8.out; omega)).trans hg
          have ho := (setRow_other _ g12 g8 #[i64 X.err, i64 X.hav, i64 X.set_, i64 X.num] (by omega)).trans ho
          have h13 := (setRow_other _ g12 g13 #[i64 X.err, i64 X.hav, i64 X.set_, i64 X.num] (by omega)).trans h13
          have h12 := setRow_heap _ g12 _ #[i64 X.err, i64 X.hav, i64 X.set_, i64 X.num] _ _ h12
          have hb := below_setRow hb (show w.heap.size ≤ g12 by have := hb8s.out; omega) #[i64 X.err, i64 X.hav, i64 X.set_, i64 X.num]
          refine hK.out _ _ (⟨cell_of_row _ g8 0 _ _ (0, 0) ho, cell_of_row _ g8 1 _ _ (0, 0) ho, cell_of_row _ g8 2 _ _ (0, 0) ho, cell_of_row _ g8 3 _ _ (0, 0) ho, cell_of_row _ g8 4 _ _ (0, 0) ho, cell_of_row _ g8 5 _ _ (0, 0) ho, cell_of_row _ g8 6 _ _ (0, 0) ho, cell_of_row _ g8 7 _ _ (0, 0) ho, cell_of_row _ g8 8 _ _ (0, 0) ho, cell_of_row _ g8 9 _ _ (0, 0) ho⟩) (fun hH => ?_)
          clear hK K
          try simp only [Act.put, List.getElem_toArray, List.getElem_cons_zero, List.getElem_cons_succ]
          refine wpAnyL_last (by kernel_rfl) rfl (fun K hK => ?_)
          refine wp_store_row 59 (.tmp 13) (.tmp 45) rfl g13 #[i64 6, i64 0, i64 0, i64 0] (by rw [Hi13.out] <;> rfl) rfl 59 #[i64 0, i64 0, i64 0, i64 0] h13 (by kernel_rfl) rfl (by simp [Value.oneCell']) ?_
          refine hK.out _ _ ?_
          clear hK K
          try simp only [Act.put, List.getElem_toArray, List.getElem_cons_zero, List.getElem_cons_succ]
          have hB := hB.row (g := g13) (fun j hj e => by have := Hlt.out j hj; have := Hw8.out; omega) #[i64 6, i64 0, i64 0, i64 0]
          have hC := hC.row (g := g13) (fun j hj e => by have := Hno2.out j hj; have := Hw8.out; omega) #[i64 6, i64 0, i64 0, i64 0]
          have hg := (setRow_other _ g13 g6 #[i64 6, i64 0, i64 0, i64 0] (by have := Hw8.out; omega)).trans hg
          have ho := (setRow_other _ g13 g8 #[i64 6, i64 0, i64 0, i64 0] (by omega)).trans ho
          have h12 := (setRow_other _ g13 g12 #[i64 6, i64 0, i64 0, i64 0] (by omega)).trans h12
          have h13 := setRow_heap _ g13 _ #[i64 6, i64 0, i64 0, i64 0] _ _ h13
          have hb := below_setRow hb (show w.heap.size ≤ g13 by have := hb8s.out; omega) #[i64 6, i64 0, i64 0, i64 0]
          refine wpAnyL_done (by kernel_rfl) ?_ _
          refine NoPanic.normal ?_
          repeat go_step
          go_meet
          exact ⟨g12, g13, by rw [Hi12.out] <;> rfl, by rw [Hi13.out] <;> rfl, h12, h13, hg, hB, hC, hb⟩
        exact AllReadyL.nil
      refine AllReadyL.cons rfl (fun K hK => ?_) ?_
      · skip
        go_simp
        have hba := (Below.refl u0.heap.size u0).alloc (Nat.le_refl _) (.cells #[i64 0, i64 0, i64 0, i64 0] 59)
        obtain ⟨g13, hi13, h13⟩ : ∃ j, j = u0.heap.size ∧ (u0.alloc (.cells #[i64 0, i64 0, i64 0, i64 0] 59)).heap[j]? = some (.cells #[i64 0, i64 0, i64 0, i64 0] 59) := ⟨_, rfl, heap_alloc_new _ _⟩
        have hge13 : w8.heap.size ≤ g13 := by rw [hi13]; exact hz
        have Hi13 := Lib.hid hi13
        clear hi13
        have hB := hB.later hba
        have hC := hC.later hba
        have hg := row_later hg hba
        have ho := row_later ho hba
        have hb := hb.trans (hba.mono hb.size)
        have hz := Nat.le_trans hz hba.size
        clear hba
        generalize hU : u0.alloc (.cells #[i64 0, i64 0, i64 0, i64 0] 59) = u1 at *
        clear hU
        refine hK.out _ _ (⟨cell_of_row _ g8 0 _ _ (0, 0) ho, cell_of_row _ g8 1 _ _ (0, 0) ho, cell_of_row _ g8 2 _ _ (0, 0) ho, cell_of_row _ g8 3 _ _ (0, 0) ho, cell_of_row _ g8 4 _ _ (0, 0) ho, cell_of_row _ g8 5 _ _ (0, 0) ho, cell_of_row _ g8 6 _ _ (0, 0) ho, cell_of_row _ g8 7 _ _ (0, 0) ho, cell_of_row _ g8 8 _ _ (0, 0) ho, cell_of_row _ g8 9 _ _ (0, 0) ho⟩) (fun hH => ?_)
        clear hK K
        try simp only [Act.put, List.getElem_toArray, List.getElem_cons_zero, List.getElem_cons_succ, List.setIfInBounds_toArray, List.set_cons_zero, List.set_cons_succ]
        refine wpAnyL_ready (rs := [2, 6]) (by kernel_rfl) (by simp) ?_
        refine AllReadyL.cons rfl (fun K hK => ?_) ?_
        · skip
          go_simp
          refine (HD1.out _ hB).mono ?_
          rintro e u2 ⟨rfl, hB, hG⟩
          have hC := hC.kept hG Hnc.out
          have hg := row_kept hg hG Hn6.out
          have ho := row_kept ho hG Hno.out
          have h13 := row_kept h13 hG (fun k hk e => by have := Hlt.out k hk; have := Hw8.out; omega)
          have hb := hb.trans (BkA.own_below hG hb.size Hge.out)
          have hz := Nat.le_trans hz hG.size
          clear hG
          refine hK.out _ _ (⟨cell_of_row _ g8 0 _ _ (0, 0) ho, cell_of_row _ g8 1 _ _ (0, 0) ho, cell_of_row _ g8 2 _ _ (0, 0) ho, cell_of_row _ g8 3 _ _ (0, 0) ho, cell_of_row _ g8 4 _ _ (0, 0) ho, cell_of_row _ g8 5 _ _ (0, 0) ho, cell_of_row _ g8 6 _ _ (0, 0) ho, cell_of_row _ g8 7 _ _ (0, 0) ho, cell_of_row _ g8 8 _ _ (0, 0) ho, cell_of_row _ g8 9 _ _ (0, 0) ho⟩) (fun hH => ?_)
          clear hK K
          try simp only [Act.put, List.getElem_toArray, List.getElem_cons_zero, List.getElem_cons_succ, List.setIfInBounds_toArray, List.set_cons_zero, List.set_cons_succ]
          refine wpAnyL_ready (rs := [5, 6]) (by kernel_rfl) (by simp) ?_
          refine AllReadyL.cons rfl (fun K hK => ?_) ?_
          · skip
            go_simp
            refine (HD2.out _ hB).mono ?_
            rintro e u3 ⟨rfl, hB, hG⟩
            have hC := hC.kept hG Hnc.out
            have hg := row_kept hg hG Hn6.out
            have ho := row_kept ho hG Hno.out
            have h13 := row_kept h13 hG (fun k hk e => by have := Hlt.out k hk; have := Hw8.out; omega)
            have hb := hb.trans (BkA.own_below hG hb.size Hge.out)
            have hz := Nat.le_trans hz hG.size
            clear hG
            refine hK.out _ _ (⟨cell_of_row _ g8 0 _ _ (0, 0) ho, cell_of_row _ g8 1 _ _ (0, 0) ho, cell_of_row _ g8 2 _ _ (0, 0) ho, cell_of_row _ g8 3 _ _ (0, 0) ho, cell_of_row _ g8 4 _ _ (0, 0) ho, cell_of_row _ g8 5 _ _ (0, 0) ho, cell_of_row _ g8 6 _ _ (0, 0) ho, cell_of_row _ g8 7 _ _ (0, 0) ho, cell_of_row _ g8 8 _ _ (0, 0) ho, cell_of_row _ g8 9 _ _ (0, 0) ho⟩) (fun hH => ?_)
            clear hK K
            try simp only [Act.put, List.getElem_toArray, List.getElem_cons_zero, List.getElem_cons_succ, List.setIfInBounds_toArray, List.set_cons_zero, List.set_cons_succ]
            refine wpAnyL_one (i := 6) (by kernel_rfl) rfl (by decide) (fun K hK => ?_)
            go_simp
            have hba := (Below.refl u3.heap.size u3).alloc (Nat.le_refl _) (.cells #[i64 0, i64 0, i64 0, i64 0] 59)
            obtain ⟨g12, hi12, h12⟩ : ∃ j, j = u3.heap.size ∧ (u3.alloc (.cells #[i64 0, i64 0, i64 0, i64 0] 59)).heap[j]? = some (.cells #[i64 0, i64 0, i64 0, i64 0] 59) := ⟨_, rfl, heap_alloc_new _ _⟩
            have hge12 : w8.heap.size ≤ g12 := by rw [hi12]; exact hz
            have hne : g12 ≠ g13 := by have := (Array.getElem?_eq_some_iff.1 h13).1; rw [hi12]; exact Nat.ne_of_gt this
            have Hi12 := Lib.hid hi12
            clear hi12
            have hB := hB.later hba
            have hC := hC.later hba
            have hg := row_later hg hba
            have ho := row_later ho hba
            have h13 := row_later h13 hba
            have hb := hb.trans (hba.mono hb.size)
            have hz := Nat.le_trans hz hba.size
            clear hba
            generalize hU : u3.alloc (.cells #[i64 0, i64 0, i64 0, i64 0] 59) = u4 at *
            clear hU
            refine hK.out _ _ (⟨cell_of_row _ g8 0 _ _ (0, 0) ho, cell_of_row _ g8 1 _ _ (0, 0) ho, cell_of_row _ g8 2 _ _ (0, 0) ho, cell_of_row _ g8 3 _ _ (0, 0) ho, cell_of_row _ g8 4 _ _ (0, 0) ho, cell_of_row _ g8 5 _ _ (0, 0) ho, cell_of_row _ g8 6 _ _ (0, 0) ho, cell_of_row _ g8 7 _ _ (0, 0) ho, cell_of_row _ g8 8 _ _ (0, 0) ho, cell_of_row _ g8 9 _ _ (0, 0) ho⟩) (fun hH => ?_)
            clear hK K
            try simp only [Act.put, List.getElem_toArray, List.getElem_cons_zero, List.getElem_cons_succ, List.setIfInBounds_toArray, List.set_cons_zero, List.set_cons_succ]
            refine wpAnyL_one (i := 8) (by kernel_rfl) rfl (by decide) (fun K hK => ?_)
            refine wp_store_row 59 (.tmp 12) (.tmp 42) rfl g12 #[i64 X.err, i64 X.hav, i64 X.set_, i64 X.num] (by rw [Hi12.out] <;> rfl) rfl 59 #[i64 0, i64 0, i64 0, i64 0] h12 (by kernel_rfl) rfl (by simp [Value.oneCell']) ?_
            have hB := hB.row (g := g12) (fun j hj e => by have := Hlt.out j hj; have := Hw8.out; omega) #[i64 X.err, i64 X.hav, i64 X.set_, i64 X.num]
            have hC := hC.row (g := g12) (fun j hj e => by have := Hno2.out j hj; have := Hw8.out; omega) #[i64 X.err, i64 X.hav, i64 X.set_, i64 X.num]
            have hg := (setRow_other _ g12 g6 #[i64 X.err, i64 X.hav, i64 X.set_, i64 X.num] (by have := Hw8.out; omega)).trans hg
            have ho := (setRow_other _ g12 g8 #[i64 X.err, i64 X.hav, i64 X.set_, i64 X.num] (by omega)).trans ho
            have h13 := (setRow_other _ g12 g13 #[i64 X.err, i64 X.hav, i64 X.set_, i64 X.num] (by omega)).trans h13
            have h12 := setRow_heap _ g12 _ #[i64 X.err, i64 X.hav, i64 X.set_, i64 X.num] _ _ h12
            have hb := below_setRow hb (show w.heap.size ≤ g12 by have := hb8s.out; omega) #[i64 X.err, i64 X.hav, i64 X.set_, i64 X.num]
            refine hK.out _ _ (⟨cell_of_row _ g8 0 _ _ (0, 0) ho, cell_of_row _ g8 1 _ _ (0, 0) ho, cell_of_row _ g8 2 _ _ (0, 0) ho, cell_of_row _ g8 3 _ _ (0, 0) ho, cell_of_row _ g8 4 _ _ (0, 0) ho, cell_of_row _ g8 5 _ _ (0, 0) ho, cell_of_row _ g8 6 _ _ (0, 0) ho, cell_of_row _ g8 7 _ _ (0, 0) ho, cell_of_row _ g8 8 _ _ (0, 0) ho, cell_of_row _ g8 9 _ _ (0, 0) ho⟩) (fun hH => ?_)
            clear hK K
            try simp only [Act.put, List.getElem_toArray, List.getElem_cons_zero, List.getElem_cons_succ]
            refine wpAnyL_last (by kernel_rfl) rfl (fun K hK => ?_)
            refine wp_store_row 59 (.tmp 13) (.tmp 45) rfl g13 #[i64 6, i64 0, i64 0, i64 0] (by rw [Hi13.out] <;> rfl) rfl 59 #[i64 0, i64 0, i64 0, i64 0] h13 (by kernel_rfl) rfl (by simp [Value.oneCell']) ?_
            refine hK.out _ _ ?_
            clear hK K
            try simp only [Act.put, List.getElem_toArray, List.getElem_cons_zero, List.getElem_cons_succ]
            have hB := hB.row (g := g13) (fun j hj e => by have := Hlt.out j hj; have := Hw8.out; omega) #[i64 6, i64 0, i64 0, i64 0]
            have hC := hC.row (g := g13) (fun j hj e => by have := Hno2.out j hj; have := Hw8.out; omega) #[i64 6, i64 0, i64 0, i64 0]
            have hg := (setRow_other _ g13 g6 #[i64 6, i64 0, i64 0, i64 0] (by have := Hw8.out; omega)).trans hg
            have ho := (setRow_other _ g13 g8 #[i64 6, i64 0, i64 0, i64 0] (by omega)).trans ho
            have h12 := (setRow_other _ g13 g12 #[i64 6, i64 0, i64 0, i64 0] (by omega)).trans h12
            have h13 := setRow_heap _ g13 _ #[i64 6, i64 0, i64 0, i64 0] _ _ h13
            have hb := below_setRow hb (show w.heap.size ≤ g13 by have := hb8s.out; omega) #[i64 6, i64 0, i64 0, i64 0]
            refine wpAnyL_done (by kernel_rfl) ?_ _
            refine NoPanic.normal ?_
            repeat go_step
            go_meet
            exact ⟨g12, g13, by rw [Hi12.out] <;> rfl, by rw [Hi13.out] <;> rfl, h12, h13, hg, hB, hC, hb⟩
          refine AllReadyL.cons rfl (fun K hK => ?_) ?_
          · skip
            go_simp
            have hba := (Below.refl u2.heap.size u2).alloc (Nat.le_refl _) (.cells #[i64 0, i64 0, i64 0, i64 0] 59)
            obtain ⟨g12, hi12, h12⟩ : ∃ j, j = u2.heap.size ∧ (u2.alloc (.cells #[i64 0, i64 0, i64 0, i64 0] 59)).heap[j]? = some (.cells #[i64 0, i64 0, i64 0, i64 0] 59) := ⟨_, rfl, heap_alloc_new _ _⟩
            have hge12 : w8.heap.size ≤ g12 := by rw [hi12]; exact hz
            have hne : g12 ≠ g13 := by have := (Array.getElem?_eq_some_iff.1 h13).1; rw [hi12]; exact Nat.ne_of_gt this
            have Hi12 := Lib.hid hi12
            clear hi12
            have hB := hB.later hba
            have hC := hC.later hba
            have hg := row_later hg hba
            have ho := row_later ho hba
            have h13 := row_later h13 hba
            have hb := hb.trans (hba.mono hb.size)
            have hz := Nat.le_trans hz hba.size
            clear hba
            generalize hU : u2.alloc (.cells #[i64 0, i64 0, i64 0, i64 0] 59) = u3 at *
            clear hU
            refine hK.out _ _ (⟨cell_of_row _ g8 0 _ _ (0, 0) ho, cell_of_row _ g8 1 _ _ (0, 0) ho, cell_of_row _ g8 2 _ _ (0, 0) ho, cell_of_row _ g8 3 _ _ (0, 0) ho, cell_of_row _ g8 4 _ _ (0, 0) ho, cell_of_row _ g8 5 _ _ (0, 0) ho, cell_of_row _ g8 6 _ _ (0, 0) ho, cell_of_row _ g8 7 _ _ (0, 0) ho, cell_of_row _ g8 8 _ _ (0, 0) ho, cell_of_row _ g8 9 _ _ (0, 0) ho⟩) (fun hH => ?_)
            clear hK K
            try simp only [Act.put, List.getElem_toArray, List.getElem_cons_zero, List.getElem_cons_succ, List.setIfInBounds_toArray, List.set_cons_zero, List.set_cons_succ]
            refine wpAnyL_one (i := 5) (by kernel_rfl) rfl (by decide) (fun K hK => ?_)
            go_simp
            refine (HD2.out _ hB).mono ?_
            rintro e u4 ⟨rfl, hB, hG⟩
            have hC := hC.kept hG Hnc.out
            have hg := row_kept hg hG Hn6.out
            have ho := row_kept ho hG Hno.out
            have h12 := row_kept h12 hG (fun k hk e => by have := Hlt.out k hk; have := Hw8.out; omega)
            have h13 := row_kept h13 hG (fun k hk e => by have := Hlt.out k hk; have := Hw8.out; omega)
            have hb := hb.trans (BkA.own_below hG hb.size Hge.out)
            have hz := Nat.le_trans hz hG.size
            clear hG
            refine hK.out _ _ (⟨cell_of_row _ g8 0 _ _ (0, 0) ho, cell_of_row _ g8 1 _ _ (0, 0) ho, cell_of_row _ g8 2 _ _ (0, 0) ho, cell_of_row _ g8 3 _ _ (0, 0) ho, cell_of_row _ g8 4 _ _ (0, 0) ho, cell_of_row _ g8 5 _ _ (0, 0) ho, cell_of_row _ g8 6 _ _ (0, 0) ho, cell_of_row _ g8 7 _ _ (0, 0) ho, cell_of_row _ g8 8 _ _ (0, 0) ho, cell_of_row _ g8 9 _ _ (0, 0) ho⟩) (fun hH => ?_)
            clear hK K
            try simp only [Act.put, List.getElem_toArray, List.getElem_cons_zero, List.getElem_cons_succ, List.setIfInBounds_toArray, List.set_cons_zero, List.set_cons_succ]
            refine wpAnyL_one (i := 8) (by kernel_rfl) rfl (by decide) (fun K hK => ?_)
            refine wp_store_row 59 (.tmp 12) (.tmp 42) rfl g12 #[i64 X.err, i64 X.hav, i64 X.set_, i64 X.num] (by rw [Hi12.out] <;> rfl) rfl 59 #[i64 0, i64 0, i64 0, i64 0] h12 (by kernel_rfl) rfl (by simp [Value.oneCell']) ?_
            have hB := hB.row (g := g12) (fun j hj e => by have := Hlt.out j hj; have := Hw8.out; omega) #[i64 X.err, i64 X.hav, i64 X.set_, i64 X.num]
            have hC := hC.row (g := g12) (fun j hj e => by have := Hno2.out j hj; have := Hw8.out; omega) #[i64 X.err, i64 X.hav, i64 X.set_, i64 X.num]
            have hg := (setRow_other _ g12 g6 #[i64 X.err, i64 X.hav, i64 X.set_, i64 X.num] (by have := Hw8.out; omega)).trans hg
            have ho := (setRow_other _ g12 g8 #[i64 X.err, i64 X.hav, i64 X.set_, i64 X.num] (by omega)).trans ho
            have h13 := (setRow_other _ g12 g13 #[i64 X.err, i64 X.hav, i64 X.set_, i64 X.num] (by omega)).trans h13
            have h12 := setRow_heap _ g12 _ #[i64 X.err, i64 X.hav, i64 X.set_, i64 X.num] _ _ h12
            have hb := below_setRow hb (show w.heap.size ≤ g12 by have := hb8s.out; omega) #[i64 X.err, i64 X.hav, i64 X.set_, i64 X.num]
            refine hK.out _ _ (⟨cell_of_row _ g8 0 _ _ (0, 0) ho, cell_of_row _ g8 1 _ _ (0, 0) ho, cell_of_row _ g8 2 _ _ (0, 0) ho, cell_of_row _ g8 3 _ _ (0, 0) ho, cell_of_row _ g8 4 _ _ (0, 0) ho, cell_of_row _ g8 5 _ _ (0, 0) ho, cell_of_row _ g8 6 _ _ (0, 0) ho, cell_of_row _ g8 7 _ _ (0, 0) ho, cell_of_row _ g8 8 _ _ (0, 0) ho, cell_of_row _ g8 9 _ _ (0, 0) ho⟩) (fun hH => ?_)
            clear hK K
            try simp only [Act.put, List.getElem_toArray, List.getElem_cons_zero, List.getElem_cons_succ]
            refine wpAnyL_last (by kernel_rfl) rfl (fun K hK => ?_)
            refine wp_store_row 59 (.tmp 13) (.tmp 45) rfl g13 #[i64 6, i64 0, i64 0, i64 0] (by rw [Hi13.out] <;> rfl) rfl 59 #[i64 0, i64 0, i64 0, i64 0] h13 (by kernel_rfl) rfl (by simp [Value.oneCell']) ?_
            refine hK.out _ _ ?_
            clear hK K
            try simp only [Act.put, List.getElem_toArray, List.getElem_cons_zero, List.getElem_cons_succ]
            have hB := hB.row (g := g13) (fun j hj e => by have := Hlt.out j hj; have := Hw8.out; omega) #[i64 6, i64 0, i64 0, i64 0]
            have hC := hC.row (g := g13) (fun j hj e => by have := Hno2.out j hj; have := Hw8.out; omega) #[i64 6, i64 0, i64 0, i64 0]
            have hg := (setRow_other _ g13 g6 #[i64 6, i64 0, i64 0, i64 0] (by have := Hw8.out; omega)).trans hg
            have ho := (setRow_other _ g13 g8 #[i64 6, i64 0, i64 0, i64 0] (by omega)).trans ho
            have h12 := (setRow_other _ g13 g12 #[i64 6, i64 0, i64 0, i64 0] (by omega)).trans h12
            have h13 := setRow_heap _ g13 _ #[i64 6, i64 0, i64 0, i64 0] _ _ h13
            have hb := below_setRow hb (show w.heap.size ≤ g13 by have := hb8s.out; omega) #[i64 6, i64 0, i64 0, i64 0]
            refine wpAnyL_done (by kernel_rfl) ?_ _
            refine NoPanic.normal ?_
            repeat go_step
            go_meet
            exact ⟨g12, g13, by rw [Hi12.out] <;> rfl, by rw [Hi13.out] <;> rfl, h12, h13, hg, hB, hC, hb⟩
          exact AllReadyL.nil
        refine AllReadyL.cons rfl (fun K hK => ?_) ?_
        · skip
          go_simp
          have hba := (Below.refl u1.heap.size u1).alloc (Nat.le_refl _) (.cells #[i64 0, i64 0, i64 0, i64 0] 59)
          obtain ⟨g12, hi12, h12⟩ : ∃ j, j = u1.heap.size ∧ (u1.alloc (.cells #[i64 0, i64 0, i64 0, i64 0] 59)).heap[j]? = some (.cells #[i64 0, i64 0, i64 0, i64 0] 59) := ⟨_, rfl, heap_alloc_new _ _⟩
          have hge12 : w8.heap.size ≤ g12 := by rw [hi12]; exact hz
          have hne : g12 ≠ g13 := by have := (Array.getElem?_eq_some_iff.1 h13).1; rw [hi12]; exact Nat.ne_of_gt this
          have Hi12 := Lib.hid hi12
          clear hi12
          have hB := hB.later hba
          have hC := hC.later hba
          have hg := row_later hg hba
          have ho := row_later ho hba
          have h13 := row_later h13 hba
          have hb := hb.trans (hba.mono hb.size)
          have hz := Nat.le_trans hz hba.size
          clear hba
          generalize hU : u1.alloc (.cells #[i64 0, i64 0, i64 0, i64 0] 59) = u2 at *
          clear hU
          refine hK.out _ _ (⟨cell_of_row _ g8 0 _ _ (0, 0) ho, cell_of_row _ g8 1 _ _ (0, 0) ho, cell_of_row _ g8 2 _ _ (0, 0) ho, cell_of_row _ g8 3 _ _ (0, 0) ho, cell_of_row _ g8 4 _ _ (0, 0) ho, cell_of_row _ g8 5 _ _ (0, 0) ho, cell_of_row _ g8 6 _ _ (0, 0) ho, cell_of_row _ g8 7 _ _ (0, 0) ho, cell_of_row _ g8 8 _ _ (0, 0) ho, cell_of_row _ g8 9 _ _ (0, 0) ho⟩) (fun hH => ?_)
          clear hK K
          try simp only [Act.put, List.getElem_toArray, List.getElem_cons_zero, List.getElem_cons_succ, List.setIfInBounds_toArray, List.set_cons_zero, List.set_cons_succ]
          refine wpAnyL_one (i := 2) (by kernel_rfl) rfl (by decide) (fun K hK => ?_)
          go_simp
          refine (HD1.out _ hB).mono ?_
          rintro e u3 ⟨rfl, hB, hG⟩
          have hC := hC.kept hG Hnc.out
          have hg := row_kept hg hG Hn6.out
          have ho := row_kept ho hG Hno.out
          have h12 := row_kept h12 hG (fun k hk e => by have := Hlt.out k hk; have := Hw8.out; omega)
          have h13 := row_kept h13 hG (fun k hk e => by have := Hlt.out k hk; have := Hw8.out; omega)
          have hb := hb.trans (BkA.own_below hG hb.size Hge.out)
          have hz := Nat.le_trans hz hG.size
          clear hG
          refine hK.out _ _ (⟨cell_of_row _ g8 0 _ _ (0, 0) ho, cell_of_row _ g8 1 _ _ (0, 0) ho, cell_of_row _ g8 2 _ _ (0, 0) ho, cell_of_row _ g8 3 _ _ (0, 0) ho, cell_of_row _ g8 4 _ _ (0, 0) ho, cell_of_row _ g8 5 _ _ (0, 0) ho, cell_of_row _ g8 6 _ _ (0, 0) ho, cell_of_row _ g8 7 _ _ (0, 0) ho, cell_of_row _ g8 8 _ _ (0, 0) ho, cell_of_row _ g8 9 _ _ (0, 0) ho⟩) (fun hH => ?_)
          clear hK K
          try simp only [Act.put, List.getElem_toArray, List.getElem_cons_zero, List.getElem_cons_succ, List.setIfInBounds_toArray, List.set_cons_zero, List.set_cons_succ]
          refine wpAnyL_one (i := 5) (by kernel_rfl) rfl (by decide) (fun K hK => ?_)
          go_simp
          refine (HD2.out _ hB).mono ?_
          rintro e u4 ⟨rfl, hB, hG⟩
          have hC := hC.kept hG Hnc.out
          have hg := row_kept hg hG Hn6.out
          have ho := row_kept ho hG Hno.out
          have h12 := row_kept h12 hG (fun k hk e => by have := Hlt.out k hk; have := Hw8.out; omega)
          have h13 := row_kept h13 hG (fun k hk e => by have := Hlt.out k hk; have := Hw8.out; omega)
          have hb := hb.trans (BkA.own_below hG hb.size Hge.out)
          have hz := Nat.le_trans hz hG.size
          clear hG
          refine hK.out _ _ (⟨cell_of_row _ g8 0 _ _ (0, 0) ho, cell_of_row _ g8 1 _ _ (0, 0) ho, cell_of_row _ g8 2 _ _ (0, 0) ho, cell_of_row _ g8 3 _ _ (0, 0) ho, cell_of_row _ g8 4 _ _ (0, 0) ho, cell_of_row _ g8 5 _ _ (0, 0) ho, cell_of_row _ g8 6 _ _ (0, 0) ho, cell_of_row _ g8 7 _ _ (0, 0) ho, cell_of_row _ g8 8 _ _ (0, 0) ho, cell_of_row _ g8 9 _ _ (0, 0) ho⟩) (fun hH => ?_)
          clear hK K
          try simp only [Act.put, List.getElem_toArray, List.getElem_cons_zero, List.getElem_cons_succ, List.setIfInBounds_toArray, List.set_cons_zero, List.set_cons_succ]
          refine wpAnyL_one (i := 8) (by kernel_rfl) rfl (by decide) (fun K hK => ?_)
          refine wp_store_row 59 (.tmp 12) (.tmp 42) rfl g12 #[i64 X.err, i64 X.hav, i64 X.set_, i64 X.num] (by rw [Hi12.out] <;> rfl) rfl 59 #[i64 0, i64 0, i64 0, i64 0] h12 (by kernel_rfl) rfl (by simp [Value.oneCell']) ?_
          have hB := hB.row (g := g12) (fun j hj e => by have := Hlt.out j hj; have := Hw8.out; omega) #[i64 X.err, i64 X.hav, i64 X.set_, i64 X.num]
          have hC := hC.row (g := g12) (fun j hj e => by have := Hno2.out j hj; have := Hw8.out; omega) #[i64 X.err, i64 X.hav, i64 X.set_, i64 X.num]
          have hg := (setRow_other _ g12 g6 #[i64 X.err, i64 X.hav, i64 X.set_, i64 X.num] (by have := Hw8.out; omega)).trans hg
          have ho := (setRow_other _ g12 g8 #[i64 X.err, i64 X.hav, i64 X.set_, i64 X.num] (by omega)).trans ho
          have h13 := (setRow_other _ g12 g13 #[i64 X.err, i64 X.hav, i64 X.set_, i64 X.num] (by omega)).trans h13
          have h12 := setRow_heap _ g12 _ #[i64 X.err, i64 X.hav, i64 X.set_, i64 X.num] _ _ h12
          have hb := below_setRow hb (show w.heap.size ≤ g12 by have := hb8s.out; omega) #[i64 X.err, i64 X.hav, i64 X.set_, i64 X.num]
          refine hK.out _ _ (⟨cell_of_row _ g8 0 _ _ (0, 0) ho, cell_of_row _ g8 1 _ _ (0, 0) ho, cell_of_row _ g8 2 _ _ (0, 0) ho, cell_of_row _ g8 3 _ _ (0, 0) ho, cell_of_row _ g8 4 _ _ (0, 0) ho, cell_of_row _ g8 5 _ _ (0, 0) ho, cell_of_row _ g8 6 _ _ (0, 0) ho, cell_of_row _ g8 7 _ _ (0, 0) ho, cell_of_row _ g8 8 _ _ (0, 0) ho, cell_of_row _ g8 9 _ _ (0, 0) ho⟩) (fun hH => ?_)
          clear hK K
          try simp only [Act.put, List.getElem_toArray, List.getElem_cons_zero, List.getElem_cons_succ]
          refine wpAnyL_last (by kernel_rfl) rfl (fun K hK => ?_)
          refine wp_store_row 59 (.tmp 13) (.tmp 45) rfl g13 #[i64 6, i64 0, i64 0, i64 0] (by rw [Hi13.out] <;> rfl) rfl 59 #[i64 0, i64 0, i64 0, i64 0] h13 (by kernel_rfl) rfl (by simp [Value.oneCell']) ?_
          refine hK.out _ _ ?_
          clear hK K
          try simp only [Act.put, List.getElem_toArray, List.getElem_cons_zero, List.getElem_cons_succ]
          have hB := hB.row (g := g13) (fun j hj e => by have := Hlt.out j hj; have := Hw8.out; omega) #[i64 6, i64 0, i64 0, i64 0]
          have hC := hC.row (g := g13) (fun j hj e => by have := Hno2.out j hj; have := Hw8.out; omega) #[i64 6, i64 0, i64 0, i64 0]
          have hg := (setRow_other _ g13 g6 #[i64 6, i64 0, i64 0, i64 0] (by have := Hw8.out; omega)).trans hg
          have ho := (setRow_other _ g13 g8 #[i64 6, i64 0, i64 0, i64 0] (by omega)).trans ho
          have h12 := (setRow_other _ g13 g12 #[i64 6, i64 0, i64 0, i64 0] (by omega)).trans h12
          have h13 := setRow_heap _ g13 _ #[i64 6, i64 0, i64 0, i64 0] _ _ h13
          have hb := below_setRow hb (show w.heap.size ≤ g13 by have := hb8s.out; omega) #[i64 6, i64 0, i64 0, i64 0]
          refine wpAnyL_done (by kernel_rfl) ?_ _
          refine NoPanic.normal ?_
          repeat go_step
          go_meet
          exact ⟨g12, g13, by rw [Hi12.out] <;> rfl, by rw [Hi13.out] <;> rfl, h12, h13, hg, hB, hC, hb⟩
        exact AllReadyL.nil
      exact AllReadyL.nil
    case rest =>
    obtain ⟨g12, g13, rfl, rfl, h12, h13, hg, hB, hC, hb⟩ := hcut
    have r2 := cell_of_row _ g6 2 _ _ (0, 0) hg
    have r3 := cell_of_row _ g6 3 _ _ (0, 0) hg
    have x0 := cell_of_row _ g12 0 _ _ (0, 0) h12
    have x2 := cell_of_row _ g12 2 _ _ (0, 0) h12
    have y0 := cell_of_row _ g13 0 _ _ (0, 0) h13
    simp only [List.getElem?_toArray, List.getElem?_cons_zero, List.getElem?_cons_succ] at r2 r3 x0 x2 y0
    rw [Hp1.out] at r3
    obtain ⟨p2, p3, p4, p5, p6⟩ := Hp.out
    have g3 : decide (s ≤ R.set_) = true := decide_eq_true p2
    have g4 : (X.err == 0) = true := by rw [p4]; rfl
    have hw : IntKind.i64.wrap (R.set_ - s) = R.set_ - s := by rw [IntKind.wrap_i64]; unfold R64 at p3; omega
    have hw2 : wrap64 (R.set_ - s) = R.set_ - s := by rw [← IntWalk.i64_left]; exact hw
    have g5 : (X.set_ == R.set_ - s) = true := by rw [p5]; simp
    have HS := Lib.hid (bsame_c c a B B wc hC hB HI.out HI.out)
    rw [sameBk_refl] at HS
    clear p2 p3 p4 p5 p6 hC hB h12 h13 hg
    go_wp2_with fail
    refine HS.out.mono ?_
    rintro e wy ⟨rfl, hF⟩
    have hby := below_on hb (Nat.le_refl _) hF
    clear hF HS hb
    go_wp2
    go_ret
    exact ⟨rfl, hby⟩
  · have g1 : (R.err != 0) = true := by simpa using he
    have hBB := HE.out he
    subst hBB
    have HS := Lib.hid (bsame_c c a B2 B2 _ hC7 hB7 HI.out HI.out)
    rw [sameBk_refl] at HS
    clear he HP HE r2 r3 hC7 hB7 hg6
    go_wp2_with fail
    refine HS.out.mono ?_
    rintro e w8 ⟨rfl, hF⟩
    have hb8 := below_on hb7 (Nat.le_refl _) hF
    clear hF HS hb7
    go_wp2
    go_ret
    exact ⟨rfl, hb8⟩
end Go.Proofs.YtmljlkjomjflpaaGreat
