/- audit: Errors -/
import Derived.Test.YtgholbeehkfbiaaGreatRows
import Derived.Test.YtgholbeehkfbiaaGreatBpAuC
import Derived.Test.YtgholbeehkfbiaaGreatBpAuE
import Derived.Test.YtgholbeehkfbiaaGreatBm20
import Derived.Test.YtgholbeehkfbiaaGreatBm15
import Derived.WalkKit
import Derived.WalkSpells
import Derived.WalkLawsBesides
import Derived.Deep.QuietTactic
import Derived.BigQuiet
import Derived.Laws.StructEq
import Derived.Deep.DeepFit
import Derived.StillTailTactics
namespace Go.Proofs.YtgholbeehkfbiaaGreat
open Go.RowKit
theorem list15 : ∀ {l : List Int}, l.length = 15 → ∃ a0 a1 a2 a3 a4 a5 a6 a7 a8 a9 a10 a11 a12 a13 a14, l = [a0, a1, a2, a3, a4, a5, a6, a7, a8, a9, a10, a11, a12, a13, a14]
  | [a0, a1, a2, a3, a4, a5, a6, a7, a8, a9, a10, a11, a12, a13, a14], _ => ⟨a0, a1, a2, a3, a4, a5, a6, a7, a8, a9, a10, a11, a12, a13, a14, rfl⟩
set_option maxRecDepth 100000 in
set_option maxHeartbeats 8000000 in
theorem aerrors_c (A : Option Addr) (c : Nat) (l : List Od) (w : World) (h : Sl w w.heap.size A c l) (hx : ∀ x ∈ l, OdB x) (hl : ∀ x ∈ l, x.legs.length ≤ 65536) (hn : l.length ≤ 60000) :
    Calls Tryz.prog 45 #[.slice A l.length c] w fun e w' => e = .returned (.agg ((errsL (toldL bk0 l)).map fun n => i64 n).toArray) ∧ Below w.heap.size w w' := by
  have hlc : l.length ≤ c := h.1
  have hb1 := (Below.refl w.heap.size w).alloc (Nat.le_refl _) (.cells #[i64 0, i64 0, i64 0, i64 0, i64 0, i64 0, i64 0, i64 0, i64 0, i64 0, i64 0, i64 0, i64 0, i64 0, i64 0] 82)
  have hb2 := hb1.alloc hb1.size (.cells #[i64 0, i64 0, i64 0, i64 0, i64 0, i64 0, i64 0, i64 0, i64 0, i64 0, i64 0, i64 0, i64 0, i64 0, i64 0] 82)
  have HN := Lib.hid (bfold_c A c l _ (h.later hb2) hx hl hn)
  have Hn0 := Lib.hid (heap_alloc2_new w (.cells #[i64 0, i64 0, i64 0, i64 0, i64 0, i64 0, i64 0, i64 0, i64 0, i64 0, i64 0, i64 0, i64 0, i64 0, i64 0] 82) (.cells #[i64 0, i64 0, i64 0, i64 0, i64 0, i64 0, i64 0, i64 0, i64 0, i64 0, i64 0, i64 0, i64 0, i64 0, i64 0] 82))
  have Ho0 := Lib.hid (heap_alloc2_old w (.cells #[i64 0, i64 0, i64 0, i64 0, i64 0, i64 0, i64 0, i64 0, i64 0, i64 0, i64 0, i64 0, i64 0, i64 0, i64 0] 82) (.cells #[i64 0, i64 0, i64 0, i64 0, i64 0, i64 0, i64 0, i64 0, i64 0, i64 0, i64 0, i64 0, i64 0, i64 0, i64 0] 82))
  have hz2 : ((w.alloc (.cells #[i64 0, i64 0, i64 0, i64 0, i64 0, i64 0, i64 0, i64 0, i64 0, i64 0, i64 0, i64 0, i64 0, i64 0, i64 0] 82)).alloc (.cells #[i64 0, i64 0, i64 0, i64 0, i64 0, i64 0, i64 0, i64 0, i64 0, i64 0, i64 0, i64 0, i64 0, i64 0, i64 0] 82)).heap.size = w.heap.size + 2 := by simp
  have HE := Lib.hid (toldL_errN l bk0)
  have HLr := Lib.hid (toldL_len l bk0)
  have Hb2 := Lib.hid hb2
  clear h hx hl hb1 hb2
  generalize toldL bk0 l = R at *
  go_enter Tryz.func45, Tryz.ntmps45
  go_wp2_with fail
  generalize (w.alloc (.cells #[i64 0, i64 0, i64 0, i64 0, i64 0, i64 0, i64 0, i64 0, i64 0, i64 0, i64 0, i64 0, i64 0, i64 0, i64 0] 82)).alloc (.cells #[i64 0, i64 0, i64 0, i64 0, i64 0, i64 0, i64 0, i64 0, i64 0, i64 0, i64 0, i64 0, i64 0, i64 0, i64 0] 82) = w0 at *
  refine HN.out.mono ?_
  rintro e w1 ⟨a, vt, B0, rfl, -, -, hOt, hB0, -, hF⟩
  have hRn : R.length ≤ 60000 := by have := HLr.out; omega
  obtain ⟨At, ct, rfl, hst⟩ := hOt.sl_at (S := fun b => b < w1.heap.size ∧ b ≠ w.heap.size + 1) (fun b e => ⟨(hOt.1.lt b e).2, fun e2 => by have := (hOt.1.lt b e).1; omega⟩) (fun y hy => trivial)
  have hct : R.length ≤ ct := hst.1
  have hw1 := hF.size
  have Hst := Lib.hid hst
  have Hg1 := Lib.hid ((hF.block (w.heap.size + 1) (by omega)).trans Hn0.out)
  have Ho1 := Lib.hid ((hF.block w.heap.size (by omega)).trans Ho0.out)
  have Hb1 := Lib.hid (below_on Hb2.out (by omega) hF)
  clear HN hOt hst hF Hn0 Ho0 Hb2 HLr hB0
  go_wp2_with fail
  go_loopw [15] (fun i wr => ∃ k : Nat, i = i64 k ∧ k ≤ R.length ∧ wr.heap[w.heap.size + 1]? = some (.cells ((errsL (R.take k)).map fun n => i64 n).toArray 82 (0, 0)) ∧ Gr w1 wr (fun j => j = w.heap.size + 1)) (fun i _ => R.length - (intOf i).toNat)
  case atStart => exact ⟨0, rfl, Nat.zero_le _, by rw [List.take_zero, errsL_nil]; exact Hg1.out, Gr.refl _ _⟩
  case round =>
    obtain ⟨k, rfl, hk, hg, hG⟩ := hrel
    have hwz := hG.size
    by_cases hlt : k < R.length
    · have g1 : decide ((k : Int) < (R.length : Int)) = true := decide_eq_true (by omega)
      have g2 : decide (k < R.length) = true := decide_eq_true hlt
      have i0 : (0 : Int) ≤ (k : Int) := by omega
      have i1 : (k : Int) < (R.length : Int) := by omega
      obtain ⟨bt, ot, rfl, hbt, r0, r1, r2, r3⟩ := (Hst.out.grs hG (fun b hb => hb)).rp hlt
      have hre := HE.out R[k] (List.getElem_mem hlt)
      obtain ⟨e, he⟩ : ∃ e : Nat, R[k].err = (e : Int) := ⟨R[k].err.toNat, by have := hre.1; omega⟩
      have he15 : e < 15 := by have := hre.2; omega
      have Hs := Lib.hid (show errsL (R.take (k + 1)) = (errsL (R.take k)).set e (cntE (R.take k) e + 1) by rw [List.take_succ_eq_append_getElem hlt, errsL_snoc _ _ he15 he])
      have hcn := cntE_range (R.take k) e
      have hlk : (R.take k).length ≤ 60000 := by rw [List.length_take]; omega
      have hge := errsL_get (R.take k) he15
      have hle := errsL_len (R.take k)
      have d0 : wr.cell? ⟨w.heap.size + 1, e, none⟩ = some (i64 (cntE (R.take k) e)) := by
        rw [cell_of_row _ _ e _ _ (0, 0) hg, List.getElem?_toArray, List.getElem?_map, List.getElem?_eq_getElem (by omega), hge]; rfl
      generalize cntE (R.take k) e = cn at *
      have hcr : 0 ≤ cn ∧ cn ≤ 60000 := by omega
      have hlen : ((errsL (R.take k)).map fun n => i64 n).toArray.size = 15 := by simp [hle]
      have Hset : Hid (((errsL (R.take k)).map fun n => i64 n).toArray.setIfInBounds e (i64 (cn + 1)) = ((errsL (R.take (k + 1))).map fun n => i64 n).toArray) := Lib.hid (by rw [Hs.out]; simp [List.map_set])
      generalize ((errsL (R.take k)).map fun n => i64 n).toArray = arr at *
      obtain ⟨r, hrk⟩ : ∃ r, R[k] = r := ⟨_, rfl⟩
      simp only [hrk] at r0 r1 r2 r3 he
      rw [he] at r0
      have hba := (Below.refl wr.heap.size wr).alloc (Nat.le_refl _) (.cells #[i64 (e : Int), i64 r.hav, i64 r.set_, i64 r.num] 31)
      have hq0 := heap_alloc_new wr (.cells #[i64 (e : Int), i64 r.hav, i64 r.set_, i64 r.num] 31)
      have s0 := cell_of_row _ wr.heap.size 0 _ _ (0, 0) hq0
      simp only [List.getElem?_toArray, List.getElem?_cons_zero] at s0
      have d1 := (hba.cell (p := ⟨w.heap.size + 1, e, none⟩) (show w.heap.size + 1 < wr.heap.size by omega)).trans d0
      have hg2 := (hba.block (w.heap.size + 1) (by omega)).trans hg
      have hG2 := hG.more hba
      have x1 : IntKind.i64.wrap (cn + 1) = cn + 1 := by rw [IntKind.wrap_i64]; omega
      have x2 : wrap64 (cn + 1) = cn + 1 := by rw [← IntWalk.i64_left]; exact x1
      have X1 := Lib.hid x1
      have i2 : (0 : Int) ≤ (e : Int) := by omega
      have i3 : (e : Int) < 15 := by omega
      have Hg2 := Lib.hid hg2
      have HG2 := Lib.hid hG2
      have Hlen := Lib.hid hlen
      clear hrk hre he hg hG hba hq0 d0 hg2 hG2 hge hle hlen hcn hlk x1 Hs
      go_wp2_with (refine wpList_store_arr rfl none (.tmp 24) (.tmp 23) 3 rfl rfl (by kernel_rfl) (w.heap.size + 1) e arr (i64 (cn + 1)) Hg2.out (by rw [Hlen.out]; exact he15) (by first | rfl | simp) (by first | rfl | simp [x2]) rfl ?_; intro w4 hg4 hgr4)
      rw [Hset.out] at hg4
      have HG4 := Lib.hid (HG2.out.after ((Gr.of_grown hgr4).mono fun j _ e => by injection e with e; exact e.symm))
      clear hgr4
      go_roundw
      case rel => exact ⟨k + 1, by go_num, by omega, hg4, HG4.out⟩
      case measure => simp [intOf]; omega
    · obtain rfl : k = R.length := by omega
      have g1 : decide ((R.length : Int) < (R.length : Int)) = false := decide_eq_false (by omega)
      rw [List.take_length] at hg
      have ho := (hG.block w.heap.size (by omega) (by omega)).trans Ho1.out
      obtain ⟨a0, a1, a2, a3, a4, a5, a6, a7, a8, a9, a10, a11, a12, a13, a14, hE⟩ := list15 (errsL_len R)
      rw [hE] at hg
      have HE2 := Lib.hid hE
      simp only [List.map_cons, List.map_nil] at hg
      have k0 := cell_of_row _ (w.heap.size + 1) 0 _ _ (0, 0) hg
      have k1 := cell_of_row _ (w.heap.size + 1) 1 _ _ (0, 0) hg
      have k2 := cell_of_row _ (w.heap.size + 1) 2 _ _ (0, 0) hg
      have k3 := cell_of_row _ (w.heap.size + 1) 3 _ _ (0, 0) hg
      have k4 := cell_of_row _ (w.heap.size + 1) 4 _ _ (0, 0) hg
      have k5 := cell_of_row _ (w.heap.size + 1) 5 _ _ (0, 0) hg
      have k6 := cell_of_row _ (w.heap.size + 1) 6 _ _ (0, 0) hg
      have k7 := cell_of_row _ (w.heap.size + 1) 7 _ _ (0, 0) hg
      have k8 := cell_of_row _ (w.heap.size + 1) 8 _ _ (0, 0) hg
      have k9 := cell_of_row _ (w.heap.size + 1) 9 _ _ (0, 0) hg
      have k10 := cell_of_row _ (w.heap.size + 1) 10 _ _ (0, 0) hg
      have k11 := cell_of_row _ (w.heap.size + 1) 11 _ _ (0, 0) hg
      have k12 := cell_of_row _ (w.heap.size + 1) 12 _ _ (0, 0) hg
      have k13 := cell_of_row _ (w.heap.size + 1) 13 _ _ (0, 0) hg
      have k14 := cell_of_row _ (w.heap.size + 1) 14 _ _ (0, 0) hg
      simp only [List.getElem?_toArray, List.getElem?_cons_zero, List.getElem?_cons_succ] at k0 k1 k2 k3 k4 k5 k6 k7 k8 k9 k10 k11 k12 k13 k14
      have HG := Lib.hid (hG.below (B := w.heap.size) (by omega) (fun j e => by omega))
      clear hE hG
      have hrow := setRow_heap wr w.heap.size _ #[i64 a0, i64 a1, i64 a2, i64 a3, i64 a4, i64 a5, i64 a6, i64 a7, i64 a8, i64 a9, i64 a10, i64 a11, i64 a12, i64 a13, i64 a14] _ _ ho
      have hbr : Below w.heap.size w (wr.setRow w.heap.size #[i64 a0, i64 a1, i64 a2, i64 a3, i64 a4, i64 a5, i64 a6, i64 a7, i64 a8, i64 a9, i64 a10, i64 a11, i64 a12, i64 a13, i64 a14]) := (Hb1.out.trans HG.out).trans ((gr_setRow wr w.heap.size #[i64 a0, i64 a1, i64 a2, i64 a3, i64 a4, i64 a5, i64 a6, i64 a7, i64 a8, i64 a9, i64 a10, i64 a11, i64 a12, i64 a13, i64 a14]).below (by omega) (fun j e => by omega))
      go_wp2_with (refine wpList_store_row rfl 82 (.tmp 2) (.tmp 26) rfl w.heap.size #[i64 a0, i64 a1, i64 a2, i64 a3, i64 a4, i64 a5, i64 a6, i64 a7, i64 a8, i64 a9, i64 a10, i64 a11, i64 a12, i64 a13, i64 a14] rfl rfl 82 #[i64 0, i64 0, i64 0, i64 0, i64 0, i64 0, i64 0, i64 0, i64 0, i64 0, i64 0, i64 0, i64 0, i64 0, i64 0] ho (by kernel_rfl) rfl (by simp [Value.oneCell']) ?_)
      exact bodyPost_ret (results_cell_row rfl _ _ w.heap.size 82 _ (0, 0) _ rfl hrow Tryz.underlying82 rfl (by kernel_rfl)) rfl ⟨by rw [HE2.out]; rfl, hbr⟩
end Go.Proofs.YtgholbeehkfbiaaGreat
