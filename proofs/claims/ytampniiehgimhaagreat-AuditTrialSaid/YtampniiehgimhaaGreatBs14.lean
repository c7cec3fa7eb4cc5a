/- Texts of this claim, laid together. -/
import Derived.Test.YtampniiehgimhaaGreatRows
import Derived.Test.YtampniiehgimhaaGreatBs3
import Derived.WalkKit
import Derived.WalkSpells
import Derived.WalkLawsBesides
import Derived.Deep.QuietTactic
import Derived.BigQuiet
import Derived.Laws.StructEq
import Derived.Deep.DeepFit
import Derived.StillTailTactics
import Derived.Test.YtampniiehgimhaaGreatBs13
import Derived.Deep.Cut
import Derived.Deep.RegionWith
import Derived.Test.YtampniiehgimhaaGreatBs6
import Derived.Test.YtampniiehgimhaaGreatBs5
import Derived.Test.YtampniiehgimhaaGreatBs1

/- ref05.Name -/
namespace Go.Proofs.YtampniiehgimhaaGreat
open Go.RowKit
set_option maxRecDepth 100000 in
set_option maxHeartbeats 4000000 in
theorem rname_c (s : ByteArray) (hs : s.size ≤ maxLen) (w : World) : Calls Tryz.prog 75 #[.string s] w fun e w' => e = .returned (.bool (nameB s)) ∧ Below w.heap.size w w' := by
 have hs' : s.size ≤ 9223372036854775807 := Nat.le_trans hs (by decide)
 clear hs
 go_enter Tryz.func75, Tryz.ntmps75
 go_wp2_with fail
 go_loopw [3] (fun i wr => ∃ k : Nat, i = i64 k ∧ k ≤ s.size ∧ signTo s k ∧ w = wr) (fun i _ => s.size - (intOf i).toNat)
 case atStart => exact ⟨0, rfl, by omega, fun _ _ h => absurd h (by omega), rfl⟩
 case round =>
  obtain ⟨k, rfl, hk, hst, rfl⟩ := hrel
  have Hst := Lib.hid hst
  clear hst
  by_cases hlt : k < s.size
  ·have i0 : (0 : Int) ≤ (k : Int) := by omega
   have i1 : (k : Int) < (s.size : Int) := by omega
   have hb8 := s[k].toNat_lt
   have HS := Lib.hid (show signB s[k] = (decide (97 ≤ s[k].toNat ∧ s[k].toNat ≤ 122) || decide (48 ≤ s[k].toNat ∧ s[k].toNat ≤ 57)) from rfl)
   by_cases hc : s[k].toNat ≤ 47
   ·have t1 : decide ((97 : Int) ≤ ((s[k].toNat : Nat) : Int)) = false := by rw [decide_eq_false_iff_not]; omega
    have t2 : decide (((s[k].toNat : Nat) : Int) ≤ 122) = true := by rw [decide_eq_true_eq]; omega
    have t3 : decide ((48 : Int) ≤ ((s[k].toNat : Nat) : Int)) = false := by rw [decide_eq_false_iff_not]; omega
    have t4 : decide (((s[k].toNat : Nat) : Int) ≤ 57) = true := by rw [decide_eq_true_eq]; omega
    have Hs := Lib.hid (show signB s[k] = false by rw [HS.out]; simp; omega)
    clear hc HS hb8
    go_wp2
    go_ret
    exact ⟨by rw [nameB_bad hlt Hs.out]; rfl, Below.refl _ _⟩
   by_cases hc : 48 ≤ s[k].toNat ∧ s[k].toNat ≤ 57
   ·have t1 : decide ((97 : Int) ≤ ((s[k].toNat : Nat) : Int)) = false := by rw [decide_eq_false_iff_not]; omega
    have t2 : decide (((s[k].toNat : Nat) : Int) ≤ 122) = true := by rw [decide_eq_true_eq]; omega
    have t3 : decide ((48 : Int) ≤ ((s[k].toNat : Nat) : Int)) = true := by rw [decide_eq_true_eq]; omega
    have t4 : decide (((s[k].toNat : Nat) : Int) ≤ 57) = true := by rw [decide_eq_true_eq]; omega
    have Hs := Lib.hid (show signB s[k] = true by rw [HS.out]; simp; omega)
    clear hc HS hb8
    go_wp2
    go_roundw
    case rel => exact ⟨k + 1, by go_num, by omega, Hst.out.next hlt Hs.out, trivial⟩
    case measure => simp [intOf]; omega
   by_cases hc : 58 ≤ s[k].toNat ∧ s[k].toNat ≤ 96
   ·have t1 : decide ((97 : Int) ≤ ((s[k].toNat : Nat) : Int)) = false := by rw [decide_eq_false_iff_not]; omega
    have t2 : decide (((s[k].toNat : Nat) : Int) ≤ 122) = true := by rw [decide_eq_true_eq]; omega
    have t3 : decide ((48 : Int) ≤ ((s[k].toNat : Nat) : Int)) = true := by rw [decide_eq_true_eq]; omega
    have t4 : decide (((s[k].toNat : Nat) : Int) ≤ 57) = false := by rw [decide_eq_false_iff_not]; omega
    have Hs := Lib.hid (show signB s[k] = false by rw [HS.out]; simp; omega)
    clear hc HS hb8
    go_wp2
    go_ret
    exact ⟨by rw [nameB_bad hlt Hs.out]; rfl, Below.refl _ _⟩
   by_cases hc : 97 ≤ s[k].toNat ∧ s[k].toNat ≤ 122
   ·have t1 : decide ((97 : Int) ≤ ((s[k].toNat : Nat) : Int)) = true := by rw [decide_eq_true_eq]; omega
    have t2 : decide (((s[k].toNat : Nat) : Int) ≤ 122) = true := by rw [decide_eq_true_eq]; omega
    have t3 : decide ((48 : Int) ≤ ((s[k].toNat : Nat) : Int)) = true := by rw [decide_eq_true_eq]; omega
    have t4 : decide (((s[k].toNat : Nat) : Int) ≤ 57) = false := by rw [decide_eq_false_iff_not]; omega
    have Hs := Lib.hid (show signB s[k] = true by rw [HS.out]; simp; omega)
    clear hc HS hb8
    go_wp2
    go_roundw
    case rel => exact ⟨k + 1, by go_num, by omega, Hst.out.next hlt Hs.out, trivial⟩
    case measure => simp [intOf]; omega
   by_cases hc : 123 ≤ s[k].toNat
   ·have t1 : decide ((97 : Int) ≤ ((s[k].toNat : Nat) : Int)) = true := by rw [decide_eq_true_eq]; omega
    have t2 : decide (((s[k].toNat : Nat) : Int) ≤ 122) = false := by rw [decide_eq_false_iff_not]; omega
    have t3 : decide ((48 : Int) ≤ ((s[k].toNat : Nat) : Int)) = true := by rw [decide_eq_true_eq]; omega
    have t4 : decide (((s[k].toNat : Nat) : Int) ≤ 57) = false := by rw [decide_eq_false_iff_not]; omega
    have Hs := Lib.hid (show signB s[k] = false by rw [HS.out]; simp; omega)
    clear hc HS hb8
    go_wp2
    go_ret
    exact ⟨by rw [nameB_bad hlt Hs.out]; rfl, Below.refl _ _⟩
   omega
  ·obtain rfl : k = s.size := by omega
   have hal := Hst.out.all
   have hem : s.toList.isEmpty = decide (s.size = 0) := by
    rw [Bool.eq_iff_iff, List.isEmpty_iff, decide_eq_true_eq, ← List.length_eq_zero_iff]
    rw [ByteArray.toList_eq]
    simp
   have Hs := Lib.hid (show nameB s = (decide (1 ≤ s.size) && decide (s.size ≤ 8)) by unfold nameB; rw [hal, hem, Bool.true_and]; congr 1; rw [Bool.eq_iff_iff]; simp only [Bool.not_eq_true', decide_eq_false_iff_not, decide_eq_true_eq]; omega)
   clear hal hem Hst
   by_cases h1 : 1 ≤ s.size
   ·have t1 : decide ((1 : Int) ≤ (s.size : Int)) = true := decide_eq_true (by omega)
    have H1 := Lib.hid (decide_eq_true h1)
    by_cases h8 : s.size ≤ 8
    ·have t2 : decide ((s.size : Int) ≤ 8) = true := decide_eq_true (by omega)
     have H8 := Lib.hid (decide_eq_true h8)
     clear h1 h8
     go_wp2
     go_ret
     exact ⟨by rw [Hs.out, H1.out, H8.out]; rfl, Below.refl _ _⟩
    ·have t2 : decide ((s.size : Int) ≤ 8) = false := decide_eq_false (by omega)
     have H8 := Lib.hid (decide_eq_false h8)
     clear h1 h8
     go_wp2
     go_ret
     exact ⟨by rw [Hs.out, H1.out, H8.out]; rfl, Below.refl _ _⟩
   ·have t1 : decide ((1 : Int) ≤ (s.size : Int)) = false := decide_eq_false (by omega)
    have H1 := Lib.hid (decide_eq_false h1)
    clear h1
    go_wp2
    go_ret
    exact ⟨by rw [Hs.out, H1.out]; rfl, Below.refl _ _⟩
end Go.Proofs.YtampniiehgimhaaGreat
/- ref01.Total -/
namespace Go.Proofs.YtampniiehgimhaaGreat
open Go.RowKit
theorem set2_row {w : World} {g : Nat} {a b : Value} {t : TypeId} (h : w.heap[g]? = some (.cells #[a, b] t (0, 0))) (x y : Value) : ((w.setCell ⟨g, 0, none⟩ x).setCell ⟨g, 1, none⟩ y).heap[g]? = some (.cells #[x, y] t (0, 0)) := by
 have h1 := heap_setCell_same w g 0 _ _ x h
 have h2 := heap_setCell_same _ g 1 _ _ y h1
 simpa using h2
set_option maxRecDepth 100000 in
set_option maxHeartbeats 4000000 in
theorem rtotal_c (A : Option Addr) (c : Nat) (l : List Int) (w : World) (h : Sl w w.heap.size A c l) (hl : l.length ≤ 1000) (hr : ∀ a ∈ l, R64 a) :
  Calls Tryz.prog 94 #[.slice A l.length c] w fun e w' => e = .returned (.tuple #[i64 (sumR (sumL l)).1, i64 (sumR (sumL l)).2]) ∧ Below w.heap.size w w' := by
 have hb0 := (Below.refl w.heap.size w).alloc (Nat.le_refl _) (.cells #[i64 0, .int .u64 0] 218)
 have hg0 := heap_alloc_new w (.cells #[i64 0, .int .u64 0] 218)
 have hin : ∀ k, RW (sumL (l.take k)) := fun k => by
  have h1 := sumL_in (l.take k) fun a h => hr a (List.mem_of_mem_take h)
  have h2 : (l.take k).length ≤ 1000 := Nat.le_trans (List.length_take_le' ..) hl
  unfold RW
  omega
 have hS := Lib.hid fun W => rsum_c (sumL l) W
 generalize hR : sumR (sumL l) = R at *
 clear hR
 go_enter Tryz.func94, Tryz.ntmps94
 go_wp2_with fail
 go_loopw [5] (fun i wr => ∃ k : Nat, i = i64 k ∧ k ≤ l.length ∧ wr.heap[w.heap.size]? = some (.cells #[i64 (sumL (l.take k) / 18446744073709551616), .int .u64 (sumL (l.take k) % 18446744073709551616)] 218 (0, 0)) ∧ Below w.heap.size w wr) (fun i _ => l.length - (intOf i).toNat)
 case atStart => exact ⟨0, rfl, by omega, hg0, hb0⟩
 case round =>
  obtain ⟨k, rfl, hk, hg, hB⟩ := hrel
  by_cases hlt : k < l.length
  ·have ha := hr l[k] (List.getElem_mem hlt)
   obtain ⟨b, o, rfl, hbb, -, hc⟩ := (h.later hB).at_ hlt
   have d0 := hc 0 _ rfl
   rw [show k * Enc.size Int + 0 = k from Nat.mul_one k] at d0
   have k1 := Lib.hid fun W => of_c l[k] W ha
   have k2 := Lib.hid fun W => plus_c (sumL (l.take k)) l[k] W (hin k) (.of64 ha)
   rw [← sumL_take hlt] at k2
   have i0 : (0 : Int) ≤ (k : Int) := by omega
   have i1 : (k : Int) < (l.length : Int) := by omega
   have m0 := cell_of_row _ w.heap.size 0 _ _ (0, 0) hg
   have m1 := cell_of_row _ w.heap.size 1 _ _ (0, 0) hg
   simp only [List.getElem?_toArray, List.getElem?_cons_zero, List.getElem?_cons_succ] at m0 m1
   have hlg : w.heap.size < wr.heap.size := (Array.getElem?_eq_some_iff.1 hg).1
   have hlc : l.length ≤ c := h.1
   unfold wdV at k2
   have h0 := (Below.refl wr.heap.size wr).drew
   have hB' := hB
   clear hc hin hS hb0 hg0 h
   generalize sumL (l.take k) / 18446744073709551616 = p0 at *
   generalize sumL (l.take k) % 18446744073709551616 = p1 at *
   obtain ⟨q0, e0⟩ : ∃ q, sumL (l.take (k + 1)) / 18446744073709551616 = q := ⟨_, rfl⟩
   obtain ⟨q1, e1⟩ : ∃ q, sumL (l.take (k + 1)) % 18446744073709551616 = q := ⟨_, rfl⟩
   rw [e0, e1] at k2
   have E0 := Lib.hid e0
   have E1 := Lib.hid e1
   clear e0 e1
   go_wp2_with fail
   go_region_with (first
     | (go_at_call 132; with_reducible refine (k1.out _).mono ?_; rintro e u1 ⟨rfl, hF1⟩; have hb1 := below_on h0 (Nat.le_refl _) hF1; have n0 := (hb1.cell (p := ⟨w.heap.size, 0, none⟩) hlg).trans m0; have n1 := (hb1.cell (p := ⟨w.heap.size, 1, none⟩) hlg).trans m1; have hg1 := (hb1.block _ hlg).trans hg; clear hF1)
     | (go_at_call 131; with_reducible refine (k2.out _).mono ?_; rintro e u2 ⟨rfl, hF2⟩; have hb2 := below_on hb1 (Nat.le_refl _) hF2; have hg2 := (hb2.block _ hlg).trans hg; have f0 := frozen_of_row _ w.heap.size 0 _ _ hg2; have f1 := frozen_of_row _ w.heap.size 1 _ _ hg2; have hl2 : w.heap.size < u2.heap.size := Nat.lt_of_lt_of_le hlg hb2.size; clear hF2 n0 n1; have n0 := (hb2.cell (p := ⟨w.heap.size, 0, none⟩) hlg).trans m0; have n1 := (hb2.cell (p := ⟨w.heap.size, 1, none⟩) hlg).trans m1))
   all_goals (
    go_wp2
    go_roundw
    case rel => exact ⟨k + 1, by go_num, by omega, by rw [E0.out, E1.out]; exact set2_row hg2 _ _, ((below_on hB (Nat.le_refl _) hb2).setCell (p := ⟨w.heap.size, 0, none⟩) (Nat.le_refl _) _).setCell (p := ⟨w.heap.size, 1, none⟩) (Nat.le_refl _) _⟩
    case measure => simp [intOf]; omega)
  ·obtain rfl : k = l.length := by omega
   rw [List.take_length] at hg
   have m0 := cell_of_row _ w.heap.size 0 _ _ (0, 0) hg
   have m1 := cell_of_row _ w.heap.size 1 _ _ (0, 0) hg
   simp only [List.getElem?_toArray, List.getElem?_cons_zero, List.getElem?_cons_succ] at m0 m1
   unfold wdV at hS
   clear hg hin
   go_wp2_with fail
   refine (hS.out _).mono ?_
   rintro e w1 ⟨rfl, h1⟩
   go_wp2
   go_ret2
   exact ⟨rfl, below_on hB (Nat.le_refl _) h1⟩
end Go.Proofs.YtampniiehgimhaaGreat
/- ref05.At, Free, Get -/
namespace Go.Proofs.YtampniiehgimhaaGreat
open Go.RowKit
/-- a slice's address, as the model makes them -/
def FormA (A : Option Addr) (c : Nat) : Prop := (A = none ∧ c = 0) ∨ ∃ b o, A = some ⟨b, o, none⟩
/-- block g holds a reference's chart: the accounts L; they lie in blocks of T -/
def RcIs (w : World) (T : Nat → Prop) (g : Nat) (L : List Ac) : Prop := ∃ A c, w.heap[g]? = some (.cells #[.slice A L.length c] 121 (0, 0)) ∧ SlS w (fun k => k < w.heap.size ∧ T k) A c L ∧ FormA A c
theorem RcIs.kept {w w' : World} {T S : Nat → Prop} {g : Nat} {L : List Ac} (h : RcIs w T g L) (hk : Gr w w' S) (h1 : ¬ S g) (h2 : ∀ k, T k → ¬ S k) : RcIs w' T g L := by
 obtain ⟨A, c, hc, hs, hf⟩ := h
 refine ⟨A, c, (hk.block g (Array.getElem?_eq_some_iff.1 hc).1 h1).trans hc, (hs.grs hk fun b hb => ⟨hb.1, h2 b hb.2⟩).mono fun b hb => ⟨Nat.lt_of_lt_of_le hb.1 hk.size, hb.2⟩, hf⟩
theorem RcIs.later {w w' : World} {T : Nat → Prop} {g : Nat} {L : List Ac} (h : RcIs w T g L) (hb : Below w.heap.size w w') : RcIs w' T g L := h.kept (Gr.of_below hb (fun _ => False)) id (fun _ _ => id)
theorem RcIs.lt {w : World} {T : Nat → Prop} {g : Nat} {L : List Ac} (h : RcIs w T g L) : g < w.heap.size := by
 obtain ⟨A, c, hc, hs, hf⟩ := h
 exact (Array.getElem?_eq_some_iff.1 hc).1
abbrev idxA (L : List Ac) (k : ByteArray) : Int := idxP (fun a => decide (a.name = k)) L
theorem idxA_get {L : List Ac} {k : ByteArray} : (idxA L k < 0 ∧ getK Ac.name L k = none) ∨ ∃ (n : Nat) (h : n < L.length), idxA L k = n ∧ getK Ac.name L k = some L[n] ∧ L[n].name = k := by
 unfold idxA idxP getK
 rw [List.find?_eq_bind_findIdx?_getElem?]
 cases h : L.findIdx? fun a => decide (a.name = k) with
 | none => exact .inl ⟨by decide, rfl⟩
 | some n =>
  obtain ⟨h1, h2, _⟩ := List.findIdx?_eq_some_iff_getElem.1 h
  exact .inr ⟨n, h1, rfl, by simp [List.getElem?_eq_getElem h1], by simpa using h2⟩
theorem SlS.ac {w : World} {S : Nat → Prop} {c : Nat} {A : Option Addr} {l : List Ac} (h : SlS w S A c l) {k : Nat} (hk : k < l.length) : ∃ b o, A = some ⟨b, o, none⟩ ∧ S b ∧ l[k].name.size ≤ maxLen ∧
  w.cell? ⟨b, o + k * 4, none⟩ = some (.string l[k].name) ∧ w.cell? ⟨b, o + k * 4 + 1, none⟩ = some (i64 l[k].hav) ∧ w.cell? ⟨b, o + k * 4 + 2, none⟩ = some (i64 l[k].set_) ∧ w.cell? ⟨b, o + k * 4 + 3, none⟩ = some (i64 l[k].lim) := by
 obtain ⟨b, o, hA, hb, hok, hc⟩ := h.at_ hk
 exact ⟨b, o, hA, hb, hok, hc 0 _ rfl, hc 1 _ rfl, hc 2 _ rfl, hc 3 _ rfl⟩
set_option maxRecDepth 100000 in
set_option maxHeartbeats 4000000 in
theorem rat_c (T : Nat → Prop) (g : Nat) (L : List Ac) (k : ByteArray) (w : World) (h : RcIs w T g L) (hL : L.length ≤ 65536) :
  Calls Tryz.prog 113 #[.pointer (some ⟨g, 0, none⟩), .string k] w fun e w' => e = .returned (i64 (idxA L k)) ∧ w = w' := by
 obtain ⟨A, c, hc, hs, hf⟩ := h
 have c0 := cell_of_row _ g 0 _ _ (0, 0) hc
 simp only [List.getElem?_toArray, List.getElem?_cons_zero] at c0
 clear hc hf
 go_enter Tryz.func113, Tryz.ntmps113
 go_wp2
 go_loop [5] (fun i => ∃ n : Nat, n ≤ L.length ∧ i = i64 n ∧ (∀ j (hj : j < L.length), j < n → L[j].name ≠ k)) (fun i => L.length - (intOf i).toNat)
 case atStart => exact ⟨0, Nat.zero_le _, rfl, by omega⟩
 case round =>
  obtain ⟨n, hn, rfl, hno⟩ := hrel
  by_cases hlt : n < L.length
  ·obtain ⟨b, o, rfl, hb, _, d0, _⟩ := hs.ac hlt
   have Hno := Lib.hid hno
   clear hno hs
   have i0 : (0 : Int) ≤ (n : Int) := by omega
   have i1 : (n : Int) < (L.length : Int) := by omega
   have hg := fun (j : Nat) (hj : j < L.length) => Hno.out j hj
   clear hg
   by_cases heq : L[n].name = k
   ·have e1 := beqS_of_eq heq
    have Heq := Lib.hid heq
    clear heq
    go_wp2
    go_ret
    exact ⟨by rw [show idxA L k = n from idxP_hit hlt (by simpa using Heq.out) (fun j hj h => by simpa using Hno.out j hj h)]; rfl, rfl⟩
   ·have e1 := beqS_of_ne heq
    have Heq := Lib.hid heq
    clear heq
    go_wp2
    go_round
    case rel => exact ⟨n + 1, by omega, by go_num, fun j hj h => by
      rcases Nat.lt_succ_iff_lt_or_eq.1 h with h | rfl
      ·exact Hno.out j hj h
      ·exact Heq.out⟩
    case measure => simp [intOf]; omega
  ·have hkl : n = L.length := by omega
   subst hkl
   go_wp2
   go_ret
   exact ⟨by rw [show idxA L k = -1 from idxP_miss (fun j hj => by simpa using hno j hj hj)]; rfl, rfl⟩
set_option maxRecDepth 100000 in
set_option maxHeartbeats 4000000 in
theorem rfree_c (a : Ac) (x : Int) (w : World) (ha : InA a) (h0 : 0 ≤ a.set_) (hx : R64 x) :
  Calls Tryz.prog 171 #[a.v, i64 x] w fun e w' => e = .returned (.bool (freeA a x)) ∧ Below w.heap.size w w' := by
 have hb0 := (Below.refl w.heap.size w).alloc (Nat.le_refl _) (.cells #[.string a.name, i64 a.hav, i64 a.set_, i64 a.lim] 140)
 have hg := heap_alloc_new w (.cells #[.string a.name, i64 a.hav, i64 a.set_, i64 a.lim] 140)
 have k3 := cell_of_row _ w.heap.size 3 _ _ (0, 0) hg
 simp only [List.getElem?_toArray, List.getElem?_cons_zero, List.getElem?_cons_succ] at k3
 have hz : w.heap.size < (w.alloc (.cells #[.string a.name, i64 a.hav, i64 a.set_, i64 a.lim] 140)).heap.size := by simp
 obtain ⟨h1, h2, h3, h4⟩ := ha
 unfold R64 at h2
 have hS := (own_lit (w := w.alloc (.cells #[.string a.name, i64 a.hav, i64 a.set_, i64 a.lim] 140)) (base := w.heap.size) 2 #[i64 a.hav, i64 (-a.set_)] [a.hav, -a.set_] (by simp) rfl (by simp) (fun _ _ => trivial)).sl_of
 have hb1 := hb0.alloc (by simp) (.cells #[i64 a.hav, i64 (-a.set_)] 2)
 have hz1 : w.heap.size < ((w.alloc (.cells #[.string a.name, i64 a.hav, i64 a.set_, i64 a.lim] 140)).alloc (.cells #[i64 a.hav, i64 (-a.set_)] 2)).heap.size := by simp; omega
 have k3' := (World.cell?_alloc_lt _ (.cells #[i64 a.hav, i64 (-a.set_)] 2) ⟨w.heap.size, 3, none⟩ hz).trans k3
 rw [show (w.alloc (.cells #[.string a.name, i64 a.hav, i64 a.set_, i64 a.lim] 140)).heap.size = w.heap.size + 1 by simp] at hS
 have L1 : Calls Tryz.prog 94 #[.slice (some ⟨w.heap.size + 1, 0, none⟩) 2 2] _ _ := (rtotal_c _ _ [a.hav, -a.set_] _ hS (by simp) (by
  intro y hy
  simp only [List.mem_cons, List.not_mem_nil, or_false] at hy
  rcases hy with rfl | rfl
  ·exact h1
  ·unfold R64; omega))
 have L1 := Lib.hid L1
 simp only [show sumL [a.hav, -a.set_] = a.hav - a.set_ by simp only [sumL]; omega] at L1
 have L2 := Lib.hid fun W => rless_c (sumR (a.hav - a.set_)).1 x W (sumR_R64 _) hx
 have hw : wrap64 (-a.lim) = -a.lim := by rw [← IntWalk.i64_left, IntKind.wrap_i64]; omega
 have hw2 : wrap64 (-a.set_) = -a.set_ := by rw [← IntWalk.i64_left, IntKind.wrap_i64]; omega
 have HD := Lib.hid (show freeA a x = (decide ((sumR (a.hav - a.set_)).2 = 0) && (decide ((sumR ((sumR (a.hav - a.set_)).1 - x)).2 = 0) && decide (-a.lim ≤ (sumR ((sumR (a.hav - a.set_)).1 - x)).1))) from rfl)
 generalize freeA a x = F at *
 generalize sumR (a.hav - a.set_) = r1 at *
 generalize sumR (r1.1 - x) = r2 at *
 clear hg h1 h2 hS h0 k3 hz hb0
 go_enter Tryz.func171, Tryz.ntmps171
 go_wp2_with fail
 generalize (w.alloc (.cells #[.string a.name, i64 a.hav, i64 a.set_, i64 a.lim] 140)).alloc (.cells #[i64 a.hav, i64 (-a.set_)] 2) = w0 at *
 with_reducible refine L1.out.mono ?_
 rintro e w1 ⟨rfl, hF⟩
 have k3 := (hF.cell (p := ⟨w.heap.size, 3, none⟩) hz1).trans k3'
 have hb2 := below_on hb1 (Nat.le_refl _) hF
 have hz := Nat.lt_of_lt_of_le hz1 hF.size
 clear hF L1 hb1 hz1 k3'
 by_cases e1 : r1.2 = 0
 ·have g1 : (r1.2 != 0) = false := by rw [e1]; rfl
  have E1 := Lib.hid (decide_eq_true e1)
  clear e1
  go_wp2_with fail
  refine (L2.out _).mono ?_
  rintro e w2 ⟨rfl, hF⟩
  have k3 := (hF.cell (p := ⟨w.heap.size, 3, none⟩) hz).trans k3
  have hb2 := below_on hb2 (Nat.le_refl _) hF
  clear hF L2
  by_cases e2 : r2.2 = 0
  ·have g2 : (r2.2 == 0) = true := by rw [e2]; rfl
   have E2 := Lib.hid (decide_eq_true e2)
   clear e2
   by_cases e3 : -a.lim ≤ r2.1
   ·have g3 : decide (-a.lim ≤ r2.1) = true := decide_eq_true e3
    have HF := Lib.hid (show F = true by rw [HD.out, E1.out, E2.out, g3]; rfl)
    clear e3
    go_wp2
    go_ret
    exact ⟨by rw [HF.out]; rfl, hb2⟩
   ·have g3 : decide (-a.lim ≤ r2.1) = false := decide_eq_false e3
    have HF := Lib.hid (show F = false by rw [HD.out, E1.out, E2.out, g3]; rfl)
    clear e3
    go_wp2
    go_ret
    exact ⟨by rw [HF.out]; rfl, hb2⟩
  ·have g2 : (r2.2 == 0) = false := beq_eq_false_iff_ne.2 e2
   have HF := Lib.hid (show F = false by rw [HD.out, E1.out, decide_eq_false e2]; rfl)
   clear e2
   go_wp2
   go_ret
   exact ⟨by rw [HF.out]; rfl, hb2⟩
 ·have g1 : (r1.2 != 0) = true := by simpa using e1
  have HF := Lib.hid (show F = false by rw [HD.out, decide_eq_false e1]; rfl)
  clear e1
  go_wp2
  go_ret
  exact ⟨by rw [HF.out]; rfl, hb2⟩
section
variable {α : Type} [Enc α] {w : World} {base : Nat} {e : TypeId} {v : Value} {l : List α}
/-- a row of the call's own, as a slice in blocks of T -/
theorem Own.slT {T : Nat → Prop} (h : Own w base e v l) (hT : ∀ k, base ≤ k → T k) (hok : ∀ x ∈ l, Enc.ok w (fun k => k < w.heap.size ∧ T k) x) : ∃ A c, v = .slice A l.length c ∧ SlS w (fun k => k < w.heap.size ∧ T k) A c l ∧ FormA A c := by
 obtain ⟨A, c, rfl, hs⟩ := h.sl
 have hf : FormA A c := by
  rcases h.1.2 with ⟨h1, _⟩ | ⟨g, cap, cur, h1, _⟩
  ·injection h1 with h1 h2 h3
   exact .inl ⟨h1, h3⟩
  ·injection h1 with h1 h2 h3
   exact .inr ⟨_, _, h1⟩
 refine ⟨A, c, rfl, ⟨hs.1, hs.2.1, fun hn => ?_, hok⟩, hf⟩
 obtain ⟨b, o, rfl, hb, hc⟩ := hs.2.2.1 hn
 exact ⟨b, o, rfl, ⟨hb, hT b (h.1.lt b rfl).1⟩, hc⟩
/-- one cell of an element turned -/
theorem Own.set_cell {g n cap : Nat} (h : Own w base e (.slice (some ⟨g, 0, none⟩) n cap) l) {i : Nat} (hi : i < l.length) (j : Nat) (hj : j < Enc.size α) (u : Value) (x : α) (hx : Enc.cells x = (Enc.cells l[i]).set j u) (hok : Enc.ok w (Oth w (.slice (some ⟨g, 0, none⟩) n cap)) x) :
  Own (w.setCell ⟨g, i * Enc.size α + j, none⟩ u) base e (.slice (some ⟨g, 0, none⟩) n cap) (l.set i x) ∧ w.grownBy (w.setCell ⟨g, i * Enc.size α + j, none⟩ u) (some g) := by
 obtain ⟨cur, hg, hb, hn, hc, hm, hz, ht⟩ := h.cells
 have hgr := grown_setCell (World.grownBy.refl w (some g)) (p := ⟨g, i * Enc.size α + j, none⟩) (.inl rfl) u
 have hset := heap_setCell_same w g (i * Enc.size α + j) cur e u hg
 have hi2 : i * Enc.size α + Enc.size α ≤ n * Enc.size α := by rw [← Nat.succ_mul]; exact Nat.mul_le_mul_right _ (by omega)
 refine ⟨⟨⟨by rw [flat_len], .inr ⟨g, cap, _, by rw [List.length_set, ← hn], hb, hset, by rw [List.length_set]; omega, hm, by simp [hz], ?_⟩⟩, fun y hy => ?_⟩, hgr⟩
 ·rw [List.length_set, ← hn, Array.toList_setIfInBounds, List.take_set, ht, flat_set l i x hi, hx]
  apply List.ext_getElem?
  intro t
  have hfl : (l.flatMap Enc.cells).length = l.length * Enc.size α := flat_len l
  rw [List.getElem?_set]
  have h1 : (List.take (i * Enc.size α) (l.flatMap Enc.cells)).length = i * Enc.size α := by rw [List.length_take, hfl, ← hn]; omega
  have h2 : ((Enc.cells l[i]).set j u).length = Enc.size α := by rw [List.length_set, Enc.len]
  rw [List.append_assoc]
  by_cases c1 : t < i * Enc.size α
  ·rw [if_neg (by omega), List.getElem?_append_left (by omega), List.getElem?_take_of_lt c1]
  ·rw [List.getElem?_append_right (by omega), h1]
   by_cases c2 : t < i * Enc.size α + Enc.size α
   ·rw [List.getElem?_append_left (by omega), List.getElem?_set]
    have hfg := flat_get l i (t - i * Enc.size α) hi (by omega)
    rw [show i * Enc.size α + (t - i * Enc.size α) = t by omega] at hfg
    by_cases c3 : i * Enc.size α + j = t
    ·rw [if_pos c3, if_pos (by rw [hfl, ← hn]; omega), if_pos (by omega), if_pos (by rw [Enc.len]; omega)]
    ·rw [if_neg c3, if_neg (by omega), hfg]
   ·rw [if_neg (by omega), List.getElem?_append_right (by omega), h2, List.getElem?_drop]
    congr 1
    rw [Nat.add_mul, Nat.one_mul]
    omega
 ·rcases List.mem_or_eq_of_mem_set hy with hy | rfl
  ·exact Enc.keep (h.2 y hy) (fun p hp => World.cell?_of_block (hgr.block _ hp.1 hp.2)) (fun b hb => ⟨Nat.lt_of_lt_of_le hb.1 hgr.size, hb.2⟩)
  ·exact Enc.keep hok (fun p hp => World.cell?_of_block (hgr.block _ hp.1 hp.2)) (fun b hb => ⟨Nat.lt_of_lt_of_le hb.1 hgr.size, hb.2⟩)
end
/-- behind growth alone -/
theorem SlS.below_ {α : Type} [Enc α] {w w' : World} {T : Nat → Prop} {A : Option Addr} {c : Nat} {l : List α} (h : SlS w (fun k => k < w.heap.size ∧ T k) A c l) (hb : Below w.heap.size w w') : SlS w' (fun k => k < w'.heap.size ∧ T k) A c l :=
 h.keep (fun _ hp => hb.cell hp.1) (fun _ hb' => ⟨Nat.lt_of_lt_of_le hb'.1 hb.size, hb'.2⟩)
end Go.Proofs.YtampniiehgimhaaGreat
/- ref07.Check, Make: the plain law -/
namespace Go.Proofs.YtampniiehgimhaaGreat
open Go.RowKit
theorem getK_setN {α κ : Type} [DecidableEq κ] {kf : α → κ} (L : List α) {v : α} {k : κ} (e : kf v ≠ k) : getK kf (setK kf L v) k = getK kf L k := by
 unfold getK setK
 induction L with
 | nil => rfl
 | cons x r ih =>
  rw [List.map_cons]
  by_cases hx : kf x = kf v
  ·rw [if_pos hx, List.find?_cons_of_neg (by simpa using e), List.find?_cons_of_neg (by rw [hx]; simpa using e)]
   exact ih
  ·rw [if_neg hx]
   by_cases hk : kf x = k
   ·rw [List.find?_cons_of_pos (by simpa using hk), List.find?_cons_of_pos (by simpa using hk)]
   ·rw [List.find?_cons_of_neg (by simpa using hk), List.find?_cons_of_neg (by simpa using hk)]
    exact ih
/-- what the reference says of one leg -/
def perrL (L : List Ac) (x : Leg) : Int :=
 if (getLR L x.acct).2 ≠ 0 then (getLR L x.acct).2 else if (sumR (0 - x.sum)).2 ≠ 0 ∨ (sumR ((getLR L x.acct).1.hav + x.sum)).2 ≠ 0 then 2
 else if 0 < (sumR (0 - x.sum)).1 ∧ freeA (getLR L x.acct).1 (sumR (0 - x.sum)).1 = false then 9 else 0
theorem sumR_two (n : Int) : (sumR n).2 = 0 ∨ (sumR n).2 = 2 := by
 unfold sumR
 split
 ·exact .inr rfl
 ·exact .inl rfl
theorem sumR_in64 {n : Int} (h : (sumR n).2 = 0) : R64 n := by
 have := sumR_R64 n
 rwa [sumR_0 h] at this
theorem getLR_cases (L : List Ac) (k : ByteArray) : ((getLR L k).2 = 6 ∧ getK Ac.name L k = none) ∨ ∃ a, getK Ac.name L k = some a ∧ getLR L k = (a, 0) := by
 unfold getLR
 cases h : getK Ac.name L k with
 | none => exact .inl ⟨rfl, rfl⟩
 | some a => exact .inr ⟨a, rfl, rfl⟩
theorem postL_perr {L : List Ac} (h : OkA L) (x : Leg) : (postL L x).1 = perrL L x := by
 unfold postL perrL
 rcases getLR_cases L x.acct with ⟨h1, h2⟩ | ⟨a, h1, h2⟩
 ·rw [if_pos (by rw [h1]; decide), if_pos (by rw [h1]; decide)]
 ·rw [h2]
  dsimp only
  have h0 : ¬ (0 : Int) ≠ 0 := fun h => h rfl
  rw [if_neg h0, if_neg h0]
  rcases sumR_two (0 - x.sum) with h3 | h3
  ·have h3' : ¬ (sumR (0 - x.sum)).2 ≠ 0 := fun h => h h3
   rw [if_neg h3', sumR_0 h3]
   have e : a.hav - (0 - x.sum) = a.hav + x.sum := by omega
   unfold turnL
   rw [h1]
   dsimp only
   rw [show (givD (0 - x.sum) a).2 = (sumR (a.hav + x.sum)).2 by unfold givD; rw [e]]
   rcases sumR_two (a.hav + x.sum) with h4 | h4
   ·have h4' : ¬ (sumR (a.hav + x.sum)).2 ≠ 0 := fun h => h h4
    rw [if_neg h4', if_neg (not_or.2 ⟨h3', h4'⟩)]
    by_cases h5 : 0 < 0 - x.sum ∧ freeA a (0 - x.sum) = false
    ·rw [if_pos h5, if_pos h5]
    ·rw [if_neg h5, if_neg h5, if_neg]
     have := (h a (getK_mem h1).1).2.1
     show ¬ a.set_ < 0
     omega
   ·have h4' : (sumR (a.hav + x.sum)).2 ≠ 0 := by rw [h4]; decide
    rw [if_pos h4', if_pos (.inr h4'), h4]
  ·have h3' : (sumR (0 - x.sum)).2 ≠ 0 := by rw [h3]; decide
   rw [if_pos h3', if_pos (.inl h3'), h3]
theorem perr_congr {L L' : List Ac} {x : Leg} (h : getLR L x.acct = getLR L' x.acct) : perrL L x = perrL L' x := by unfold perrL; rw [h]
theorem postL_other (L : List Ac) (x : Leg) {k : ByteArray} (h : k ≠ x.acct) : getLR (postL L x).2 k = getLR L k := by
 unfold postL
 split
 ·rfl
 ·split
  ·rfl
  ·rcases turnL_cases (givD (sumR (0 - x.sum)).1) L x.acct (sumR (0 - x.sum)).1 with ⟨_, e⟩ | ⟨_, a, h1, _, _, _, e⟩
   ·rw [e]
   ·rw [e]
    unfold getLR
    rw [getK_setN]
    show a.name ≠ k
    rw [(getK_mem h1).2]
    exact fun e => h e.symm
/-- the first error, leg by leg, of accounts as they were -/
def firstE (L : List Ac) : List Leg → Int
 | [] => 0
 | x :: r => if perrL L x ≠ 0 then perrL L x else firstE L r
theorem allL_first : ∀ (l : List Leg) (L L0 : List Ac), OkA L → (l.map Leg.acct).Nodup → (∀ x ∈ l, getLR L x.acct = getLR L0 x.acct) → (allL L l).1 = firstE L0 l
 | [], _, _, _, _, _ => rfl
 | x :: r, L, L0, hok, hnd, heq => by
  unfold allL firstE
  rw [List.map_cons, List.nodup_cons] at hnd
  have hp := postL_perr hok x
  rw [perr_congr (heq x (List.mem_cons_self ..))] at hp
  rw [← hp]
  by_cases h0 : (postL L x).1 ≠ 0
  ·rw [if_pos h0, if_pos h0]
  ·rw [if_neg h0, if_neg h0]
   refine allL_first r _ L0 (postL_ok hok x) hnd.2 fun y hy => ?_
   rw [postL_other L x (fun e => hnd.1 (by rw [← e]; exact List.mem_map.2 ⟨y, hy, rfl⟩))]
   exact heq y (List.mem_cons_of_mem _ hy)
theorem legsB_nodup {l : List Leg} (h : legsB l = true) : (l.map Leg.acct).Nodup := by
 unfold legsB at h
 simp only [Bool.and_eq_true, decide_eq_true_eq] at h
 exact h.1.1
theorem checkL_first {L : List Ac} (h : OkA L) (l : List Leg) : checkL L l = if legsB l = false then 1 else if weighB l = false then 8 else firstE L l := by
 unfold checkL
 by_cases h1 : legsB l = false
 ·rw [if_pos h1, if_pos h1]
 ·rw [if_neg h1, if_neg h1]
  by_cases h2 : weighB l = false
  ·rw [if_pos h2, if_pos h2]
  ·rw [if_neg h2, if_neg h2]
   exact allL_first l L L h (legsB_nodup (by simpa using h1)) fun _ _ => rfl
theorem firstE_step {L : List Ac} {l : List Leg} {k : Nat} (h : k < l.length) : firstE L (l.drop k) = if perrL L l[k] ≠ 0 then perrL L l[k] else firstE L (l.drop (k + 1)) := by
 rw [List.drop_eq_getElem_cons h]
 rfl
/-- a leg that may be posted: one account is turned -/
theorem postL_zero {L : List Ac} (hS : SrtL ltA L) {x : Leg} (h : (postL L x).1 = 0) : ∃ (n : Nat) (hn : n < L.length), idxA L x.acct = n ∧ (postL L x).2 = L.set n { L[n] with hav := L[n].hav + x.sum } ∧ R64 (L[n].hav + x.sum) := by
 unfold postL at *
 rcases getLR_cases L x.acct with ⟨h1, h2⟩ | ⟨a, h1, h2⟩
 ·rw [if_pos (by rw [h1]; decide), h1] at h
  cases h
 ·rw [h2] at h ⊢
  dsimp only at *
  rw [if_neg (show ¬ (0 : Int) ≠ 0 from fun h => h rfl)] at h ⊢
  rcases sumR_two (0 - x.sum) with h3 | h3
  ·rw [if_neg (show ¬ (sumR (0 - x.sum)).2 ≠ 0 from fun h => h h3), sumR_0 h3] at h ⊢
   rcases turnL_cases (givD (0 - x.sum)) L x.acct (0 - x.sum) with ⟨h4, _⟩ | ⟨_, b, h4, h5, _, _, h6⟩
   ·exact absurd h h4
   ·rw [h1] at h4
    injection h4 with h4
    subst h4
    rcases idxA_get (L := L) (k := x.acct) with ⟨_, g⟩ | ⟨n, hn, g1, g2, g3⟩
    ·rw [h1] at g; cases g
    ·rw [h1] at g2
     injection g2 with g2
     have e : a.hav - (0 - x.sum) = a.hav + x.sum := by omega
     have hR : (sumR (a.hav + x.sum)).2 = 0 := by rw [← e]; exact h5
     refine ⟨n, hn, g1, ?_, by rw [← g2]; exact sumR_in64 hR⟩
     rw [h6, setK_set keyA hS hn (show L[n].name = (givD (0 - x.sum) a).1.name by rw [← g2]; rfl)]
     congr 1
     unfold givD
     rw [e, sumR_0 hR, ← g2]
  ·rw [if_pos (show (sumR (0 - x.sum)).2 ≠ 0 by rw [h3]; decide), h3] at h
   cases h
theorem turnP_srt {L : List Ac} (h : SrtL ltA L) (x : Leg) : SrtL ltA (postL L x).2 := by
 unfold postL
 split
 ·exact h
 ·split
  ·exact h
  ·rcases turnL_cases (givD (sumR (0 - x.sum)).1) L x.acct (sumR (0 - x.sum)).1 with ⟨_, e⟩ | ⟨_, a, _, _, _, _, e⟩
   ·rw [e]; exact h
   ·rw [e]; exact setK_srt keyA h _
end Go.Proofs.YtampniiehgimhaaGreat
/- ref07.Right -/
namespace Go.Proofs.YtampniiehgimhaaGreat
open Go.RowKit
set_option maxRecDepth 100000 in
set_option maxHeartbeats 4000000 in
theorem rright7_c (A : Option Addr) (c : Nat) (l : List Leg) (w : World) (h : Sl w w.heap.size A c l) (hn : l.length ≤ 65536) :
  Calls Tryz.prog 169 #[.slice A l.length c] w fun e w' => e = .returned (.bool (legsB l)) ∧ Below w.heap.size w w' := by
 have H := Lib.hid h
 have hlc : l.length ≤ c := h.1
 clear h
 go_enter Tryz.func169, Tryz.ntmps169
 go_wp2_with fail
 go_loopw [3] (fun i wr => ∃ k : Nat, i = i64 k ∧ k ≤ l.length ∧ legsTo l k ∧ Below w.heap.size w wr) (fun i _ => l.length - (intOf i).toNat)
 case atStart => exact ⟨0, rfl, Nat.zero_le _, ⟨by simp, by simp⟩, Below.refl _ _⟩
 case round =>
  obtain ⟨k, rfl, hk, ht, hb⟩ := hrel
  have HT := Lib.hid ht
  clear ht
  by_cases hlt : k < l.length
  ·have g1 : decide ((k : Int) < (l.length : Int)) = true := decide_eq_true (by omega)
   have g2 : decide (k < l.length) = true := decide_eq_true hlt
   have i0 : (0 : Int) ≤ (k : Int) := by omega
   have i1 : (k : Int) < (l.length : Int) := by omega
   obtain ⟨b, o, rfl, hbb, hsz, c0, c1⟩ := (H.out.later hb).leg hlt
   have HN := Lib.hid (rname_c l[k].acct hsz wr)
   clear hsz
   cases hnm : nameB l[k].acct with
   | false =>
    rw [hnm] at HN
    have HR := Lib.hid (legsB_bad hlt (show legB l[k] = false by unfold legB; rw [hnm]; rfl))
    clear hnm
    go_wp2_with fail
    refine HN.out.mono ?_
    rintro e w1 ⟨rfl, hF⟩
    have hb2 := hb.trans (hF.mono hb.size)
    clear hF HN c0 c1
    go_wp2
    go_ret
    exact ⟨by rw [HR.out]; rfl, hb2⟩
   | true =>
    rw [hnm] at HN
    by_cases hz : l[k].sum = 0
    ·have HR := Lib.hid (show legsB l = false from legsB_bad hlt (by unfold legB; rw [hz]; simp))
     have g3 : (l[k].sum == 0) = true := beq_iff_eq.2 hz
     clear hnm hz
     go_wp2_with fail
     refine HN.out.mono ?_
     rintro e w1 ⟨rfl, hF⟩
     have hb2 := hb.trans (hF.mono hb.size)
     have c1 := (hF.cell (p := ⟨b, o + k * 2 + 1, none⟩) (World.block_lt_of_cell? _ _ c1)).trans c1
     clear hF HN c0
     go_wp2
     go_ret
     exact ⟨by rw [HR.out]; rfl, hb2⟩
    ·have g3 : (l[k].sum == 0) = false := beq_eq_false_iff_ne.2 hz
     have HL := Lib.hid (show legB l[k] = true by unfold legB; rw [hnm, decide_eq_true hz]; rfl)
     clear hnm hz
     go_wp2_with fail
     refine HN.out.mono ?_
     rintro e w1 ⟨rfl, hF⟩
     have hb2 := hb.trans (hF.mono hb.size)
     have c1 := (hF.cell (p := ⟨b, o + k * 2 + 1, none⟩) (World.block_lt_of_cell? _ _ c1)).trans c1
     clear hF HN c0 hb
     go_wp2_with fail
     go_loopw [4] (fun i wz => ∃ q : Nat, i = i64 q ∧ q ≤ k ∧ (∀ t (ht : t < l.length), t < q → l[t].acct ≠ l[k].acct) ∧ Below w.heap.size w wz) (fun i _ => k - (intOf i).toNat)
     case atStart => exact ⟨0, rfl, Nat.zero_le _, fun t _ h => absurd h (by omega), hb2⟩
     case round =>
      obtain ⟨q, rfl, hq, hno, hbz⟩ := hrel
      have Hno := Lib.hid hno
      clear hno hb2 c1 hbb
      by_cases hqk : q < k
      ·have g4 : decide ((q : Int) < (k : Int)) = true := decide_eq_true (by omega)
       have g5 : decide (q < k) = true := decide_eq_true hqk
       have hql : q < l.length := by omega
       have j0 : (0 : Int) ≤ (q : Int) := by omega
       have j1 : (q : Int) < (l.length : Int) := by omega
       obtain ⟨b1, o1, hA1, _, _, d0, _⟩ := (H.out.later hbz).leg hql
       injection hA1 with hA1
       injection hA1 with e1 e2
       subst e1 e2
       obtain ⟨b1, o1, hA1, _, _, d1, _⟩ := (H.out.later hbz).leg hlt
       injection hA1 with hA1
       injection hA1 with e1 e2
       subst e1 e2
       by_cases he : l[q].acct = l[k].acct
       ·have g6 := beqS_of_eq he
        have HR := Lib.hid (show legsB l = false from legsB_seen hlt (by rw [← he]; exact List.mem_map.2 ⟨l[q], List.mem_take_iff_getElem.2 ⟨q, by omega, rfl⟩, rfl⟩))
        clear he
        go_wp2
        go_quiet (fail)
        go_wp2
        go_ret
        exact ⟨by rw [HR.out]; rfl, below_drewN hbz _⟩
       ·have g6 := beqS_of_ne he
        have He := Lib.hid he
        clear he
        go_wp2
        go_quiet (fail)
        go_wp2
        go_roundw
        case rel => exact ⟨q + 1, by go_num, by omega, fun t ht h => by
          rcases Nat.lt_succ_iff_lt_or_eq.1 h with h | rfl
          ·exact Hno.out t ht h
          ·exact He.out, below_drewN hbz _⟩
        case measure => simp [intOf]; omega
      ·obtain rfl : q = k := by omega
       have g4 : decide ((q : Int) < (q : Int)) = false := decide_eq_false (by omega)
       have g5 : decide (q < q) = false := decide_eq_false (by omega)
       have hnx := Lib.hid (HT.out.next hlt (fun hm => by
        obtain ⟨x, hx, he⟩ := List.mem_map.1 hm
        obtain ⟨t, ht, rfl⟩ := List.mem_take_iff_getElem.1 hx
        exact Hno.out t (by omega) (by omega) he) HL.out)
       go_wp2
       go_roundw
       case rel => exact ⟨q + 1, by go_num, by omega, hnx.out, hbz⟩
       case measure => simp [intOf]; omega
  ·obtain rfl : k = l.length := by omega
   have hal := legsB_all HT.out
   have g1 : decide ((l.length : Int) < (l.length : Int)) = false := decide_eq_false (by omega)
   by_cases h2 : 2 ≤ l.length
   ·have g3 : decide ((2 : Int) ≤ (l.length : Int)) = true := decide_eq_true (by omega)
    rw [decide_eq_true h2] at hal
    by_cases h6 : l.length ≤ 6
    ·have g4 : decide ((l.length : Int) ≤ 6) = true := decide_eq_true (by omega)
     rw [decide_eq_true h6] at hal
     have Hs := Lib.hid hal
     clear hal h2 h6
     go_wp2
     go_ret
     exact ⟨by rw [Hs.out]; rfl, hb⟩
    ·have g4 : decide ((l.length : Int) ≤ 6) = false := decide_eq_false (by omega)
     rw [decide_eq_false h6] at hal
     have Hs := Lib.hid hal
     clear hal h2 h6
     go_wp2
     go_ret
     exact ⟨by rw [Hs.out]; rfl, hb⟩
   ·have g3 : decide ((2 : Int) ≤ (l.length : Int)) = false := decide_eq_false (by omega)
    rw [decide_eq_false h2] at hal
    have Hs := Lib.hid hal
    clear hal h2
    go_wp2
    go_ret
    exact ⟨by rw [Hs.out]; rfl, hb⟩
end Go.Proofs.YtampniiehgimhaaGreat
/- ref05: Get -/
namespace Go.Proofs.YtampniiehgimhaaGreat
open Go.RowKit
set_option maxRecDepth 100000 in
set_option maxHeartbeats 4000000 in
theorem rget_c (T : Nat → Prop) (g : Nat) (L : List Ac) (k : ByteArray) (w : World) (h : RcIs w T g L) (hL : L.length ≤ 65536) :
  Calls Tryz.prog 67 #[.pointer (some ⟨g, 0, none⟩), .string k] w fun e w' => e = .returned (.tuple #[(getLR L k).1.v, i64 (getLR L k).2]) ∧ Below w.heap.size w w' := by
 have hb0 := (Below.refl w.heap.size w).alloc (Nat.le_refl _) (.cells #[.string ⟨#[]⟩, i64 0, i64 0, i64 0] 140)
 have hg0 := heap_alloc_new w (.cells #[.string ⟨#[]⟩, i64 0, i64 0, i64 0] 140)
 have h1 := h.later hb0
 have hA := Lib.hid (rat_c T g L k _ h1 hL)
 obtain ⟨A, c, hc, hs, hf⟩ := h1
 have c0 := cell_of_row _ g 0 _ _ (0, 0) hc
 simp only [List.getElem?_toArray, List.getElem?_cons_zero] at c0
 have hlt := h.lt
 clear hc hf
 rcases idxA_get (L := L) (k := k) with ⟨h1, h2⟩ | ⟨n, hn, h1, h2, h3⟩
 ·have HR := Lib.hid (show getLR L k = (ac0, 6) by unfold getLR; rw [h2])
  clear h2
  generalize idxA L k = i at *
  have g1 : decide (i < 0) = true := decide_eq_true h1
  go_enter Tryz.func67, Tryz.ntmps67
  go_wp2_with fail
  refine hA.out.mono ?_
  rintro e w1 ⟨rfl, rfl⟩
  go_wp2
  exact bodyPost_ret (results_cell_row_tmp rfl _ _ w.heap.size 140 _ (0, 0) _ rfl hg0 Tryz.underlying140 rfl (by kernel_rfl)) rfl ⟨by rw [HR.out]; rfl, hb0⟩
 ·have HR := Lib.hid (show getLR L k = (L[n], 0) by unfold getLR; rw [h2])
  rw [h1] at hA
  have g1 : decide ((n : Int) < 0) = false := decide_eq_false (by omega)
  obtain ⟨b, o, rfl, hb, _, d0, d1, d2, d3⟩ := hs.ac hn
  have i0 : (0 : Int) ≤ (n : Int) := by omega
  have i1 : (n : Int) < (L.length : Int) := by omega
  have hlc : L.length ≤ c := hs.1
  generalize L[n] = a at *
  clear h2 h1 hs h h3
  go_enter Tryz.func67, Tryz.ntmps67
  go_wp2_with fail
  refine hA.out.mono ?_
  rintro e w1 ⟨rfl, rfl⟩
  go_wp2
  exact bodyPost_ret (results_cell_row_tmp rfl _ _ w.heap.size 140 _ (0, 0) _ rfl (heap_alloc_new w _) Tryz.underlying140 rfl (by kernel_rfl)) rfl ⟨by rw [HR.out]; rfl, (Below.refl _ _).alloc (Nat.le_refl _) _⟩
end Go.Proofs.YtampniiehgimhaaGreat
/- ref05: Give, Aside -/
namespace Go.Proofs.YtampniiehgimhaaGreat
open Go.RowKit
theorem acInfo : (Tryz.prog.info? 140).map (fun i => (i.zero, i.size, i.bytes)) = some (some (.agg #[.string ByteArray.empty, i64 0, i64 0, i64 0]), Enc.size Ac, 40) := by kernel_rfl
/-- the copied accounts, one of them turned, stand in the chart of block g -/
theorem rc_done {w w1 w2 : World} {T : Nat → Prop} {g gb cap : Nat} {L : List Ac} {V0 : Value} (HB2 : Below w.heap.size w w2) (hB1 : w.heap.size ≤ w1.heap.size) (hlg : g < w.heap.size) (hT : ∀ k, w.heap.size ≤ k → T k) (hok : ∀ x ∈ L, x.name.size ≤ maxLen)
  (hcg : w2.heap[g]? = some (.cells #[V0] 121 (0, 0))) (hO : Own w2 w1.heap.size 140 (.slice (some ⟨gb, 0, none⟩) L.length cap) L)
  {n : Nat} (hn : n < L.length) (j : Nat) (hj : j < 4) (u : Value) (a : Ac) (ha : Enc.cells a = (Enc.cells L[n]).set j u) (hao : a.name.size ≤ maxLen) :
  RcIs ((w2.setCell ⟨g, 0, none⟩ (.slice (some ⟨gb, 0, none⟩) L.length cap)).setCell ⟨gb, n * 4 + j, none⟩ u) T g (L.set n a) ∧ w.grownBy ((w2.setCell ⟨g, 0, none⟩ (.slice (some ⟨gb, 0, none⟩) L.length cap)).setCell ⟨gb, n * 4 + j, none⟩ u) (some g) := by
 have hgb := (hO.1.lt gb rfl).1
 have hne : gb ≠ g := by omega
 have hg3 := heap_setCell_same w2 g 0 _ _ (.slice (some ⟨gb, 0, none⟩) L.length cap) hcg
 have hgr := grown_setCell (World.grownBy.refl w2 (some g)) (p := ⟨g, 0, none⟩) (.inl rfl) (.slice (some ⟨gb, 0, none⟩) L.length cap)
 have hO3 := hO.grown hgr (.inr (fun e => hne (by injection e))) (fun x hx => hok x hx)
 obtain ⟨hO4, hgr4⟩ := hO3.set_cell hn j hj u a ha hao
 refine ⟨?_, grown_setCell (grown_setCell (grown_of_below HB2 (some g)) (p := ⟨g, 0, none⟩) (.inl rfl) _) (p := ⟨gb, n * 4 + j, none⟩) (.inr (Nat.le_trans hB1 hgb)) u⟩
 obtain ⟨A, c, hv, hs, hf⟩ := hO4.slT (T := T) (fun k hk => hT k (Nat.le_trans hB1 hk)) (fun x hx => by
  rcases List.mem_or_eq_of_mem_set hx with hx | rfl
  ·exact hok x hx
  ·exact hao)
 refine ⟨A, c, ?_, hs, hf⟩
 have h2 := (hgr4.block g (Array.getElem?_eq_some_iff.1 hg3).1 (fun e => hne (by injection e with e; exact e.symm))).trans hg3
 have e5 : (#[V0] : Array Value).setIfInBounds 0 (.slice (some ⟨gb, 0, none⟩) L.length cap) = #[.slice A (L.set n a).length c] := by rw [← hv]; rfl
 rw [e5] at h2
 exact h2
end Go.Proofs.YtampniiehgimhaaGreat
