/- Texts of this claim, laid together: Rf01B, Rf05, RfTurn. -/
import Derived.Test.YtmljlkjomjflpaaGreatRows
import Derived.Test.YtmljlkjomjflpaaGreatBb6
import Derived.Deep.Cut
import Derived.Deep.RegionWith
import Derived.WalkKit
import Derived.WalkSpells
import Derived.WalkLawsBesides
import Derived.Deep.QuietTactic
import Derived.BigQuiet
import Derived.Laws.StructEq
import Derived.Deep.DeepFit
import Derived.StillTailTactics
import Derived.Test.YtmljlkjomjflpaaGreatBb5
import Derived.Test.YtmljlkjomjflpaaGreatBb2

/- ref01.Total -/
namespace Go.Proofs.YtmljlkjomjflpaaGreat
open Go.RowKit
theorem set2_row {w : World} {g : Nat} {a b : Value} {t : TypeId} (h : w.heap[g]? = some (.cells #[a, b] t (0, 0))) (x y : Value) : ((w.setCell ⟨g, 0, none⟩ x).setCell ⟨g, 1, none⟩ y).heap[g]? = some (.cells #[x, y] t (0, 0)) := by
  have h1 := heap_setCell_same w g 0 _ _ x h
  have h2 := heap_setCell_same _ g 1 _ _ y h1
  simpa using h2
set_option maxRecDepth 100000 in
set_option maxHeartbeats 4000000 in
theorem rtotal_c (A : Option Addr) (c : Nat) (l : List Int) (w : World) (h : Sl w w.heap.size A c l) (hl : l.length ≤ 1000) (hr : ∀ a ∈ l, R64 a) :
    Calls Tryz.prog 137 #[.slice A l.length c] w fun e w' => e = .returned (.tuple #[i64 (sumR (sumL l)).1, i64 (sumR (sumL l)).2]) ∧ Below w.heap.size w w' := by
  have hb0 := (Below.refl w.heap.size w).alloc (Nat.le_refl _) (.cells #[i64 0, .int .u64 0] 175)
  have hg0 := heap_alloc_new w (.cells #[i64 0, .int .u64 0] 175)
  have hin : ∀ k, RW (sumL (l.take k)) := fun k => by
    have h1 := sumL_in (l.take k) fun a h => hr a (List.mem_of_mem_take h)
    have h2 : (l.take k).length ≤ 1000 := Nat.le_trans (List.length_take_le' ..) hl
    unfold RW
    omega
  have hS := Lib.hid fun W => rsum_c (sumL l) W
  generalize hR : sumR (sumL l) = R at *
  clear hR
  go_enter Tryz.func137, Tryz.ntmps137
  go_wp2_with fail
  go_loopw [5] (fun i wr => ∃ k : Nat, i = i64 k ∧ k ≤ l.length ∧ wr.heap[w.heap.size]? = some (.cells #[i64 (sumL (l.take k) / 18446744073709551616), .int .u64 (sumL (l.take k) % 18446744073709551616)] 175 (0, 0)) ∧ Below w.heap.size w wr) (fun i _ => l.length - (intOf i).toNat)
  case atStart => exact ⟨0, rfl, by omega, hg0, hb0⟩
  case round =>
    obtain ⟨k, rfl, hk, hg, hB⟩ := hrel
    by_cases hlt : k < l.length
    · have ha := hr l[k] (List.getElem_mem hlt)
      obtain ⟨b, o, rfl, hbb, -, hc⟩ := (h.later hB).at_ hlt
      have d0 := hc 0 _ rfl
      rw [show k * Enc.size Int + 0 = k from Nat.mul_one k] at d0
      have k1 := Lib.hid fun W => of_c l[k] W ha
      have k2 := Lib.hid fun W => plus_c (sumL (l.take k)) l[k] W (hin k) (.of64 ha)
      rw [← sumL_take hlt] at k2
      have i0 : (0 : Int) ≤ (k : Int) := by omega
      have i1 : (k : Int) < (l.length : Int) := by omega
      have m0 := cell_of_row _ w.heap.size 0 _ _ (0, 0) hg
      have m1 := cell_of_row _ w.heap.size 1 _ _ (0, 0) hg
      simp only [List.getElem?_toArray, List.getElem?_cons_zero, List.getElem?_cons_succ] at m0 m1
      have hlg : w.heap.size < wr.heap.size := (Array.getElem?_eq_some_iff.1 hg).1
      have hlc : l.length ≤ c := h.1
      unfold wdV at k2
      have h0 := (Below.refl wr.heap.size wr).drew
      have hB' := hB
      clear hc hin hS hb0 hg0 h
      generalize sumL (l.take k) / 18446744073709551616 = p0 at *
      generalize sumL (l.take k) % 18446744073709551616 = p1 at *
      obtain ⟨q0, e0⟩ : ∃ q, sumL (l.take (k + 1)) / 18446744073709551616 = q := ⟨_, rfl⟩
      obtain ⟨q1, e1⟩ : ∃ q, sumL (l.take (k + 1)) % 18446744073709551616 = q := ⟨_, rfl⟩
      rw [e0, e1] at k2
      have E0 := Lib.hid e0
      have E1 := Lib.hid e1
      clear e0 e1
      go_wp2_with fail
      go_region_with (first
          | (go_at_call 135; with_reducible refine (k1.out _).mono ?_; rintro e u1 ⟨rfl, hF1⟩; have hb1 := below_on h0 (Nat.le_refl _) hF1; have n0 := (hb1.cell (p := ⟨w.heap.size, 0, none⟩) hlg).trans m0; have n1 := (hb1.cell (p := ⟨w.heap.size, 1, none⟩) hlg).trans m1; have hg1 := (hb1.block _ hlg).trans hg; clear hF1)
          | (go_at_call 134; with_reducible refine (k2.out _).mono ?_; rintro e u2 ⟨rfl, hF2⟩; have hb2 := below_on hb1 (Nat.le_refl _) hF2; have hg2 := (hb2.block _ hlg).trans hg; have f0 := frozen_of_row _ w.heap.size 0 _ _ hg2; have f1 := frozen_of_row _ w.heap.size 1 _ _ hg2; have hl2 : w.heap.size < u2.heap.size := Nat.lt_of_lt_of_le hlg hb2.size; clear hF2 n0 n1; have n0 := (hb2.cell (p := ⟨w.heap.size, 0, none⟩) hlg).trans m0; have n1 := (hb2.cell (p := ⟨w.heap.size, 1, none⟩) hlg).trans m1))
      all_goals (
        go_wp2
        go_roundw
        case rel => exact ⟨k + 1, by go_num, by omega, by rw [E0.out, E1.out]; exact set2_row hg2 _ _, ((below_on hB (Nat.le_refl _) hb2).setCell (p := ⟨w.heap.size, 0, none⟩) (Nat.le_refl _) _).setCell (p := ⟨w.heap.size, 1, none⟩) (Nat.le_refl _) _⟩
        case measure => simp [intOf]; omega)
    · obtain rfl : k = l.length := by omega
      rw [List.take_length] at hg
      have m0 := cell_of_row _ w.heap.size 0 _ _ (0, 0) hg
      have m1 := cell_of_row _ w.heap.size 1 _ _ (0, 0) hg
      simp only [List.getElem?_toArray, List.getElem?_cons_zero, List.getElem?_cons_succ] at m0 m1
      unfold wdV at hS
      clear hg hin
      go_wp2_with fail
      refine (hS.out _).mono ?_
      rintro e w1 ⟨rfl, h1⟩
      go_wp2
      go_ret2
      exact ⟨rfl, below_on hB (Nat.le_refl _) h1⟩
end Go.Proofs.YtmljlkjomjflpaaGreat

/- ref05.At, Free, Get -/
namespace Go.Proofs.YtmljlkjomjflpaaGreat
open Go.RowKit
/-- a slice's address, as the model makes them -/
def FormA (A : Option Addr) (c : Nat) : Prop := (A = none ∧ c = 0) ∨ ∃ b o, A = some ⟨b, o, none⟩
/-- block g holds a reference's chart: the accounts L; they lie in blocks of T -/
def RcIs (w : World) (T : Nat → Prop) (g : Nat) (L : List Ac) : Prop := ∃ A c, w.heap[g]? = some (.cells #[.slice A L.length c] 49 (0, 0)) ∧ SlS w (fun k => k < w.heap.size ∧ T k) A c L ∧ FormA A c
theorem RcIs.kept {w w' : World} {T S : Nat → Prop} {g : Nat} {L : List Ac} (h : RcIs w T g L) (hk : Gr w w' S) (h1 : ¬ S g) (h2 : ∀ k, T k → ¬ S k) : RcIs w' T g L := by
  obtain ⟨A, c, hc, hs, hf⟩ := h
  refine ⟨A, c, (hk.block g (Array.getElem?_eq_some_iff.1 hc).1 h1).trans hc, (hs.grs hk fun b hb => ⟨hb.1, h2 b hb.2⟩).mono fun b hb => ⟨Nat.lt_of_lt_of_le hb.1 hk.size, hb.2⟩, hf⟩
theorem RcIs.later {w w' : World} {T : Nat → Prop} {g : Nat} {L : List Ac} (h : RcIs w T g L) (hb : Below w.heap.size w w') : RcIs w' T g L := h.kept (Gr.of_below hb (fun _ => False)) id (fun _ _ => id)
theorem RcIs.lt {w : World} {T : Nat → Prop} {g : Nat} {L : List Ac} (h : RcIs w T g L) : g < w.heap.size := by
  obtain ⟨A, c, hc, hs, hf⟩ := h
  exact (Array.getElem?_eq_some_iff.1 hc).1
abbrev idxA (L : List Ac) (k : ByteArray) : Int := idxP (fun a => decide (a.name = k)) L
theorem idxA_get {L : List Ac} {k : ByteArray} : (idxA L k < 0 ∧ getK Ac.name L k = none) ∨ ∃ (n : Nat) (h : n < L.length), idxA L k = n ∧ getK Ac.name L k = some L[n] ∧ L[n].name = k := by
  unfold idxA idxP getK
  rw [List.find?_eq_bind_findIdx?_getElem?]
  cases h : L.findIdx? fun a => decide (a.name = k) with
  | none => exact .inl ⟨by decide, rfl⟩
  | some n =>
    obtain ⟨h1, h2, _⟩ := List.findIdx?_eq_some_iff_getElem.1 h
    exact .inr ⟨n, h1, rfl, by simp [List.getElem?_eq_getElem h1], by simpa using h2⟩
theorem SlS.ac {w : World} {S : Nat → Prop} {c : Nat} {A : Option Addr} {l : List Ac} (h : SlS w S A c l) {k : Nat} (hk : k < l.length) : ∃ b o, A = some ⟨b, o, none⟩ ∧ S b ∧ l[k].name.size ≤ maxLen ∧
    w.cell? ⟨b, o + k * 4, none⟩ = some (.string l[k].name) ∧ w.cell? ⟨b, o + k * 4 + 1, none⟩ = some (i64 l[k].hav) ∧ w.cell? ⟨b, o + k * 4 + 2, none⟩ = some (i64 l[k].set_) ∧ w.cell? ⟨b, o + k * 4 + 3, none⟩ = some (i64 l[k].lim) := by
  obtain ⟨b, o, hA, hb, hok, hc⟩ := h.at_ hk
  exact ⟨b, o, hA, hb, hok, hc 0 _ rfl, hc 1 _ rfl, hc 2 _ rfl, hc 3 _ rfl⟩
set_option maxRecDepth 100000 in
set_option maxHeartbeats 4000000 in
theorem rat_c (T : Nat → Prop) (g : Nat) (L : List Ac) (k : ByteArray) (w : World) (h : RcIs w T g L) (hL : L.length ≤ 65536) :
    Calls Tryz.prog 89 #[.pointer (some ⟨g, 0, none⟩), .string k] w fun e w' => e = .returned (i64 (idxA L k)) ∧ w = w' := by
  obtain ⟨A, c, hc, hs, hf⟩ := h
  have c0 := cell_of_row _ g 0 _ _ (0, 0) hc
  simp only [List.getElem?_toArray, List.getElem?_cons_zero] at c0
  clear hc hf
  go_enter Tryz.func89, Tryz.ntmps89
  go_wp2
  go_loop [5] (fun i => ∃ n : Nat, n ≤ L.length ∧ i = i64 n ∧ (∀ j (hj : j < L.length), j < n → L[j].name ≠ k)) (fun i => L.length - (intOf i).toNat)
  case atStart => exact ⟨0, Nat.zero_le _, rfl, by omega⟩
  case round =>
    obtain ⟨n, hn, rfl, hno⟩ := hrel
    by_cases hlt : n < L.length
    · obtain ⟨b, o, rfl, hb, _, d0, _⟩ := hs.ac hlt
      have Hno := Lib.hid hno
      clear hno hs
      have i0 : (0 : Int) ≤ (n : Int) := by omega
      have i1 : (n : Int) < (L.length : Int) := by omega
      have hg := fun (j : Nat) (hj : j < L.length) => Hno.out j hj
      clear hg
      by_cases heq : L[n].name = k
      · have e1 := beqS_of_eq heq
        have Heq := Lib.hid heq
        clear heq
        go_wp2
        go_ret
        exact ⟨by rw [show idxA L k = n from idxP_hit hlt (by simpa using Heq.out) (fun j hj h => by simpa using Hno.out j hj h)]; rfl, rfl⟩
      · have e1 := beqS_of_ne heq
        have Heq := Lib.hid heq
        clear heq
        go_wp2
        go_round
        case rel => exact ⟨n + 1, by omega, by go_num, fun j hj h => by
            rcases Nat.lt_succ_iff_lt_or_eq.1 h with h | rfl
            · exact Hno.out j hj h
            · exact Heq.out⟩
        case measure => simp [intOf]; omega
    · have hkl : n = L.length := by omega
      subst hkl
      go_wp2
      go_ret
      exact ⟨by rw [show idxA L k = -1 from idxP_miss (fun j hj => by simpa using hno j hj hj)]; rfl, rfl⟩
set_option maxRecDepth 100000 in
set_option maxHeartbeats 4000000 in
theorem rfree_c (a : Ac) (x : Int) (w : World) (ha : InA a) (h0 : 0 ≤ a.set_) (hx : R64 x) :
    Calls Tryz.prog 95 #[a.v, i64 x] w fun e w' => e = .returned (.bool (freeA a x)) ∧ Below w.heap.size w w' := by
  have hb0 := (Below.refl w.heap.size w).alloc (Nat.le_refl _) (.cells #[.string a.name, i64 a.hav, i64 a.set_, i64 a.lim] 70)
  have hg := heap_alloc_new w (.cells #[.string a.name, i64 a.hav, i64 a.set_, i64 a.lim] 70)
  have k3 := cell_of_row _ w.heap.size 3 _ _ (0, 0) hg
  simp only [List.getElem?_toArray, List.getElem?_cons_zero, List.getElem?_cons_succ] at k3
  have hz : w.heap.size < (w.alloc (.cells #[.string a.name, i64 a.hav, i64 a.set_, i64 a.lim] 70)).heap.size := by simp
  obtain ⟨h1, h2, h3, h4⟩ := ha
  unfold R64 at h2
  have hS := (own_lit (w := w.alloc (.cells #[.string a.name, i64 a.hav, i64 a.set_, i64 a.lim] 70)) (base := w.heap.size) 2 #[i64 a.hav, i64 (-a.set_)] [a.hav, -a.set_] (by simp) rfl (by simp) (fun _ _ => trivial)).sl_of
  have hb1 := hb0.alloc (by simp) (.cells #[i64 a.hav, i64 (-a.set_)] 2)
  have hz1 : w.heap.size < ((w.alloc (.cells #[.string a.name, i64 a.hav, i64 a.set_, i64 a.lim] 70)).alloc (.cells #[i64 a.hav, i64 (-a.set_)] 2)).heap.size := by simp; omega
  have k3' := (World.cell?_alloc_lt _ (.cells #[i64 a.hav, i64 (-a.set_)] 2) ⟨w.heap.size, 3, none⟩ hz).trans k3
  rw [show (w.alloc (.cells #[.string a.name, i64 a.hav, i64 a.set_, i64 a.lim] 70)).heap.size = w.heap.size + 1 by simp] at hS
  have L1 : Calls Tryz.prog 137 #[.slice (some ⟨w.heap.size + 1, 0, none⟩) 2 2] _ _ := (rtotal_c _ _ [a.hav, -a.set_] _ hS (by simp) (by
    intro y hy
    simp only [List.mem_cons, List.not_mem_nil, or_false] at hy
    rcases hy with rfl | rfl
    · exact h1
    · unfold R64; omega))
  have L1 := Lib.hid L1
  simp only [show sumL [a.hav, -a.set_] = a.hav - a.set_ by simp only [sumL]; omega] at L1
  have L2 := Lib.hid fun W => rless_c (sumR (a.hav - a.set_)).1 x W (sumR_R64 _) hx
  have hw : wrap64 (-a.lim) = -a.lim := by rw [← IntWalk.i64_left, IntKind.wrap_i64]; omega
  have hw2 : wrap64 (-a.set_) = -a.set_ := by rw [← IntWalk.i64_left, IntKind.wrap_i64]; omega
  have HD := Lib.hid (show freeA a x = (decide ((sumR (a.hav - a.set_)).2 = 0) && (decide ((sumR ((sumR (a.hav - a.set_)).1 - x)).2 = 0) && decide (-a.lim ≤ (sumR ((sumR (a.hav - a.set_)).1 - x)).1))) from rfl)
  generalize freeA a x = F at *
  generalize sumR (a.hav - a.set_) = r1 at *
  generalize sumR (r1.1 - x) = r2 at *
  clear hg h1 h2 hS h0 k3 hz hb0
  go_enter Tryz.func95, Tryz.ntmps95
  go_wp2_with fail
  generalize (w.alloc (.cells #[.string a.name, i64 a.hav, i64 a.set_, i64 a.lim] 70)).alloc (.cells #[i64 a.hav, i64 (-a.set_)] 2) = w0 at *
  with_reducible refine L1.out.mono ?_
  rintro e w1 ⟨rfl, hF⟩
  have k3 := (hF.cell (p := ⟨w.heap.size, 3, none⟩) hz1).trans k3'
  have hb2 := below_on hb1 (Nat.le_refl _) hF
  have hz := Nat.lt_of_lt_of_le hz1 hF.size
  clear hF L1 hb1 hz1 k3'
  by_cases e1 : r1.2 = 0
  · have g1 : (r1.2 != 0) = false := by rw [e1]; rfl
    have E1 := Lib.hid (decide_eq_true e1)
    clear e1
    go_wp2_with fail
    refine (L2.out _).mono ?_
    rintro e w2 ⟨rfl, hF⟩
    have k3 := (hF.cell (p := ⟨w.heap.size, 3, none⟩) hz).trans k3
    have hb2 := below_on hb2 (Nat.le_refl _) hF
    clear hF L2
    by_cases e2 : r2.2 = 0
    · have g2 : (r2.2 == 0) = true := by rw [e2]; rfl
      have E2 := Lib.hid (decide_eq_true e2)
      clear e2
      by_cases e3 : -a.lim ≤ r2.1
      · have g3 : decide (-a.lim ≤ r2.1) = true := decide_eq_true e3
        have HF := Lib.hid (show F = true by rw [HD.out, E1.out, E2.out, g3]; rfl)
        clear e3
        go_wp2
        go_ret
        exact ⟨by rw [HF.out]; rfl, hb2⟩
      · have g3 : decide (-a.lim ≤ r2.1) = false := decide_eq_false e3
        have HF := Lib.hid (show F = false by rw [HD.out, E1.out, E2.out, g3]; rfl)
        clear e3
        go_wp2
        go_ret
        exact ⟨by rw [HF.out]; rfl, hb2⟩
    · have g2 : (r2.2 == 0) = false := beq_eq_false_iff_ne.2 e2
      have HF := Lib.hid (show F = false by rw [HD.out, E1.out, decide_eq_false e2]; rfl)
      clear e2
      go_wp2
      go_ret
      exact ⟨by rw [HF.out]; rfl, hb2⟩
  · have g1 : (r1.2 != 0) = true := by simpa using e1
    have HF := Lib.hid (show F = false by rw [HD.out, decide_eq_false e1]; rfl)
    clear e1
    go_wp2
    go_ret
    exact ⟨by rw [HF.out]; rfl, hb2⟩
section
variable {α : Type} [Enc α] {w : World} {base : Nat} {e : TypeId} {v : Value} {l : List α}
/-- a row of the call's own, as a slice in blocks of T -/
theorem Own.slT {T : Nat → Prop} (h : Own w base e v l) (hT : ∀ k, base ≤ k → T k) (hok : ∀ x ∈ l, Enc.ok w (fun k => k < w.heap.size ∧ T k) x) : ∃ A c, v = .slice A l.length c ∧ SlS w (fun k => k < w.heap.size ∧ T k) A c l ∧ FormA A c := by
  obtain ⟨A, c, rfl, hs⟩ := h.sl
  have hf : FormA A c := by
    rcases h.1.2 with ⟨h1, _⟩ | ⟨g, cap, cur, h1, _⟩
    · injection h1 with h1 h2 h3
      exact .inl ⟨h1, h3⟩
    · injection h1 with h1 h2 h3
      exact .inr ⟨_, _, h1⟩
  refine ⟨A, c, rfl, ⟨hs.1, hs.2.1, fun hn => ?_, hok⟩, hf⟩
  obtain ⟨b, o, rfl, hb, hc⟩ := hs.2.2.1 hn
  exact ⟨b, o, rfl, ⟨hb, hT b (h.1.lt b rfl).1⟩, hc⟩
/-- one cell of an element turned -/
theorem Own.set_cell {g n cap : Nat} (h : Own w base e (.slice (some ⟨g, 0, none⟩) n cap) l) {i : Nat} (hi : i < l.length) (j : Nat) (hj : j < Enc.size α) (u : Value) (x : α) (hx : Enc.cells x = (Enc.cells l[i]).set j u) (hok : Enc.ok w (Oth w (.slice (some ⟨g, 0, none⟩) n cap)) x) :
    Own (w.setCell ⟨g, i * Enc.size α + j, none⟩ u) base e (.slice (some ⟨g, 0, none⟩) n cap) (l.set i x) ∧ w.grownBy (w.setCell ⟨g, i * Enc.size α + j, none⟩ u) (some g) := by
  obtain ⟨cur, hg, hb, hn, hc, hm, hz, ht⟩ := h.cells
  have hgr := grown_setCell (World.grownBy.refl w (some g)) (p := ⟨g, i * Enc.size α + j, none⟩) (.inl rfl) u
  have hset := heap_setCell_same w g (i * Enc.size α + j) cur e u hg
  have hi2 : i * Enc.size α + Enc.size α ≤ n * Enc.size α := by rw [← Nat.succ_mul]; exact Nat.mul_le_mul_right _ (by omega)
  refine ⟨⟨⟨by rw [flat_len], .inr ⟨g, cap, _, by rw [List.length_set, ← hn], hb, hset, by rw [List.length_set]; omega, hm, by simp [hz], ?_⟩⟩, fun y hy => ?_⟩, hgr⟩
  · rw [List.length_set, ← hn, Array.toList_setIfInBounds, List.take_set, ht, flat_set l i x hi, hx]
    apply List.ext_getElem?
    intro t
    have hfl : (l.flatMap Enc.cells).length = l.length * Enc.size α := flat_len l
    rw [List.getElem?_set]
    have h1 : (List.take (i * Enc.size α) (l.flatMap Enc.cells)).length = i * Enc.size α := by rw [List.length_take, hfl, ← hn]; omega
    have h2 : ((Enc.cells l[i]).set j u).length = Enc.size α := by rw [List.length_set, Enc.len]
    rw [List.append_assoc]
    by_cases c1 : t < i * Enc.size α
    · rw [if_neg (by omega), List.getElem?_append_left (by omega), List.getElem?_take_of_lt c1]
    · rw [List.getElem?_append_right (by omega), h1]
      by_cases c2 : t < i * Enc.size α + Enc.size α
      · rw [List.getElem?_append_left (by omega), List.getElem?_set]
        have hfg := flat_get l i (t - i * Enc.size α) hi (by omega)
        rw [show i * Enc.size α + (t - i * Enc.size α) = t by omega] at hfg
        by_cases c3 : i * Enc.size α + j = t
        · rw [if_pos c3, if_pos (by rw [hfl, ← hn]; omega), if_pos (by omega), if_pos (by rw [Enc.len]; omega)]
        · rw [if_neg c3, if_neg (by omega), hfg]
      · rw [if_neg (by omega), List.getElem?_append_right (by omega), h2, List.getElem?_drop]
        congr 1
        rw [Nat.add_mul, Nat.one_mul]
        omega
  · rcases List.mem_or_eq_of_mem_set hy with hy | rfl
    · exact Enc.keep (h.2 y hy) (fun p hp => World.cell?_of_block (hgr.block _ hp.1 hp.2)) (fun b hb => ⟨Nat.lt_of_lt_of_le hb.1 hgr.size, hb.2⟩)
    · exact Enc.keep hok (fun p hp => World.cell?_of_block (hgr.block _ hp.1 hp.2)) (fun b hb => ⟨Nat.lt_of_lt_of_le hb.1 hgr.size, hb.2⟩)
end
/-- behind growth alone -/
theorem SlS.below_ {α : Type} [Enc α] {w w' : World} {T : Nat → Prop} {A : Option Addr} {c : Nat} {l : List α} (h : SlS w (fun k => k < w.heap.size ∧ T k) A c l) (hb : Below w.heap.size w w') : SlS w' (fun k => k < w'.heap.size ∧ T k) A c l :=
  h.keep (fun _ hp => hb.cell hp.1) (fun _ hb' => ⟨Nat.lt_of_lt_of_le hb'.1 hb.size, hb'.2⟩)
end Go.Proofs.YtmljlkjomjflpaaGreat

/- ref05: Give, Aside -/
namespace Go.Proofs.YtmljlkjomjflpaaGreat
open Go.RowKit
theorem acInfo : (Tryz.prog.info? 70).map (fun i => (i.zero, i.size, i.bytes)) = some (some (.agg #[.string ByteArray.empty, i64 0, i64 0, i64 0]), Enc.size Ac, 40) := by kernel_rfl
/-- the copied accounts, one of them turned, stand in the chart of block g -/
theorem rc_done {w w1 w2 : World} {T : Nat → Prop} {g gb cap : Nat} {L : List Ac} {V0 : Value} (HB2 : Below w.heap.size w w2) (hB1 : w.heap.size ≤ w1.heap.size) (hlg : g < w.heap.size) (hT : ∀ k, w.heap.size ≤ k → T k) (hok : ∀ x ∈ L, x.name.size ≤ maxLen)
    (hcg : w2.heap[g]? = some (.cells #[V0] 49 (0, 0))) (hO : Own w2 w1.heap.size 70 (.slice (some ⟨gb, 0, none⟩) L.length cap) L)
    {n : Nat} (hn : n < L.length) (j : Nat) (hj : j < 4) (u : Value) (a : Ac) (ha : Enc.cells a = (Enc.cells L[n]).set j u) (hao : a.name.size ≤ maxLen) :
    RcIs ((w2.setCell ⟨g, 0, none⟩ (.slice (some ⟨gb, 0, none⟩) L.length cap)).setCell ⟨gb, n * 4 + j, none⟩ u) T g (L.set n a) ∧ w.grownBy ((w2.setCell ⟨g, 0, none⟩ (.slice (some ⟨gb, 0, none⟩) L.length cap)).setCell ⟨gb, n * 4 + j, none⟩ u) (some g) := by
  have hgb := (hO.1.lt gb rfl).1
  have hne : gb ≠ g := by omega
  have hg3 := heap_setCell_same w2 g 0 _ _ (.slice (some ⟨gb, 0, none⟩) L.length cap) hcg
  have hgr := grown_setCell (World.grownBy.refl w2 (some g)) (p := ⟨g, 0, none⟩) (.inl rfl) (.slice (some ⟨gb, 0, none⟩) L.length cap)
  have hO3 := hO.grown hgr (.inr (fun e => hne (by injection e))) (fun x hx => hok x hx)
  obtain ⟨hO4, hgr4⟩ := hO3.set_cell hn j hj u a ha hao
  refine ⟨?_, grown_setCell (grown_setCell (grown_of_below HB2 (some g)) (p := ⟨g, 0, none⟩) (.inl rfl) _) (p := ⟨gb, n * 4 + j, none⟩) (.inr (Nat.le_trans hB1 hgb)) u⟩
  obtain ⟨A, c, hv, hs, hf⟩ := hO4.slT (T := T) (fun k hk => hT k (Nat.le_trans hB1 hk)) (fun x hx => by
    rcases List.mem_or_eq_of_mem_set hx with hx | rfl
    · exact hok x hx
    · exact hao)
  refine ⟨A, c, ?_, hs, hf⟩
  have h2 := (hgr4.block g (Array.getElem?_eq_some_iff.1 hg3).1 (fun e => hne (by injection e with e; exact e.symm))).trans hg3
  have e5 : (#[V0] : Array Value).setIfInBounds 0 (.slice (some ⟨gb, 0, none⟩) L.length cap) = #[.slice A (L.set n a).length c] := by rw [← hv]; rfl
  rw [e5] at h2
  exact h2
set_option maxRecDepth 100000 in
set_option maxHeartbeats 8000000 in
theorem rgive_c (T : Nat → Prop) (g : Nat) (L : List Ac) (k : ByteArray) (x : Int) (w : World) (h : RcIs w T g L) (hL : L.length ≤ 65536) (hk : OkA L) (hS : SrtL ltA L) (hx : R64 x) (hTn : ∀ k, w.heap.size ≤ k → T k) (hTg : ¬ T g) :
    Calls Tryz.prog 55 #[.pointer (some ⟨g, 0, none⟩), .string k, i64 x] w fun e w' => e = .returned (i64 (turnL (givD x) L k x).1) ∧ RcIs w' T g (turnL (givD x) L k x).2 ∧ w.grownBy w' (some g) := by
  have hA := Lib.hid (rat_c T g L k w h hL)
  have H := Lib.hid h
  have hlg := h.lt
  obtain ⟨A, c, hc, hs, hf⟩ := h
  have c0 := cell_of_row _ g 0 _ _ (0, 0) hc
  simp only [List.getElem?_toArray, List.getElem?_cons_zero] at c0
  obtain ⟨R, hR⟩ : ∃ R, turnL (givD x) L k x = R := ⟨_, rfl⟩
  rw [hR]
  rcases idxA_get (L := L) (k := k) with ⟨h1, h2⟩ | ⟨n, hn, h1, h2, h3⟩
  · have HR := Lib.hid (show R = (6, L) by rw [← hR]; unfold turnL; rw [h2])
    clear h2 hc hR hf
    generalize idxA L k = i at *
    have g1 : decide (i < 0) = true := decide_eq_true h1
    go_enter Tryz.func55, Tryz.ntmps55
    go_wp2_with fail
    refine hA.out.mono ?_
    rintro e w1 ⟨rfl, rfl⟩
    go_wp2
    go_ret
    exact ⟨by rw [HR.out]; rfl, by rw [HR.out]; exact H.out, World.grownBy.refl _ _⟩
  · rw [h1] at hA
    have hLn := Lib.hid (show turnL (givD x) L k x = if (givD x L[n]).2 ≠ 0 then ((givD x L[n]).2, L) else if 0 < x ∧ freeA L[n] x = false then (9, L) else if (givD x L[n]).1.set_ < 0 then (13, L) else (0, L.set n (givD x L[n]).1) by
      unfold turnL
      rw [h2, ← setK_set keyA hS hn (show L[n].name = (givD x L[n]).1.name from rfl)])
    have hka := hk _ (List.getElem_mem hn)
    obtain ⟨hIn, hs0, hnm⟩ := hka
    have hok := Lib.hid (fun y hy => hs.2.2.2 y hy)
    have hmem := Lib.hid (List.getElem_mem hn)
    obtain ⟨b, o, rfl, hb, _, d0, d1, d2, d3⟩ := hs.ac hn
    have g1 : decide ((n : Int) < 0) = false := decide_eq_false (by omega)
    have i0 : (0 : Int) ≤ (n : Int) := by omega
    have i1 : (n : Int) < (L.length : Int) := by omega
    have hlc : L.length ≤ c := hs.1
    have hHs := Lib.hid hs
    have HT := Lib.hid hTn
    have HG := Lib.hid hTg
    have L1 := Lib.hid fun W => rless_c L[n].hav x W hIn.1 hx
    have L2 := Lib.hid fun W => rfree_c L[n] x W hIn hs0 hx
    have hcg := Lib.hid hc
    have HU := Lib.hid (show R = _ from hR.symm.trans hLn.out)
    have HD := Lib.hid (show givD x L[n] = ({ L[n] with hav := (sumR (L[n].hav - x)).1 }, (sumR (L[n].hav - x)).2) from rfl)
    obtain ⟨a, ha⟩ : ∃ a, L[n] = a := ⟨_, rfl⟩
    rw [ha] at HU HD L1 L2 d0 d1 d2 d3 hs0 hnm hmem
    have Ha := Lib.hid ha
    have hfz := frozen_of_row _ g 0 _ _ hc
    clear hf h2 h1 hs h3 ha hLn hR hk hS hTn hTg hc hIn
    generalize givD x a = d at *
    generalize sumR (a.hav - x) = r at *
    obtain rfl := HD.out
    clear HD
    generalize freeA a x = f at *
    have HB := Lib.hid (Below.refl w.heap.size w)
    go_enter Tryz.func55, Tryz.ntmps55
    go_wp2_with fail
    refine hA.out.mono ?_
    rintro e w1 ⟨rfl, rfl⟩
    clear hA
    go_wp2_with fail
    refine (L1.out _).mono ?_
    rintro e w1 ⟨rfl, hF⟩
    have HB1 := Lib.hid hF
    have H1 := Lib.hid (H.out.later hF)
    have c0' := (hF.cell (p := ⟨g, 0, none⟩) hlg).trans c0
    have d0' := (hF.cell (p := ⟨b, o + n * 4, none⟩) hb.1).trans d0
    have d1' := (hF.cell (p := ⟨b, o + n * 4 + 1, none⟩) hb.1).trans d1
    have d2' := (hF.cell (p := ⟨b, o + n * 4 + 2, none⟩) hb.1).trans d2
    have d3' := (hF.cell (p := ⟨b, o + n * 4 + 3, none⟩) hb.1).trans d3
    clear hF L1 c0 d0 d1 d2 d3
    by_cases hr : r.2 = 0
    · have g2 : (r.2 != 0) = false := by rw [hr]; rfl
      have HU2 := Lib.hid (show R = (if 0 < x ∧ f = false then (9, L) else if ({ a with hav := r.1 } : Ac).set_ < 0 then (13, L) else (0, L.set n { a with hav := r.1 })) by rw [HU.out, if_neg (by simpa using hr)])
      clear hr HU
      by_cases hx0 : 0 < x
      · have g3 : decide ((0 : Int) < x) = true := decide_eq_true hx0
        have HX := Lib.hid hx0
        clear hx0
        go_wp2_with fail
        refine (L2.out _).mono ?_
        rintro e w2 ⟨rfl, hF⟩
        have HB2 := Lib.hid (below_on HB1.out (Nat.le_refl _) hF)
        have H2 := Lib.hid (H1.out.later hF)
        have c0' := (hF.cell (p := ⟨g, 0, none⟩) (Nat.lt_of_lt_of_le hlg HB1.out.size)).trans c0'
        clear hF L2 d0' d1' d2' d3' H1
        cases f with
        | false =>
          have HR := Lib.hid (show R = (9, L) by rw [HU2.out, if_pos ⟨HX.out, rfl⟩])
          clear HU2
          go_wp2
          go_ret
          exact ⟨by rw [HR.out]; rfl, by rw [HR.out]; exact H2.out, grown_of_below HB2.out _⟩
        | true =>
          have HU3 := Lib.hid (show R = (if ({ a with hav := r.1 } : Ac).set_ < 0 then (13, L) else (0, L.set n { a with hav := r.1 })) by rw [HU2.out, if_neg (fun h => absurd h.2 (by decide))])
          clear HU2
          have HB1 := HB2
          have H1 := H2
          clear HB2 H2
          have HR := Lib.hid (show R = (0, L.set n { a with hav := r.1 }) by rw [HU3.out, if_neg (by show ¬ a.set_ < 0; omega)])
          clear HU3
          have hcg1 := Lib.hid ((HB1.out.block _ hlg).trans hcg.out)
          have hfz1 := frozen_of_row _ g 0 _ _ hcg1.out
          have hsl := Lib.hid (show SlS _ (Oth _ (.slice none 0 0)) (some ⟨b, o, none⟩) c L from (hHs.out.keep (fun p hp => HB1.out.cell hp.1) (fun b hb => ⟨Nat.lt_of_lt_of_le hb.1 HB1.out.size, by simp [Value.ownBlock]⟩)))
          have hBs := HB1.out.size
          clear hfz
          go_wp2_with (at_builtin; refine wpList_append_slice rfl (some 50) (.const (.slice none 0 0)) (.tmp 49) 46 rfl rfl (.agg #[.string ByteArray.empty, i64 0, i64 0, i64 0]) 40 Tryz.underlying46 acInfo rfl (by decide) (by decide) rfl (Own.nil_ _ _ 70) (some ⟨b, o, none⟩) L.length c L rfl rfl hsl.out (by simp <;> omega) (Nat.le_refl _) ?_; intro v2 w2 hO2 hg2 hat2; rw [List.nil_append] at hO2; have hF2 := (Own.nil_ (α := Ac) _ _ 70).below hg2 (Nat.le_refl _) (Nat.le_refl _); obtain ⟨gb, cap, cur, hv2, hgb, hrow, hcap, -, hcs, -⟩ := hO2.form (by omega); subst hv2; have hO3 := Lib.hid hO2; have hcg2 := Lib.hid ((hF2.block g (Nat.lt_of_lt_of_le hlg HB1.out.size)).trans hcg1.out); have hfz2 := frozen_of_row _ g 0 _ _ hcg2.out; have c02 := (hF2.cell (p := ⟨g, 0, none⟩) (Nat.lt_of_lt_of_le hlg HB1.out.size)).trans c0'; have hat : w2.cell? ⟨gb, n * 4 + 1, none⟩ = some (i64 L[n].hav) := hO2.at_ hn 1 _ rfl;  have hfr := hO2.free (n * 4 + 1); have hHB2 := Lib.hid (below_on HB1.out (Nat.le_refl _) hF2); have hlr := Lib.hid (Array.getElem?_eq_some_iff.1 hrow).1; have hne : gb ≠ g := (by omega); clear hO2 hg2 hat2 hF2 hrow hcs)
          have hDone := Lib.hid (rc_done hHB2.out hBs hlg HT.out hok.out hcg2.out hO3.out hn 1 (by decide) (i64 r.1) { L[n] with hav := r.1 } rfl (hok.out L[n] (List.getElem_mem hn)))
          go_wp2
          go_ret
          exact ⟨by rw [HR.out]; rfl, by rw [HR.out]; rw [Ha.out] at hDone; exact hDone.out.1, hDone.out.2⟩
      · have g3 : decide ((0 : Int) < x) = false := decide_eq_false hx0
        have HU3 := Lib.hid (show R = (if ({ a with hav := r.1 } : Ac).set_ < 0 then (13, L) else (0, L.set n { a with hav := r.1 })) by rw [HU2.out, if_neg (fun h => hx0 h.1)])
        clear hx0 HU2 d0' d1' d2' d3' L2
        have HR := Lib.hid (show R = (0, L.set n { a with hav := r.1 }) by rw [HU3.out, if_neg (by show ¬ a.set_ < 0; omega)])
        clear HU3
        have hcg1 := Lib.hid ((HB1.out.block _ hlg).trans hcg.out)
        have hfz1 := frozen_of_row _ g 0 _ _ hcg1.out
        have hsl := Lib.hid (show SlS _ (Oth _ (.slice none 0 0)) (some ⟨b, o, none⟩) c L from (hHs.out.keep (fun p hp => HB1.out.cell hp.1) (fun b hb => ⟨Nat.lt_of_lt_of_le hb.1 HB1.out.size, by simp [Value.ownBlock]⟩)))
        have hBs := HB1.out.size
        clear hfz
        go_wp2_with (at_builtin; refine wpList_append_slice rfl (some 50) (.const (.slice none 0 0)) (.tmp 49) 46 rfl rfl (.agg #[.string ByteArray.empty, i64 0, i64 0, i64 0]) 40 Tryz.underlying46 acInfo rfl (by decide) (by decide) rfl (Own.nil_ _ _ 70) (some ⟨b, o, none⟩) L.length c L rfl rfl hsl.out (by simp <;> omega) (Nat.le_refl _) ?_; intro v2 w2 hO2 hg2 hat2; rw [List.nil_append] at hO2; have hF2 := (Own.nil_ (α := Ac) _ _ 70).below hg2 (Nat.le_refl _) (Nat.le_refl _); obtain ⟨gb, cap, cur, hv2, hgb, hrow, hcap, -, hcs, -⟩ := hO2.form (by omega); subst hv2; have hO3 := Lib.hid hO2; have hcg2 := Lib.hid ((hF2.block g (Nat.lt_of_lt_of_le hlg HB1.out.size)).trans hcg1.out); have hfz2 := frozen_of_row _ g 0 _ _ hcg2.out; have c02 := (hF2.cell (p := ⟨g, 0, none⟩) (Nat.lt_of_lt_of_le hlg HB1.out.size)).trans c0'; have hat : w2.cell? ⟨gb, n * 4 + 1, none⟩ = some (i64 L[n].hav) := hO2.at_ hn 1 _ rfl;  have hfr := hO2.free (n * 4 + 1); have hHB2 := Lib.hid (below_on HB1.out (Nat.le_refl _) hF2); have hlr := Lib.hid (Array.getElem?_eq_some_iff.1 hrow).1; have hne : gb ≠ g := (by omega); clear hO2 hg2 hat2 hF2 hrow hcs)
        have hDone := Lib.hid (rc_done hHB2.out hBs hlg HT.out hok.out hcg2.out hO3.out hn 1 (by decide) (i64 r.1) { L[n] with hav := r.1 } rfl (hok.out L[n] (List.getElem_mem hn)))
        go_wp2
        go_ret
        exact ⟨by rw [HR.out]; rfl, by rw [HR.out]; rw [Ha.out] at hDone; exact hDone.out.1, hDone.out.2⟩
    · have g2 : (r.2 != 0) = true := by simpa using hr
      have HR := Lib.hid (show R = (r.2, L) by rw [HU.out, if_pos hr])
      clear hr HU
      go_wp2
      go_ret
      exact ⟨by rw [HR.out]; rfl, by rw [HR.out]; exact H1.out, grown_of_below HB1.out _⟩
end Go.Proofs.YtmljlkjomjflpaaGreat
