/- ref05.At, Free, Get -/
import Derived.Test.YthmgchohbdlonaaGreatRows
import Derived.Test.YthmgchohbdlonaaGreatChA
import Derived.Test.YthmgchohbdlonaaGreatRf01B
import Derived.WalkKit
import Derived.WalkSpells
import Derived.WalkLawsBesides
import Derived.Deep.QuietTactic
import Derived.BigQuiet
import Derived.Laws.StructEq
import Derived.Deep.DeepFit
import Derived.StillTailTactics
namespace Go.Proofs.YthmgchohbdlonaaGreat
open Go.RowKit
/-- a slice's address, as the model makes them -/
def FormA (A : Option Addr) (c : Nat) : Prop := (A = none ∧ c = 0) ∨ ∃ b o, A = some ⟨b, o, none⟩
/-- block g holds a reference's chart: the accounts L; they lie in blocks of T -/
def RcIs (w : World) (T : Nat → Prop) (g : Nat) (L : List Ac) : Prop := ∃ A c, w.heap[g]? = some (.cells #[.slice A L.length c] 49 (0, 0)) ∧ SlS w (fun k => k < w.heap.size ∧ T k) A c L ∧ FormA A c
theorem RcIs.kept {w w' : World} {T S : Nat → Prop} {g : Nat} {L : List Ac} (h : RcIs w T g L) (hk : Gr w w' S) (h1 : ¬ S g) (h2 : ∀ k, T k → ¬ S k) : RcIs w' T g L := by
  obtain ⟨A, c, hc, hs, hf⟩ := h
  refine ⟨A, c, (hk.block g (Array.getElem?_eq_some_iff.1 hc).1 h1).trans hc, (hs.grs hk fun b hb => ⟨hb.1, h2 b hb.2⟩).mono fun b hb => ⟨Nat.lt_of_lt_of_le hb.1 hk.size, hb.2⟩, hf⟩
theorem RcIs.later {w w' : World} {T : Nat → Prop} {g : Nat} {L : List Ac} (h : RcIs w T g L) (hb : Below w.heap.size w w') : RcIs w' T g L := h.kept (Gr.of_below hb (fun _ => False)) id (fun _ _ => id)
theorem RcIs.lt {w : World} {T : Nat → Prop} {g : Nat} {L : List Ac} (h : RcIs w T g L) : g < w.heap.size := by
  obtain ⟨A, c, hc, hs, hf⟩ := h
  exact (Array.getElem?_eq_some_iff.1 hc).1
abbrev idxA (L : List Ac) (k : ByteArray) : Int := idxP (fun a => decide (a.name = k)) L
theorem idxA_get {L : List Ac} {k : ByteArray} : (idxA L k < 0 ∧ getK Ac.name L k = none) ∨ ∃ (n : Nat) (h : n < L.length), idxA L k = n ∧ getK Ac.name L k = some L[n] ∧ L[n].name = k := by
  unfold idxA idxP getK
  rw [List.find?_eq_bind_findIdx?_getElem?]
  cases h : L.findIdx? fun a => decide (a.name = k) with
  | none => exact .inl ⟨by decide, rfl⟩
  | some n =>
    obtain ⟨h1, h2, _⟩ := List.findIdx?_eq_some_iff_getElem.1 h
    exact .inr ⟨n, h1, rfl, by simp [List.getElem?_eq_getElem h1], by simpa using h2⟩
theorem SlS.ac {w : World} {S : Nat → Prop} {c : Nat} {A : Option Addr} {l : List Ac} (h : SlS w S A c l) {k : Nat} (hk : k < l.length) : ∃ b o, A = some ⟨b, o, none⟩ ∧ S b ∧ l[k].name.size ≤ maxLen ∧
    w.cell? ⟨b, o + k * 4, none⟩ = some (.string l[k].name) ∧ w.cell? ⟨b, o + k * 4 + 1, none⟩ = some (i64 l[k].hav) ∧ w.cell? ⟨b, o + k * 4 + 2, none⟩ = some (i64 l[k].set_) ∧ w.cell? ⟨b, o + k * 4 + 3, none⟩ = some (i64 l[k].lim) := by
  obtain ⟨b, o, hA, hb, hok, hc⟩ := h.at_ hk
  exact ⟨b, o, hA, hb, hok, hc 0 _ rfl, hc 1 _ rfl, hc 2 _ rfl, hc 3 _ rfl⟩
set_option maxRecDepth 100000 in
set_option maxHeartbeats 4000000 in
theorem rat_c (T : Nat → Prop) (g : Nat) (L : List Ac) (k : ByteArray) (w : World) (h : RcIs w T g L) (hL : L.length ≤ 65536) :
    Calls Tryz.prog 49 #[.pointer (some ⟨g, 0, none⟩), .string k] w fun e w' => e = .returned (i64 (idxA L k)) ∧ w = w' := by
  obtain ⟨A, c, hc, hs, hf⟩ := h
  have c0 := cell_of_row _ g 0 _ _ (0, 0) hc
  simp only [List.getElem?_toArray, List.getElem?_cons_zero] at c0
  clear hc hf
  go_enter Tryz.func49, Tryz.ntmps49
  go_wp2
  go_loop [5] (fun i => ∃ n : Nat, n ≤ L.length ∧ i = i64 n ∧ (∀ j (hj : j < L.length), j < n → L[j].name ≠ k)) (fun i => L.length - (intOf i).toNat)
  case atStart => exact ⟨0, Nat.zero_le _, rfl, by omega⟩
  case round =>
    obtain ⟨n, hn, rfl, hno⟩ := hrel
    by_cases hlt : n < L.length
    · obtain ⟨b, o, rfl, hb, _, d0, _⟩ := hs.ac hlt
      have Hno := Lib.hid hno
      clear hno hs
      have i0 : (0 : Int) ≤ (n : Int) := by omega
      have i1 : (n : Int) < (L.length : Int) := by omega
      have hg := fun (j : Nat) (hj : j < L.length) => Hno.out j hj
      clear hg
      by_cases heq : L[n].name = k
      · have e1 := beqS_of_eq heq
        have Heq := Lib.hid heq
        clear heq
        go_wp2
        go_ret
        exact ⟨by rw [show idxA L k = n from idxP_hit hlt (by simpa using Heq.out) (fun j hj h => by simpa using Hno.out j hj h)]; rfl, rfl⟩
      · have e1 := beqS_of_ne heq
        have Heq := Lib.hid heq
        clear heq
        go_wp2
        go_round
        case rel => exact ⟨n + 1, by omega, by go_num, fun j hj h => by
            rcases Nat.lt_succ_iff_lt_or_eq.1 h with h | rfl
            · exact Hno.out j hj h
            · exact Heq.out⟩
        case measure => simp [intOf]; omega
    · have hkl : n = L.length := by omega
      subst hkl
      go_wp2
      go_ret
      exact ⟨by rw [show idxA L k = -1 from idxP_miss (fun j hj => by simpa using hno j hj hj)]; rfl, rfl⟩
set_option maxRecDepth 100000 in
set_option maxHeartbeats 4000000 in
theorem rfree_c (a : Ac) (x : Int) (w : World) (ha : InA a) (h0 : 0 ≤ a.set_) (hx : R64 x) :
    Calls Tryz.prog 55 #[a.v, i64 x] w fun e w' => e = .returned (.bool (freeA a x)) ∧ Below w.heap.size w w' := by
  have hb0 := (Below.refl w.heap.size w).alloc (Nat.le_refl _) (.cells #[.string a.name, i64 a.hav, i64 a.set_, i64 a.lim] 52)
  have hg := heap_alloc_new w (.cells #[.string a.name, i64 a.hav, i64 a.set_, i64 a.lim] 52)
  have k3 := cell_of_row _ w.heap.size 3 _ _ (0, 0) hg
  simp only [List.getElem?_toArray, List.getElem?_cons_zero, List.getElem?_cons_succ] at k3
  have hz : w.heap.size < (w.alloc (.cells #[.string a.name, i64 a.hav, i64 a.set_, i64 a.lim] 52)).heap.size := by simp
  obtain ⟨h1, h2, h3, h4⟩ := ha
  unfold R64 at h2
  have hS := (own_lit (w := w.alloc (.cells #[.string a.name, i64 a.hav, i64 a.set_, i64 a.lim] 52)) (base := w.heap.size) 2 #[i64 a.hav, i64 (-a.set_)] [a.hav, -a.set_] (by simp) rfl (by simp) (fun _ _ => trivial)).sl_of
  have hb1 := hb0.alloc (by simp) (.cells #[i64 a.hav, i64 (-a.set_)] 2)
  have hz1 : w.heap.size < ((w.alloc (.cells #[.string a.name, i64 a.hav, i64 a.set_, i64 a.lim] 52)).alloc (.cells #[i64 a.hav, i64 (-a.set_)] 2)).heap.size := by simp; omega
  have k3' := (World.cell?_alloc_lt _ (.cells #[i64 a.hav, i64 (-a.set_)] 2) ⟨w.heap.size, 3, none⟩ hz).trans k3
  rw [show (w.alloc (.cells #[.string a.name, i64 a.hav, i64 a.set_, i64 a.lim] 52)).heap.size = w.heap.size + 1 by simp] at hS
  have L1 : Calls Tryz.prog 80 #[.slice (some ⟨w.heap.size + 1, 0, none⟩) 2 2] _ _ := (rtotal_c _ _ [a.hav, -a.set_] _ hS (by simp) (by
    intro y hy
    simp only [List.mem_cons, List.not_mem_nil, or_false] at hy
    rcases hy with rfl | rfl
    · exact h1
    · unfold R64; omega))
  have L1 := Lib.hid L1
  simp only [show sumL [a.hav, -a.set_] = a.hav - a.set_ by simp only [sumL]; omega] at L1
  have L2 := Lib.hid fun W => rless_c (sumR (a.hav - a.set_)).1 x W (sumR_R64 _) hx
  have hw : wrap64 (-a.lim) = -a.lim := by rw [← IntWalk.i64_left, IntKind.wrap_i64]; omega
  have hw2 : wrap64 (-a.set_) = -a.set_ := by rw [← IntWalk.i64_left, IntKind.wrap_i64]; omega
  have HD := Lib.hid (show freeA a x = (decide ((sumR (a.hav - a.set_)).2 = 0) && (decide ((sumR ((sumR (a.hav - a.set_)).1 - x)).2 = 0) && decide (-a.lim ≤ (sumR ((sumR (a.hav - a.set_)).1 - x)).1))) from rfl)
  generalize freeA a x = F at *
  generalize sumR (a.hav - a.set_) = r1 at *
  generalize sumR (r1.1 - x) = r2 at *
  clear hg h1 h2 hS h0 k3 hz hb0
  go_enter Tryz.func55, Tryz.ntmps55
  go_wp2_with fail
  generalize (w.alloc (.cells #[.string a.name, i64 a.hav, i64 a.set_, i64 a.lim] 52)).alloc (.cells #[i64 a.hav, i64 (-a.set_)] 2) = w0 at *
  with_reducible refine L1.out.mono ?_
  rintro e w1 ⟨rfl, hF⟩
  have k3 := (hF.cell (p := ⟨w.heap.size, 3, none⟩) hz1).trans k3'
  have hb2 := below_on hb1 (Nat.le_refl _) hF
  have hz := Nat.lt_of_lt_of_le hz1 hF.size
  clear hF L1 hb1 hz1 k3'
  by_cases e1 : r1.2 = 0
  · have g1 : (r1.2 != 0) = false := by rw [e1]; rfl
    have E1 := Lib.hid (decide_eq_true e1)
    clear e1
    go_wp2_with fail
    refine (L2.out _).mono ?_
    rintro e w2 ⟨rfl, hF⟩
    have k3 := (hF.cell (p := ⟨w.heap.size, 3, none⟩) hz).trans k3
    have hb2 := below_on hb2 (Nat.le_refl _) hF
    clear hF L2
    by_cases e2 : r2.2 = 0
    · have g2 : (r2.2 == 0) = true := by rw [e2]; rfl
      have E2 := Lib.hid (decide_eq_true e2)
      clear e2
      by_cases e3 : -a.lim ≤ r2.1
      · have g3 : decide (-a.lim ≤ r2.1) = true := decide_eq_true e3
        have HF := Lib.hid (show F = true by rw [HD.out, E1.out, E2.out, g3]; rfl)
        clear e3
        go_wp2
        go_ret
        exact ⟨by rw [HF.out]; rfl, hb2⟩
      · have g3 : decide (-a.lim ≤ r2.1) = false := decide_eq_false e3
        have HF := Lib.hid (show F = false by rw [HD.out, E1.out, E2.out, g3]; rfl)
        clear e3
        go_wp2
        go_ret
        exact ⟨by rw [HF.out]; rfl, hb2⟩
    · have g2 : (r2.2 == 0) = false := beq_eq_false_iff_ne.2 e2
      have HF := Lib.hid (show F = false by rw [HD.out, E1.out, decide_eq_false e2]; rfl)
      clear e2
      go_wp2
      go_ret
      exact ⟨by rw [HF.out]; rfl, hb2⟩
  · have g1 : (r1.2 != 0) = true := by simpa using e1
    have HF := Lib.hid (show F = false by rw [HD.out, decide_eq_false e1]; rfl)
    clear e1
    go_wp2
    go_ret
    exact ⟨by rw [HF.out]; rfl, hb2⟩
set_option maxRecDepth 100000 in
set_option maxHeartbeats 4000000 in
theorem rget_c (T : Nat → Prop) (g : Nat) (L : List Ac) (k : ByteArray) (w : World) (h : RcIs w T g L) (hL : L.length ≤ 65536) :
    Calls Tryz.prog 102 #[.pointer (some ⟨g, 0, none⟩), .string k] w fun e w' => e = .returned (.tuple #[(getLR L k).1.v, i64 (getLR L k).2]) ∧ Below w.heap.size w w' := by
  have hb0 := (Below.refl w.heap.size w).alloc (Nat.le_refl _) (.cells #[.string ⟨#[]⟩, i64 0, i64 0, i64 0] 52)
  have hg0 := heap_alloc_new w (.cells #[.string ⟨#[]⟩, i64 0, i64 0, i64 0] 52)
  have h1 := h.later hb0
  have hA := Lib.hid (rat_c T g L k _ h1 hL)
  obtain ⟨A, c, hc, hs, hf⟩ := h1
  have c0 := cell_of_row _ g 0 _ _ (0, 0) hc
  simp only [List.getElem?_toArray, List.getElem?_cons_zero] at c0
  have hlt := h.lt
  clear hc hf
  rcases idxA_get (L := L) (k := k) with ⟨h1, h2⟩ | ⟨n, hn, h1, h2, h3⟩
  · have HR := Lib.hid (show getLR L k = (ac0, 6) by unfold getLR; rw [h2])
    clear h2
    generalize idxA L k = i at *
    have g1 : decide (i < 0) = true := decide_eq_true h1
    go_enter Tryz.func102, Tryz.ntmps102
    go_wp2_with fail
    refine hA.out.mono ?_
    rintro e w1 ⟨rfl, rfl⟩
    go_wp2
    exact bodyPost_ret (results_cell_row_tmp rfl _ _ w.heap.size 52 _ (0, 0) _ rfl hg0 Tryz.underlying52 rfl (by kernel_rfl)) rfl ⟨by rw [HR.out]; rfl, hb0⟩
  · have HR := Lib.hid (show getLR L k = (L[n], 0) by unfold getLR; rw [h2])
    rw [h1] at hA
    have g1 : decide ((n : Int) < 0) = false := decide_eq_false (by omega)
    obtain ⟨b, o, rfl, hb, _, d0, d1, d2, d3⟩ := hs.ac hn
    have i0 : (0 : Int) ≤ (n : Int) := by omega
    have i1 : (n : Int) < (L.length : Int) := by omega
    have hlc : L.length ≤ c := hs.1
    generalize L[n] = a at *
    clear h2 h1 hs h h3
    go_enter Tryz.func102, Tryz.ntmps102
    go_wp2_with fail
    refine hA.out.mono ?_
    rintro e w1 ⟨rfl, rfl⟩
    go_wp2
    exact bodyPost_ret (results_cell_row_tmp rfl _ _ w.heap.size 52 _ (0, 0) _ rfl (heap_alloc_new w _) Tryz.underlying52 rfl (by kernel_rfl)) rfl ⟨by rw [HR.out]; rfl, (Below.refl _ _).alloc (Nat.le_refl _) _⟩
section
variable {α : Type} [Enc α] {w : World} {base : Nat} {e : TypeId} {v : Value} {l : List α}
/-- a row of the call's own, as a slice in blocks of T -/
theorem Own.slT {T : Nat → Prop} (h : Own w base e v l) (hT : ∀ k, base ≤ k → T k) (hok : ∀ x ∈ l, Enc.ok w (fun k => k < w.heap.size ∧ T k) x) : ∃ A c, v = .slice A l.length c ∧ SlS w (fun k => k < w.heap.size ∧ T k) A c l ∧ FormA A c := by
  obtain ⟨A, c, rfl, hs⟩ := h.sl
  have hf : FormA A c := by
    rcases h.1.2 with ⟨h1, _⟩ | ⟨g, cap, cur, h1, _⟩
    · injection h1 with h1 h2 h3
      exact .inl ⟨h1, h3⟩
    · injection h1 with h1 h2 h3
      exact .inr ⟨_, _, h1⟩
  refine ⟨A, c, rfl, ⟨hs.1, hs.2.1, fun hn => ?_, hok⟩, hf⟩
  obtain ⟨b, o, rfl, hb, hc⟩ := hs.2.2.1 hn
  exact ⟨b, o, rfl, ⟨hb, hT b (h.1.lt b rfl).1⟩, hc⟩
/-- one cell of an element turned -/
theorem Own.set_cell {g n cap : Nat} (h : Own w base e (.slice (some ⟨g, 0, none⟩) n cap) l) {i : Nat} (hi : i < l.length) (j : Nat) (hj : j < Enc.size α) (u : Value) (x : α) (hx : Enc.cells x = (Enc.cells l[i]).set j u) (hok : Enc.ok w (Oth w (.slice (some ⟨g, 0, none⟩) n cap)) x) :
    Own (w.setCell ⟨g, i * Enc.size α + j, none⟩ u) base e (.slice (some ⟨g, 0, none⟩) n cap) (l.set i x) ∧ w.grownBy (w.setCell ⟨g, i * Enc.size α + j, none⟩ u) (some g) := by
  obtain ⟨cur, hg, hb, hn, hc, hm, hz, ht⟩ := h.cells
  have hgr := grown_setCell (World.grownBy.refl w (some g)) (p := ⟨g, i * Enc.size α + j, none⟩) (.inl rfl) u
  have hset := heap_setCell_same w g (i * Enc.size α + j) cur e u hg
  have hi2 : i * Enc.size α + Enc.size α ≤ n * Enc.size α := by rw [← Nat.succ_mul]; exact Nat.mul_le_mul_right _ (by omega)
  refine ⟨⟨⟨by rw [flat_len], .inr ⟨g, cap, _, by rw [List.length_set, ← hn], hb, hset, by rw [List.length_set]; omega, hm, by simp [hz], ?_⟩⟩, fun y hy => ?_⟩, hgr⟩
  · rw [List.length_set, ← hn, Array.toList_setIfInBounds, List.take_set, ht, flat_set l i x hi, hx]
    apply List.ext_getElem?
    intro t
    have hfl : (l.flatMap Enc.cells).length = l.length * Enc.size α := flat_len l
    rw [List.getElem?_set]
    have h1 : (List.take (i * Enc.size α) (l.flatMap Enc.cells)).length = i * Enc.size α := by rw [List.length_take, hfl, ← hn]; omega
    have h2 : ((Enc.cells l[i]).set j u).length = Enc.size α := by rw [List.length_set, Enc.len]
    rw [List.append_assoc]
    by_cases c1 : t < i * Enc.size α
    · rw [if_neg (by omega), List.getElem?_append_left (by omega), List.getElem?_take_of_lt c1]
    · rw [List.getElem?_append_right (by omega), h1]
      by_cases c2 : t < i * Enc.size α + Enc.size α
      · rw [List.getElem?_append_left (by omega), List.getElem?_set]
        have hfg := flat_get l i (t - i * Enc.size α) hi (by omega)
        rw [show i * Enc.size α + (t - i * Enc.size α) = t by omega] at hfg
        by_cases c3 : i * Enc.size α + j = t
        · rw [if_pos c3, if_pos (by rw [hfl, ← hn]; omega), if_pos (by omega), if_pos (by rw [Enc.len]; omega)]
        · rw [if_neg c3, if_neg (by omega), hfg]
      · rw [if_neg (by omega), List.getElem?_append_right (by omega), h2, List.getElem?_drop]
        congr 1
        rw [Nat.add_mul, Nat.one_mul]
        omega
  · rcases List.mem_or_eq_of_mem_set hy with hy | rfl
    · exact Enc.keep (h.2 y hy) (fun p hp => World.cell?_of_block (hgr.block _ hp.1 hp.2)) (fun b hb => ⟨Nat.lt_of_lt_of_le hb.1 hgr.size, hb.2⟩)
    · exact Enc.keep hok (fun p hp => World.cell?_of_block (hgr.block _ hp.1 hp.2)) (fun b hb => ⟨Nat.lt_of_lt_of_le hb.1 hgr.size, hb.2⟩)
end
/-- behind growth alone -/
theorem SlS.below_ {α : Type} [Enc α] {w w' : World} {T : Nat → Prop} {A : Option Addr} {c : Nat} {l : List α} (h : SlS w (fun k => k < w.heap.size ∧ T k) A c l) (hb : Below w.heap.size w w') : SlS w' (fun k => k < w'.heap.size ∧ T k) A c l :=
  h.keep (fun _ hp => hb.cell hp.1) (fun _ hb' => ⟨Nat.lt_of_lt_of_le hb'.1 hb.size, hb'.2⟩)
end Go.Proofs.YthmgchohbdlonaaGreat
