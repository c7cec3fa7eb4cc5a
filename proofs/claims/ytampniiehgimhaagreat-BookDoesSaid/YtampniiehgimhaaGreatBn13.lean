/- Texts of this claim, laid together: BookF, OpenB, Open, ShutB, Shut, OpenRO, RpS. -/
import Derived.Test.YtampniiehgimhaaGreatRows
import Derived.Test.YtampniiehgimhaaGreatBn12
import Derived.Test.YtampniiehgimhaaGreatBn1
import Derived.WalkKit
import Derived.WalkSpells
import Derived.WalkLawsBesides
import Derived.Deep.QuietTactic
import Derived.BigQuiet
import Derived.Laws.StructEq
import Derived.Deep.DeepFit
import Derived.StillTailTactics
import Derived.Deep.Slices
import Derived.ProofKit
import Derived.OpenShut
import Derived.ChangeOld
import Derived.ShutString
import Derived.Below
import Derived.Test.YtampniiehgimhaaGreatBn8

/- book: Fold -/
namespace Go.Proofs.YtampniiehgimhaaGreat
open Go.RowKit
section
variable {α : Type} [Enc α] {w w' : World} {base : Nat} {e : TypeId} {v : Value} {l : List α}
theorem Own.gr {S : Nat → Prop} (h : Own w base e v l) (hg : Gr w w' S) (hS : ∀ b, v.ownBlock = some b → ¬ S b) (hx : ∀ x ∈ l, Enc.ok w' (Oth w' v) x) : Own w' base e v l := by
 obtain ⟨⟨h1, h2⟩, _⟩ := h
 refine ⟨⟨h1, ?_⟩, hx⟩
 rcases h2 with h2 | ⟨g, cap, cur, hv, hb, hh, r⟩
 ·exact .inl h2
 ·exact .inr ⟨g, cap, cur, hv, hb, (hg.block g (Array.getElem?_eq_some_iff.1 hh).1 (hS g (by rw [hv]; rfl))).trans hh, r⟩
end
theorem rpInfo : (Tryz.prog.info? 31).map (fun i => (i.zero, i.size, i.bytes)) = some (some (.agg #[i64 0, i64 0, i64 0, i64 0]), Enc.size Rp, 32) := by kernel_rfl
theorem BkA.own_below {w w' : World} {a : BA} {B : Nat} (h : Gr w w' a.own) (hB : B ≤ w.heap.size) (ha : ∀ k, a.all k → B ≤ k) : Below B w w' := h.below hB fun k hk => by
 rcases hk with e | e | e
 ·exact ha k (.inl e)
 ·exact ha k (.inr (.inr (.inl e)))
 ·exact ha k (.inr (.inr (.inr (.inr e))))
theorem BA.own_all {a : BA} {k : Nat} (h : a.own k) : a.all k := by
 rcases h with e | e | e
 ·exact .inl e
 ·exact .inr (.inr (.inl e))
 ·exact .inr (.inr (.inr (.inr e)))
/-- what lies below a book is an order's as a book takes it -/
theorem OdIn.of_sl {w : World} {B : Nat} {A : Option Addr} {c : Nat} {l : List Od} (h : Sl w B A c l) {a : BA} (ha : ∀ k, a.all k → B ≤ k) (hB : B ≤ w.heap.size) (hl : ∀ x ∈ l, x.legs.length ≤ 65536) : ∀ x ∈ l, OdIn w a x := fun x hx =>
 ⟨Enc.keep (α := Od) (h.2.2.2 x hx) (fun _ _ => rfl) (fun k hk => ⟨Nat.lt_of_lt_of_le hk hB, fun e => by have := ha k e; omega⟩), hl x hx⟩
set_option maxRecDepth 100000 in
set_option maxHeartbeats 8000000 in
theorem bfold_c (A : Option Addr) (c : Nat) (l : List Od) (w : World) (h : Sl w w.heap.size A c l) (hx : ∀ x ∈ l, OdB x) (hl : ∀ x ∈ l, x.legs.length ≤ 65536) (hn : l.length ≤ 60000) :
  Calls Tryz.prog 15 #[.slice A l.length c] w fun e w' => ∃ (a : BA) (v : Value) (B0 : Nat), e = .returned (.tuple #[v, a.ptr]) ∧ BkA w' a (foldL bk0 l) ∧ InvB (foldL bk0 l) ∧ Own w' B0 31 v (toldL bk0 l) ∧ w.heap.size ≤ B0 ∧ (∀ k, a.all k → w.heap.size ≤ k ∧ k < B0) ∧ Below w.heap.size w w' := by
 have hN := Lib.hid (bnew_c w)
 have H := Lib.hid h
 have Hx := Lib.hid hx
 have Hl := Lib.hid hl
 have hlc : l.length ≤ c := h.1
 clear h hx hl
 go_enter Tryz.func15, Tryz.ntmps15
 go_wp2_with fail
 refine hN.out.mono ?_
 rintro e w1 ⟨a, rfl, hb0, ha, hF⟩
 have Hlt := Lib.hid hb0.lt
 have Ha := Lib.hid ha
 have hsz := hF.size
 clear hN ha
 go_wp2_with fail
 go_loopw [5, 11] (fun v i wr => ∃ k : Nat, i = i64 k ∧ k ≤ l.length ∧ BkA wr a (foldL bk0 (l.take k)) ∧ InvB (foldL bk0 (l.take k)) ∧ Own wr w1.heap.size 31 v (toldL bk0 (l.take k)) ∧ Below w.heap.size w wr ∧ w1.heap.size ≤ wr.heap.size) (fun _ i _ => l.length - (intOf i).toNat)
 case atStart => exact ⟨0, rfl, Nat.zero_le _, hb0, inv_bk0, Own.nil_ _ _ _, hF, Nat.le_refl _⟩
 case round =>
  obtain ⟨k, rfl, hk, hB, hI, hO, hb, hz⟩ := hrel
  clear hb0 hF
  by_cases hlt : k < l.length
  ·have g1 : decide ((k : Int) < (l.length : Int)) = true := decide_eq_true (by omega)
   have g2 : decide (k < l.length) = true := decide_eq_true hlt
   have i0 : (0 : Int) ≤ (k : Int) := by omega
   have i1 : (k : Int) < (l.length : Int) := by omega
   have hlw := H.out.below hb
   obtain ⟨b, o, rfl, hbb, _, c0, c1, c2, c3, c4, c5, c6, c7, c8, c9⟩ := hlw.od hlt
   have hin := OdIn.of_sl (hlw.mono fun _ h => h) (fun k hk => Ha.out k hk) hb.size Hl.out l[k] (List.getElem_mem hlt)
   have hxo := Hx.out l[k] (List.getElem_mem hlt)
   have HF := Lib.hid (show foldL bk0 (l.take (k + 1)) = (doL (foldL bk0 (l.take k)) l[k]).2 by rw [List.take_succ_eq_append_getElem hlt, foldL_snoc])
   have HTl := Lib.hid (show toldL bk0 (l.take (k + 1)) = toldL bk0 (l.take k) ++ [(doL (foldL bk0 (l.take k)) l[k]).1] by rw [List.take_succ_eq_append_getElem hlt, toldL_snoc])
   have HLn := Lib.hid (show (toldL bk0 (l.take k)).length = k by rw [toldL_len, List.length_take]; omega)
   have hI2 := hI.do_ hxo
   generalize foldL bk0 (l.take k) = B at *
   generalize toldL bk0 (l.take k) = ts at *
   obtain ⟨x, hxk⟩ : ∃ x, l[k] = x := ⟨_, rfl⟩
   rw [hxk] at c0 c1 c2 c3 c4 c5 c6 c7 c8 c9 hin hxo HF HTl hI2
   have hba := (Below.refl wr.heap.size wr).alloc (Nat.le_refl _) (.cells #[i64 x.client, i64 x.seq, i64 x.kind, .string x.acct, .string x.peer, i64 x.sum, .slice x.la x.legs.length x.lc, i64 x.period, i64 x.hold, .string x.note] 37)
   have hob := heap_alloc_new wr (.cells #[i64 x.client, i64 x.seq, i64 x.kind, .string x.acct, .string x.peer, i64 x.sum, .slice x.la x.legs.length x.lc, i64 x.period, i64 x.hold, .string x.note] 37)
   have hB1 := hB.later hba
   have hin1 := hin.later hba
   have HO1 := Lib.hid (hO.later hba)
   have hb1 := hb.alloc hb.size (.cells #[i64 x.client, i64 x.seq, i64 x.kind, .string x.acct, .string x.peer, i64 x.sum, .slice x.la x.legs.length x.lc, i64 x.period, i64 x.hold, .string x.note] 37)
   have hz1 : wr.heap.size < (wr.alloc (.cells #[i64 x.client, i64 x.seq, i64 x.kind, .string x.acct, .string x.peer, i64 x.sum, .slice x.la x.legs.length x.lc, i64 x.period, i64 x.hold, .string x.note] 37)).heap.size := by simp
   have HD := Lib.hid (bdo_c a B x _ hB1 hI hxo hin1)
   have k0 := cell_of_row _ wr.heap.size 0 _ _ (0, 0) hob
   have k1 := cell_of_row _ wr.heap.size 1 _ _ (0, 0) hob
   have k2 := cell_of_row _ wr.heap.size 2 _ _ (0, 0) hob
   have k3 := cell_of_row _ wr.heap.size 3 _ _ (0, 0) hob
   have k4 := cell_of_row _ wr.heap.size 4 _ _ (0, 0) hob
   have k5 := cell_of_row _ wr.heap.size 5 _ _ (0, 0) hob
   have k6 := cell_of_row _ wr.heap.size 6 _ _ (0, 0) hob
   have k7 := cell_of_row _ wr.heap.size 7 _ _ (0, 0) hob
   have k8 := cell_of_row _ wr.heap.size 8 _ _ (0, 0) hob
   have k9 := cell_of_row _ wr.heap.size 9 _ _ (0, 0) hob
   simp only [List.getElem?_toArray, List.getElem?_cons_zero, List.getElem?_cons_succ] at k0 k1 k2 k3 k4 k5 k6 k7 k8 k9
   generalize doL B x = d at *
   obtain ⟨R, B2⟩ := d
   dsimp only at *
   have HI2 := Lib.hid hI2
   clear hxk hin hxo hI hI2 hB hO hin1 hB1 hba hob hlw hbb
   go_wp2_with fail
   refine HD.out.mono ?_
   rintro e w2 ⟨rfl, hB2, hG⟩
   have hb2 := hb1.trans (BkA.own_below hG hb1.size (fun k hk => (Ha.out k hk)))
   have HO2 := HO1.out.gr hG (fun b hv e => by have h1 := (HO1.out.1.lt b hv).1; have h2 := Hlt.out b (BA.own_all e); omega) (fun _ _ => trivial)
   have hz2 : w1.heap.size ≤ w2.heap.size := by have := hG.size; omega
   have HO3 := Lib.hid (HO2.later ((Below.refl _ _).alloc (Nat.le_refl _) (.cells #[i64 R.err, i64 R.hav, i64 R.set_, i64 R.num] 31)))
   have Hne := Lib.hid (HO2.new_ne (Nat.le_refl w2.heap.size))
   have HH := Lib.hid (heap_alloc_new w2 (.cells #[i64 R.err, i64 R.hav, i64 R.set_, i64 R.num] 31))
   have hb3 := hb2.alloc hb2.size (.cells #[i64 R.err, i64 R.hav, i64 R.set_, i64 R.num] 31)
   have hB3 := hB2.later ((Below.refl _ _).alloc (Nat.le_refl _) (.cells #[i64 R.err, i64 R.hav, i64 R.set_, i64 R.num] 31))
   have Hz3 := Lib.hid (show w1.heap.size ≤ (w2.alloc (.cells #[i64 R.err, i64 R.hav, i64 R.set_, i64 R.num] 31)).heap.size by simp; omega)
   clear HO1 HO2 hG hb1 hb2 HD hB2 k0 k1 k2 k3 k4 k5 k6 k7 k8 k9 c0 c1 c2 c3 c4 c5 c6 c7 c8 c9
   go_wp2_with (at_builtin; refine wpList_append_one rfl (some 20) (.tmp 15) (.tmp 19) 39 rfl rfl (.agg #[i64 0, i64 0, i64 0, i64 0]) 32 Tryz.underlying39 rpInfo rfl (by decide) (by decide) rfl HO3.out w2.heap.size R rfl _ 31 HH.out rfl Hne.out trivial (by rw [HLn.out]; omega) Hz3.out ?_; intro v3 w3 hO3 hg3 hat3)
   rw [← HTl.out] at hO3
   have hB4 := hB3.kept (Gr.of_grown hg3) (fun j hj e => by have h1 := (HO3.out.1.lt j e).1; have h2 := Hlt.out j hj; omega)
   rw [← HF.out] at hB4 HI2
   have hb4 := hb3.trans (HO3.out.below hg3 hsz hb3.size)
   have hz4 := hg3.size
   clear hg3 hat3 HO3 HH Hne hB3 hb3
   go_roundw
   case rel => exact ⟨k + 1, by go_num, by omega, hB4, HI2.out, hO3, hb4, Nat.le_trans Hz3.out hz4⟩
   case measure => simp [intOf]; omega
  ·obtain rfl : k = l.length := by omega
   have g1 : decide ((l.length : Int) < (l.length : Int)) = false := decide_eq_false (by omega)
   rw [List.take_length] at hB hI hO
   have HB := Lib.hid hB
   have HI := Lib.hid hI
   have HO := Lib.hid hO
   clear hB hI hO
   go_wp2
   go_ret2
   exact ⟨a, _, w1.heap.size, rfl, HB.out, HI.out, HO.out, hsz, fun k hk => ⟨Ha.out k hk, Hlt.out k hk⟩, hb⟩
end Go.Proofs.YtampniiehgimhaaGreat

/- Arguments as data: an int, a text, a slice, as the statement reads them -/
namespace Go.Proofs.YtampniiehgimhaaGreat
open Go.RowKit
open Go.ChangeShapes Go.WideShapes Go.Deep
/-- whatever reads as a datum of type t is one of α's -/
def Reads (α : Type) [Enc α] (P : Program) (t : TypeId) : Prop :=
 ∀ (H : Type) (enc : TypeId × Value → H) (w : World) (base : Nat) (spare : Nat → Bool) (held : Bool) (fuel : Nat) (cs : List Value) (x : DataW H × List MemPlace), DataW.trod enc P w base spare held fuel t cs = some x → ∃ a : α, cs = Enc.cells a ∧ Okb w w.heap.size a
set_option maxRecDepth 100000 in
set_option maxHeartbeats 1000000 in
theorem list_choose {α : Type} {Q : Nat → α → Prop} : ∀ n, (∀ i, i < n → ∃ y, Q i y) → ∃ l : List α, l.length = n ∧ ∀ i (h : i < l.length), Q i l[i]
 | 0, _ => ⟨[], rfl, fun i h => absurd h (by simp)⟩
 | n + 1, h => by
  obtain ⟨l, hl, hq⟩ := list_choose n (fun i hi => h i (by omega))
  obtain ⟨y, hy⟩ := h n (by omega)
  refine ⟨l ++ [y], by simp [hl], fun i hi => ?_⟩
  rw [List.getElem_append]
  by_cases h1 : i < l.length
  ·rw [dif_pos h1]; exact hq i h1
  ·have : i = n := by simp only [List.length_append, List.length_singleton] at hi; omega
   subst this
   rw [dif_neg h1]
   simpa [hl] using hy
set_option maxRecDepth 100000 in
set_option maxHeartbeats 1000000 in
theorem add_none (b o n : Nat) : (⟨b, o, none⟩ : Addr).add n = ⟨b, o + n, none⟩ := by
 unfold Addr.add
 split
 ·rename_i h
  subst h
  rfl
 ·rfl
set_option maxRecDepth 100000 in
set_option maxHeartbeats 1000000 in
theorem add_zero_ (a : Addr) : a.add 0 = a := by unfold Addr.add; rw [if_pos rfl]
section
variable {α : Type} [Enc α] {P : Program}
set_option maxRecDepth 100000 in
set_option maxHeartbeats 1000000 in
theorem reads_slice {t e : TypeId} (ht : P.underlying t = some (.slice e)) (hC : P.cellsOf e = Enc.size α) (hsz : 0 < Enc.size α) (hr : Reads α P e) {H : Type} {enc : TypeId × Value → H} {w : World} {base : Nat} {spare : Nat → Bool} {held : Bool} {fuel : Nat} {cs : List Value} {x : DataW H × List MemPlace}
  (h : DataW.trod enc P w base spare held fuel t cs = some x) : ∃ A c, ∃ l : List α, cs = [.slice A l.length c] ∧ Sl w w.heap.size A c l := by
 rcases open_slice ht h with ⟨rfl, _⟩ | ⟨a, len, cap, m, n, D, Pl, rfl, hb, hl, hm, hmm, _, hi⟩
 ·exact ⟨none, 0, [], rfl, SlS.nil_ _ _⟩
 ·have hlm : len ≤ m := by rw [hmm]; split <;> omega
  obtain ⟨l, hll, hq⟩ := list_choose (Q := fun i (y : α) => (∀ j, j < Enc.size α → w.cell? ((a.add (i * Enc.size α)).add j) = (Enc.cells y)[j]?) ∧ Okb w w.heap.size y) len (fun i hil => by
   obtain ⟨cs', hc, ht'⟩ := hi i (by omega)
   rw [hC] at hc
   obtain ⟨y, rfl, hy⟩ := hr _ _ _ _ _ _ _ _ _ ht'
   exact ⟨y, (World.cells?_some hc).2.2, hy⟩)
  subst hll
  refine ⟨some a, cap, l, rfl, hl, hm, fun hn => ?_, fun y hy => ?_⟩
  ·obtain ⟨b, o, s⟩ := a
   have hc := fun i (hi : i < l.length) j (hj : j < Enc.size α) => (hq i hi).1 j hj
   have h0 := hc 0 hn 0 hsz
   rw [List.getElem?_eq_getElem (by rw [Enc.len]; exact hsz)] at h0
   rw [Nat.zero_mul, add_zero_, add_zero_] at h0
   have hs : s = none := World.cell?_spot h0
   subst hs
   have hlt := World.block_lt_of_cell? w _ h0
   refine ⟨b, o, rfl, hlt, fun j u hu => ?_⟩
   have hj := (List.getElem?_eq_some_iff.1 hu).1
   rw [flat_len] at hj
   have hjk : j / Enc.size α < l.length := by rw [Nat.div_lt_iff_lt_mul hsz]; exact hj
   have hjm : j % Enc.size α < Enc.size α := Nat.mod_lt _ hsz
   have e1 : j / Enc.size α * Enc.size α + j % Enc.size α = j := by rw [Nat.mul_comm]; exact Nat.div_add_mod _ _
   have h1 := hc _ hjk _ hjm
   rw [← flat_get l _ _ hjk hjm, e1, hu] at h1
   rw [add_none, add_none, Nat.add_assoc, e1] at h1
   exact h1
  ·obtain ⟨i, hi, rfl⟩ := List.getElem_of_mem hy
   exact (hq i hi).2
set_option maxRecDepth 100000 in
set_option maxHeartbeats 1000000 in
theorem reads_int {t : TypeId} (ht : P.underlying t = some (.int .i64)) : Reads Int P t := fun _ _ _ _ _ _ _ _ _ h => by
 obtain ⟨n, rfl, _, _⟩ := DataW.trod_int ht h
 exact ⟨n, rfl, trivial⟩
set_option maxRecDepth 100000 in
set_option maxHeartbeats 1000000 in
theorem reads_str {t : TypeId} (ht : P.underlying t = some .string) : Reads ByteArray P t := fun _ _ _ _ _ _ _ _ _ h => by
 obtain ⟨s, rfl, _, hs⟩ := DataW.trod_string ht h
 exact ⟨s, rfl, hs⟩
end
end Go.Proofs.YtampniiehgimhaaGreat

/- Arguments as data: an order, as the statement reads it -/
namespace Go.Proofs.YtampniiehgimhaaGreat
open Go.RowKit
open Go.ChangeShapes Go.WideShapes Go.Deep
set_option maxRecDepth 100000 in
set_option maxHeartbeats 1000000 in
theorem cellsLeg : Tryz.prog.cellsOf 167 = 2 := by kernel_rfl
set_option maxRecDepth 100000 in
set_option maxHeartbeats 1000000 in
theorem cellsOd : Tryz.prog.cellsOf 37 = 10 := by kernel_rfl
set_option maxRecDepth 100000 in
set_option maxHeartbeats 1000000 in
theorem cellsId : Tryz.prog.cellsOf 34 = 2 := by kernel_rfl
set_option maxRecDepth 100000 in
set_option maxHeartbeats 1000000 in
theorem cellsS : Tryz.prog.cellsOf 9 = 1 := by kernel_rfl
set_option maxRecDepth 100000 in
set_option maxHeartbeats 1000000 in
theorem cellsN : Tryz.prog.cellsOf 3 = 1 := by kernel_rfl
set_option maxRecDepth 100000 in
set_option maxHeartbeats 1000000 in
theorem cellsJ : Tryz.prog.cellsOf 2 = 1 := by kernel_rfl
set_option maxRecDepth 100000 in
set_option maxHeartbeats 1000000 in
theorem cellsLs : Tryz.prog.cellsOf 35 = 1 := by kernel_rfl
set_option maxRecDepth 100000 in
set_option maxHeartbeats 1000000 in
theorem reads_leg : Reads Leg Tryz.prog 167 := fun _ _ _ _ _ _ _ cs _ h => by
 obtain ⟨xs, n, _, _, hl, hlen, hf⟩ := DataW.trod_struct Tryz.underlying167 h
 rw [cellsLeg] at hl
 match cs, hl with
 | [c0, c1], _ =>
  have h0 : DataW.trod _ Tryz.prog _ _ _ _ n 9 ((([c0, c1] : List Value).drop 0).take (Tryz.prog.cellsOf 9)) = xs[0]? := hf 0 _ rfl
  have h1 : DataW.trod _ Tryz.prog _ _ _ _ n 2 ((([c0, c1] : List Value).drop 1).take (Tryz.prog.cellsOf 2)) = xs[1]? := hf 1 _ rfl
  simp only [cellsS, cellsJ, List.drop_succ_cons, List.drop_zero, List.take_succ_cons, List.take_zero] at h0 h1
  rw [List.getElem?_eq_getElem (by rw [hlen]; decide)] at h0 h1
  obtain ⟨s, e0, _, hs⟩ := DataW.trod_string Tryz.underlying9 h0
  obtain ⟨m, e1, _, _⟩ := DataW.trod_int Tryz.underlying2 h1
  injection e0 with e0
  injection e1 with e1
  subst e0 e1
  exact ⟨⟨s, m⟩, rfl, hs⟩
set_option maxRecDepth 100000 in
set_option maxHeartbeats 1000000 in
theorem reads_od : Reads Od Tryz.prog 37 := fun _ _ _ _ _ _ _ cs _ h => by
 obtain ⟨xs, n, _, _, hl, hlen, hf⟩ := DataW.trod_struct Tryz.underlying37 h
 rw [cellsOd] at hl
 match cs, hl with
 | [c0, c1, c2, c3, c4, c5, c6, c7, c8, c9], _ =>
  have h0 : DataW.trod _ Tryz.prog _ _ _ _ n 34 ((([c0, c1, c2, c3, c4, c5, c6, c7, c8, c9] : List Value).drop 0).take (Tryz.prog.cellsOf 34)) = xs[0]? := hf 0 _ rfl
  have h1 : DataW.trod _ Tryz.prog _ _ _ _ n 3 ((([c0, c1, c2, c3, c4, c5, c6, c7, c8, c9] : List Value).drop 2).take (Tryz.prog.cellsOf 3)) = xs[1]? := hf 1 _ rfl
  have h2 : DataW.trod _ Tryz.prog _ _ _ _ n 9 ((([c0, c1, c2, c3, c4, c5, c6, c7, c8, c9] : List Value).drop 3).take (Tryz.prog.cellsOf 9)) = xs[2]? := hf 2 _ rfl
  have h3 : DataW.trod _ Tryz.prog _ _ _ _ n 9 ((([c0, c1, c2, c3, c4, c5, c6, c7, c8, c9] : List Value).drop 4).take (Tryz.prog.cellsOf 9)) = xs[3]? := hf 3 _ rfl
  have h4 : DataW.trod _ Tryz.prog _ _ _ _ n 2 ((([c0, c1, c2, c3, c4, c5, c6, c7, c8, c9] : List Value).drop 5).take (Tryz.prog.cellsOf 2)) = xs[4]? := hf 4 _ rfl
  have h5 : DataW.trod _ Tryz.prog _ _ _ _ n 35 ((([c0, c1, c2, c3, c4, c5, c6, c7, c8, c9] : List Value).drop 6).take (Tryz.prog.cellsOf 35)) = xs[5]? := hf 5 _ rfl
  have h6 : DataW.trod _ Tryz.prog _ _ _ _ n 3 ((([c0, c1, c2, c3, c4, c5, c6, c7, c8, c9] : List Value).drop 7).take (Tryz.prog.cellsOf 3)) = xs[6]? := hf 6 _ rfl
  have h7 : DataW.trod _ Tryz.prog _ _ _ _ n 3 ((([c0, c1, c2, c3, c4, c5, c6, c7, c8, c9] : List Value).drop 8).take (Tryz.prog.cellsOf 3)) = xs[7]? := hf 7 _ rfl
  have h8 : DataW.trod _ Tryz.prog _ _ _ _ n 9 ((([c0, c1, c2, c3, c4, c5, c6, c7, c8, c9] : List Value).drop 9).take (Tryz.prog.cellsOf 9)) = xs[8]? := hf 8 _ rfl
  simp only [cellsS, cellsJ, cellsN, cellsId, cellsLs, List.drop_succ_cons, List.drop_zero, List.take_succ_cons, List.take_zero] at h0 h1 h2 h3 h4 h5 h6 h7 h8
  rw [List.getElem?_eq_getElem (by rw [hlen]; decide)] at h0 h1 h2 h3 h4 h5 h6 h7 h8
  obtain ⟨ys, n', _, _, _, hlen', hf'⟩ := DataW.trod_struct Tryz.underlying34 h0
  have g0 : DataW.trod _ Tryz.prog _ _ _ _ n' 3 ((([c0, c1] : List Value).drop 0).take (Tryz.prog.cellsOf 3)) = ys[0]? := hf' 0 _ rfl
  have g1 : DataW.trod _ Tryz.prog _ _ _ _ n' 3 ((([c0, c1] : List Value).drop 1).take (Tryz.prog.cellsOf 3)) = ys[1]? := hf' 1 _ rfl
  simp only [cellsN, List.drop_succ_cons, List.drop_zero, List.take_succ_cons, List.take_zero] at g0 g1
  rw [List.getElem?_eq_getElem (by rw [hlen']; decide)] at g0 g1
  obtain ⟨v0, e0, _, _⟩ := DataW.trod_int Tryz.underlying3 g0
  obtain ⟨v1, e1, _, _⟩ := DataW.trod_int Tryz.underlying3 g1
  obtain ⟨v2, e2, _, _⟩ := DataW.trod_int Tryz.underlying3 h1
  obtain ⟨v3, e3, _, s3⟩ := DataW.trod_string Tryz.underlying9 h2
  obtain ⟨v4, e4, _, s4⟩ := DataW.trod_string Tryz.underlying9 h3
  obtain ⟨v5, e5, _, _⟩ := DataW.trod_int Tryz.underlying2 h4
  obtain ⟨A, c, l, e6, s6⟩ := reads_slice Tryz.underlying35 cellsLeg (by decide) reads_leg h5
  obtain ⟨v7, e7, _, _⟩ := DataW.trod_int Tryz.underlying3 h6
  obtain ⟨v8, e8, _, _⟩ := DataW.trod_int Tryz.underlying3 h7
  obtain ⟨v9, e9, _, s9⟩ := DataW.trod_string Tryz.underlying9 h8
  injection e0 with e0
  injection e1 with e1
  injection e2 with e2
  injection e3 with e3
  injection e4 with e4
  injection e5 with e5
  injection e6 with e6
  injection e7 with e7
  injection e8 with e8
  injection e9 with e9
  subst e0 e1 e2 e3 e4 e5 e6 e7 e8 e9
  exact ⟨⟨v0, v1, v2, v3, v4, v5, A, c, l, v7, v8, v9⟩, rfl, s3, s4, s9, s6⟩
end Go.Proofs.YtampniiehgimhaaGreat

/- What the frames of the statements use -/
namespace Go.Proofs.YtampniiehgimhaaGreat
open Go.RowKit
open Go.ChangeShapes Go.WideShapes Go.Deep
set_option maxRecDepth 100000 in
set_option maxHeartbeats 1000000 in
theorem ownKnob_none : ownKnob Tryz.prog.godebug = none := by kernel_rfl
set_option maxRecDepth 100000 in
set_option maxHeartbeats 1000000 in
theorem laidOut : laidOutB Tryz.prog = true := by kernel_rfl
end Go.Proofs.YtampniiehgimhaaGreat

/- What the frames of the statements use: the arguments opened -/
namespace Go.Proofs.YtampniiehgimhaaGreat
open Go.RowKit
open Go.ChangeShapes Go.WideShapes Go.Deep
section
variable {H : Type} {enc : TypeId × Value → H} {w : World} {base : Nat} {spare : Nat → Bool} {held : Bool} {r : Reach} {b0 : Nat} {v : Value} {d : DataW H} {p : List MemPlace}
set_option maxRecDepth 100000 in
set_option maxHeartbeats 1000000 in
theorem open_od (hv : Value.okWide Tryz.prog w r b0 37 v) (h : DataW.Trod enc Tryz.prog w base spare held 37 v d p) : ∃ x : Od, v = x.v ∧ Okb w w.heap.size x := by
 obtain ⟨cs, rfl, _⟩ := okWide_struct Tryz.underlying37 hv
 obtain ⟨fuel, hf⟩ := h
 obtain ⟨x, hx, hok⟩ := reads_od _ _ _ _ _ _ _ _ _ hf
 refine ⟨x, ?_, hok⟩
 have hx2 : cs.toList = Od.cells x := hx
 rw [← Array.toArray_toList (xs := cs), hx2]
 rfl
set_option maxRecDepth 100000 in
set_option maxHeartbeats 1000000 in
theorem open_ods (hv : Value.okWide Tryz.prog w r b0 22 v) (h : DataW.Trod enc Tryz.prog w base spare held 22 v d p) : ∃ A c, ∃ l : List Od, v = .slice A l.length c ∧ Sl w w.heap.size A c l := by
 obtain ⟨a, len, cap, rfl⟩ := okWide_slice Tryz.underlying22 hv
 obtain ⟨fuel, hf⟩ := h
 obtain ⟨A, c, l, hx, hs⟩ := reads_slice Tryz.underlying22 cellsOd (by decide) reads_od hf
 have hx2 : [Value.slice a len cap] = [.slice A l.length c] := hx
 injection hx2 with hx3
 exact ⟨A, c, l, hx3, hs⟩
end
end Go.Proofs.YtampniiehgimhaaGreat

/- Arguments as data, with their ranges: an order, orders -/
namespace Go.Proofs.YtampniiehgimhaaGreat
open Go.RowKit
open Go.ChangeShapes Go.WideShapes Go.Deep
theorem R64.of_wf {n : Int} (h : (Lit.int .i64 n).wf = true) : R64 n := by
 simpa [Lit.wf, IntKind.min, IntKind.max, IntKind.signed, IntKind.bits, R64] using h
/-- whatever reads as a datum of type t is one of α's, and Q -/
def ReadsQ (α : Type) [Enc α] (Q : α → Prop) (P : Program) (t : TypeId) : Prop :=
 ∀ (H : Type) (enc : TypeId × Value → H) (w : World) (base : Nat) (spare : Nat → Bool) (held : Bool) (fuel : Nat) (cs : List Value) (x : DataW H × List MemPlace), DataW.trod enc P w base spare held fuel t cs = some x → ∃ a : α, cs = Enc.cells a ∧ Okb w w.heap.size a ∧ Q a
section
variable {α : Type} [Enc α] {P : Program}
set_option maxRecDepth 100000 in
set_option maxHeartbeats 1000000 in
theorem readsQ_slice {Q : α → Prop} {t e : TypeId} (ht : P.underlying t = some (.slice e)) (hC : P.cellsOf e = Enc.size α) (hsz : 0 < Enc.size α) (hr : ReadsQ α Q P e) {H : Type} {enc : TypeId × Value → H} {w : World} {base : Nat} {spare : Nat → Bool} {held : Bool} {fuel : Nat} {cs : List Value} {x : DataW H × List MemPlace}
  (h : DataW.trod enc P w base spare held fuel t cs = some x) : ∃ A c, ∃ l : List α, cs = [.slice A l.length c] ∧ Sl w w.heap.size A c l ∧ ∀ y ∈ l, Q y := by
 rcases open_slice ht h with ⟨rfl, _⟩ | ⟨a, len, cap, m, n, D, Pl, rfl, hb, hl, hm, hmm, _, hi⟩
 ·exact ⟨none, 0, [], rfl, SlS.nil_ _ _, by simp⟩
 ·have hlm : len ≤ m := by rw [hmm]; split <;> omega
  obtain ⟨l, hll, hq⟩ := list_choose (Q := fun i (y : α) => ((∀ j, j < Enc.size α → w.cell? ((a.add (i * Enc.size α)).add j) = (Enc.cells y)[j]?) ∧ Okb w w.heap.size y) ∧ Q y) len (fun i hil => by
   obtain ⟨cs', hc, ht'⟩ := hi i (by omega)
   rw [hC] at hc
   obtain ⟨y, rfl, hy, hQ⟩ := hr _ _ _ _ _ _ _ _ _ ht'
   exact ⟨y, ⟨(World.cells?_some hc).2.2, hy⟩, hQ⟩)
  subst hll
  have hqq : ∀ y ∈ l, Q y := fun y hy => by obtain ⟨i, hi, rfl⟩ := List.getElem_of_mem hy; exact (hq i hi).2
  have hq := fun i hi => (hq i hi).1
  refine ⟨some a, cap, l, rfl, ⟨hl, hm, fun hn => ?_, fun y hy => ?_⟩, hqq⟩
  ·obtain ⟨b, o, s⟩ := a
   have hc := fun i (hi : i < l.length) j (hj : j < Enc.size α) => (hq i hi).1 j hj
   have h0 := hc 0 hn 0 hsz
   rw [List.getElem?_eq_getElem (by rw [Enc.len]; exact hsz)] at h0
   rw [Nat.zero_mul, add_zero_, add_zero_] at h0
   have hs : s = none := World.cell?_spot h0
   subst hs
   have hlt := World.block_lt_of_cell? w _ h0
   refine ⟨b, o, rfl, hlt, fun j u hu => ?_⟩
   have hj := (List.getElem?_eq_some_iff.1 hu).1
   rw [flat_len] at hj
   have hjk : j / Enc.size α < l.length := by rw [Nat.div_lt_iff_lt_mul hsz]; exact hj
   have hjm : j % Enc.size α < Enc.size α := Nat.mod_lt _ hsz
   have e1 : j / Enc.size α * Enc.size α + j % Enc.size α = j := by rw [Nat.mul_comm]; exact Nat.div_add_mod _ _
   have h1 := hc _ hjk _ hjm
   rw [← flat_get l _ _ hjk hjm, e1, hu] at h1
   rw [add_none, add_none, Nat.add_assoc, e1] at h1
   exact h1
  ·obtain ⟨i, hi, rfl⟩ := List.getElem_of_mem hy
   exact (hq i hi).2
end
set_option maxRecDepth 100000 in
set_option maxHeartbeats 1000000 in
theorem readsQ_leg : ReadsQ Leg (fun y => R64 y.sum) Tryz.prog 167 := fun _ _ _ _ _ _ _ cs _ h => by
 obtain ⟨xs, n, _, _, hl, hlen, hf⟩ := DataW.trod_struct Tryz.underlying167 h
 rw [cellsLeg] at hl
 match cs, hl with
 | [c0, c1], _ =>
  have h0 : DataW.trod _ Tryz.prog _ _ _ _ n 9 ((([c0, c1] : List Value).drop 0).take (Tryz.prog.cellsOf 9)) = xs[0]? := hf 0 _ rfl
  have h1 : DataW.trod _ Tryz.prog _ _ _ _ n 2 ((([c0, c1] : List Value).drop 1).take (Tryz.prog.cellsOf 2)) = xs[1]? := hf 1 _ rfl
  simp only [cellsS, cellsJ, List.drop_succ_cons, List.drop_zero, List.take_succ_cons, List.take_zero] at h0 h1
  rw [List.getElem?_eq_getElem (by rw [hlen]; decide)] at h0 h1
  obtain ⟨s, e0, _, hs⟩ := DataW.trod_string Tryz.underlying9 h0
  obtain ⟨m, e1, _, hm⟩ := DataW.trod_int Tryz.underlying2 h1
  injection e0 with e0
  injection e1 with e1
  subst e0 e1
  exact ⟨⟨s, m⟩, rfl, hs, R64.of_wf hm⟩
set_option maxRecDepth 100000 in
set_option maxHeartbeats 1000000 in
theorem readsQ_od : ReadsQ Od InR Tryz.prog 37 := fun _ _ _ _ _ _ _ cs _ h => by
 obtain ⟨xs, n, _, _, hl, hlen, hf⟩ := DataW.trod_struct Tryz.underlying37 h
 rw [cellsOd] at hl
 match cs, hl with
 | [c0, c1, c2, c3, c4, c5, c6, c7, c8, c9], _ =>
  have h0 : DataW.trod _ Tryz.prog _ _ _ _ n 34 ((([c0, c1, c2, c3, c4, c5, c6, c7, c8, c9] : List Value).drop 0).take (Tryz.prog.cellsOf 34)) = xs[0]? := hf 0 _ rfl
  have h1 : DataW.trod _ Tryz.prog _ _ _ _ n 3 ((([c0, c1, c2, c3, c4, c5, c6, c7, c8, c9] : List Value).drop 2).take (Tryz.prog.cellsOf 3)) = xs[1]? := hf 1 _ rfl
  have h2 : DataW.trod _ Tryz.prog _ _ _ _ n 9 ((([c0, c1, c2, c3, c4, c5, c6, c7, c8, c9] : List Value).drop 3).take (Tryz.prog.cellsOf 9)) = xs[2]? := hf 2 _ rfl
  have h3 : DataW.trod _ Tryz.prog _ _ _ _ n 9 ((([c0, c1, c2, c3, c4, c5, c6, c7, c8, c9] : List Value).drop 4).take (Tryz.prog.cellsOf 9)) = xs[3]? := hf 3 _ rfl
  have h4 : DataW.trod _ Tryz.prog _ _ _ _ n 2 ((([c0, c1, c2, c3, c4, c5, c6, c7, c8, c9] : List Value).drop 5).take (Tryz.prog.cellsOf 2)) = xs[4]? := hf 4 _ rfl
  have h5 : DataW.trod _ Tryz.prog _ _ _ _ n 35 ((([c0, c1, c2, c3, c4, c5, c6, c7, c8, c9] : List Value).drop 6).take (Tryz.prog.cellsOf 35)) = xs[5]? := hf 5 _ rfl
  have h6 : DataW.trod _ Tryz.prog _ _ _ _ n 3 ((([c0, c1, c2, c3, c4, c5, c6, c7, c8, c9] : List Value).drop 7).take (Tryz.prog.cellsOf 3)) = xs[6]? := hf 6 _ rfl
  have h7 : DataW.trod _ Tryz.prog _ _ _ _ n 3 ((([c0, c1, c2, c3, c4, c5, c6, c7, c8, c9] : List Value).drop 8).take (Tryz.prog.cellsOf 3)) = xs[7]? := hf 7 _ rfl
  have h8 : DataW.trod _ Tryz.prog _ _ _ _ n 9 ((([c0, c1, c2, c3, c4, c5, c6, c7, c8, c9] : List Value).drop 9).take (Tryz.prog.cellsOf 9)) = xs[8]? := hf 8 _ rfl
  simp only [cellsS, cellsJ, cellsN, cellsId, cellsLs, List.drop_succ_cons, List.drop_zero, List.take_succ_cons, List.take_zero] at h0 h1 h2 h3 h4 h5 h6 h7 h8
  rw [List.getElem?_eq_getElem (by rw [hlen]; decide)] at h0 h1 h2 h3 h4 h5 h6 h7 h8
  obtain ⟨ys, n', _, _, _, hlen', hf'⟩ := DataW.trod_struct Tryz.underlying34 h0
  have g0 : DataW.trod _ Tryz.prog _ _ _ _ n' 3 ((([c0, c1] : List Value).drop 0).take (Tryz.prog.cellsOf 3)) = ys[0]? := hf' 0 _ rfl
  have g1 : DataW.trod _ Tryz.prog _ _ _ _ n' 3 ((([c0, c1] : List Value).drop 1).take (Tryz.prog.cellsOf 3)) = ys[1]? := hf' 1 _ rfl
  simp only [cellsN, List.drop_succ_cons, List.drop_zero, List.take_succ_cons, List.take_zero] at g0 g1
  rw [List.getElem?_eq_getElem (by rw [hlen']; decide)] at g0 g1
  obtain ⟨v0, e0, _, q0⟩ := DataW.trod_int Tryz.underlying3 g0
  obtain ⟨v1, e1, _, q1⟩ := DataW.trod_int Tryz.underlying3 g1
  obtain ⟨v2, e2, _, q2⟩ := DataW.trod_int Tryz.underlying3 h1
  obtain ⟨v3, e3, _, s3⟩ := DataW.trod_string Tryz.underlying9 h2
  obtain ⟨v4, e4, _, s4⟩ := DataW.trod_string Tryz.underlying9 h3
  obtain ⟨v5, e5, _, q5⟩ := DataW.trod_int Tryz.underlying2 h4
  obtain ⟨A, c, l, e6, s6, q6⟩ := readsQ_slice Tryz.underlying35 cellsLeg (by decide) readsQ_leg h5
  obtain ⟨v7, e7, _, q7⟩ := DataW.trod_int Tryz.underlying3 h6
  obtain ⟨v8, e8, _, q8⟩ := DataW.trod_int Tryz.underlying3 h7
  obtain ⟨v9, e9, _, s9⟩ := DataW.trod_string Tryz.underlying9 h8
  injection e0 with e0
  injection e1 with e1
  injection e2 with e2
  injection e3 with e3
  injection e4 with e4
  injection e5 with e5
  injection e6 with e6
  injection e7 with e7
  injection e8 with e8
  injection e9 with e9
  subst e0 e1 e2 e3 e4 e5 e6 e7 e8 e9
  exact ⟨⟨v0, v1, v2, v3, v4, v5, A, c, l, v7, v8, v9⟩, rfl, ⟨s3, s4, s9, s6⟩, R64.of_wf q0, R64.of_wf q1, R64.of_wf q2, R64.of_wf q5, R64.of_wf q7, R64.of_wf q8, q6⟩
section
variable {H : Type} {enc : TypeId × Value → H} {w : World} {base : Nat} {spare : Nat → Bool} {held : Bool} {r : Reach} {b0 : Nat} {v : Value} {d : DataW H} {p : List MemPlace}
set_option maxRecDepth 100000 in
set_option maxHeartbeats 1000000 in
theorem open_odR (hv : Value.okWide Tryz.prog w r b0 37 v) (h : DataW.Trod enc Tryz.prog w base spare held 37 v d p) : ∃ x : Od, v = x.v ∧ Okb w w.heap.size x ∧ InR x := by
 obtain ⟨cs, rfl, _⟩ := okWide_struct Tryz.underlying37 hv
 obtain ⟨fuel, hf⟩ := h
 obtain ⟨x, hx, hok, hq⟩ := readsQ_od _ _ _ _ _ _ _ _ _ hf
 refine ⟨x, ?_, hok, hq⟩
 have hx2 : cs.toList = Od.cells x := hx
 rw [← Array.toArray_toList (xs := cs), hx2]
 rfl
set_option maxRecDepth 100000 in
set_option maxHeartbeats 1000000 in
theorem open_odsR (hv : Value.okWide Tryz.prog w r b0 22 v) (h : DataW.Trod enc Tryz.prog w base spare held 22 v d p) : ∃ A c, ∃ l : List Od, v = .slice A l.length c ∧ Sl w w.heap.size A c l ∧ ∀ x ∈ l, InR x := by
 obtain ⟨a, len, cap, rfl⟩ := okWide_slice Tryz.underlying22 hv
 obtain ⟨fuel, hf⟩ := h
 obtain ⟨A, c, l, hx, hs, hq⟩ := readsQ_slice Tryz.underlying22 cellsOd (by decide) readsQ_od hf
 have hx2 : [Value.slice a len cap] = [.slice A l.length c] := hx
 injection hx2 with hx3
 exact ⟨A, c, l, hx3, hs, hq⟩
end
end Go.Proofs.YtampniiehgimhaaGreat

/- replies: rows of them, and what is the same -/
namespace Go.Proofs.YtampniiehgimhaaGreat
open Go.RowKit
abbrev tA : ByteArray := ⟨#[97]⟩
theorem SlS.rp {w : World} {S : Nat → Prop} {c : Nat} {A : Option Addr} {l : List Rp} (h : SlS w S A c l) {k : Nat} (hk : k < l.length) : ∃ b o, A = some ⟨b, o, none⟩ ∧ S b ∧
  w.cell? ⟨b, o + k * 4, none⟩ = some (i64 l[k].err) ∧ w.cell? ⟨b, o + k * 4 + 1, none⟩ = some (i64 l[k].hav) ∧ w.cell? ⟨b, o + k * 4 + 2, none⟩ = some (i64 l[k].set_) ∧ w.cell? ⟨b, o + k * 4 + 3, none⟩ = some (i64 l[k].num) := by
 obtain ⟨b, o, hA, hb, _, hc⟩ := h.at_ hk
 exact ⟨b, o, hA, hb, hc 0 _ rfl, hc 1 _ rfl, hc 2 _ rfl, hc 3 _ rfl⟩
theorem Rp.ext_ {a b : Rp} (h1 : a.err = b.err) (h2 : a.hav = b.hav) (h3 : a.set_ = b.set_) (h4 : a.num = b.num) : a = b := by cases a; cases b; simp_all
theorem neq_rp (a b : Rp) (w : World) : (binOp .neq 31 (.agg #[i64 a.err, i64 a.hav, i64 a.set_, i64 a.num]) (.agg #[i64 b.err, i64 b.hav, i64 b.set_, i64 b.num])).run Tryz.prog w = .ok (.bool (!decide (a = b))) w := by
 have u3 := Tryz.underlying2
 have a3 := Tryz.isAgg2
 have z3 := Tryz.sizeOf2
 have u4 := Tryz.underlying3
 have a4 := Tryz.isAgg3
 have z4 := Tryz.sizeOf3
 have u5 := Tryz.underlying29
 have a5 := Tryz.isAgg29
 have z5 := Tryz.sizeOf29
 have hS : Tryz.prog.underlying 31 = some (.struct (Tryz.prog.fieldsOf 31)) := by kernel_rfl
 have hp : Tryz.prog.stoodInHeld 31 = false := by kernel_rfl
 rw [run_neq_struct, show (10000 : Nat) = 9999 + 1 from rfl, run_equalIn_agg w 9999 31 _ _ hS hp]
 simp only [Program.fieldsOf, Tryz.underlying31]
 go_simp
 by_cases h1 : a.err = b.err
 ·by_cases h2 : a.hav = b.hav
  ·by_cases h3 : a.set_ = b.set_
   ·by_cases h4 : a.num = b.num
    ·rw [decide_eq_true (Rp.ext_ h1 h2 h3 h4)]; simp [h1, h2, h3, h4]
    ·rw [decide_eq_false (fun e => h4 (by rw [e]))]; simp [h1, h2, h3, h4]
   ·rw [decide_eq_false (fun e => h3 (by rw [e]))]; simp [h1, h2, h3]
  ·rw [decide_eq_false (fun e => h2 (by rw [e]))]; simp [h1, h2]
 ·rw [decide_eq_false (fun e => h1 (by rw [e]))]; simp [h1]
theorem eq_rp (a b : Rp) (w : World) : (binOp .eql 31 (.agg #[i64 a.err, i64 a.hav, i64 a.set_, i64 a.num]) (.agg #[i64 b.err, i64 b.hav, i64 b.set_, i64 b.num])).run Tryz.prog w = .ok (.bool (decide (a = b))) w := by
 have u3 := Tryz.underlying2
 have a3 := Tryz.isAgg2
 have z3 := Tryz.sizeOf2
 have u4 := Tryz.underlying3
 have a4 := Tryz.isAgg3
 have z4 := Tryz.sizeOf3
 have u5 := Tryz.underlying29
 have a5 := Tryz.isAgg29
 have z5 := Tryz.sizeOf29
 have hS : Tryz.prog.underlying 31 = some (.struct (Tryz.prog.fieldsOf 31)) := by kernel_rfl
 have hp : Tryz.prog.stoodInHeld 31 = false := by kernel_rfl
 rw [run_eql_struct, show (10000 : Nat) = 9999 + 1 from rfl, run_equalIn_agg w 9999 31 _ _ hS hp]
 simp only [Program.fieldsOf, Tryz.underlying31]
 go_simp
 by_cases h1 : a.err = b.err
 ·by_cases h2 : a.hav = b.hav
  ·by_cases h3 : a.set_ = b.set_
   ·by_cases h4 : a.num = b.num
    ·rw [decide_eq_true (Rp.ext_ h1 h2 h3 h4)]; simp [h1, h2, h3, h4]
    ·rw [decide_eq_false (fun e => h4 (by rw [e]))]; simp [h1, h2, h3, h4]
   ·rw [decide_eq_false (fun e => h3 (by rw [e]))]; simp [h1, h2, h3]
  ·rw [decide_eq_false (fun e => h2 (by rw [e]))]; simp [h1, h2]
 ·rw [decide_eq_false (fun e => h1 (by rw [e]))]; simp [h1]
end Go.Proofs.YtampniiehgimhaaGreat
