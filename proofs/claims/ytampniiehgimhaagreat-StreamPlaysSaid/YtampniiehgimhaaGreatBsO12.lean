/- law12.Op: data, and as an argument -/
import Derived.Test.YtampniiehgimhaaGreatRows
import Derived.Test.YtampniiehgimhaaGreatBs12
import Derived.Test.YtampniiehgimhaaGreatBs3
import Derived.WalkKit
import Derived.WalkSpells
import Derived.WalkLawsBesides
import Derived.Deep.QuietTactic
import Derived.BigQuiet
import Derived.Laws.StructEq
import Derived.Deep.DeepFit
import Derived.StillTailTactics

namespace Go.Proofs.YtampniiehgimhaaGreat
open Go.RowKit
open Go.ChangeShapes Go.WideShapes Go.Deep
/-- a step of law12's script -/
structure O12 where
 kind : Int
 n : Int
 o : Od
 name : ByteArray
 acct : ByteArray
abbrev O12.cells (x : O12) : List Value := [i64 x.kind, i64 x.n, i64 x.o.client, i64 x.o.seq, i64 x.o.kind, .string x.o.acct, .string x.o.peer, i64 x.o.sum, .slice x.o.la x.o.legs.length x.o.lc, i64 x.o.period, i64 x.o.hold, .string x.o.note, .string x.name, .string x.acct]
instance encO12 : Enc O12 where
 size := 14
 cells := O12.cells
 val x := .agg x.cells.toArray
 ok w S x := Od.Ok w S x.o ∧ x.name.size ≤ maxLen ∧ x.acct.size ≤ maxLen
 len _ := rfl
 one _ v hv := by simp only [O12.cells, List.mem_cons, List.not_mem_nil, or_false] at hv; rcases hv with rfl | rfl | rfl | rfl | rfl | rfl | rfl | rfl | rfl | rfl | rfl | rfl | rfl | rfl <;> rfl
 keep h h1 h2 := ⟨Enc.keep (α := Od) h.1 h1 h2, h.2⟩
theorem SlS.o12 {w : World} {S : Nat → Prop} {c : Nat} {A : Option Addr} {l : List O12} (h : SlS w S A c l) {k : Nat} (hk : k < l.length) : ∃ b o, A = some ⟨b, o, none⟩ ∧ S b ∧ (Od.Ok w S l[k].o ∧ l[k].name.size ≤ maxLen ∧ l[k].acct.size ≤ maxLen) ∧
  ∀ j v, l[k].cells[j]? = some v → w.cell? ⟨b, o + (k * 14 + j), none⟩ = some v := by
 obtain ⟨b, o, hA, hb, hok, hc⟩ := h.at_ hk
 exact ⟨b, o, hA, hb, hok, fun j v hv => hc j v hv⟩
set_option maxRecDepth 100000 in
set_option maxHeartbeats 1000000 in
theorem cellsO12 : Tryz.prog.cellsOf 55 = 14 := by kernel_rfl
set_option maxRecDepth 100000 in
set_option maxHeartbeats 2000000 in
theorem readsQ_o12 : ReadsQ O12 (fun y => InR y.o) Tryz.prog 55 := fun _ _ _ _ _ _ _ cs _ h => by
 obtain ⟨xs, n, _, _, hl, hlen, hf⟩ := DataW.trod_struct Tryz.underlying55 h
 rw [cellsO12] at hl
 match cs, hl with
 | [c0, c1, c2, c3, c4, c5, c6, c7, c8, c9, c10, c11, c12, c13], _ =>
  have h0 : DataW.trod _ Tryz.prog _ _ _ _ n 3 ((([c0, c1, c2, c3, c4, c5, c6, c7, c8, c9, c10, c11, c12, c13] : List Value).drop 0).take (Tryz.prog.cellsOf 3)) = xs[0]? := hf 0 _ rfl
  have h1 : DataW.trod _ Tryz.prog _ _ _ _ n 3 ((([c0, c1, c2, c3, c4, c5, c6, c7, c8, c9, c10, c11, c12, c13] : List Value).drop 1).take (Tryz.prog.cellsOf 3)) = xs[1]? := hf 1 _ rfl
  have h2 : DataW.trod _ Tryz.prog _ _ _ _ n 37 ((([c0, c1, c2, c3, c4, c5, c6, c7, c8, c9, c10, c11, c12, c13] : List Value).drop 2).take (Tryz.prog.cellsOf 37)) = xs[2]? := hf 2 _ rfl
  have h3 : DataW.trod _ Tryz.prog _ _ _ _ n 9 ((([c0, c1, c2, c3, c4, c5, c6, c7, c8, c9, c10, c11, c12, c13] : List Value).drop 12).take (Tryz.prog.cellsOf 9)) = xs[3]? := hf 3 _ rfl
  have h4 : DataW.trod _ Tryz.prog _ _ _ _ n 9 ((([c0, c1, c2, c3, c4, c5, c6, c7, c8, c9, c10, c11, c12, c13] : List Value).drop 13).take (Tryz.prog.cellsOf 9)) = xs[4]? := hf 4 _ rfl
  simp only [cellsS, cellsN, cellsOd, List.drop_succ_cons, List.drop_zero, List.take_succ_cons, List.take_zero] at h0 h1 h2 h3 h4
  rw [List.getElem?_eq_getElem (by rw [hlen]; decide)] at h0 h1 h2 h3 h4
  obtain ⟨v0, e0, _, _⟩ := DataW.trod_int Tryz.underlying3 h0
  obtain ⟨v1, e1, _, _⟩ := DataW.trod_int Tryz.underlying3 h1
  obtain ⟨x, hx, hok, hq⟩ := readsQ_od _ _ _ _ _ _ _ _ _ h2
  obtain ⟨v3, e3, _, s3⟩ := DataW.trod_string Tryz.underlying9 h3
  obtain ⟨v4, e4, _, s4⟩ := DataW.trod_string Tryz.underlying9 h4
  injection e0 with e0
  injection e1 with e1
  injection e3 with e3
  injection e4 with e4
  subst e0 e1 e3 e4
  have hx2 : [c2, c3, c4, c5, c6, c7, c8, c9, c10, c11] = [i64 x.client, i64 x.seq, i64 x.kind, .string x.acct, .string x.peer, i64 x.sum, .slice x.la x.legs.length x.lc, i64 x.period, i64 x.hold, .string x.note] := hx
  simp only [List.cons.injEq, and_true] at hx2
  obtain ⟨rfl, rfl, rfl, rfl, rfl, rfl, rfl, rfl, rfl, rfl⟩ := hx2
  exact ⟨⟨v0, v1, x, v3, v4⟩, rfl, ⟨hok, s3, s4⟩, hq⟩
section
variable {H : Type} {enc : TypeId × Value → H} {w : World} {base : Nat} {spare : Nat → Bool} {held : Bool} {r : Reach} {b0 : Nat} {v : Value} {d : DataW H} {p : List MemPlace}
set_option maxRecDepth 100000 in
set_option maxHeartbeats 1000000 in
theorem open_o12s {t : TypeId} (ht : Tryz.prog.underlying t = some (.slice 55)) (hv : Value.okWide Tryz.prog w r b0 t v) (h : DataW.Trod enc Tryz.prog w base spare held t v d p) : ∃ A c, ∃ l : List O12, v = .slice A l.length c ∧ Sl w w.heap.size A c l ∧ ∀ x ∈ l, InR x.o := by
 obtain ⟨a, len, cap, rfl⟩ := okWide_slice ht hv
 obtain ⟨fuel, hf⟩ := h
 obtain ⟨A, c, l, hx, hs, hq⟩ := readsQ_slice ht cellsO12 (by decide) readsQ_o12 hf
 have hx2 : [Value.slice a len cap] = [.slice A l.length c] := hx
 injection hx2 with hx3
 exact ⟨A, c, l, hx3, hs, hq⟩
end
end Go.Proofs.YtampniiehgimhaaGreat
