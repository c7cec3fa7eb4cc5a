/- law12.StreamPlays -/
import Derived.Test.YtampniiehgimhaaGreatRows
import Derived.Test.YtampniiehgimhaaGreatBsStI
import Derived.Test.YtampniiehgimhaaGreatBsO12
import Derived.Test.YtampniiehgimhaaGreatBsNames6
import Derived.Test.YtampniiehgimhaaGreatBs26
import Derived.Test.YtampniiehgimhaaGreatBs4
import Derived.Test.YtampniiehgimhaaGreatBs5
import Derived.Test.YtampniiehgimhaaGreatBs13
import Derived.Test.YtampniiehgimhaaGreatBs29
import Derived.Deep.Cut
import Derived.Deep.CutBlock
import Derived.Deep.CutRange
import Derived.WalkKit
import Derived.WalkSpells
import Derived.WalkLawsBesides
import Derived.Deep.QuietTactic
import Derived.BigQuiet
import Derived.Laws.StructEq
import Derived.Deep.DeepFit
import Derived.StillTailTactics

namespace Go.Proofs.YtampniiehgimhaaGreat
open Go.RowKit
theorem oper_call3k {P : Program} {o : Oper} {a : Act} {w : World} {K : Act → World → Prop} {Q : Exit → Act → World → Prop} (f n1 n2 n3 : Nat) (z : Value) (ts : Array TypeId) (ho : o.op = .call { callee := .value (.func f), args := #[.tmp n1, .tmp n2, .tmp n3, .const z], argTypes := ts }) (v1 v2 v3 : Value) (h1 : a.tmps[n1]?.getD undef = v1) (h2 : a.tmps[n2]?.getD undef = v2) (h3 : a.tmps[n3]?.getD undef = v3)
  (ek : ∀ args w, (callFunc f args).run P w = .ok (.enter f args) w) (h : Calls P f #[v1, v2, v3, z] w fun e w' => ∃ r, e = .returned r ∧ K (a.put o.dst r) w') : Oper.wp P o a w K Q := by
 obtain ⟨d, op, t, ps, af, gd⟩ := o
 dsimp only at ho h
 subst ho
 go_simp
 exact h.mono (by rintro e w' ⟨r, rfl, h2⟩; exact h2)
theorem inf_od12 : (Tryz.prog.info? 37).map (fun i => (i.zero, i.size, i.bytes)) = some (some (.agg #[i64 0, i64 0, i64 0, .string ByteArray.empty, .string ByteArray.empty, i64 0, .slice none 0 0, i64 0, i64 0, .string ByteArray.empty]), Enc.size Od, 120) := by kernel_rfl
theorem rem6 (x : Int) : 0 ≤ wrap64 ((IntKind.u64.wrap x).tmod 6) ∧ wrap64 ((IntKind.u64.wrap x).tmod 6) ≤ 5 := by
 have h0 : 0 ≤ IntKind.u64.wrap x := by simp only [IntKind.wrap_u64]; omega
 have h1 : 0 ≤ (IntKind.u64.wrap x).tmod 6 := Int.tmod_nonneg _ h0
 have h2 : (IntKind.u64.wrap x).tmod 6 < 6 := Int.tmod_lt_of_pos _ (by omega)
 generalize (IntKind.u64.wrap x).tmod 6 = y at h1 h2
 unfold wrap64
 omega
/-- legs of the script lie beside the orders' row -/
theorem RdD.oth0 {w : World} {base r : Nat} {vL vR : Value} {L : List Od} {R : List Rr} (h : RdD w base r vL vR L R) {W : World} (hn : base ≤ W.heap.size) : ∀ b, b < base → Oth W vL b := fun b hb => ⟨Nat.lt_of_lt_of_le hb hn, fun e => by have := (h.hL.1.lt b e.symm).1; omega⟩
set_option maxRecDepth 100000 in
set_option maxHeartbeats 32000000 in
theorem streamPlays_c (A : Option Addr) (c : Nat) (l : List O12) (w : World) (h : Sl w w.heap.size A c l) (hr : ∀ x ∈ l, InR x.o) :
  Calls Tryz.prog 4 #[.slice A l.length c] w fun e w' => e = .returned (.bool true) ∧ Below w.heap.size w w' := by
 have hL := Lib.hid fun W => lives_12 W
 have HN := Lib.hid fun W => snew_c W
 have H := Lib.hid h
 have Hr := Lib.hid hr
 have hlc : l.length ≤ c := h.1
 clear h hr
 go_enter Tryz.func4, Tryz.ntmps4
 go_wp2_with fail
 refine (hL.out _).mono ?_
 rintro e w1 ⟨rfl, hF⟩
 have hb1 := hF
 clear hL hF
 go_wp2_with fail
 refine (HN.out _).mono ?_
 rintro e w2 ⟨d, rfl, hD, hF⟩
 have hb2 := below_on hb1 (Nat.le_refl _) hF
 have hb3 := hb2.alloc hb2.size (.cells #[.slice none 0 0, .slice none 0 0] 53)
 have hD3 := hD.later ((Below.refl _ _).alloc (Nat.le_refl _) (.cells #[.slice none 0 0, .slice none 0 0] 53))
 have hz3 : (w2.alloc (.cells #[.slice none 0 0, .slice none 0 0] 53)).heap.size = w2.heap.size + 1 := by simp
 have HI0 := Lib.hid (show StI w.heap.size (w2.alloc (.cells #[.slice none 0 0, .slice none 0 0] 53)) w1.heap.size d w2.heap.size (.slice none 0 0) (.slice none 0 0) [] [] [] from
  ⟨hD3, ⟨heap_alloc_new w2 _, Own.nil_ _ _ _, Own.nil_ _ _ _, hb2.size, (by simp [Value.ownBlock]), (by simp [Value.ownBlock]), (fun g e => absurd e (by simp [Value.ownBlock])), (fun x hx => absurd hx (by simp))⟩, inv_bk0, (fun k => rfl), (fun x hx => absurd hx (by simp)), (by decide), (fun q hq => absurd hq (by simp)), (fun k hk e => by
   have h1 := (hD.lt k hk).2
   rcases e with e | e | e
   ·omega
   ·simp [Value.ownBlock] at e
   ·simp [Value.ownBlock] at e), hb1.size, (by have := hF.size; omega)⟩)
 have Hb3 := Lib.hid hb3
 clear HN hD hF hb1 hb2 hb3 hD3 hz3
 go_upto_block 0 with fail
 generalize w2.alloc (.cells #[.slice none 0 0, .slice none 0 0] 53) = w3 at *
 generalize w2.heap.size = r at *
 generalize w1.heap.size = bd at *
 clear w2 w1
 go_cut [5, 6, 7, 8, 9, 10, 11, 12, 13, 14] from 24 to 189 (fun _ _ _ _ _ _ _ _ _ _ wx => ∃ (L : List Od) (vL vR : Value) (T : EvT) (Rs : List Rx), StI w.heap.size wx bd d r vL vR L T Rs ∧ L.length ≤ 50 ∧ Below w.heap.size w wx)
 case first =>
  go_wp2_with fail
  go_loopw [5] (fun iv wr => ∃ (i : Nat) (L : List Od) (vL vR : Value) (T : EvT) (Rs : List Rx), iv = i64 i ∧ i ≤ l.length ∧ StI w.heap.size wr bd d r vL vR L T Rs ∧ L.length ≤ i ∧ i ≤ 50 ∧ Below w.heap.size w wr) (fun iv _ => l.length - (intOf iv).toNat)
  case atStart => exact ⟨0, [], _, _, [], [], rfl, Nat.zero_le _, HI0.out, Nat.le_refl _, by decide, Hb3.out⟩
  case round =>
   clear HI0 Hb3
   obtain ⟨i, L, vL, vR, T, Rs, rfl, hi, h0, hLi0, hi50, hb⟩ := hrel
   by_cases hlt : i < l.length ∧ i < 50
   ·obtain ⟨hlt, hlt5⟩ := hlt
    have g1 : decide ((i : Int) < (l.length : Int)) = true := decide_eq_true (by omega)
    have g2 : decide (i < l.length) = true := decide_eq_true hlt
    have g3 : decide ((i : Int) < 50) = true := decide_eq_true (by omega)
    have i0 : (0 : Int) ≤ (i : Int) := by omega
    have i1 : (i : Int) < (l.length : Int) := by omega
    obtain ⟨b, o, rfl, hbb, hok, hc⟩ := (H.out.below hb).o12 hlt
    have hxr := Hr.out l[i] (List.getElem_mem hlt)
    generalize l[i] = x at *
    have c0 := hc 0 _ rfl
    have c1 := hc 1 _ rfl
    have c2 := hc 2 _ rfl
    have c3 := hc 3 _ rfl
    have c4 := hc 4 _ rfl
    have c5 := hc 5 _ rfl
    have c6 := hc 6 _ rfl
    have c7 := hc 7 _ rfl
    have c8 := hc 8 _ rfl
    have c9 := hc 9 _ rfl
    have c10 := hc 10 _ rfl
    have c11 := hc 11 _ rfl
    have c12 := hc 12 _ rfl
    have c13 := hc 13 _ rfl
    simp only [Nat.add_zero, ← Nat.add_assoc] at c0 c1 c2 c3 c4 c5 c6 c7 c8 c9 c10 c11 c12 c13
    have hlgc : x.o.legs.length ≤ x.o.lc := hok.1.legs.1
    obtain ⟨m8, hm8⟩ : ∃ m8 : Nat, m8 = (cut8 x.o).legs.length := ⟨_, rfl⟩
    have hm : m8 = min x.o.legs.length 8 := by rw [hm8]; show (x.o.legs.take 8).length = _; rw [List.length_take, Nat.min_comm]
    have n0 : (0 : Int) ≤ min (x.o.legs.length : Int) 8 := by omega
    have n1 : min (x.o.legs.length : Int) 8 ≤ (x.o.lc : Int) := by omega
    have n2 : (min (x.o.legs.length : Int) 8).toNat = m8 := by omega
    have hba := (Below.refl wr.heap.size wr).alloc (Nat.le_refl _) (.cells #[i64 x.kind, i64 x.n, i64 x.o.client, i64 x.o.seq, i64 x.o.kind, .string x.o.acct, .string x.o.peer, i64 x.o.sum, .slice x.o.la m8 x.o.lc, i64 x.o.period, i64 x.o.hold, .string x.o.note, .string x.name, .string x.acct] 55)
    have hrw := heap_alloc_new wr (.cells #[i64 x.kind, i64 x.n, i64 x.o.client, i64 x.o.seq, i64 x.o.kind, .string x.o.acct, .string x.o.peer, i64 x.o.sum, .slice x.o.la m8 x.o.lc, i64 x.o.period, i64 x.o.hold, .string x.o.note, .string x.name, .string x.acct] 55)
    have hb5 := hb.alloc hb.size (.cells #[i64 x.kind, i64 x.n, i64 x.o.client, i64 x.o.seq, i64 x.o.kind, .string x.o.acct, .string x.o.peer, i64 x.o.sum, .slice x.o.la m8 x.o.lc, i64 x.o.period, i64 x.o.hold, .string x.o.note, .string x.name, .string x.acct] 55)
    have h5 := h0.later hba
    have hgl : wr.heap.size < (wr.alloc (.cells #[i64 x.kind, i64 x.n, i64 x.o.client, i64 x.o.seq, i64 x.o.kind, .string x.o.acct, .string x.o.peer, i64 x.o.sum, .slice x.o.la m8 x.o.lc, i64 x.o.period, i64 x.o.hold, .string x.o.note, .string x.name, .string x.acct] 55)).heap.size := by simp
    have Hdg := Lib.hid (fun k (hk : d.all T Rs k) => (h0.dk.lt k hk).2)
    have Hrg := Lib.hid (fun k (hk : RdO r vL vR k) => (h0.rd.lt k hk).2)
    have Hy := Lib.hid (show OdB (cut8 x.o) ∧ (cut8 x.o).legs.length ≤ 8 from ⟨⟨hok.1.acct, hok.1.peer, cut8_rng hxr⟩, by rw [← hm8]; omega⟩)
    have Hyk := Lib.hid (show Od.Ok wr (fun k => k < w.heap.size) (cut8 x.o) from cut8_ok hok.1)
    have Hxs := Lib.hid hok.2
    have Hm8 := Lib.hid hm8
    have hu := rem6 x.kind
    obtain ⟨u, hu0⟩ : ∃ u, wrap64 ((IntKind.u64.wrap x.kind).tmod 6) = u := ⟨_, rfl⟩
    rw [hu0] at hu
    have HU := Lib.hid hu0
    clear hu0
    have hbs := hb.size
    have Hc5 := Lib.hid (show ∀ p : Addr, p.block < wr.heap.size → (wr.alloc (.cells #[i64 x.kind, i64 x.n, i64 x.o.client, i64 x.o.seq, i64 x.o.kind, .string x.o.acct, .string x.o.peer, i64 x.o.sum, .slice x.o.la m8 x.o.lc, i64 x.o.period, i64 x.o.hold, .string x.o.note, .string x.name, .string x.acct] 55)).cell? p = wr.cell? p from fun p hp => hba.cell hp)
    clear hm hm8 hbb hok hxr h0 hc hb hba
    go_upto_block 2 with fail
    generalize wr.alloc (.cells #[i64 x.kind, i64 x.n, i64 x.o.client, i64 x.o.seq, i64 x.o.kind, .string x.o.acct, .string x.o.peer, i64 x.o.sum, .slice x.o.la m8 x.o.lc, i64 x.o.period, i64 x.o.hold, .string x.o.note, .string x.name, .string x.acct] 55) = w5 at *
    generalize wr.heap.size = g5 at *
    have hrY : w5.heap[g5]? = some (.cells #[i64 x.kind, i64 x.n, i64 (cut8 x.o).client, i64 (cut8 x.o).seq, i64 (cut8 x.o).kind, .string (cut8 x.o).acct, .string (cut8 x.o).peer, i64 (cut8 x.o).sum, .slice (cut8 x.o).la (cut8 x.o).legs.length (cut8 x.o).lc, i64 (cut8 x.o).period, i64 (cut8 x.o).hold, .string (cut8 x.o).note, .string x.name, .string x.acct] 55 (0, 0)) := by rw [← Hm8.out]; exact hrw
    have Hy5 := Lib.hid (show Od.Ok w5 (fun k => k < w.heap.size) (cut8 x.o) from Enc.keep (α := Od) Hyk.out (fun p hp => Hc5.out p (Nat.lt_of_lt_of_le hp hbs)) (fun _ h => h))
    generalize cut8 x.o = y at *
    have HgA := Lib.hid (show ∀ V, Gr w5 V (d.all T Rs) → V.heap[g5]? = some (.cells #[i64 x.kind, i64 x.n, i64 y.client, i64 y.seq, i64 y.kind, .string y.acct, .string y.peer, i64 y.sum, .slice y.la y.legs.length y.lc, i64 y.period, i64 y.hold, .string y.note, .string x.name, .string x.acct] 55 (0, 0)) from fun V hV => (hV.block g5 hgl (fun e => by have := Hdg.out g5 e; omega)).trans hrY)
    have HgB := Lib.hid (show ∀ V V', Gr w5 V (d.all T Rs) → Gr V V' (fun j => j = r ∨ vR.ownBlock = some j) → V'.heap[g5]? = some (.cells #[i64 x.kind, i64 x.n, i64 y.client, i64 y.seq, i64 y.kind, .string y.acct, .string y.peer, i64 y.sum, .slice y.la y.legs.length y.lc, i64 y.period, i64 y.hold, .string y.note, .string x.name, .string x.acct] 55 (0, 0)) from fun V V' hV hV' => (hV'.block g5 (Nat.lt_of_lt_of_le hgl hV.size) (fun e => by have := Hrg.out g5 (e.elim .inl (fun e => .inr (.inr e))); omega)).trans (HgA.out V hV))
    have hLi : L.length ≤ i + 1 := by omega
    have hL6 : L.length ≤ 60000 := by omega
    clear hrw n0 n1 n2 c0 c1 c2 c3 c4 c5 c6 c7 c8 c9 c10 c11 c12 c13 hlgc Hyk Hm8 Hc5
    go_cut [7, 8, 9, 10, 11, 12, 13, 14] from 54 to 187 (fun s7 _ _ _ _ _ _ _ wx => s7 = .bool true ∧ ∃ (L2 : List Od) (vL2 vR2 : Value) (T2 : EvT) (R2 : List Rx), StI w.heap.size wx bd d r vL2 vR2 L2 T2 R2 ∧ L2.length ≤ i + 1 ∧ Below w.heap.size w wx)
    case first =>
     by_cases u0 : u = 0
     ·have e0 : (wrap64 ((IntKind.u64.wrap x.kind).tmod 6) == 0) = true := beq_iff_eq.2 (HU.out.trans u0)
      clear u0 hu
      obtain ⟨AL, cL, rfl, sL⟩ := h5.rd.hL.sl
      have hq := HgA.out w5 (Gr.of_below (Below.refl _ _) _)
      have m2 := cell_of_row _ g5 2 _ _ (0, 0) hq
      have m3 := cell_of_row _ g5 3 _ _ (0, 0) hq
      have m4 := cell_of_row _ g5 4 _ _ (0, 0) hq
      have m5 := cell_of_row _ g5 5 _ _ (0, 0) hq
      have m6 := cell_of_row _ g5 6 _ _ (0, 0) hq
      have m7 := cell_of_row _ g5 7 _ _ (0, 0) hq
      have m8 := cell_of_row _ g5 8 _ _ (0, 0) hq
      have m9 := cell_of_row _ g5 9 _ _ (0, 0) hq
      have m10 := cell_of_row _ g5 10 _ _ (0, 0) hq
      have m11 := cell_of_row _ g5 11 _ _ (0, 0) hq
      simp only [List.getElem?_toArray, List.getElem?_cons_zero, List.getElem?_cons_succ] at m2 m3 m4 m5 m6 m7 m8 m9 m10 m11
      have HDo := Lib.hid (sdo_c y w5 h5.dk h5.inv Hy.out.1 (Enc.keep (α := Od) Hy5.out (fun _ _ => rfl) (fun k hk => ⟨Nat.lt_of_lt_of_le hk h5.hb, fun e => by have := (h5.dk.lt k e).1; have := h5.lo.1; omega⟩)) (Nat.le_trans Hy.out.2 (by decide)) h5.lo.2 (fun k => by rw [h5.ev]; exact Nat.le_trans (evL_le inv_bk0 k L (fun z hz => (h5.od z hz).1)) hL6))
      unfold Od.v at HDo
      clear sL hq
      go_wp2_with fail
      refine HDo.out.mono ?_
      rintro e W6 ⟨rfl, T2, hD6, hev6, hG6, hn6⟩
      have hR6 := h5.rdk hG6
      have hw06 : w.heap.size ≤ W6.heap.size := Nat.le_trans h5.hb hG6.size
      have hb6 := hb5.trans (h5.below hG6 hb5.size h5.lo.1)
      have Hy6 := Lib.hid (show Od.Ok W6 (fun k => k < w.heap.size) y from Enc.keep (α := Od) Hy5.out (fun p hp => World.cell?_of_block (hG6.block _ (Nat.lt_of_lt_of_le hp h5.hb) (fun e => by have hp' : p.block < w.heap.size := hp; have := (h5.dk.lt _ e).1; have := h5.lo.1; omega))) (fun _ h => h))
      have Hlen := Lib.hid (show L.length + 1 ≤ 4294967296 by omega)
      have hD6f := fun (w4 : World) (v3 : Value) (hR : RdD w4 w.heap.size r v3 vR (L ++ [y]) (Rs.map Rx.rr)) (hg4 : Gr W6 w4 (fun j => j = r ∨ (Value.slice AL L.length cL).ownBlock = some j)) (hv : v3.ownBlock = (Value.slice AL L.length cL).ownBlock ∨ ∃ g, v3.ownBlock = some g ∧ W6.heap.size ≤ g) => (show StI w.heap.size w4 bd d r v3 vR (L ++ [y]) T2 Rs ∧ Below w.heap.size W6 w4 from ⟨h5.do_ Hy.out.1 Hy.out.2 hD6 hev6 hG6 hn6 hR hg4 hv, hg4.below hw06 (fun j hj => (hR6.lt j (hj.elim .inl (fun e => .inr (.inl e)))).1)⟩)
      have HD6f := Lib.hid hD6f
      have HS13 := Lib.hid (show ∀ V, Below W6.heap.size W6 V → (fun V : World => V.cell? ⟨r, 0, none⟩ = some (.slice AL L.length cL) ∧ V.cell? ⟨g5, 2, none⟩ = some (i64 y.client) ∧ V.cell? ⟨g5, 3, none⟩ = some (i64 y.seq) ∧ V.cell? ⟨g5, 4, none⟩ = some (i64 y.kind) ∧ V.cell? ⟨g5, 5, none⟩ = some (.string y.acct) ∧ V.cell? ⟨g5, 6, none⟩ = some (.string y.peer) ∧ V.cell? ⟨g5, 7, none⟩ = some (i64 y.sum) ∧ V.cell? ⟨g5, 8, none⟩ = some (.slice y.la y.legs.length y.lc) ∧ V.cell? ⟨g5, 9, none⟩ = some (i64 y.period) ∧ V.cell? ⟨g5, 10, none⟩ = some (i64 y.hold) ∧ V.cell? ⟨g5, 11, none⟩ = some (.string y.note)) V from fun V hV => by
       have h1 := (hR6.later hw06 hV).cell
       have h2 := (hV.block g5 (Nat.lt_of_lt_of_le hgl hG6.size)).trans (HgA.out W6 hG6)
       exact ⟨cell_of_row _ r 0 _ _ (0, 0) h1, cell_of_row _ g5 2 _ _ (0, 0) h2, cell_of_row _ g5 3 _ _ (0, 0) h2, cell_of_row _ g5 4 _ _ (0, 0) h2, cell_of_row _ g5 5 _ _ (0, 0) h2, cell_of_row _ g5 6 _ _ (0, 0) h2, cell_of_row _ g5 7 _ _ (0, 0) h2, cell_of_row _ g5 8 _ _ (0, 0) h2, cell_of_row _ g5 9 _ _ (0, 0) h2, cell_of_row _ g5 10 _ _ (0, 0) h2, cell_of_row _ g5 11 _ _ (0, 0) h2⟩)
      have HS3 := Lib.hid (show ∀ V, (W6.drew.alloc (.cells #[i64 y.client, i64 y.seq, i64 y.kind, .string y.acct, .string y.peer, i64 y.sum, .slice y.la y.legs.length y.lc, i64 y.period, i64 y.hold, .string y.note] 37)).grownBy V (Value.slice AL L.length cL).ownBlock → V.heap[r]? = some (.cells #[.slice AL L.length cL, vR] 53 (0, 0)) → (fun V : World => V.cell? ⟨r, 0, none⟩ = some (.slice AL L.length cL) ∧ V.cell? ⟨g5, 2, none⟩ = some (i64 y.client) ∧ V.cell? ⟨g5, 3, none⟩ = some (i64 y.seq) ∧ V.cell? ⟨g5, 4, none⟩ = some (i64 y.kind) ∧ V.cell? ⟨g5, 5, none⟩ = some (.string y.acct) ∧ V.cell? ⟨g5, 6, none⟩ = some (.string y.peer) ∧ V.cell? ⟨g5, 7, none⟩ = some (i64 y.sum) ∧ V.cell? ⟨g5, 8, none⟩ = some (.slice y.la y.legs.length y.lc) ∧ V.cell? ⟨g5, 9, none⟩ = some (i64 y.period) ∧ V.cell? ⟨g5, 10, none⟩ = some (i64 y.hold) ∧ V.cell? ⟨g5, 11, none⟩ = some (.string y.note)) V from fun V hV h1 => by
       have hbl := (Below.refl W6.heap.size W6).drew.alloc (Nat.le_refl _) (.cells #[i64 y.client, i64 y.seq, i64 y.kind, .string y.acct, .string y.peer, i64 y.sum, .slice y.la y.legs.length y.lc, i64 y.period, i64 y.hold, .string y.note] 37)
       have h2 := (hV.block g5 (Nat.lt_of_lt_of_le (Nat.lt_of_lt_of_le hgl hG6.size) hbl.size) (fun e => by have := Hrg.out g5 (.inr (.inl e.symm)); omega)).trans ((hbl.block g5 (Nat.lt_of_lt_of_le hgl hG6.size)).trans (HgA.out W6 hG6))
       exact ⟨cell_of_row _ r 0 _ _ (0, 0) h1, cell_of_row _ g5 2 _ _ (0, 0) h2, cell_of_row _ g5 3 _ _ (0, 0) h2, cell_of_row _ g5 4 _ _ (0, 0) h2, cell_of_row _ g5 5 _ _ (0, 0) h2, cell_of_row _ g5 6 _ _ (0, 0) h2, cell_of_row _ g5 7 _ _ (0, 0) h2, cell_of_row _ g5 8 _ _ (0, 0) h2, cell_of_row _ g5 9 _ _ (0, 0) h2, cell_of_row _ g5 10 _ _ (0, 0) h2, cell_of_row _ g5 11 _ _ (0, 0) h2⟩)
      clear HDo hD6 hev6 hG6 hn6 h5 hb5 m2 m3 m4 m5 m6 m7 m8 m9 m10 m11 HgA HgB hD6f
      go_wp2_with fail
      as_aux_lemma =>
      refine wp_region_noPanic ?_
      refine wp_region_l 11 (fun V : World => V.cell? ⟨r, 0, none⟩ = some (.slice AL L.length cL) ∧ V.cell? ⟨g5, 2, none⟩ = some (i64 y.client) ∧ V.cell? ⟨g5, 3, none⟩ = some (i64 y.seq) ∧ V.cell? ⟨g5, 4, none⟩ = some (i64 y.kind) ∧ V.cell? ⟨g5, 5, none⟩ = some (.string y.acct) ∧ V.cell? ⟨g5, 6, none⟩ = some (.string y.peer) ∧ V.cell? ⟨g5, 7, none⟩ = some (i64 y.sum) ∧ V.cell? ⟨g5, 8, none⟩ = some (.slice y.la y.legs.length y.lc) ∧ V.cell? ⟨g5, 9, none⟩ = some (i64 y.period) ∧ V.cell? ⟨g5, 10, none⟩ = some (i64 y.hold) ∧ V.cell? ⟨g5, 11, none⟩ = some (.string y.note)) (by kernel_rfl) (HS13.out _ (Below.refl _ _).drew) (fun hH => ?_)
      refine tkZ 0 ?_; refine tkZ 1 ?_; refine tkZ 2 ?_; refine tkZ 3 ?_; refine tkZ 4 ?_; refine tkZ 5 ?_; refine tkZ 6 ?_
      refine tkO 7 (fun K hK => ?_)
      refine oper_lit_od 66 rfl y rfl ?_
      have hbl := (Below.refl W6.heap.size W6).drew.alloc (Nat.le_refl _) (.cells #[i64 y.client, i64 y.seq, i64 y.kind, .string y.acct, .string y.peer, i64 y.sum, .slice y.la y.legs.length y.lc, i64 y.period, i64 y.hold, .string y.note] 37)
      have H7 := Lib.hid (hR6.later hw06 hbl)
      have HH := Lib.hid (heap_alloc_new W6.drew (.cells #[i64 y.client, i64 y.seq, i64 y.kind, .string y.acct, .string y.peer, i64 y.sum, .slice y.la y.legs.length y.lc, i64 y.period, i64 y.hold, .string y.note] 37))
      have Hne := Lib.hid (hR6.hL.new_ne (Nat.le_refl W6.heap.size))
      have Hbl := Lib.hid hbl
      clear hbl
      refine hK.out _ _ (HS13.out _ Hbl.out) (fun hH => ?_)
      clear hK K
      try simp only [Act.put, uA, uZ, uS, vA, vZ, vS]
      refine tkO 8 (fun K hK => ?_)
      refine oper_append_one (.tmp 64) (.tmp 67) 22 rfl (.agg #[i64 0, i64 0, i64 0, .string ByteArray.empty, .string ByteArray.empty, i64 0, .slice none 0 0, i64 0, i64 0, .string ByteArray.empty]) 120 Tryz.underlying22 inf_od12 rfl (by decide) (by decide) rfl H7.out.hL W6.heap.size y rfl _ 37 HH.out rfl Hne.out (Enc.keep (α := Od) Hy6.out (fun p hp => Hbl.out.cell (Nat.lt_of_lt_of_le hp hw06)) (H7.out.oth0 (Nat.le_trans hw06 Hbl.out.size))) Hlen.out (Nat.le_trans hw06 Hbl.out.size) ?_
      intro v3 w3 hO3 hg3 hat3
      obtain ⟨q1, q2, q3⟩ := H7.out.growL (Nat.le_trans hw06 Hbl.out.size) (Enc.keep (α := Od) Hy6.out (fun p hp => Hbl.out.cell (Nat.lt_of_lt_of_le hp hw06)) (fun _ h => h)) hO3 hg3 hat3
      obtain ⟨A3, cap3, hv3, -⟩ := hO3.sl
      generalize List.length _ = n3 at hv3
      subst hv3
      have HQ1 := Lib.hid q1
      have HQ2 := Lib.hid q2
      have HQ3 := Lib.hid q3
      have Hat := Lib.hid hat3
      have hS3 := HS3.out w3 hg3 q3
      clear q1 q2 q3 hO3 hg3 hat3
      refine hK.out _ _ (hS3) (fun hH => ?_)
      clear hK K
      try simp only [Act.put, uA, uZ, uS, vA, vZ, vS]
      refine tkZ 9 ?_; refine tkZ 10 ?_
      refine tkL (fun K hK => ?_)
      have f0 := cell_of_row _ r 0 _ _ (0, 0) HQ3.out
      have ff := frozen_of_row _ r 0 _ _ HQ3.out
      go_simp
      refine hK.out _ _ ?_
      clear hK K
      try simp only [Act.put, uA, uZ, uS, vA, vZ, vS]
      refine tkD ?_
      have HI := Lib.hid (HD6f.out _ _ HQ1.out ((Gr.of_below Hbl.out _).after HQ2.out) (Hat.out.imp id (fun e => ⟨_, e, Hbl.out.size⟩)))
      have HB := Lib.hid (hb6.trans ((HI.out.2)))
      repeat go_step
      go_meet
      exact ⟨rfl, _, _, vR, _, Rs, HI.out.1, by rw [List.length_append, List.length_singleton]; omega, HB.out⟩
     ·have e0 : (wrap64 ((IntKind.u64.wrap x.kind).tmod 6) == 0) = false := beq_eq_false_iff_ne.2 (fun e => u0 (HU.out.symm.trans e))
      have HS1 := Lib.hid (show ∀ V : World, V.heap[g5]? = some (.cells #[i64 x.kind, i64 x.n, i64 y.client, i64 y.seq, i64 y.kind, .string y.acct, .string y.peer, i64 y.sum, .slice y.la y.legs.length y.lc, i64 y.period, i64 y.hold, .string y.note, .string x.name, .string x.acct] 55 (0, 0)) → V.cell? ⟨g5, 12, none⟩ = some (.string x.name) ∧ V.cell? ⟨g5, 13, none⟩ = some (.string x.acct) ∧ V.cell? ⟨g5, 1, none⟩ = some (i64 x.n) from fun V h => ⟨cell_of_row _ g5 12 _ _ (0, 0) h, cell_of_row _ g5 13 _ _ (0, 0) h, cell_of_row _ g5 1 _ _ (0, 0) h⟩)
      by_cases u1 : u = 1
      ·have e1 : (wrap64 ((IntKind.u64.wrap x.kind).tmod 6) == 1) = true := beq_iff_eq.2 (HU.out.trans u1)
       have HS15 := Lib.hid (show ∀ V, Gr w5 V (d.all T Rs) → (fun V : World => V.cell? ⟨g5, 12, none⟩ = some (.string x.name) ∧ V.cell? ⟨g5, 13, none⟩ = some (.string x.acct)) V from fun V hV => ⟨(HS1.out V (HgA.out V hV)).1, (HS1.out V (HgA.out V hV)).2.1⟩)
       have HS15b := Lib.hid (show ∀ V V', Gr w5 V (d.all T Rs) → Gr V V' (fun j => j = r ∨ vR.ownBlock = some j) → (fun V : World => V.cell? ⟨g5, 12, none⟩ = some (.string x.name) ∧ V.cell? ⟨g5, 13, none⟩ = some (.string x.acct)) V' from fun V V' h1 h2 => ⟨(HS1.out V' (HgB.out V V' h1 h2)).1, (HS1.out V' (HgB.out V V' h1 h2)).2.1⟩)
       obtain ⟨z, hz⟩ : ∃ z, sreadE Rs x.name x.acct = z := ⟨_, rfl⟩
       clear u0 u1 hu HS1
       go_wp2_with fail
       as_aux_lemma =>
       refine wp_region_noPanic ?_
       refine wp_region_l 13 (fun V : World => V.cell? ⟨g5, 12, none⟩ = some (.string x.name) ∧ V.cell? ⟨g5, 13, none⟩ = some (.string x.acct)) (by kernel_rfl) (HS15.out _ (Gr.of_below (Below.refl _ _).drew _)) (fun hH => ?_)
       refine tkZ 0 ?_; refine tkZ 1 ?_; refine tkZ 2 ?_; refine tkZ 3 ?_; refine tkZ 4 ?_; refine tkZ 6 ?_; refine tkZ 7 ?_; refine tkZ 8 ?_; refine tkZ 9 ?_; refine tkZ 10 ?_
       refine tkO 5 (fun K hK => ?_)
       refine oper_call3 22 73 75 77 _ rfl _ _ _ rfl rfl rfl (enters_of Tryz.func22 (by kernel_rfl) rfl) ?_
       refine (sread_c x.name x.acct _ (h5.dk.later (Below.refl _ _).drew) h5.lo.2).mono ?_
       rintro e W6 ⟨R2, rfl, hD6, hG6, hn1, hn2⟩
       refine ⟨_, rfl, ?_⟩
       have hG6 := (Gr.of_below (Below.refl w5.heap.size w5).drew (d.all T Rs)).after hG6
       have hR6 := h5.rdk hG6
       have hs6 := HS15.out _ hG6
       refine hK.out _ _ (hs6) (fun hH => ?_)
       clear hK K
       try simp only [Act.put, uA, uZ, uS, vA, vZ, vS]
       refine tkO 11 (fun K hK => ?_)
       refine oper_call3 23 79 81 83 _ rfl _ _ _ rfl rfl rfl (enters_of Tryz.func23 (by kernel_rfl) rfl) ?_
       refine (rdread_c w.heap.size r vL vR L Rs x.name x.acct Hxs.out.1 Hxs.out.2 W6 hR6 (Nat.le_trans h5.hb hG6.size) h5.n10).mono ?_
       rintro e W7 ⟨vR2, rfl, hR7, hG7, hv7⟩
       refine ⟨_, rfl, ?_⟩
       have HI := Lib.hid (h5.read hD6 hG6 hn1 (fun e => by obtain ⟨g, e1, e2⟩ := hn2 e; exact ⟨g, e1, e2⟩) hR7 hG7 hv7)
       have HB := Lib.hid ((hb5.trans (h5.below hG6 hb5.size h5.lo.1)).trans (hG7.below (Nat.le_trans hb5.size hG6.size) (fun j hj => (h5.rd.lt j (hj.elim .inl (fun e => .inr (.inr e)))).1)))
       have hs7 := HS15b.out _ _ hG6 hG7
       clear hG7 hv7 hR7 hD6 hG6 hn1 hn2 hR6 hs6
       refine hK.out _ _ (hs7) (fun hH => ?_)
       clear hK K
       try simp only [Act.put, uA, uZ, uS, vA, vZ, vS]
       refine tkZ 12 ?_
       refine tkL (fun K hK => ?_)
       go_simp
       refine hK.out _ _ ?_
       clear hK K
       try simp only [Act.put, uA, uZ, uS, vA, vZ, vS]
       refine tkD ?_
       repeat go_step
       go_meet
       exact ⟨rfl, L, vL, vR2, T, R2, HI.out, hLi, HB.out⟩
      ·have e1 : (wrap64 ((IntKind.u64.wrap x.kind).tmod 6) == 1) = false := beq_eq_false_iff_ne.2 (fun e => u1 (HU.out.symm.trans e))
       have HS15 := Lib.hid (show ∀ V, Gr w5 V (d.all T Rs) → (fun V : World => V.cell? ⟨g5, 1, none⟩ = some (i64 x.n) ∧ V.cell? ⟨g5, 12, none⟩ = some (.string x.name)) V from fun V hV => ⟨(HS1.out V (HgA.out V hV)).2.2, (HS1.out V (HgA.out V hV)).1⟩)
       have HS15b := Lib.hid (show ∀ V V', Gr w5 V (d.all T Rs) → Gr V V' (fun j => j = r ∨ vR.ownBlock = some j) → (fun V : World => V.cell? ⟨g5, 1, none⟩ = some (i64 x.n) ∧ V.cell? ⟨g5, 12, none⟩ = some (.string x.name)) V' from fun V V' h1 h2 => ⟨(HS1.out V' (HgB.out V V' h1 h2)).2.2, (HS1.out V' (HgB.out V V' h1 h2)).1⟩)
       clear HS1
       by_cases u2 : u = 2
       ·have e2 : (wrap64 ((IntKind.u64.wrap x.kind).tmod 6) == 2) = true := beq_iff_eq.2 (HU.out.trans u2)
        have hq := HgA.out w5 (Gr.of_below (Below.refl _ _) _)
        have m1 := cell_of_row _ g5 1 _ _ (0, 0) hq
        have m12 := cell_of_row _ g5 12 _ _ (0, 0) hq
        simp only [List.getElem?_toArray, List.getElem?_cons_zero, List.getElem?_cons_succ] at m1 m12
        clear u0 u1 u2 hu hq
        cases hgr : getRd Rs x.name with
        | none =>
         as_aux_lemma =>
         go_wp2_with fail
         refine (spoll_no x.name x.n w5 h5.dk hgr).mono ?_
         rintro e W6 ⟨v6, rfl, hO6, hF6⟩
         obtain ⟨A6, c6, rfl, s6⟩ := hO6.sl
         have hq := (hF6.block g5 hgl).trans (HgA.out w5 (Gr.of_below (Below.refl _ _) _))
         have m1 := cell_of_row _ g5 1 _ _ (0, 0) hq
         have m12 := cell_of_row _ g5 12 _ _ (0, 0) hq
         simp only [List.getElem?_toArray, List.getElem?_cons_zero, List.getElem?_cons_succ] at m1 m12
         clear hq hO6
         go_wp2_with fail
         refine (rdpoll_no w.heap.size r vL vR L Rs x.name x.n W6 (h5.rd.later h5.hb hF6) (Nat.le_trans h5.hb hF6.size) h5.n10 hgr).mono ?_
         rintro e W7 ⟨rfl, rfl⟩
         go_wp2_with fail
         refine (as12_c A6 c6 [] W6 s6 (by decide)).mono ?_
         rintro e W7 ⟨v7, rfl, hO7, hF7⟩
         obtain ⟨A7, c7, rfl, s7⟩ := hO7.sl
         have hF7 := below_on hF6 (Nat.le_refl _) hF7
         clear hO7 s6 hF6 m1 m12
         go_wp2_with fail
         refine (same12_c _ _ A7 none c7 0 [] [] W7 s7 (SlS.nil_ W7 (fun _ => True))).mono ?_
         rintro e W8 ⟨rfl, hF8⟩
         rw [decide_eq_true rfl]
         have hF8 := below_on hF7 (Nat.le_refl _) hF8
         clear s7 hF7
         go_wp2
         go_meet
         exact ⟨rfl, L, vL, vR, T, Rs, h5.later hF8, hLi, hb5.trans (hF8.mono hb5.size)⟩
        | some q =>
         have hqa := h5.at_ q (getRd_mem hgr).1
         have hT6 : (T.get q.acct).length ≤ 60000 := by rw [h5.ev]; exact Nat.le_trans (evL_le inv_bk0 q.acct L (fun y hy => (h5.od y hy).1)) hL6
         have HP := Lib.hid (spoll_c x.name x.n q w5 h5.dk hgr hqa (by omega))
         rw [h5.ev] at HP hqa hT6
         have HP2 := Lib.hid (fun W (hF : Below w5.heap.size w5 W) => rdpoll_c w.heap.size r vL vR L Rs x.name x.n W (h5.rd.later h5.hb hF) (Nat.le_trans h5.hb hF.size) h5.n10 (fun y hy => (h5.od y hy).1) (fun y hy => Nat.le_trans (h5.od y hy).2 (by decide)) hL6 q hgr hqa)
         have hDl : (((evL bk0 L q.acct).drop q.at_).take (min (max x.n 0) (((evL bk0 L q.acct).drop q.at_).length : Int)).toNat).length ≤ 60000 := by
          rw [List.length_take, List.length_drop]; omega
         generalize ((evL bk0 L q.acct).drop q.at_).take (min (max x.n 0) (((evL bk0 L q.acct).drop q.at_).length : Int)).toNat = D at *
         as_aux_lemma =>
         go_wp2_with fail
         refine HP.out.mono ?_
         rintro e W6 ⟨v6, rfl, hO6, hF6⟩
         obtain ⟨A6, c6, rfl, s6⟩ := hO6.sl
         have hq := (hF6.block g5 hgl).trans (HgA.out w5 (Gr.of_below (Below.refl _ _) _))
         have m1 := cell_of_row _ g5 1 _ _ (0, 0) hq
         have m12 := cell_of_row _ g5 12 _ _ (0, 0) hq
         simp only [List.getElem?_toArray, List.getElem?_cons_zero, List.getElem?_cons_succ] at m1 m12
         clear hq hO6 HP
         go_wp2_with fail
         refine (HP2.out W6 hF6).mono ?_
         rintro e W7 ⟨A7, c7, rfl, s7, hF7⟩
         have s6 := s6.later hF7
         have hF7 := below_on hF6 (Nat.le_refl _) hF7
         clear HP2 hF6 m1 m12
         go_wp2_with fail
         refine (as12_c A6 c6 D W7 s6 (by omega)).mono ?_
         rintro e W8 ⟨v8, rfl, hO8, hF8⟩
         obtain ⟨A8, c8, rfl, s8⟩ := hO8.sl
         have s7 := s7.later hF8
         have hF8 := below_on hF7 (Nat.le_refl _) hF8
         clear hO8 s6 hF7
         go_wp2_with fail
         refine (same12_c _ _ A8 A7 c8 c7 D D W8 s8 s7).mono ?_
         rintro e W9 ⟨rfl, hF9⟩
         rw [decide_eq_true rfl]
         have hF9 := below_on hF8 (Nat.le_refl _) hF9
         clear s7 s8 hF8
         go_wp2
         go_meet
         exact ⟨rfl, L, vL, vR, T, Rs, h5.later hF9, hLi, hb5.trans (hF9.mono hb5.size)⟩
       ·have e2 : (wrap64 ((IntKind.u64.wrap x.kind).tmod 6) == 2) = false := beq_eq_false_iff_ne.2 (fun e => u2 (HU.out.symm.trans e))
        by_cases u3 : u = 3
        ·have e3 : (wrap64 ((IntKind.u64.wrap x.kind).tmod 6) == 3) = true := beq_iff_eq.2 (HU.out.trans u3)
         clear u0 u1 u2 u3 hu
         go_wp2_with fail
         cases hgr : getRd Rs x.name with
         | none =>
          as_aux_lemma =>
          refine wp_region_noPanic ?_
          refine wp_region_l 13 (fun V : World => V.cell? ⟨g5, 1, none⟩ = some (i64 x.n) ∧ V.cell? ⟨g5, 12, none⟩ = some (.string x.name)) (by kernel_rfl) (HS15.out _ (Gr.of_below (Below.refl _ _).drew _)) (fun hH => ?_)
          refine tkZ 0 ?_; refine tkZ 1 ?_; refine tkZ 2 ?_; refine tkZ 3 ?_; refine tkZ 4 ?_; refine tkZ 6 ?_; refine tkZ 7 ?_; refine tkZ 8 ?_; refine tkZ 9 ?_; refine tkZ 10 ?_
          refine tkO 5 (fun K hK => ?_)
          refine oper_call3 28 117 119 121 _ rfl _ _ _ rfl rfl rfl (enters_of Tryz.func28 (by kernel_rfl) rfl) ?_
          refine (stake_no x.name x.n _ (h5.dk.later (Below.refl w5.heap.size w5).drew) hgr).mono ?_
          rintro e W6 ⟨rfl, rfl⟩
          refine ⟨_, rfl, ?_⟩
          have hs6 := HS15.out _ (Gr.of_below (Below.refl w5.heap.size w5).drew _)
          refine hK.out _ _ (hs6) (fun hH => ?_)
          clear hK K
          try simp only [Act.put, uA, uZ, uS, vA, vZ, vS]
          refine tkO 11 (fun K hK => ?_)
          refine oper_call3k 29 123 125 127 (.bool false) _ rfl _ _ _ rfl rfl rfl (enters_of Tryz.func29 (by kernel_rfl) rfl) ?_
          refine (rdmove_no w.heap.size r vL vR L Rs x.name x.n false _ (h5.rd.later h5.hb (Below.refl w5.heap.size w5).drew) h5.hb h5.n10 hgr).mono ?_
          rintro e W7 ⟨rfl, rfl⟩
          refine ⟨_, rfl, ?_⟩
          have HI := Lib.hid (h5.later (Below.refl w5.heap.size w5).drew)
          have HB := Lib.hid hb5.drew
          have hs7 := hs6
          refine hK.out _ _ (hs7) (fun hH => ?_)
          clear hK K
          try simp only [Act.put, uA, uZ, uS, vA, vZ, vS]
          refine tkZ 12 ?_
          refine tkL (fun K hK => ?_)
          go_simp
          refine hK.out _ _ ?_
          clear hK K
          try simp only [Act.put, uA, uZ, uS, vA, vZ, vS]
          refine tkD ?_
          repeat go_step
          go_meet
          exact ⟨rfl, L, vL, vR, T, Rs, HI.out, hLi, HB.out⟩
         | some q =>
          have hqa := h5.at_ q (getRd_mem hgr).1
          have hdr : ((T.get q.acct).drop q.at_).length = (T.get q.acct).length - q.at_ := List.length_drop ..
          by_cases hbad : x.n < 0 ∨ (((T.get q.acct).drop q.at_).length : Int) < x.n
          ·have hbad2 : x.n < 0 ∨ (false = false ∧ (((evL bk0 L q.acct).length : Int) - q.at_ < x.n)) ∨ (false = true ∧ (q.at_ : Int) < x.n) := by
            rw [← h5.ev]
            rcases hbad with h | h
            ·exact .inl h
            ·exact .inr (.inl ⟨rfl, by omega⟩)
           as_aux_lemma =>
           refine wp_region_noPanic ?_
           refine wp_region_l 13 (fun V : World => V.cell? ⟨g5, 1, none⟩ = some (i64 x.n) ∧ V.cell? ⟨g5, 12, none⟩ = some (.string x.name)) (by kernel_rfl) (HS15.out _ (Gr.of_below (Below.refl _ _).drew _)) (fun hH => ?_)
           refine tkZ 0 ?_; refine tkZ 1 ?_; refine tkZ 2 ?_; refine tkZ 3 ?_; refine tkZ 4 ?_; refine tkZ 6 ?_; refine tkZ 7 ?_; refine tkZ 8 ?_; refine tkZ 9 ?_; refine tkZ 10 ?_
           refine tkO 5 (fun K hK => ?_)
           refine oper_call3 28 117 119 121 _ rfl _ _ _ rfl rfl rfl (enters_of Tryz.func28 (by kernel_rfl) rfl) ?_
           refine (stake_bad x.name x.n q _ (h5.dk.later (Below.refl w5.heap.size w5).drew) hgr (h5.at_ q (getRd_mem hgr).1) hbad).mono ?_
           rintro e W6 ⟨rfl, hF6⟩
           refine ⟨_, rfl, ?_⟩
           have hF6 := below_on (Below.refl w5.heap.size w5).drew (Nat.le_refl _) hF6
           have hs6 := HS15.out _ (Gr.of_below hF6 _)
           refine hK.out _ _ (hs6) (fun hH => ?_)
           clear hK K
           try simp only [Act.put, uA, uZ, uS, vA, vZ, vS]
           refine tkO 11 (fun K hK => ?_)
           refine oper_call3k 29 123 125 127 (.bool false) _ rfl _ _ _ rfl rfl rfl (enters_of Tryz.func29 (by kernel_rfl) rfl) ?_
           refine (rdmove_bad w.heap.size r vL vR L Rs x.name x.n false W6 (h5.rd.later h5.hb hF6) (Nat.le_trans h5.hb hF6.size) h5.n10 (fun y hy => (h5.od y hy).1) (fun y hy => Nat.le_trans (h5.od y hy).2 (by decide)) hL6 q hgr (by rw [← h5.ev]; exact h5.at_ q (getRd_mem hgr).1) hbad2).mono ?_
           rintro e W7 ⟨rfl, hF7⟩
           refine ⟨_, rfl, ?_⟩
           have hF7 := below_on hF6 (Nat.le_refl _) hF7
           have HI := Lib.hid (h5.later hF7)
           have HB := Lib.hid (hb5.trans (hF7.mono hb5.size))
           have hs7 := HS15.out _ (Gr.of_below hF7 _)
           clear hF6 hF7
           refine hK.out _ _ (hs7) (fun hH => ?_)
           clear hK K
           try simp only [Act.put, uA, uZ, uS, vA, vZ, vS]
           refine tkZ 12 ?_
           refine tkL (fun K hK => ?_)
           go_simp
           refine hK.out _ _ ?_
           clear hK K
           try simp only [Act.put, uA, uZ, uS, vA, vZ, vS]
           refine tkD ?_
           repeat go_step
           go_meet
           exact ⟨rfl, L, vL, vR, T, Rs, HI.out, hLi, HB.out⟩
          ·obtain ⟨nn, hnn⟩ : ∃ nn : Nat, x.n = nn := ⟨x.n.toNat, by omega⟩
           have hok : nn ≤ ((T.get q.acct).drop q.at_).length := by omega
           have hT6 : (T.get q.acct).length ≤ 65536 := by rw [h5.ev]; exact Nat.le_trans (evL_le inv_bk0 q.acct L (fun y hy => (h5.od y hy).1)) (Nat.le_trans hL6 (by decide))
           have hnr : R64 (nn : Int) := by unfold R64; omega
           simp only [hnn] at HS15 HS15b
           clear hnn hbad
           as_aux_lemma =>
           refine wp_region_noPanic ?_
           refine wp_region_l 13 (fun V : World => V.cell? ⟨g5, 1, none⟩ = some (i64 nn) ∧ V.cell? ⟨g5, 12, none⟩ = some (.string x.name)) (by kernel_rfl) (HS15.out _ (Gr.of_below (Below.refl _ _).drew _)) (fun hH => ?_)
           refine tkZ 0 ?_; refine tkZ 1 ?_; refine tkZ 2 ?_; refine tkZ 3 ?_; refine tkZ 4 ?_; refine tkZ 6 ?_; refine tkZ 7 ?_; refine tkZ 8 ?_; refine tkZ 9 ?_; refine tkZ 10 ?_
           refine tkO 5 (fun K hK => ?_)
           refine oper_call3 28 117 119 121 _ rfl _ _ _ rfl rfl rfl (enters_of Tryz.func28 (by kernel_rfl) rfl) ?_
           refine (stake_c x.name nn q _ (h5.dk.later (Below.refl w5.heap.size w5).drew) hgr (h5.at_ q (getRd_mem hgr).1) hT6 hok).mono ?_
           rintro e W6 ⟨rfl, hD6, hG6⟩
           refine ⟨_, rfl, ?_⟩
           have hG6 := (Gr.of_below (Below.refl w5.heap.size w5).drew (d.all T Rs)).after hG6
           have hR6 := h5.rdk hG6
           have hs6 := HS15.out _ hG6
           refine hK.out _ _ (hs6) (fun hH => ?_)
           clear hK K
           try simp only [Act.put, uA, uZ, uS, vA, vZ, vS]
           refine tkO 11 (fun K hK => ?_)
           refine oper_call3k 29 123 125 127 (.bool false) _ rfl _ _ _ rfl rfl rfl (enters_of Tryz.func29 (by kernel_rfl) rfl) ?_
           refine (rdmove_c w.heap.size r vL vR L Rs x.name nn (q.at_ + nn) false W6 hR6 (Nat.le_trans h5.hb hG6.size) h5.n10 (fun y hy => (h5.od y hy).1) (fun y hy => Nat.le_trans (h5.od y hy).2 (by decide)) hL6 q hgr (by rw [← h5.ev]; exact h5.at_ q (getRd_mem hgr).1) hnr (by omega) (by first | (rw [if_pos rfl]; omega) | (rw [if_neg (by decide)]; exact ⟨by omega, by rw [← h5.ev]; omega⟩))).mono ?_
           rintro e W7 ⟨rfl, hR7, hG7⟩
           refine ⟨_, rfl, ?_⟩
           have HI := Lib.hid (h5.move hgr (by omega) hD6 hG6 hR7 hG7)
           have HB := Lib.hid ((hb5.trans (h5.below hG6 hb5.size h5.lo.1)).trans (hG7.below (Nat.le_trans hb5.size hG6.size) (fun j hj => (h5.rd.lt j (.inr (.inr hj))).1)))
           have hs7 := HS15b.out _ _ hG6 (hG7.mono fun j _ e => Or.inr e)
           clear hG7 hR7 hD6 hG6 hR6 hs6
           refine hK.out _ _ (hs7) (fun hH => ?_)
           clear hK K
           try simp only [Act.put, uA, uZ, uS, vA, vZ, vS]
           refine tkZ 12 ?_
           refine tkL (fun K hK => ?_)
           go_simp
           refine hK.out _ _ ?_
           clear hK K
           try simp only [Act.put, uA, uZ, uS, vA, vZ, vS]
           refine tkD ?_
           repeat go_step
           go_meet
           exact ⟨rfl, L, vL, vR, T, _, HI.out, hLi, HB.out⟩
        ·have e3 : (wrap64 ((IntKind.u64.wrap x.kind).tmod 6) == 3) = false := beq_eq_false_iff_ne.2 (fun e => u3 (HU.out.symm.trans e))
         by_cases u4 : u = 4
         ·have e4 : (wrap64 ((IntKind.u64.wrap x.kind).tmod 6) == 4) = true := beq_iff_eq.2 (HU.out.trans u4)
          clear u0 u1 u2 u3 u4 hu
          go_wp2_with fail
          cases hgr : getRd Rs x.name with
          | none =>
           as_aux_lemma =>
           refine wp_region_noPanic ?_
           refine wp_region_l 13 (fun V : World => V.cell? ⟨g5, 1, none⟩ = some (i64 x.n) ∧ V.cell? ⟨g5, 12, none⟩ = some (.string x.name)) (by kernel_rfl) (HS15.out _ (Gr.of_below (Below.refl _ _).drew _)) (fun hH => ?_)
           refine tkZ 0 ?_; refine tkZ 1 ?_; refine tkZ 2 ?_; refine tkZ 3 ?_; refine tkZ 4 ?_; refine tkZ 6 ?_; refine tkZ 7 ?_; refine tkZ 8 ?_; refine tkZ 9 ?_; refine tkZ 10 ?_
           refine tkO 5 (fun K hK => ?_)
           refine oper_call3 30 132 134 136 _ rfl _ _ _ rfl rfl rfl (enters_of Tryz.func30 (by kernel_rfl) rfl) ?_
           refine (sback_no x.name x.n _ (h5.dk.later (Below.refl w5.heap.size w5).drew) hgr).mono ?_
           rintro e W6 ⟨rfl, rfl⟩
           refine ⟨_, rfl, ?_⟩
           have hs6 := HS15.out _ (Gr.of_below (Below.refl w5.heap.size w5).drew _)
           refine hK.out _ _ (hs6) (fun hH => ?_)
           clear hK K
           try simp only [Act.put, uA, uZ, uS, vA, vZ, vS]
           refine tkO 11 (fun K hK => ?_)
           refine oper_call3k 29 138 140 142 (.bool true) _ rfl _ _ _ rfl rfl rfl (enters_of Tryz.func29 (by kernel_rfl) rfl) ?_
           refine (rdmove_no w.heap.size r vL vR L Rs x.name x.n true _ (h5.rd.later h5.hb (Below.refl w5.heap.size w5).drew) h5.hb h5.n10 hgr).mono ?_
           rintro e W7 ⟨rfl, rfl⟩
           refine ⟨_, rfl, ?_⟩
           have HI := Lib.hid (h5.later (Below.refl w5.heap.size w5).drew)
           have HB := Lib.hid hb5.drew
           have hs7 := hs6
           refine hK.out _ _ (hs7) (fun hH => ?_)
           clear hK K
           try simp only [Act.put, uA, uZ, uS, vA, vZ, vS]
           refine tkZ 12 ?_
           refine tkL (fun K hK => ?_)
           go_simp
           refine hK.out _ _ ?_
           clear hK K
           try simp only [Act.put, uA, uZ, uS, vA, vZ, vS]
           refine tkD ?_
           repeat go_step
           go_meet
           exact ⟨rfl, L, vL, vR, T, Rs, HI.out, hLi, HB.out⟩
          | some q =>
           have hqa := h5.at_ q (getRd_mem hgr).1
           have hdr : ((T.get q.acct).drop q.at_).length = (T.get q.acct).length - q.at_ := List.length_drop ..
           by_cases hbad : x.n < 0 ∨ (q.at_ : Int) < x.n
           ·have hbad2 : x.n < 0 ∨ (true = false ∧ (((evL bk0 L q.acct).length : Int) - q.at_ < x.n)) ∨ (true = true ∧ (q.at_ : Int) < x.n) := by
             rw [← h5.ev]
             rcases hbad with h | h
             ·exact .inl h
             ·exact .inr (.inr ⟨rfl, h⟩)
            as_aux_lemma =>
            refine wp_region_noPanic ?_
            refine wp_region_l 13 (fun V : World => V.cell? ⟨g5, 1, none⟩ = some (i64 x.n) ∧ V.cell? ⟨g5, 12, none⟩ = some (.string x.name)) (by kernel_rfl) (HS15.out _ (Gr.of_below (Below.refl _ _).drew _)) (fun hH => ?_)
            refine tkZ 0 ?_; refine tkZ 1 ?_; refine tkZ 2 ?_; refine tkZ 3 ?_; refine tkZ 4 ?_; refine tkZ 6 ?_; refine tkZ 7 ?_; refine tkZ 8 ?_; refine tkZ 9 ?_; refine tkZ 10 ?_
            refine tkO 5 (fun K hK => ?_)
            refine oper_call3 30 132 134 136 _ rfl _ _ _ rfl rfl rfl (enters_of Tryz.func30 (by kernel_rfl) rfl) ?_
            refine (sback_bad x.name x.n q _ (h5.dk.later (Below.refl w5.heap.size w5).drew) hgr (h5.at_ q (getRd_mem hgr).1) hbad).mono ?_
            rintro e W6 ⟨rfl, hF6⟩
            refine ⟨_, rfl, ?_⟩
            have hF6 := below_on (Below.refl w5.heap.size w5).drew (Nat.le_refl _) hF6
            have hs6 := HS15.out _ (Gr.of_below hF6 _)
            refine hK.out _ _ (hs6) (fun hH => ?_)
            clear hK K
            try simp only [Act.put, uA, uZ, uS, vA, vZ, vS]
            refine tkO 11 (fun K hK => ?_)
            refine oper_call3k 29 138 140 142 (.bool true) _ rfl _ _ _ rfl rfl rfl (enters_of Tryz.func29 (by kernel_rfl) rfl) ?_
            refine (rdmove_bad w.heap.size r vL vR L Rs x.name x.n true W6 (h5.rd.later h5.hb hF6) (Nat.le_trans h5.hb hF6.size) h5.n10 (fun y hy => (h5.od y hy).1) (fun y hy => Nat.le_trans (h5.od y hy).2 (by decide)) hL6 q hgr (by rw [← h5.ev]; exact h5.at_ q (getRd_mem hgr).1) hbad2).mono ?_
            rintro e W7 ⟨rfl, hF7⟩
            refine ⟨_, rfl, ?_⟩
            have hF7 := below_on hF6 (Nat.le_refl _) hF7
            have HI := Lib.hid (h5.later hF7)
            have HB := Lib.hid (hb5.trans (hF7.mono hb5.size))
            have hs7 := HS15.out _ (Gr.of_below hF7 _)
            clear hF6 hF7
            refine hK.out _ _ (hs7) (fun hH => ?_)
            clear hK K
            try simp only [Act.put, uA, uZ, uS, vA, vZ, vS]
            refine tkZ 12 ?_
            refine tkL (fun K hK => ?_)
            go_simp
            refine hK.out _ _ ?_
            clear hK K
            try simp only [Act.put, uA, uZ, uS, vA, vZ, vS]
            refine tkD ?_
            repeat go_step
            go_meet
            exact ⟨rfl, L, vL, vR, T, Rs, HI.out, hLi, HB.out⟩
           ·obtain ⟨nn, hnn⟩ : ∃ nn : Nat, x.n = nn := ⟨x.n.toNat, by omega⟩
            have hok : nn ≤ q.at_ := by omega
            have hT6 : (T.get q.acct).length ≤ 65536 := by rw [h5.ev]; exact Nat.le_trans (evL_le inv_bk0 q.acct L (fun y hy => (h5.od y hy).1)) (Nat.le_trans hL6 (by decide))
            have hnr : R64 (nn : Int) := by unfold R64; omega
            simp only [hnn] at HS15 HS15b
            clear hnn hbad
            as_aux_lemma =>
            refine wp_region_noPanic ?_
            refine wp_region_l 13 (fun V : World => V.cell? ⟨g5, 1, none⟩ = some (i64 nn) ∧ V.cell? ⟨g5, 12, none⟩ = some (.string x.name)) (by kernel_rfl) (HS15.out _ (Gr.of_below (Below.refl _ _).drew _)) (fun hH => ?_)
            refine tkZ 0 ?_; refine tkZ 1 ?_; refine tkZ 2 ?_; refine tkZ 3 ?_; refine tkZ 4 ?_; refine tkZ 6 ?_; refine tkZ 7 ?_; refine tkZ 8 ?_; refine tkZ 9 ?_; refine tkZ 10 ?_
            refine tkO 5 (fun K hK => ?_)
            refine oper_call3 30 132 134 136 _ rfl _ _ _ rfl rfl rfl (enters_of Tryz.func30 (by kernel_rfl) rfl) ?_
            refine (sback_c x.name nn q _ (h5.dk.later (Below.refl w5.heap.size w5).drew) hgr (h5.at_ q (getRd_mem hgr).1) hT6 hok).mono ?_
            rintro e W6 ⟨rfl, hD6, hG6⟩
            refine ⟨_, rfl, ?_⟩
            have hG6 := (Gr.of_below (Below.refl w5.heap.size w5).drew (d.all T Rs)).after hG6
            have hR6 := h5.rdk hG6
            have hs6 := HS15.out _ hG6
            refine hK.out _ _ (hs6) (fun hH => ?_)
            clear hK K
            try simp only [Act.put, uA, uZ, uS, vA, vZ, vS]
            refine tkO 11 (fun K hK => ?_)
            refine oper_call3k 29 138 140 142 (.bool true) _ rfl _ _ _ rfl rfl rfl (enters_of Tryz.func29 (by kernel_rfl) rfl) ?_
            refine (rdmove_c w.heap.size r vL vR L Rs x.name nn (q.at_ - nn) true W6 hR6 (Nat.le_trans h5.hb hG6.size) h5.n10 (fun y hy => (h5.od y hy).1) (fun y hy => Nat.le_trans (h5.od y hy).2 (by decide)) hL6 q hgr (by rw [← h5.ev]; exact h5.at_ q (getRd_mem hgr).1) hnr (by omega) (by first | (rw [if_pos rfl]; omega) | (rw [if_neg (by decide)]; exact ⟨by omega, by rw [← h5.ev]; omega⟩))).mono ?_
            rintro e W7 ⟨rfl, hR7, hG7⟩
            refine ⟨_, rfl, ?_⟩
            have HI := Lib.hid (h5.move hgr (by omega) hD6 hG6 hR7 hG7)
            have HB := Lib.hid ((hb5.trans (h5.below hG6 hb5.size h5.lo.1)).trans (hG7.below (Nat.le_trans hb5.size hG6.size) (fun j hj => (h5.rd.lt j (.inr (.inr hj))).1)))
            have hs7 := HS15b.out _ _ hG6 (hG7.mono fun j _ e => Or.inr e)
            clear hG7 hR7 hD6 hG6 hR6 hs6
            refine hK.out _ _ (hs7) (fun hH => ?_)
            clear hK K
            try simp only [Act.put, uA, uZ, uS, vA, vZ, vS]
            refine tkZ 12 ?_
            refine tkL (fun K hK => ?_)
            go_simp
            refine hK.out _ _ ?_
            clear hK K
            try simp only [Act.put, uA, uZ, uS, vA, vZ, vS]
            refine tkD ?_
            repeat go_step
            go_meet
            exact ⟨rfl, L, vL, vR, T, _, HI.out, hLi, HB.out⟩
         ·have e4 : (wrap64 ((IntKind.u64.wrap x.kind).tmod 6) == 4) = false := beq_eq_false_iff_ne.2 (fun e => u4 (HU.out.symm.trans e))
          have e5 : (wrap64 ((IntKind.u64.wrap x.kind).tmod 6) == 5) = true := beq_iff_eq.2 (HU.out.trans (by omega))
          have hq := HgA.out w5 (Gr.of_below (Below.refl _ _) _)
          have m12 := cell_of_row _ g5 12 _ _ (0, 0) hq
          simp only [List.getElem?_toArray, List.getElem?_cons_zero, List.getElem?_cons_succ] at m12
          obtain ⟨AR, cR, hvR, sR⟩ := h5.rd.hR.sl
          rw [List.length_map] at hvR
          subst hvR
          have HC1 := Lib.hid (show ∀ W, Below w5.heap.size w5 W → W.cell? ⟨r, 1, none⟩ = some (.slice AR Rs.length cR) from fun W hF => cell_of_row _ r 1 _ _ (0, 0) (h5.rd.later h5.hb hF).cell)
          have HAt := Lib.hid (fun W (hF : Below w5.heap.size w5 W) => rdat_c _ r AR cR (Rs.map Rx.rr) x.name W (by rw [List.length_map]; exact HC1.out W hF) (sR.later hF) (by rw [List.length_map]; have := h5.n10; omega))
          have hRc : Rs.length ≤ cR := by
           have := sR.1
           rwa [List.length_map] at this
          rcases idxR_get (R := Rs) (k := x.name) with ⟨i1', i2⟩ | ⟨n, hn, i1', i2, i3⟩
          ·generalize idxR (Rs.map Rx.rr) x.name = ix at *
           have b1 : decide ((0 : Int) ≤ ix) = false := decide_eq_false (by omega)
           have b2 : decide (ix < 0) = true := decide_eq_true i1'
           clear u0 u1 u2 u3 u4 hu hq i1' sR
           as_aux_lemma =>
           go_wp2_with fail
           refine (sat_no x.name w5 h5.dk i2).mono ?_
           rintro e W6 ⟨rfl, rfl⟩
           go_wp2_with fail
           refine (HAt.out w5 (Below.refl _ _)).mono ?_
           rintro e W7 ⟨rfl, rfl⟩
           clear HAt
           go_wp2
           go_meet
           exact ⟨rfl, L, vL, _, T, Rs, h5, hLi, hb5⟩
          ·have hat := h5.at_ Rs[n] (List.getElem_mem hn)
           have hlm : n < (Rs.map Rx.rr).length := by rw [List.length_map]; exact hn
           obtain ⟨b9, o9, hA9, hbb9, -, -, -, d2⟩ := sR.rr hlm
           rw [show (Rs.map Rx.rr)[n] = (Rs[n]).rr by rw [List.getElem_map]] at d2
           change w5.cell? ⟨b9, o9 + n * 3 + 2, none⟩ = some (i64 (Rs[n]).at_) at d2
           subst hA9
           have HSt := Lib.hid (sat_c x.name Rs[n] w5 h5.dk i2 hat)
           have Hd2 := Lib.hid (fun W (hF : Below w5.heap.size w5 W) => (hF.cell (p := ⟨b9, o9 + n * 3 + 2, none⟩) hbb9).trans d2)
           rw [i1'] at HAt
           generalize Rs[n] = rn at *
           have b1 : decide ((0 : Int) ≤ (n : Int)) = true := decide_eq_true (by omega)
           have b2 : decide ((n : Int) < 0) = false := decide_eq_false (by omega)
           have j0 : (0 : Int) ≤ (n : Int) := by omega
           have j1 : (n : Int) < (Rs.length : Int) := by omega
           have q9 : ((rn.at_ : Int) == (rn.at_ : Int)) = true := by simp
           clear u0 u1 u2 u3 u4 hu hq sR d2 i1' i2 i3 hat
           as_aux_lemma =>
           go_wp2_with fail
           refine HSt.out.mono ?_
           rintro e W6 ⟨rfl, hF6⟩
           have hq := (hF6.block g5 hgl).trans (HgA.out w5 (Gr.of_below (Below.refl _ _) _))
           have m12 := cell_of_row _ g5 12 _ _ (0, 0) hq
           simp only [List.getElem?_toArray, List.getElem?_cons_zero, List.getElem?_cons_succ] at m12
           have c1' := HC1.out W6 hF6
           have d2 := Hd2.out W6 hF6
           clear hq HSt
           go_wp2_with fail
           refine (HAt.out W6 hF6).mono ?_
           rintro e W7 ⟨rfl, rfl⟩
           clear HAt
           go_wp2
           go_meet
           exact ⟨rfl, L, vL, _, T, Rs, h5.later hF6, hLi, hb5.trans (hF6.mono hb5.size)⟩
    case rest =>
     obtain ⟨h7, L2, vL2, vR2, T2, R2, h8, hLn, hb8⟩ := hcut
     obtain ⟨W8, hW8⟩ : ∃ W8, W8 = wc := ⟨wc, rfl⟩
     rw [← hW8] at h8 hb8 ⊢
     subst h7
     clear hW8 h5 hb5
     go_wp2
     go_roundw
     case rel => exact ⟨i + 1, L2, vL2, vR2, T2, R2, by go_num, by omega, h8, hLn, by omega, hb8⟩
     case measure => simp [intOf]; omega
   ·by_cases h1 : i < l.length
    ·have h2 : ¬ i < 50 := fun h2 => hlt ⟨h1, h2⟩
     have g1 : decide ((i : Int) < (l.length : Int)) = true := decide_eq_true (by omega)
     have g2 : decide (i < l.length) = true := decide_eq_true h1
     have g3 : decide ((i : Int) < 50) = false := decide_eq_false (by omega)
     have g4 : decide (i < 50) = false := decide_eq_false h2
     clear hlt h1 h2
     go_wp2
     go_meet
     exact ⟨L, vL, vR, T, Rs, h0, by omega, hb⟩
    ·have g1 : decide ((i : Int) < (l.length : Int)) = false := decide_eq_false (by omega)
     have g2 : decide (i < l.length) = false := decide_eq_false h1
     clear hlt h1
     go_wp2
     go_meet
     exact ⟨L, vL, vR, T, Rs, h0, by omega, hb⟩
 case rest =>
  obtain ⟨L, vL, vR, T, Rs, hI, hL50, hb⟩ := hcut
  obtain ⟨w4, hw4⟩ : ∃ w4, w4 = wc := ⟨wc, rfl⟩
  rw [← hw4] at hI hb ⊢
  obtain ⟨AL, cL, rfl, sL⟩ := hI.rd.hL.sl
  have hL6 : L.length ≤ 60000 := by omega
  have hod : (∀ y ∈ L, OdB y) ∧ (∀ y ∈ L, y.legs.length ≤ 10) := ⟨fun y hy => (hI.od y hy).1, fun y hy => Nat.le_trans (hI.od y hy).2 (by decide)⟩
  have hnm := names6_own w4
  have hba := (Below.refl w4.heap.size w4).alloc (Nat.le_refl _) (.cells #[.string tA, .string tB, .string tC, .string tBank, .string tTill, .string tZz] 9)
  have hbn := hb.alloc hb.size (.cells #[.string tA, .string tB, .string tC, .string tBank, .string tTill, .string tZz] 9)
  replace hI := hI.later hba
  replace sL := sL.later hba
  have hsn := hnm.sl_of
  clear hb hba hw4 hnm HI0 Hb3 H Hr hlc
  go_wp2_with fail
  generalize w4.alloc (.cells #[.string tA, .string tB, .string tC, .string tBank, .string tTill, .string tZz] 9) = w5 at *
  generalize w4.heap.size = gn at *
  clear w4
  go_loopw [16] (fun iv wr => ∃ k : Nat, iv = i64 k ∧ k ≤ 6 ∧ Below w5.heap.size w5 wr) (fun iv _ => 6 - (intOf iv).toNat)
  case atStart => exact ⟨0, rfl, by decide, Below.refl _ _⟩
  case round =>
   obtain ⟨k, rfl, hk, hb6⟩ := hrel
   by_cases hlt : k < 6
   ·have g1 : decide ((k : Int) < 6) = true := decide_eq_true (by omega)
    have i0 : (0 : Int) ≤ (k : Int) := by omega
    have i1 : (k : Int) < 6 := by omega
    have hn6 : k < names6.length := hlt
    obtain ⟨b, o, hA, hbb, hsz, d0⟩ := str_at hsn hn6
    injection hA with hA
    injection hA with hA1 hA2
    subst hA1 hA2
    generalize names6[k] = nm at *
    rw [Nat.zero_add] at d0
    have hlr := (hI.rd.lt r (.inl rfl)).2
    have c0 := cell_of_row _ r 0 _ _ (0, 0) hI.rd.cell
    simp only [List.getElem?_toArray, List.getElem?_cons_zero, List.getElem?_cons_succ] at c0
    have HS34 := Lib.hid (show ∀ V, Below w5.heap.size w5 V → (fun V : World => V.cell? ⟨r, 0, none⟩ = some (.slice AL L.length cL) ∧ V.cell? ⟨gn, k, none⟩ = some (.string nm)) V from fun V hV => ⟨(hV.cell (p := ⟨r, 0, none⟩) hlr).trans c0, (hV.cell (p := ⟨gn, k, none⟩) hbb).trans d0⟩)
    have hE6 : (evL bk0 L nm).length ≤ 65536 := Nat.le_trans (evL_le inv_bk0 nm L hod.1) (by omega)
    clear hsz hlr c0 d0 hbb
    go_wp2_with fail
    as_aux_lemma =>
    refine wp_region_noPanic ?_
    refine wp_region_l 40 (fun V : World => V.cell? ⟨r, 0, none⟩ = some (.slice AL L.length cL) ∧ V.cell? ⟨gn, k, none⟩ = some (.string nm)) (by kernel_rfl) (HS34.out _ hb6.drew) (fun hH => ?_)
    have hv := hb6.drew
    refine tkZ 0 ?_; refine tkZ 1 ?_; refine tkZ 2 ?_; refine tkZ 3 ?_; refine tkZ 4 ?_; refine tkZ 7 ?_; refine tkZ 8 ?_; refine tkZ 9 ?_; refine tkZ 10 ?_; refine tkZ 11 ?_; refine tkZ 12 ?_; refine tkZ 13 ?_; refine tkZ 14 ?_
    refine tkO 5 (fun K hK => ?_)
    refine oper_call2 33 196 200 _ rfl _ _ rfl rfl (enters_of Tryz.func33 (by kernel_rfl) rfl) ?_
    refine (sof_c nm _ (hI.later hv).dk (by rw [hI.ev]; exact hE6)).mono ?_
    rintro e V0 ⟨v0, rfl, hO, hF⟩
    rw [hI.ev] at hO
    obtain ⟨A0, c0, rfl, s0⟩ := hO.sl
    clear hO
    have hv0 := below_on hv (Nat.le_refl _) hF
    refine ⟨_, rfl, ?_⟩
    clear hF
    refine hK.out _ _ (HS34.out _ hv0) (fun hH => ?_)
    clear hK K
    try simp only [Act.put, uA, uZ, uS, vA, vZ, vS]
    refine tkO 6 (fun K hK => ?_)
    refine oper_call1 27 201 _ rfl _ rfl (enters_of Tryz.func27 (by kernel_rfl) rfl) ?_
    refine (as12_c A0 c0 (evL bk0 L nm) _ s0 hE6).mono ?_
    rintro e V1 ⟨v1, rfl, hO, hF⟩
    obtain ⟨A1, c1, rfl, s1⟩ := hO.sl
    clear hO
    have hv1 := below_on hv0 (Nat.le_refl _) hF
    refine ⟨_, rfl, ?_⟩
    clear hF
    refine hK.out _ _ (HS34.out _ hv1) (fun hH => ?_)
    clear hK K
    try simp only [Act.put, uA, uZ, uS, vA, vZ, vS]
    refine tkO 15 (fun K hK => ?_)
    refine oper_call2 34 206 210 _ rfl _ _ rfl rfl (enters_of Tryz.func34 (by kernel_rfl) rfl) ?_
    refine (rev_c AL cL L nm _ (sL.later hv1) hod.1 hod.2 hL6).mono ?_
    rintro e V2 ⟨v2, rfl, hO, hF⟩
    obtain ⟨A2, c2, rfl, s2⟩ := hO.sl
    clear hO
    have s1 := s1.later hF
    have hv2 := below_on hv1 (Nat.le_refl _) hF
    refine ⟨_, rfl, ?_⟩
    clear hF
    refine hK.out _ _ (HS34.out _ hv2) (fun hH => ?_)
    clear hK K
    try simp only [Act.put, uA, uZ, uS, vA, vZ, vS]
    refine tkO 16 (fun K hK => ?_)
    refine oper_call2 26 202 211 _ rfl _ _ rfl rfl (enters_of Tryz.func26 (by kernel_rfl) rfl) ?_
    refine (same12_c _ _ A1 A2 c1 c2 (evL bk0 L nm) (evL bk0 L nm) _ s1 s2).mono ?_
    rintro e V3 ⟨rfl, hF⟩
    rw [decide_eq_true rfl]
    have hv3 := below_on hv2 (Nat.le_refl _) hF
    refine ⟨_, rfl, ?_⟩
    clear hF
    refine hK.out _ _ (HS34.out _ hv3) (fun hH => ?_)
    clear hK K
    try simp only [Act.put, uA, uZ, uS, vA, vZ, vS]
    refine tkZ 17 ?_; refine tkZ 18 ?_; refine tkZ 19 ?_; refine tkZ 20 ?_; refine tkZ 21 ?_; refine tkZ 22 ?_; refine tkZ 23 ?_; refine tkZ 24 ?_; refine tkZ 25 ?_; refine tkZ 26 ?_; refine tkZ 29 ?_; refine tkZ 30 ?_; refine tkZ 31 ?_; refine tkZ 32 ?_; refine tkZ 33 ?_; refine tkZ 34 ?_; refine tkZ 35 ?_; refine tkZ 36 ?_
    refine tkO 27 (fun K hK => ?_)
    refine oper_call2 35 218 222 _ rfl _ _ rfl rfl (enters_of Tryz.func35 (by kernel_rfl) rfl) ?_
    refine (sevents_c AL cL L nm _ (sL.later hv3) hod.1 hod.2 hL6).mono ?_
    rintro e V4 ⟨v4, rfl, hO, hF⟩
    obtain ⟨A4, c4, rfl, s4⟩ := hO.sl
    clear hO
    have hv4 := below_on hv3 (Nat.le_refl _) hF
    refine ⟨_, rfl, ?_⟩
    clear hF
    refine hK.out _ _ (HS34.out _ hv4) (fun hH => ?_)
    clear hK K
    try simp only [Act.put, uA, uZ, uS, vA, vZ, vS]
    refine tkO 28 (fun K hK => ?_)
    refine oper_call1 27 223 _ rfl _ rfl (enters_of Tryz.func27 (by kernel_rfl) rfl) ?_
    refine (as12_c A4 c4 (evL bk0 L nm) _ s4 hE6).mono ?_
    rintro e V5 ⟨v5, rfl, hO, hF⟩
    obtain ⟨A5, c5, rfl, s5⟩ := hO.sl
    clear hO
    have hv5 := below_on hv4 (Nat.le_refl _) hF
    refine ⟨_, rfl, ?_⟩
    clear hF
    refine hK.out _ _ (HS34.out _ hv5) (fun hH => ?_)
    clear hK K
    try simp only [Act.put, uA, uZ, uS, vA, vZ, vS]
    refine tkO 37 (fun K hK => ?_)
    refine oper_call2 34 228 232 _ rfl _ _ rfl rfl (enters_of Tryz.func34 (by kernel_rfl) rfl) ?_
    refine (rev_c AL cL L nm _ (sL.later hv5) hod.1 hod.2 hL6).mono ?_
    rintro e V6 ⟨v6, rfl, hO, hF⟩
    obtain ⟨A6, c6, rfl, s6⟩ := hO.sl
    clear hO
    have s5 := s5.later hF
    have hv6 := below_on hv5 (Nat.le_refl _) hF
    refine ⟨_, rfl, ?_⟩
    clear hF
    refine hK.out _ _ (HS34.out _ hv6) (fun hH => ?_)
    clear hK K
    try simp only [Act.put, uA, uZ, uS, vA, vZ, vS]
    refine tkO 38 (fun K hK => ?_)
    refine oper_call2 26 224 233 _ rfl _ _ rfl rfl (enters_of Tryz.func26 (by kernel_rfl) rfl) ?_
    refine (same12_c _ _ A5 A6 c5 c6 (evL bk0 L nm) (evL bk0 L nm) _ s5 s6).mono ?_
    rintro e V7 ⟨rfl, hF⟩
    rw [decide_eq_true rfl]
    have hv7 := below_on hv6 (Nat.le_refl _) hF
    refine ⟨_, rfl, ?_⟩
    clear hF
    refine hK.out _ _ (HS34.out _ hv7) (fun hH => ?_)
    clear hK K
    try simp only [Act.put, uA, uZ, uS, vA, vZ, vS]
    refine tkZ 39 ?_
    refine tkL (fun K hK => ?_)
    go_simp
    refine hK.out _ _ ?_
    clear hK K
    try simp only [Act.put, uA, uZ, uS, vA, vZ, vS]
    refine tkD ?_
    have HV := Lib.hid hv7
    clear hv hv0 hv1 hv2 hv3 hv4 hv5 hv6 hv7 s5 s4 s2 s1 s0
    go_wp2
    go_roundw
    case rel => exact ⟨k + 1, by go_num, by omega, HV.out⟩
    case measure => simp [intOf]; omega
   ·obtain rfl : k = 6 := by omega
    have g1 : decide (((6 : Nat) : Int) < 6) = false := by decide
    have g2 : decide ((6 : Int) < 6) = false := by decide
    have c0 := cell_of_row _ r 0 _ _ (0, 0) (hI.later hb6).rd.cell
    simp only [List.getElem?_toArray, List.getElem?_cons_zero, List.getElem?_cons_succ] at c0
    as_aux_lemma =>
    go_wp2_with fail
    refine (bfold_c AL cL L _ (sL.later hb6) hod.1 (fun y hy => Nat.le_trans (hod.2 y hy) (by decide)) hL6).mono ?_
    rintro e V0 ⟨a, v0, n0, rfl, hA, hIv, -, -, -, hF⟩
    have hb7 := below_on hb6 (Nat.le_refl _) hF
    clear hF
    go_wp2_with fail
    refine (sbook_c _ (hI.later hb7).dk).mono ?_
    rintro e V1 ⟨q, rfl, hQ, -, hF⟩
    have hb8 := below_on hb7 (Nat.le_refl _) hF
    have HSm := Lib.hid (bsame_c q a _ _ _ hQ (hA.later hF) hIv hIv)
    rw [sameBk_refl] at HSm
    clear hF hQ hA
    go_wp2_with fail
    refine HSm.out.mono ?_
    rintro e V2 ⟨rfl, hF⟩
    have hb9 := hbn.trans ((below_on hb8 (Nat.le_refl _) hF).mono hbn.size)
    clear HSm hF
    go_wp2
    go_ret
    exact ⟨rfl, hb9⟩
end Go.Proofs.YtampniiehgimhaaGreat
