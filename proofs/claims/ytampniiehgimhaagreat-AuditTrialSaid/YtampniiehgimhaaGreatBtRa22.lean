/- ref22.Moves -/
import Derived.Test.YtampniiehgimhaaGreatRows
import Derived.Test.YtampniiehgimhaaGreatBs29
import Derived.Test.YtampniiehgimhaaGreatBs4
import Derived.Test.YtampniiehgimhaaGreatBs5
import Derived.Test.YtampniiehgimhaaGreatBs13
import Derived.Deep.Cut
import Derived.WalkKit
import Derived.WalkSpells
import Derived.WalkLawsBesides
import Derived.Deep.QuietTactic
import Derived.BigQuiet
import Derived.Laws.StructEq
import Derived.Deep.DeepFit
import Derived.StillTailTactics
import Derived.Test.YtampniiehgimhaaGreatBtX

namespace Go.Proofs.YtampniiehgimhaaGreat
open Go.RowKit
/-- ref22.Move: as audit.Move, and its note -/
structure Rv where
 client : Int
 seq : Int
 period : Int
 la : Option Addr
 lc : Nat
 legs : List Leg
 note : ByteArray
structure Rv.Ok (w : World) (S : Nat → Prop) (x : Rv) : Prop where
 legs : SlS w S x.la x.lc x.legs
instance encRv : Enc Rv where
 size := 5
 cells x := [i64 x.client, i64 x.seq, i64 x.period, .slice x.la x.legs.length x.lc, .string x.note]
 val x := .agg #[i64 x.client, i64 x.seq, i64 x.period, .slice x.la x.legs.length x.lc, .string x.note]
 ok := Rv.Ok
 len _ := rfl
 one _ v hv := by
  simp only [List.mem_cons, List.not_mem_nil, or_false] at hv
  rcases hv with rfl | rfl | rfl | rfl | rfl <;> rfl
 keep h hk hB := ⟨h.legs.keep hk hB⟩
def Rv.core (x : Rv) : Id × Int × List Leg × ByteArray := (⟨x.client, x.seq⟩, x.period, x.legs, x.note)
def coreN (x : Od) : Id × Int × List Leg × ByteArray := (x.id, x.period, mvL x, x.note)
theorem SlS.rv {w : World} {S : Nat → Prop} {c : Nat} {A : Option Addr} {l : List Rv} (h : SlS w S A c l) {k : Nat} (hk : k < l.length) : ∃ b o, A = some ⟨b, o, none⟩ ∧ S b ∧ Rv.Ok w S l[k] ∧
  w.cell? ⟨b, o + k * 5, none⟩ = some (i64 l[k].client) ∧ w.cell? ⟨b, o + k * 5 + 1, none⟩ = some (i64 l[k].seq) ∧ w.cell? ⟨b, o + k * 5 + 2, none⟩ = some (i64 l[k].period) ∧ w.cell? ⟨b, o + k * 5 + 3, none⟩ = some (.slice l[k].la l[k].legs.length l[k].lc) ∧ w.cell? ⟨b, o + k * 5 + 4, none⟩ = some (.string l[k].note) := by
 obtain ⟨b, o, hA, hb, hok, hc⟩ := h.at_ hk
 exact ⟨b, o, hA, hb, hok, hc 0 _ rfl, hc 1 _ rfl, hc 2 _ rfl, hc 3 _ rfl, hc 4 _ rfl⟩
theorem rvInfo : (Tryz.prog.info? 87).map (fun i => (i.zero, i.size, i.bytes)) = some (some (.agg #[i64 0, i64 0, i64 0, .slice none 0 0, .string ByteArray.empty]), Enc.size Rv, 64) := by kernel_rfl
theorem movedZ_snoc (Y : List (Od × Rp)) (p : Od × Rp) : movedZ (Y ++ [p]) = if mvB p = true then movedZ Y ++ [p.1] else movedZ Y := by
 rw [movedZ_app]
 unfold movedZ
 by_cases h : mvB p = true
 ·rw [if_pos h, List.filter_cons_of_pos h]; rfl
 ·rw [if_neg h, List.filter_cons_of_neg h]; simp
/-- a captured hold's legs, stored into the move -/
theorem moves_cap {W7 u : World} {x : Od} {g7 : Nat} (hl7 : g7 < W7.heap.size) (hal : u.heap[g7]? = some (.cells #[i64 x.client, i64 x.seq, i64 x.period, .slice x.la x.legs.length x.lc, .string x.note] 87 (0, 0))) (hl9 : u.heap[W7.heap.size]? = some (.cells #[.string x.acct, i64 (-x.sum), .string x.peer, i64 x.sum] 167 (0, 0))) (hF : Gr W7 u (fun _ => False)) :
  (u.setCell ⟨g7, 3, none⟩ (.slice (some ⟨W7.heap.size, 0, none⟩) 2 2)).heap[g7]? = some (.cells #[i64 x.client, i64 x.seq, i64 x.period, .slice (some ⟨W7.heap.size, 0, none⟩) 2 2, .string x.note] 87 (0, 0)) ∧ Gr W7 (u.setCell ⟨g7, 3, none⟩ (.slice (some ⟨W7.heap.size, 0, none⟩) 2 2)) (fun j => j = g7) ∧ (u.setCell ⟨g7, 3, none⟩ (.slice (some ⟨W7.heap.size, 0, none⟩) 2 2)).heap[W7.heap.size]? = some (.cells #[.string x.acct, i64 (-x.sum), .string x.peer, i64 x.sum] 167 (0, 0)) := by
 have hs := heap_setCell_same u g7 3 _ _ (.slice (some ⟨W7.heap.size, 0, none⟩) 2 2) hal
 have hG := Gr.of_grown (grown_setCell (World.grownBy.refl u (some g7)) (p := ⟨g7, 3, none⟩) (.inl rfl) (.slice (some ⟨W7.heap.size, 0, none⟩) 2 2))
 exact ⟨hs, (hF.mono fun _ _ e => e.elim).after (hG.mono fun k _ e => by injection e with e; exact e.symm), (hG.block _ (Array.getElem?_eq_some_iff.1 hl9).1 (fun e => by injection e with e; omega)).trans hl9⟩
theorem legs_row {u : World} {S : Nat → Prop} {b : Nat} {a p : ByteArray} {n m : Int} (h : u.heap[b]? = some (.cells #[.string a, i64 n, .string p, i64 m] 167 (0, 0))) (hS : S b) (ha : a.size ≤ maxLen) (hp : p.size ≤ maxLen) : SlS u S (some ⟨b, 0, none⟩) 2 [(⟨a, n⟩ : Leg), ⟨p, m⟩] :=
 ⟨Nat.le_refl _, by decide, fun _ => ⟨b, 0, rfl, hS, fun j v hv => by
  rw [cell_of_row u b (0 + j) _ _ (0, 0) h, Nat.zero_add, List.getElem?_toArray]
  exact hv⟩, fun x hx => by
  rcases List.mem_cons.1 hx with rfl | hx
  ·exact ha
  ·rw [List.mem_singleton.1 hx]; exact hp⟩
theorem oper_lit_2 {o : Oper} {a : Act} {w : World} {K : Act → World → Prop} {Q : Exit → Act → World → Prop} (n m : Nat) (ho : o.op = .buildSlice 35 2 #[(0, .tmp n), (1, .tmp m)]) (y z : Leg) (hx : a.tmps[n]?.getD undef = .agg #[.string y.acct, i64 y.sum]) (hz : a.tmps[m]?.getD undef = .agg #[.string z.acct, i64 z.sum])
  (hK : K (a.put o.dst (.slice (some ⟨w.heap.size, 0, none⟩) 2 2)) (w.alloc (.cells #[.string y.acct, i64 y.sum, .string z.acct, i64 z.sum] 167))) : Oper.wp Tryz.prog o a w K Q := by
 obtain ⟨d, op, t, ps, af, gd⟩ := o
 dsimp only at ho hK
 subst ho
 go_simp
 exact hK
set_option maxRecDepth 100000 in
set_option maxHeartbeats 16000000 in
theorem rmoves_c (A : Option Addr) (c : Nat) (l : List Od) (w : World) (h : Sl w w.heap.size A c l) (hx : ∀ x ∈ l, OdB x) (hl : ∀ x ∈ l, x.legs.length ≤ 65536) (hn : l.length ≤ 60000) :
  Calls Tryz.prog 40 #[.slice A l.length c] w fun e w' => ∃ (v : Value) (M : List Rv), e = .returned v ∧ M.map Rv.core = (movedL l).map coreN ∧ Own w' w.heap.size 87 v M ∧ Below w.heap.size w w' := by
 have hN := Lib.hid (rfold9_c A c l w h hx hl hn)
 have H := Lib.hid h
 have Hx := Lib.hid hx
 have hlc : l.length ≤ c := h.1
 have HR := Lib.hid (fun p hp => toldZ_mem l bk0 inv_bk0 hx p hp)
 have Htl := Lib.hid (fun k hk => toldZ_take (l := l) bk0 (k := k) hk)
 have htn := toldL_len l bk0
 clear h hx hl
 go_enter Tryz.func40, Tryz.ntmps40
 go_wp2_with fail
 refine hN.out.mono ?_
 rintro e w1 ⟨a, v3, rfl, -, hO3, -, hF⟩
 obtain ⟨A3, c3, rfl, s3⟩ := hO3.sl
 have hsz := hF.size
 have HT := Lib.hid (fun V (hV : Below w1.heap.size w1 V) => s3.later hV)
 have hl3 : (toldL bk0 l).length ≤ c3 := s3.1
 have Hb1 := Lib.hid hF
 clear hN hO3 s3 hF
 go_wp2_with fail
 go_loopw [5, 6] (fun v i wr => ∃ (k : Nat) (M : List Rv), i = i64 k ∧ k ≤ l.length ∧ Hid (M.map Rv.core = (movedZ ((toldZ bk0 l).take k)).map coreN) ∧ Own wr w1.heap.size 87 v M ∧ Below w1.heap.size w1 wr) (fun _ i _ => l.length - (intOf i).toNat)
 case atStart => exact ⟨0, [], rfl, Nat.zero_le _, Lib.hid rfl, Own.nil_ _ _ _, Below.refl _ _⟩
 case round =>
  obtain ⟨k, M, rfl, hk, HM, hO, hb⟩ := hrel
  have hwz := hb.size
  by_cases hlt : k < l.length
  ·have g1 : decide ((k : Int) < (l.length : Int)) = true := decide_eq_true (by omega)
   have g2 : decide (k < l.length) = true := decide_eq_true hlt
   have i0 : (0 : Int) ≤ (k : Int) := by omega
   have i1 : (k : Int) < (l.length : Int) := by omega
   have i2 : (k : Int) < ((toldL bk0 l).length : Int) := by rw [htn]; exact i1
   have htk : k < (toldL bk0 l).length := by rw [htn]; exact hlt
   have Hod := Lib.hid (fun V (hV : Below w.heap.size w V) => (H.out.below hV).od hlt)
   obtain ⟨b, o, rfl, hbb, hokx, -⟩ := Hod.out wr (Hb1.out.trans (hb.mono hsz))
   obtain ⟨b3, o3, hA3, -, t0, -⟩ := (HT.out wr hb).rp htk
   subst hA3
   obtain ⟨x, hxk⟩ : ∃ x, l[k] = x := ⟨_, rfl⟩
   obtain ⟨R, hRk⟩ : ∃ R, (toldL bk0 l)[k] = R := ⟨_, rfl⟩
   rw [hRk] at t0
   have hZ := Htl.out k hlt
   rw [hxk, hRk] at hZ
   have Hsn := Lib.hid (show movedZ ((toldZ bk0 l).take (k + 1)) = if mvB (x, R) = true then movedZ ((toldZ bk0 l).take k) ++ [x] else movedZ ((toldZ bk0 l).take k) by rw [hZ, movedZ_snoc])
   have hpm := HR.out (x, R) (by
    have h1 : (x, R) ∈ (toldZ bk0 l).take (k + 1) := by rw [hZ]; simp
    exact List.mem_of_mem_take h1)
   have HMl := Lib.hid (show M.length + 1 ≤ 4294967296 by
    have h1 := congrArg List.length HM.out
    rw [List.length_map, List.length_map] at h1
    have h2 : (movedZ ((toldZ bk0 l).take k)).length ≤ ((toldZ bk0 l).take k).length := by unfold movedZ; rw [List.length_map]; exact List.length_filter_le _ _
    rw [List.length_take] at h2
    omega)
   by_cases he : R.err = 0
   ·have e0 : (R.err != 0) = false := by rw [he]; rfl
    have hxo := Hx.out x (by rw [← hxk]; exact List.getElem_mem hlt)
    have Hx4 := Lib.hid (show x.kind = 4 → 1 ≤ x.sum ∧ x.sum ≤ 9223372036854775807 from fun h4 => by
     obtain ⟨-, C, hC, hd⟩ := hpm
     have hd : R = (doL C x).1 := hd
     have hm : Mvd x := ⟨do_right (by rw [← hd]; exact he), .inr h4, C, hC, by rw [← hd]; exact he⟩
     have h1 := hm.fits.2.2.2.2 h4
     have h2 := hxo.rng.2.2.2.1
     unfold R64 at h2
     exact ⟨h1, h2.2⟩)
    have Hmv := Lib.hid (show mvB (x, R) = (decide (x.kind = 2) || decide (x.kind = 4)) by unfold mvB; rw [decide_eq_true he]; rfl)
    have HS := Lib.hid (show ∀ V, Below w1.heap.size w1 V → (fun V : World => V.cell? ⟨b, o + k * 10, none⟩ = some (i64 x.client) ∧ V.cell? ⟨b, o + k * 10 + 1, none⟩ = some (i64 x.seq) ∧ V.cell? ⟨b, o + k * 10 + 2, none⟩ = some (i64 x.kind) ∧ V.cell? ⟨b, o + k * 10 + 3, none⟩ = some (.string x.acct) ∧ V.cell? ⟨b, o + k * 10 + 4, none⟩ = some (.string x.peer) ∧ V.cell? ⟨b, o + k * 10 + 5, none⟩ = some (i64 x.sum) ∧ V.cell? ⟨b, o + k * 10 + 6, none⟩ = some (.slice x.la x.legs.length x.lc) ∧ V.cell? ⟨b, o + k * 10 + 7, none⟩ = some (i64 x.period) ∧ V.cell? ⟨b, o + k * 10 + 8, none⟩ = some (i64 x.hold) ∧ V.cell? ⟨b, o + k * 10 + 9, none⟩ = some (.string x.note)) V from fun V hV => by
     obtain ⟨b', o', hA, -, -, c0, c1, c2, c3, c4, c5, c6, c7, c8, c9⟩ := Hod.out V (Hb1.out.trans (hV.mono hsz))
     injection hA with hA
     injection hA with hA1 hA2
     subst hA1 hA2
     rw [hxk] at c0 c1 c2 c3 c4 c5 c6 c7 c8 c9
     exact ⟨c0, c1, c2, c3, c4, c5, c6, c7, c8, c9⟩)
    have HbW := Lib.hid (show ∀ V, Gr wr V (fun _ => False) → Below w1.heap.size w1 V from fun V hV => hb.trans (hV.below hwz (fun _ e => e.elim)))
    have HO := Lib.hid hO
    have Hok := Lib.hid (show Od.Ok wr (fun j => j < w.heap.size) x from hxk ▸ hokx)
    clear hO hb hokx hxk hRk hZ hpm he hxo hbb Hod
    go_wp2_with fail
    go_upto_region 7 with fail
    clear t0
    go_cut [7] from 25 to 46 (fun s7 wx => ∃ g7, s7 = .pointer (some ⟨g7, 0, none⟩) ∧ wr.heap.size ≤ g7 ∧ wx.heap[g7]? = some (.cells #[i64 x.client, i64 x.seq, i64 x.period, .slice x.la x.legs.length x.lc, .string x.note] 87 (0, 0)) ∧ Gr wr wx (fun _ => False))
    case first =>
     refine wp_region_noPanic ?_
     refine wp_region_l 22 (fun V : World => V.cell? ⟨b, o + k * 10, none⟩ = some (i64 x.client) ∧ V.cell? ⟨b, o + k * 10 + 1, none⟩ = some (i64 x.seq) ∧ V.cell? ⟨b, o + k * 10 + 2, none⟩ = some (i64 x.kind) ∧ V.cell? ⟨b, o + k * 10 + 3, none⟩ = some (.string x.acct) ∧ V.cell? ⟨b, o + k * 10 + 4, none⟩ = some (.string x.peer) ∧ V.cell? ⟨b, o + k * 10 + 5, none⟩ = some (i64 x.sum) ∧ V.cell? ⟨b, o + k * 10 + 6, none⟩ = some (.slice x.la x.legs.length x.lc) ∧ V.cell? ⟨b, o + k * 10 + 7, none⟩ = some (i64 x.period) ∧ V.cell? ⟨b, o + k * 10 + 8, none⟩ = some (i64 x.hold) ∧ V.cell? ⟨b, o + k * 10 + 9, none⟩ = some (.string x.note)) (by kernel_rfl) (HS.out _ (HbW.out _ (Gr.of_below (Below.refl wr.heap.size wr).drew (fun _ => False)))) (fun hH => ?_)
     refine tkZ 0 ?_; refine tkZ 1 ?_; refine tkZ 2 ?_; refine tkZ 3 ?_; refine tkZ 4 ?_; refine tkZ 5 ?_; refine tkZ 6 ?_; refine tkZ 7 ?_; refine tkZ 8 ?_; refine tkZ 9 ?_; refine tkZ 10 ?_; refine tkZ 11 ?_; refine tkZ 12 ?_; refine tkZ 13 ?_; refine tkZ 14 ?_; refine tkZ 15 ?_; refine tkZ 16 ?_; refine tkZ 17 ?_; refine tkZ 18 ?_; refine tkZ 19 ?_; refine tkZ 20 ?_
     refine tkO 21 (fun K hK => ?_)
     go_simp
     obtain ⟨g7, hg7, hal⟩ : ∃ g7, g7 = wr.heap.size ∧ (wr.drew.alloc (.cells #[i64 0, i64 0, i64 0, .slice none 0 0, .string ByteArray.empty] 87)).heap[g7]? = some (.cells #[i64 0, i64 0, i64 0, .slice none 0 0, .string ByteArray.empty] 87 (0, 0)) := ⟨_, rfl, heap_alloc_new wr.drew _⟩
     have Hg7 := Lib.hid hg7
     clear hg7
     have hF := (Gr.of_below (Below.refl wr.heap.size wr).drew (fun _ => False)).more ((Below.refl _ _).alloc (Nat.le_refl _) (.cells #[i64 0, i64 0, i64 0, .slice none 0 0, .string ByteArray.empty] 87))
     refine hK.out _ _ (HS.out _ (HbW.out _ hF)) (fun hH => ?_)
     clear hK K
     try simp only [Act.put, uA, uZ, uS, vA, vZ, vS]
     refine tkL (fun K hK => ?_)
     refine wp_store_row 87 (.tmp 7) (.tmp 45) rfl g7 #[i64 x.client, i64 x.seq, i64 x.period, .slice x.la x.legs.length x.lc, .string x.note] (by rw [Hg7.out] <;> rfl) rfl 87 #[i64 0, i64 0, i64 0, .slice none 0 0, .string ByteArray.empty] hal (by kernel_rfl) rfl (by simp [Value.oneCell']) ?_
     have hF := hF.own_row (Nat.le_of_eq Hg7.out.symm) #[i64 x.client, i64 x.seq, i64 x.period, .slice x.la x.legs.length x.lc, .string x.note]
     have hal := setRow_heap _ g7 _ #[i64 x.client, i64 x.seq, i64 x.period, .slice x.la x.legs.length x.lc, .string x.note] _ _ hal
     refine hK.out _ _ ?_
     clear hK K
     try simp only [Act.put, uA, uZ, uS, vA, vZ, vS]
     refine tkD ?_
     repeat go_step
     go_meet
     exact ⟨g7, by rw [Hg7.out] <;> rfl, Nat.le_of_eq Hg7.out.symm, hal, hF⟩
    case rest =>
     obtain ⟨g7, h7, hg7, hal, hF7⟩ := hcut
     obtain ⟨W7, hW7⟩ : ∃ W7, W7 = wc := ⟨wc, rfl⟩
     rw [← hW7] at hal hF7 ⊢
     subst h7
     have hl7 : g7 < W7.heap.size := (Array.getElem?_eq_some_iff.1 hal).1
     have Hal := Lib.hid hal
     have HF7 := Lib.hid hF7
     have hk2 := (HS.out _ (HbW.out _ hF7)).2.2.1
     have HO7 := Lib.hid (HO.out.later (hF7.below (Nat.le_refl _) (fun _ e => e.elim)))
     have Hok7 := Lib.hid (show Od.Ok W7 (fun j => j < w.heap.size) x from Enc.keep (α := Od) Hok.out (fun p hp => World.cell?_of_block (hF7.block _ (Nat.lt_of_lt_of_le hp (Nat.le_trans hsz hwz)) id)) (fun _ h => h))
     have hw7 : wr.heap.size ≤ W7.heap.size := hF7.size
     have hv7 := Lib.hid (fun g (e : (_ : Value).ownBlock = some g) => (HO.out.1.lt g e).2)
     by_cases h4 : x.kind = 4
     ·have e4 : (x.kind == 4) = true := beq_iff_eq.2 h4
      have e2 : (x.kind == 2) = false := beq_eq_false_iff_ne.2 (by omega)
      have Hsn1 := Lib.hid (show movedZ ((toldZ bk0 l).take (k + 1)) = movedZ ((toldZ bk0 l).take k) ++ [x] by rw [Hsn.out, if_pos (by rw [Hmv.out, decide_eq_true h4, Bool.or_true])])
      have Hml := Lib.hid (show mvL x = [(⟨x.acct, -x.sum⟩ : Leg), ⟨x.peer, x.sum⟩] by unfold mvL; rw [if_neg (by omega)]; rfl)
      have hns2 : IntKind.i64.wrap (-x.sum) = -x.sum := by
       have := Hx4.out h4
       rw [IntKind.wrap_i64]; omega
      have hns : wrap64 (-x.sum) = -x.sum := by rw [← IntWalk.i64_left]; exact hns2
      clear h4 hal hF7 hW7
      go_wp2_with fail
      refine wp_region_noPanic ?_
      refine wp_region_l 25 (fun V : World => V.cell? ⟨b, o + k * 10, none⟩ = some (i64 x.client) ∧ V.cell? ⟨b, o + k * 10 + 1, none⟩ = some (i64 x.seq) ∧ V.cell? ⟨b, o + k * 10 + 2, none⟩ = some (i64 x.kind) ∧ V.cell? ⟨b, o + k * 10 + 3, none⟩ = some (.string x.acct) ∧ V.cell? ⟨b, o + k * 10 + 4, none⟩ = some (.string x.peer) ∧ V.cell? ⟨b, o + k * 10 + 5, none⟩ = some (i64 x.sum) ∧ V.cell? ⟨b, o + k * 10 + 6, none⟩ = some (.slice x.la x.legs.length x.lc) ∧ V.cell? ⟨b, o + k * 10 + 7, none⟩ = some (i64 x.period) ∧ V.cell? ⟨b, o + k * 10 + 8, none⟩ = some (i64 x.hold) ∧ V.cell? ⟨b, o + k * 10 + 9, none⟩ = some (.string x.note)) (by kernel_rfl) (HS.out _ (HbW.out _ (HF7.out.after (Gr.of_below (Below.refl W7.heap.size W7).drew (fun _ => False))))) (fun hH => ?_)
      refine tkZ 0 ?_; refine tkZ 1 ?_; refine tkZ 2 ?_; refine tkZ 3 ?_; refine tkZ 4 ?_; refine tkZ 5 ?_; refine tkZ 6 ?_; refine tkZ 7 ?_; refine tkZ 8 ?_; refine tkZ 9 ?_; refine tkZ 10 ?_; refine tkZ 11 ?_; refine tkZ 12 ?_; refine tkZ 13 ?_; refine tkZ 14 ?_; refine tkZ 15 ?_; refine tkZ 16 ?_; refine tkZ 17 ?_; refine tkZ 18 ?_; refine tkZ 19 ?_; refine tkZ 20 ?_; refine tkZ 21 ?_; refine tkZ 22 ?_
      refine tkO 23 (fun K hK => ?_)
      refine oper_lit_2 63 74 rfl ⟨x.acct, -x.sum⟩ ⟨x.peer, x.sum⟩ rfl rfl ?_
      have hl9 := heap_alloc_new W7.drew (.cells #[.string x.acct, i64 (-x.sum), .string x.peer, i64 x.sum] 167)
      have hF9 := (Gr.of_below (Below.refl W7.heap.size W7).drew (fun _ => False)).more ((Below.refl _ _).alloc (Nat.le_refl _) (.cells #[.string x.acct, i64 (-x.sum), .string x.peer, i64 x.sum] 167))
      refine hK.out _ _ (HS.out _ (HbW.out _ (HF7.out.after hF9))) (fun hH => ?_)
      clear hK K
      try simp only [Act.put, uA, uZ, uS, vA, vZ, vS]
      refine tkZ 24 ?_
      refine tkL (fun K hK => ?_)
      generalize W7.drew.alloc (.cells #[.string x.acct, i64 (-x.sum), .string x.peer, i64 x.sum] 167) = u9 at *
      have hal9 := (hF9.block g7 hl7 id).trans Hal.out
      have f3 := frozen_of_row _ g7 3 _ _ hal9
      have m3 := cell_of_row _ g7 3 _ _ (0, 0) hal9
      simp only [List.getElem?_toArray, List.getElem?_cons_zero, List.getElem?_cons_succ] at m3
      have HW9 := Lib.hid (moves_cap (x := x) hl7 hal9 hl9 hF9)
      clear hal9 hl9 hF9
      go_simp
      refine hK.out _ _ ?_
      clear hK K
      try simp only [Act.put, uA, uZ, uS, vA, vZ, vS]
      refine tkD ?_
      generalize (u9.setCell ⟨g7, 3, none⟩ (.slice (some ⟨W7.heap.size, 0, none⟩) 2 2)) = W9 at *
      generalize hq7 : W7.heap.size = q7 at *
      obtain ⟨p1, p2, p3⟩ := HW9.out
      have hF9 := HF7.out.trans p2 (fun j e => .inr (by rw [e]; exact hg7))
      have hW9 := HS.out _ (HbW.out _ hF9)
      have hk9 := hW9.2.2.1
      have m0 := cell_of_row _ g7 0 _ _ (0, 0) p1
      have m1 := cell_of_row _ g7 1 _ _ (0, 0) p1
      have m2 := cell_of_row _ g7 2 _ _ (0, 0) p1
      have m3' := cell_of_row _ g7 3 _ _ (0, 0) p1
      have m4 := cell_of_row _ g7 4 _ _ (0, 0) p1
      simp only [List.getElem?_toArray, List.getElem?_cons_zero, List.getElem?_cons_succ] at m0 m1 m2 m3' m4
      have h79 : q7 ≤ W9.heap.size := by rw [← hq7]; exact p2.size
      have HO9 := HO.out.later (hF9.below (Nat.le_refl _) (fun _ e => e.elim))
      have HOa := Lib.hid (HO9.later ((Below.refl _ _).alloc (Nat.le_refl _) (.cells #[i64 x.client, i64 x.seq, i64 x.period, .slice (some ⟨q7, 0, none⟩) 2 2, .string x.note] 87)))
      have HHa := Lib.hid (heap_alloc_new W9 (.cells #[i64 x.client, i64 x.seq, i64 x.period, .slice (some ⟨q7, 0, none⟩) 2 2, .string x.note] 87))
      have Hnea := Lib.hid (HO9.new_ne (Nat.le_refl W9.heap.size))
      have HFa := Lib.hid hF9
      have Hza := Lib.hid (show W9.heap.size ≤ (W9.alloc (.cells #[i64 x.client, i64 x.seq, i64 x.period, .slice (some ⟨q7, 0, none⟩) 2 2, .string x.note] 87)).heap.size by simp)
      have Hoka := Lib.hid (show Enc.ok (W9.alloc (.cells #[i64 x.client, i64 x.seq, i64 x.period, .slice (some ⟨q7, 0, none⟩) 2 2, .string x.note] 87)) (Oth (W9.alloc (.cells #[i64 x.client, i64 x.seq, i64 x.period, .slice (some ⟨q7, 0, none⟩) 2 2, .string x.note] 87)) _) (⟨x.client, x.seq, x.period, some ⟨q7, 0, none⟩, 2, [(⟨x.acct, -x.sum⟩ : Leg), ⟨x.peer, x.sum⟩], x.note⟩ : Rv) from (⟨legs_row (((Below.refl W9.heap.size W9).alloc (Nat.le_refl _) (.cells #[i64 x.client, i64 x.seq, i64 x.period, .slice (some ⟨q7, 0, none⟩) 2 2, .string x.note] 87)).block q7 (Array.getElem?_eq_some_iff.1 p3).1 |>.trans p3) (⟨Nat.lt_of_lt_of_le (Array.getElem?_eq_some_iff.1 p3).1 Hza.out, fun e => by have := hv7.out q7 e.symm; omega⟩) Hok7.out.acct Hok7.out.peer⟩ : Rv.Ok _ _ (⟨x.client, x.seq, x.period, some ⟨q7, 0, none⟩, 2, [(⟨x.acct, -x.sum⟩ : Leg), ⟨x.peer, x.sum⟩], x.note⟩ : Rv)))
      clear p1 p2 p3 hF9 hW9 HO9 HW9
      go_wp2_with (at_builtin; refine wpList_append_one rfl (some 94) (.tmp 91) (.tmp 93) 80 rfl rfl (.agg #[i64 0, i64 0, i64 0, .slice none 0 0, .string ByteArray.empty]) 64 Tryz.underlying80 rvInfo rfl (by decide) (by decide) rfl HOa.out W9.heap.size (⟨x.client, x.seq, x.period, some ⟨q7, 0, none⟩, 2, [(⟨x.acct, -x.sum⟩ : Leg), ⟨x.peer, x.sum⟩], x.note⟩ : Rv) rfl _ 87 HHa.out rfl Hnea.out Hoka.out HMl.out (Nat.le_trans (Nat.le_trans hwz (Nat.le_trans hw7 h79)) Hza.out) ?_; intro v3 w3 hO3 hg3 hat3)
      have HOx := Lib.hid hO3
      have HbX := Lib.hid ((HbW.out _ (HFa.out.more ((Below.refl _ _).alloc (Nat.le_refl _) (.cells #[i64 x.client, i64 x.seq, i64 x.period, .slice (some ⟨q7, 0, none⟩) 2 2, .string x.note] 87)))).trans (HOa.out.below hg3 (Nat.le_refl _) (Nat.le_trans (Nat.le_trans hwz (Nat.le_trans hw7 h79)) Hza.out)))
      clear hO3 hg3 hat3 HOa HHa Hnea Hoka
      go_roundw
      case rel => exact ⟨k + 1, M ++ [(⟨x.client, x.seq, x.period, some ⟨q7, 0, none⟩, 2, [(⟨x.acct, -x.sum⟩ : Leg), ⟨x.peer, x.sum⟩], x.note⟩ : Rv)], by go_num, by omega, Lib.hid (by rw [Hsn1.out, List.map_append, List.map_append, HM.out]; exact congrArg (_ ++ [·]) (show (_, _, _, _) = (x.id, x.period, mvL x, x.note) by rw [Hml.out]; rfl)), HOx.out, HbX.out⟩
      case measure => simp [intOf]; omega
     ·have e4 : (x.kind == 4) = false := beq_eq_false_iff_ne.2 h4
      by_cases h2 : x.kind = 2
      ·have e2 : (x.kind == 2) = true := beq_iff_eq.2 h2
       have Hsn1 := Lib.hid (show movedZ ((toldZ bk0 l).take (k + 1)) = movedZ ((toldZ bk0 l).take k) ++ [x] by rw [Hsn.out, if_pos (by rw [Hmv.out, decide_eq_true h2]; rfl)])
       have Hml := Lib.hid (show mvL x = x.legs by unfold mvL; rw [if_pos h2])
       clear h4 h2 hW7
       have hk9 := hk2
       have m0 := cell_of_row _ g7 0 _ _ (0, 0) hal
       have m1 := cell_of_row _ g7 1 _ _ (0, 0) hal
       have m2 := cell_of_row _ g7 2 _ _ (0, 0) hal
       have m3 := cell_of_row _ g7 3 _ _ (0, 0) hal
       have m4 := cell_of_row _ g7 4 _ _ (0, 0) hal
       simp only [List.getElem?_toArray, List.getElem?_cons_zero, List.getElem?_cons_succ] at m0 m1 m2 m3 m4
       have HOa := Lib.hid (HO7.out.later ((Below.refl _ _).alloc (Nat.le_refl _) (.cells #[i64 x.client, i64 x.seq, i64 x.period, .slice x.la x.legs.length x.lc, .string x.note] 87)))
       have HHa := Lib.hid (heap_alloc_new W7 (.cells #[i64 x.client, i64 x.seq, i64 x.period, .slice x.la x.legs.length x.lc, .string x.note] 87))
       have Hnea := Lib.hid (HO7.out.new_ne (Nat.le_refl W7.heap.size))
       have HFa := Lib.hid hF7
       have Hza := Lib.hid (show W7.heap.size ≤ (W7.alloc (.cells #[i64 x.client, i64 x.seq, i64 x.period, .slice x.la x.legs.length x.lc, .string x.note] 87)).heap.size by simp)
       have Hoka := Lib.hid (show Enc.ok (W7.alloc (.cells #[i64 x.client, i64 x.seq, i64 x.period, .slice x.la x.legs.length x.lc, .string x.note] 87)) (Oth (W7.alloc (.cells #[i64 x.client, i64 x.seq, i64 x.period, .slice x.la x.legs.length x.lc, .string x.note] 87)) _) (⟨x.client, x.seq, x.period, x.la, x.lc, x.legs, x.note⟩ : Rv) from (⟨(Hok7.out.legs).keep (fun p hp => ((Below.refl W7.heap.size W7).alloc (Nat.le_refl _) (.cells #[i64 x.client, i64 x.seq, i64 x.period, .slice x.la x.legs.length x.lc, .string x.note] 87)).cell (Nat.lt_of_lt_of_le hp (Nat.le_trans hsz (Nat.le_trans hwz hw7)))) (fun j hj => ⟨Nat.lt_of_lt_of_le hj (Nat.le_trans hsz (Nat.le_trans hwz (Nat.le_trans hw7 Hza.out))), fun e => by have := (HO.out.1.lt j e.symm).1; omega⟩)⟩ : Rv.Ok _ _ (⟨x.client, x.seq, x.period, x.la, x.lc, x.legs, x.note⟩ : Rv)))
       clear hal hF7
       go_wp2_with (at_builtin; refine wpList_append_one rfl (some 94) (.tmp 91) (.tmp 93) 80 rfl rfl (.agg #[i64 0, i64 0, i64 0, .slice none 0 0, .string ByteArray.empty]) 64 Tryz.underlying80 rvInfo rfl (by decide) (by decide) rfl HOa.out W7.heap.size (⟨x.client, x.seq, x.period, x.la, x.lc, x.legs, x.note⟩ : Rv) rfl _ 87 HHa.out rfl Hnea.out Hoka.out HMl.out (Nat.le_trans (Nat.le_trans hwz (Nat.le_trans hw7 (Nat.le_refl _))) Hza.out) ?_; intro v3 w3 hO3 hg3 hat3)
       have HOx := Lib.hid hO3
       have HbX := Lib.hid ((HbW.out _ (HFa.out.more ((Below.refl _ _).alloc (Nat.le_refl _) (.cells #[i64 x.client, i64 x.seq, i64 x.period, .slice x.la x.legs.length x.lc, .string x.note] 87)))).trans (HOa.out.below hg3 (Nat.le_refl _) (Nat.le_trans (Nat.le_trans hwz (Nat.le_trans hw7 (Nat.le_refl _))) Hza.out)))
       clear hO3 hg3 hat3 HOa HHa Hnea Hoka
       go_roundw
       case rel => exact ⟨k + 1, M ++ [(⟨x.client, x.seq, x.period, x.la, x.lc, x.legs, x.note⟩ : Rv)], by go_num, by omega, Lib.hid (by rw [Hsn1.out, List.map_append, List.map_append, HM.out]; exact congrArg (_ ++ [·]) (show (_, _, _, _) = (x.id, x.period, mvL x, x.note) by rw [Hml.out]; rfl)), HOx.out, HbX.out⟩
       case measure => simp [intOf]; omega
      ·have e2 : (x.kind == 2) = false := beq_eq_false_iff_ne.2 h2
       have Hsn1 := Lib.hid (show movedZ ((toldZ bk0 l).take (k + 1)) = movedZ ((toldZ bk0 l).take k) by rw [Hsn.out, if_neg (by rw [Hmv.out, decide_eq_false h2, decide_eq_false h4]; decide)])
       have HbX := Lib.hid (HbW.out _ hF7)
       clear h4 h2 hal hF7 hW7
       go_wp2
       go_roundw
       case rel => exact ⟨k + 1, M, by go_num, by omega, Lib.hid (by rw [Hsn1.out]; exact HM.out), HO7.out, HbX.out⟩
       case measure => simp [intOf]; omega
   ·have e0 : (R.err != 0) = true := by simpa using he
    have Hsn1 := Lib.hid (show movedZ ((toldZ bk0 l).take (k + 1)) = movedZ ((toldZ bk0 l).take k) by rw [Hsn.out, if_neg (by unfold mvB; rw [decide_eq_false he]; simp)])
    have HO := Lib.hid hO
    clear he hpm hZ hokx hO
    go_wp2
    go_roundw
    case rel => exact ⟨k + 1, M, by go_num, by omega, Lib.hid (by rw [Hsn1.out]; exact HM.out), HO.out, hb⟩
    case measure => simp [intOf]; omega
  ·obtain rfl : k = l.length := by omega
   have g1 : decide ((l.length : Int) < (l.length : Int)) = false := decide_eq_false (by omega)
   have HM2 := Lib.hid (show M.map Rv.core = (movedL l).map coreN by
    have := HM.out
    rwa [List.take_of_length_le (Nat.le_of_eq (toldZ_len _ _))] at this)
   have HO := Lib.hid hO
   clear hO HM
   go_wp2
   go_ret
   exact ⟨_, M, rfl, HM2.out, HO.out.mono hsz, Hb1.out.trans (hb.mono hsz)⟩
end Go.Proofs.YtampniiehgimhaaGreat
