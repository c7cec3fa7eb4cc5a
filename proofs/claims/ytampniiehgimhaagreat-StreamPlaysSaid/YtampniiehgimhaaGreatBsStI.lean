/- law12.StreamPlays: what the desk and the reference's keep -/
import Derived.Test.YtampniiehgimhaaGreatRows
import Derived.Test.YtampniiehgimhaaGreatBsSt12D
import Derived.Test.YtampniiehgimhaaGreatBs27
import Derived.Test.YtampniiehgimhaaGreatBs26
import Derived.WalkKit
import Derived.WalkSpells
import Derived.WalkLawsBesides
import Derived.Deep.QuietTactic
import Derived.BigQuiet
import Derived.Laws.StructEq
import Derived.Deep.DeepFit
import Derived.StillTailTactics

namespace Go.Proofs.YtampniiehgimhaaGreat
open Go.RowKit
/-- the desk and the reference's desk, behind the same steps; the script lies below w0 -/
structure StI (w0 : Nat) (w : World) (bd : Nat) (d : DA) (r : Nat) (vL vR : Value) (L : List Od) (T : EvT) (R : List Rx) : Prop where
 dk : DkA w bd d (foldL bk0 L) T R
 rd : RdD w w0 r vL vR L (R.map Rx.rr)
 inv : InvB (foldL bk0 L)
 ev : ∀ k, T.get k = evL bk0 L k
 od : ∀ x ∈ L, OdB x ∧ x.legs.length ≤ 8
 n10 : R.length ≤ 10
 at_ : ∀ q ∈ R, q.at_ ≤ (T.get q.acct).length
 ap : ∀ k, d.all T R k → ¬ RdO r vL vR k
 lo : w0 ≤ bd ∧ bd ≤ w.heap.size
section
variable {w0 bd r : Nat} {w w' : World} {d : DA} {vL vR : Value} {L : List Od} {T : EvT} {R : List Rx}
theorem StI.hb (h : StI w0 w bd d r vL vR L T R) : w0 ≤ w.heap.size := Nat.le_trans h.lo.1 h.lo.2
theorem StI.later (h : StI w0 w bd d r vL vR L T R) (hF : Below w.heap.size w w') : StI w0 w' bd d r vL vR L T R :=
 ⟨h.dk.later hF, h.rd.later h.hb hF, h.inv, h.ev, h.od, h.n10, h.at_, h.ap, h.lo.1, Nat.le_trans h.lo.2 hF.size⟩
theorem StI.below {n : Nat} (h : StI w0 w bd d r vL vR L T R) (hg : Gr w w' (d.all T R)) (hn : n ≤ w.heap.size) (hb : n ≤ bd) : Below n w w' := hg.below hn fun k hk => Nat.le_trans hb (h.dk.lt k hk).1
theorem StI.rdk (h : StI w0 w bd d r vL vR L T R) (hg : Gr w w' (d.all T R)) : RdD w' w0 r vL vR L (R.map Rx.rr) :=
 h.rd.kept hg (fun k hk e => h.ap k e hk) h.hb (fun k hk e => by have := (h.dk.lt k e).1; have := h.lo.1; omega)
/-- blocks of the desk that are new lie beside the reference's -/
theorem StI.apn {T2 : EvT} {R2 : List Rx} (h : StI w0 w bd d r vL vR L T R) (hn : ∀ k, d.all T2 R2 k → d.all T R k ∨ w.heap.size ≤ k) : ∀ k, d.all T2 R2 k → ¬ RdO r vL vR k := fun k hk e => by
 rcases hn k hk with h1 | h1
 ·exact h.ap k h1 e
 ·have := (h.rd.lt k e).2; omega
theorem all_rows {T2 : EvT} {n : Nat} (hg : ∀ g, T2.rows g → T.rows g ∨ n ≤ g) : ∀ k, d.all T2 R k → d.all T R k ∨ n ≤ k := fun k hk => by
 rcases hk with hk | hk
 ·exact .inl (.inl hk)
 ·exact (hg k hk).imp .inr id
/-- an order more, stored behind the others -/
theorem RdD.growL {wa w3 : World} {base : Nat} {vR v3 : Value} {R : List Rr} {x : Od} (h : RdD wa base r vL vR L R) (hb : base ≤ wa.heap.size) (hx : Od.Ok wa (fun k => k < base) x) (hO3 : Own w3 base 37 v3 (L ++ [x])) (hg : wa.grownBy w3 vL.ownBlock) (hat : v3.ownBlock = vL.ownBlock ∨ v3.ownBlock = some wa.heap.size) :
  RdD (w3.setCell ⟨r, 0, none⟩ v3) base r v3 vR (L ++ [x]) R ∧ Gr wa (w3.setCell ⟨r, 0, none⟩ v3) (fun j => j = r ∨ vL.ownBlock = some j) ∧ w3.heap[r]? = some (.cells #[vL, vR] 53 (0, 0)) := by
 have hlr := (h.lt r (.inl rfl)).2
 have hc3 := (hg.block r hlr (fun e => h.nL e.symm)).trans h.cell
 have h3r : v3.ownBlock ≠ some r := fun e => by
  rcases hat with h1 | h1
  ·exact h.nL (h1.symm.trans e)
  ·rw [h1] at e; injection e with e; omega
 have hGs := Gr.of_grown (grown_setCell (World.grownBy.refl w3 (some r)) (p := ⟨r, 0, none⟩) (.inl rfl) v3)
 have hG1 : Gr wa w3 (fun j => j = r ∨ vL.ownBlock = some j) := (Gr.of_grown hg).mono fun j _ e => Or.inr e
 have hG2 : Gr w3 (w3.setCell ⟨r, 0, none⟩ v3) (fun j => j = r ∨ vL.ownBlock = some j) := hGs.mono fun j _ e => Or.inl (by injection e with e; exact e.symm)
 have hG := hG1.after hG2
 have hlg : ∀ y ∈ L ++ [x], Od.Ok (w3.setCell ⟨r, 0, none⟩ v3) (fun k => k < base) y := fun y hy => by
  have hy' : Od.Ok wa (fun k => k < base) y := by
   rcases List.mem_append.1 hy with hy | hy
   ·exact h.lg y hy
   ·rw [List.mem_singleton.1 hy]; exact hx
  exact Enc.keep (α := Od) hy' (fun p hp => World.cell?_of_block (hG.block _ (Nat.lt_of_lt_of_le hp hb) (fun e => by
   have hp' : p.block < base := hp
   rcases e with e | e
   ·have := h.lo; omega
   ·have := (h.hL.1.lt _ e).1; omega))) (fun _ h => h)
 have hs := heap_setCell_same w3 r 0 _ _ v3 hc3
 have hO4 := hO3.gr hGs (fun b e e2 => h3r (by rw [e]; exact e2.symm)) (fun y hy => Enc.keep (α := Od) (hlg y hy) (fun _ _ => rfl) (fun k hk => ⟨Nat.lt_of_lt_of_le hk (Nat.le_trans hb hG.size), fun e => by have := (hO3.1.lt k e.symm).1; omega⟩))
 refine ⟨⟨hs, hO4, h.hR.gr hG (fun b e e2 => by
  rcases e2 with e2 | e2
  ·exact h.nR (by rw [e, e2])
  ·exact h.nn b e2 e) (fun y hy => h.hR.2 y hy), h.lo, h3r, h.nR, fun g e e2 => ?_, hlg⟩, hG, hc3⟩
 rcases hat with h1 | h1
 ·exact h.nn g (h1.symm.trans e) e2
 ·rw [h1] at e
  injection e with e
  have := (h.hR.1.lt g e2).2
  omega
/-- behind Do and the order's append -/
theorem StI.do_ {w2 w4 : World} {x : Od} {T2 : EvT} {v3 : Value} (h : StI w0 w bd d r vL vR L T R) (hx : OdB x) (hl : x.legs.length ≤ 8) (hD : DkA w2 bd d (doL (foldL bk0 L) x).2 T2 R) (hev : ∀ k, T2.get k = T.get k ++ evD (foldL bk0 L) x k) (hg : Gr w w2 (d.all T R)) (hn : ∀ g, T2.rows g → T.rows g ∨ w.heap.size ≤ g)
  (hR : RdD w4 w0 r v3 vR (L ++ [x]) (R.map Rx.rr)) (hg4 : Gr w2 w4 (fun j => j = r ∨ vL.ownBlock = some j)) (hv : v3.ownBlock = vL.ownBlock ∨ ∃ g, v3.ownBlock = some g ∧ w2.heap.size ≤ g) : StI w0 w4 bd d r v3 vR (L ++ [x]) T2 R := by
 have hap := h.apn (all_rows (d := d) (R := R) hn)
 refine ⟨?_, hR, ?_, fun k => ?_, fun y hy => ?_, h.n10, fun q hq => ?_, fun k hk e => ?_, h.lo.1, Nat.le_trans h.lo.2 (Nat.le_trans hg.size hg4.size)⟩
 ·rw [foldL_snoc]
  exact hD.kept hg4 (fun k hk e => hap k hk (e.elim .inl (fun e => .inr (.inl e))))
 ·rw [foldL_snoc]; exact h.inv.do_ hx
 ·rw [hev, h.ev, evL_snoc]
 ·rcases List.mem_append.1 hy with hy | hy
  ·exact h.od y hy
  ·rw [List.mem_singleton.1 hy]; exact ⟨hx, hl⟩
 ·rw [hev, List.length_append]
  exact Nat.le_trans (h.at_ q hq) (Nat.le_add_right _ _)
 ·rcases e with e | e | e
  ·exact hap k hk (.inl e)
  ·rcases hv with hv | ⟨g, hv, hgw⟩
   ·exact hap k hk (.inr (.inl (hv.symm.trans e)))
   ·rw [hv] at e
    injection e with e
    have := (hD.lt k hk).2
    omega
  ·exact hap k hk (.inr (.inr e))
/-- behind Read -/
theorem StI.read {w2 w4 : World} {k a : ByteArray} {R2 : List Rx} {vR2 : Value} (h : StI w0 w bd d r vL vR L T R) (hD : DkA w2 bd d (foldL bk0 L) T R2) (hg : Gr w w2 (d.all T R)) (h1 : sreadE R k a ≠ 0 → R2 = R) (h2 : sreadE R k a = 0 → ∃ g, R2 = R ++ [⟨k, g, a, 0⟩] ∧ w.heap.size ≤ g)
  (hR : RdD w4 w0 r vL vR2 L (readR R k a)) (hg4 : Gr w2 w4 (fun j => j = r ∨ vR.ownBlock = some j)) (hv : ∀ g, vR2.ownBlock = some g → vR.ownBlock = some g ∨ w2.heap.size ≤ g) : StI w0 w4 bd d r vL vR2 L T R2 := by
 have hmap : readR R k a = R2.map Rx.rr := by
  unfold readR
  by_cases e : sreadE R k a = 0
  ·obtain ⟨g, rfl, _⟩ := h2 e
   rw [if_pos e, List.map_append]; rfl
  ·rw [if_neg e, h1 e]
 have hn : ∀ j, d.all T R2 j → d.all T R j ∨ w.heap.size ≤ j := fun j hj => by
  by_cases e : sreadE R k a = 0
  ·obtain ⟨g, rfl, hgw⟩ := h2 e
   rcases hj with hj | hj
   ·rcases hj with hj | hj | hj | hj | ⟨q, hq, hj⟩
    ·exact .inl (.inl (.inl hj))
    ·exact .inl (.inl (.inr (.inl hj)))
    ·exact .inl (.inl (.inr (.inr (.inl hj))))
    ·exact .inl (.inl (.inr (.inr (.inr (.inl hj)))))
    ·rcases List.mem_append.1 hq with hq | hq
     ·exact .inl (.inl (.inr (.inr (.inr (.inr ⟨q, hq, hj⟩)))))
     ·rw [List.mem_singleton.1 hq] at hj
      exact .inr (by rw [← hj]; exact hgw)
   ·exact .inl (.inr hj)
  ·rw [h1 e] at hj; exact .inl hj
 have hap := h.apn hn
 refine ⟨hD.kept hg4 (fun j hj e => hap j hj (e.elim .inl (fun e => .inr (.inr e)))), by rw [← hmap]; exact hR, h.inv, h.ev, h.od, ?_, fun q hq => ?_, fun j hj e => ?_, h.lo.1, Nat.le_trans h.lo.2 (Nat.le_trans hg.size hg4.size)⟩
 ·by_cases e : sreadE R k a = 0
  ·obtain ⟨g, rfl, _⟩ := h2 e
   have hl : R.length ≠ 10 := fun e2 => by
    unfold sreadE at e
    split at e
    ·cases e
    ·split at e
     ·cases e
     ·first | (rw [if_pos e2] at e; cases e) | cases e
   have := h.n10
   rw [List.length_append, List.length_singleton]
   omega
  ·rw [h1 e]; exact h.n10
 ·by_cases e : sreadE R k a = 0
  ·obtain ⟨g, rfl, _⟩ := h2 e
   rcases List.mem_append.1 hq with hq | hq
   ·exact h.at_ q hq
   ·rw [List.mem_singleton.1 hq]; exact Nat.zero_le _
  ·rw [h1 e] at hq; exact h.at_ q hq
 ·rcases e with e | e | e
  ·exact hap j hj (.inl e)
  ·exact hap j hj (.inr (.inl e))
  ·rcases hv j e with e | e
   ·exact hap j hj (.inr (.inr e))
   ·have := (hD.lt j hj).2; omega
theorem StI.names (h : StI w0 w bd d r vL vR L T R) {i j : Nat} (hi : i < R.length) (hj : j < R.length) (e : R[i].name = R[j].name) : i = j := by
 have h1 := h.dk.rd.uniq (List.getElem_mem hi) (List.getElem_mem hj) e
 by_cases hij : i = j
 ·exact hij
 ·rcases Nat.lt_or_gt_of_ne hij with h2 | h2
  ·exact absurd (congrArg Rx.blk h1) (List.pairwise_iff_getElem.1 h.dk.ap.rr i j hi hj h2)
  ·exact absurd (congrArg Rx.blk h1).symm (List.pairwise_iff_getElem.1 h.dk.ap.rr j i hj hi h2)
theorem StI.setL (h : StI w0 w bd d r vL vR L T R) {k : ByteArray} {x : Rx} (hg : getRd R k = some x) (m : Nat) : (R.map Rx.rr).set (R.findIdx fun q => decide (q.name = k)) { x.rr with at_ := m } = (setRd R k m).map Rx.rr := by
 rcases idxR_get (R := R) (k := k) with ⟨_, e⟩ | ⟨n, hn, e1, e2, e3⟩
 ·rw [e] at hg; cases hg
 ·rw [e2] at hg
  injection hg with hg
  rw [idx_find hn e1]
  have e : (setRd R k m).map Rx.rr = R.map (fun r => if r.name = k then { r.rr with at_ := m } else r.rr) := by
   unfold setRd
   rw [List.map_map]
   exact List.map_congr_left fun r _ => by
    show Rx.rr (if r.name = k then { r with at_ := m } else r) = _
    split <;> rfl
  rw [e]
  apply List.ext_getElem
  ·rw [List.length_set, List.length_map, List.length_map]
  ·intro i h1 h2
   have hi : i < R.length := by rw [List.length_set, List.length_map] at h1; exact h1
   rw [List.getElem_set, List.getElem_map, List.getElem_map]
   by_cases hni : n = i
   ·subst hni
    rw [if_pos rfl, if_pos e3, ← hg]
   ·rw [if_neg hni, if_neg (fun e => hni (h.names hn hi (by rw [e, e3])))]
/-- behind Take, Back -/
theorem StI.move {w2 w4 : World} {k : ByteArray} {x : Rx} {m : Nat} (h : StI w0 w bd d r vL vR L T R) (hg : getRd R k = some x) (hm : m ≤ (T.get x.acct).length) (hD : DkA w2 bd d (foldL bk0 L) T (setRd R k m)) (hg2 : Gr w w2 (d.all T R))
  (hR : RdD w4 w0 r vL vR L ((R.map Rx.rr).set (R.findIdx fun q => decide (q.name = k)) { x.rr with at_ := m })) (hg4 : Gr w2 w4 (fun j => vR.ownBlock = some j)) : StI w0 w4 bd d r vL vR L T (setRd R k m) := by
 have hn : ∀ j, d.all T (setRd R k m) j → d.all T R j := fun j hj => hj.imp (setRd_fixed d R k m j).1 id
 rw [h.setL hg m] at hR
 refine ⟨hD.kept hg4 (fun j hj e => h.ap j (hn j hj) (.inr (.inr e))), hR, h.inv, h.ev, h.od, ?_, fun q hq => ?_, fun j hj => h.ap j (hn j hj), h.lo.1, Nat.le_trans h.lo.2 (Nat.le_trans hg2.size hg4.size)⟩
 ·unfold setRd; rw [List.length_map]; exact h.n10
 ·obtain ⟨p, hp, _, _, e3, h4⟩ := mem_setRd hq
  rcases h4 with ⟨h5, h6⟩ | ⟨_, rfl⟩
  ·have hpx : p = x := h.dk.rd.uniq hp (getRd_mem hg).1 (by rw [h5, (getRd_mem hg).2])
   rw [h6, e3, hpx]; exact hm
  ·exact h.at_ _ hp
end
end Go.Proofs.YtampniiehgimhaaGreat
