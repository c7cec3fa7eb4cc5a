/- ref12.Desk: At, Read, Poll, Move -/
import Derived.Test.YtampniiehgimhaaGreatRows
import Derived.Test.YtampniiehgimhaaGreatBsSt12
import Derived.Test.YtampniiehgimhaaGreatBs28
import Derived.Test.YtampniiehgimhaaGreatBs14
import Derived.Test.YtampniiehgimhaaGreatBs5
import Derived.Deep.Cut
import Derived.WalkKit
import Derived.WalkSpells
import Derived.WalkLawsBesides
import Derived.Deep.QuietTactic
import Derived.BigQuiet
import Derived.Laws.StructEq
import Derived.Deep.DeepFit
import Derived.StillTailTactics

namespace Go.Proofs.YtampniiehgimhaaGreat
open Go.RowKit
/-- a reader, as the reference has it -/
structure Rr where
 name : ByteArray
 acct : ByteArray
 at_ : Nat
abbrev Rr.v (x : Rr) : Value := .agg #[.string x.name, .string x.acct, i64 x.at_]
instance encRr : Enc Rr where
 size := 3
 cells x := [.string x.name, .string x.acct, i64 x.at_]
 val := Rr.v
 ok _ _ x := x.name.size ≤ maxLen ∧ x.acct.size ≤ maxLen
 len _ := rfl
 one _ v hv := by simp only [List.mem_cons, List.not_mem_nil, or_false] at hv; rcases hv with rfl | rfl | rfl <;> rfl
 keep h _ _ := h
theorem SlS.rr {w : World} {S : Nat → Prop} {c : Nat} {A : Option Addr} {l : List Rr} (h : SlS w S A c l) {k : Nat} (hk : k < l.length) : ∃ b o, A = some ⟨b, o, none⟩ ∧ S b ∧ (l[k].name.size ≤ maxLen ∧ l[k].acct.size ≤ maxLen) ∧
  w.cell? ⟨b, o + k * 3, none⟩ = some (.string l[k].name) ∧ w.cell? ⟨b, o + k * 3 + 1, none⟩ = some (.string l[k].acct) ∧ w.cell? ⟨b, o + k * 3 + 2, none⟩ = some (i64 l[k].at_) := by
 obtain ⟨b, o, hA, hb, hok, hc⟩ := h.at_ hk
 exact ⟨b, o, hA, hb, hok, hc 0 _ rfl, hc 1 _ rfl, hc 2 _ rfl⟩
def Rx.rr (r : Rx) : Rr := ⟨r.name, r.acct, r.at_⟩
abbrev idxR (R : List Rr) (k : ByteArray) : Int := idxP (fun a => decide (a.name = k)) R
theorem idxR_get {R : List Rx} {k : ByteArray} : (idxR (R.map Rx.rr) k < 0 ∧ getRd R k = none) ∨ ∃ (n : Nat) (h : n < R.length), idxR (R.map Rx.rr) k = n ∧ getRd R k = some R[n] ∧ R[n].name = k := by
 unfold idxR idxP getRd
 rw [List.find?_eq_bind_findIdx?_getElem?, List.findIdx?_map, show ((fun a : Rr => decide (a.name = k)) ∘ Rx.rr) = (fun r : Rx => decide (r.name = k)) from rfl]
 cases h : R.findIdx? fun r => decide (r.name = k) with
 | none => exact .inl ⟨by decide, rfl⟩
 | some n =>
  obtain ⟨h1, h2, _⟩ := List.findIdx?_eq_some_iff_getElem.1 h
  exact .inr ⟨n, h1, rfl, by simp [List.getElem?_eq_getElem h1], by simpa using h2⟩
theorem idx_find {R : List Rx} {k : ByteArray} {i : Nat} (hi : i < R.length) (h : idxR (R.map Rx.rr) k = i) : (R.findIdx fun q => decide (q.name = k)) = i := by
 unfold idxR idxP at h
 rw [List.findIdx?_map, show ((fun a : Rr => decide (a.name = k)) ∘ Rx.rr) = (fun r : Rx => decide (r.name = k)) from rfl] at h
 cases h2 : R.findIdx? fun r => decide (r.name = k) with
 | none =>
  rw [h2] at h
  have h : (-1 : Int) = i := h
  omega
 | some j =>
  rw [h2] at h
  have h : ((j : Nat) : Int) = i := h
  obtain ⟨q1, q2, q3⟩ := List.findIdx?_eq_some_iff_getElem.1 h2
  have hj : j = i := by omega
  subst hj
  rw [List.findIdx_eq q1]
  exact ⟨q2, fun l hl => by simpa using q3 l hl⟩
/-- block r holds the reference's desk: the orders L, the readers R -/
structure RdD (w : World) (base r : Nat) (vL vR : Value) (L : List Od) (R : List Rr) : Prop where
 cell : w.heap[r]? = some (.cells #[vL, vR] 53 (0, 0))
 hL : Own w base 37 vL L
 hR : Own w base 72 vR R
 lo : base ≤ r
 nL : vL.ownBlock ≠ some r
 nR : vR.ownBlock ≠ some r
 nn : ∀ g, vL.ownBlock = some g → vR.ownBlock ≠ some g
 lg : ∀ x ∈ L, Od.Ok w (fun k => k < base) x
def RdO (r : Nat) (vL vR : Value) (k : Nat) : Prop := k = r ∨ vL.ownBlock = some k ∨ vR.ownBlock = some k
section
variable {w w' : World} {base r : Nat} {vL vR : Value} {L : List Od} {R : List Rr}
theorem RdD.lt (h : RdD w base r vL vR L R) : ∀ k, RdO r vL vR k → base ≤ k ∧ k < w.heap.size := fun k hk => by
 rcases hk with rfl | e | e
 ·exact ⟨h.lo, (Array.getElem?_eq_some_iff.1 h.cell).1⟩
 ·exact h.hL.1.lt k e
 ·exact h.hR.1.lt k e
theorem RdD.kept {S : Nat → Prop} (h : RdD w base r vL vR L R) (hg : Gr w w' S) (hS : ∀ k, RdO r vL vR k → ¬ S k) (hb : base ≤ w.heap.size) (hS2 : ∀ k, k < base → ¬ S k) : RdD w' base r vL vR L R := by
 have hlg : ∀ x ∈ L, Od.Ok w' (fun k => k < base) x := fun x hx => Enc.keep (α := Od) (h.lg x hx) (fun p hp => World.cell?_of_block (hg.block _ (Nat.lt_of_lt_of_le hp hb) (hS2 _ hp))) (fun _ h => h)
 refine ⟨(hg.block r (h.lt r (.inl rfl)).2 (hS _ (.inl rfl))).trans h.cell, h.hL.gr hg (fun b e => hS b (.inr (.inl e))) (fun x hx => Enc.keep (α := Od) (hlg x hx) (fun _ _ => rfl) (fun k hk => ⟨Nat.lt_of_lt_of_le hk (Nat.le_trans hb hg.size), fun e => ?_⟩)), h.hR.gr hg (fun b e => hS b (.inr (.inr e))) (fun x hx => h.hR.2 x hx), h.lo, h.nL, h.nR, h.nn, hlg⟩
 have := (h.lt k (.inr (.inl e.symm))).1
 omega
theorem RdD.later (h : RdD w base r vL vR L R) (hb : base ≤ w.heap.size) (hF : Below w.heap.size w w') : RdD w' base r vL vR L R := h.kept (Gr.of_below hF (fun _ => False)) (fun _ _ => id) hb (fun _ _ => id)
end
set_option maxRecDepth 100000 in
set_option maxHeartbeats 4000000 in
theorem rdat_c (S : Nat → Prop) (r : Nat) (A : Option Addr) (c : Nat) (R : List Rr) (k : ByteArray) (w : World) (c0 : w.cell? ⟨r, 1, none⟩ = some (.slice A R.length c)) (hs : SlS w S A c R) (hL : R.length ≤ 65536) :
  Calls Tryz.prog 32 #[.pointer (some ⟨r, 0, none⟩), .string k] w fun e w' => e = .returned (i64 (idxR R k)) ∧ w = w' := by
 go_enter Tryz.func32, Tryz.ntmps32
 go_wp2
 go_loop [5] (fun i => ∃ n : Nat, n ≤ R.length ∧ i = i64 n ∧ (∀ j (hj : j < R.length), j < n → R[j].name ≠ k)) (fun i => R.length - (intOf i).toNat)
 case atStart => exact ⟨0, Nat.zero_le _, rfl, by omega⟩
 case round =>
  obtain ⟨n, hn, rfl, hno⟩ := hrel
  by_cases hlt : n < R.length
  ·obtain ⟨b, o, rfl, hb, _, d0, _⟩ := hs.rr hlt
   have Hno := Lib.hid hno
   clear hno hs
   have i0 : (0 : Int) ≤ (n : Int) := by omega
   have i1 : (n : Int) < (R.length : Int) := by omega
   by_cases heq : R[n].name = k
   ·have e1 := beqS_of_eq heq
    have Heq := Lib.hid heq
    clear heq
    go_wp2
    go_ret
    exact ⟨by rw [show idxR R k = n from idxP_hit hlt (by simpa using Heq.out) (fun j hj h => by simpa using Hno.out j hj h)]; rfl, rfl⟩
   ·have e1 := beqS_of_ne heq
    have Heq := Lib.hid heq
    clear heq
    go_wp2
    go_round
    case rel => exact ⟨n + 1, by omega, by go_num, fun j hj h => by
      rcases Nat.lt_succ_iff_lt_or_eq.1 h with h | rfl
      ·exact Hno.out j hj h
      ·exact Heq.out⟩
    case measure => simp [intOf]; omega
  ·have hkl : n = R.length := by omega
   subst hkl
   go_wp2
   go_ret
   exact ⟨by rw [show idxR R k = -1 from idxP_miss (fun j hj => by simpa using hno j hj hj)]; rfl, rfl⟩
theorem rrInfo : (Tryz.prog.info? 72).map (fun i => (i.zero, i.size, i.bytes)) = some (some (.agg #[.string ByteArray.empty, .string ByteArray.empty, i64 0]), Enc.size Rr, 40) := by kernel_rfl
/-- a reader more: the row grown, then stored -/
theorem RdD.grow {wa w3 : World} {base r : Nat} {vL vR v3 : Value} {L : List Od} {R R2 : List Rr} (h : RdD wa base r vL vR L R) (hb : base ≤ wa.heap.size) (hO3 : Own w3 base 72 v3 R2) (hg : wa.grownBy w3 vR.ownBlock) (hat : v3.ownBlock = vR.ownBlock ∨ v3.ownBlock = some wa.heap.size) :
  RdD (w3.setCell ⟨r, 1, none⟩ v3) base r vL v3 L R2 ∧ Gr wa (w3.setCell ⟨r, 1, none⟩ v3) (fun j => j = r ∨ vR.ownBlock = some j) ∧ w3.heap[r]? = some (.cells #[vL, vR] 53 (0, 0)) := by
 have hlr := (h.lt r (.inl rfl)).2
 have hc3 := (hg.block r hlr (fun e => h.nR e.symm)).trans h.cell
 have h3r : v3.ownBlock ≠ some r := fun e => by
  rcases hat with h1 | h1
  ·exact h.nR (h1.symm.trans e)
  ·rw [h1] at e; injection e with e; omega
 have hGs := Gr.of_grown (grown_setCell (World.grownBy.refl w3 (some r)) (p := ⟨r, 1, none⟩) (.inl rfl) v3)
 have hG1 : Gr wa w3 (fun j => j = r ∨ vR.ownBlock = some j) := (Gr.of_grown hg).mono fun j _ e => Or.inr e
 have hG2 : Gr w3 (w3.setCell ⟨r, 1, none⟩ v3) (fun j => j = r ∨ vR.ownBlock = some j) := hGs.mono fun j _ e => Or.inl (by injection e with e; exact e.symm)
 have hG := hG1.after hG2
 have hlg : ∀ x ∈ L, Od.Ok (w3.setCell ⟨r, 1, none⟩ v3) (fun k => k < base) x := fun x hx => Enc.keep (α := Od) (h.lg x hx) (fun p hp => World.cell?_of_block (hG.block _ (Nat.lt_of_lt_of_le hp hb) (fun e => by
  have hp' : p.block < base := hp
  rcases e with e | e
  ·have := h.lo; omega
  ·have := (h.hR.1.lt _ e).1; omega))) (fun _ h => h)
 have hs := heap_setCell_same w3 r 1 _ _ v3 hc3
 refine ⟨⟨hs, h.hL.gr hG (fun b e e2 => by
  rcases e2 with e2 | e2
  ·exact h.nL (by rw [e, e2])
  ·exact h.nn b e e2) (fun x hx => Enc.keep (α := Od) (hlg x hx) (fun _ _ => rfl) (fun k hk => ⟨Nat.lt_of_lt_of_le hk (Nat.le_trans hb hG.size), fun e => by have := (h.hL.1.lt k e.symm).1; omega⟩)), hO3.gr hGs (fun b e e2 => h3r (by rw [e]; exact e2.symm)) (fun x hx => hO3.2 x hx), h.lo, h.nL, h3r, fun g e e2 => ?_, hlg⟩, hG, hc3⟩
 rcases hat with h1 | h1
 ·exact h.nn g e (h1.symm.trans e2)
 ·rw [h1] at e2
  injection e2 with e2
  have := (h.hL.1.lt g e).2
  omega
/-- a reader moved -/
theorem RdD.turn {w : World} {base r : Nat} {vL vR : Value} {L : List Od} {R : List Rr} (h : RdD w base r vL vR L R) (hb : base ≤ w.heap.size) {g n cap i m : Nat} (hv : vR = .slice (some ⟨g, 0, none⟩) n cap) (hi : i < R.length) :
  RdD (w.setCell ⟨g, i * 3 + 2, none⟩ (i64 m)) base r vL vR L (R.set i { R[i] with at_ := m }) ∧ Gr w (w.setCell ⟨g, i * 3 + 2, none⟩ (i64 m)) (fun j => vR.ownBlock = some j) := by
 subst hv
 obtain ⟨h1, h2⟩ := h.hR.set_cell hi 2 (by decide) (i64 m) { R[i] with at_ := m } rfl (show R[i].name.size ≤ maxLen ∧ R[i].acct.size ≤ maxLen from h.hR.2 _ (List.getElem_mem hi))
 have hG : Gr w (w.setCell ⟨g, i * 3 + 2, none⟩ (i64 m)) (fun j => (Value.slice (some ⟨g, 0, none⟩) n cap).ownBlock = some j) := (Gr.of_grown h2).mono fun j _ e => e
 have hlg : ∀ x ∈ L, Od.Ok (w.setCell ⟨g, i * 3 + 2, none⟩ (i64 m)) (fun k => k < base) x := fun x hx => Enc.keep (α := Od) (h.lg x hx) (fun p hp => World.cell?_of_block (hG.block _ (Nat.lt_of_lt_of_le hp hb) (fun e => by
  have hp' : p.block < base := hp
  have := (h.hR.1.lt _ e).1; omega))) (fun _ h => h)
 exact ⟨⟨(hG.block r (h.lt r (.inl rfl)).2 h.nR).trans h.cell, h.hL.gr hG (fun b e => h.nn b e) (fun x hx => Enc.keep (α := Od) (hlg x hx) (fun _ _ => rfl) (fun k hk => ⟨Nat.lt_of_lt_of_le hk (Nat.le_trans hb hG.size), fun e => by have := (h.hL.1.lt k e.symm).1; omega⟩)), h1, h.lo, h.nL, h.nR, h.nn, hlg⟩, hG⟩
/-- the readers behind Read -/
def readR (Rs : List Rx) (k a : ByteArray) : List Rr := if sreadE Rs k a = 0 then Rs.map Rx.rr ++ [⟨k, a, 0⟩] else Rs.map Rx.rr
set_option maxRecDepth 100000 in
set_option maxHeartbeats 8000000 in
theorem rdread_c (base r : Nat) (vL vR : Value) (L : List Od) (Rs : List Rx) (k a : ByteArray) (hk : k.size ≤ maxLen) (ha : a.size ≤ maxLen) (w : World) (h : RdD w base r vL vR L (Rs.map Rx.rr)) (hb : base ≤ w.heap.size) (h10 : Rs.length ≤ 10) :
  Calls Tryz.prog 23 #[.pointer (some ⟨r, 0, none⟩), .string k, .string a] w fun e w' => ∃ vR2, e = .returned (i64 (sreadE Rs k a)) ∧ RdD w' base r vL vR2 L (readR Rs k a) ∧ Gr w w' (fun j => j = r ∨ vR.ownBlock = some j) ∧ (∀ g, vR2.ownBlock = some g → vR.ownBlock = some g ∨ w.heap.size ≤ g) := by
 have HN := Lib.hid (rname_c k hk w)
 have HN2 := Lib.hid (fun W => rname_c a ha W)
 obtain ⟨AR, cR, rfl, sR⟩ := h.hR.sl
 rw [List.length_map] at h
 have H := Lib.hid h
 have HNo := Lib.hid (show ∀ (w' : World) (e : Int), sreadE Rs k a = e → e ≠ 0 → Below w.heap.size w w' → ∃ vR2, Ending.returned (i64 e) = .returned (i64 (sreadE Rs k a)) ∧ RdD w' base r vL vR2 L (readR Rs k a) ∧ Gr w w' (fun j => j = r ∨ (Value.slice AR Rs.length cR).ownBlock = some j) ∧ (∀ g, vR2.ownBlock = some g → (Value.slice AR Rs.length cR).ownBlock = some g ∨ w.heap.size ≤ g) from fun w' e he h0 hF =>
  ⟨.slice AR Rs.length cR, by rw [he], by unfold readR; rw [if_neg (by rw [he]; exact h0)]; exact h.later hb hF, Gr.of_below hF _, fun g hg => .inl hg⟩)
 rw [List.length_map]
 have HS := Lib.hid (fun (W : World) (hF : Below w.heap.size w W) => (show SlS W (fun j => j < w.heap.size) AR cR (Rs.map Rx.rr) from sR.keep (fun _ hp => hF.cell hp) (fun _ h => h)))
 have HC1 := Lib.hid (fun (W : World) (hF : Below w.heap.size w W) => (show W.cell? ⟨r, 1, none⟩ = some (.slice AR Rs.length cR) from by
  have := cell_of_row _ r 1 _ _ (0, 0) (h.later hb hF).cell
  exact this))
 clear h sR
 cases hnk : nameB k
 ·have HE := Lib.hid (show sreadE Rs k a = 1 by unfold sreadE; rw [if_pos (.inl hnk)])
  rw [hnk] at HN
  clear hnk
  go_enter Tryz.func23, Tryz.ntmps23
  go_wp2_with fail
  refine HN.out.mono ?_
  rintro e w1 ⟨rfl, hF⟩
  clear HN
  go_wp2
  go_ret
  exact HNo.out _ 1 HE.out (by decide) hF
 rw [hnk] at HN
 cases hna : nameB a
 ·have HE := Lib.hid (show sreadE Rs k a = 1 by unfold sreadE; rw [if_pos (.inr hna)])
  rw [hna] at HN2
  clear hnk hna
  go_enter Tryz.func23, Tryz.ntmps23
  go_wp2_with fail
  refine HN.out.mono ?_
  rintro e w1 ⟨rfl, hF⟩
  clear HN
  go_wp2_with fail
  refine (HN2.out _).mono ?_
  rintro e w2 ⟨rfl, hF2⟩
  have hb := below_on hF (Nat.le_refl _) hF2
  clear HN2 hF hF2
  go_wp2
  go_ret
  exact HNo.out _ 1 HE.out (by decide) hb
 rw [hna] at HN2
 have HE := Lib.hid (show sreadE Rs k a = if (getRd Rs k).isSome then 7 else if Rs.length = 10 then 5 else 0 by unfold sreadE; rw [if_neg (by rw [hnk, hna]; simp)])
 clear hnk hna
 have Hix := Lib.hid (idxR_get (R := Rs) (k := k))
 obtain ⟨ix, hix⟩ : ∃ ix, idxR (Rs.map Rx.rr) k = ix := ⟨_, rfl⟩
 rw [hix] at Hix
 have HAt := Lib.hid (fun W (hF : Below w.heap.size w W) => rdat_c _ r AR cR (Rs.map Rx.rr) k W (by rw [List.length_map]; exact HC1.out W hF) (HS.out W hF) (by rw [List.length_map]; omega))
 rw [hix] at HAt
 clear hix
 go_enter Tryz.func23, Tryz.ntmps23
 go_wp2_with fail
 refine HN.out.mono ?_
 rintro e w1 ⟨rfl, hF⟩
 clear HN
 go_wp2_with fail
 refine (HN2.out _).mono ?_
 rintro e w2 ⟨rfl, hF2⟩
 have hb2 := below_on hF (Nat.le_refl _) hF2
 clear HN2 hF hF2
 go_wp2_with fail
 refine (HAt.out _ hb2).mono ?_
 rintro e w3 ⟨rfl, rfl⟩
 have c1 := HC1.out w2 hb2
 clear HAt
 rcases Hix.out with ⟨i1, i2⟩ | ⟨n, hn, i1, i2, i3⟩
 ·have g1 : decide ((0 : Int) ≤ ix) = false := decide_eq_false (by omega)
  have HE1 := Lib.hid (show sreadE Rs k a = if Rs.length = 10 then 5 else 0 by rw [HE.out, i2]; rfl)
  clear i1 i2 HE Hix
  by_cases hl : Rs.length = 10
  ·have g2 : decide ((10 : Int) ≤ (Rs.length : Int)) = true := decide_eq_true (by omega)
   have HE2 := Lib.hid (show sreadE Rs k a = 5 by rw [HE1.out, if_pos hl])
   clear hl
   go_wp2
   go_ret
   exact HNo.out _ 5 HE2.out (by decide) hb2
  ·have g2 : decide ((10 : Int) ≤ (Rs.length : Int)) = false := decide_eq_false (by omega)
   have HE2 := Lib.hid (show sreadE Rs k a = 0 by rw [HE1.out, if_neg hl])
   have Hln := Lib.hid (show (Rs.map Rx.rr).length + 1 ≤ 4294967296 by rw [List.length_map]; omega)
   have hb4 := hb2.alloc hb2.size (.cells #[.string k, .string a, i64 0] 72)
   have H4 := Lib.hid (H.out.later hb hb4)
   have HO4 := Lib.hid H4.out.hR
   have HH := Lib.hid (heap_alloc_new w2 (.cells #[.string k, .string a, i64 0] 72))
   have Hne := Lib.hid ((H.out.later hb hb2).hR.new_ne (Nat.le_refl w2.heap.size))
   have Hb4 := Lib.hid hb4
   clear hl HE1 hb4
   go_wp2_with (at_builtin; refine wpList_append_one rfl (some 34) (.tmp 29) (.tmp 33) 51 rfl rfl (.agg #[.string ByteArray.empty, .string ByteArray.empty, i64 0]) 40 Tryz.underlying51 rrInfo rfl (by decide) (by decide) rfl HO4.out w2.heap.size (⟨k, a, 0⟩ : Rr) rfl _ 72 HH.out rfl Hne.out ⟨hk, ha⟩ Hln.out (Nat.le_trans hb Hb4.out.size) ?_; intro v3 w3 hO3 hg3 hat3; obtain ⟨q1, q2, q3⟩ := H4.out.grow (Nat.le_trans hb Hb4.out.size) hO3 hg3 hat3; obtain ⟨A3, cap3, hv3, -⟩ := hO3.sl; generalize List.length _ = n3 at hv3; subst hv3; have f0 := cell_of_row _ r 1 _ _ (0, 0) q3; have ff := frozen_of_row _ r 1 _ _ q3; have Q1 := Lib.hid q1; have Q2 := Lib.hid q2; have Hat := Lib.hid hat3; clear q1 q2 q3 hO3 hg3 hat3)
   go_ret
   refine ⟨_, by rw [HE2.out]; rfl, by unfold readR; rw [HE2.out, if_pos rfl]; exact Q1.out, (Gr.of_below Hb4.out _).after Q2.out, fun g hg => ?_⟩
   rcases Hat.out with e | e
   ·exact .inl (e.symm.trans hg)
   ·rw [e] at hg
    injection hg with hg
    exact .inr (by rw [← hg]; exact Hb4.out.size)
 ·have g1 : decide ((0 : Int) ≤ ix) = true := decide_eq_true (by omega)
  have HE2 := Lib.hid (show sreadE Rs k a = 7 by rw [HE.out, i2]; rfl)
  clear i1 i2 i3 HE Hix
  go_wp2
  go_ret
  exact HNo.out _ 7 HE2.out (by decide) hb2
set_option maxRecDepth 100000 in
set_option maxHeartbeats 8000000 in
theorem rdpoll_no (base r : Nat) (vL vR : Value) (L : List Od) (Rs : List Rx) (k : ByteArray) (n : Int) (w : World) (h : RdD w base r vL vR L (Rs.map Rx.rr)) (hb : base ≤ w.heap.size) (h10 : Rs.length ≤ 10) (hg : getRd Rs k = none) :
  Calls Tryz.prog 25 #[.pointer (some ⟨r, 0, none⟩), .string k, i64 n] w fun e w' => e = .returned (.tuple #[.slice none 0 0, i64 6]) ∧ w = w' := by
 obtain ⟨AL, cL, rfl, sL⟩ := h.hL.sl
 obtain ⟨AR, cR, rfl, sR⟩ := h.hR.sl
 rw [List.length_map] at h
 have c0 := cell_of_row _ r 0 _ _ (0, 0) h.cell
 have c1 := cell_of_row _ r 1 _ _ (0, 0) h.cell
 simp only [List.getElem?_toArray, List.getElem?_cons_zero, List.getElem?_cons_succ] at c0 c1
 have HAt := Lib.hid (rdat_c _ r AR cR (Rs.map Rx.rr) k w (by rw [List.length_map]; exact c1) sR (by rw [List.length_map]; omega))
 rcases idxR_get (R := Rs) (k := k) with ⟨i1, i2⟩ | ⟨i, hi, i1, i2, i3⟩
 ·generalize idxR (Rs.map Rx.rr) k = ix at *
  have g1 : decide (ix < 0) = true := decide_eq_true i1
  clear h sL sR
  go_enter Tryz.func25, Tryz.ntmps25
  go_wp2_with fail
  refine HAt.out.mono ?_
  rintro e w1 ⟨rfl, rfl⟩
  go_wp2
  go_ret2
  exact ⟨rfl, rfl⟩
 ·rw [i2] at hg; cases hg
set_option maxRecDepth 100000 in
set_option maxHeartbeats 8000000 in
theorem rdmove_no (base r : Nat) (vL vR : Value) (L : List Od) (Rs : List Rx) (k : ByteArray) (n : Int) (bk : Bool) (w : World) (h : RdD w base r vL vR L (Rs.map Rx.rr)) (hb : base ≤ w.heap.size) (h10 : Rs.length ≤ 10) (hg : getRd Rs k = none) :
  Calls Tryz.prog 29 #[.pointer (some ⟨r, 0, none⟩), .string k, i64 n, .bool bk] w fun e w' => e = .returned (i64 6) ∧ w = w' := by
 obtain ⟨AL, cL, rfl, sL⟩ := h.hL.sl
 obtain ⟨AR, cR, rfl, sR⟩ := h.hR.sl
 rw [List.length_map] at h
 have c0 := cell_of_row _ r 0 _ _ (0, 0) h.cell
 have c1 := cell_of_row _ r 1 _ _ (0, 0) h.cell
 simp only [List.getElem?_toArray, List.getElem?_cons_zero, List.getElem?_cons_succ] at c0 c1
 have HAt := Lib.hid (rdat_c _ r AR cR (Rs.map Rx.rr) k w (by rw [List.length_map]; exact c1) sR (by rw [List.length_map]; omega))
 rcases idxR_get (R := Rs) (k := k) with ⟨i1, i2⟩ | ⟨i, hi, i1, i2, i3⟩
 ·generalize idxR (Rs.map Rx.rr) k = ix at *
  have g1 : decide (ix < 0) = true := decide_eq_true i1
  clear h sL sR
  go_enter Tryz.func29, Tryz.ntmps29
  go_wp2_with fail
  refine HAt.out.mono ?_
  rintro e w1 ⟨rfl, rfl⟩
  go_wp2
  go_ret
  exact ⟨rfl, rfl⟩
 ·rw [i2] at hg; cases hg
set_option maxRecDepth 100000 in
set_option maxHeartbeats 8000000 in
theorem rdpoll_c (base r : Nat) (vL vR : Value) (L : List Od) (Rs : List Rx) (k : ByteArray) (n : Int) (w : World) (h : RdD w base r vL vR L (Rs.map Rx.rr)) (hb : base ≤ w.heap.size) (h10 : Rs.length ≤ 10) (hx : ∀ x ∈ L, OdB x) (hlg : ∀ x ∈ L, x.legs.length ≤ 10) (hn : L.length ≤ 60000) (x : Rx) (hg : getRd Rs k = some x) (ha : x.at_ ≤ (evL bk0 L x.acct).length) :
  Calls Tryz.prog 25 #[.pointer (some ⟨r, 0, none⟩), .string k, i64 n] w fun e w' => ∃ A c, e = .returned (.tuple #[.slice A (((evL bk0 L x.acct).drop x.at_).take (min (max n 0) (((evL bk0 L x.acct).drop x.at_).length : Int)).toNat).length c, i64 0]) ∧ Sl w' w'.heap.size A c (((evL bk0 L x.acct).drop x.at_).take (min (max n 0) (((evL bk0 L x.acct).drop x.at_).length : Int)).toNat) ∧ Below w.heap.size w w' := by
 obtain ⟨AL, cL, rfl, sL⟩ := h.hL.sl
 obtain ⟨AR, cR, rfl, sR⟩ := h.hR.sl
 rw [List.length_map] at h
 have c0 := cell_of_row _ r 0 _ _ (0, 0) h.cell
 have c1 := cell_of_row _ r 1 _ _ (0, 0) h.cell
 simp only [List.getElem?_toArray, List.getElem?_cons_zero, List.getElem?_cons_succ] at c0 c1
 have HAt := Lib.hid (rdat_c _ r AR cR (Rs.map Rx.rr) k w (by rw [List.length_map]; exact c1) sR (by rw [List.length_map]; omega))
 rcases idxR_get (R := Rs) (k := k) with ⟨i1, i2⟩ | ⟨i, hi, i1, i2, i3⟩
 ·rw [i2] at hg; cases hg
 rw [i2] at hg
 injection hg with hg
 rw [i1] at HAt
 have g1 : decide ((i : Int) < 0) = false := decide_eq_false (by omega)
 have hlm : i < (Rs.map Rx.rr).length := by rw [List.length_map]; exact hi
 obtain ⟨b, o, hA, hbb, -, d0, d1, d2⟩ := sR.rr hlm
 rw [show (Rs.map Rx.rr)[i] = x.rr by rw [List.getElem_map, hg]] at d0 d1 d2
 change w.cell? ⟨b, o + i * 3 + 1, none⟩ = some (.string x.acct) at d1
 change w.cell? ⟨b, o + i * 3 + 2, none⟩ = some (i64 x.at_) at d2
 subst hA
 have hlr := (h.lt r (.inl rfl)).2
 have HS := Lib.hid (show ∀ V, Below w.heap.size w V → (fun V : World => V.cell? ⟨r, 0, none⟩ = some (.slice AL L.length cL) ∧ V.cell? ⟨r, 1, none⟩ = some (.slice (some ⟨b, o, none⟩) Rs.length cR) ∧ V.cell? ⟨b, o + i * 3 + 1, none⟩ = some (.string x.acct) ∧ V.cell? ⟨b, o + i * 3 + 2, none⟩ = some (i64 x.at_)) V from fun V hV => ⟨(hV.cell (p := ⟨r, 0, none⟩) hlr).trans c0, (hV.cell (p := ⟨r, 1, none⟩) hlr).trans c1, (hV.cell (p := ⟨b, o + i * 3 + 1, none⟩) hbb).trans d1, (hV.cell (p := ⟨b, o + i * 3 + 2, none⟩) hbb).trans d2⟩)
 have HEv := Lib.hid (fun W (hW : Below w.heap.size w W) => rev_c AL cL L x.acct W (sL.later hW) hx hlg hn)
 have hev : (evL bk0 L x.acct).length ≤ 60000 := Nat.le_trans (evL_le inv_bk0 x.acct L hx) hn
 have hRc : Rs.length ≤ cR := by
  have := sR.1
  rwa [List.length_map] at this
 have j0 : (0 : Int) ≤ (i : Int) := by omega
 have j1 : (i : Int) < (Rs.length : Int) := by omega
 have H := Lib.hid h
 clear h sL sR c0 c1 d0 d1 d2 i1 i2 i3 hg hbb hlr hx hlg hn
 generalize evL bk0 L x.acct = E at *
 have e0 : (0 : Int) ≤ (x.at_ : Int) := by omega
 have e1 : (x.at_ : Int) ≤ (E.length : Int) := by omega
 obtain ⟨D, hD⟩ : ∃ D, D = (E.drop x.at_).take (min (max n 0) ((E.drop x.at_).length : Int)).toNat := ⟨_, rfl⟩
 rw [← hD]
 have HD0 := Lib.hid (show D = (E.drop x.at_).take (min (max n 0) ((E.length - x.at_ : Nat) : Int)).toNat by rw [hD, List.length_drop])
 clear hD
 go_enter Tryz.func25, Tryz.ntmps25
 go_wp2_with fail
 refine HAt.out.mono ?_
 rintro e w1 ⟨rfl, rfl⟩
 clear HAt
 go_wp2_with fail
 refine wp_region_noPanic ?_
 refine wp_region_l 22 (fun V : World => V.cell? ⟨r, 0, none⟩ = some (.slice AL L.length cL) ∧ V.cell? ⟨r, 1, none⟩ = some (.slice (some ⟨b, o, none⟩) Rs.length cR) ∧ V.cell? ⟨b, o + i * 3 + 1, none⟩ = some (.string x.acct) ∧ V.cell? ⟨b, o + i * 3 + 2, none⟩ = some (i64 x.at_)) (by kernel_rfl) (HS.out _ (Below.refl _ _).drew) (fun hH => ?_)
 refine tkZ 0 ?_; refine tkZ 1 ?_; refine tkZ 2 ?_; refine tkZ 3 ?_; refine tkZ 4 ?_; refine tkZ 5 ?_; refine tkZ 6 ?_; refine tkZ 7 ?_; refine tkZ 8 ?_; refine tkZ 9 ?_; refine tkZ 10 ?_; refine tkZ 11 ?_; refine tkZ 13 ?_; refine tkZ 14 ?_; refine tkZ 15 ?_; refine tkZ 16 ?_; refine tkZ 17 ?_; refine tkZ 18 ?_; refine tkZ 19 ?_; refine tkZ 20 ?_
 refine tkO 12 (fun K hK => ?_)
 refine oper_call2 34 18 26 _ rfl _ _ rfl rfl (enters_of Tryz.func34 (by kernel_rfl) rfl) ?_
 refine (HEv.out _ (Below.refl _ _).drew).mono ?_
 rintro e W2 ⟨v2, rfl, hO2, hF⟩
 obtain ⟨A2, c2, rfl, s2⟩ := hO2.sl
 have h2c : E.length ≤ c2 := s2.1
 have i2 : (x.at_ : Int) ≤ (c2 : Int) := by omega
 have S2 := Lib.hid s2
 have hF2 := below_on (Below.refl w.heap.size w).drew (Nat.le_refl _) hF
 refine ⟨_, rfl, ?_⟩
 clear hF hO2 s2
 refine hK.out _ _ (HS.out _ hF2) (fun hH => ?_)
 clear hK K
 try simp only [Act.put, uA, uZ, uS, vA, vZ, vS]
 refine tkZ 21 ?_
 refine tkL (fun K hK => ?_)
 go_simp
 refine hK.out _ _ ?_
 clear hK K
 try simp only [Act.put, uA, uZ, uS, vA, vZ, vS]
 refine tkD ?_
 have HD := Lib.hid (S2.out.drop (k := x.at_) (by omega))
 have m0 : (0 : Int) ≤ min (max n 0) ((E.length - x.at_ : Nat) : Int) := by omega
 have m1 : min (max n 0) ((E.length - x.at_ : Nat) : Int) ≤ (c2 : Int) - (x.at_ : Int) := by omega
 have m2 : min (max n 0) ((E.length - x.at_ : Nat) : Int) ≤ ((c2 - x.at_ : Nat) : Int) := by omega
 have m3 : min (max n 0) ((E.length - x.at_ : Nat) : Int) ≤ ((E.length - x.at_ : Nat) : Int) := by omega
 have HDl := Lib.hid (show D.length = (min (max n 0) ((E.length - x.at_ : Nat) : Int)).toNat by rw [HD0.out, List.length_take, List.length_drop]; omega)
 have HF2 := Lib.hid hF2
 clear hF2
 go_wp2
 ·go_ret2
  have h2 := HD.out
  have hc0 : c2 = x.at_ := by assumption
  rw [if_pos hc0, hc0, Nat.sub_self] at h2
  exact ⟨A2, 0, by rw [HDl.out]; rfl, by rw [HD0.out]; exact h2.take _, HF2.out⟩
 ·go_ret2
  have h2 := HD.out
  have hc0 : ¬ c2 = x.at_ := by assumption
  rw [if_neg hc0] at h2
  exact ⟨_, c2 - x.at_, by rw [HDl.out]; rfl, by rw [HD0.out]; exact h2.take _, HF2.out⟩
set_option maxRecDepth 100000 in
set_option maxHeartbeats 8000000 in
theorem rdmove_bad (base r : Nat) (vL vR : Value) (L : List Od) (Rs : List Rx) (k : ByteArray) (n : Int) (bk : Bool) (w : World) (h : RdD w base r vL vR L (Rs.map Rx.rr)) (hb : base ≤ w.heap.size) (h10 : Rs.length ≤ 10) (hx : ∀ x ∈ L, OdB x) (hlg : ∀ x ∈ L, x.legs.length ≤ 10) (hn : L.length ≤ 60000) (x : Rx) (hg : getRd Rs k = some x) (ha : x.at_ ≤ (evL bk0 L x.acct).length) (hbad : n < 0 ∨ (bk = false ∧ (((evL bk0 L x.acct).length : Int) - x.at_ < n)) ∨ (bk = true ∧ (x.at_ : Int) < n)) :
  Calls Tryz.prog 29 #[.pointer (some ⟨r, 0, none⟩), .string k, i64 n, .bool bk] w fun e w' => e = .returned (i64 13) ∧ Below w.heap.size w w' := by
 obtain ⟨AL, cL, rfl, sL⟩ := h.hL.sl
 obtain ⟨AR, cR, rfl, sR⟩ := h.hR.sl
 rw [List.length_map] at h
 have c0 := cell_of_row _ r 0 _ _ (0, 0) h.cell
 have c1 := cell_of_row _ r 1 _ _ (0, 0) h.cell
 simp only [List.getElem?_toArray, List.getElem?_cons_zero, List.getElem?_cons_succ] at c0 c1
 have HAt := Lib.hid (rdat_c _ r AR cR (Rs.map Rx.rr) k w (by rw [List.length_map]; exact c1) sR (by rw [List.length_map]; omega))
 rcases idxR_get (R := Rs) (k := k) with ⟨i1, i2⟩ | ⟨i, hi, i1, i2, i3⟩
 ·rw [i2] at hg; cases hg
 rw [i2] at hg
 injection hg with hg
 rw [i1] at HAt
 have g1 : decide ((i : Int) < 0) = false := decide_eq_false (by omega)
 have hlm : i < (Rs.map Rx.rr).length := by rw [List.length_map]; exact hi
 obtain ⟨b, o, hA, hbb, -, d0, d1, d2⟩ := sR.rr hlm
 rw [show (Rs.map Rx.rr)[i] = x.rr by rw [List.getElem_map, hg]] at d0 d1 d2
 change w.cell? ⟨b, o + i * 3 + 1, none⟩ = some (.string x.acct) at d1
 change w.cell? ⟨b, o + i * 3 + 2, none⟩ = some (i64 x.at_) at d2
 subst hA
 have hlr := (h.lt r (.inl rfl)).2
 have HS := Lib.hid (show ∀ V, Below w.heap.size w V → (fun V : World => V.cell? ⟨r, 0, none⟩ = some (.slice AL L.length cL) ∧ V.cell? ⟨r, 1, none⟩ = some (.slice (some ⟨b, o, none⟩) Rs.length cR) ∧ V.cell? ⟨b, o + i * 3 + 1, none⟩ = some (.string x.acct) ∧ V.cell? ⟨b, o + i * 3 + 2, none⟩ = some (i64 x.at_)) V from fun V hV => ⟨(hV.cell (p := ⟨r, 0, none⟩) hlr).trans c0, (hV.cell (p := ⟨r, 1, none⟩) hlr).trans c1, (hV.cell (p := ⟨b, o + i * 3 + 1, none⟩) hbb).trans d1, (hV.cell (p := ⟨b, o + i * 3 + 2, none⟩) hbb).trans d2⟩)
 have HEv := Lib.hid (fun W (hW : Below w.heap.size w W) => rev_c AL cL L x.acct W (sL.later hW) hx hlg hn)
 have hev : (evL bk0 L x.acct).length ≤ 60000 := Nat.le_trans (evL_le inv_bk0 x.acct L hx) hn
 have hRc : Rs.length ≤ cR := by
  have := sR.1
  rwa [List.length_map] at this
 have j0 : (0 : Int) ≤ (i : Int) := by omega
 have j1 : (i : Int) < (Rs.length : Int) := by omega
 have H := Lib.hid h
 clear h sL sR c0 c1 d0 d1 d2 i1 i2 i3 hg hlr hx hlg hn
 generalize evL bk0 L x.acct = E at *
 have e0 : (0 : Int) ≤ (x.at_ : Int) := by omega
 have e1 : (x.at_ : Int) ≤ (E.length : Int) := by omega
 go_enter Tryz.func29, Tryz.ntmps29
 go_wp2_with fail
 refine HAt.out.mono ?_
 rintro e w1 ⟨rfl, rfl⟩
 clear HAt
 go_wp2_with fail
 refine wp_region_noPanic ?_
 refine wp_region_l 23 (fun V : World => V.cell? ⟨r, 0, none⟩ = some (.slice AL L.length cL) ∧ V.cell? ⟨r, 1, none⟩ = some (.slice (some ⟨b, o, none⟩) Rs.length cR) ∧ V.cell? ⟨b, o + i * 3 + 1, none⟩ = some (.string x.acct) ∧ V.cell? ⟨b, o + i * 3 + 2, none⟩ = some (i64 x.at_)) (by kernel_rfl) (HS.out _ (Below.refl _ _).drew) (fun hH => ?_)
 refine tkZ 0 ?_; refine tkZ 1 ?_; refine tkZ 2 ?_; refine tkZ 3 ?_; refine tkZ 4 ?_; refine tkZ 5 ?_; refine tkZ 6 ?_; refine tkZ 7 ?_; refine tkZ 8 ?_; refine tkZ 9 ?_; refine tkZ 10 ?_; refine tkZ 11 ?_; refine tkZ 14 ?_; refine tkZ 15 ?_; refine tkZ 16 ?_; refine tkZ 17 ?_; refine tkZ 18 ?_; refine tkZ 19 ?_; refine tkZ 20 ?_; refine tkZ 21 ?_
 refine tkO 12 (fun K hK => ?_)
 refine oper_call2 34 19 27 _ rfl _ _ rfl rfl (enters_of Tryz.func34 (by kernel_rfl) rfl) ?_
 refine (HEv.out _ (Below.refl _ _).drew).mono ?_
 rintro e W2 ⟨v2, rfl, hO2, hF⟩
 obtain ⟨A2, c2, rfl, s2⟩ := hO2.sl
 have h2c : E.length ≤ c2 := s2.1
 have i2 : (x.at_ : Int) ≤ (c2 : Int) := by omega
 have S2 := Lib.hid s2
 have hF2 := below_on (Below.refl w.heap.size w).drew (Nat.le_refl _) hF
 refine ⟨_, rfl, ?_⟩
 clear hF hO2 s2
 refine hK.out _ _ (HS.out _ hF2) (fun hH => ?_)
 clear hK K
 try simp only [Act.put, uA, uZ, uS, vA, vZ, vS]
 refine tkZ 13 ?_; refine tkZ 22 ?_
 refine tkL (fun K hK => ?_)
 go_simp
 refine hK.out _ _ ?_
 clear hK K
 try simp only [Act.put, uA, uZ, uS, vA, vZ, vS]
 refine tkD ?_
 have d2' := (HS.out _ hF2).2.2.2
 have c1' := (HS.out _ hF2).2.1
 have HF2 := Lib.hid hF2
 have hsb : IntKind.i64.wrap ((E.length : Int) - (x.at_ : Int)) = (E.length : Int) - (x.at_ : Int) := by rw [IntKind.wrap_i64]; omega
 have hsw : wrap64 ((E.length : Int) - (x.at_ : Int)) = (E.length : Int) - (x.at_ : Int) := by rw [← IntWalk.i64_left]; exact hsb
 clear hF2 S2 HEv
 by_cases h1 : n < 0
 ·have b1 : decide (n < 0) = true := decide_eq_true h1
  clear hbad h1
  go_wp2
  go_ret
  exact ⟨rfl, HF2.out⟩
 ·have b1 : decide (n < 0) = false := decide_eq_false h1
  rcases hbad with h | ⟨h2, h3⟩ | ⟨h2, h3⟩
  ·exact absurd h h1
  ·subst h2
   have b2 : decide ((E.length : Int) - (x.at_ : Int) < n) = true := decide_eq_true h3
   clear h1 h3
   go_wp2
   go_ret
   exact ⟨rfl, HF2.out⟩
  ·subst h2
   have b2 : decide ((x.at_ : Int) < n) = true := decide_eq_true h3
   clear h1 h3
   go_wp2
   go_ret
   exact ⟨rfl, HF2.out⟩
set_option maxRecDepth 100000 in
set_option maxHeartbeats 8000000 in
theorem rdmove_c (base r : Nat) (vL vR : Value) (L : List Od) (Rs : List Rx) (k : ByteArray) (n : Int) (m : Nat) (bk : Bool) (w : World) (h : RdD w base r vL vR L (Rs.map Rx.rr)) (hb : base ≤ w.heap.size) (h10 : Rs.length ≤ 10) (hx : ∀ x ∈ L, OdB x) (hlg : ∀ x ∈ L, x.legs.length ≤ 10) (hn : L.length ≤ 60000) (x : Rx) (hg : getRd Rs k = some x) (ha : x.at_ ≤ (evL bk0 L x.acct).length) (hr : R64 n) (h0 : 0 ≤ n) (hm : if bk = true then (m : Int) = x.at_ - n else (m : Int) = x.at_ + n ∧ m ≤ (evL bk0 L x.acct).length) :
  Calls Tryz.prog 29 #[.pointer (some ⟨r, 0, none⟩), .string k, i64 n, .bool bk] w fun e w' => e = .returned (i64 0) ∧ RdD w' base r vL vR L ((Rs.map Rx.rr).set (Rs.findIdx fun q => decide (q.name = k)) { x.rr with at_ := m }) ∧ Gr w w' (fun j => vR.ownBlock = some j) := by
 obtain ⟨AL, cL, rfl, sL⟩ := h.hL.sl
 obtain ⟨AR, cR, rfl, sR⟩ := h.hR.sl
 rw [List.length_map] at h
 have c0 := cell_of_row _ r 0 _ _ (0, 0) h.cell
 have c1 := cell_of_row _ r 1 _ _ (0, 0) h.cell
 simp only [List.getElem?_toArray, List.getElem?_cons_zero, List.getElem?_cons_succ] at c0 c1
 have HAt := Lib.hid (rdat_c _ r AR cR (Rs.map Rx.rr) k w (by rw [List.length_map]; exact c1) sR (by rw [List.length_map]; omega))
 rcases idxR_get (R := Rs) (k := k) with ⟨i1, i2⟩ | ⟨i, hi, i1, i2, i3⟩
 ·rw [i2] at hg; cases hg
 rw [i2] at hg
 injection hg with hg
 rw [i1] at HAt
 have g1 : decide ((i : Int) < 0) = false := decide_eq_false (by omega)
 have hlm : i < (Rs.map Rx.rr).length := by rw [List.length_map]; exact hi
 obtain ⟨b, o, hA, hbb, -, d0, d1, d2⟩ := sR.rr hlm
 rw [show (Rs.map Rx.rr)[i] = x.rr by rw [List.getElem_map, hg]] at d0 d1 d2
 change w.cell? ⟨b, o + i * 3 + 1, none⟩ = some (.string x.acct) at d1
 change w.cell? ⟨b, o + i * 3 + 2, none⟩ = some (i64 x.at_) at d2
 subst hA
 have hlr := (h.lt r (.inl rfl)).2
 have HS := Lib.hid (show ∀ V, Below w.heap.size w V → (fun V : World => V.cell? ⟨r, 0, none⟩ = some (.slice AL L.length cL) ∧ V.cell? ⟨r, 1, none⟩ = some (.slice (some ⟨b, o, none⟩) Rs.length cR) ∧ V.cell? ⟨b, o + i * 3 + 1, none⟩ = some (.string x.acct) ∧ V.cell? ⟨b, o + i * 3 + 2, none⟩ = some (i64 x.at_)) V from fun V hV => ⟨(hV.cell (p := ⟨r, 0, none⟩) hlr).trans c0, (hV.cell (p := ⟨r, 1, none⟩) hlr).trans c1, (hV.cell (p := ⟨b, o + i * 3 + 1, none⟩) hbb).trans d1, (hV.cell (p := ⟨b, o + i * 3 + 2, none⟩) hbb).trans d2⟩)
 have HEv := Lib.hid (fun W (hW : Below w.heap.size w W) => rev_c AL cL L x.acct W (sL.later hW) hx hlg hn)
 have hev : (evL bk0 L x.acct).length ≤ 60000 := Nat.le_trans (evL_le inv_bk0 x.acct L hx) hn
 have hRc : Rs.length ≤ cR := by
  have := sR.1
  rwa [List.length_map] at this
 have j0 : (0 : Int) ≤ (i : Int) := by omega
 have j1 : (i : Int) < (Rs.length : Int) := by omega
 have H := Lib.hid h
 have hfi : (Rs.findIdx fun q => decide (q.name = k)) = i := idx_find hi i1
 rw [hfi]
 have hvR : ∃ g n' cap, (Value.slice (some ⟨b, o, none⟩) Rs.length cR) = .slice (some ⟨g, 0, none⟩) n' cap ∧ b = g ∧ o = 0 := by
  obtain ⟨gb, cap, cur, hv, -⟩ := h.hR.form (Nat.lt_of_le_of_lt (Nat.zero_le _) hlm)
  injection hv with q1 q2 q3
  injection q1 with q1
  injection q1 with q1 q4
  exact ⟨gb, _, _, by rw [q1, q4], q1, q4⟩
 obtain ⟨g, n', cap, hv, rfl, rfl⟩ := hvR
 have HTn := Lib.hid (fun (W : World) (hF : Below w.heap.size w W) => (h.later hb hF).turn (Nat.le_trans hb hF.size) (m := m) rfl hlm)
 have exr : (Rs.map Rx.rr)[i] = x.rr := by rw [List.getElem_map, hg]
 simp only [exr] at HTn
 simp only [Nat.zero_add] at HS
 have hfz := fun (W : World) (hF : Below w.heap.size w W) => (h.later hb hF).hR
 have hev2 := hev
 clear h sL sR c0 c1 d0 d1 d2 i1 i2 i3 hg hlr hx hlg hn hv exr
 generalize evL bk0 L x.acct = E at *
 have e0 : (0 : Int) ≤ (x.at_ : Int) := by omega
 have e1 : (x.at_ : Int) ≤ (E.length : Int) := by omega
 go_enter Tryz.func29, Tryz.ntmps29
 go_wp2_with fail
 refine HAt.out.mono ?_
 rintro e w1 ⟨rfl, rfl⟩
 clear HAt
 go_wp2_with fail
 refine wp_region_noPanic ?_
 refine wp_region_l 23 (fun V : World => V.cell? ⟨r, 0, none⟩ = some (.slice AL L.length cL) ∧ V.cell? ⟨r, 1, none⟩ = some (.slice (some ⟨b, 0, none⟩) Rs.length cR) ∧ V.cell? ⟨b, i * 3 + 1, none⟩ = some (.string x.acct) ∧ V.cell? ⟨b, i * 3 + 2, none⟩ = some (i64 x.at_)) (by kernel_rfl) (HS.out _ (Below.refl _ _).drew) (fun hH => ?_)
 refine tkZ 0 ?_; refine tkZ 1 ?_; refine tkZ 2 ?_; refine tkZ 3 ?_; refine tkZ 4 ?_; refine tkZ 5 ?_; refine tkZ 6 ?_; refine tkZ 7 ?_; refine tkZ 8 ?_; refine tkZ 9 ?_; refine tkZ 10 ?_; refine tkZ 11 ?_; refine tkZ 14 ?_; refine tkZ 15 ?_; refine tkZ 16 ?_; refine tkZ 17 ?_; refine tkZ 18 ?_; refine tkZ 19 ?_; refine tkZ 20 ?_; refine tkZ 21 ?_
 refine tkO 12 (fun K hK => ?_)
 refine oper_call2 34 19 27 _ rfl _ _ rfl rfl (enters_of Tryz.func34 (by kernel_rfl) rfl) ?_
 refine (HEv.out _ (Below.refl _ _).drew).mono ?_
 rintro e W2 ⟨v2, rfl, hO2, hF⟩
 obtain ⟨A2, c2, rfl, s2⟩ := hO2.sl
 have h2c : E.length ≤ c2 := s2.1
 have i2 : (x.at_ : Int) ≤ (c2 : Int) := by omega
 have S2 := Lib.hid s2
 have hF2 := below_on (Below.refl w.heap.size w).drew (Nat.le_refl _) hF
 refine ⟨_, rfl, ?_⟩
 clear hF hO2 s2
 refine hK.out _ _ (HS.out _ hF2) (fun hH => ?_)
 clear hK K
 try simp only [Act.put, uA, uZ, uS, vA, vZ, vS]
 refine tkZ 13 ?_; refine tkZ 22 ?_
 refine tkL (fun K hK => ?_)
 go_simp
 refine hK.out _ _ ?_
 clear hK K
 try simp only [Act.put, uA, uZ, uS, vA, vZ, vS]
 refine tkD ?_
 have d2' := (HS.out _ hF2).2.2.2
 have c1' := (HS.out _ hF2).2.1
 have HF2 := Lib.hid hF2
 have hsb : IntKind.i64.wrap ((E.length : Int) - (x.at_ : Int)) = (E.length : Int) - (x.at_ : Int) := by rw [IntKind.wrap_i64]; omega
 have hsw : wrap64 ((E.length : Int) - (x.at_ : Int)) = (E.length : Int) - (x.at_ : Int) := by rw [← IntWalk.i64_left]; exact hsb
 obtain ⟨gb, cap', cur, hv, -, hh, -⟩ := (hfz W2 hF2).form (Nat.lt_of_le_of_lt (Nat.zero_le _) hlm)
 injection hv with q1 q2 q3
 injection q1 with q1
 injection q1 with q1 q4
 subst q1
 have pf := frozen_of_row W2 b (i * 3 + 2) _ _ hh
 obtain ⟨hD2, hG2⟩ := HTn.out W2 hF2
 have HD2 := Lib.hid hD2
 have HG2 := Lib.hid ((Gr.of_below hF2 (fun j => (Value.slice (some ⟨b, 0, none⟩) Rs.length cR).ownBlock = some j)).after hG2)
 have b1 : decide (n < 0) = false := decide_eq_false (by omega)
 clear hF2 S2 HEv hh hfz hD2 hG2 HTn q2 q3
 cases bk with
 | false =>
  rw [if_neg (by decide)] at hm
  have b2 : decide ((E.length : Int) - (x.at_ : Int) < n) = false := decide_eq_false (by omega)
  have w1 : IntKind.i64.wrap ((x.at_ : Int) + n) = (m : Int) := by rw [IntKind.wrap_i64]; omega
  have w2 : wrap64 ((x.at_ : Int) + n) = (m : Int) := by rw [← IntWalk.i64_left]; exact w1
  clear hm
  go_wp2
  go_ret
  exact ⟨rfl, HD2.out, HG2.out⟩
 | true =>
  rw [if_pos rfl] at hm
  have b2 : decide ((x.at_ : Int) < n) = false := decide_eq_false (by omega)
  have w0 : IntKind.i64.wrap (-n) = -n := by unfold R64 at hr; rw [IntKind.wrap_i64]; omega
  have w3 : wrap64 (-n) = -n := by rw [← IntWalk.i64_left]; exact w0
  have w1 : IntKind.i64.wrap ((x.at_ : Int) + -n) = (m : Int) := by rw [IntKind.wrap_i64]; omega
  have w2 : wrap64 ((x.at_ : Int) + -n) = (m : Int) := by rw [← IntWalk.i64_left]; exact w1
  clear hm
  go_wp2
  go_ret
  exact ⟨rfl, HD2.out, HG2.out⟩
end Go.Proofs.YtampniiehgimhaaGreat
