/- Texts of this claim, laid together. -/
import Derived.Test.YtampniiehgimhaaGreatRows
import Derived.Test.YtampniiehgimhaaGreatBs27
import Derived.Test.YtampniiehgimhaaGreatBs3
import Derived.WalkKit
import Derived.WalkSpells
import Derived.WalkLawsBesides
import Derived.Deep.QuietTactic
import Derived.BigQuiet
import Derived.Laws.StructEq
import Derived.Deep.DeepFit
import Derived.StillTailTactics
import Derived.Test.YtampniiehgimhaaGreatBs9
import Derived.Test.YtampniiehgimhaaGreatBs13
import Derived.Test.YtampniiehgimhaaGreatBs26
import Derived.Deep.Cut
import Derived.Test.YtampniiehgimhaaGreatBs4
import Derived.Test.YtampniiehgimhaaGreatBs5
import Derived.Test.YtampniiehgimhaaGreatBs22
import Derived.Test.YtampniiehgimhaaGreatBs24
import Derived.Test.YtampniiehgimhaaGreatBs2
import Derived.Deep.RegionHeld3

/- stream: readers -/
namespace Go.Proofs.YtampniiehgimhaaGreat
open Go.RowKit
/-- stream.Read -/
def sreadE (R : List Rx) (k a : ByteArray) : Int := if nameB k = false ∨ nameB a = false then 1 else if (getRd R k).isSome then 7 else if R.length = 10 then 5 else 0
section
variable {base : Nat} {d : DA} {B : Bk} {T : EvT} {R : List Rx}
set_option maxRecDepth 100000 in
set_option maxHeartbeats 8000000 in
theorem sread_c (k a : ByteArray) (w : World) (h : DkA w base d B T R) (hB : base ≤ w.heap.size) : Calls Tryz.prog 22 #[d.ptr, .string k, .string a] w fun e w' => ∃ R2, e = .returned (i64 (sreadE R k a)) ∧ DkA w' base d B T R2 ∧ Gr w w' (d.all T R) ∧ (sreadE R k a ≠ 0 → R2 = R) ∧ (sreadE R k a = 0 → ∃ g, R2 = R ++ [⟨k, g, a, 0⟩] ∧ w.heap.size ≤ g) := by
 have H := Lib.hid h
 have HN := Lib.hid (name_b k w)
 cases hk : nameB k
 ·have HE := Lib.hid (show sreadE R k a = 1 by unfold sreadE; rw [if_pos (.inl hk)])
  rw [hk] at HN
  clear hk h
  go_enter Tryz.func22, Tryz.ntmps22
  go_wp2_with fail
  refine HN.out.mono ?_
  rintro e w1 ⟨rfl, hF⟩
  clear HN
  go_wp2
  go_ret
  exact ⟨R, by rw [HE.out]; rfl, H.out.later hF, Gr.of_below hF _, fun _ => rfl, fun e => by rw [HE.out] at e; cases e⟩
 rw [hk] at HN
 have HN2 := Lib.hid (fun W => name_b a W)
 cases ha : nameB a
 ·have HE := Lib.hid (show sreadE R k a = 1 by unfold sreadE; rw [if_pos (.inr ha)])
  rw [ha] at HN2
  clear hk h ha
  go_enter Tryz.func22, Tryz.ntmps22
  go_wp2_with fail
  refine HN.out.mono ?_
  rintro e w1 ⟨rfl, hF⟩
  clear HN
  go_wp2_with fail
  refine (HN2.out _).mono ?_
  rintro e w2 ⟨rfl, hF2⟩
  have hb := below_on hF (Nat.le_refl _) hF2
  clear HN2 hF hF2
  go_wp2
  go_ret
  exact ⟨R, by rw [HE.out]; rfl, H.out.later hb, Gr.of_below hb _, fun _ => rfl, fun e => by rw [HE.out] at e; cases e⟩
 rw [ha] at HN2
 have HE := Lib.hid (show sreadE R k a = if (getRd R k).isSome then 7 else if R.length = 10 then 5 else 0 by unfold sreadE; rw [if_neg (by rw [hk, ha]; simp)])
 clear hk h ha
 go_enter Tryz.func22, Tryz.ntmps22
 go_wp2_with fail
 refine HN.out.mono ?_
 rintro e w1 ⟨rfl, hF⟩
 clear HN
 go_wp2_with fail
 refine (HN2.out _).mono ?_
 rintro e w2 ⟨rfl, hF2⟩
 have hb := below_on hF (Nat.le_refl _) hF2
 clear HN2 hF hF2
 have hK := H.out.later hb
 have hsz := hb.size
 have c2 := hK.c2
 have hlk := hK.find k
 cases hg : getRd R k with
 | some r =>
  rw [hg] at hlk
  change (Instr.lookup 150 (.map (some d.br)) (.string k) false).run Tryz.prog w2 = .ok r.ptr w2 at hlk
  have HE2 := Lib.hid (show sreadE R k a = 7 by rw [HE.out, hg]; rfl)
  have HK := Lib.hid hK
  clear HE hg hK
  go_wp2
  go_ret
  exact ⟨R, by rw [HE2.out]; rfl, HK.out, Gr.of_below hb _, fun _ => rfl, fun e => by rw [HE2.out] at e; cases e⟩
 | none =>
  rw [hg] at hlk
  change (Instr.lookup 150 (.map (some d.br)) (.string k) false).run Tryz.prog w2 = .ok (.pointer none) w2 at hlk
  have hlen := fun ty => run_lenM (P := Tryz.prog) Tryz.underlying150 hK.rd.map ty
  rw [show (rdEnts R).length = R.length from List.length_map ..] at hlen
  have HE1 := Lib.hid (show sreadE R k a = if R.length = 10 then 5 else 0 by rw [HE.out, hg]; rfl)
  have Hg := Lib.hid hg
  clear HE hg
  by_cases h10 : R.length = 10
  ·have g2 : ((R.length : Int) == 10) = true := by rw [beq_iff_eq]; omega
   have HE2 := Lib.hid (show sreadE R k a = 5 by rw [HE1.out, if_pos h10])
   have HK := Lib.hid hK
   clear HE1 h10 hK
   go_wp2
   go_ret
   exact ⟨R, by rw [HE2.out]; rfl, HK.out, Gr.of_below hb _, fun _ => rfl, fun e => by rw [HE2.out] at e; cases e⟩
  ·have g2 : ((R.length : Int) == 10) = false := by rw [beq_eq_false_iff_ne]; omega
   have HE2 := Lib.hid (show sreadE R k a = 0 by rw [HE1.out, if_neg h10])
   have hK2 := hK.later ((Below.refl w2.heap.size w2).alloc (Nat.le_refl _) (.cells #[.string a, i64 0] 158))
   obtain ⟨w5, hrun, hm5, hg5⟩ := run_put (P := Tryz.prog) strKey Tryz.underlying150 hK2.rd.map k (.pointer (some ⟨w2.heap.size, 0, none⟩))
   have HF := Lib.hid (hK.reader k a (Nat.le_trans hB hsz) Hg.out hm5 hg5)
   have hlk2 := hK2.c2
   clear HE1 h10 hK hK2 hm5 hg5
   go_wp2
   go_ret
   obtain ⟨hK5, hG5⟩ := HF.out
   exact ⟨_, by rw [HE2.out]; rfl, hK5, (Gr.of_below hb _).after hG5, fun e => absurd HE2.out e, fun _ => ⟨_, rfl, hsz⟩⟩
theorem drop_len (l : List Ev) (n : Nat) : l.length - n = (l.drop n).length := (List.length_drop ..).symm
set_option maxRecDepth 100000 in
set_option maxHeartbeats 8000000 in
theorem spoll_c (k : ByteArray) (n : Int) (r : Rx) (w : World) (h : DkA w base d B T R) (hr : getRd R k = some r) (ha : r.at_ ≤ (T.get r.acct).length) (hn : (T.get r.acct).length ≤ 65536) :
  Calls Tryz.prog 24 #[d.ptr, .string k, i64 n] w fun e w' => ∃ v, e = .returned (.tuple #[v, i64 0]) ∧ Own w' w.heap.size 148 v (((T.get r.acct).drop r.at_).take (min (max n 0) (((T.get r.acct).drop r.at_).length : Int)).toNat) ∧ Below w.heap.size w w' := by
 have HG := Lib.hid (sget_c k r w h hr ha)
 rw [drop_len] at HG
 have hL : ((T.get r.acct).drop r.at_).length ≤ 65536 := by rw [List.length_drop]; omega
 clear h hr ha hn
 generalize (T.get r.acct).drop r.at_ = L at *
 go_enter Tryz.func24, Tryz.ntmps24
 go_wp2_with fail
 refine HG.out.mono ?_
 rintro e w1 ⟨A, c, rfl, hs, hF⟩
 have hc : L.length ≤ c := hs.1
 have m0 : (0 : Int) ≤ min (max n 0) (L.length : Int) := by omega
 have m1 : min (max n 0) (L.length : Int) ≤ (c : Int) := by omega
 have HC := Lib.hid (clone_ev A c (L.take (min (max n 0) (L.length : Int)).toNat) w1 (hs.take _) (by rw [List.length_take]; omega))
 rw [show (L.take (min (max n 0) (L.length : Int)).toNat).length = (min (max n 0) (L.length : Int)).toNat by rw [List.length_take]; omega] at HC
 clear hs HG
 go_wp2_with fail
 refine HC.out.mono ?_
 rintro e w2 ⟨v, rfl, hO, hF2⟩
 have hb := below_on hF (Nat.le_refl _) hF2
 have HO := Lib.hid (hO.mono hF.size)
 clear hO HC hF hF2
 go_wp2
 go_ret2
 exact ⟨v, rfl, HO.out, hb⟩
set_option maxRecDepth 100000 in
set_option maxHeartbeats 4000000 in
theorem stake_no (k : ByteArray) (n : Int) (w : World) (h : DkA w base d B T R) (hr : getRd R k = none) : Calls Tryz.prog 28 #[d.ptr, .string k, i64 n] w fun e w' => e = .returned (i64 6) ∧ w = w' := by
 have HG := Lib.hid (sget_no k w h hr)
 go_enter Tryz.func28, Tryz.ntmps28
 go_wp2_with fail
 refine HG.out.mono ?_
 rintro e w1 ⟨rfl, rfl⟩
 go_wp2
 go_ret
 exact ⟨rfl, rfl⟩
set_option maxRecDepth 100000 in
set_option maxHeartbeats 4000000 in
theorem sback_no (k : ByteArray) (n : Int) (w : World) (h : DkA w base d B T R) (hr : getRd R k = none) : Calls Tryz.prog 30 #[d.ptr, .string k, i64 n] w fun e w' => e = .returned (i64 6) ∧ w = w' := by
 have HG := Lib.hid (sget_no k w h hr)
 go_enter Tryz.func30, Tryz.ntmps30
 go_wp2_with fail
 refine HG.out.mono ?_
 rintro e w1 ⟨rfl, rfl⟩
 go_wp2
 go_ret
 exact ⟨rfl, rfl⟩
set_option maxRecDepth 100000 in
set_option maxHeartbeats 4000000 in
theorem stake_bad (k : ByteArray) (n : Int) (r : Rx) (w : World) (h : DkA w base d B T R) (hr : getRd R k = some r) (ha : r.at_ ≤ (T.get r.acct).length) (hb : n < 0 ∨ (((T.get r.acct).drop r.at_).length : Int) < n) :
  Calls Tryz.prog 28 #[d.ptr, .string k, i64 n] w fun e w' => e = .returned (i64 13) ∧ Below w.heap.size w w' := by
 have HG := Lib.hid (sget_c k r w h hr ha)
 rw [drop_len] at HG
 clear h hr ha
 generalize (T.get r.acct).drop r.at_ = L at *
 by_cases h0 : n < 0
 ·have g0 : decide (n < 0) = true := decide_eq_true h0
  go_enter Tryz.func28, Tryz.ntmps28
  go_wp2_with fail
  refine HG.out.mono ?_
  rintro e w1 ⟨A, c, rfl, -, hF⟩
  clear HG
  go_wp2
  go_ret
  exact ⟨rfl, hF⟩
 ·have g0 : decide (n < 0) = false := decide_eq_false h0
  have h1 : (L.length : Int) < n := by omega
  have g1 : decide (n > (L.length : Int)) = true := decide_eq_true h1
  have g2 : decide ((L.length : Int) < n) = true := decide_eq_true h1
  go_enter Tryz.func28, Tryz.ntmps28
  go_wp2_with fail
  refine HG.out.mono ?_
  rintro e w1 ⟨A, c, rfl, -, hF⟩
  clear HG
  go_wp2
  go_ret
  exact ⟨rfl, hF⟩
set_option maxRecDepth 100000 in
set_option maxHeartbeats 4000000 in
theorem sback_bad (k : ByteArray) (n : Int) (r : Rx) (w : World) (h : DkA w base d B T R) (hr : getRd R k = some r) (ha : r.at_ ≤ (T.get r.acct).length) (hb : n < 0 ∨ (r.at_ : Int) < n) :
  Calls Tryz.prog 30 #[d.ptr, .string k, i64 n] w fun e w' => e = .returned (i64 13) ∧ Below w.heap.size w w' := by
 have HG := Lib.hid (sget_c k r w h hr ha)
 have hcell := h.rd.cell r (getRd_mem hr).1
 clear h hr ha
 by_cases h0 : n < 0
 ·have g0 : decide (n < 0) = true := decide_eq_true h0
  go_enter Tryz.func30, Tryz.ntmps30
  go_wp2_with fail
  refine HG.out.mono ?_
  rintro e w1 ⟨A, c, rfl, -, hF⟩
  clear HG
  go_wp2
  go_ret
  exact ⟨rfl, hF⟩
 ·have g0 : decide (n < 0) = false := decide_eq_false h0
  have h1 : (r.at_ : Int) < n := by omega
  have g1 : decide (n > (r.at_ : Int)) = true := decide_eq_true h1
  have g2 : decide ((r.at_ : Int) < n) = true := decide_eq_true h1
  go_enter Tryz.func30, Tryz.ntmps30
  go_wp2_with fail
  refine HG.out.mono ?_
  rintro e w1 ⟨A, c, rfl, -, hF⟩
  have hcell1 := (hF.block _ (Array.getElem?_eq_some_iff.1 hcell).1).trans hcell
  have r1 := cell_of_row _ r.blk 1 _ _ (0, 0) hcell1
  simp only [List.getElem?_toArray, List.getElem?_cons_zero, List.getElem?_cons_succ] at r1
  clear HG hcell hcell1
  go_wp2
  go_ret
  exact ⟨rfl, hF⟩
set_option maxRecDepth 100000 in
set_option maxHeartbeats 4000000 in
theorem stake_c (k : ByteArray) (n : Nat) (r : Rx) (w : World) (h : DkA w base d B T R) (hr : getRd R k = some r) (ha : r.at_ ≤ (T.get r.acct).length) (hl : (T.get r.acct).length ≤ 65536) (hn : n ≤ ((T.get r.acct).drop r.at_).length) :
  Calls Tryz.prog 28 #[d.ptr, .string k, i64 n] w fun e w' => e = .returned (i64 0) ∧ DkA w' base d B T (setRd R k (r.at_ + n)) ∧ Gr w w' (d.all T R) := by
 have HG := Lib.hid (sget_c k r w h hr ha)
 rw [drop_len] at HG
 have H := Lib.hid h
 have Hr := Lib.hid hr
 have hs : r.at_ + n ≤ 65536 := by rw [List.length_drop] at hn; omega
 clear h hr ha hl
 generalize hLL : (T.get r.acct).drop r.at_ = L at *
 clear hLL
 have g0 : decide ((n : Int) < 0) = false := decide_eq_false (by omega)
 have g1 : decide ((n : Int) > (L.length : Int)) = false := decide_eq_false (by omega)
 have g2 : decide ((L.length : Int) < (n : Int)) = false := decide_eq_false (by omega)
 have g3 : decide (L.length < n) = false := decide_eq_false (by omega)
 go_enter Tryz.func28, Tryz.ntmps28
 go_wp2_with fail
 refine HG.out.mono ?_
 rintro e w1 ⟨A, c, rfl, -, hF⟩
 have hK := H.out.later hF
 have hcell := hK.rd.cell r (getRd_mem Hr.out).1
 have r1 := cell_of_row _ r.blk 1 _ _ (0, 0) hcell
 have hfr : w1.frozen? ⟨r.blk, 1, none⟩ = false := frozen_of_row _ r.blk 1 _ _ hcell
 simp only [List.getElem?_toArray, List.getElem?_cons_zero, List.getElem?_cons_succ] at r1
 have HT := Lib.hid (hK.take Hr.out (r.at_ + n))
 have hG0 := Gr.of_below hF (d.all T R)
 clear HG hcell hK hF
 go_wp2
 go_ret
 obtain ⟨t1, t2⟩ := HT.out
 rw [show ((r.at_ + n : Nat) : Int) = (r.at_ : Int) + (n : Int) by omega] at t1 t2
 exact ⟨rfl, t1, hG0.after t2⟩
set_option maxRecDepth 100000 in
set_option maxHeartbeats 4000000 in
theorem sback_c (k : ByteArray) (n : Nat) (r : Rx) (w : World) (h : DkA w base d B T R) (hr : getRd R k = some r) (ha : r.at_ ≤ (T.get r.acct).length) (hl : (T.get r.acct).length ≤ 65536) (hn : n ≤ r.at_) :
  Calls Tryz.prog 30 #[d.ptr, .string k, i64 n] w fun e w' => e = .returned (i64 0) ∧ DkA w' base d B T (setRd R k (r.at_ - n)) ∧ Gr w w' (d.all T R) := by
 have HG := Lib.hid (sget_c k r w h hr ha)
 have H := Lib.hid h
 have Hr := Lib.hid hr
 have hs : r.at_ ≤ 65536 := by omega
 clear h hr ha hl
 have g0 : decide ((n : Int) < 0) = false := decide_eq_false (by omega)
 have g1 : decide ((n : Int) > (r.at_ : Int)) = false := decide_eq_false (by omega)
 have g2 : decide ((r.at_ : Int) < (n : Int)) = false := decide_eq_false (by omega)
 have g3 : decide (r.at_ < n) = false := decide_eq_false (by omega)
 go_enter Tryz.func30, Tryz.ntmps30
 go_wp2_with fail
 refine HG.out.mono ?_
 rintro e w1 ⟨A, c, rfl, -, hF⟩
 have hK := H.out.later hF
 have hcell := hK.rd.cell r (getRd_mem Hr.out).1
 have r1 := cell_of_row _ r.blk 1 _ _ (0, 0) hcell
 have hfr : w1.frozen? ⟨r.blk, 1, none⟩ = false := frozen_of_row _ r.blk 1 _ _ hcell
 simp only [List.getElem?_toArray, List.getElem?_cons_zero, List.getElem?_cons_succ] at r1
 have HT := Lib.hid (hK.take Hr.out (r.at_ - n))
 have hG0 := Gr.of_below hF (d.all T R)
 clear HG hcell hK hF
 go_wp2
 go_ret
 obtain ⟨t1, t2⟩ := HT.out
 rw [show ((r.at_ - n : Nat) : Int) = (r.at_ : Int) - (n : Int) by omega] at t1 t2
 exact ⟨rfl, t1, hG0.after t2⟩
end
end Go.Proofs.YtampniiehgimhaaGreat
/- ref12.Same, law12.as -/
namespace Go.Proofs.YtampniiehgimhaaGreat
open Go.RowKit
theorem Ev.ext_ {a b : Ev} (h1 : a.client = b.client) (h2 : a.seq = b.seq) (h3 : a.kind = b.kind) (h4 : a.hav = b.hav) (h5 : a.set_ = b.set_) : a = b := by cases a; cases b; simp_all
theorem neq_ev (a b : Ev) (w : World) : (binOp .neq 162 (.agg #[i64 a.client, i64 a.seq, i64 a.kind, i64 a.hav, i64 a.set_]) (.agg #[i64 b.client, i64 b.seq, i64 b.kind, i64 b.hav, i64 b.set_])).run Tryz.prog w = .ok (.bool (!decide (a = b))) w := by
 have u3 := Tryz.underlying2
 have a3 := Tryz.isAgg2
 have z3 := Tryz.sizeOf2
 have u4 := Tryz.underlying3
 have a4 := Tryz.isAgg3
 have z4 := Tryz.sizeOf3
 have u5 := Tryz.underlying34
 have hS : Tryz.prog.underlying 162 = some (.struct (Tryz.prog.fieldsOf 162)) := by kernel_rfl
 have hp : Tryz.prog.stoodInHeld 162 = false := by kernel_rfl
 have hS2 : Tryz.prog.underlying 34 = some (.struct (Tryz.prog.fieldsOf 34)) := by kernel_rfl
 have hp2 : Tryz.prog.stoodInHeld 34 = false := by kernel_rfl
 rw [run_neq_struct, show (10000 : Nat) = 9999 + 1 from rfl, run_equalIn_agg w 9999 162 _ _ hS hp]
 simp only [Program.fieldsOf, Tryz.underlying162]
 go_simp
 by_cases h1 : a.client = b.client
 ·by_cases h2 : a.seq = b.seq
  ·by_cases h3 : a.kind = b.kind
   ·by_cases h4 : a.hav = b.hav
    ·by_cases h5 : a.set_ = b.set_
     ·rw [decide_eq_true (Ev.ext_ h1 h2 h3 h4 h5)]; simp [h1, h2, h3, h4, h5]
     ·rw [decide_eq_false (fun e => h5 (by rw [e]))]; simp [h1, h2, h3, h4, h5]
    ·rw [decide_eq_false (fun e => h4 (by rw [e]))]; simp [h1, h2, h3, h4]
   ·rw [decide_eq_false (fun e => h3 (by rw [e]))]; simp [h1, h2, h3]
  ·rw [decide_eq_false (fun e => h2 (by rw [e]))]; simp [h1, h2]
 ·rw [decide_eq_false (fun e => h1 (by rw [e]))]; simp [h1]
theorem SlS.ev {w : World} {S : Nat → Prop} {c : Nat} {A : Option Addr} {l : List Ev} (h : SlS w S A c l) {k : Nat} (hk : k < l.length) : ∃ b o, A = some ⟨b, o, none⟩ ∧ S b ∧
  w.cell? ⟨b, o + k * 5, none⟩ = some (i64 l[k].client) ∧ w.cell? ⟨b, o + k * 5 + 1, none⟩ = some (i64 l[k].seq) ∧ w.cell? ⟨b, o + k * 5 + 2, none⟩ = some (i64 l[k].kind) ∧ w.cell? ⟨b, o + k * 5 + 3, none⟩ = some (i64 l[k].hav) ∧ w.cell? ⟨b, o + k * 5 + 4, none⟩ = some (i64 l[k].set_) := by
 obtain ⟨b, o, hA, hb, _, hc⟩ := h.at_ hk
 exact ⟨b, o, hA, hb, hc 0 _ rfl, hc 1 _ rfl, hc 2 _ rfl, hc 3 _ rfl, hc 4 _ rfl⟩
theorem quiet12 (w : World) (n : Nat) : Below w.heap.size w (w.drewN n) := below_drewN (Below.refl _ _) n
set_option maxRecDepth 100000 in
set_option maxHeartbeats 4000000 in
theorem same12_c (S T : Nat → Prop) (A B : Option Addr) (c d : Nat) (x y : List Ev) (w : World) (hx : SlS w S A c x) (hy : SlS w T B d y) :
  Calls Tryz.prog 26 #[.slice A x.length c, .slice B y.length d] w fun e w' => e = .returned (.bool (decide (x = y))) ∧ Below w.heap.size w w' := by
 have Hx := Lib.hid hx
 have Hy := Lib.hid hy
 have hxc : x.length ≤ c := hx.1
 have hyd : y.length ≤ d := hy.1
 have hxm : x.length ≤ 9223372036854775807 := hx.len_le
 clear hx hy
 by_cases hl : x.length = y.length
 ·have q0 : ((x.length : Int) != (y.length : Int)) = false := by rw [hl]; simp
  have Hl := Lib.hid hl
  clear hl
  go_enter Tryz.func26, Tryz.ntmps26
  go_wp2
  go_loopw [5] (fun i wr => ∃ (j m : Nat), i = i64 j ∧ j ≤ x.length ∧ x.take j = y.take j ∧ wr = w.drewN m) (fun i _ => x.length - (intOf i).toNat)
  case atStart => exact ⟨0, 0, rfl, by omega, rfl, rfl⟩
  case round =>
   obtain ⟨j, m, rfl, hj, ht, rfl⟩ := hrel
   have HT := Lib.hid ht
   clear ht
   by_cases hlt : j < x.length
   ·have hltm : j < y.length := by have := Hl.out; omega
    obtain ⟨b, o, hA, hb, c0, c1, c2, c3, c4⟩ := Hx.out.ev hlt
    obtain ⟨b', o', hA', hb', c0', c1', c2', c3', c4'⟩ := Hy.out.ev hltm
    subst hA hA'
    have he := fun W : World => neq_ev x[j] y[j] W
    by_cases heq : x[j] = y[j]
    ·simp only [decide_eq_true heq, Bool.not_true] at he
     have Heq := Lib.hid heq
     clear heq
     go_wp2
     go_quiet (fail)
     go_wp2
     go_roundw
     case rel => exact ⟨j + 1, m + _, by go_num, by omega, by rw [List.take_succ_eq_append_getElem hlt, List.take_succ_eq_append_getElem hltm, HT.out, Heq.out], rfl⟩
     case measure => simp [intOf]; omega
    ·simp only [decide_eq_false heq, Bool.not_false] at he
     have Heq := Lib.hid heq
     clear heq
     go_wp2
     go_quiet (fail)
     go_wp2
     go_ret
     refine ⟨?_, below_drewN (quiet12 _ _) _⟩
     rw [decide_eq_false (show ¬ x = y from fun e => Heq.out (by simp only [e]))]
     rfl
   ·obtain rfl : j = x.length := by omega
    go_wp2
    go_ret
    refine ⟨?_, quiet12 _ _⟩
    rw [decide_eq_true (show x = y by
     have := HT.out
     rwa [List.take_length, List.take_of_length_le (by have := Hl.out; omega)] at this)]
    rfl
 ·have q0 : ((x.length : Int) != (y.length : Int)) = true := by rw [bne_iff_ne]; omega
  have Hs := Lib.hid (show decide (x = y) = false from decide_eq_false fun e => hl (by rw [e]))
  clear hl
  go_enter Tryz.func26, Tryz.ntmps26
  go_wp2
  go_ret
  exact ⟨by rw [Hs.out]; rfl, Below.refl _ _⟩
theorem inf12 : (Tryz.prog.info? 162).map (fun i => (i.zero, i.size, i.bytes)) = some (some (.agg #[i64 0, i64 0, i64 0, i64 0, i64 0]), Enc.size Ev, 40) := by kernel_rfl
set_option maxRecDepth 100000 in
set_option maxHeartbeats 8000000 in
theorem as12_c (A : Option Addr) (c : Nat) (l : List Ev) (w : World) (h : Sl w w.heap.size A c l) (hn : l.length ≤ 65536) :
  Calls Tryz.prog 27 #[.slice A l.length c] w fun e w' => ∃ v, e = .returned v ∧ Own w' w.heap.size 162 v l ∧ Below w.heap.size w w' := by
 have H := Lib.hid h
 have hlc : l.length ≤ c := h.1
 clear h
 go_enter Tryz.func27, Tryz.ntmps27
 go_wp2
 go_loopw [3, 4] (fun rv iv wr => ∃ n : Nat, iv = i64 n ∧ n ≤ l.length ∧ Own wr w.heap.size 162 rv (l.take n) ∧ Below w.heap.size w wr) (fun _ iv _ => l.length - (intOf iv).toNat)
 case atStart => exact ⟨0, rfl, Nat.zero_le _, Own.nil_ _ _ _, Below.refl _ _⟩
 case round =>
  obtain ⟨n, rfl, hnl, hO, hb⟩ := hrel
  have hbs := hb.size
  by_cases hlt : n < l.length
  ·have g1 : decide ((n : Int) < (l.length : Int)) = true := decide_eq_true (by omega)
   have g2 : decide (n < l.length) = true := decide_eq_true hlt
   have i0 : (0 : Int) ≤ (n : Int) := by omega
   have i1 : (n : Int) < (l.length : Int) := by omega
   have Hcell := Lib.hid (fun V (hV : Below w.heap.size w V) => (H.out.below hV).ev hlt)
   obtain ⟨b, o, rfl, hbb, -⟩ := Hcell.out w (Below.refl _ _)
   have Htk := Lib.hid (show l.take (n + 1) = l.take n ++ [l[n]] from List.take_succ_eq_append_getElem hlt)
   have Hlen := Lib.hid (show (l.take n).length + 1 ≤ 4294967296 by rw [List.length_take]; omega)
   obtain ⟨x, hx⟩ : ∃ x, l[n] = x := ⟨_, rfl⟩
   simp only [hx] at Hcell Htk
   have HS : Hid (∀ V, Below w.heap.size w V → (fun V : World => Below w.heap.size w V ∧ V.cell? ⟨b, o + n * 5, none⟩ = some (i64 x.client) ∧ V.cell? ⟨b, o + n * 5 + 1, none⟩ = some (i64 x.seq) ∧ V.cell? ⟨b, o + n * 5 + 2, none⟩ = some (i64 x.kind) ∧ V.cell? ⟨b, o + n * 5 + 3, none⟩ = some (i64 x.hav) ∧ V.cell? ⟨b, o + n * 5 + 4, none⟩ = some (i64 x.set_)) V) := Lib.hid fun V hV => by
    obtain ⟨b2, o2, e, -, h2⟩ := Hcell.out V hV
    injection e with e
    injection e with e1 e2
    subst e1 e2
    exact ⟨hV, h2⟩
   have HO := Lib.hid hO
   clear hO hx Hcell
   go_upto_region 5 with fail
   refine wp_region_noPanic ?_
   refine wp_region_l 24 (fun V : World => Below w.heap.size w V ∧ V.cell? ⟨b, o + n * 5, none⟩ = some (i64 x.client) ∧ V.cell? ⟨b, o + n * 5 + 1, none⟩ = some (i64 x.seq) ∧ V.cell? ⟨b, o + n * 5 + 2, none⟩ = some (i64 x.kind) ∧ V.cell? ⟨b, o + n * 5 + 3, none⟩ = some (i64 x.hav) ∧ V.cell? ⟨b, o + n * 5 + 4, none⟩ = some (i64 x.set_)) (by kernel_rfl) (HS.out _ ((hb.trans ((Below.refl _ _).drew.mono hbs)))) (fun hH => ?_)
   have hbd := (Below.refl wr.heap.size wr).drew
   generalize wr.drew = Wd at *
   refine tkZ 0 ?_; refine tkZ 1 ?_; refine tkZ 2 ?_; refine tkZ 3 ?_; refine tkZ 4 ?_; refine tkZ 5 ?_; refine tkZ 6 ?_; refine tkZ 7 ?_; refine tkZ 8 ?_; refine tkZ 9 ?_; refine tkZ 10 ?_; refine tkZ 11 ?_; refine tkZ 12 ?_; refine tkZ 13 ?_; refine tkZ 14 ?_; refine tkZ 15 ?_; refine tkZ 16 ?_; refine tkZ 17 ?_; refine tkZ 18 ?_; refine tkZ 19 ?_; refine tkZ 20 ?_; refine tkZ 21 ?_
   refine tkO 22 (fun K hK => ?_)
   go_simp
   have hgl := heap_alloc_new Wd (.cells #[i64 x.client, i64 x.seq, i64 x.kind, i64 x.hav, i64 x.set_] 162)
   have hb1 := (hb.trans (hbd.mono hbs)).alloc (Nat.le_trans hbs hbd.size) (.cells #[i64 x.client, i64 x.seq, i64 x.kind, i64 x.hav, i64 x.set_] 162)
   have HOv := Lib.hid ((HO.out.later hbd).later ((Below.refl Wd.heap.size Wd).alloc (Nat.le_refl _) (.cells #[i64 x.client, i64 x.seq, i64 x.kind, i64 x.hav, i64 x.set_] 162)))
   refine hK.out _ _ (HS.out _ hb1) (fun hH => ?_)
   clear hK K
   try simp only [Act.put, uA, uZ, uS, vA, vZ, vS]
   refine tkO 23 (fun K hK => ?_)
   refine oper_append_one (.tmp 11) (.tmp 33) 61 rfl _ 40 Tryz.underlying61 inf12 rfl (by decide) (by decide) rfl HOv.out Wd.heap.size x rfl _ 162 hgl rfl (fun e => by have := (HO.out.1.lt _ e.symm).2; have h2 := hbd.size; omega) trivial Hlen.out hb1.size ?_
   intro v6 w6 hO6 hg6 hat6
   have hb6 := hb1.trans (HOv.out.below hg6 (Nat.le_refl _) hb1.size)
   have HO6 := Lib.hid hO6
   clear hO6 hg6 hat6
   refine hK.out _ _ (HS.out _ hb6) (fun hH => ?_)
   clear hK K
   try simp only [Act.put, uA, uZ, uS, vA, vZ, vS]
   refine tkL (fun K hK => ?_)
   go_simp
   refine hK.out _ _ ?_
   clear hK K
   try simp only [Act.put, uA, uZ, uS, vA, vZ, vS]
   refine tkD ?_
   clear hH HS
   go_wp2
   go_roundw
   case rel => exact ⟨n + 1, by go_num, by omega, by rw [Htk.out]; exact HO6.out, hb6⟩
   case measure => simp [intOf]; omega
  ·obtain rfl : n = l.length := by omega
   have g1 : decide ((l.length : Int) < (l.length : Int)) = false := decide_eq_false (by omega)
   rw [List.take_length] at hO
   have HO := Lib.hid hO
   clear hO
   go_wp2
   go_ret
   exact ⟨_, rfl, HO.out, hb⟩
end Go.Proofs.YtampniiehgimhaaGreat
/- law12.lives -/
namespace Go.Proofs.YtampniiehgimhaaGreat
open Go.RowKit
abbrev tMe : ByteArray := ⟨#[109, 101]⟩
theorem l12_1 : doL bk0 (askK 1 1 tA 5) = (⟨0, 0, 0, 0⟩, ⟨[⟨tA, 0, 0, 5⟩], [], 0⟩) := by kernel_rfl
theorem l12_2 : doL ⟨[⟨tA, 0, 0, 5⟩], [], 0⟩ (askK 2 3 tA 3) = (⟨0, 0, 3, 2⟩, ⟨[⟨tA, 0, 3, 5⟩], [⟨2, tA, 3⟩], 0⟩) := by kernel_rfl
theorem l12_e1 : evD bk0 (askK 1 1 tA 5) tA = [⟨0, 1, 1, 0, 0⟩] := by kernel_rfl
theorem l12_e2 : evD ⟨[⟨tA, 0, 0, 5⟩], [], 0⟩ (askK 2 3 tA 3) tA = [⟨0, 2, 3, 0, 3⟩] := by kernel_rfl
theorem l12_r : sreadE [] tMe tA = 0 := by kernel_rfl
theorem eq_evS (W : World) : (binOp .eql 148 (.agg #[i64 0, i64 2, i64 3, i64 0, i64 3]) (.agg #[i64 0, i64 2, i64 3, i64 0, i64 3])).run Tryz.prog W = .ok (.bool true) W := by
 have u3 := Tryz.underlying2
 have a3 := Tryz.isAgg2
 have z3 := Tryz.sizeOf2
 have u4 := Tryz.underlying3
 have a4 := Tryz.isAgg3
 have z4 := Tryz.sizeOf3
 have u5 := Tryz.underlying34
 have hS : Tryz.prog.underlying 148 = some (.struct (Tryz.prog.fieldsOf 148)) := by kernel_rfl
 have hp : Tryz.prog.stoodInHeld 148 = false := by kernel_rfl
 have hS2 : Tryz.prog.underlying 34 = some (.struct (Tryz.prog.fieldsOf 34)) := by kernel_rfl
 have hp2 : Tryz.prog.stoodInHeld 34 = false := by kernel_rfl
 rw [run_eql_struct, show (10000 : Nat) = 9999 + 1 from rfl, run_equalIn_agg W 9999 148 _ _ hS hp]
 simp only [Program.fieldsOf, Tryz.underlying148]
 go_simp
theorem evD_le {B : Bk} (hI : InvB B) (x : Od) (k : ByteArray) : (evD B x k).length ≤ 1 := by
 rw [evD_len hI]
 split <;> omega
theorem r64s (n : Int) (h : 0 ≤ n ∧ n ≤ 1000) : R64 n := by unfold R64; omega
set_option maxRecDepth 100000 in
set_option maxHeartbeats 16000000 in
theorem lives_12 (w : World) : Calls Tryz.prog 19 #[] w fun e w' => e = .returned (.bool true) ∧ Below w.heap.size w w' := by
 have hsA : tA.size ≤ maxLen := by show 1 ≤ maxLen; decide
 have H1 : Hid (∀ (d : DA) (W : World), DkA W w.heap.size d bk0 [] [] → w.heap.size ≤ W.heap.size → Calls Tryz.prog 21 #[d.ptr, .agg #[i64 0, i64 1, i64 1, .string tA, .string ⟨#[]⟩, i64 5, .slice none 0 0, i64 0, i64 0, .string ⟨#[]⟩]] W fun e w' => e = .returned (.agg #[i64 0, i64 0, i64 0, i64 0]) ∧ ∃ T, DkA w' w.heap.size d ⟨[⟨tA, 0, 0, 5⟩], [], 0⟩ T [] ∧ T.get tA = [⟨0, 1, 1, 0, 0⟩] ∧ (∀ k, (T.get k).length ≤ 1) ∧ Below w.heap.size W w') := Lib.hid fun d W hK hW =>
  (sdo_c (askK 1 1 tA 5) W hK inv_bk0 (askK_odB hsA (r64s _ (by decide)) (r64s _ (by decide)) (r64s _ (by decide))) (askK_ok _ _ _ _ hsA _ _) (Nat.zero_le _) hW (fun k => Nat.zero_le _)).mono (by
   rintro e w' ⟨rfl, T, h1, h2, h3, -⟩
   rw [l12_1] at h1 ⊢
   exact ⟨rfl, T, h1, by rw [h2, l12_e1]; rfl, fun k => by rw [h2]; exact evD_le inv_bk0 _ k, hK.below h3 hW⟩)
 have hI1 : InvB ⟨[⟨tA, 0, 0, 5⟩], [], 0⟩ := by
  have := inv_bk0.do_ (askK_odB (seq := 1) (kind := 1) (sum := 5) hsA (r64s _ (by decide)) (r64s _ (by decide)) (r64s _ (by decide)))
  rwa [l12_1] at this
 have H2 : Hid (∀ (d : DA) (T : EvT) (W : World), DkA W w.heap.size d ⟨[⟨tA, 0, 0, 5⟩], [], 0⟩ T [] → w.heap.size ≤ W.heap.size → T.get tA = [⟨0, 1, 1, 0, 0⟩] → (∀ k, (T.get k).length ≤ 1) → Calls Tryz.prog 21 #[d.ptr, .agg #[i64 0, i64 2, i64 3, .string tA, .string ⟨#[]⟩, i64 3, .slice none 0 0, i64 0, i64 0, .string ⟨#[]⟩]] W fun e w' => e = .returned (.agg #[i64 0, i64 0, i64 3, i64 2]) ∧ ∃ T, DkA w' w.heap.size d ⟨[⟨tA, 0, 3, 5⟩], [⟨2, tA, 3⟩], 0⟩ T [] ∧ T.get tA = [⟨0, 1, 1, 0, 0⟩, ⟨0, 2, 3, 0, 3⟩] ∧ Below w.heap.size W w') := Lib.hid fun d T W hK hW hg hl =>
  (sdo_c (askK 2 3 tA 3) W hK hI1 (askK_odB hsA (r64s _ (by decide)) (r64s _ (by decide)) (r64s _ (by decide))) (askK_ok _ _ _ _ hsA _ _) (Nat.zero_le _) hW (fun k => Nat.le_trans (hl k) (by decide))).mono (by
   rintro e w' ⟨rfl, T2, h1, h2, h3, -⟩
   rw [l12_2] at h1 ⊢
   exact ⟨rfl, T2, h1, by rw [h2, hg, l12_e2]; rfl, hK.below h3 hW⟩)
 have he := eq_evS
 go_enter Tryz.func19, Tryz.ntmps19
 go_wp2_with fail
 refine (snew_c w).mono ?_
 rintro e w1 ⟨d, rfl, hK1, hF⟩
 have hb1 := hF
 clear hF
 go_wp2_with fail
 refine (H1.out d w1 hK1 hb1.size).mono ?_
 rintro e w2 ⟨rfl, T1, hK2, hg2, hl2, hF⟩
 have hb2 := hb1.trans hF
 clear hF hb1 hK1 H1
 go_wp2_with fail
 refine (H2.out d T1 w2 hK2 hb2.size hg2 hl2).mono ?_
 rintro e w3 ⟨rfl, T2, hK3, hg3, hF⟩
 have hb3 := hb2.trans hF
 have hlt3 := hK3.lt
 clear hF hb2 hK2 H2 hg2 hl2
 have hba := (Below.refl w3.heap.size w3).alloc (Nat.le_refl _) (.cells #[i64 0, i64 0, i64 3, i64 2] 31)
 have hal := heap_alloc_new w3 (.cells #[i64 0, i64 0, i64 3, i64 2] 31)
 have hK4 := hK3.later hba
 have hb4 := hb3.alloc hb3.size (.cells #[i64 0, i64 0, i64 3, i64 2] 31)
 clear hba hb3 hK3
 go_wp2_with fail
 generalize w3.alloc (.cells #[i64 0, i64 0, i64 3, i64 2] 31) = w4 at *
 refine (sread_c tMe tA w4 hK4 hb4.size).mono ?_
 rintro e w5 ⟨R2, rfl, hK5, hG, -, hR⟩
 obtain ⟨g, rfl, hgl⟩ := hR l12_r
 rw [l12_r]
 have hb5 := hb4.trans (hK4.below hG hb4.size)
 have hal5 := (hG.block w3.heap.size (Array.getElem?_eq_some_iff.1 hal).1 (fun e => by have := (hlt3 _ e).2; omega)).trans hal
 clear hK4 hG hR hal hb4
 have hr : getRd ([] ++ [(⟨tMe, g, tA, 0⟩ : Rx)]) tMe = some ⟨tMe, g, tA, 0⟩ := by unfold getRd; simp
 have HP := Lib.hid (spoll_c tMe 9 ⟨tMe, g, tA, 0⟩ w5 hK5 hr (Nat.zero_le _) (by show (T2.get tA).length ≤ 65536; rw [hg3]; decide))
 change Hid (Calls Tryz.prog 24 #[d.ptr, .string tMe, i64 9] w5 fun e w' => ∃ v, e = .returned (.tuple #[v, i64 0]) ∧ Own w' w5.heap.size 148 v (((T2.get tA).drop 0).take (min (max 9 0) (((T2.get tA).drop 0).length : Int)).toNat) ∧ Below w5.heap.size w5 w') at HP
 rw [hg3] at HP
 change Hid (Calls Tryz.prog 24 #[d.ptr, .string tMe, i64 9] w5 fun e w' => ∃ v, e = .returned (.tuple #[v, i64 0]) ∧ Own w' w5.heap.size 148 v [(⟨0, 1, 1, 0, 0⟩ : Ev), ⟨0, 2, 3, 0, 3⟩] ∧ Below w5.heap.size w5 w') at HP
 clear hK5 hg3 hr hlt3 hgl
 go_wp2_with fail
 refine HP.out.mono ?_
 rintro e w6 ⟨v, rfl, hO, hF⟩
 have hb6 := below_on hb5 (Nat.le_refl _) hF
 have hal6 := (hF.block w3.heap.size (Array.getElem?_eq_some_iff.1 hal5).1).trans hal5
 have r3 := cell_of_row _ w3.heap.size 3 _ _ (0, 0) hal6
 simp only [List.getElem?_toArray, List.getElem?_cons_zero, List.getElem?_cons_succ] at r3
 obtain ⟨A, c, rfl, hs⟩ := hO.sl
 have hc : 2 ≤ c := hs.1
 obtain ⟨b, o, rfl, -, c0, c1, c2, c3, c4⟩ := hs.ev (k := 1) (by decide)
 simp only [List.getElem_cons_zero, List.getElem_cons_succ] at c0 c1 c2 c3 c4
 clear hO hs hal6 hal5 hF HP hb5
 go_wp2
 go_ret
 exact ⟨rfl, hb6⟩
end Go.Proofs.YtampniiehgimhaaGreat
/- five names -/
namespace Go.Proofs.YtampniiehgimhaaGreat
open Go.RowKit
abbrev tB : ByteArray := ⟨#[98]⟩
abbrev tC : ByteArray := ⟨#[99]⟩
abbrev tBank : ByteArray := ⟨#[98, 97, 110, 107]⟩
abbrev tTill : ByteArray := ⟨#[116, 105, 108, 108]⟩
theorem str_at {w : World} {S : Nat → Prop} {c : Nat} {A : Option Addr} {l : List ByteArray} (h : SlS w S A c l) {k : Nat} (hk : k < l.length) : ∃ b o, A = some ⟨b, o, none⟩ ∧ S b ∧ l[k].size ≤ maxLen ∧ w.cell? ⟨b, o + k, none⟩ = some (.string l[k]) := by
 obtain ⟨b, o, hA, hb, hok, hc⟩ := h.at_ hk
 refine ⟨b, o, hA, hb, hok, ?_⟩
 have := hc 0 _ rfl
 rwa [show o + (k * Enc.size ByteArray + 0) = o + k by show o + (k * 1 + 0) = o + k; omega] at this
end Go.Proofs.YtampniiehgimhaaGreat
/- ref06.Touches -/
namespace Go.Proofs.YtampniiehgimhaaGreat
open Go.RowKit
def upFrom (a : ByteArray) (out : List ByteArray) (k : Nat) : Prop := ∀ j (hj : j < out.length), k ≤ j → bless a out[j] = true
set_option maxRecDepth 100000 in
set_option maxHeartbeats 4000000 in
theorem rtouches_c (x : Od) (w : World) (hx : Okb w w.heap.size x) (hl : x.legs.length ≤ 10) :
  Calls Tryz.prog 78 #[x.v] w fun e w' => ∃ v, e = .returned v ∧ Own w' w.heap.size 9 v (touches x) ∧ Below w.heap.size w w' := by
 obtain ⟨ha, hp, -, hlg⟩ := hx
 have hO0 := own_lit (w := w.alloc (.cells x.cells.toArray 37)) (base := w.heap.size + 1) 9 #[.string x.acct, .string x.peer] [x.acct, x.peer] (by simp) rfl (by simp) (by
  intro s hs
  simp only [List.mem_cons, List.not_mem_nil, or_false] at hs
  rcases hs with rfl | rfl
  ·exact ha
  ·exact hp)
 have hB0 := (Below.refl w.heap.size w).alloc (Nat.le_refl _) (.cells x.cells.toArray 37)
 have hB1 := (Below.refl (w.alloc (.cells x.cells.toArray 37)).heap.size (w.alloc (.cells x.cells.toArray 37))).alloc (Nat.le_refl _) (.cells #[.string x.acct, .string x.peer] 9)
 have c6 : (w.alloc (.cells x.cells.toArray 37)).cell? ⟨w.heap.size, 6, none⟩ = some (.slice x.la x.legs.length x.lc) := by simp [Od.cells]
 have hlt0 : w.heap.size < (w.alloc (.cells x.cells.toArray 37)).heap.size := by simp
 have c6' := (hB1.cell (p := ⟨w.heap.size, 6, none⟩) hlt0).trans c6
 have hsz1 : (w.alloc (.cells x.cells.toArray 37)).heap.size = w.heap.size + 1 := by simp
 have hB2 := below_on hB0 (Nat.le_refl _) hB1
 obtain ⟨W1, hW1⟩ : ∃ W1, (w.alloc (.cells x.cells.toArray 37)).alloc (.cells #[.string x.acct, .string x.peer] 9) = W1 := ⟨_, rfl⟩
 rw [hsz1, hW1] at hO0 hB1
 rw [hW1] at hB2 c6'
 have hlt1 : w.heap.size < W1.heap.size := by have := hB1.size; rw [hsz1] at this; omega
 clear c6 hB0 hB1 hlt0 hsz1 ha hp
 unfold Od.cells at hW1
 unfold Od.v
 go_enter Tryz.func78, Tryz.ntmps78
 go_wp2_with fail
 clear hW1
 have hlr : x.legs.length ≤ x.lc := hlg.1
 go_loopw [3, 4] (fun v i wr => ∃ k : Nat, i = i64 k ∧ k ≤ x.legs.length ∧ Own wr (w.heap.size + 1) 9 v ((x.acct :: x.peer :: x.legs.map Leg.acct).take (k + 2)) ∧ w.heap.size < wr.heap.size ∧ wr.cell? ⟨w.heap.size, 6, none⟩ = some (.slice x.la x.legs.length x.lc) ∧ Below w.heap.size w wr) (fun _ i _ => x.legs.length - (intOf i).toNat)
 case atStart => exact ⟨0, rfl, by omega, hO0, hlt1, c6', hB2⟩
 case round =>
  obtain ⟨k, rfl, hk, hO, hlw, c6, hb⟩ := hrel
  clear hO0 hlt1 c6' hB2
  by_cases hlt : k < x.legs.length
  ·obtain ⟨b, o, hA, hbb, hsz, c0, c1⟩ := (hlg.later hb).leg hlt
   have Hsz := Lib.hid hsz
   rw [hA] at c6
   have HA := Lib.hid hA
   clear hsz hA
   have hB3 := (Below.refl wr.heap.size wr).alloc (Nat.le_refl _) (.cells #[.string x.legs[k].acct] 9)
   have hO2 := hO.later hB3
   have hne := hO.new_ne (Nat.le_refl wr.heap.size)
   have hHeap := heap_alloc_new wr (.cells #[.string x.legs[k].acct] 9)
   have hlen : ((x.acct :: x.peer :: x.legs.map Leg.acct).take (k + 2)).length = k + 2 := by simp; omega
   have hb3 := below_on hb (Nat.le_refl _) hB3
   have c6b := (hB3.cell (p := ⟨w.heap.size, 6, none⟩) hlw).trans c6
   have hlw3 := Nat.lt_of_lt_of_le hlw hB3.size
   have HO2 := Lib.hid hO2
   have Hne := Lib.hid hne
   have HH := Lib.hid hHeap
   have HL := Lib.hid hlen
   have C6 := Lib.hid c6b
   clear hO2 hne hHeap hlen hO hB3 c6b
   go_wp2_with (at_builtin; refine wpList_append_one rfl (some 28) (.tmp 20) (.tmp 27) 73 rfl rfl (.string ByteArray.empty) 16 Tryz.underlying73 strInfo rfl Nat.one_pos (by decide) rfl HO2.out wr.heap.size x.legs[k].acct rfl _ 9 HH.out rfl Hne.out Hsz.out (by rw [HL.out]; omega) hlw3 ?_; intro v3 w3 hO3 hg3 hat3)
   have hF := HO2.out.below hg3 (Nat.le_refl _) hlw3
   go_roundw
   case rel => exact ⟨k + 1, by go_num, by omega, by
    rw [show k + 1 + 2 = k + 2 + 1 from rfl, List.take_succ_eq_append_getElem (by simp; omega)]
    simpa using hO3, Nat.lt_of_lt_of_le hlw3 hF.size, (hF.cell (p := ⟨w.heap.size, 6, none⟩) (Nat.lt_succ_self _)).trans (by rw [C6.out, HA.out]), hb3.trans (hF.mono (Nat.le_succ _))⟩
   case measure => simp [intOf] <;> omega
  ·have hkl : k = x.legs.length := by omega
   subst hkl
   rw [List.take_of_length_le (by simp)] at hO
   have hLlen : (x.acct :: x.peer :: x.legs.map Leg.acct).length ≤ 12 := by simp; omega
   obtain ⟨L, hL⟩ : ∃ L, x.acct :: x.peer :: x.legs.map Leg.acct = L := ⟨_, rfl⟩
   have HT := Lib.hid (show ∀ out, GoodT out L → out = touches x from fun out h => GoodT.touches (by rw [hL]; exact h))
   rw [hL] at hO hLlen
   clear hL hlg hlr
   obtain ⟨AL, cL, rfl, hS⟩ := hO.sl
   clear hO
   go_wp2_with fail
   clear c6 hlw
   obtain ⟨wo, rfl⟩ : ∃ wo : World, wo = wr := ⟨_, rfl⟩
   go_loopw [5, 6] (fun v i wr => ∃ n : Nat, i = i64 n ∧ n ≤ L.length ∧ (∃ out, Own wr wo.heap.size 9 v out ∧ GoodT out (L.take n) ∧ out.length ≤ n) ∧ Below wo.heap.size wo wr) (fun _ i _ => L.length - (intOf i).toNat)
   case atStart => exact ⟨0, rfl, by omega, ⟨[], Own.nil_ _ _ _, GoodT.nil, by simp⟩, Below.refl _ _⟩
   case round =>
    obtain ⟨n, rfl, hn, ⟨out, hO, hG, hol⟩, hB⟩ := hrel
    have HG := Lib.hid hG
    clear hG
    by_cases hlt : n < L.length
    ·obtain ⟨AO, cO, rfl, hSO⟩ := hO.sl
     have HO := Lib.hid hO
     clear hO
     go_wp2_with fail
     obtain ⟨wp, rfl⟩ : ∃ wp : World, wp = wr := ⟨_, rfl⟩
     have hlen1 : L.length ≤ cL := hS.1
     have hlen2 : out.length ≤ cO := hSO.1
     go_loopw [7] (fun i2 wI => ∃ k : Nat, i2 = i64 k ∧ k ≤ out.length ∧ upFrom L[n] out k ∧ Below wp.heap.size wp wI) (fun i2 _ => (intOf i2).toNat)
     case atStart => exact ⟨out.length, rfl, by omega, fun j hj h => absurd h (by omega), Below.refl _ _⟩
     case round =>
      obtain ⟨k, rfl, hk, hup, hI⟩ := hrel
      have Hup := Lib.hid hup
      clear hup
      have hBI := hB.trans (hI.mono hB.size)
      obtain ⟨b1, o1, rfl, -, hsz, d0⟩ := (hS.later hBI).str hlt
      have n0 : (0 : Int) ≤ (n : Int) := by omega
      have n1 : (n : Int) < (L.length : Int) := by omega
      by_cases hk0 : 0 < k
      ·obtain ⟨k, rfl⟩ : ∃ k', k = k' + 1 := ⟨k - 1, by omega⟩
       have hko : k < out.length := by omega
       obtain ⟨b2, o2, rfl, -, hsz2, d1⟩ := (hSO.later hI).str hko
       have g1 : decide ((0 : Int) < (k : Int) + 1) = true := decide_eq_true (by omega)
       have w1 : IntKind.i64.wrap (k : Int) = (k : Int) := by rw [IntKind.wrap_i64]; omega
       have k0 : (0 : Int) ≤ (k : Int) := by omega
       have k1 : (k : Int) < (out.length : Int) := by omega
       have Hsz := Lib.hid hsz
       have Hsz2 := Lib.hid hsz2
       clear hsz hsz2
       go_wp2
       refine wp_region_still_tail 12 (by kernel_rfl) (by kernel_rfl) ?_
       simp only [List.take_succ_cons, List.take_zero, List.drop_succ_cons, List.drop_zero]
       change wpStill _ _ (World.drew _) (fun a' => wpList _ _ _ _ a' (World.drew _)) _ _
       repeat still_step
       refine wpStill_nil ?_
       go_wp2_with fail
       have hbd := (Below.refl wr.heap.size wr).drew
       refine (rahead_c L[n] out[k] Hsz.out Hsz2.out _).mono ?_
       rintro e w5 ⟨rfl, hF⟩
       have hI5 := below_on (below_on hI (Nat.le_refl _) hbd) (Nat.le_refl _) hF
       clear hF hbd d0 d1 hI
       by_cases hbl : bless L[n] out[k] = true
       ·rw [hbl]
        have Hbl := Lib.hid hbl
        clear hbl
        go_wp2
        go_roundw
        case rel => exact ⟨k, rfl, by omega, fun j hj hkj => by
          by_cases e : j = k
          ·subst e; exact Hbl.out
          ·exact Hup.out j hj (by omega), hI5⟩
        case measure => simp [intOf] <;> omega
       ·have hbl : bless L[n] out[k] = false := by simpa using hbl
        rw [hbl]
        have Hbl := Lib.hid hbl
        clear hbl
        go_wp2_with fail
        have hB5 := hB.trans (hI5.mono hB.size)
        obtain ⟨b3, o3, hA3, -, -, d0⟩ := (hS.later hB5).str hlt
        injection hA3 with hA3
        injection hA3 with hA4 hA5
        subst hA4 hA5
        obtain ⟨b4, o4, hA4, -, -, d1⟩ := (hSO.later hI5).str hko
        injection hA4 with hA4
        injection hA4 with hA5 hA6
        subst hA5 hA6
        have g2 : (((k : Int) + 1) == 0) = false := by rw [beq_eq_false_iff_ne]; omega
        by_cases hne : nonE L[n] = true
        ·have g1 : L[n].toList.isEmpty = false := by simpa using hne
         by_cases heq : out[k] = L[n]
         ·have g3 := bneS_of_eq heq
          have p3 := beqS_of_eq heq
          have Hs := Lib.hid (HG.out.skip (.inr (heq ▸ List.getElem_mem hko)))
          clear hne heq
          go_quiet (fail)
          go_wp2
          go_roundw
          case rel => exact ⟨n + 1, by go_num, by omega, ⟨out, HO.out.later (below_drewN hI5 _), by rw [List.take_succ_eq_append_getElem hlt]; exact Hs.out, by omega⟩, below_drewN hB5 _⟩
          case measure => simp [intOf] <;> omega
         ·have g3 := bneS_of_ne heq
          have p3 := beqS_of_ne heq
          have Hne := Lib.hid hne
          have Heq := Lib.hid heq
          clear hne heq
          go_quiet (fail)
          go_wp2_with fail
          have HO6 := Lib.hid (HO.out.later (below_drewN hI5 nq))
          have hB6 := below_drewN hB5 nq
          have d0 := (World.cell?_drewN w5 nq _).trans d0
          generalize w5.drewN nq = wq at *
          have HS6 := Lib.hid (hS.later hB6)
          have Hlo := Lib.hid (show 0 < k + 1 → ∀ (h : k + 1 - 1 < out.length), bless L[n] (out[k + 1 - 1]'h) = false ∧ out[k + 1 - 1]'h ≠ L[n] from fun _ h => ⟨Hbl.out, Heq.out⟩)
          generalize out[k] = zz
          clear d1 hS hSO hI5 hB5 hBI hB Hbl Heq hbl hko k0 k1 g2 g1 g3 p3 Hsz2 hk0 w1
          rw [show ((k : Int) + 1) = ((k + 1 : Nat) : Int) from rfl]
          generalize k + 1 = q at *
          have q0 : (0 : Int) ≤ (q : Int) := by omega
          have q1 : (q : Int) ≤ (cO : Int) := by omega
          have q2 : (q : Int) ≤ (out.length : Int) := by omega
          have q3 : (out.length : Int) ≤ (cO : Int) := by omega
          have hs6 := HO6.out.sl_of
          have hTk : ∀ V, Below wq.heap.size wq V → SlS V (Oth V (.slice none 0 0)) (some ⟨b2, o2, none⟩) cO (out.take q) := fun V h => ((hs6.later h).take q).keep (fun _ _ => rfl) (fun b hb => ⟨hb, by simp [Value.ownBlock]⟩)
          have hDr : ∀ V, Below wq.heap.size wq V → Sl V wq.heap.size (if cO = q then some ⟨b2, o2, none⟩ else some ⟨b2, o2 + q, none⟩) (cO - q) (out.drop q) := fun V h => by
           have := (hs6.drop hk).below h
           have e1 : (⟨b2, o2, none⟩ : Addr).add (q * Enc.size ByteArray) = ⟨b2, o2 + q, none⟩ := by
            rw [show Enc.size ByteArray = 1 from rfl, Nat.mul_one]
            unfold Addr.add
            split <;> simp_all
           rwa [Option.map_some, e1] at this
          have hLit := (own_lit (w := wq.drew) (base := wq.heap.size) 9 #[.string L[n]] [L[n]] (Nat.le_refl _) rfl (by simp) (by intro s hs; simp only [List.mem_cons, List.not_mem_nil, or_false] at hs; subst hs; exact Hsz.out)).sl_of
          have Hql := Lib.hid (show q = (out.take q).length by rw [List.length_take]; omega)
          have hSS : ∀ V, Below wq.heap.size wq V → (fun V : World => Below wq.heap.size wq V ∧ V.cell? ⟨b1, o1 + n, none⟩ = some (.string L[n])) V := fun V h => ⟨h, (h.cell (World.block_lt_of_cell? _ _ d0)).trans d0⟩
          have hq0 := (Below.refl wq.heap.size wq).drew
          clear hs6
          go_region_held3 (fun V => Below wq.heap.size wq V ∧ V.cell? ⟨b1, o1 + n, none⟩ = some (.string L[n])) (first | exact hSS _ hq0 | exact hSS _ (by assumption) | exact hSS _ ((hq0.alloc (by simp) _)) | exact hSS _ (hb1.alloc hb1.size _))
           (first
            | (rw [if_pos (by rfl)]; refine oper_append (.const (.slice none 0 0)) (.tmp 76) 73 rfl (.string ByteArray.empty) 16 Tryz.underlying73 strInfo rfl Nat.one_pos (by decide) rfl (Own.nil_ _ _ 9) (some ⟨b2, o2, none⟩) q cO (out.take q) rfl Hql.out (hTk _ (by go_split_ands; assumption)) (by simp <;> omega) (Nat.le_refl _) ?_; intro v1 w1 hO1 hg1 hat1; rw [List.nil_append] at hO1; have hF1 := (Own.nil_ (α := ByteArray) _ _ 9).below hg1 (Nat.le_refl _) (Nat.le_refl _); have hb1 : Below wq.heap.size wq w1 := below_on (by go_split_ands; assumption) (Nat.le_refl _) hF1; clear hg1 hat1)
            | (rw [if_pos (by rfl)]; refine oper_append_one (.tmp 77) (.tmp 82) 73 rfl (.string ByteArray.empty) 16 Tryz.underlying73 strInfo rfl Nat.one_pos (by decide) rfl (hO1.later ((Below.refl w1.heap.size w1).alloc (Nat.le_refl _) (.cells #[.string L[n]] 9))) w1.heap.size L[n] rfl _ 9 (heap_alloc_new w1 _) rfl (hO1.new_ne (Nat.le_refl _)) Hsz.out (by first | (rw [← Hql.out]; omega) | (simp; done) | (simp; omega)) (Nat.le_trans hb1.size (by simp)) ?_; intro v2 w2 hO2 hg2 hat2; have hb2 : Below wq.heap.size wq w2 := (hb1.alloc hb1.size _).trans ((hO1.later ((Below.refl w1.heap.size w1).alloc (Nat.le_refl _) (.cells #[.string L[n]] 9))).below hg2 (Nat.le_refl _) (Nat.le_trans hb1.size (by simp))); clear hg2 hat2 hO1 hF1 hb1)
            | (rw [if_pos (by rfl)]; refine oper_append (.tmp 77) (.tmp 82) 73 rfl (.string ByteArray.empty) 16 Tryz.underlying73 strInfo rfl Nat.one_pos (by decide) rfl hO1 (some ⟨wq.drew.heap.size, 0, none⟩) 1 1 [L[n]] rfl rfl ((hLit.below hF1).mono (hO1.oth (Nat.le_refl _) hF1.size)) (by simp <;> omega) hF1.size ?_; intro v2 w2 hO2 hg2 hat2; have hb2 : Below wq.heap.size wq w2 := hb1.trans (hO1.below hg2 (by simp) hb1.size); clear hg2 hat2 hO1 hF1 hb1; have hO2 := hO2.mono (base' := wq.heap.size) (by simp))
            | (rw [if_pos (by rfl)]; refine oper_append (.tmp 83) (.tmp 86) 73 rfl (.string ByteArray.empty) 16 Tryz.underlying73 strInfo rfl Nat.one_pos (by decide) rfl hO2 _ _ _ (out.drop q) rfl (List.length_drop ..).symm ((hDr _ hb2).mono (hO2.oth (Nat.le_refl _) hb2.size)) (by simp <;> omega) hb2.size ?_; intro v3 w3 hO3 hg3 hat3; have hb3 : Below wq.heap.size wq w3 := hb2.trans (hO2.below hg3 (Nat.le_refl _) hb2.size); clear hg3 hat3 hO2 hb2))
          all_goals (
           have hB7 := below_on hB6 (Nat.le_refl _) hb3
           go_wp2
           go_roundw
           case rel => exact ⟨n + 1, by go_num, by omega, ⟨_, hO3.mono hB6.size, by rw [List.take_succ_eq_append_getElem hlt]; exact (HG.out.ins (k := q) hk Hup.out (fun h => Hlo.out h _) Hne.out), by simp <;> omega⟩, hB7⟩
           case measure => simp [intOf] <;> omega)
        ·have hne : nonE L[n] = false := by simpa using hne
         have g1 : L[n].toList.isEmpty = true := by simpa using hne
         have Hs := Lib.hid (HG.out.skip (.inl hne))
         clear hne
         go_quiet (fail)
         go_wp2
         go_roundw
         case rel => exact ⟨n + 1, by go_num, by omega, ⟨out, HO.out.later (below_drewN hI5 _), by rw [List.take_succ_eq_append_getElem hlt]; exact Hs.out, by omega⟩, below_drewN hB5 _⟩
         case measure => simp [intOf] <;> omega
      ·obtain rfl : k = 0 := by omega
       have g0 : decide ((0 : Int) < 0) = false := by decide
       clear hsz d0 hk0
       go_wp2_with fail
       go_quiet (fail)
       have hI5 := below_drewN hI nq
       generalize wr.drewN nq = w5 at *
       clear hI hBI
       have hB5 := hB.trans (hI5.mono hB.size)
       obtain ⟨b3, o3, hA3, -, hsz, d0⟩ := (hS.later hB5).str hlt
       injection hA3 with hA3
       injection hA3 with hA4 hA5
       subst hA4 hA5
       have Hsz := Lib.hid hsz
       clear hsz
       go_wp2_with fail
       have g2 : ((0 : Int) == 0) = true := by decide
       by_cases hne : nonE L[n] = true
       ·have g1 : L[n].toList.isEmpty = false := by simpa using hne
        have Hne := Lib.hid hne
        clear hne
        go_quiet (fail)
        go_wp2_with fail
        have HO6 := Lib.hid (HO.out.later (below_drewN hI5 nq))
        have hB6 := below_drewN hB5 nq
        have d0 := (World.cell?_drewN w5 nq _).trans d0
        generalize w5.drewN nq = wq at *
        have Hlo := Lib.hid (show 0 < 0 → ∀ (h : 0 - 1 < out.length), bless L[n] (out[0 - 1]'h) = false ∧ out[0 - 1]'h ≠ L[n] from fun h => absurd h (by omega))
        clear hS hSO hI5 hB5 hB g2 g1
        rcases HO6.out.1.2 with ⟨hv, -⟩ | ⟨g, cap, cur, hv, -⟩
        ·injection hv with hv1 hv2 hv3
         subst hv1 hv3
         obtain rfl := List.length_eq_zero_iff.1 hv2
         clear hv2
         have hs6 := HO6.out.sl_of
         have hTk : ∀ V, Below wq.heap.size wq V → SlS V (Oth V (.slice none 0 0)) none 0 ([] : List ByteArray) := fun V h => SlS.nil_ _ _
         have hDr : ∀ V, Below wq.heap.size wq V → Sl V wq.heap.size none 0 ([] : List ByteArray) := fun V h => SlS.nil_ _ _
         have hLit := (own_lit (w := wq.drew) (base := wq.heap.size) 9 #[.string L[n]] [L[n]] (Nat.le_refl _) rfl (by simp) (by intro s hs; simp only [List.mem_cons, List.not_mem_nil, or_false] at hs; subst hs; exact Hsz.out)).sl_of
         have Hql := Lib.hid (show 0 = ([] : List ByteArray).length from rfl)
         have hSS : ∀ V, Below wq.heap.size wq V → (fun V : World => Below wq.heap.size wq V ∧ V.cell? ⟨b1, o1 + n, none⟩ = some (.string L[n])) V := fun V h => ⟨h, (h.cell (World.block_lt_of_cell? _ _ d0)).trans d0⟩
         have hq0 := (Below.refl wq.heap.size wq).drew
         clear hs6
         go_region_held3 (fun V => Below wq.heap.size wq V ∧ V.cell? ⟨b1, o1 + n, none⟩ = some (.string L[n])) (first | exact hSS _ hq0 | exact hSS _ (by assumption) | exact hSS _ ((hq0.alloc (by simp) _)) | exact hSS _ (hb1.alloc hb1.size _))
          (first
           | (rw [if_pos (by rfl)]; refine oper_append (.const (.slice none 0 0)) (.tmp 76) 73 rfl (.string ByteArray.empty) 16 Tryz.underlying73 strInfo rfl Nat.one_pos (by decide) rfl (Own.nil_ _ _ 9) none 0 0 [] rfl Hql.out (hTk _ (by go_split_ands; assumption)) (by simp <;> omega) (Nat.le_refl _) ?_; intro v1 w1 hO1 hg1 hat1; rw [List.nil_append] at hO1; have hF1 := (Own.nil_ (α := ByteArray) _ _ 9).below hg1 (Nat.le_refl _) (Nat.le_refl _); have hb1 : Below wq.heap.size wq w1 := below_on (by go_split_ands; assumption) (Nat.le_refl _) hF1; clear hg1 hat1)
           | (rw [if_pos (by rfl)]; refine oper_append_one (.tmp 77) (.tmp 82) 73 rfl (.string ByteArray.empty) 16 Tryz.underlying73 strInfo rfl Nat.one_pos (by decide) rfl (hO1.later ((Below.refl w1.heap.size w1).alloc (Nat.le_refl _) (.cells #[.string L[n]] 9))) w1.heap.size L[n] rfl _ 9 (heap_alloc_new w1 _) rfl (hO1.new_ne (Nat.le_refl _)) Hsz.out (by first | (rw [← Hql.out]; omega) | (simp; done) | (simp; omega)) (Nat.le_trans hb1.size (by simp)) ?_; intro v2 w2 hO2 hg2 hat2; have hb2 : Below wq.heap.size wq w2 := (hb1.alloc hb1.size _).trans ((hO1.later ((Below.refl w1.heap.size w1).alloc (Nat.le_refl _) (.cells #[.string L[n]] 9))).below hg2 (Nat.le_refl _) (Nat.le_trans hb1.size (by simp))); clear hg2 hat2 hO1 hF1 hb1)
           | (rw [if_pos (by rfl)]; refine oper_append (.tmp 77) (.tmp 82) 73 rfl (.string ByteArray.empty) 16 Tryz.underlying73 strInfo rfl Nat.one_pos (by decide) rfl hO1 (some ⟨wq.drew.heap.size, 0, none⟩) 1 1 [L[n]] rfl rfl ((hLit.below hF1).mono (hO1.oth (Nat.le_refl _) hF1.size)) (by simp <;> omega) hF1.size ?_; intro v2 w2 hO2 hg2 hat2; have hb2 : Below wq.heap.size wq w2 := hb1.trans (hO1.below hg2 (by simp) hb1.size); clear hg2 hat2 hO1 hF1 hb1; have hO2 := hO2.mono (base' := wq.heap.size) (by simp))
           | (rw [if_pos (by rfl)]; refine oper_append (.tmp 83) (.tmp 86) 73 rfl (.string ByteArray.empty) 16 Tryz.underlying73 strInfo rfl Nat.one_pos (by decide) rfl hO2 _ _ _ [] rfl rfl ((hDr _ hb2).mono (hO2.oth (Nat.le_refl _) hb2.size)) (by simp <;> omega) hb2.size ?_; intro v3 w3 hO3 hg3 hat3; have hb3 : Below wq.heap.size wq w3 := hb2.trans (hO2.below hg3 (Nat.le_refl _) hb2.size); clear hg3 hat3 hO2 hb2))
         all_goals (
          have hB7 := below_on hB6 (Nat.le_refl _) hb3
          go_wp2
          go_roundw
          case rel => exact ⟨n + 1, by go_num, by omega, ⟨_, hO3.mono hB6.size, by rw [List.take_succ_eq_append_getElem hlt]; exact (HG.out.ins (k := 0) (Nat.zero_le _) Hup.out (fun h => Hlo.out h _) Hne.out), by simp <;> omega⟩, hB7⟩
          case measure => simp [intOf] <;> omega)
        ·injection hv with hv1 hv2 hv3
         subst hv1 hv3
         clear hv2
         have q1 : (0 : Int) ≤ (cO : Int) := by omega
         have q2 : (0 : Int) ≤ (out.length : Int) := by omega
         have q3 : (out.length : Int) ≤ (cO : Int) := by omega
         have hs6 := HO6.out.sl_of
         have hTk : ∀ V, Below wq.heap.size wq V → SlS V (Oth V (.slice none 0 0)) (some ⟨g, 0, none⟩) cO ([] : List ByteArray) := fun V h => ((hs6.later h).take 0).keep (fun _ _ => rfl) (fun b hb => ⟨hb, by simp [Value.ownBlock]⟩)
         have hDr : ∀ V, Below wq.heap.size wq V → Sl V wq.heap.size (some ⟨g, 0, none⟩) cO out := fun V h => hs6.below h
         have hLit := (own_lit (w := wq.drew) (base := wq.heap.size) 9 #[.string L[n]] [L[n]] (Nat.le_refl _) rfl (by simp) (by intro s hs; simp only [List.mem_cons, List.not_mem_nil, or_false] at hs; subst hs; exact Hsz.out)).sl_of
         have Hql := Lib.hid (show 0 = ([] : List ByteArray).length from rfl)
         have hSS : ∀ V, Below wq.heap.size wq V → (fun V : World => Below wq.heap.size wq V ∧ V.cell? ⟨b1, o1 + n, none⟩ = some (.string L[n])) V := fun V h => ⟨h, (h.cell (World.block_lt_of_cell? _ _ d0)).trans d0⟩
         have hq0 := (Below.refl wq.heap.size wq).drew
         clear hs6
         go_region_held3 (fun V => Below wq.heap.size wq V ∧ V.cell? ⟨b1, o1 + n, none⟩ = some (.string L[n])) (first | exact hSS _ hq0 | exact hSS _ (by assumption) | exact hSS _ ((hq0.alloc (by simp) _)) | exact hSS _ (hb1.alloc hb1.size _))
          (first
           | (rw [if_pos (by rfl)]; refine oper_append (.const (.slice none 0 0)) (.tmp 76) 73 rfl (.string ByteArray.empty) 16 Tryz.underlying73 strInfo rfl Nat.one_pos (by decide) rfl (Own.nil_ _ _ 9) (some ⟨g, 0, none⟩) 0 cO [] rfl Hql.out (hTk _ (by go_split_ands; assumption)) (by simp <;> omega) (Nat.le_refl _) ?_; intro v1 w1 hO1 hg1 hat1; rw [List.nil_append] at hO1; have hF1 := (Own.nil_ (α := ByteArray) _ _ 9).below hg1 (Nat.le_refl _) (Nat.le_refl _); have hb1 : Below wq.heap.size wq w1 := below_on (by go_split_ands; assumption) (Nat.le_refl _) hF1; clear hg1 hat1)
           | (rw [if_pos (by rfl)]; refine oper_append_one (.tmp 77) (.tmp 82) 73 rfl (.string ByteArray.empty) 16 Tryz.underlying73 strInfo rfl Nat.one_pos (by decide) rfl (hO1.later ((Below.refl w1.heap.size w1).alloc (Nat.le_refl _) (.cells #[.string L[n]] 9))) w1.heap.size L[n] rfl _ 9 (heap_alloc_new w1 _) rfl (hO1.new_ne (Nat.le_refl _)) Hsz.out (by first | (rw [← Hql.out]; omega) | (simp; done) | (simp; omega)) (Nat.le_trans hb1.size (by simp)) ?_; intro v2 w2 hO2 hg2 hat2; have hb2 : Below wq.heap.size wq w2 := (hb1.alloc hb1.size _).trans ((hO1.later ((Below.refl w1.heap.size w1).alloc (Nat.le_refl _) (.cells #[.string L[n]] 9))).below hg2 (Nat.le_refl _) (Nat.le_trans hb1.size (by simp))); clear hg2 hat2 hO1 hF1 hb1)
           | (rw [if_pos (by rfl)]; refine oper_append (.tmp 77) (.tmp 82) 73 rfl (.string ByteArray.empty) 16 Tryz.underlying73 strInfo rfl Nat.one_pos (by decide) rfl hO1 (some ⟨wq.drew.heap.size, 0, none⟩) 1 1 [L[n]] rfl rfl ((hLit.below hF1).mono (hO1.oth (Nat.le_refl _) hF1.size)) (by simp <;> omega) hF1.size ?_; intro v2 w2 hO2 hg2 hat2; have hb2 : Below wq.heap.size wq w2 := hb1.trans (hO1.below hg2 (by simp) hb1.size); clear hg2 hat2 hO1 hF1 hb1; have hO2 := hO2.mono (base' := wq.heap.size) (by simp))
           | (rw [if_pos (by rfl)]; refine oper_append (.tmp 83) (.tmp 86) 73 rfl (.string ByteArray.empty) 16 Tryz.underlying73 strInfo rfl Nat.one_pos (by decide) rfl hO2 _ _ _ out rfl rfl ((hDr _ hb2).mono (hO2.oth (Nat.le_refl _) hb2.size)) (by simp <;> omega) hb2.size ?_; intro v3 w3 hO3 hg3 hat3; have hb3 : Below wq.heap.size wq w3 := hb2.trans (hO2.below hg3 (Nat.le_refl _) hb2.size); clear hg3 hat3 hO2 hb2))
         all_goals (
          have hB7 := below_on hB6 (Nat.le_refl _) hb3
          go_wp2
          go_roundw
          case rel => exact ⟨n + 1, by go_num, by omega, ⟨_, hO3.mono hB6.size, by rw [List.take_succ_eq_append_getElem hlt]; exact (HG.out.ins (k := 0) (Nat.zero_le _) Hup.out (fun h => Hlo.out h _) Hne.out), by simp <;> omega⟩, hB7⟩
          case measure => simp [intOf] <;> omega)
       ·have hne : nonE L[n] = false := by simpa using hne
        have g1 : L[n].toList.isEmpty = true := by simpa using hne
        have Hs := Lib.hid (HG.out.skip (.inl hne))
        clear hne
        go_quiet (fail)
        go_wp2
        go_roundw
        case rel => exact ⟨n + 1, by go_num, by omega, ⟨out, HO.out.later (below_drewN hI5 _), by rw [List.take_succ_eq_append_getElem hlt]; exact Hs.out, by omega⟩, below_drewN hB5 _⟩
        case measure => simp [intOf] <;> omega
    ·obtain rfl : n = L.length := by omega
     have ho := HT.out out (by have := HG.out; rwa [List.take_length] at this)
     have Ho := Lib.hid ho
     clear ho
     go_wp2
     go_ret
     exact ⟨_, rfl, by rw [← Ho.out]; exact hO.mono hb.size, hb.trans (hB.mono hb.size)⟩
end Go.Proofs.YtampniiehgimhaaGreat
