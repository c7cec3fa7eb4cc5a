/- Texts of this claim, laid together: AuLa, StHead. -/
import Derived.Test.YtampniiehgimhaaGreatRows
import Derived.Test.YtampniiehgimhaaGreatBq36
import Derived.Test.YtampniiehgimhaaGreatBq33
import Derived.Test.YtampniiehgimhaaGreatBq1
import Derived.WalkKit
import Derived.WalkSpells
import Derived.WalkLawsBesides
import Derived.Deep.QuietTactic
import Derived.BigQuiet
import Derived.Laws.StructEq
import Derived.Deep.DeepFit
import Derived.StillTailTactics

/- audit: law22.amount; Largest: the plain law -/
namespace Go.Proofs.YtampniiehgimhaaGreat
open Go.RowKit
theorem sumL_nn : ∀ (X : List Int), (∀ a ∈ X, 0 ≤ a) → 0 ≤ sumL X
 | [], _ => Int.le_refl _
 | a :: X, h => by
  have h1 := sumL_nn X (fun b hb => h b (List.mem_cons_of_mem _ hb))
  have h2 := h a (List.mem_cons_self ..)
  have e : sumL (a :: X) = sumL [a] + sumL X := sumL_app [a] X
  rw [e, sumL_one]
  omega
theorem sumL_pre (X : List Int) (h : ∀ a ∈ X, 0 ≤ a) (k : Nat) : sumL (X.take k) ≤ sumL X := by
 have e : sumL X = sumL (X.take k) + sumL (X.drop k) := by rw [← sumL_app, List.take_append_drop]
 have := sumL_nn (X.drop k) (fun a ha => h a (List.mem_of_mem_drop ha))
 omega
def mxL (l : List Leg) : List Int := l.map fun x => max x.sum 0
theorem mxL_nn (l : List Leg) : ∀ a ∈ mxL l, 0 ≤ a := fun a ha => by
 obtain ⟨y, -, rfl⟩ := List.mem_map.1 ha
 omega
theorem amt_in {l : List Leg} (h : sumL (mxL l) ≤ 9223372036854775807) : amtL l = sumL (mxL l) := by
 have h0 := sumL_nn _ (mxL_nn l)
 have e : sumR (sumL (mxL l)) = (sumL (mxL l), 0) := sumR_in (by unfold R64; omega)
 unfold amtL
 rw [show (l.map fun x => max x.sum 0) = mxL l from rfl, e, if_pos rfl]
theorem amt_over {l : List Leg} (h : 9223372036854775807 < sumL (mxL l)) : amtL l = 9223372036854775807 := by
 unfold amtL
 rw [show (l.map fun x => max x.sum 0) = mxL l from rfl]
 split
 ·rename_i hz
  have h1 := (sumR_ok hz).2
  unfold R64 at h1
  omega
 ·rfl
theorem amt_rng (l : List Leg) : 0 ≤ amtL l ∧ amtL l ≤ 9223372036854775807 := by
 by_cases h : sumL (mxL l) ≤ 9223372036854775807
 ·rw [amt_in h]; exact ⟨sumL_nn _ (mxL_nn l), h⟩
 ·rw [amt_over (by omega)]; omega
/-- the amount said by the last move of that Id -/
def gotM (X : List Mv) (k : Id) : Int := X.foldl (fun a m => if Id.mk m.client m.seq = k then amtL m.legs else a) (-1)
theorem gotM_snoc (X : List Mv) (m : Mv) (k : Id) : gotM (X ++ [m]) k = if Id.mk m.client m.seq = k then amtL m.legs else gotM X k := by
 unfold gotM
 rw [List.foldl_append]
 rfl
theorem gotM_take {X : List Mv} {j : Nat} (hj : j < X.length) (k : Id) : gotM (X.take (j + 1)) k = if Id.mk X[j].client X[j].seq = k then amtL X[j].legs else gotM (X.take j) k := by
 rw [List.take_succ_eq_append_getElem hj, gotM_snoc]
theorem gotM_all : ∀ (n : Nat) (X : List Mv), X.length = n → (X.map fun m => Id.mk m.client m.seq).Nodup → ∀ m ∈ X, gotM X ⟨m.client, m.seq⟩ = amtL m.legs
 | 0, X, hn, _, m, hm => by rw [List.length_eq_zero_iff.1 hn] at hm; cases hm
 | n + 1, X, hn, hd, m, hm => by
  rcases List.eq_nil_or_concat X with rfl | ⟨Y, z, rfl⟩
  ·cases hm
  ·rw [List.concat_eq_append] at *
   rw [List.map_append] at hd
   rw [gotM_snoc]
   have hd2 := List.pairwise_append.1 hd
   rcases List.mem_append.1 hm with h | h
   ·rw [if_neg (fun e => hd2.2.2 _ (List.mem_map_of_mem (f := fun m : Mv => Id.mk m.client m.seq) h) _ (List.mem_cons_self ..) e.symm)]
    exact gotM_all n Y (by simpa using hn) hd2.1 m h
   ·rw [List.mem_singleton.1 h, if_pos rfl]
def lastA (X : List Int) : Nat → Int
 | 0 => 9223372036854775807
 | i + 1 => X.getD i 0
theorem ltC_strict : Strict ltC where
 irr a := by unfold ltC; simp
 trans a b c h1 h2 := by unfold ltC at *; simp only [decide_eq_true_eq] at *; omega
 co a b c h1 h2 := by unfold ltC at *; simp only [decide_eq_false_iff_not] at *; omega
/-- what law22.AuditLargest asks of the Ids -/
structure LargLaw (M : List Mv) (I : List Id) (n : Int) (X : List Int) : Prop where
 len : (I.length : Int) = min (max n 0) (M.length : Int)
 got : ∀ (i : Nat) (h : i < I.length), gotM M I[i] = lastA X (i + 1) ∧ 0 ≤ lastA X (i + 1) ∧ lastA X (i + 1) ≤ lastA X i
 far : ∀ (k : Nat) (h : k < M.length), 0 < I.length → Id.mk M[k].client M[k].seq ∉ I → amtL M[k].legs ≤ lastA X I.length
theorem larg_law {l : List Od} {M : List Mv} (n : Int) (hc : M.map Mv.core = (movedL l).map coreM) (hd : (l.map Od.id).Nodup) : ∃ X, LargLaw M (largI l n) n X := by
 obtain ⟨T, hT⟩ : ∃ T, T = sortB ltM M := ⟨_, rfl⟩
 obtain ⟨q, hq⟩ : ∃ q, q = (max n 0).toNat := ⟨_, rfl⟩
 have hI : largI l n = (T.take q).map fun m => Id.mk m.client m.seq := by
  unfold largI
  rw [← hc, ← map_sortM, ← hT, ← hq, ← List.map_take, List.map_map]
  rfl
 have hP : T.Perm M := by rw [hT]; exact sortB_perm M
 have hS : SortedB ltM T := by rw [hT]; exact sortB_sorted ltM_strict M
 have hdM : (M.map fun m => Id.mk m.client m.seq).Nodup := by
  have e : (M.map fun m => Id.mk m.client m.seq) = (movedL l).map Od.id := by
   have := congrArg (List.map (·.1)) hc
   rw [List.map_map, List.map_map] at this
   exact this
  rw [e]
  have hsub : (movedL l).Sublist l := by
   have h1 : ((toldZ bk0 l).filter mvB).Sublist (toldZ bk0 l) := List.filter_sublist
   have h2 := h1.map (·.1)
   have e2 : (toldZ bk0 l).map (·.1) = l := by
    unfold toldZ
    rw [show (fun x : Od × Rp => x.1) = Prod.fst from rfl, List.map_fst_zip]
    rw [toldL_len]; exact Nat.le_refl _
   rw [e2] at h2
   exact h2
  exact hd.sublist (hsub.map _)
 have hlI : (largI l n).length = min q T.length := by rw [hI, List.length_map, List.length_take]
 have hTl : T.length = M.length := hP.length_eq
 have hat : ∀ (i : Nat) (h : i < (largI l n).length) (hT : i < T.length), (largI l n)[i] = ⟨T[i].client, T[i].seq⟩ := fun i h h2 => by
  simp only [hI, List.getElem_map, List.getElem_take]
 have hX : ∀ (i : Nat) (h : i < T.length), lastA (T.map fun m => amtL m.legs) (i + 1) = amtL T[i].legs := fun i h => by
  show (T.map fun m => amtL m.legs).getD i 0 = _
  rw [List.getD_eq_getElem?_getD, List.getElem?_map, List.getElem?_eq_getElem h]
  rfl
 have hle : ∀ (i j : Nat) (hi : i < T.length) (hj : j < T.length), i ≤ j → amtL T[j].legs ≤ amtL T[i].legs := fun i j hi hj hij => by
  have := sb_get hS hi hj hij
  unfold ltM at this
  simp only [decide_eq_false_iff_not] at this
  omega
 refine ⟨T.map fun m => amtL m.legs, ⟨by omega, fun i h => ?_, fun k h h0 hn => ?_⟩⟩
 ·have hiT : i < T.length := by omega
  refine ⟨?_, ?_, ?_⟩
  ·rw [hat i h hiT, hX i hiT, gotM_all _ M rfl hdM _ (hP.mem_iff.1 (List.getElem_mem hiT))]
  ·rw [hX i hiT]; exact (amt_rng _).1
  ·cases i with
   | zero => rw [hX 0 hiT]; exact (amt_rng _).2
   | succ i => rw [hX _ hiT, hX i (by omega)]; exact hle i (i + 1) (by omega) hiT (by omega)
 ·obtain ⟨j, hj, e⟩ := List.getElem_of_mem (hP.mem_iff.2 (List.getElem_mem h))
  have hjq : q ≤ j := by
   refine Nat.le_of_not_lt fun hlt => hn ?_
   rw [hI, ← e]
   refine List.mem_map_of_mem (f := fun m : Mv => Id.mk m.client m.seq) ?_
   rw [List.mem_take_iff_getElem]
   exact ⟨j, by omega, rfl⟩
  obtain ⟨p, hp⟩ : ∃ p, (largI l n).length = p + 1 := ⟨(largI l n).length - 1, by omega⟩
  rw [hp, hX p (by omega), ← e]
  exact hle p j (by omega) hj (by omega)
end Go.Proofs.YtampniiehgimhaaGreat

/- a store of an element's first cells -/
namespace Go.Proofs.YtampniiehgimhaaGreat
open Go.RowKit
section
variable {α : Type} [Enc α] {w : World} {base : Nat} {e : TypeId} {l : List α}
theorem flat_seg (l : List α) (i : Nat) (hi : i < l.length) (C : List Value) : (l.flatMap Enc.cells ++ C).drop (i * Enc.size α) = Enc.cells l[i] ++ (l.flatMap Enc.cells ++ C).drop (i * Enc.size α + Enc.size α) := by
 have e1 : l.flatMap Enc.cells = (l.take i).flatMap Enc.cells ++ (Enc.cells l[i] ++ (l.drop (i + 1)).flatMap Enc.cells) := by
  conv => lhs; rw [← List.take_append_drop i l, List.flatMap_append, List.drop_eq_getElem_cons hi, List.flatMap_cons]
 have hA : ((l.take i).flatMap Enc.cells).length = i * Enc.size α := by rw [flat_len, List.length_take]; congr 1; omega
 rw [e1, List.append_assoc, List.append_assoc]
 generalize (l.take i).flatMap Enc.cells = A at *
 generalize (l.drop (i + 1)).flatMap Enc.cells = B at *
 rw [← hA, List.drop_left, ← List.drop_drop, List.drop_left]
 have hc := Enc.len l[i]
 generalize Enc.cells l[i] = D at *
 rw [← hc, List.drop_left]
/-- a store into the first m cells of an element of the row, for the walk -/
theorem wpList_store_head {P : Program} {ops : Array Oper} {rest : List Oper} {o : Oper} {a : Act} {Q : Exit → Act → World → Prop} (hgd : o.guard = none) (d : Option Nat) (ad x : Operand) (t : TypeId) (ho : o.op = .store t ad x) (hd : o.dst = d) (m : Nat) (hm : m ≤ Enc.size α)
  (hi : (P.info? t).map (·.size) = some m) (g n cap i off : Nat) (u : α) (h : Own w base e (.slice (some ⟨g, 0, none⟩) n cap) l) (hil : i < l.length)
  (had : a.eval ad = .pointer (some ⟨g, off, none⟩)) (hoff : off = i * Enc.size α) (hx : (a.eval x).cells.toList = (Enc.cells u).take m) (hsame : (Enc.cells u).drop m = (Enc.cells l[i]).drop m) (hu : Enc.ok w (Oth w (.slice (some ⟨g, 0, none⟩) n cap)) u)
  (hK : ∀ w', Own w' base e (.slice (some ⟨g, 0, none⟩) n cap) (l.set i u) → w.grownBy w' (some g) → wpList P ops Q rest (a.put d undef) w') : wpList P ops Q (o :: rest) a w := by
 obtain ⟨cur, hg, hb, hn, hc, hmx, hz, ht⟩ := h.cells
 obtain ⟨h1, h2⟩ := h.put hg i hil u hu
 have hlu : ((Enc.cells u).take m).length = m := by rw [List.length_take, Enc.len]; omega
 have hsz : (a.eval x).cells.size = m := by rw [← Array.length_toList, hx, hlu]
 have hi2 : i * Enc.size α + Enc.size α ≤ n * Enc.size α := by rw [← Nat.succ_mul]; exact Nat.mul_le_mul_right _ (by omega)
 have hi3 : n * Enc.size α ≤ cap * Enc.size α := Nat.mul_le_mul_right _ hc
 have hst := run_storeCells_at P g (i * Enc.size α) e ((Enc.cells u).take m) 0 cur w hg (by rw [hlu]; omega) (fun v hv => Enc.one u v (List.mem_of_mem_take hv))
 rw [Nat.add_zero, hlu] at hst
 have hseg : cur.toList.drop (i * Enc.size α + m) = (Enc.cells u).drop m ++ cur.toList.drop (i * Enc.size α + Enc.size α) := by
  have hcur : cur.toList = l.flatMap Enc.cells ++ cur.toList.drop (n * Enc.size α) := by rw [← ht, List.take_append_drop]
  rw [hcur, ← List.drop_drop, flat_seg l i hil, hsame, List.drop_append_of_le_length (by rw [Enc.len]; exact hm)]
 have hrow : cur.toList.take (i * Enc.size α) ++ (Enc.cells u).take m ++ cur.toList.drop (i * Enc.size α + m) = cur.toList.take (i * Enc.size α) ++ Enc.cells u ++ cur.toList.drop (i * Enc.size α + Enc.size α) := by
  rw [hseg, List.append_assoc, ← List.append_assoc ((Enc.cells u).take m), List.take_append_drop, ← List.append_assoc]
 rw [List.append_assoc] at h1 h2 hrow
 rw [List.append_assoc] at hrow
 rw [← hrow] at h1 h2
 subst hd hoff
 refine wpList_plain hgd fun K hk => ?_
 cases hq : P.info? t with
 | none => simp [hq] at hi
 | some j =>
  have hj : j.size = m := by simpa [hq] using hi
  unfold Oper.wp execOp
  simp only [ho]
  simp [had, Instr.storeAt, Instr.sureAddr, storeVar, sizeOf, typeInfo, hq, hj, hsz, hx, hst]
  exact hk _ _ (hK _ h1 h2)
end
end Go.Proofs.YtampniiehgimhaaGreat
