/- Texts of this claim, laid together: BookL0, BookL, BackP, BkLaw, RTouchP. -/
import Derived.Test.YtdkkblhfjblpkaaGreatRows
import Derived.Test.YtdkkblhfjblpkaaGreatBk9
import Derived.Test.YtdkkblhfjblpkaaGreatBk8
import Derived.Test.YtdkkblhfjblpkaaGreatBk10
import Derived.WalkKit
import Derived.WalkSpells
import Derived.WalkLawsBesides
import Derived.Deep.QuietTactic
import Derived.BigQuiet
import Derived.Laws.StructEq
import Derived.Deep.DeepFit
import Derived.StillTailTactics
import Derived.Test.YtdkkblhfjblpkaaGreatBk5
import Derived.Test.YtdkkblhfjblpkaaGreatBi2
import Derived.Test.YtdkkblhfjblpkaaGreatBi1

/- law09: ask -/
namespace Go.Proofs.YtdkkblhfjblpkaaGreat
open Go.RowKit
abbrev tA : ByteArray := ⟨#[97]⟩
theorem SlS.rp {w : World} {S : Nat → Prop} {c : Nat} {A : Option Addr} {l : List Rp} (h : SlS w S A c l) {k : Nat} (hk : k < l.length) : ∃ b o, A = some ⟨b, o, none⟩ ∧ S b ∧
    w.cell? ⟨b, o + k * 4, none⟩ = some (i64 l[k].err) ∧ w.cell? ⟨b, o + k * 4 + 1, none⟩ = some (i64 l[k].hav) ∧ w.cell? ⟨b, o + k * 4 + 2, none⟩ = some (i64 l[k].set_) ∧ w.cell? ⟨b, o + k * 4 + 3, none⟩ = some (i64 l[k].num) := by
  obtain ⟨b, o, hA, hb, _, hc⟩ := h.at_ hk
  exact ⟨b, o, hA, hb, hc 0 _ rfl, hc 1 _ rfl, hc 2 _ rfl, hc 3 _ rfl⟩
theorem Rp.ext_ {a b : Rp} (h1 : a.err = b.err) (h2 : a.hav = b.hav) (h3 : a.set_ = b.set_) (h4 : a.num = b.num) : a = b := by cases a; cases b; simp_all
theorem neq_rp (a b : Rp) (w : World) : (binOp .neq 44 (.agg #[i64 a.err, i64 a.hav, i64 a.set_, i64 a.num]) (.agg #[i64 b.err, i64 b.hav, i64 b.set_, i64 b.num])).run Tryz.prog w = .ok (.bool (!decide (a = b))) w := by
  have u3 := Tryz.underlying2
  have a3 := Tryz.isAgg2
  have z3 := Tryz.sizeOf2
  have u4 := Tryz.underlying3
  have a4 := Tryz.isAgg3
  have z4 := Tryz.sizeOf3
  have u5 := Tryz.underlying26
  have a5 := Tryz.isAgg26
  have z5 := Tryz.sizeOf26
  have hS : Tryz.prog.underlying 44 = some (.struct (Tryz.prog.fieldsOf 44)) := by kernel_rfl
  have hp : Tryz.prog.stoodInHeld 44 = false := by kernel_rfl
  rw [run_neq_struct, show (10000 : Nat) = 9999 + 1 from rfl, run_equalIn_agg w 9999 44 _ _ hS hp]
  simp only [Program.fieldsOf, Tryz.underlying44]
  go_simp
  by_cases h1 : a.err = b.err
  · by_cases h2 : a.hav = b.hav
    · by_cases h3 : a.set_ = b.set_
      · by_cases h4 : a.num = b.num
        · rw [decide_eq_true (Rp.ext_ h1 h2 h3 h4)]; simp [h1, h2, h3, h4]
        · rw [decide_eq_false (fun e => h4 (by rw [e]))]; simp [h1, h2, h3, h4]
      · rw [decide_eq_false (fun e => h3 (by rw [e]))]; simp [h1, h2, h3]
    · rw [decide_eq_false (fun e => h2 (by rw [e]))]; simp [h1, h2]
  · rw [decide_eq_false (fun e => h1 (by rw [e]))]; simp [h1]
theorem eq_rp (a b : Rp) (w : World) : (binOp .eql 44 (.agg #[i64 a.err, i64 a.hav, i64 a.set_, i64 a.num]) (.agg #[i64 b.err, i64 b.hav, i64 b.set_, i64 b.num])).run Tryz.prog w = .ok (.bool (decide (a = b))) w := by
  have u3 := Tryz.underlying2
  have a3 := Tryz.isAgg2
  have z3 := Tryz.sizeOf2
  have u4 := Tryz.underlying3
  have a4 := Tryz.isAgg3
  have z4 := Tryz.sizeOf3
  have u5 := Tryz.underlying26
  have a5 := Tryz.isAgg26
  have z5 := Tryz.sizeOf26
  have hS : Tryz.prog.underlying 44 = some (.struct (Tryz.prog.fieldsOf 44)) := by kernel_rfl
  have hp : Tryz.prog.stoodInHeld 44 = false := by kernel_rfl
  rw [run_eql_struct, show (10000 : Nat) = 9999 + 1 from rfl, run_equalIn_agg w 9999 44 _ _ hS hp]
  simp only [Program.fieldsOf, Tryz.underlying44]
  go_simp
  by_cases h1 : a.err = b.err
  · by_cases h2 : a.hav = b.hav
    · by_cases h3 : a.set_ = b.set_
      · by_cases h4 : a.num = b.num
        · rw [decide_eq_true (Rp.ext_ h1 h2 h3 h4)]; simp [h1, h2, h3, h4]
        · rw [decide_eq_false (fun e => h4 (by rw [e]))]; simp [h1, h2, h3, h4]
      · rw [decide_eq_false (fun e => h3 (by rw [e]))]; simp [h1, h2, h3]
    · rw [decide_eq_false (fun e => h2 (by rw [e]))]; simp [h1, h2]
  · rw [decide_eq_false (fun e => h1 (by rw [e]))]; simp [h1]
def askK (seq kind : Int) (acct : ByteArray) (sum : Int) : Od := ⟨0, seq, kind, acct, ⟨#[]⟩, sum, none, 0, [], 0, 0, ⟨#[]⟩⟩
set_option maxRecDepth 100000 in
set_option maxHeartbeats 1000000 in
theorem ask9_c (seq kind : Int) (acct : ByteArray) (sum : Int) (w : World) : Calls Tryz.prog 79 #[i64 seq, i64 kind, .string acct, i64 sum] w fun e w' => e = .returned (askK seq kind acct sum).v ∧ Below w.heap.size w w' := by
  go_enter Tryz.func79, Tryz.ntmps79
  go_wp2
  exact bodyPost_ret (results_cell_row rfl _ _ w.heap.size 50 _ (0, 0) _ rfl (heap_alloc_new w _) Tryz.underlying50 rfl (by kernel_rfl)) rfl ⟨rfl, (Below.refl _ _).alloc (Nat.le_refl _) _⟩
def lives9L : List Od := [askK 1 1 tA 3, askK 2 3 tA 5, askK 3 3 tA 3, askK 4 7 tA 0]
theorem lives9_told : toldL bk0 lives9L = [⟨0, 0, 0, 0⟩, ⟨9, 0, 0, 0⟩, ⟨0, 0, 3, 3⟩, ⟨0, 0, 3, 0⟩] := by kernel_rfl
theorem lives9_book : foldL bk0 lives9L = ⟨[⟨tA, 0, 3, 3⟩], [⟨3, tA, 3⟩], 0⟩ := by kernel_rfl
theorem askK_ok (seq kind : Int) (acct : ByteArray) (sum : Int) (h : acct.size ≤ maxLen) (w : World) (S : Nat → Prop) : Od.Ok w S (askK seq kind acct sum) := ⟨h, Nat.zero_le _, Nat.zero_le _, SlS.nil_ _ _⟩
theorem askK_odB {seq kind sum : Int} {acct : ByteArray} (h : acct.size ≤ maxLen) (h1 : R64 seq) (h2 : R64 kind) (h3 : R64 sum) : OdB (askK seq kind acct sum) := ⟨h, Nat.zero_le _, R64_0, h1, h2, h3, R64_0, R64_0, fun _ h => by cases h⟩
end Go.Proofs.YtdkkblhfjblpkaaGreat

/- law09: lives -/
namespace Go.Proofs.YtdkkblhfjblpkaaGreat
open Go.RowKit
set_option maxRecDepth 100000 in
set_option maxHeartbeats 8000000 in
theorem lives9_c (w : World) : Calls Tryz.prog 24 #[] w fun e w' => e = .returned (.bool true) ∧ Below w.heap.size w w' := by
  have hA := Lib.hid (fun (q k s : Int) (W : World) => ask9_c q k tA s W)
  have hCp := Lib.hid (fun (a : BA) (B : Bk) (W : World) (h : BkA W a B) => bcopy_c a B W h)
  have he : ∀ W : World, (binOp .eql 44 (.agg #[i64 0, i64 0, i64 3, i64 0]) (.agg #[i64 0, i64 0, i64 3, i64 0])).run Tryz.prog W = .ok (.bool true) W := fun W => eq_rp ⟨0, 0, 3, 0⟩ ⟨0, 0, 3, 0⟩ W
  go_enter Tryz.func24, Tryz.ntmps24
  go_wp2_with fail
  refine (hA.out 1 1 3 _).mono ?_
  rintro e w1 ⟨rfl, hF⟩
  have hb1 := hF
  clear hF
  go_wp2_with fail
  refine (hA.out 2 3 5 _).mono ?_
  rintro e w2 ⟨rfl, hF⟩
  have hb2 := below_on hb1 (Nat.le_refl _) hF
  clear hF hb1
  go_wp2_with fail
  refine (hA.out 3 3 3 _).mono ?_
  rintro e w3 ⟨rfl, hF⟩
  have hb3 := below_on hb2 (Nat.le_refl _) hF
  clear hF hb2
  go_wp2_with fail
  refine (hA.out 4 7 0 _).mono ?_
  rintro e w4 ⟨rfl, hF⟩
  have hb4 := below_on hb3 (Nat.le_refl _) hF
  clear hF hb3 hA
  simp only [Od.v, askK, List.length_nil]
  have hall : ∀ x ∈ lives9L, ∃ q k s, x = askK q k tA s ∧ R64 q ∧ R64 k ∧ R64 s := by
    intro x hx
    simp only [lives9L, List.mem_cons, List.not_mem_nil, or_false] at hx
    rcases hx with rfl | rfl | rfl | rfl
    · exact ⟨1, 1, 3, rfl, ⟨by decide, by decide⟩, ⟨by decide, by decide⟩, ⟨by decide, by decide⟩⟩
    · exact ⟨2, 3, 5, rfl, ⟨by decide, by decide⟩, ⟨by decide, by decide⟩, ⟨by decide, by decide⟩⟩
    · exact ⟨3, 3, 3, rfl, ⟨by decide, by decide⟩, ⟨by decide, by decide⟩, ⟨by decide, by decide⟩⟩
    · exact ⟨4, 7, 0, rfl, ⟨by decide, by decide⟩, ⟨by decide, by decide⟩, ⟨by decide, by decide⟩⟩
  have hsA : tA.size ≤ maxLen := by show 1 ≤ maxLen; decide
  have hS := (own_lit (w := w4) (base := w4.heap.size) 50 #[i64 0, i64 1, i64 1, .string tA, .string ⟨#[]⟩, i64 3, .slice none 0 0, i64 0, i64 0, .string ⟨#[]⟩, i64 0, i64 2, i64 3, .string tA, .string ⟨#[]⟩, i64 5, .slice none 0 0, i64 0, i64 0, .string ⟨#[]⟩, i64 0, i64 3, i64 3, .string tA, .string ⟨#[]⟩, i64 3, .slice none 0 0, i64 0, i64 0, .string ⟨#[]⟩, i64 0, i64 4, i64 7, .string tA, .string ⟨#[]⟩, i64 0, .slice none 0 0, i64 0, i64 0, .string ⟨#[]⟩] lives9L (Nat.le_refl _) rfl (by show 4 ≤ 65536; decide) (fun x hx => by
    obtain ⟨q, k, s, rfl, _⟩ := hall x hx
    exact askK_ok q k tA s hsA _ _)).sl_of
  have hFo := Lib.hid (bfold_c _ _ lives9L _ hS (fun x hx => by
    obtain ⟨q, k, s, rfl, h1, h2, h3⟩ := hall x hx
    exact askK_odB hsA h1 h2 h3) (fun x hx => by
    obtain ⟨q, k, s, rfl, _⟩ := hall x hx
    exact Nat.zero_le _) (by show 4 ≤ 60000; decide))
  have hb5 := hb4.alloc hb4.size (.cells #[i64 0, i64 1, i64 1, .string tA, .string ⟨#[]⟩, i64 3, .slice none 0 0, i64 0, i64 0, .string ⟨#[]⟩, i64 0, i64 2, i64 3, .string tA, .string ⟨#[]⟩, i64 5, .slice none 0 0, i64 0, i64 0, .string ⟨#[]⟩, i64 0, i64 3, i64 3, .string tA, .string ⟨#[]⟩, i64 3, .slice none 0 0, i64 0, i64 0, .string ⟨#[]⟩, i64 0, i64 4, i64 7, .string tA, .string ⟨#[]⟩, i64 0, .slice none 0 0, i64 0, i64 0, .string ⟨#[]⟩] 50)
  rw [lives9_told, lives9_book] at hFo
  clear hS hall hb4
  go_wp2_with fail
  generalize w4.alloc (.cells #[i64 0, i64 1, i64 1, .string tA, .string ⟨#[]⟩, i64 3, .slice none 0 0, i64 0, i64 0, .string ⟨#[]⟩, i64 0, i64 2, i64 3, .string tA, .string ⟨#[]⟩, i64 5, .slice none 0 0, i64 0, i64 0, .string ⟨#[]⟩, i64 0, i64 3, i64 3, .string tA, .string ⟨#[]⟩, i64 3, .slice none 0 0, i64 0, i64 0, .string ⟨#[]⟩, i64 0, i64 4, i64 7, .string tA, .string ⟨#[]⟩, i64 0, .slice none 0 0, i64 0, i64 0, .string ⟨#[]⟩] 50) = W5 at *
  refine hFo.out.mono ?_
  rintro e w6 ⟨a, v, B0, rfl, hB, hI, hO, h0, ha, hF⟩
  have hb6 := below_on hb5 (Nat.le_refl _) hF
  obtain ⟨A, c, rfl, hs⟩ := hO.sl
  have hc4 : 4 ≤ c := hs.1
  obtain ⟨b0, o0, rfl, _, r0, _⟩ := hs.rp (k := 0) (by decide)
  obtain ⟨b1, o1, hA1, _, r1, _⟩ := hs.rp (k := 1) (by decide)
  obtain ⟨b2, o2, hA2, _, _, _, _, r2⟩ := hs.rp (k := 2) (by decide)
  obtain ⟨b3, o3, hA3, _, s0, s1, s2, s3⟩ := hs.rp (k := 3) (by decide)
  injection hA1 with hA1
  injection hA1 with e1 e2
  subst e1 e2
  injection hA2 with hA2
  injection hA2 with e1 e2
  subst e1 e2
  injection hA3 with hA3
  injection hA3 with e1 e2
  subst e1 e2
  have r0 : w6.cell? ⟨b0, o0, none⟩ = some (i64 0) := r0
  have r1 : w6.cell? ⟨b0, o0 + 4, none⟩ = some (i64 9) := r1
  have r2 : w6.cell? ⟨b0, o0 + 8 + 3, none⟩ = some (i64 3) := r2
  have s0 : w6.cell? ⟨b0, o0 + 12, none⟩ = some (i64 0) := s0
  have s1 : w6.cell? ⟨b0, o0 + 12 + 1, none⟩ = some (i64 0) := s1
  have s2 : w6.cell? ⟨b0, o0 + 12 + 2, none⟩ = some (i64 3) := s2
  have s3 : w6.cell? ⟨b0, o0 + 12 + 3, none⟩ = some (i64 0) := s3
  have HA := Lib.hid (baccts_c a _ w6 hB hI)
  have HI := Lib.hid hI
  have HB := Lib.hid hB
  clear hF hb5 hFo hO hs hB hI h0 ha
  go_wp2_with fail
  refine HA.out.mono ?_
  rintro e w7 ⟨v7, rfl, hO, hF⟩
  obtain ⟨A7, c7, rfl, -⟩ := hO.sl
  have hb7 := below_on hb6 (Nat.le_refl _) hF
  have HB7 := Lib.hid (HB.out.later hF)
  have HH := Lib.hid (bholds_c a _ w7 HB7.out HI.out)
  clear hF hO HA HB hb6 r0 r1 r2 s0 s1 s2 s3
  go_wp2_with fail
  refine HH.out.mono ?_
  rintro e w8 ⟨v8, rfl, hO, hF⟩
  obtain ⟨A8, c8, rfl, -⟩ := hO.sl
  have hb8 := below_on hb7 (Nat.le_refl _) hF
  have HB8 := Lib.hid (HB7.out.later hF)
  have HC := Lib.hid (hCp.out a _ w8 HB8.out)
  clear hF hO HH HB7 hb7 hCp
  go_wp2_with fail
  refine HC.out.mono ?_
  rintro e w9 ⟨a9, rfl, hB9, _, hF⟩
  have hb9 := below_on hb8 (Nat.le_refl _) hF
  have HS := Lib.hid (bsame_c a a9 _ _ w9 (HB8.out.later hF) hB9 HI.out HI.out)
  rw [sameBk_refl] at HS
  clear hF hB9 HC HB8 hb8
  go_wp2_with fail
  refine HS.out.mono ?_
  rintro e w10 ⟨rfl, hF⟩
  have hb10 := below_on hb9 (Nat.le_refl _) hF
  clear hF HS hb9
  go_wp2
  go_ret
  exact ⟨rfl, hb10⟩
end Go.Proofs.YtdkkblhfjblpkaaGreat

/- accounts and holds: what is turned back -/
namespace Go.Proofs.YtdkkblhfjblpkaaGreat
open Go.RowKit
theorem sumR_in {n : Int} (h : R64 n) : sumR n = (n, 0) := by
  unfold sumR overB
  rw [decide_eq_true h.1, decide_eq_true h.2]
  rfl
section
variable {α κ : Type} [DecidableEq κ] {lt : α → α → Bool} {kf : α → κ}
theorem getK_set_same (O : KeyOrd lt kf) {L : List α} (h : SrtL lt L) {a v : α} {k : κ} (ha : a ∈ L) (e : kf v = kf a) (hk : kf a = k) : getK kf (setK kf L v) k = some v := by
  rw [← hk, ← e]
  exact getK_of O (setK_srt O h v) (List.mem_map.2 ⟨a, ha, by rw [if_pos e.symm]⟩)
theorem getK_set_ne (L : List α) {v : α} {k : κ} (e : kf v ≠ k) : getK kf (setK kf L v) k = getK kf L k := by
  unfold getK setK
  induction L with
  | nil => rfl
  | cons x r ih =>
    rw [List.map_cons]
    by_cases hx : kf x = kf v
    · rw [if_pos hx, List.find?_cons_of_neg (by simpa using e), List.find?_cons_of_neg (by simpa [hx] using e)]
      exact ih
    · rw [if_neg hx]
      by_cases hk : kf x = k
      · rw [List.find?_cons_of_pos (by simpa using hk), List.find?_cons_of_pos (by simpa using hk)]
      · rw [List.find?_cons_of_neg (by simpa using hk), List.find?_cons_of_neg (by simpa using hk)]
        exact ih
theorem setK_back (O : KeyOrd lt kf) {L : List α} (h : SrtL lt L) {a v : α} (ha : a ∈ L) (e : kf v = kf a) : setK kf (setK kf L v) a = L := by
  unfold setK
  rw [List.map_map]
  conv => rhs; rw [← List.map_id L]
  refine List.map_congr_left fun x hx => ?_
  simp only [Function.comp_def, id_eq]
  by_cases hk : kf x = kf v
  · rw [if_pos hk, if_pos e, h.one O hx ha (hk.trans e)]
  · rw [if_neg hk, if_neg (fun e2 => hk (e2.trans e.symm))]
theorem srt_unique (S : Strict lt) {l m : List α} (hp : l.Perm m) (h1 : SrtL lt l) (h2 : SrtL lt m) : l = m :=
  sorted_unique hp (h1.sorted S) (h2.sorted S) fun a ha b hb e1 e2 => by
    obtain ⟨i, hi, rfl⟩ := List.getElem_of_mem (hp.mem_iff.1 ha)
    obtain ⟨j, hj, rfl⟩ := List.getElem_of_mem (hp.mem_iff.1 hb)
    rcases Nat.lt_trichotomy i j with hij | rfl | hij
    · rw [List.pairwise_iff_getElem.1 h2 i j hi hj hij] at e1; cases e1
    · rfl
    · rw [List.pairwise_iff_getElem.1 h2 j i hj hi hij] at e2; cases e2
theorem del_ins (O : KeyOrd lt kf) {L : List α} (h : SrtL lt L) {x : α} (hn : getK kf L (kf x) = none) : delK kf (insB lt x L) (kf x) = L ∧ getK kf (insB lt x L) (kf x) = some x := by
  have hs := insB_srt O.strict x L h fun y hy => O.co _ _ fun e => getK_none.1 hn y hy e.symm
  refine ⟨srt_unique O.strict ?_ (delK_srt hs _) h, getK_of O hs ((insB_perm x L).mem_iff.2 (List.mem_cons_self ..))⟩
  unfold delK
  refine ((insB_perm x L).filter _).trans ?_
  rw [List.filter_cons_of_neg (by simp), List.filter_eq_self.2]
  intro y hy
  have := getK_none.1 hn y hy
  simpa using this
end
theorem freeA_le {a : Ac} {x : Int} (h : freeA a x = true) : -a.lim ≤ a.hav - a.set_ - x := by
  unfold freeA at h
  simp only [Bool.and_eq_true, decide_eq_true_eq] at h
  obtain ⟨h1, h2, h3⟩ := h
  rw [sumR_0 h2, sumR_0 h1] at h3
  exact h3
theorem getLR_some {L : List Ac} {k : ByteArray} {a : Ac} (h : getK Ac.name L k = some a) : getLR L k = (a, 0) := by unfold getLR; rw [h]
theorem turn_ok {D : Ac → Ac × Int} {L : List Ac} {k : ByteArray} {a : Ac} {x : Int} (hg : getK Ac.name L k = some a) (h1 : (D a).2 = 0) (h2 : ¬ 0 < x ∨ freeA a x = true) (h3 : 0 ≤ (D a).1.set_) : turnL D L k x = (0, setK Ac.name L (D a).1) := by
  unfold turnL
  rw [hg]
  dsimp only
  rw [if_neg (by rw [h1]; simp), if_neg (fun e => by rcases h2 with h | h; exact h e.1; rw [h] at e; cases e.2), if_neg (by omega)]
theorem turn_over {D : Ac → Ac × Int} {L : List Ac} {k : ByteArray} {a : Ac} {x : Int} (hg : getK Ac.name L k = some a) (h1 : (D a).2 ≠ 0) : turnL D L k x = ((D a).2, L) := by
  unfold turnL
  rw [hg]
  dsimp only
  rw [if_pos h1]
theorem sumL_two (a b : Int) : sumL [a, b] = a + b := by simp only [sumL]; omega
end Go.Proofs.YtdkkblhfjblpkaaGreat

/- book: plain laws -/
namespace Go.Proofs.YtdkkblhfjblpkaaGreat
open Go.RowKit
theorem put_cases {L : List Ac} {H : List Held} (_h : InvH L H) {y : Held} (hp : (putH L H y).1 = 0) : ∃ a : Ac, getK Ac.name L y.acct = some a ∧ 1 ≤ y.num ∧ y.num ≤ 9999 ∧ 1 ≤ y.sum ∧ freeA a y.sum = true ∧ R64 (a.set_ + y.sum) ∧
    putH L H y = (0, setK Ac.name L { a with set_ := a.set_ + y.sum }, insB ltH y H) ∧ getK Held.key H y.key = none := by
  unfold putH at hp
  by_cases h1 : y.num < 1 ∨ 9999 < y.num ∨ y.sum < 1
  · rw [if_pos h1] at hp; cases hp
  rw [if_neg h1] at hp
  by_cases h2 : (getK Held.key H y.key).isSome = true
  · rw [if_pos h2] at hp; cases hp
  rw [if_neg h2] at hp
  by_cases h3 : (ofL H y.acct).length = 8
  · rw [if_pos h3] at hp; cases hp
  rw [if_neg h3] at hp
  have hP : putH L H y = (0, (turnL (asiD y.sum) L y.acct y.sum).2, insB ltH y H) := by
    unfold putH
    rw [if_neg h1, if_neg h2, if_neg h3]
    dsimp only at hp ⊢
    rw [if_pos hp, hp]
  rcases turnL_cases (asiD y.sum) L y.acct y.sum with ⟨e0, _⟩ | ⟨e0, a, ha, hz, hge, hfr, e⟩
  · exact absurd hp e0
  have hrs : R64 (a.set_ + y.sum) := by have := sumR_R64 (a.set_ + y.sum); rwa [sumR_0 hz] at this
  exact ⟨a, ha, by omega, by omega, by omega, hfr (by omega), hrs, by rw [hP, e, asiD_0 hz], by simpa using h2⟩
/-- what is held and freed is as it was -/
theorem put_free {L : List Ac} {H : List Held} (h : InvH L H) {y : Held} (hp : (putH L H y).1 = 0) : ∃ a : Ac, getK Ac.name L y.acct = some a ∧ 1 ≤ y.sum ∧ freeHL (putH L H y).2.1 (putH L H y).2.2 y.acct y.num = (0, L, H) ∧
    getLR (putH L H y).2.1 y.acct = ({ a with set_ := a.set_ + y.sum }, 0) ∧ R64 (a.set_ + y.sum) ∧ getK Held.key H y.key = none := by
  obtain ⟨a, ha, _, _, hs, hf, hrs, hP, hno⟩ := put_cases h hp
  rw [hP]
  dsimp only
  obtain ⟨ham, hak⟩ := getK_mem ha
  have hoa := h.okA a ham
  obtain ⟨hd1, hd2⟩ := del_ins keyH h.srtH hno
  have hg1 : getK Ac.name (setK Ac.name L { a with set_ := a.set_ + y.sum }) y.acct = some { a with set_ := a.set_ + y.sum } := getK_set_same keyA h.srtA ham rfl hak
  have ht : turnL (asiD (-y.sum)) (setK Ac.name L { a with set_ := a.set_ + y.sum }) y.acct (-y.sum) = (0, L) := by
    have e3 : a.set_ + y.sum + -y.sum = a.set_ := by omega
    rw [turn_ok hg1 (by show (sumR (a.set_ + y.sum + -y.sum)).2 = 0; rw [e3, sumR_in hoa.1.2.1]) (.inl (by omega)) (by show 0 ≤ (sumR (a.set_ + y.sum + -y.sum)).1; rw [e3, sumR_in hoa.1.2.1]; exact hoa.2.1)]
    show (_, setK Ac.name _ { a with set_ := (sumR (a.set_ + y.sum + -y.sum)).1 }) = _
    rw [e3, sumR_in hoa.1.2.1]
    exact congrArg (Prod.mk 0) (setK_back keyA h.srtA ham rfl)
  refine ⟨a, ha, hs, ?_, getLR_some hg1, hrs, hno⟩
  rw [freeHL_of hd2 (by rw [ht]; simp), ht]
  show (0, L, delK Held.key (insB ltH y H) y.key) = _
  rw [hd1]
theorem getLR_ss {L L' : List Ac} (h : SS L L') (k : ByteArray) : (getLR L k).2 = (getLR L' k).2 := by
  have key : ∀ {A C : List Ac}, SS A C → getK Ac.name A k = none → getK Ac.name C k = none := fun {A C} hs hn => getK_none.2 fun a ha e => by
    obtain ⟨b, hb, eb⟩ := hs.mem ha
    exact getK_none.1 hn b hb (by rw [← e]; exact congrArg Prod.fst eb)
  unfold getLR
  cases h1 : getK Ac.name L k with
  | none => rw [key h h1]
  | some a =>
    cases h2 : getK Ac.name L' k with
    | none => rw [key h.symm h2] at h1; cases h1
    | some b => rfl
theorem getLR_turn {D : Ac → Ac × Int} (hD : ∀ a, (D a).1.name = a.name) {L : List Ac} (hs : SrtL ltA L) {k : ByteArray} {x : Int} (h : (turnL D L k x).1 = 0) : (getLR (turnL D L k x).2 k).2 = 0 := by
  rcases turnL_cases D L k x with ⟨e, _⟩ | ⟨_, a, ha, _, _, _, e⟩
  · exact absurd h e
  · obtain ⟨ham, hak⟩ := getK_mem ha
    rw [e, getLR_some (getK_set_same keyA hs ham (hD a) hak)]
theorem getLR_open {L : List Ac} (hs : SrtL ltA L) {k : ByteArray} {lim : Int} (h : (openL L k lim).1 = 0) : getLR (openL L k lim).2 k = (⟨k, 0, 0, lim⟩, 0) := by
  rcases openL_cases L k lim with ⟨e, _⟩ | ⟨_, _, _, hg, _, e⟩
  · exact absurd h e
  · rw [e]
    have hs2 := insB_srt keyA.strict ⟨k, 0, 0, lim⟩ L hs fun y hy => keyA.co _ _ fun e => getK_none.1 hg y hy e.symm
    exact getLR_some (getK_of keyA hs2 (a := ⟨k, 0, 0, lim⟩) ((insB_perm _ L).mem_iff.2 (List.mem_cons_self ..)))
theorem getLR_put {L : List Ac} {H : List Held} (h : InvH L H) {y : Held} (hp : (putH L H y).1 = 0) : (getLR (putH L H y).2.1 y.acct).2 = 0 := by
  obtain ⟨a, _, _, _, e, _⟩ := put_free h hp
  rw [e]
theorem getLR_free {L : List Ac} {H : List Held} (hs : SrtL ltA L) {k : ByteArray} {n : Int} (h : (freeHL L H k n).1 = 0) : (getLR (freeHL L H k n).2.1 k).2 = 0 := by
  unfold freeHL at *
  cases hg : getK Held.key H ⟨k, n⟩ with
  | none => rw [hg] at h; cases h
  | some y => rw [hg] at h; exact getLR_turn (fun _ => rfl) hs h
theorem freeHL_srt {L : List Ac} (H : List Held) (hs : SrtL ltA L) (k : ByteArray) (n : Int) : SrtL ltA (freeHL L H k n).2.1 := by
  unfold freeHL
  cases getK Held.key H ⟨k, n⟩ with
  | none => exact hs
  | some y => exact turnL_srt hs _ _
theorem getLR_take {L : List Ac} {H : List Held} (hs : SrtL ltA L) {k p : ByteArray} {n s : Int} (h : (takeH L H k n p s).1 = 0) : (getLR (takeH L H k n p s).2.1 k).2 = 0 := by
  unfold takeH at *
  cases hg : getK Held.key H ⟨k, n⟩ with
  | none => rw [hg] at h; cases h
  | some y =>
    rw [hg] at h
    dsimp only at h ⊢
    by_cases h1 : s < 1 ∨ y.sum < s
    · rw [if_pos h1] at h; cases h
    rw [if_neg h1] at h ⊢
    by_cases h2 : (turnL (asiD (-y.sum)) L k (-y.sum)).1 ≠ 0
    · rw [if_pos h2] at h; exact absurd h h2
    rw [if_neg h2] at h ⊢
    by_cases h3 : checkL (turnL (asiD (-y.sum)) L k (-y.sum)).2 (legs2 k p s) ≠ 0
    · rw [if_pos h3] at h; exact absurd h h3
    rw [if_neg h3] at h ⊢
    show (getLR (makeL (freeHL L H k n).2.1 (legs2 k p s)).2 k).2 = 0
    rw [← getLR_ss (makeL_ss (freeHL_srt H hs k n) (legs2 k p s)).1]
    refine getLR_free hs ?_
    rw [freeHL_of hg h2]
theorem tells_err {L : List Ac} {k : ByteArray} {e : Int} (h : (tellsL L k e).err ≠ 0) : tellsL L k e = rpE (tellsL L k e).err := by
  unfold tellsL at *
  split
  · rfl
  · split
    · rfl
    · rename_i h1 h2
      rw [if_neg h1, if_neg h2] at h
      exact absurd rfl h
theorem tells_ok {L : List Ac} {k : ByteArray} (h : (getLR L k).2 = 0) : tellsL L k 0 = ⟨0, (getLR L k).1.hav, (getLR L k).1.set_, 0⟩ := by
  unfold tellsL
  rw [if_neg (fun e => e rfl), if_neg (fun e => e h)]
theorem tells_of {L : List Ac} {k : ByteArray} {e : Int} (he : e ≠ 0) : tellsL L k e = rpE e := by unfold tellsL; rw [if_pos he]
theorem openL_err {L : List Ac} {k : ByteArray} {lim : Int} (h : (openL L k lim).1 ≠ 0) : (openL L k lim).2 = L := by
  rcases openL_cases L k lim with ⟨_, e⟩ | ⟨e, _⟩
  · exact e
  · exact absurd e h
theorem makeL_err {L : List Ac} {l : List Leg} (h : (makeL L l).1 ≠ 0) : (makeL L l).2 = L := by
  by_cases hc : checkL L l = 0
  · exact absurd (make_of_check hc).2 h
  · unfold makeL
    rw [if_pos hc]
/-- an error changes nothing, and tells nothing else -/
theorem doL_err {B : Bk} (hI : InvB B) {x : Od} (h : (doL B x).1.err ≠ 0) : (doL B x).2 = B ∧ (doL B x).1 = rpE (doL B x).1.err := by
  have hs := hI.inv.srtA
  unfold doL at *
  by_cases hr : rightB x = false
  · rw [if_pos hr]; exact ⟨rfl, rfl⟩
  rw [if_neg hr] at h ⊢
  unfold kindD at *
  have key : ∀ (L : List Ac) (H : List Held) (e : Int), (tellsL L x.acct e).err ≠ 0 → (e = 0 → (getLR L x.acct).2 = 0) → e ≠ 0 := fun L H e h1 h2 e0 => h1 (by subst e0; rw [tells_ok (h2 rfl)])
  by_cases k1 : x.kind = 1
  · rw [if_pos k1] at h ⊢
    have he := key _ [] _ h (fun e => by rw [getLR_open hs e])
    exact ⟨Bk.ext_ (openL_err he) rfl rfl, tells_err h⟩
  rw [if_neg k1] at h ⊢
  by_cases k2 : x.kind = 2
  · rw [if_pos k2] at h ⊢
    unfold postD at *
    split at h
    · rename_i hp; rw [if_pos hp]; exact ⟨rfl, rfl⟩
    · rename_i hp; rw [if_neg hp]; exact ⟨Bk.ext_ (makeL_err h) rfl rfl, rfl⟩
  rw [if_neg k2] at h ⊢
  by_cases k3 : x.kind = 3
  · rw [if_pos k3] at h ⊢
    unfold holdD withN at *
    have h' : (tellsL (putH B.L B.H ⟨numO x, x.acct, x.sum⟩).2.1 x.acct (putH B.L B.H ⟨numO x, x.acct, x.sum⟩).1).err ≠ 0 := by
      dsimp only at h
      split at h
      · exact h
      · assumption
    have he := key _ [] _ h' (fun e => getLR_put hI.inv (y := ⟨numO x, x.acct, x.sum⟩) e)
    have e2 := putH_err he
    dsimp only
    rw [if_neg h']
    exact ⟨Bk.ext_ (by rw [e2]) (by rw [e2]) rfl, tells_err h'⟩
  rw [if_neg k3] at h ⊢
  by_cases k4 : x.kind = 4
  · rw [if_pos k4] at h ⊢
    unfold capD at *
    split at h
    · rename_i hp; rw [if_pos hp]; exact ⟨rfl, rfl⟩
    · rename_i hp
      rw [if_neg hp]
      have he := key _ [] _ h (fun e => getLR_take hs e)
      have e2 := takeH_err he
      exact ⟨Bk.ext_ (by rw [e2]) (by rw [e2]) rfl, tells_err h⟩
  rw [if_neg k4] at h ⊢
  by_cases k5 : x.kind = 5
  · rw [if_pos k5] at h ⊢
    have he := key _ [] _ h (fun e => getLR_free hs e)
    have e2 := freeHL_err he
    exact ⟨Bk.ext_ (by show (relD B x).2.L = _; unfold relD; rw [e2]) (by show (relD B x).2.H = _; unfold relD; rw [e2]) rfl, tells_err h⟩
  rw [if_neg k5] at h ⊢
  by_cases k6 : x.kind = 6
  · rw [if_pos k6] at h ⊢
    unfold shutD at *
    split at h
    · rename_i hp; rw [if_pos hp]; exact ⟨rfl, rfl⟩
    · exact absurd rfl h
  rw [if_neg k6] at h ⊢
  exact ⟨rfl, tells_err h⟩
theorem doL_ask (B : Bk) {x : Od} (h : x.kind = 7) : (doL B x).2 = B := by
  unfold doL
  by_cases hr : rightB x = false
  · rw [if_pos hr]
  rw [if_neg hr]
  unfold kindD
  rw [if_neg (by omega), if_neg (by omega), if_neg (by omega), if_neg (by omega), if_neg (by omega), if_neg (by omega)]
  rfl
end Go.Proofs.YtdkkblhfjblpkaaGreat

/- Texts in order, none twice: what order.Touches and its reference make. No program -/
namespace Go.Proofs.YtdkkblhfjblpkaaGreat
open Go.RowKit
def StrictB (l : List ByteArray) : Prop := l.Pairwise fun x y => bless x y = true
theorem mem_compactL {s : ByteArray} {l : List ByteArray} : s ∈ compactL l ↔ s ∈ l := by
  induction l using compactL.induct with
  | case1 => simp [compactL]
  | case2 x => simp [compactL]
  | case3 y r ih => rw [compactL, if_pos rfl, ih]; simp
  | case4 x y r hne ih => rw [compactL, if_neg hne, List.mem_cons, ih]; simp
theorem bless_asymm {a b : ByteArray} (h : bless a b = true) : bless b a = false := by
  cases hb : bless b a with
  | false => rfl
  | true =>
    have := bless_strict.trans _ _ _ h hb
    rw [bless_strict.irr] at this
    cases this
theorem compactL_strict {l : List ByteArray} (h : SortedB bless l) : StrictB (compactL l) := by
  induction l using compactL.induct with
  | case1 => exact List.Pairwise.nil
  | case2 x => exact List.pairwise_singleton _ _
  | case3 y r ih => rw [compactL, if_pos rfl]; exact ih (List.pairwise_cons.1 h).2
  | case4 x y r hne ih =>
    rw [compactL, if_neg hne]
    have h1 := List.pairwise_cons.1 h
    refine List.pairwise_cons.2 ⟨fun z hz => ?_, ih h1.2⟩
    have hz := mem_compactL.1 hz
    have hxy : bless x y = true := by
      cases hb : bless x y with
      | true => rfl
      | false => exact absurd (bless_tri hb (h1.1 y (by simp))) hne
    rcases List.mem_cons.1 hz with rfl | hzr
    · exact hxy
    · cases hb : bless x z with
      | true => rfl
      | false =>
        have := bless_tri hb (h1.1 z hz)
        subst this
        rw [(List.pairwise_cons.1 h1.2).1 x hzr] at hxy
        cases hxy
theorem strict_unique : ∀ {l m : List ByteArray}, StrictB l → StrictB m → (∀ s, s ∈ l ↔ s ∈ m) → l = m
  | [], [], _, _, _ => rfl
  | [], y :: s, _, _, h => absurd ((h y).2 (by simp)) (by simp)
  | x :: r, [], _, _, h => absurd ((h x).1 (by simp)) (by simp)
  | x :: r, y :: s, hl, hm, h => by
    have h1 := List.pairwise_cons.1 hl
    have h2 := List.pairwise_cons.1 hm
    have hxy : x = y := by
      rcases List.mem_cons.1 ((h x).1 (by simp)) with e | e
      · exact e
      · rcases List.mem_cons.1 ((h y).2 (by simp)) with e' | e'
        · exact e'.symm
        · have g1 := h2.1 x e
          have g2 := h1.1 y e'
          rw [bless_asymm g1] at g2
          cases g2
    subst hxy
    have hx : ∀ {t : List ByteArray}, (∀ z ∈ t, bless x z = true) → x ∉ t := fun ht hx => by
      have := ht x hx
      rw [bless_strict.irr] at this
      cases this
    rw [strict_unique h1.2 h2.2 fun z => ?_]
    have hz := h z
    simp only [List.mem_cons] at hz
    by_cases e : z = x
    · subst e
      exact ⟨fun hr => absurd hr (hx h1.1), fun hs => absurd hs (hx h2.1)⟩
    · simpa [e] using hz
/-- out holds the texts of done that are not empty, in order, none twice -/
def GoodT (out done : List ByteArray) : Prop := StrictB out ∧ ∀ s, s ∈ out ↔ s ∈ done ∧ nonE s = true
theorem GoodT.nil : GoodT [] [] := ⟨List.Pairwise.nil, fun s => by simp⟩
theorem GoodT.skip {out done : List ByteArray} {a : ByteArray} (h : GoodT out done) (ha : nonE a = false ∨ a ∈ out) : GoodT out (done ++ [a]) := by
  refine ⟨h.1, fun s => ?_⟩
  rw [h.2 s]
  simp only [List.mem_append, List.mem_singleton]
  constructor
  · rintro ⟨h1, h2⟩; exact ⟨.inl h1, h2⟩
  · rintro ⟨h1 | rfl, h2⟩
    · exact ⟨h1, h2⟩
    · rcases ha with ha | ha
      · rw [ha] at h2; cases h2
      · exact (h.2 s).1 ha
theorem GoodT.ins {out done : List ByteArray} {a : ByteArray} {k : Nat} (h : GoodT out done) (hk : k ≤ out.length) (hup : ∀ j (hj : j < out.length), k ≤ j → bless a out[j] = true) (hlo : ∀ (hk0 : 0 < k), bless a (out[k - 1]'(by omega)) = false ∧ out[k - 1]'(by omega) ≠ a) (hne : nonE a = true) :
    GoodT (out.take k ++ [a] ++ out.drop k) (done ++ [a]) := by
  have hlow : ∀ z ∈ out.take k, bless z a = true := fun z hz => by
    obtain ⟨j, hj, rfl⟩ := List.getElem_of_mem hz
    rw [List.length_take] at hj
    rw [List.getElem_take]
    obtain ⟨h1, h2⟩ := hlo (by omega)
    have h3 : bless (out[k - 1]'(by omega)) a = true := by
      cases hb : bless (out[k - 1]'(by omega)) a with
      | true => rfl
      | false => exact absurd (bless_tri hb h1) h2
    by_cases e : j = k - 1
    · subst e; exact h3
    · exact bless_strict.trans _ _ _ (List.pairwise_iff_getElem.1 h.1 j (k - 1) (by omega) (by omega) (by omega)) h3
  have hhigh : ∀ z ∈ out.drop k, bless a z = true := fun z hz => by
    obtain ⟨j, hj, rfl⟩ := List.getElem_of_mem hz
    rw [List.length_drop] at hj
    rw [List.getElem_drop]
    exact hup (k + j) (by omega) (by omega)
  refine ⟨?_, fun s => ?_⟩
  · refine List.pairwise_append.2 ⟨List.pairwise_append.2 ⟨List.Pairwise.sublist (List.take_sublist _ _) h.1, List.pairwise_singleton _ _, fun z hz y hy => ?_⟩, List.Pairwise.sublist (List.drop_sublist _ _) h.1, fun z hz y hy => ?_⟩
    · rw [List.mem_singleton.1 hy]; exact hlow z hz
    · rcases List.mem_append.1 hz with hz | hz
      · exact bless_strict.trans _ _ _ (hlow z hz) (hhigh y hy)
      · rw [List.mem_singleton.1 hz]; exact hhigh y hy
  · have hmem : s ∈ out ↔ s ∈ out.take k ∨ s ∈ out.drop k := by rw [← List.mem_append, List.take_append_drop]
    simp only [List.mem_append, List.mem_singleton]
    constructor
    · rintro ((h1 | rfl) | h1)
      · have := (h.2 s).1 (hmem.2 (.inl h1)); exact ⟨.inl this.1, this.2⟩
      · exact ⟨.inr rfl, hne⟩
      · have := (h.2 s).1 (hmem.2 (.inr h1)); exact ⟨.inl this.1, this.2⟩
    · rintro ⟨h1 | rfl, h2⟩
      · rcases hmem.1 ((h.2 s).2 ⟨h1, h2⟩) with h3 | h3
        · exact .inl (.inl h3)
        · exact .inr h3
      · exact .inl (.inr rfl)
theorem GoodT.touches {x : Od} {out : List ByteArray} (h : GoodT out (x.acct :: x.peer :: x.legs.map Leg.acct)) : out = touches x := by
  refine strict_unique h.1 (compactL_strict (sortB_sorted bless_strict _)) fun s => ?_
  rw [h.2 s]
  show _ ↔ s ∈ compactL (sortS _)
  rw [mem_compactL, (sortB_perm (lt := bless) _).mem_iff, List.mem_filter]
end Go.Proofs.YtdkkblhfjblpkaaGreat
