/- ref11.Steps -/
import Derived.Test.YtdkkblhfjblpkaaGreatRows
import Derived.Test.YtdkkblhfjblpkaaGreatBfRf11P
import Derived.Test.YtdkkblhfjblpkaaGreatBfFoAlike
import Derived.Test.YtdkkblhfjblpkaaGreatBi17
import Derived.Test.YtdkkblhfjblpkaaGreatBi20
import Derived.Test.YtdkkblhfjblpkaaGreatBfRTouch
import Derived.Test.YtdkkblhfjblpkaaGreatBi8
import Derived.Test.YtdkkblhfjblpkaaGreatBfOwnN
import Derived.Test.YtdkkblhfjblpkaaGreatBfOperLit
import Derived.Deep.CutBlock
import Derived.WalkKit
import Derived.WalkSpells
import Derived.WalkLawsBesides
import Derived.Deep.QuietTactic
import Derived.BigQuiet
import Derived.Laws.StructEq
import Derived.Deep.DeepFit
import Derived.StillTailTactics
namespace Go.Proofs.YtdkkblhfjblpkaaGreat
open Go.RowKit
theorem SlS.od_at {w : World} {S : Nat → Prop} {c b o : Nat} {l : List Od} (h : SlS w S (some ⟨b, o, none⟩) c l) {k : Nat} (hk : k < l.length) : Od.Ok w S l[k] ∧ w.cell? ⟨b, o + k * 10, none⟩ = some (i64 l[k].client) ∧ w.cell? ⟨b, o + k * 10 + 1, none⟩ = some (i64 l[k].seq) ∧ w.cell? ⟨b, o + k * 10 + 2, none⟩ = some (i64 l[k].kind) ∧ w.cell? ⟨b, o + k * 10 + 3, none⟩ = some (.string l[k].acct) ∧ w.cell? ⟨b, o + k * 10 + 4, none⟩ = some (.string l[k].peer) ∧ w.cell? ⟨b, o + k * 10 + 5, none⟩ = some (i64 l[k].sum) ∧ w.cell? ⟨b, o + k * 10 + 6, none⟩ = some (.slice l[k].la l[k].legs.length l[k].lc) ∧ w.cell? ⟨b, o + k * 10 + 7, none⟩ = some (i64 l[k].period) ∧ w.cell? ⟨b, o + k * 10 + 8, none⟩ = some (i64 l[k].hold) ∧ w.cell? ⟨b, o + k * 10 + 9, none⟩ = some (.string l[k].note) := by
  obtain ⟨b', o', hA, _, hok, hc⟩ := h.od hk
  injection hA with hA
  injection hA with h1 h2
  subst h1 h2
  exact ⟨hok, hc⟩
theorem inf_svs : (Tryz.prog.info? 22).map (fun i => (i.zero, i.size, i.bytes)) = some (some (.slice none 0 0), Enc.size (SV Od), 24) := by kernel_rfl
def lenV : Value → Nat
  | .slice _ n _ => n
  | _ => 0
theorem rest_lt {l : List Od} {s : Nat} (h : (restS l s).length ≠ 0) : (restS l (s + 1)).length < (restS l s).length := by
  have e : restS l (s + 1) = restS (restS l s) 1 := (rest_rest l s 1).symm
  rw [e]
  generalize restS l s = M at *
  have h0 : 0 < M.length := by omega
  have hm := levP_get (l := M) h0
  have hin : (M[0], lvAt (levP (M.take 0)) M[0]) ∈ levP M := by rw [← hm]; exact List.getElem_mem _
  have hlt : ((levP M).filter fun p => decide (((1 : Nat) : Int) < p.2)).length < (levP M).length := by
    rcases Nat.lt_or_ge ((levP M).filter fun p => decide (((1 : Nat) : Int) < p.2)).length (levP M).length with h1 | h1
    · exact h1
    · have h2 := List.length_filter_eq_length_iff.1 (Nat.le_antisymm (List.length_filter_le _ _) h1) _ hin
      have h3 : lvAt (levP (M.take 0)) M[0] = 1 := by rw [List.take_zero]; rfl
      rw [h3] at h2
      simp at h2
  unfold restS
  rw [List.length_map]
  rw [levP_len] at hlt
  exact hlt
theorem own_beside {w1 w2 : World} {B B0 : Nat} {e : TypeId} {t : Value} {T : List Od} {row : Option Nat} (hT : Own w1 B e t T) (hg : w1.grownBy w2 row) (hap : t.ownBlock = none ∨ t.ownBlock ≠ row) (hx : ∀ y ∈ T, Enc.ok w1 (fun b => b < B0) y) (hB : B0 ≤ B) (h1 : B0 ≤ w1.heap.size) (hrow : ∀ b, row = some b → B ≤ b) : Own w2 B e t T :=
  hT.grown hg hap (fun y hy => Enc.keep (hx y hy) (fun _ _ => rfl) (fun b hb => ⟨by omega, fun e => by have := (hT.1.lt b e.symm).1; omega, fun e => by have := hrow b e.symm; omega⟩))
theorem rest_lt0 (l : List Od) : restS l 0 = l := rest_zero l
set_option maxRecDepth 100000 in
set_option maxHeartbeats 16000000 in
theorem rsteps_c (A : Option Addr) (c : Nat) (l : List Od) (w : World) (h : Sl w w.heap.size A c l) (hn : l.length ≤ 60000) (hl : ∀ x ∈ l, x.legs.length ≤ 10) :
    Calls Tryz.prog 17 #[.slice A l.length c] w fun e w' => ∃ (v : Value) (L : List (SV Od)), e = .returned v ∧ Own w' w.heap.size 22 v L ∧ L.map SV.l = stepsL l ∧ Below w.heap.size w w' := by
  have hR0 : Calls Tryz.prog 62 #[.slice A l.length c] w fun e w' => e = .returned (.bool (validL l)) ∧ Below w.heap.size w w' := rright10_c A c l w h (by omega)
  have HR := Lib.hid hR0
  have H := Lib.hid h
  have Hl := Lib.hid hl
  clear h hl hR0
  cases hv : validL l
  · rw [hv] at HR
    have Hs := Lib.hid (show stepsL l = [] by unfold stepsL; rw [hv]; rfl)
    clear hv
    go_enter Tryz.func17, Tryz.ntmps17
    go_wp2_with fail
    refine HR.out.mono ?_
    rintro e w1 ⟨rfl, hb⟩
    go_wp2
    go_ret
    exact ⟨_, [], rfl, Own.nil_ _ _ _, by rw [Hs.out]; rfl, hb⟩
  · rw [hv] at HR
    have Hs := Lib.hid (stepsL_val (validL_iff.1 hv))
    have Hv := Lib.hid (validL_iff.1 hv)
    have Hox : Hid (∀ W, Below w.heap.size w W → ∀ x ∈ l, Enc.ok W (fun b => b < w.heap.size) x) := Lib.hid fun W hW x hx => (H.out.below hW).2.2.2 x hx
    clear hv
    go_enter Tryz.func17, Tryz.ntmps17
    go_wp2_with fail
    refine HR.out.mono ?_
    rintro e w1 ⟨rfl, hb⟩
    clear HR
    go_wp2_with fail
    go_loopw [0, 3] (fun lv ov wr => ∃ (s : Nat) (M : List Od) (AM : Option Addr) (cM : Nat) (o : Value) (Lo : List (SV Od)), lv = .slice AM M.length cM ∧ o = ov ∧ Hid (M = restS l s) ∧ Sl wr wr.heap.size AM cM M ∧ Own wr w.heap.size 22 o Lo ∧ Hid (Lo.map SV.l = (stepsV l).take s) ∧ Hid (Lo.length ≤ s ∧ (s ≤ l.length)) ∧ Below w.heap.size w wr) (fun lv _ _ => lenV lv)
    case atStart => exact ⟨0, l, A, c, _, [], rfl, rfl, Lib.hid (rest_zero l).symm, H.out.later hb, Own.nil_ _ _ _, Lib.hid (by rw [List.take_zero]; rfl), Lib.hid ⟨Nat.le_refl _, Nat.zero_le _⟩, hb⟩
    case round =>
      clear hb
      obtain ⟨s, M, AM, cM, o, Lo, rfl, rfl, HMr, hM, hO, HLo, Hlo, hb⟩ := hrel
      obtain ⟨wo, rfl⟩ : ∃ wo, wo = wr := ⟨wr, rfl⟩
      have HO := Lib.hid hO
      have hMl : M.length ≤ 60000 := by rw [HMr.out]; exact Nat.le_trans (restS_le l s) hn
      have hMc : M.length ≤ cM := hM.1
      clear hO
      by_cases hpos : 0 < M.length
      · have g1 : decide ((M.length : Int) > 0) = true := decide_eq_true (by omega)
        have g2 : decide (0 < M.length) = true := decide_eq_true hpos
        have g3 : decide (0 < (M.length : Int)) = true := decide_eq_true (by omega)
        obtain ⟨bM, oM, rfl, -, -⟩ := hM.2.2.1 hpos
        have HM : Hid (∀ W, Below wo.heap.size wo W → Sl W W.heap.size (some ⟨bM, oM, none⟩) cM M) := Lib.hid fun W hW => hM.later hW
        have Hml := Lib.hid (show ∀ x ∈ M, x ∈ l from fun x hx => by rw [HMr.out] at hx; exact mem_restS hx)
        have hb1 := Below.refl wo.heap.size wo
        clear hM
        go_wp2_with fail
        go_loopw [4, 5, 6] (fun tv rv iv wr => ∃ (i : Nat) (t r : Value) (T R : List Od), t = tv ∧ r = rv ∧ iv = i64 i ∧ i ≤ M.length ∧ Hid (SI M i T R) ∧ Own wr wo.heap.size 50 t T ∧ Own wr wo.heap.size 50 r R ∧ Hid (t.ownBlock = none ∨ t.ownBlock ≠ r.ownBlock) ∧ Below wo.heap.size wo wr) (fun _ _ iv _ => M.length - (intOf iv).toNat)
        case atStart => exact ⟨0, _, _, [], [], rfl, rfl, rfl, Nat.zero_le _, Lib.hid (SI.zero M), Own.nil_ _ _ _, Own.nil_ _ _ _, Lib.hid (.inl rfl), hb1⟩
        case round =>
          clear hb1
          obtain ⟨i, t, r, T, R, rfl, rfl, rfl, hi, HSI, hT, hR, Hap, hbi⟩ := hrel
          obtain ⟨wi, rfl⟩ : ∃ wi, wi = wr := ⟨wr, rfl⟩
          have HT := Lib.hid hT
          have HRr := Lib.hid hR
          have Htl := Lib.hid HSI.out.len
          have hTl : T.length ≤ 60000 := Nat.le_trans Htl.out.1 hMl
          clear hT hR
          by_cases hlt : i < M.length
          · have g4 : decide ((i : Int) < (M.length : Int)) = true := decide_eq_true (by omega)
            have g5 : decide (i < M.length) = true := decide_eq_true hlt
            have i0 : (0 : Int) ≤ (i : Int) := by omega
            have i1 : (i : Int) < (M.length : Int) := by omega
            have Hfr := Lib.hid (show ∀ q : Nat, freeAt M i i M[i] = true → (∀ t ∈ T.drop q, ltO M[i] t = true) → (∀ t ∈ T.take q, ltO t M[i] = true) → SI M (i + 1) (T.take q ++ [M[i]] ++ T.drop q) R from fun q hf h1 h2 => HSI.out.free hlt hf h1 h2)
            have Hhe := Lib.hid (show freeAt M i i M[i] = false → SI M (i + 1) T (R ++ [M[i]]) from fun hf => HSI.out.held hlt hf)
            have Hxm := Lib.hid (Hml.out _ (List.getElem_mem hlt))
            have Hxid := Lib.hid (show ∀ t ∈ T, t.id ≠ M[i].id from fun t ht => by
              have hvm : Val M := by rw [HMr.out]; unfold restS; exact val_filter (by rw [levP_fst]; exact Hv.out) _
              obtain ⟨n, hn, e⟩ := mem_take_get.1 (HSI.out.mem_T ht)
              obtain ⟨hnl, rfl⟩ := List.getElem?_eq_some_iff.1 e
              exact (List.pairwise_iff_getElem.1 hvm) n i hnl hlt hn)
            have HCi : Hid (∀ W, Below wo.heap.size wo W → Okb W W.heap.size M[i] ∧ W.cell? ⟨bM, oM + i * 10, none⟩ = some (i64 M[i].client) ∧ W.cell? ⟨bM, oM + i * 10 + 1, none⟩ = some (i64 M[i].seq) ∧ W.cell? ⟨bM, oM + i * 10 + 2, none⟩ = some (i64 M[i].kind) ∧ W.cell? ⟨bM, oM + i * 10 + 3, none⟩ = some (.string M[i].acct) ∧ W.cell? ⟨bM, oM + i * 10 + 4, none⟩ = some (.string M[i].peer) ∧ W.cell? ⟨bM, oM + i * 10 + 5, none⟩ = some (i64 M[i].sum) ∧ W.cell? ⟨bM, oM + i * 10 + 6, none⟩ = some (.slice M[i].la M[i].legs.length M[i].lc) ∧ W.cell? ⟨bM, oM + i * 10 + 7, none⟩ = some (i64 M[i].period) ∧ W.cell? ⟨bM, oM + i * 10 + 8, none⟩ = some (i64 M[i].hold) ∧ W.cell? ⟨bM, oM + i * 10 + 9, none⟩ = some (.string M[i].note)) := Lib.hid fun W hW => (HM.out W hW).od_at hlt
            have Hca : Hid (∀ k (hk : k < i) W, Below wo.heap.size wo W → Calls Tryz.prog 71 #[(M[k]'(by omega)).v, M[i].v] W fun e w' => e = .returned (.bool (clashB (M[k]'(by omega)) M[i])) ∧ Below W.heap.size W w') := Lib.hid fun k hk W hW => rclash_c rtouches_c (M[k]'(by omega)) M[i] W ((HM.out W hW).od_at (by omega)).1 ((HM.out W hW).od_at hlt).1 (Hl.out _ (Hml.out _ (List.getElem_mem _))) (Hl.out _ (Hml.out _ (List.getElem_mem _)))
            obtain ⟨x, hx⟩ : ∃ x, M[i] = x := ⟨_, rfl⟩
            rw [hx] at Hfr Hhe Hxm Hxid HCi
            have Hx := Lib.hid hx
            simp only [hx] at Hca
            clear hx
            have hbz := hbi
            go_wp2_with fail
            go_loopw [7, 8] (fun fv kv wr => ∃ k : Nat, fv = .bool (freeAt M i k x) ∧ kv = i64 k ∧ k ≤ i ∧ Below wo.heap.size wo wr ∧ Below wi.heap.size wi wr) (fun _ kv _ => i - (intOf kv).toNat)
            case atStart => exact ⟨0, by unfold freeAt; rw [List.take_zero]; rfl, rfl, Nat.zero_le _, hbi, Below.refl _ _⟩
            case round =>
              clear hbz
              obtain ⟨k, rfl, rfl, hk, hbw, hbz⟩ := hrel
              by_cases hki : k < i
              · have g6 : decide ((k : Int) < (i : Int)) = true := decide_eq_true (by omega)
                have g7 : decide (k < i) = true := decide_eq_true hki
                have k0 : (0 : Int) ≤ (k : Int) := by omega
                have k1 : (k : Int) < (M.length : Int) := by omega
                have hkM : k < M.length := by omega
                have Hn := Lib.hid (freeAt_next (o := x) hki (by omega))
                cases hfk : freeAt M i k x
                · have Hn2 := Lib.hid (show freeAt M i (k + 1) x = false by rw [Hn.out, hfk]; rfl)
                  have hS : ∀ V, Below wr.heap.size wr V → (fun V : World => Below wr.heap.size wr V ∧ True) V := fun V hV => ⟨hV, trivial⟩
                  have HS := Lib.hid hS
                  clear hS hfk Hn
                  as_aux_lemma =>
                  go_upto_region 13 with fail
                  refine wp_region_noPanic ?_
                  refine wp_region_l 13 (fun V : World => Below wr.heap.size wr V ∧ True) (by kernel_rfl) (HS.out _ (Below.refl _ _).drew) (fun hH => ?_)
                  refine wpAnyL_take (i := 0) (v := ?v20013) rfl (by kernel_rfl) (by kernel_rfl) (by kernel_rfl) (by kernel_rfl) (fun _ _ _ h => h) (Or.inl ⟨by kernel_rfl, ?hy20013⟩) (by assumption) ?r20013
                  case hy20013 => (intro W hSW; obtain ⟨hV0, _⟩ := hSW; go_simp; try with_reducible rfl)
                  try simp only [Act.put, List.getElem_toArray, List.getElem_cons_zero, List.setIfInBounds_toArray, List.set_cons_zero, List.set_cons_succ]
                  refine wpAnyL_take (i := 1) (v := ?v20014) rfl (by kernel_rfl) (by kernel_rfl) (by kernel_rfl) (by kernel_rfl) (fun _ _ _ h => h) (Or.inl ⟨by kernel_rfl, ?hy20014⟩) (by assumption) ?r20014
                  case hy20014 => (intro W hSW; obtain ⟨hV0, _⟩ := hSW; go_simp; try with_reducible rfl)
                  try simp only [Act.put, List.getElem_toArray, List.getElem_cons_zero, List.getElem_cons_succ, List.setIfInBounds_toArray, List.set_cons_zero, List.set_cons_succ]
                  refine wpAnyL_take (i := 2) (v := undef) rfl (by kernel_rfl) (by kernel_rfl) (by kernel_rfl) (by kernel_rfl) (fun _ _ _ h => h) (Or.inr ⟨by kernel_rfl, rfl⟩) (by assumption) ?r20015
                  try simp only [Act.put, List.getElem_toArray, List.getElem_cons_zero, List.getElem_cons_succ, List.setIfInBounds_toArray, List.set_cons_zero, List.set_cons_succ]
                  refine wpAnyL_take (i := 3) (v := undef) rfl (by kernel_rfl) (by kernel_rfl) (by kernel_rfl) (by kernel_rfl) (fun _ _ _ h => h) (Or.inr ⟨by kernel_rfl, rfl⟩) (by assumption) ?r20016
                  try simp only [Act.put, List.getElem_toArray, List.getElem_cons_zero, List.getElem_cons_succ, List.setIfInBounds_toArray, List.set_cons_zero, List.set_cons_succ]
                  refine wpAnyL_take (i := 4) (v := undef) rfl (by kernel_rfl) (by kernel_rfl) (by kernel_rfl) (by kernel_rfl) (fun _ _ _ h => h) (Or.inr ⟨by kernel_rfl, rfl⟩) (by assumption) ?r20017
                  try simp only [Act.put, List.getElem_toArray, List.getElem_cons_zero, List.getElem_cons_succ, List.setIfInBounds_toArray, List.set_cons_zero, List.set_cons_succ]
                  refine wpAnyL_take (i := 5) (v := undef) rfl (by kernel_rfl) (by kernel_rfl) (by kernel_rfl) (by kernel_rfl) (fun _ _ _ h => h) (Or.inr ⟨by kernel_rfl, rfl⟩) (by assumption) ?r20018
                  try simp only [Act.put, List.getElem_toArray, List.getElem_cons_zero, List.getElem_cons_succ, List.setIfInBounds_toArray, List.set_cons_zero, List.set_cons_succ]
                  refine wpAnyL_take (i := 6) (v := undef) rfl (by kernel_rfl) (by kernel_rfl) (by kernel_rfl) (by kernel_rfl) (fun _ _ _ h => h) (Or.inr ⟨by kernel_rfl, rfl⟩) (by assumption) ?r20019
                  try simp only [Act.put, List.getElem_toArray, List.getElem_cons_zero, List.getElem_cons_succ, List.setIfInBounds_toArray, List.set_cons_zero, List.set_cons_succ]
                  refine wpAnyL_take (i := 7) (v := undef) rfl (by kernel_rfl) (by kernel_rfl) (by kernel_rfl) (by kernel_rfl) (fun _ _ _ h => h) (Or.inr ⟨by kernel_rfl, rfl⟩) (by assumption) ?r20020
                  try simp only [Act.put, List.getElem_toArray, List.getElem_cons_zero, List.getElem_cons_succ, List.setIfInBounds_toArray, List.set_cons_zero, List.set_cons_succ]
                  refine wpAnyL_take (i := 8) (v := undef) rfl (by kernel_rfl) (by kernel_rfl) (by kernel_rfl) (by kernel_rfl) (fun _ _ _ h => h) (Or.inr ⟨by kernel_rfl, rfl⟩) (by assumption) ?r20021
                  try simp only [Act.put, List.getElem_toArray, List.getElem_cons_zero, List.getElem_cons_succ, List.setIfInBounds_toArray, List.set_cons_zero, List.set_cons_succ]
                  refine wpAnyL_take (i := 9) (v := undef) rfl (by kernel_rfl) (by kernel_rfl) (by kernel_rfl) (by kernel_rfl) (fun _ _ _ h => h) (Or.inr ⟨by kernel_rfl, rfl⟩) (by assumption) ?r20022
                  try simp only [Act.put, List.getElem_toArray, List.getElem_cons_zero, List.getElem_cons_succ, List.setIfInBounds_toArray, List.set_cons_zero, List.set_cons_succ]
                  refine wpAnyL_take (i := 10) (v := undef) rfl (by kernel_rfl) (by kernel_rfl) (by kernel_rfl) (by kernel_rfl) (fun _ _ _ h => h) (Or.inr ⟨by kernel_rfl, rfl⟩) (by assumption) ?r20023
                  try simp only [Act.put, List.getElem_toArray, List.getElem_cons_zero, List.getElem_cons_succ, List.setIfInBounds_toArray, List.set_cons_zero, List.set_cons_succ]
                  refine wpAnyL_take (i := 11) (v := undef) rfl (by kernel_rfl) (by kernel_rfl) (by kernel_rfl) (by kernel_rfl) (fun _ _ _ h => h) (Or.inr ⟨by kernel_rfl, rfl⟩) (by assumption) ?r20024
                  try simp only [Act.put, List.getElem_toArray, List.getElem_cons_zero, List.getElem_cons_succ, List.setIfInBounds_toArray, List.set_cons_zero, List.set_cons_succ]
                  refine wpAnyL_take (i := 12) (v := ?v20025) rfl (by kernel_rfl) (by kernel_rfl) (by kernel_rfl) (by kernel_rfl) (fun _ _ _ h => h) (Or.inl ⟨by kernel_rfl, ?hy20025⟩) (by assumption) ?r20025
                  case hy20025 => (intro W hSW; obtain ⟨hV0, _⟩ := hSW; go_simp; try with_reducible rfl)
                  try simp only [Act.put, List.getElem_toArray, List.getElem_cons_zero, List.getElem_cons_succ, List.setIfInBounds_toArray, List.set_cons_zero, List.set_cons_succ]
                  refine wpAnyL_last (by kernel_rfl) rfl (fun K hK => ?_)
                  go_simp
                  refine hK.out _ _ ?_
                  clear hK K
                  try simp only [Act.put, List.getElem_toArray, List.getElem_cons_zero, List.getElem_cons_succ, List.setIfInBounds_toArray, List.set_cons_zero, List.set_cons_succ]
                  refine wpAnyL_done (by kernel_rfl) ?_ _
                  refine NoPanic.normal ?_
                  have hV := hH.1
                  clear hH HS
                  go_wp2
                  go_roundw
                  case rel => exact ⟨k + 1, by rw [Hn2.out], by go_num, by omega, hbw.trans (hV.mono hbw.size), hbz.trans (hV.mono hbz.size)⟩
                  case measure => simp [intOf]; omega
                · have HC := Lib.hid (fun W (hW : Below wr.heap.size wr W) => Hca.out k hki W (hbw.trans (hW.mono hbw.size)))
                  have HCk : Hid (∀ W, Below wo.heap.size wo W → Okb W W.heap.size M[k] ∧ W.cell? ⟨bM, oM + k * 10, none⟩ = some (i64 M[k].client) ∧ W.cell? ⟨bM, oM + k * 10 + 1, none⟩ = some (i64 M[k].seq) ∧ W.cell? ⟨bM, oM + k * 10 + 2, none⟩ = some (i64 M[k].kind) ∧ W.cell? ⟨bM, oM + k * 10 + 3, none⟩ = some (.string M[k].acct) ∧ W.cell? ⟨bM, oM + k * 10 + 4, none⟩ = some (.string M[k].peer) ∧ W.cell? ⟨bM, oM + k * 10 + 5, none⟩ = some (i64 M[k].sum) ∧ W.cell? ⟨bM, oM + k * 10 + 6, none⟩ = some (.slice M[k].la M[k].legs.length M[k].lc) ∧ W.cell? ⟨bM, oM + k * 10 + 7, none⟩ = some (i64 M[k].period) ∧ W.cell? ⟨bM, oM + k * 10 + 8, none⟩ = some (i64 M[k].hold) ∧ W.cell? ⟨bM, oM + k * 10 + 9, none⟩ = some (.string M[k].note)) := Lib.hid fun W hW => (HM.out W hW).od_at hkM
                  rw [hfk, Bool.true_and] at Hn
                  obtain ⟨y, hy⟩ : ∃ y, M[k] = y := ⟨_, rfl⟩
                  simp only [hy] at HC Hn HCk
                  unfold Od.v at HC
                  clear hy hfk
                  have hS : ∀ V, Below wr.heap.size wr V → (fun V : World => Below wr.heap.size wr V ∧ (V.cell? ⟨bM, oM + k * 10, none⟩ = some (i64 y.client) ∧ V.cell? ⟨bM, oM + k * 10 + 1, none⟩ = some (i64 y.seq) ∧ V.cell? ⟨bM, oM + k * 10 + 2, none⟩ = some (i64 y.kind) ∧ V.cell? ⟨bM, oM + k * 10 + 3, none⟩ = some (.string y.acct) ∧ V.cell? ⟨bM, oM + k * 10 + 4, none⟩ = some (.string y.peer) ∧ V.cell? ⟨bM, oM + k * 10 + 5, none⟩ = some (i64 y.sum) ∧ V.cell? ⟨bM, oM + k * 10 + 6, none⟩ = some (.slice y.la y.legs.length y.lc) ∧ V.cell? ⟨bM, oM + k * 10 + 7, none⟩ = some (i64 y.period) ∧ V.cell? ⟨bM, oM + k * 10 + 8, none⟩ = some (i64 y.hold) ∧ V.cell? ⟨bM, oM + k * 10 + 9, none⟩ = some (.string y.note)) ∧ V.cell? ⟨bM, oM + i * 10, none⟩ = some (i64 x.client) ∧ V.cell? ⟨bM, oM + i * 10 + 1, none⟩ = some (i64 x.seq) ∧ V.cell? ⟨bM, oM + i * 10 + 2, none⟩ = some (i64 x.kind) ∧ V.cell? ⟨bM, oM + i * 10 + 3, none⟩ = some (.string x.acct) ∧ V.cell? ⟨bM, oM + i * 10 + 4, none⟩ = some (.string x.peer) ∧ V.cell? ⟨bM, oM + i * 10 + 5, none⟩ = some (i64 x.sum) ∧ V.cell? ⟨bM, oM + i * 10 + 6, none⟩ = some (.slice x.la x.legs.length x.lc) ∧ V.cell? ⟨bM, oM + i * 10 + 7, none⟩ = some (i64 x.period) ∧ V.cell? ⟨bM, oM + i * 10 + 8, none⟩ = some (i64 x.hold) ∧ V.cell? ⟨bM, oM + i * 10 + 9, none⟩ = some (.string x.note)) V := fun V hV => by
                    have hW := hbw.trans (hV.mono hbw.size)
                    exact ⟨hV, (HCk.out V hW).2, (HCi.out V hW).2⟩
                  have HS := Lib.hid hS
                  clear hS
                  obtain ⟨cl, hcl⟩ : ∃ cl, clashB y x = cl := ⟨_, rfl⟩
                  rw [hcl] at HC Hn
                  clear hcl HCk
                  as_aux_lemma =>
                  go_upto_region 13 with fail
                  refine wp_region_noPanic ?_
                  refine wp_region_l 13 (fun V : World => Below wr.heap.size wr V ∧ (V.cell? ⟨bM, oM + k * 10, none⟩ = some (i64 y.client) ∧ V.cell? ⟨bM, oM + k * 10 + 1, none⟩ = some (i64 y.seq) ∧ V.cell? ⟨bM, oM + k * 10 + 2, none⟩ = some (i64 y.kind) ∧ V.cell? ⟨bM, oM + k * 10 + 3, none⟩ = some (.string y.acct) ∧ V.cell? ⟨bM, oM + k * 10 + 4, none⟩ = some (.string y.peer) ∧ V.cell? ⟨bM, oM + k * 10 + 5, none⟩ = some (i64 y.sum) ∧ V.cell? ⟨bM, oM + k * 10 + 6, none⟩ = some (.slice y.la y.legs.length y.lc) ∧ V.cell? ⟨bM, oM + k * 10 + 7, none⟩ = some (i64 y.period) ∧ V.cell? ⟨bM, oM + k * 10 + 8, none⟩ = some (i64 y.hold) ∧ V.cell? ⟨bM, oM + k * 10 + 9, none⟩ = some (.string y.note)) ∧ V.cell? ⟨bM, oM + i * 10, none⟩ = some (i64 x.client) ∧ V.cell? ⟨bM, oM + i * 10 + 1, none⟩ = some (i64 x.seq) ∧ V.cell? ⟨bM, oM + i * 10 + 2, none⟩ = some (i64 x.kind) ∧ V.cell? ⟨bM, oM + i * 10 + 3, none⟩ = some (.string x.acct) ∧ V.cell? ⟨bM, oM + i * 10 + 4, none⟩ = some (.string x.peer) ∧ V.cell? ⟨bM, oM + i * 10 + 5, none⟩ = some (i64 x.sum) ∧ V.cell? ⟨bM, oM + i * 10 + 6, none⟩ = some (.slice x.la x.legs.length x.lc) ∧ V.cell? ⟨bM, oM + i * 10 + 7, none⟩ = some (i64 x.period) ∧ V.cell? ⟨bM, oM + i * 10 + 8, none⟩ = some (i64 x.hold) ∧ V.cell? ⟨bM, oM + i * 10 + 9, none⟩ = some (.string x.note)) (by kernel_rfl) (HS.out _ (Below.refl _ _).drew) (fun hH => ?_)
                  refine wpAnyL_take (i := 0) (v := ?v20001) rfl (by kernel_rfl) (by kernel_rfl) (by kernel_rfl) (by kernel_rfl) (fun _ _ _ h => h) (Or.inl ⟨by kernel_rfl, ?hy20001⟩) (by assumption) ?r20001
                  case hy20001 => (intro W hSW; obtain ⟨hV0, ⟨s0, s1, s2, s3, s4, s5, s6, s7, s8, s9⟩, u0, u1, u2, u3, u4, u5, u6, u7, u8, u9⟩ := hSW; go_simp; try with_reducible rfl)
                  try simp only [Act.put, List.getElem_toArray, List.getElem_cons_zero, List.setIfInBounds_toArray, List.set_cons_zero, List.set_cons_succ]
                  refine wpAnyL_take (i := 1) (v := ?v20002) rfl (by kernel_rfl) (by kernel_rfl) (by kernel_rfl) (by kernel_rfl) (fun _ _ _ h => h) (Or.inl ⟨by kernel_rfl, ?hy20002⟩) (by assumption) ?r20002
                  case hy20002 => (intro W hSW; obtain ⟨hV0, ⟨s0, s1, s2, s3, s4, s5, s6, s7, s8, s9⟩, u0, u1, u2, u3, u4, u5, u6, u7, u8, u9⟩ := hSW; go_simp; try with_reducible rfl)
                  try simp only [Act.put, List.getElem_toArray, List.getElem_cons_zero, List.getElem_cons_succ, List.setIfInBounds_toArray, List.set_cons_zero, List.set_cons_succ]
                  refine wpAnyL_take (i := 2) (v := ?v20003) rfl (by kernel_rfl) (by kernel_rfl) (by kernel_rfl) (by kernel_rfl) (fun _ _ _ h => h) (Or.inl ⟨by kernel_rfl, ?hy20003⟩) (by assumption) ?r20003
                  case hy20003 => (intro W hSW; obtain ⟨hV0, ⟨s0, s1, s2, s3, s4, s5, s6, s7, s8, s9⟩, u0, u1, u2, u3, u4, u5, u6, u7, u8, u9⟩ := hSW; go_simp; try with_reducible rfl)
                  try simp only [Act.put, List.getElem_toArray, List.getElem_cons_zero, List.getElem_cons_succ, List.setIfInBounds_toArray, List.set_cons_zero, List.set_cons_succ]
                  refine wpAnyL_take (i := 3) (v := ?v20004) rfl (by kernel_rfl) (by kernel_rfl) (by kernel_rfl) (by kernel_rfl) (fun _ _ _ h => h) (Or.inl ⟨by kernel_rfl, ?hy20004⟩) (by assumption) ?r20004
                  case hy20004 => (intro W hSW; obtain ⟨hV0, ⟨s0, s1, s2, s3, s4, s5, s6, s7, s8, s9⟩, u0, u1, u2, u3, u4, u5, u6, u7, u8, u9⟩ := hSW; go_simp; try with_reducible rfl)
                  try simp only [Act.put, List.getElem_toArray, List.getElem_cons_zero, List.getElem_cons_succ, List.setIfInBounds_toArray, List.set_cons_zero, List.set_cons_succ]
                  refine wpAnyL_take (i := 4) (v := ?v20005) rfl (by kernel_rfl) (by kernel_rfl) (by kernel_rfl) (by kernel_rfl) (fun _ _ _ h => h) (Or.inl ⟨by kernel_rfl, ?hy20005⟩) (by assumption) ?r20005
                  case hy20005 => (intro W hSW; obtain ⟨hV0, ⟨s0, s1, s2, s3, s4, s5, s6, s7, s8, s9⟩, u0, u1, u2, u3, u4, u5, u6, u7, u8, u9⟩ := hSW; go_simp; try with_reducible rfl)
                  try simp only [Act.put, List.getElem_toArray, List.getElem_cons_zero, List.getElem_cons_succ, List.setIfInBounds_toArray, List.set_cons_zero, List.set_cons_succ]
                  refine wpAnyL_take (i := 5) (v := ?v20006) rfl (by kernel_rfl) (by kernel_rfl) (by kernel_rfl) (by kernel_rfl) (fun _ _ _ h => h) (Or.inl ⟨by kernel_rfl, ?hy20006⟩) (by assumption) ?r20006
                  case hy20006 => (intro W hSW; obtain ⟨hV0, ⟨s0, s1, s2, s3, s4, s5, s6, s7, s8, s9⟩, u0, u1, u2, u3, u4, u5, u6, u7, u8, u9⟩ := hSW; go_simp; try with_reducible rfl)
                  try simp only [Act.put, List.getElem_toArray, List.getElem_cons_zero, List.getElem_cons_succ, List.setIfInBounds_toArray, List.set_cons_zero, List.set_cons_succ]
                  refine wpAnyL_take (i := 6) (v := ?v20007) rfl (by kernel_rfl) (by kernel_rfl) (by kernel_rfl) (by kernel_rfl) (fun _ _ _ h => h) (Or.inl ⟨by kernel_rfl, ?hy20007⟩) (by assumption) ?r20007
                  case hy20007 => (intro W hSW; obtain ⟨hV0, ⟨s0, s1, s2, s3, s4, s5, s6, s7, s8, s9⟩, u0, u1, u2, u3, u4, u5, u6, u7, u8, u9⟩ := hSW; go_simp; try with_reducible rfl)
                  try simp only [Act.put, List.getElem_toArray, List.getElem_cons_zero, List.getElem_cons_succ, List.setIfInBounds_toArray, List.set_cons_zero, List.set_cons_succ]
                  refine wpAnyL_take (i := 7) (v := ?v20008) rfl (by kernel_rfl) (by kernel_rfl) (by kernel_rfl) (by kernel_rfl) (fun _ _ _ h => h) (Or.inl ⟨by kernel_rfl, ?hy20008⟩) (by assumption) ?r20008
                  case hy20008 => (intro W hSW; obtain ⟨hV0, ⟨s0, s1, s2, s3, s4, s5, s6, s7, s8, s9⟩, u0, u1, u2, u3, u4, u5, u6, u7, u8, u9⟩ := hSW; go_simp; try with_reducible rfl)
                  try simp only [Act.put, List.getElem_toArray, List.getElem_cons_zero, List.getElem_cons_succ, List.setIfInBounds_toArray, List.set_cons_zero, List.set_cons_succ]
                  refine wpAnyL_take (i := 8) (v := ?v20009) rfl (by kernel_rfl) (by kernel_rfl) (by kernel_rfl) (by kernel_rfl) (fun _ _ _ h => h) (Or.inl ⟨by kernel_rfl, ?hy20009⟩) (by assumption) ?r20009
                  case hy20009 => (intro W hSW; obtain ⟨hV0, ⟨s0, s1, s2, s3, s4, s5, s6, s7, s8, s9⟩, u0, u1, u2, u3, u4, u5, u6, u7, u8, u9⟩ := hSW; go_simp; try with_reducible rfl)
                  try simp only [Act.put, List.getElem_toArray, List.getElem_cons_zero, List.getElem_cons_succ, List.setIfInBounds_toArray, List.set_cons_zero, List.set_cons_succ]
                  refine wpAnyL_take (i := 9) (v := ?v20010) rfl (by kernel_rfl) (by kernel_rfl) (by kernel_rfl) (by kernel_rfl) (fun _ _ _ h => h) (Or.inl ⟨by kernel_rfl, ?hy20010⟩) (by assumption) ?r20010
                  case hy20010 => (intro W hSW; obtain ⟨hV0, ⟨s0, s1, s2, s3, s4, s5, s6, s7, s8, s9⟩, u0, u1, u2, u3, u4, u5, u6, u7, u8, u9⟩ := hSW; go_simp; try with_reducible rfl)
                  try simp only [Act.put, List.getElem_toArray, List.getElem_cons_zero, List.getElem_cons_succ, List.setIfInBounds_toArray, List.set_cons_zero, List.set_cons_succ]
                  refine wpAnyL_one (i := 10) (by kernel_rfl) rfl (by decide) (fun K hK => ?_)
                  go_simp
                  go_at_call 71
                  with_reducible refine (HC.out _ hH.1).mono ?_
                  rintro e w9 ⟨rfl, hF⟩
                  have hbu := below_on hH.1 (Nat.le_refl _) hF
                  clear hF
                  refine hK.out _ _ (HS.out _ hbu) (fun hH => ?_)
                  clear hK K
                  try simp only [Act.put, List.getElem_toArray, List.getElem_cons_zero, List.getElem_cons_succ, List.setIfInBounds_toArray, List.set_cons_zero, List.set_cons_succ]
                  refine wpAnyL_take (i := 11) (v := ?v20011) rfl (by kernel_rfl) (by kernel_rfl) (by kernel_rfl) (by kernel_rfl) (fun _ _ _ h => h) (Or.inl ⟨by kernel_rfl, ?hy20011⟩) (by assumption) ?r20011
                  case hy20011 => (intro W hSW; obtain ⟨hV0, ⟨s0, s1, s2, s3, s4, s5, s6, s7, s8, s9⟩, u0, u1, u2, u3, u4, u5, u6, u7, u8, u9⟩ := hSW; go_simp; try with_reducible rfl)
                  try simp only [Act.put, List.getElem_toArray, List.getElem_cons_zero, List.getElem_cons_succ, List.setIfInBounds_toArray, List.set_cons_zero, List.set_cons_succ]
                  refine wpAnyL_take (i := 12) (v := ?v20012) rfl (by kernel_rfl) (by kernel_rfl) (by kernel_rfl) (by kernel_rfl) (fun _ _ _ h => h) (Or.inl ⟨by kernel_rfl, ?hy20012⟩) (by assumption) ?r20012
                  case hy20012 => (intro W hSW; obtain ⟨hV0, ⟨s0, s1, s2, s3, s4, s5, s6, s7, s8, s9⟩, u0, u1, u2, u3, u4, u5, u6, u7, u8, u9⟩ := hSW; go_simp; try with_reducible rfl)
                  try simp only [Act.put, List.getElem_toArray, List.getElem_cons_zero, List.getElem_cons_succ, List.setIfInBounds_toArray, List.set_cons_zero, List.set_cons_succ]
                  refine wpAnyL_last (by kernel_rfl) rfl (fun K hK => ?_)
                  go_simp
                  refine hK.out _ _ ?_
                  clear hK K
                  try simp only [Act.put, List.getElem_toArray, List.getElem_cons_zero, List.getElem_cons_succ, List.setIfInBounds_toArray, List.set_cons_zero, List.set_cons_succ]
                  refine wpAnyL_done (by kernel_rfl) ?_ _
                  refine NoPanic.normal ?_
                  have hV := hH.1
                  clear hH HS
                  go_wp2
                  go_roundw
                  case rel => exact ⟨k + 1, by rw [Hn.out], by go_num, by omega, hbw.trans (hV.mono hbw.size), hbz.trans (hV.mono hbz.size)⟩
                  case measure => simp [intOf]; omega
              · obtain rfl : k = i := by omega
                have g6 : decide ((k : Int) < (k : Int)) = false := decide_eq_false (by omega)
                have HTw := Lib.hid (HT.out.later hbz)
                have HRw := Lib.hid (HRr.out.later hbz)
                have HOT := Lib.hid (fun W (hW : Below w.heap.size w W) y (hy : y ∈ T) => Hox.out W hW y (Hml.out y (List.mem_of_mem_take (HSI.out.mem_T hy))))
                have HOR := Lib.hid (fun W (hW : Below w.heap.size w W) y (hy : y ∈ R) => Hox.out W hW y (Hml.out y (List.mem_of_mem_take (HSI.out.mem_R hy))))
                have hwo : w.heap.size ≤ wo.heap.size := hb.size
                have hwr : wo.heap.size ≤ wr.heap.size := hbw.size
                cases hf : freeAt M k k x
                · have Hsi := Lib.hid (Hhe.out hf)
                  obtain ⟨hokx, d0, d1, d2, d3, d4, d5, d6, d7, d8, d9⟩ := HCi.out wr hbw
                  have hba := (Below.refl wr.heap.size wr).alloc (Nat.le_refl _) (.cells #[i64 x.client, i64 x.seq, i64 x.kind, .string x.acct, .string x.peer, i64 x.sum, .slice x.la x.legs.length x.lc, i64 x.period, i64 x.hold, .string x.note] 50)
                  have HH := Lib.hid (heap_alloc_new wr (.cells #[i64 x.client, i64 x.seq, i64 x.kind, .string x.acct, .string x.peer, i64 x.sum, .slice x.la x.legs.length x.lc, i64 x.period, i64 x.hold, .string x.note] 50))
                  have HRa := Lib.hid (HRw.out.later hba)
                  have HTa := Lib.hid (HTw.out.later hba)
                  have Hne := Lib.hid (HRw.out.new_ne (Nat.le_refl wr.heap.size))
                  have hbwa := below_on hbw (Nat.le_refl _) hba
                  have Hwa := Lib.hid (hb.trans (hbwa.mono hwo))
                  have Hzz := Lib.hid hbwa.size
                  have HoX := Lib.hid (Enc.keep (Hox.out _ Hwa.out x Hxm.out) (fun _ _ => rfl) (fun b hb => HRa.out.oth (B := w.heap.size) hwo (Nat.le_trans hwo Hzz.out) b hb))
                  have Hln := Lib.hid (show R.length + 1 ≤ 4294967296 by have := Htl.out.2; omega)
                  have Hbwa := Lib.hid hbwa
                  clear hba hokx hbwa hf Hfr HTw HRw
                  go_wp2_with (at_builtin; refine wpList_append_one rfl (some 48) (.tmp 42) (.tmp 47) 22 rfl rfl _ 120 Tryz.underlying22 inf_od rfl (by decide) (by decide) rfl HRa.out wr.heap.size x rfl _ 50 HH.out rfl Hne.out HoX.out Hln.out Hzz.out ?_; intro v3 w3 hO3 hg3 hat3)
                  have hltr := HRa.out.1.lt
                  have hltt := HTa.out.1.lt
                  have hT3 := own_beside HTa.out hg3 Hap.out (HOT.out _ Hwa.out) hwo (Nat.le_trans hwo Hzz.out) (fun b e => (hltr b e).1)
                  have hap3 : t.ownBlock = none ∨ t.ownBlock ≠ v3.ownBlock := by
                    rcases hat3 with e | e
                    · rw [e]; exact Hap.out
                    · cases ht : t.ownBlock with
                      | none => exact .inl rfl
                      | some b => exact .inr fun e2 => by rw [e] at e2; injection e2 with e2; exact absurd (hltt b ht).2 (by rw [e2]; exact Nat.lt_irrefl _)
                  have hb3 := Hbwa.out.trans (HRa.out.below hg3 (Nat.le_refl _) Hbwa.out.size)
                  clear hg3 hat3 hltr hltt HRa HTa HH Hne HoX Hln Hzz
                  go_roundw
                  case rel => exact ⟨k + 1, t, v3, T, R ++ [x], rfl, rfl, by go_num, by omega, Hsi, hT3, hO3, Lib.hid hap3, hb3⟩
                  case measure => simp [intOf]; omega
                · have HSf := Lib.hid (fun q h1 h2 => Hfr.out q hf h1 h2)
                  obtain ⟨At, ct, ht, hsT⟩ := HTw.out.sl
                  subst ht
                  have hTc : T.length ≤ ct := hsT.1
                  have HsT := Lib.hid hsT
                  clear hsT hf Hhe HTw HT
                  obtain ⟨wv, rfl⟩ : ∃ wv, wv = wr := ⟨wr, rfl⟩
                  go_upto_block 6 with fail
                  go_cut [9] from 16 to 82 (fun s9 wx => ∃ q : Nat, s9 = i64 q ∧ q ≤ T.length ∧ Hid (SI M (k + 1) (T.take q ++ [x] ++ T.drop q) R) ∧ Below wv.heap.size wv wx)
                  case first =>
                    go_wp2_with fail
                    go_loopw [9] (fun av wr => ∃ q : Nat, av = i64 q ∧ q ≤ T.length ∧ Hid (∀ t ∈ T.drop q, ltO x t = true) ∧ Below wv.heap.size wv wr) (fun av _ => (intOf av).toNat)
                    case atStart => exact ⟨T.length, rfl, Nat.le_refl _, Lib.hid (by rw [List.drop_length]; simp), Below.refl _ _⟩
                    case round =>
                      obtain ⟨q, rfl, hq, Hdr, hbv⟩ := hrel
                      have hbq := hbw.trans (hbv.mono hwr)
                      have HM2 : Hid (∀ V, Below wr.heap.size wr V → V.cell? ⟨bM, oM + k * 10, none⟩ = some (i64 x.client) ∧ V.cell? ⟨bM, oM + k * 10 + 1, none⟩ = some (i64 x.seq) ∧ V.cell? ⟨bM, oM + k * 10 + 2, none⟩ = some (i64 x.kind) ∧ V.cell? ⟨bM, oM + k * 10 + 3, none⟩ = some (.string x.acct) ∧ V.cell? ⟨bM, oM + k * 10 + 4, none⟩ = some (.string x.peer) ∧ V.cell? ⟨bM, oM + k * 10 + 5, none⟩ = some (i64 x.sum) ∧ V.cell? ⟨bM, oM + k * 10 + 6, none⟩ = some (.slice x.la x.legs.length x.lc) ∧ V.cell? ⟨bM, oM + k * 10 + 7, none⟩ = some (i64 x.period) ∧ V.cell? ⟨bM, oM + k * 10 + 8, none⟩ = some (i64 x.hold) ∧ V.cell? ⟨bM, oM + k * 10 + 9, none⟩ = some (.string x.note)) := Lib.hid fun V hV => (HCi.out V (hbq.trans (hV.mono hbq.size))).2
                      by_cases hq0 : q = 0
                      · subst hq0
                        have HS2 := Lib.hid (HSf.out 0 Hdr.out (by simp))
                        have g8 : decide (((0 : Nat) : Int) > 0) = false := rfl
                        have hS : ∀ V, Below wr.heap.size wr V → (fun V : World => Below wr.heap.size wr V ∧ True) V := fun V hV => ⟨hV, trivial⟩
                        have HS := Lib.hid hS
                        clear hS HSf Hdr
                        as_aux_lemma =>
                        go_upto_region 17 with fail
                        refine wp_region_noPanic ?_
                        refine wp_region_l 15 (fun V : World => Below wr.heap.size wr V ∧ True) (by kernel_rfl) (HS.out _ (Below.refl _ _).drew) (fun hH => ?_)
                        refine wpAnyL_take (i := 0) (v := ?v20026) rfl (by kernel_rfl) (by kernel_rfl) (by kernel_rfl) (by kernel_rfl) (fun _ _ _ h => h) (Or.inl ⟨by kernel_rfl, ?hy20026⟩) (by assumption) ?r20026
                        case hy20026 => (intro W hSW; obtain ⟨hV0, _⟩ := hSW; go_simp; try with_reducible rfl)
                        try simp only [Act.put, List.getElem_toArray, List.getElem_cons_zero, List.setIfInBounds_toArray, List.set_cons_zero, List.set_cons_succ]
                        refine wpAnyL_take (i := 1) (v := ?v20027) rfl (by kernel_rfl) (by kernel_rfl) (by kernel_rfl) (by kernel_rfl) (fun _ _ _ h => h) (Or.inl ⟨by kernel_rfl, ?hy20027⟩) (by assumption) ?r20027
                        case hy20027 => (intro W hSW; obtain ⟨hV0, _⟩ := hSW; go_simp; try with_reducible rfl)
                        try simp only [Act.put, List.getElem_toArray, List.getElem_cons_zero, List.getElem_cons_succ, List.setIfInBounds_toArray, List.set_cons_zero, List.set_cons_succ]
                        refine wpAnyL_take (i := 2) (v := ?v20028) rfl (by kernel_rfl) (by kernel_rfl) (by kernel_rfl) (by kernel_rfl) (fun _ _ _ h => h) (Or.inl ⟨by kernel_rfl, ?hy20028⟩) (by assumption) ?r20028
                        case hy20028 => (intro W hSW; obtain ⟨hV0, _⟩ := hSW; go_simp; try with_reducible rfl)
                        try simp only [Act.put, List.getElem_toArray, List.getElem_cons_zero, List.getElem_cons_succ, List.setIfInBounds_toArray, List.set_cons_zero, List.set_cons_succ]
                        refine wpAnyL_take (i := 3) (v := undef) rfl (by kernel_rfl) (by kernel_rfl) (by kernel_rfl) (by kernel_rfl) (fun _ _ _ h => h) (Or.inr ⟨by kernel_rfl, rfl⟩) (by assumption) ?r20029
                        try simp only [Act.put, List.getElem_toArray, List.getElem_cons_zero, List.getElem_cons_succ, List.setIfInBounds_toArray, List.set_cons_zero, List.set_cons_succ]
                        refine wpAnyL_take (i := 4) (v := undef) rfl (by kernel_rfl) (by kernel_rfl) (by kernel_rfl) (by kernel_rfl) (fun _ _ _ h => h) (Or.inr ⟨by kernel_rfl, rfl⟩) (by assumption) ?r20030
                        try simp only [Act.put, List.getElem_toArray, List.getElem_cons_zero, List.getElem_cons_succ, List.setIfInBounds_toArray, List.set_cons_zero, List.set_cons_succ]
                        refine wpAnyL_take (i := 5) (v := undef) rfl (by kernel_rfl) (by kernel_rfl) (by kernel_rfl) (by kernel_rfl) (fun _ _ _ h => h) (Or.inr ⟨by kernel_rfl, rfl⟩) (by assumption) ?r20031
                        try simp only [Act.put, List.getElem_toArray, List.getElem_cons_zero, List.getElem_cons_succ, List.setIfInBounds_toArray, List.set_cons_zero, List.set_cons_succ]
                        refine wpAnyL_take (i := 6) (v := undef) rfl (by kernel_rfl) (by kernel_rfl) (by kernel_rfl) (by kernel_rfl) (fun _ _ _ h => h) (Or.inr ⟨by kernel_rfl, rfl⟩) (by assumption) ?r20032
                        try simp only [Act.put, List.getElem_toArray, List.getElem_cons_zero, List.getElem_cons_succ, List.setIfInBounds_toArray, List.set_cons_zero, List.set_cons_succ]
                        refine wpAnyL_take (i := 7) (v := undef) rfl (by kernel_rfl) (by kernel_rfl) (by kernel_rfl) (by kernel_rfl) (fun _ _ _ h => h) (Or.inr ⟨by kernel_rfl, rfl⟩) (by assumption) ?r20033
                        try simp only [Act.put, List.getElem_toArray, List.getElem_cons_zero, List.getElem_cons_succ, List.setIfInBounds_toArray, List.set_cons_zero, List.set_cons_succ]
                        refine wpAnyL_take (i := 8) (v := undef) rfl (by kernel_rfl) (by kernel_rfl) (by kernel_rfl) (by kernel_rfl) (fun _ _ _ h => h) (Or.inr ⟨by kernel_rfl, rfl⟩) (by assumption) ?r20034
                        try simp only [Act.put, List.getElem_toArray, List.getElem_cons_zero, List.getElem_cons_succ, List.setIfInBounds_toArray, List.set_cons_zero, List.set_cons_succ]
                        refine wpAnyL_take (i := 9) (v := undef) rfl (by kernel_rfl) (by kernel_rfl) (by kernel_rfl) (by kernel_rfl) (fun _ _ _ h => h) (Or.inr ⟨by kernel_rfl, rfl⟩) (by assumption) ?r20035
                        try simp only [Act.put, List.getElem_toArray, List.getElem_cons_zero, List.getElem_cons_succ, List.setIfInBounds_toArray, List.set_cons_zero, List.set_cons_succ]
                        refine wpAnyL_take (i := 10) (v := undef) rfl (by kernel_rfl) (by kernel_rfl) (by kernel_rfl) (by kernel_rfl) (fun _ _ _ h => h) (Or.inr ⟨by kernel_rfl, rfl⟩) (by assumption) ?r20036
                        try simp only [Act.put, List.getElem_toArray, List.getElem_cons_zero, List.getElem_cons_succ, List.setIfInBounds_toArray, List.set_cons_zero, List.set_cons_succ]
                        refine wpAnyL_take (i := 11) (v := undef) rfl (by kernel_rfl) (by kernel_rfl) (by kernel_rfl) (by kernel_rfl) (fun _ _ _ h => h) (Or.inr ⟨by kernel_rfl, rfl⟩) (by assumption) ?r20037
                        try simp only [Act.put, List.getElem_toArray, List.getElem_cons_zero, List.getElem_cons_succ, List.setIfInBounds_toArray, List.set_cons_zero, List.set_cons_succ]
                        refine wpAnyL_take (i := 12) (v := undef) rfl (by kernel_rfl) (by kernel_rfl) (by kernel_rfl) (by kernel_rfl) (fun _ _ _ h => h) (Or.inr ⟨by kernel_rfl, rfl⟩) (by assumption) ?r20038
                        try simp only [Act.put, List.getElem_toArray, List.getElem_cons_zero, List.getElem_cons_succ, List.setIfInBounds_toArray, List.set_cons_zero, List.set_cons_succ]
                        refine wpAnyL_take (i := 13) (v := undef) rfl (by kernel_rfl) (by kernel_rfl) (by kernel_rfl) (by kernel_rfl) (fun _ _ _ h => h) (Or.inr ⟨by kernel_rfl, rfl⟩) (by assumption) ?r20039
                        try simp only [Act.put, List.getElem_toArray, List.getElem_cons_zero, List.getElem_cons_succ, List.setIfInBounds_toArray, List.set_cons_zero, List.set_cons_succ]
                        refine wpAnyL_take (i := 14) (v := undef) rfl (by kernel_rfl) (by kernel_rfl) (by kernel_rfl) (by kernel_rfl) (fun _ _ _ h => h) (Or.inr ⟨by kernel_rfl, rfl⟩) (by assumption) ?r20040
                        try simp only [Act.put, List.getElem_toArray, List.getElem_cons_zero, List.getElem_cons_succ, List.setIfInBounds_toArray, List.set_cons_zero, List.set_cons_succ]
                        refine wpAnyL_last (by kernel_rfl) rfl (fun K hK => ?_)
                        go_simp
                        refine hK.out _ _ ?_
                        clear hK K
                        try simp only [Act.put, List.getElem_toArray, List.getElem_cons_zero, List.getElem_cons_succ, List.setIfInBounds_toArray, List.set_cons_zero, List.set_cons_succ]
                        refine wpAnyL_done (by kernel_rfl) ?_ _
                        refine NoPanic.normal ?_
                        have hV := hH.1
                        clear hH HS
                        go_wp2
                        go_meet
                        exact ⟨0, rfl, by omega, HS2, below_on hbv (Nat.le_refl _) hV⟩
                      · obtain ⟨p, hp⟩ : ∃ p, q = p + 1 := ⟨q - 1, by omega⟩
                        have hpT : p < T.length := by omega
                        have hpl : p ≤ T.length := Nat.le_of_lt hpT
                        have g8 : decide ((q : Int) > 0) = true := decide_eq_true (by omega)
                        have g9 : decide (0 < q) = true := decide_eq_true (by omega)
                        have g10 : decide (0 < (q : Int)) = true := decide_eq_true (by omega)
                        have p0 : (0 : Int) ≤ (p : Int) := by omega
                        have p1 : (p : Int) < (T.length : Int) := by omega
                        have Ew := Lib.hid (show IntKind.i64.wrap ((q : Int) - 1) = (p : Int) by rw [IntKind.wrap_i64]; omega)
                        obtain ⟨bt, ot, hAt, -, -⟩ := HsT.out.2.2.1 (by omega)
                        subst hAt
                        have Hstop := Lib.hid (fun h => ins_stop HSI.out.srt (q := p) (o := x) hpT (Hxid.out _ (List.getElem_mem hpT)) h)
                        have Hgo := Lib.hid (show ltO x T[p] = true → ∀ t ∈ T.drop p, ltO x t = true from fun h t ht => by
                          rw [List.drop_eq_getElem_cons hpT] at ht
                          rcases List.mem_cons.1 ht with e | e
                          · rw [e]; exact h
                          · exact Hdr.out t (by rw [hp]; exact e))
                        have HTp : Hid (∀ V, Below wr.heap.size wr V → V.cell? ⟨bt, ot + p * 10, none⟩ = some (i64 T[p].client) ∧ V.cell? ⟨bt, ot + p * 10 + 1, none⟩ = some (i64 T[p].seq) ∧ V.cell? ⟨bt, ot + p * 10 + 2, none⟩ = some (i64 T[p].kind) ∧ V.cell? ⟨bt, ot + p * 10 + 3, none⟩ = some (.string T[p].acct) ∧ V.cell? ⟨bt, ot + p * 10 + 4, none⟩ = some (.string T[p].peer) ∧ V.cell? ⟨bt, ot + p * 10 + 5, none⟩ = some (i64 T[p].sum) ∧ V.cell? ⟨bt, ot + p * 10 + 6, none⟩ = some (.slice T[p].la T[p].legs.length T[p].lc) ∧ V.cell? ⟨bt, ot + p * 10 + 7, none⟩ = some (i64 T[p].period) ∧ V.cell? ⟨bt, ot + p * 10 + 8, none⟩ = some (i64 T[p].hold) ∧ V.cell? ⟨bt, ot + p * 10 + 9, none⟩ = some (.string T[p].note)) := Lib.hid fun V hV => ((HsT.out.later (below_on hbv (Nat.le_refl _) hV)).od_at hpT).2
                        have HC := Lib.hid (fun W => rahead6_c x T[p] W)
                        obtain ⟨y, hy⟩ : ∃ y, T[p] = y := ⟨_, rfl⟩
                        simp only [hy, ahead_lt] at HC Hstop Hgo HTp
                        have Hp := Lib.hid hp
                        clear hy hp
                        have hS : ∀ V, Below wr.heap.size wr V → (fun V : World => Below wr.heap.size wr V ∧ (V.cell? ⟨bt, ot + p * 10, none⟩ = some (i64 y.client) ∧ V.cell? ⟨bt, ot + p * 10 + 1, none⟩ = some (i64 y.seq) ∧ V.cell? ⟨bt, ot + p * 10 + 2, none⟩ = some (i64 y.kind) ∧ V.cell? ⟨bt, ot + p * 10 + 3, none⟩ = some (.string y.acct) ∧ V.cell? ⟨bt, ot + p * 10 + 4, none⟩ = some (.string y.peer) ∧ V.cell? ⟨bt, ot + p * 10 + 5, none⟩ = some (i64 y.sum) ∧ V.cell? ⟨bt, ot + p * 10 + 6, none⟩ = some (.slice y.la y.legs.length y.lc) ∧ V.cell? ⟨bt, ot + p * 10 + 7, none⟩ = some (i64 y.period) ∧ V.cell? ⟨bt, ot + p * 10 + 8, none⟩ = some (i64 y.hold) ∧ V.cell? ⟨bt, ot + p * 10 + 9, none⟩ = some (.string y.note)) ∧ V.cell? ⟨bM, oM + k * 10, none⟩ = some (i64 x.client) ∧ V.cell? ⟨bM, oM + k * 10 + 1, none⟩ = some (i64 x.seq) ∧ V.cell? ⟨bM, oM + k * 10 + 2, none⟩ = some (i64 x.kind) ∧ V.cell? ⟨bM, oM + k * 10 + 3, none⟩ = some (.string x.acct) ∧ V.cell? ⟨bM, oM + k * 10 + 4, none⟩ = some (.string x.peer) ∧ V.cell? ⟨bM, oM + k * 10 + 5, none⟩ = some (i64 x.sum) ∧ V.cell? ⟨bM, oM + k * 10 + 6, none⟩ = some (.slice x.la x.legs.length x.lc) ∧ V.cell? ⟨bM, oM + k * 10 + 7, none⟩ = some (i64 x.period) ∧ V.cell? ⟨bM, oM + k * 10 + 8, none⟩ = some (i64 x.hold) ∧ V.cell? ⟨bM, oM + k * 10 + 9, none⟩ = some (.string x.note)) V := fun V hV => ⟨hV, HTp.out V hV, HM2.out V hV⟩
                        have HS := Lib.hid hS
                        clear hS
                        have ew := Ew.out
                        have ew2 : wrap64 ((q : Int) - 1) = (p : Int) := by rw [← IntWalk.i64_left]; exact ew
                        cases hlo : ltO x y
                        · rw [hlo] at HC
                          have HS2 := Lib.hid (HSf.out q Hdr.out (by rw [Hp.out]; exact Hstop.out hlo))
                          clear hlo Hgo Hstop HSf Hdr HTp
                          as_aux_lemma =>
                          go_upto_region 17 with fail
                          refine wp_region_noPanic ?_
                          refine wp_region_l 15 (fun V : World => Below wr.heap.size wr V ∧ (V.cell? ⟨bt, ot + p * 10, none⟩ = some (i64 y.client) ∧ V.cell? ⟨bt, ot + p * 10 + 1, none⟩ = some (i64 y.seq) ∧ V.cell? ⟨bt, ot + p * 10 + 2, none⟩ = some (i64 y.kind) ∧ V.cell? ⟨bt, ot + p * 10 + 3, none⟩ = some (.string y.acct) ∧ V.cell? ⟨bt, ot + p * 10 + 4, none⟩ = some (.string y.peer) ∧ V.cell? ⟨bt, ot + p * 10 + 5, none⟩ = some (i64 y.sum) ∧ V.cell? ⟨bt, ot + p * 10 + 6, none⟩ = some (.slice y.la y.legs.length y.lc) ∧ V.cell? ⟨bt, ot + p * 10 + 7, none⟩ = some (i64 y.period) ∧ V.cell? ⟨bt, ot + p * 10 + 8, none⟩ = some (i64 y.hold) ∧ V.cell? ⟨bt, ot + p * 10 + 9, none⟩ = some (.string y.note)) ∧ V.cell? ⟨bM, oM + k * 10, none⟩ = some (i64 x.client) ∧ V.cell? ⟨bM, oM + k * 10 + 1, none⟩ = some (i64 x.seq) ∧ V.cell? ⟨bM, oM + k * 10 + 2, none⟩ = some (i64 x.kind) ∧ V.cell? ⟨bM, oM + k * 10 + 3, none⟩ = some (.string x.acct) ∧ V.cell? ⟨bM, oM + k * 10 + 4, none⟩ = some (.string x.peer) ∧ V.cell? ⟨bM, oM + k * 10 + 5, none⟩ = some (i64 x.sum) ∧ V.cell? ⟨bM, oM + k * 10 + 6, none⟩ = some (.slice x.la x.legs.length x.lc) ∧ V.cell? ⟨bM, oM + k * 10 + 7, none⟩ = some (i64 x.period) ∧ V.cell? ⟨bM, oM + k * 10 + 8, none⟩ = some (i64 x.hold) ∧ V.cell? ⟨bM, oM + k * 10 + 9, none⟩ = some (.string x.note)) (by kernel_rfl) (HS.out _ (Below.refl _ _).drew) (fun hH => ?_)
                          refine wpAnyL_take (i := 0) (v := ?v20041) rfl (by kernel_rfl) (by kernel_rfl) (by kernel_rfl) (by kernel_rfl) (fun _ _ _ h => h) (Or.inl ⟨by kernel_rfl, ?hy20041⟩) (by assumption) ?r20041
                          case hy20041 => (intro W hSW; obtain ⟨hV0, ⟨s0, s1, s2, s3, s4, s5, s6, s7, s8, s9⟩, u0, u1, u2, u3, u4, u5, u6, u7, u8, u9⟩ := hSW; go_simp; try with_reducible rfl)
                          try simp only [Act.put, List.getElem_toArray, List.getElem_cons_zero, List.setIfInBounds_toArray, List.set_cons_zero, List.set_cons_succ]
                          refine wpAnyL_take (i := 1) (v := ?v20042) rfl (by kernel_rfl) (by kernel_rfl) (by kernel_rfl) (by kernel_rfl) (fun _ _ _ h => h) (Or.inl ⟨by kernel_rfl, ?hy20042⟩) (by assumption) ?r20042
                          case hy20042 => (intro W hSW; obtain ⟨hV0, ⟨s0, s1, s2, s3, s4, s5, s6, s7, s8, s9⟩, u0, u1, u2, u3, u4, u5, u6, u7, u8, u9⟩ := hSW; go_simp; try with_reducible rfl)
                          try simp only [Act.put, List.getElem_toArray, List.getElem_cons_zero, List.getElem_cons_succ, List.setIfInBounds_toArray, List.set_cons_zero, List.set_cons_succ]
                          refine wpAnyL_take (i := 2) (v := ?v20043) rfl (by kernel_rfl) (by kernel_rfl) (by kernel_rfl) (by kernel_rfl) (fun _ _ _ h => h) (Or.inl ⟨by kernel_rfl, ?hy20043⟩) (by assumption) ?r20043
                          case hy20043 => (intro W hSW; obtain ⟨hV0, ⟨s0, s1, s2, s3, s4, s5, s6, s7, s8, s9⟩, u0, u1, u2, u3, u4, u5, u6, u7, u8, u9⟩ := hSW; go_simp; try with_reducible rfl)
                          try simp only [Act.put, List.getElem_toArray, List.getElem_cons_zero, List.getElem_cons_succ, List.setIfInBounds_toArray, List.set_cons_zero, List.set_cons_succ]
                          refine wpAnyL_take (i := 3) (v := ?v20044) rfl (by kernel_rfl) (by kernel_rfl) (by kernel_rfl) (by kernel_rfl) (fun _ _ _ h => h) (Or.inl ⟨by kernel_rfl, ?hy20044⟩) (by assumption) ?r20044
                          case hy20044 => (intro W hSW; obtain ⟨hV0, ⟨s0, s1, s2, s3, s4, s5, s6, s7, s8, s9⟩, u0, u1, u2, u3, u4, u5, u6, u7, u8, u9⟩ := hSW; go_simp; try with_reducible rfl)
                          try simp only [Act.put, List.getElem_toArray, List.getElem_cons_zero, List.getElem_cons_succ, List.setIfInBounds_toArray, List.set_cons_zero, List.set_cons_succ]
                          refine wpAnyL_take (i := 4) (v := ?v20045) rfl (by kernel_rfl) (by kernel_rfl) (by kernel_rfl) (by kernel_rfl) (fun _ _ _ h => h) (Or.inl ⟨by kernel_rfl, ?hy20045⟩) (by assumption) ?r20045
                          case hy20045 => (intro W hSW; obtain ⟨hV0, ⟨s0, s1, s2, s3, s4, s5, s6, s7, s8, s9⟩, u0, u1, u2, u3, u4, u5, u6, u7, u8, u9⟩ := hSW; go_simp; try with_reducible rfl)
                          try simp only [Act.put, List.getElem_toArray, List.getElem_cons_zero, List.getElem_cons_succ, List.setIfInBounds_toArray, List.set_cons_zero, List.set_cons_succ]
                          refine wpAnyL_take (i := 5) (v := ?v20046) rfl (by kernel_rfl) (by kernel_rfl) (by kernel_rfl) (by kernel_rfl) (fun _ _ _ h => h) (Or.inl ⟨by kernel_rfl, ?hy20046⟩) (by assumption) ?r20046
                          case hy20046 => (intro W hSW; obtain ⟨hV0, ⟨s0, s1, s2, s3, s4, s5, s6, s7, s8, s9⟩, u0, u1, u2, u3, u4, u5, u6, u7, u8, u9⟩ := hSW; go_simp; try with_reducible rfl)
                          try simp only [Act.put, List.getElem_toArray, List.getElem_cons_zero, List.getElem_cons_succ, List.setIfInBounds_toArray, List.set_cons_zero, List.set_cons_succ]
                          refine wpAnyL_take (i := 6) (v := ?v20047) rfl (by kernel_rfl) (by kernel_rfl) (by kernel_rfl) (by kernel_rfl) (fun _ _ _ h => h) (Or.inl ⟨by kernel_rfl, ?hy20047⟩) (by assumption) ?r20047
                          case hy20047 => (intro W hSW; obtain ⟨hV0, ⟨s0, s1, s2, s3, s4, s5, s6, s7, s8, s9⟩, u0, u1, u2, u3, u4, u5, u6, u7, u8, u9⟩ := hSW; go_simp; try with_reducible rfl)
                          try simp only [Act.put, List.getElem_toArray, List.getElem_cons_zero, List.getElem_cons_succ, List.setIfInBounds_toArray, List.set_cons_zero, List.set_cons_succ]
                          refine wpAnyL_take (i := 7) (v := ?v20048) rfl (by kernel_rfl) (by kernel_rfl) (by kernel_rfl) (by kernel_rfl) (fun _ _ _ h => h) (Or.inl ⟨by kernel_rfl, ?hy20048⟩) (by assumption) ?r20048
                          case hy20048 => (intro W hSW; obtain ⟨hV0, ⟨s0, s1, s2, s3, s4, s5, s6, s7, s8, s9⟩, u0, u1, u2, u3, u4, u5, u6, u7, u8, u9⟩ := hSW; go_simp; try with_reducible rfl)
                          try simp only [Act.put, List.getElem_toArray, List.getElem_cons_zero, List.getElem_cons_succ, List.setIfInBounds_toArray, List.set_cons_zero, List.set_cons_succ]
                          refine wpAnyL_take (i := 8) (v := ?v20049) rfl (by kernel_rfl) (by kernel_rfl) (by kernel_rfl) (by kernel_rfl) (fun _ _ _ h => h) (Or.inl ⟨by kernel_rfl, ?hy20049⟩) (by assumption) ?r20049
                          case hy20049 => (intro W hSW; obtain ⟨hV0, ⟨s0, s1, s2, s3, s4, s5, s6, s7, s8, s9⟩, u0, u1, u2, u3, u4, u5, u6, u7, u8, u9⟩ := hSW; go_simp; try with_reducible rfl)
                          try simp only [Act.put, List.getElem_toArray, List.getElem_cons_zero, List.getElem_cons_succ, List.setIfInBounds_toArray, List.set_cons_zero, List.set_cons_succ]
                          refine wpAnyL_take (i := 9) (v := ?v20050) rfl (by kernel_rfl) (by kernel_rfl) (by kernel_rfl) (by kernel_rfl) (fun _ _ _ h => h) (Or.inl ⟨by kernel_rfl, ?hy20050⟩) (by assumption) ?r20050
                          case hy20050 => (intro W hSW; obtain ⟨hV0, ⟨s0, s1, s2, s3, s4, s5, s6, s7, s8, s9⟩, u0, u1, u2, u3, u4, u5, u6, u7, u8, u9⟩ := hSW; go_simp; try with_reducible rfl)
                          try simp only [Act.put, List.getElem_toArray, List.getElem_cons_zero, List.getElem_cons_succ, List.setIfInBounds_toArray, List.set_cons_zero, List.set_cons_succ]
                          refine wpAnyL_take (i := 10) (v := ?v20051) rfl (by kernel_rfl) (by kernel_rfl) (by kernel_rfl) (by kernel_rfl) (fun _ _ _ h => h) (Or.inl ⟨by kernel_rfl, ?hy20051⟩) (by assumption) ?r20051
                          case hy20051 => (intro W hSW; obtain ⟨hV0, ⟨s0, s1, s2, s3, s4, s5, s6, s7, s8, s9⟩, u0, u1, u2, u3, u4, u5, u6, u7, u8, u9⟩ := hSW; go_simp; try with_reducible rfl)
                          try simp only [Act.put, List.getElem_toArray, List.getElem_cons_zero, List.getElem_cons_succ, List.setIfInBounds_toArray, List.set_cons_zero, List.set_cons_succ]
                          refine wpAnyL_take (i := 11) (v := ?v20052) rfl (by kernel_rfl) (by kernel_rfl) (by kernel_rfl) (by kernel_rfl) (fun _ _ _ h => h) (Or.inl ⟨by kernel_rfl, ?hy20052⟩) (by assumption) ?r20052
                          case hy20052 => (intro W hSW; obtain ⟨hV0, ⟨s0, s1, s2, s3, s4, s5, s6, s7, s8, s9⟩, u0, u1, u2, u3, u4, u5, u6, u7, u8, u9⟩ := hSW; go_simp; try with_reducible rfl)
                          try simp only [Act.put, List.getElem_toArray, List.getElem_cons_zero, List.getElem_cons_succ, List.setIfInBounds_toArray, List.set_cons_zero, List.set_cons_succ]
                          refine wpAnyL_take (i := 12) (v := ?v20053) rfl (by kernel_rfl) (by kernel_rfl) (by kernel_rfl) (by kernel_rfl) (fun _ _ _ h => h) (Or.inl ⟨by kernel_rfl, ?hy20053⟩) (by assumption) ?r20053
                          case hy20053 => (intro W hSW; obtain ⟨hV0, ⟨s0, s1, s2, s3, s4, s5, s6, s7, s8, s9⟩, u0, u1, u2, u3, u4, u5, u6, u7, u8, u9⟩ := hSW; go_simp; try with_reducible rfl)
                          try simp only [Act.put, List.getElem_toArray, List.getElem_cons_zero, List.getElem_cons_succ, List.setIfInBounds_toArray, List.set_cons_zero, List.set_cons_succ]
                          refine wpAnyL_take (i := 13) (v := ?v20054) rfl (by kernel_rfl) (by kernel_rfl) (by kernel_rfl) (by kernel_rfl) (fun _ _ _ h => h) (Or.inl ⟨by kernel_rfl, ?hy20054⟩) (by assumption) ?r20054
                          case hy20054 => (intro W hSW; obtain ⟨hV0, ⟨s0, s1, s2, s3, s4, s5, s6, s7, s8, s9⟩, u0, u1, u2, u3, u4, u5, u6, u7, u8, u9⟩ := hSW; go_simp; try with_reducible rfl)
                          try simp only [Act.put, List.getElem_toArray, List.getElem_cons_zero, List.getElem_cons_succ, List.setIfInBounds_toArray, List.set_cons_zero, List.set_cons_succ]
                          refine wpAnyL_one (i := 14) (by kernel_rfl) rfl (by decide) (fun K hK => ?_)
                          go_simp
                          go_at_call 72
                          with_reducible refine (HC.out _).mono ?_
                          rintro e w9 ⟨rfl, hF⟩
                          have hbu := below_on hH.1 (Nat.le_refl _) hF
                          clear hF
                          refine hK.out _ _ (HS.out _ hbu) (fun hH => ?_)
                          clear hK K
                          try simp only [Act.put, List.getElem_toArray, List.getElem_cons_zero, List.getElem_cons_succ, List.setIfInBounds_toArray, List.set_cons_zero, List.set_cons_succ]
                          refine wpAnyL_last (by kernel_rfl) rfl (fun K hK => ?_)
                          go_simp
                          refine hK.out _ _ ?_
                          clear hK K
                          try simp only [Act.put, List.getElem_toArray, List.getElem_cons_zero, List.getElem_cons_succ, List.setIfInBounds_toArray, List.set_cons_zero, List.set_cons_succ]
                          refine wpAnyL_done (by kernel_rfl) ?_ _
                          refine NoPanic.normal ?_
                          have hV := hH.1
                          clear hH HS ew ew2 Ew
                          go_wp2
                          go_meet
                          exact ⟨q, rfl, by omega, HS2, below_on hbv (Nat.le_refl _) hV⟩
                        · rw [hlo] at HC
                          have Hg := Lib.hid (Hgo.out hlo)
                          clear hlo Hgo Hstop HTp
                          as_aux_lemma =>
                          go_upto_region 17 with fail
                          refine wp_region_noPanic ?_
                          refine wp_region_l 15 (fun V : World => Below wr.heap.size wr V ∧ (V.cell? ⟨bt, ot + p * 10, none⟩ = some (i64 y.client) ∧ V.cell? ⟨bt, ot + p * 10 + 1, none⟩ = some (i64 y.seq) ∧ V.cell? ⟨bt, ot + p * 10 + 2, none⟩ = some (i64 y.kind) ∧ V.cell? ⟨bt, ot + p * 10 + 3, none⟩ = some (.string y.acct) ∧ V.cell? ⟨bt, ot + p * 10 + 4, none⟩ = some (.string y.peer) ∧ V.cell? ⟨bt, ot + p * 10 + 5, none⟩ = some (i64 y.sum) ∧ V.cell? ⟨bt, ot + p * 10 + 6, none⟩ = some (.slice y.la y.legs.length y.lc) ∧ V.cell? ⟨bt, ot + p * 10 + 7, none⟩ = some (i64 y.period) ∧ V.cell? ⟨bt, ot + p * 10 + 8, none⟩ = some (i64 y.hold) ∧ V.cell? ⟨bt, ot + p * 10 + 9, none⟩ = some (.string y.note)) ∧ V.cell? ⟨bM, oM + k * 10, none⟩ = some (i64 x.client) ∧ V.cell? ⟨bM, oM + k * 10 + 1, none⟩ = some (i64 x.seq) ∧ V.cell? ⟨bM, oM + k * 10 + 2, none⟩ = some (i64 x.kind) ∧ V.cell? ⟨bM, oM + k * 10 + 3, none⟩ = some (.string x.acct) ∧ V.cell? ⟨bM, oM + k * 10 + 4, none⟩ = some (.string x.peer) ∧ V.cell? ⟨bM, oM + k * 10 + 5, none⟩ = some (i64 x.sum) ∧ V.cell? ⟨bM, oM + k * 10 + 6, none⟩ = some (.slice x.la x.legs.length x.lc) ∧ V.cell? ⟨bM, oM + k * 10 + 7, none⟩ = some (i64 x.period) ∧ V.cell? ⟨bM, oM + k * 10 + 8, none⟩ = some (i64 x.hold) ∧ V.cell? ⟨bM, oM + k * 10 + 9, none⟩ = some (.string x.note)) (by kernel_rfl) (HS.out _ (Below.refl _ _).drew) (fun hH => ?_)
                          refine wpAnyL_take (i := 0) (v := ?v20055) rfl (by kernel_rfl) (by kernel_rfl) (by kernel_rfl) (by kernel_rfl) (fun _ _ _ h => h) (Or.inl ⟨by kernel_rfl, ?hy20055⟩) (by assumption) ?r20055
                          case hy20055 => (intro W hSW; obtain ⟨hV0, ⟨s0, s1, s2, s3, s4, s5, s6, s7, s8, s9⟩, u0, u1, u2, u3, u4, u5, u6, u7, u8, u9⟩ := hSW; go_simp; try with_reducible rfl)
                          try simp only [Act.put, List.getElem_toArray, List.getElem_cons_zero, List.setIfInBounds_toArray, List.set_cons_zero, List.set_cons_succ]
                          refine wpAnyL_take (i := 1) (v := ?v20056) rfl (by kernel_rfl) (by kernel_rfl) (by kernel_rfl) (by kernel_rfl) (fun _ _ _ h => h) (Or.inl ⟨by kernel_rfl, ?hy20056⟩) (by assumption) ?r20056
                          case hy20056 => (intro W hSW; obtain ⟨hV0, ⟨s0, s1, s2, s3, s4, s5, s6, s7, s8, s9⟩, u0, u1, u2, u3, u4, u5, u6, u7, u8, u9⟩ := hSW; go_simp; try with_reducible rfl)
                          try simp only [Act.put, List.getElem_toArray, List.getElem_cons_zero, List.getElem_cons_succ, List.setIfInBounds_toArray, List.set_cons_zero, List.set_cons_succ]
                          refine wpAnyL_take (i := 2) (v := ?v20057) rfl (by kernel_rfl) (by kernel_rfl) (by kernel_rfl) (by kernel_rfl) (fun _ _ _ h => h) (Or.inl ⟨by kernel_rfl, ?hy20057⟩) (by assumption) ?r20057
                          case hy20057 => (intro W hSW; obtain ⟨hV0, ⟨s0, s1, s2, s3, s4, s5, s6, s7, s8, s9⟩, u0, u1, u2, u3, u4, u5, u6, u7, u8, u9⟩ := hSW; go_simp; try with_reducible rfl)
                          try simp only [Act.put, List.getElem_toArray, List.getElem_cons_zero, List.getElem_cons_succ, List.setIfInBounds_toArray, List.set_cons_zero, List.set_cons_succ]
                          refine wpAnyL_take (i := 3) (v := ?v20058) rfl (by kernel_rfl) (by kernel_rfl) (by kernel_rfl) (by kernel_rfl) (fun _ _ _ h => h) (Or.inl ⟨by kernel_rfl, ?hy20058⟩) (by assumption) ?r20058
                          case hy20058 => (intro W hSW; obtain ⟨hV0, ⟨s0, s1, s2, s3, s4, s5, s6, s7, s8, s9⟩, u0, u1, u2, u3, u4, u5, u6, u7, u8, u9⟩ := hSW; go_simp; try with_reducible rfl)
                          try simp only [Act.put, List.getElem_toArray, List.getElem_cons_zero, List.getElem_cons_succ, List.setIfInBounds_toArray, List.set_cons_zero, List.set_cons_succ]
                          refine wpAnyL_take (i := 4) (v := ?v20059) rfl (by kernel_rfl) (by kernel_rfl) (by kernel_rfl) (by kernel_rfl) (fun _ _ _ h => h) (Or.inl ⟨by kernel_rfl, ?hy20059⟩) (by assumption) ?r20059
                          case hy20059 => (intro W hSW; obtain ⟨hV0, ⟨s0, s1, s2, s3, s4, s5, s6, s7, s8, s9⟩, u0, u1, u2, u3, u4, u5, u6, u7, u8, u9⟩ := hSW; go_simp; try with_reducible rfl)
                          try simp only [Act.put, List.getElem_toArray, List.getElem_cons_zero, List.getElem_cons_succ, List.setIfInBounds_toArray, List.set_cons_zero, List.set_cons_succ]
                          refine wpAnyL_take (i := 5) (v := ?v20060) rfl (by kernel_rfl) (by kernel_rfl) (by kernel_rfl) (by kernel_rfl) (fun _ _ _ h => h) (Or.inl ⟨by kernel_rfl, ?hy20060⟩) (by assumption) ?r20060
                          case hy20060 => (intro W hSW; obtain ⟨hV0, ⟨s0, s1, s2, s3, s4, s5, s6, s7, s8, s9⟩, u0, u1, u2, u3, u4, u5, u6, u7, u8, u9⟩ := hSW; go_simp; try with_reducible rfl)
                          try simp only [Act.put, List.getElem_toArray, List.getElem_cons_zero, List.getElem_cons_succ, List.setIfInBounds_toArray, List.set_cons_zero, List.set_cons_succ]
                          refine wpAnyL_take (i := 6) (v := ?v20061) rfl (by kernel_rfl) (by kernel_rfl) (by kernel_rfl) (by kernel_rfl) (fun _ _ _ h => h) (Or.inl ⟨by kernel_rfl, ?hy20061⟩) (by assumption) ?r20061
                          case hy20061 => (intro W hSW; obtain ⟨hV0, ⟨s0, s1, s2, s3, s4, s5, s6, s7, s8, s9⟩, u0, u1, u2, u3, u4, u5, u6, u7, u8, u9⟩ := hSW; go_simp; try with_reducible rfl)
                          try simp only [Act.put, List.getElem_toArray, List.getElem_cons_zero, List.getElem_cons_succ, List.setIfInBounds_toArray, List.set_cons_zero, List.set_cons_succ]
                          refine wpAnyL_take (i := 7) (v := ?v20062) rfl (by kernel_rfl) (by kernel_rfl) (by kernel_rfl) (by kernel_rfl) (fun _ _ _ h => h) (Or.inl ⟨by kernel_rfl, ?hy20062⟩) (by assumption) ?r20062
                          case hy20062 => (intro W hSW; obtain ⟨hV0, ⟨s0, s1, s2, s3, s4, s5, s6, s7, s8, s9⟩, u0, u1, u2, u3, u4, u5, u6, u7, u8, u9⟩ := hSW; go_simp; try with_reducible rfl)
                          try simp only [Act.put, List.getElem_toArray, List.getElem_cons_zero, List.getElem_cons_succ, List.setIfInBounds_toArray, List.set_cons_zero, List.set_cons_succ]
                          refine wpAnyL_take (i := 8) (v := ?v20063) rfl (by kernel_rfl) (by kernel_rfl) (by kernel_rfl) (by kernel_rfl) (fun _ _ _ h => h) (Or.inl ⟨by kernel_rfl, ?hy20063⟩) (by assumption) ?r20063
                          case hy20063 => (intro W hSW; obtain ⟨hV0, ⟨s0, s1, s2, s3, s4, s5, s6, s7, s8, s9⟩, u0, u1, u2, u3, u4, u5, u6, u7, u8, u9⟩ := hSW; go_simp; try with_reducible rfl)
                          try simp only [Act.put, List.getElem_toArray, List.getElem_cons_zero, List.getElem_cons_succ, List.setIfInBounds_toArray, List.set_cons_zero, List.set_cons_succ]
                          refine wpAnyL_take (i := 9) (v := ?v20064) rfl (by kernel_rfl) (by kernel_rfl) (by kernel_rfl) (by kernel_rfl) (fun _ _ _ h => h) (Or.inl ⟨by kernel_rfl, ?hy20064⟩) (by assumption) ?r20064
                          case hy20064 => (intro W hSW; obtain ⟨hV0, ⟨s0, s1, s2, s3, s4, s5, s6, s7, s8, s9⟩, u0, u1, u2, u3, u4, u5, u6, u7, u8, u9⟩ := hSW; go_simp; try with_reducible rfl)
                          try simp only [Act.put, List.getElem_toArray, List.getElem_cons_zero, List.getElem_cons_succ, List.setIfInBounds_toArray, List.set_cons_zero, List.set_cons_succ]
                          refine wpAnyL_take (i := 10) (v := ?v20065) rfl (by kernel_rfl) (by kernel_rfl) (by kernel_rfl) (by kernel_rfl) (fun _ _ _ h => h) (Or.inl ⟨by kernel_rfl, ?hy20065⟩) (by assumption) ?r20065
                          case hy20065 => (intro W hSW; obtain ⟨hV0, ⟨s0, s1, s2, s3, s4, s5, s6, s7, s8, s9⟩, u0, u1, u2, u3, u4, u5, u6, u7, u8, u9⟩ := hSW; go_simp; try with_reducible rfl)
                          try simp only [Act.put, List.getElem_toArray, List.getElem_cons_zero, List.getElem_cons_succ, List.setIfInBounds_toArray, List.set_cons_zero, List.set_cons_succ]
                          refine wpAnyL_take (i := 11) (v := ?v20066) rfl (by kernel_rfl) (by kernel_rfl) (by kernel_rfl) (by kernel_rfl) (fun _ _ _ h => h) (Or.inl ⟨by kernel_rfl, ?hy20066⟩) (by assumption) ?r20066
                          case hy20066 => (intro W hSW; obtain ⟨hV0, ⟨s0, s1, s2, s3, s4, s5, s6, s7, s8, s9⟩, u0, u1, u2, u3, u4, u5, u6, u7, u8, u9⟩ := hSW; go_simp; try with_reducible rfl)
                          try simp only [Act.put, List.getElem_toArray, List.getElem_cons_zero, List.getElem_cons_succ, List.setIfInBounds_toArray, List.set_cons_zero, List.set_cons_succ]
                          refine wpAnyL_take (i := 12) (v := ?v20067) rfl (by kernel_rfl) (by kernel_rfl) (by kernel_rfl) (by kernel_rfl) (fun _ _ _ h => h) (Or.inl ⟨by kernel_rfl, ?hy20067⟩) (by assumption) ?r20067
                          case hy20067 => (intro W hSW; obtain ⟨hV0, ⟨s0, s1, s2, s3, s4, s5, s6, s7, s8, s9⟩, u0, u1, u2, u3, u4, u5, u6, u7, u8, u9⟩ := hSW; go_simp; try with_reducible rfl)
                          try simp only [Act.put, List.getElem_toArray, List.getElem_cons_zero, List.getElem_cons_succ, List.setIfInBounds_toArray, List.set_cons_zero, List.set_cons_succ]
                          refine wpAnyL_take (i := 13) (v := ?v20068) rfl (by kernel_rfl) (by kernel_rfl) (by kernel_rfl) (by kernel_rfl) (fun _ _ _ h => h) (Or.inl ⟨by kernel_rfl, ?hy20068⟩) (by assumption) ?r20068
                          case hy20068 => (intro W hSW; obtain ⟨hV0, ⟨s0, s1, s2, s3, s4, s5, s6, s7, s8, s9⟩, u0, u1, u2, u3, u4, u5, u6, u7, u8, u9⟩ := hSW; go_simp; try with_reducible rfl)
                          try simp only [Act.put, List.getElem_toArray, List.getElem_cons_zero, List.getElem_cons_succ, List.setIfInBounds_toArray, List.set_cons_zero, List.set_cons_succ]
                          refine wpAnyL_one (i := 14) (by kernel_rfl) rfl (by decide) (fun K hK => ?_)
                          go_simp
                          go_at_call 72
                          with_reducible refine (HC.out _).mono ?_
                          rintro e w9 ⟨rfl, hF⟩
                          have hbu := below_on hH.1 (Nat.le_refl _) hF
                          clear hF
                          refine hK.out _ _ (HS.out _ hbu) (fun hH => ?_)
                          clear hK K
                          try simp only [Act.put, List.getElem_toArray, List.getElem_cons_zero, List.getElem_cons_succ, List.setIfInBounds_toArray, List.set_cons_zero, List.set_cons_succ]
                          refine wpAnyL_last (by kernel_rfl) rfl (fun K hK => ?_)
                          go_simp
                          refine hK.out _ _ ?_
                          clear hK K
                          try simp only [Act.put, List.getElem_toArray, List.getElem_cons_zero, List.getElem_cons_succ, List.setIfInBounds_toArray, List.set_cons_zero, List.set_cons_succ]
                          refine wpAnyL_done (by kernel_rfl) ?_ _
                          refine NoPanic.normal ?_
                          have hV := hH.1
                          clear hH HS ew ew2 Ew
                          go_wp2
                          go_roundw
                          case rel => exact ⟨p, (by have h9 := Hp.out; go_num), hpl, Hg, below_on hbv (Nat.le_refl _) hV⟩
                          case measure => have := Hp.out; simp [intOf]; omega
                  case rest =>
                    obtain ⟨wz, rfl⟩ : ∃ wz, wz = wc := ⟨wc, rfl⟩
                    obtain ⟨q, rfl, hq, HS2, hbv⟩ := hcut
                    have hbz := hbw.trans (hbv.mono hwr)
                    have HTz : Hid (∀ V, Below wz.heap.size wz V → SlS V (Oth V (.slice none 0 0)) At ct (T.take q)) := Lib.hid fun V hV => ((HsT.out.later (below_on hbv (Nat.le_refl _) hV)).take q).mono (fun b hb => ⟨hb, by intro e; cases e⟩)
                    have HDz : Hid (∀ V, Below wz.heap.size wz V → SlS V (fun b => b < wz.heap.size) (if ct = q then At else At.map (·.add (q * Enc.size Od))) (ct - q) (T.drop q)) := Lib.hid fun V hV => ((HsT.out.later hbv).below hV).drop hq
                    have Hql : Hid (q = (T.take q).length) := Lib.hid (by rw [List.length_take]; omega)
                    have hqc : q ≤ ct := by omega
                    have q0 : (0 : Int) ≤ (q : Int) := by omega
                    have qc : (q : Int) ≤ (ct : Int) := by omega
                    have qT : (q : Int) ≤ (T.length : Int) := by omega
                    have HS : Hid (∀ V, Below wz.heap.size wz V → Below wz.heap.size wz V ∧ V.cell? ⟨bM, oM + k * 10, none⟩ = some (i64 x.client) ∧ V.cell? ⟨bM, oM + k * 10 + 1, none⟩ = some (i64 x.seq) ∧ V.cell? ⟨bM, oM + k * 10 + 2, none⟩ = some (i64 x.kind) ∧ V.cell? ⟨bM, oM + k * 10 + 3, none⟩ = some (.string x.acct) ∧ V.cell? ⟨bM, oM + k * 10 + 4, none⟩ = some (.string x.peer) ∧ V.cell? ⟨bM, oM + k * 10 + 5, none⟩ = some (i64 x.sum) ∧ V.cell? ⟨bM, oM + k * 10 + 6, none⟩ = some (.slice x.la x.legs.length x.lc) ∧ V.cell? ⟨bM, oM + k * 10 + 7, none⟩ = some (i64 x.period) ∧ V.cell? ⟨bM, oM + k * 10 + 8, none⟩ = some (i64 x.hold) ∧ V.cell? ⟨bM, oM + k * 10 + 9, none⟩ = some (.string x.note)) := Lib.hid fun V hV => ⟨hV, (HCi.out V (hbz.trans (hV.mono hbz.size))).2⟩
                    have HRz := Lib.hid (HRw.out.later hbv)
                    have hwz : w.heap.size ≤ wz.heap.size := Nat.le_trans hwo hbz.size
                    have hwzo : wo.heap.size ≤ wz.heap.size := hbz.size
                    have HoxV := Lib.hid (fun V (hV2 : Below wz.heap.size wz V) => Hox.out V ((hb.trans (hbz.mono hwo)).trans (hV2.mono hwz)) x Hxm.out)
                    have hqM : q ≤ 60000 := Nat.le_trans hq hTl
                    have Hln1 : Hid (([] : List Od).length + (T.take q).length ≤ 4294967296) := Lib.hid (by rw [List.length_nil, List.length_take]; omega)
                    have Hln9 : Hid ((T.take q).length + 1 ≤ 4294967296) := Lib.hid (by rw [List.length_take]; omega)
                    have Hln2 : Hid ((T.take q ++ [x]).length + (T.drop q).length ≤ 4294967296) := Lib.hid (by simp only [List.length_append, List.length_take, List.length_drop, List.length_cons, List.length_nil]; omega)
                    clear hbv hbw HRw HCi
                    as_aux_lemma =>
                    go_upto_region 19 with fail
                    refine wp_region_noPanic ?_
                    refine wp_region_l 14 (fun V : World => Below wz.heap.size wz V ∧ V.cell? ⟨bM, oM + k * 10, none⟩ = some (i64 x.client) ∧ V.cell? ⟨bM, oM + k * 10 + 1, none⟩ = some (i64 x.seq) ∧ V.cell? ⟨bM, oM + k * 10 + 2, none⟩ = some (i64 x.kind) ∧ V.cell? ⟨bM, oM + k * 10 + 3, none⟩ = some (.string x.acct) ∧ V.cell? ⟨bM, oM + k * 10 + 4, none⟩ = some (.string x.peer) ∧ V.cell? ⟨bM, oM + k * 10 + 5, none⟩ = some (i64 x.sum) ∧ V.cell? ⟨bM, oM + k * 10 + 6, none⟩ = some (.slice x.la x.legs.length x.lc) ∧ V.cell? ⟨bM, oM + k * 10 + 7, none⟩ = some (i64 x.period) ∧ V.cell? ⟨bM, oM + k * 10 + 8, none⟩ = some (i64 x.hold) ∧ V.cell? ⟨bM, oM + k * 10 + 9, none⟩ = some (.string x.note)) (by kernel_rfl) (HS.out _ (Below.refl _ _).drew) (fun hH => ?_)
                    generalize wz.drew = Wd at *
                    refine wpAnyL_take (i := 0) (v := ?v20069) rfl (by kernel_rfl) (by kernel_rfl) (by kernel_rfl) (by kernel_rfl) (fun _ _ _ h => h) (Or.inl ⟨by kernel_rfl, ?hy20069⟩) (by assumption) ?r20069
                    case hy20069 => (intro W hSW; obtain ⟨hV0, u0, u1, u2, u3, u4, u5, u6, u7, u8, u9⟩ := hSW; go_simp; try with_reducible rfl)
                    try simp only [Act.put, List.getElem_toArray, List.getElem_cons_zero, List.setIfInBounds_toArray, List.set_cons_zero, List.set_cons_succ]
                    refine wpAnyL_take (i := 1) (v := ?v20070) rfl (by kernel_rfl) (by kernel_rfl) (by kernel_rfl) (by kernel_rfl) (fun _ _ _ h => h) (Or.inl ⟨by kernel_rfl, ?hy20070⟩) (by assumption) ?r20070
                    case hy20070 => (intro W hSW; obtain ⟨hV0, u0, u1, u2, u3, u4, u5, u6, u7, u8, u9⟩ := hSW; go_simp; try with_reducible rfl)
                    try simp only [Act.put, List.getElem_toArray, List.getElem_cons_zero, List.getElem_cons_succ, List.setIfInBounds_toArray, List.set_cons_zero, List.set_cons_succ]
                    refine wpAnyL_take (i := 2) (v := ?v20071) rfl (by kernel_rfl) (by kernel_rfl) (by kernel_rfl) (by kernel_rfl) (fun _ _ _ h => h) (Or.inl ⟨by kernel_rfl, ?hy20071⟩) (by assumption) ?r20071
                    case hy20071 => (intro W hSW; obtain ⟨hV0, u0, u1, u2, u3, u4, u5, u6, u7, u8, u9⟩ := hSW; go_simp; try with_reducible rfl)
                    try simp only [Act.put, List.getElem_toArray, List.getElem_cons_zero, List.getElem_cons_succ, List.setIfInBounds_toArray, List.set_cons_zero, List.set_cons_succ]
                    refine wpAnyL_take (i := 4) (v := ?v20072) rfl (by kernel_rfl) (by kernel_rfl) (by kernel_rfl) (by kernel_rfl) (fun _ _ _ h => h) (Or.inl ⟨by kernel_rfl, ?hy20072⟩) (by assumption) ?r20072
                    case hy20072 => (intro W hSW; obtain ⟨hV0, u0, u1, u2, u3, u4, u5, u6, u7, u8, u9⟩ := hSW; go_simp; try with_reducible rfl)
                    try simp only [Act.put, List.getElem_toArray, List.getElem_cons_zero, List.getElem_cons_succ, List.setIfInBounds_toArray, List.set_cons_zero, List.set_cons_succ]
                    refine wpAnyL_take (i := 5) (v := ?v20073) rfl (by kernel_rfl) (by kernel_rfl) (by kernel_rfl) (by kernel_rfl) (fun _ _ _ h => h) (Or.inl ⟨by kernel_rfl, ?hy20073⟩) (by assumption) ?r20073
                    case hy20073 => (intro W hSW; obtain ⟨hV0, u0, u1, u2, u3, u4, u5, u6, u7, u8, u9⟩ := hSW; go_simp; try with_reducible rfl)
                    try simp only [Act.put, List.getElem_toArray, List.getElem_cons_zero, List.getElem_cons_succ, List.setIfInBounds_toArray, List.set_cons_zero, List.set_cons_succ]
                    refine wpAnyL_take (i := 6) (v := ?v20074) rfl (by kernel_rfl) (by kernel_rfl) (by kernel_rfl) (by kernel_rfl) (fun _ _ _ h => h) (Or.inl ⟨by kernel_rfl, ?hy20074⟩) (by assumption) ?r20074
                    case hy20074 => (intro W hSW; obtain ⟨hV0, u0, u1, u2, u3, u4, u5, u6, u7, u8, u9⟩ := hSW; go_simp; try with_reducible rfl)
                    try simp only [Act.put, List.getElem_toArray, List.getElem_cons_zero, List.getElem_cons_succ, List.setIfInBounds_toArray, List.set_cons_zero, List.set_cons_succ]
                    refine wpAnyL_take (i := 7) (v := ?v20075) rfl (by kernel_rfl) (by kernel_rfl) (by kernel_rfl) (by kernel_rfl) (fun _ _ _ h => h) (Or.inl ⟨by kernel_rfl, ?hy20075⟩) (by assumption) ?r20075
                    case hy20075 => (intro W hSW; obtain ⟨hV0, u0, u1, u2, u3, u4, u5, u6, u7, u8, u9⟩ := hSW; go_simp; try with_reducible rfl)
                    try simp only [Act.put, List.getElem_toArray, List.getElem_cons_zero, List.getElem_cons_succ, List.setIfInBounds_toArray, List.set_cons_zero, List.set_cons_succ]
                    refine wpAnyL_take (i := 10) (v := ?v20076) rfl (by kernel_rfl) (by kernel_rfl) (by kernel_rfl) (by kernel_rfl) (fun _ _ _ h => h) (Or.inl ⟨by kernel_rfl, ?hy20076⟩) (by assumption) ?r20076
                    case hy20076 => (intro W hSW; obtain ⟨hV0, u0, u1, u2, u3, u4, u5, u6, u7, u8, u9⟩ := hSW; go_simp; try with_reducible rfl)
                    try simp only [Act.put, List.getElem_toArray, List.getElem_cons_zero, List.getElem_cons_succ, List.setIfInBounds_toArray, List.set_cons_zero, List.set_cons_succ]
                    refine wpAnyL_take (i := 11) (v := ?v20077) rfl (by kernel_rfl) (by kernel_rfl) (by kernel_rfl) (by kernel_rfl) (fun _ _ _ h => h) (Or.inl ⟨by kernel_rfl, ?hy20077⟩) (by assumption) ?r20077
                    case hy20077 => (intro W hSW; obtain ⟨hV0, u0, u1, u2, u3, u4, u5, u6, u7, u8, u9⟩ := hSW; go_simp; try with_reducible rfl)
                    try simp only [Act.put, List.getElem_toArray, List.getElem_cons_zero, List.getElem_cons_succ, List.setIfInBounds_toArray, List.set_cons_zero, List.set_cons_succ]
                    refine wpAnyL_take (i := 12) (v := ?v20078) rfl (by kernel_rfl) (by kernel_rfl) (by kernel_rfl) (by kernel_rfl) (fun _ _ _ h => h) (Or.inl ⟨by kernel_rfl, ?hy20078⟩) (by assumption) ?r20078
                    case hy20078 => (intro W hSW; obtain ⟨hV0, u0, u1, u2, u3, u4, u5, u6, u7, u8, u9⟩ := hSW; go_simp; try with_reducible rfl)
                    try simp only [Act.put, List.getElem_toArray, List.getElem_cons_zero, List.getElem_cons_succ, List.setIfInBounds_toArray, List.set_cons_zero, List.set_cons_succ]
                    refine wpAnyL_ready (rs := [3, 8]) (by kernel_rfl) (by simp) ?_
                    refine AllReadyL.cons rfl (fun K hK => ?_) ?_
                    · skip
                      refine oper_append (.const (.slice none 0 0)) (.tmp 71) 22 rfl _ 120 Tryz.underlying22 inf_od rfl (by decide) (by decide) rfl (Own.nil_ _ wz.heap.size 50) At _ ct (T.take q) rfl Hql.out (HTz.out _ hH.1) Hln1.out hH.1.size ?_
                      intro v1 u1 hO1 hg1 hat1
                      rw [List.nil_append] at hO1
                      have hF := (Own.nil_ (α := Od) _ wz.heap.size 50).below hg1 (Nat.le_refl _) hH.1.size
                      have hbu := hH.1.trans hF
                      have HO1 := Lib.hid hO1
                      clear hF hg1 hat1 hO1
                      refine hK.out _ _ (HS.out _ hbu) (fun hH => ?_)
                      clear hK K
                      try simp only [Act.put, List.getElem_toArray, List.getElem_cons_zero, List.getElem_cons_succ, List.setIfInBounds_toArray, List.set_cons_zero, List.set_cons_succ]
                      refine wpAnyL_one (i := 8) (by kernel_rfl) rfl (by decide) (fun K hK => ?_)
                      refine oper_lit_od 76 rfl x rfl ?_
                      obtain ⟨gl, hgl0⟩ : ∃ gl, gl = u1.heap.size := ⟨_, rfl⟩
                      have hgl1 := heap_alloc_new u1 (.cells #[i64 x.client, i64 x.seq, i64 x.kind, .string x.acct, .string x.peer, i64 x.sum, .slice x.la x.legs.length x.lc, i64 x.period, i64 x.hold, .string x.note] 50)
                      rw [← hgl0] at hgl1
                      have Hgl := Lib.hid hgl1
                      have hne1 := HO1.out.new_ne (g := gl) (Nat.le_of_eq hgl0.symm)
                      have HO1 := Lib.hid (HO1.out.later ((Below.refl _ _).alloc (Nat.le_refl _) (.cells #[i64 x.client, i64 x.seq, i64 x.kind, .string x.acct, .string x.peer, i64 x.sum, .slice x.la x.legs.length x.lc, i64 x.period, i64 x.hold, .string x.note] 50)))
                      clear hgl1
                      have hbu := hH.1.alloc hH.1.size (.cells #[i64 x.client, i64 x.seq, i64 x.kind, .string x.acct, .string x.peer, i64 x.sum, .slice x.la x.legs.length x.lc, i64 x.period, i64 x.hold, .string x.note] 50)
                      refine hK.out _ _ (HS.out _ hbu) (fun hH => ?_)
                      clear hK K
                      try simp only [Act.put, List.getElem_toArray, List.getElem_cons_zero, List.getElem_cons_succ, List.setIfInBounds_toArray, List.set_cons_zero, List.set_cons_succ]
                      have Hgl0 := Lib.hid hgl0
                      clear hgl0
                      refine wpAnyL_one (i := 9) (by kernel_rfl) rfl (by decide) (fun K hK => ?_)
                      refine oper_append_one (.tmp 72) (.tmp 77) 22 rfl _ 120 Tryz.underlying22 inf_od rfl (by decide) (by decide) rfl HO1.out gl x (by first | rfl | (rw [Hgl0.out]; rfl)) _ 50 Hgl.out rfl hne1 (Enc.keep (HoxV.out _ hH.1) (fun _ _ => rfl) (fun b hb => HO1.out.oth (B := w.heap.size) hwz (Nat.le_trans hwz hH.1.size) b hb)) Hln9.out hH.1.size ?_
                      intro v2 u2 hO2 hg2 hat2
                      have hbu := hH.1.trans (HO1.out.below hg2 (Nat.le_refl _) hH.1.size)
                      have HO2 := Lib.hid hO2
                      clear hg2 hat2 hO2 HO1 hne1
                      refine hK.out _ _ (HS.out _ hbu) (fun hH => ?_)
                      clear hK K
                      try simp only [Act.put, List.getElem_toArray, List.getElem_cons_zero, List.getElem_cons_succ, List.setIfInBounds_toArray, List.set_cons_zero, List.set_cons_succ]
                      refine wpAnyL_one (i := 13) (by kernel_rfl) rfl (by decide) (fun K hK => ?_)
                      refine oper_append (.tmp 78) (.tmp 81) 22 rfl _ 120 Tryz.underlying22 inf_od rfl (by decide) (by decide) rfl HO2.out _ _ _ (T.drop q) rfl (by simp) ((HDz.out _ hH.1).mono (HO2.out.oth (Nat.le_refl _) hH.1.size)) Hln2.out hH.1.size ?_
                      intro v3 u3 hO3 hg3 hat3
                      have hbu := hH.1.trans (HO2.out.below hg3 (Nat.le_refl _) hH.1.size)
                      have HO3 := Lib.hid hO3
                      clear hg3 hat3 hO3 HO2
                      refine hK.out _ _ (HS.out _ hbu) (fun hH => ?_)
                      clear hK K
                      try simp only [Act.put, List.getElem_toArray, List.getElem_cons_zero, List.getElem_cons_succ, List.setIfInBounds_toArray, List.set_cons_zero, List.set_cons_succ]
                      refine wpAnyL_last (by kernel_rfl) rfl (fun K hK => ?_)
                      refine oper_assign (.tmp 82) rfl v3 rfl ?_
                      refine hK.out _ _ ?_
                      clear hK K
                      try simp only [Act.put, List.getElem_toArray, List.getElem_cons_zero, List.getElem_cons_succ, List.setIfInBounds_toArray, List.set_cons_zero, List.set_cons_succ]
                      refine wpAnyL_done (by kernel_rfl) ?_ _
                      refine NoPanic.normal ?_
                      have hbf := hH.1
                      clear hH HS HTz HDz HoxV
                      have hltr := HRz.out.1.lt
                      have hlt3 := HO3.out.1.lt
                      have hap3 : v3.ownBlock = none ∨ v3.ownBlock ≠ r.ownBlock := by
                        cases hv : v3.ownBlock with
                        | none => exact .inl rfl
                        | some b => exact .inr fun e => by have h1 := (hlt3 b hv).1; have h2 := (hltr b e.symm).2; omega
                      have hR3 := HRz.out.later hbf
                      have hbo := hbz.trans (hbf.mono hbz.size)
                      clear hltr hlt3
                      go_wp2
                      go_roundw
                      case rel => exact ⟨k + 1, v3, r, T.take q ++ [x] ++ T.drop q, R, rfl, rfl, by go_num, by omega, HS2, HO3.out.mono hwzo, hR3, Lib.hid hap3, hbo⟩
                      case measure => simp [intOf]; omega
                    refine AllReadyL.cons rfl (fun K hK => ?_) ?_
                    · skip
                      refine oper_lit_od 76 rfl x rfl ?_
                      obtain ⟨gl, hgl0⟩ : ∃ gl, gl = Wd.heap.size := ⟨_, rfl⟩
                      have hgl1 := heap_alloc_new Wd (.cells #[i64 x.client, i64 x.seq, i64 x.kind, .string x.acct, .string x.peer, i64 x.sum, .slice x.la x.legs.length x.lc, i64 x.period, i64 x.hold, .string x.note] 50)
                      rw [← hgl0] at hgl1
                      have Hgl := Lib.hid hgl1
                      clear hgl1
                      have hbu := hH.1.alloc hH.1.size (.cells #[i64 x.client, i64 x.seq, i64 x.kind, .string x.acct, .string x.peer, i64 x.sum, .slice x.la x.legs.length x.lc, i64 x.period, i64 x.hold, .string x.note] 50)
                      refine hK.out _ _ (HS.out _ hbu) (fun hH => ?_)
                      clear hK K
                      try simp only [Act.put, List.getElem_toArray, List.getElem_cons_zero, List.getElem_cons_succ, List.setIfInBounds_toArray, List.set_cons_zero, List.set_cons_succ]
                      have Hgl0 := Lib.hid hgl0
                      clear hgl0
                      refine wpAnyL_one (i := 3) (by kernel_rfl) rfl (by decide) (fun K hK => ?_)
                      refine oper_append (.const (.slice none 0 0)) (.tmp 71) 22 rfl _ 120 Tryz.underlying22 inf_od rfl (by decide) (by decide) rfl (Own.nil_ _ wz.heap.size 50) At _ ct (T.take q) rfl Hql.out (HTz.out _ hH.1) Hln1.out hH.1.size ?_
                      intro v1 u1 hO1 hg1 hat1
                      rw [List.nil_append] at hO1
                      have hF := (Own.nil_ (α := Od) _ wz.heap.size 50).below hg1 (Nat.le_refl _) hH.1.size
                      have hne1 : some gl ≠ v1.ownBlock := by
                        rcases hat1 with h | h
                        · have h2 : v1.ownBlock = none := h
                          rw [h2]; simp
                        · rw [h]; intro e; injection e with e; exact absurd (Array.getElem?_eq_some_iff.1 Hgl.out).1 (by rw [e]; exact Nat.lt_irrefl _)
                      have Hgl := Lib.hid ((hg1.block gl (Array.getElem?_eq_some_iff.1 Hgl.out).1 (by intro e; cases e)).trans Hgl.out)
                      have hbu := hH.1.trans hF
                      have HO1 := Lib.hid hO1
                      clear hF hg1 hat1 hO1
                      refine hK.out _ _ (HS.out _ hbu) (fun hH => ?_)
                      clear hK K
                      try simp only [Act.put, List.getElem_toArray, List.getElem_cons_zero, List.getElem_cons_succ, List.setIfInBounds_toArray, List.set_cons_zero, List.set_cons_succ]
                      refine wpAnyL_one (i := 9) (by kernel_rfl) rfl (by decide) (fun K hK => ?_)
                      refine oper_append_one (.tmp 72) (.tmp 77) 22 rfl _ 120 Tryz.underlying22 inf_od rfl (by decide) (by decide) rfl HO1.out gl x (by first | rfl | (rw [Hgl0.out]; rfl)) _ 50 Hgl.out rfl hne1 (Enc.keep (HoxV.out _ hH.1) (fun _ _ => rfl) (fun b hb => HO1.out.oth (B := w.heap.size) hwz (Nat.le_trans hwz hH.1.size) b hb)) Hln9.out hH.1.size ?_
                      intro v2 u2 hO2 hg2 hat2
                      have hbu := hH.1.trans (HO1.out.below hg2 (Nat.le_refl _) hH.1.size)
                      have HO2 := Lib.hid hO2
                      clear hg2 hat2 hO2 HO1 hne1
                      refine hK.out _ _ (HS.out _ hbu) (fun hH => ?_)
                      clear hK K
                      try simp only [Act.put, List.getElem_toArray, List.getElem_cons_zero, List.getElem_cons_succ, List.setIfInBounds_toArray, List.set_cons_zero, List.set_cons_succ]
                      refine wpAnyL_one (i := 13) (by kernel_rfl) rfl (by decide) (fun K hK => ?_)
                      refine oper_append (.tmp 78) (.tmp 81) 22 rfl _ 120 Tryz.underlying22 inf_od rfl (by decide) (by decide) rfl HO2.out _ _ _ (T.drop q) rfl (by simp) ((HDz.out _ hH.1).mono (HO2.out.oth (Nat.le_refl _) hH.1.size)) Hln2.out hH.1.size ?_
                      intro v3 u3 hO3 hg3 hat3
                      have hbu := hH.1.trans (HO2.out.below hg3 (Nat.le_refl _) hH.1.size)
                      have HO3 := Lib.hid hO3
                      clear hg3 hat3 hO3 HO2
                      refine hK.out _ _ (HS.out _ hbu) (fun hH => ?_)
                      clear hK K
                      try simp only [Act.put, List.getElem_toArray, List.getElem_cons_zero, List.getElem_cons_succ, List.setIfInBounds_toArray, List.set_cons_zero, List.set_cons_succ]
                      refine wpAnyL_last (by kernel_rfl) rfl (fun K hK => ?_)
                      refine oper_assign (.tmp 82) rfl v3 rfl ?_
                      refine hK.out _ _ ?_
                      clear hK K
                      try simp only [Act.put, List.getElem_toArray, List.getElem_cons_zero, List.getElem_cons_succ, List.setIfInBounds_toArray, List.set_cons_zero, List.set_cons_succ]
                      refine wpAnyL_done (by kernel_rfl) ?_ _
                      refine NoPanic.normal ?_
                      have hbf := hH.1
                      clear hH HS HTz HDz HoxV
                      have hltr := HRz.out.1.lt
                      have hlt3 := HO3.out.1.lt
                      have hap3 : v3.ownBlock = none ∨ v3.ownBlock ≠ r.ownBlock := by
                        cases hv : v3.ownBlock with
                        | none => exact .inl rfl
                        | some b => exact .inr fun e => by have h1 := (hlt3 b hv).1; have h2 := (hltr b e.symm).2; omega
                      have hR3 := HRz.out.later hbf
                      have hbo := hbz.trans (hbf.mono hbz.size)
                      clear hltr hlt3
                      go_wp2
                      go_roundw
                      case rel => exact ⟨k + 1, v3, r, T.take q ++ [x] ++ T.drop q, R, rfl, rfl, by go_num, by omega, HS2, HO3.out.mono hwzo, hR3, Lib.hid hap3, hbo⟩
                      case measure => simp [intOf]; omega
                    exact AllReadyL.nil
          · obtain rfl : i = M.length := by omega
            have g4 : decide ((M.length : Int) < (M.length : Int)) = false := decide_eq_false (by omega)
            have hwo : w.heap.size ≤ wo.heap.size := hb.size
            obtain ⟨hp1, hp2⟩ := peel (l := l) (s := s) Hv.out (T := T) (R := R) (by rw [← HMr.out]; exact HSI.out)
            have hne0 : (restS l s).length ≠ 0 := by rw [← HMr.out]; omega
            have Hr := Lib.hid hp2
            have Hlt := Lib.hid (rest_lt hne0)
            have Hst := Lib.hid (show (Lo ++ [(⟨none, 0, T⟩ : SV Od)]).map SV.l = (stepsV l).take (s + 1) by rw [peel_take hne0, List.map_append, HLo.out, ← hp1]; rfl)
            have Hsl := Lib.hid (show s + 1 ≤ l.length by have h1 := peel_lt hne0; rw [stepsV_len] at h1; have := (most_small l).2; omega)
            have HOT := Lib.hid (fun W (hW : Below w.heap.size w W) y (hy : y ∈ T) => Hox.out W hW y (Hml.out y (List.mem_of_mem_take (HSI.out.mem_T hy))))
            have HOR := Lib.hid (fun W (hW : Below w.heap.size w W) y (hy : y ∈ R) => Hox.out W hW y (Hml.out y (List.mem_of_mem_take (HSI.out.mem_R hy))))
            obtain ⟨Ar, cr, hre, -⟩ := HRr.out.sl
            have HOw := Lib.hid (HO.out.later hbi)
            have hlto := HO.out.1.lt
            have hbw := hb.trans (hbi.mono hwo)
            obtain ⟨At, ct, ht, hsT⟩ := HT.out.sl_in (S := Oth wi o) (fun b e => ⟨(HT.out.1.lt b e).2, fun e2 => by have h1 := (HT.out.1.lt b e).1; have h2 := (hlto b e2.symm).2; omega⟩) (fun y hy => Enc.keep (HOT.out wi hbw y hy) (fun _ _ => rfl) (fun b hb' => ⟨Nat.lt_of_lt_of_le hb' hbw.size, fun e2 => by have h2 := (hlto b e2.symm).1; omega⟩))
            have hba := (Below.refl wi.heap.size wi).alloc (Nat.le_refl _) (.cells #[.slice At T.length ct] 22)
            have HH := Lib.hid (heap_alloc_new wi (.cells #[.slice At T.length ct] 22))
            have HOa := Lib.hid (HOw.out.later hba)
            have HRa := Lib.hid (HRr.out.later hba)
            have Hne := Lib.hid (HOw.out.new_ne (Nat.le_refl wi.heap.size))
            have HoX : Hid (Enc.ok (wi.alloc (.cells #[.slice At T.length ct] 22)) (Oth (wi.alloc (.cells #[.slice At T.length ct] 22)) o) (⟨At, ct, T⟩ : SV Od)) := Lib.hid (Enc.keep (α := SV Od) (S := Oth wi o) hsT (fun p hp => hba.cell hp.1) (fun b hb' => ⟨Nat.lt_of_lt_of_le hb'.1 hba.size, hb'.2⟩))
            have Hln := Lib.hid (show Lo.length + 1 ≤ 4294967296 by have := Hlo.out; omega)
            have Hzz := Lib.hid (Nat.le_trans hbw.size hba.size)
            have Hzo := Lib.hid (Nat.le_trans hbi.size hba.size)
            have Hbwa := Lib.hid (below_on hbw (Nat.le_refl _) hba)
            have Hlto := Lib.hid hlto
            subst ht hre
            clear hba hsT HOw hlto hbw HT HRr hp1 hp2 hne0
            go_wp2_with (at_builtin; go_loud (refine wpList_append_one rfl (some 86) (.tmp 83) (.tmp 85) 29 rfl rfl _ 24 Tryz.underlying29 inf_svs rfl (by decide) (by decide) rfl HOa.out wi.heap.size (⟨At, ct, T⟩ : SV Od) rfl _ 22 HH.out rfl Hne.out HoX.out Hln.out Hzz.out ?_; intro v3 w3 hO3 hg3 hat3))
            have hR3 := HRa.out.grown hg3 (by
              cases hr : (Value.slice Ar R.length cr).ownBlock with
              | none => exact .inl rfl
              | some b => exact .inr fun e => by have h1 := (HRa.out.1.lt b hr).1; have h2 := (Hlto.out b e.symm).2; omega) (fun y hy => Enc.keep (HOR.out _ Hbwa.out y hy) (fun _ _ => rfl) (fun b hb' => ⟨Nat.lt_of_lt_of_le hb' Hzz.out, fun e => by have h1 := (HRa.out.1.lt b e.symm).1; omega, fun e => by have h2 := (Hlto.out b e.symm).1; omega⟩))
            obtain ⟨Ar2, cr2, hre2, hsR⟩ := hR3.sl
            injection hre2 with e1 e2 e3
            subst e1 e3
            have hb3 := Hbwa.out.trans (HOa.out.below hg3 (Nat.le_refl _) Hzz.out)
            clear hg3 hat3 hR3 HOa HRa HH Hne HoX Hln e2
            go_roundw
            case rel => exact ⟨s + 1, R, Ar, cr, v3, Lo ++ [⟨At, ct, T⟩], rfl, rfl, Hr, hsR, hO3, Lib.hid (by have h := Hst.out; rw [List.map_append] at h ⊢; exact h), Lib.hid ⟨by rw [List.length_append]; have := Hlo.out.1; simp; omega, Hsl.out⟩, hb3⟩
            case measure => have h := Hlt.out; rw [← Hr.out, ← HMr.out] at h; exact h
      · have g1 : decide ((M.length : Int) > 0) = false := decide_eq_false (by omega)
        have g2 : decide (0 < M.length) = false := decide_eq_false hpos
        have g3 : decide (0 < (M.length : Int)) = false := decide_eq_false (by omega)
        have He := Lib.hid (peel_end (l := l) (s := s) (by rw [← HMr.out]; omega))
        go_wp2
        go_ret
        exact ⟨o, Lo, rfl, HO.out, by rw [HLo.out, He.out, Hs.out], hb⟩
end Go.Proofs.YtdkkblhfjblpkaaGreat
