/- foata.Import -/
import Derived.Test.YtdkkblhfjblpkaaGreatRows
import Derived.Test.YtdkkblhfjblpkaaGreatBfFoRd
import Derived.WalkKit
import Derived.WalkSpells
import Derived.WalkLawsBesides
import Derived.Deep.QuietTactic
import Derived.BigQuiet
import Derived.Laws.StructEq
import Derived.Deep.DeepFit
import Derived.StillTailTactics
namespace Go.Proofs.YtdkkblhfjblpkaaGreat
open Go.RowKit
theorem good_small {b : List UInt8} {S : List (List Od)} (h : rdF b = some S) {L : List (SV Od)} (hL : (L.map SV.l).map K = S) : smallS L ∧ (layL (L.map SV.l)).length ≤ 40000 := by
  obtain ⟨h1, h2, _⟩ := rdF_dec h
  have hlen : L.length = S.length := by rw [← hL, List.length_map, List.length_map]
  have hx : ∀ x ∈ L, x.l.length ≤ 200 ∧ ∀ y ∈ x.l, y.legs.length ≤ 10 := fun x hx => by
    have hm : K x.l ∈ S := by rw [← hL]; exact List.mem_map.2 ⟨x.l, List.mem_map.2 ⟨x, hx, rfl⟩, rfl⟩
    obtain ⟨g1, g2, g3⟩ := h2 _ hm
    refine ⟨by simpa using g2, fun y hy => ?_⟩
    have := (g3 y.core (List.mem_map.2 ⟨y, hy, rfl⟩)).2.2.1
    have e : y.core.legs = y.legs := rfl
    rw [e] at this
    omega
  refine ⟨⟨by omega, fun x hm => ⟨by have := (hx x hm).1; omega, (hx x hm).2⟩⟩, ?_⟩
  have key : ∀ M : List (SV Od), (∀ x ∈ M, x.l.length ≤ 200) → (layL (M.map SV.l)).length ≤ M.length * 200 := by
    intro M
    induction M with
    | nil => intro _; simp [layL]
    | cons x r ih =>
      intro hM
      have h3 := ih fun y hy => hM y (List.mem_cons_of_mem _ hy)
      have h4 := hM x (List.mem_cons_self ..)
      unfold layL at h3 ⊢
      rw [List.map_cons, List.flatten_cons, List.length_append, List.length_cons]
      omega
  have := key L fun x hm => (hx x hm).1
  omega
def impE (b : List UInt8) : Int := if (importB b).isSome then 0 else 3
theorem import_none {b : List UInt8} (h : rdF b = none) : importB b = none := by unfold importB; rw [h]
theorem import_of {b : List UInt8} {S : List (List Od)} (h : rdF b = some S) : importB b = if okI S then some S else none := by unfold importB; rw [h]
set_option maxRecDepth 100000 in
set_option maxHeartbeats 8000000 in
theorem import_g (A : Option Addr) (c : Nat) (b : List UInt8) (w : World) (h : Sl w w.heap.size A c b) (hn : b.length ≤ 60000) :
    Calls Tryz.prog 22 #[.slice A b.length c] w fun e w' => ∃ (v : Value) (L : List (SV Od)), e = .returned (.tuple #[v, i64 (impE b)]) ∧ Own w' w.heap.size 22 v L ∧ (L.map SV.l).map K = (importB b).getD [] ∧ Below w.heap.size w w' ∧ w.heap.size < w'.heap.size := by
  have HR := Lib.hid (fread_g A c b w h hn)
  clear h
  obtain ⟨E, hE⟩ : ∃ E, impE b = E := ⟨_, rfl⟩
  rw [hE]
  have HE := Lib.hid hE
  clear hE
  cases hF : rdF b with
  | none =>
    rw [hF] at HR
    have HI := Lib.hid (import_none hF)
    clear hF
    go_enter Tryz.func22, Tryz.ntmps22
    go_wp2_with fail
    refine HR.out.mono ?_
    rintro e w1 ⟨v, L, rfl, -, -, hF, hgz⟩
    clear HR
    go_wp2
    go_ret2
    refine ⟨_, [], by rw [← HE.out]; unfold impE; rw [HI.out]; rfl, Own.nil_ _ _ _, by rw [HI.out]; rfl, hF, hgz⟩
  | some S =>
    have HG := Lib.hid (fun (L : List (SV Od)) (h : (L.map SV.l).map K = S) => good_small hF h)
    have HI := Lib.hid (import_of hF)
    rw [hF] at HR
    clear hF
    go_enter Tryz.func22, Tryz.ntmps22
    go_wp2_with fail
    refine HR.out.mono ?_
    rintro e w1 ⟨v, L, rfl, hO, hS, hF, hgz⟩
    have hS := hS S rfl
    obtain ⟨hsm, hly⟩ := HG.out L hS
    have hb := hF
    obtain ⟨AL, cL, rfl, hL⟩ := hO.sl
    have HO := Lib.hid hO
    have HS := Lib.hid hS
    have HL := Lib.hid (fun W (h : Sl W W.heap.size AL cL L) => lay_c AL cL L W h (Nat.le_trans hsm.1 (by decide)) (by omega))
    have HN := Lib.hid (fun W (h : Sl W W.heap.size AL cL L) => normal_c AL cL L W h hsm (by omega))
    have Hok := Lib.hid (show okI S = (decide ((layL (L.map SV.l)).length ≤ 200) && normalB (L.map SV.l)) by rw [← hS, okI_K]; rfl)
    clear HR HG hF hO hS hsm
    generalize layL (L.map SV.l) = M at *
    generalize normalB (L.map SV.l) = nb at *
    go_wp2_with fail
    refine (HL.out _ hL).mono ?_
    rintro e w2 ⟨v, rfl, hO, hF⟩
    have hb := below_on hb (by omega) hF
    have hL := hL.later hF
    have HO := Lib.hid (HO.out.later hF)
    have hgz := Nat.lt_of_lt_of_le hgz hF.size
    obtain ⟨AM, cM, rfl, -⟩ := hO.sl
    clear hO hF HL
    by_cases hbig : M.length > 200
    · have g1 : decide ((M.length : Int) > 200) = true := decide_eq_true (by omega)
      have g2 : decide (M.length > 200) = true := decide_eq_true hbig
      have g3 : decide (200 < (M.length : Int)) = true := decide_eq_true (by omega)
      have g4 : decide (200 < M.length) = true := decide_eq_true hbig
      have Hn := Lib.hid (show importB b = none by rw [HI.out, Hok.out, decide_eq_false (by omega)]; rfl)
      clear hbig
      go_wp2
      go_ret2
      refine ⟨_, [], by rw [← HE.out]; unfold impE; rw [Hn.out]; rfl, Own.nil_ _ _ _, by rw [Hn.out]; rfl, hb, hgz⟩
    · have g1 : decide ((M.length : Int) > 200) = false := decide_eq_false (by omega)
      have g2 : decide (M.length > 200) = false := decide_eq_false hbig
      have g3 : decide (200 < (M.length : Int)) = false := decide_eq_false (by omega)
      have g4 : decide (200 < M.length) = false := decide_eq_false hbig
      have hsm : M.length ≤ 200 := by omega
      clear hbig
      go_wp2_with fail
      refine (HN.out _ hL).mono ?_
      rintro e w3 ⟨rfl, hF⟩
      have hb := below_on hb (by omega) hF
      have HO := Lib.hid (HO.out.later hF)
      have hgz := Nat.lt_of_lt_of_le hgz hF.size
      clear hF HN hL
      cases nb
      · have Hn := Lib.hid (show importB b = none by rw [HI.out, Hok.out, Bool.and_false]; rfl)
        go_wp2
        go_ret2
        refine ⟨_, [], by rw [← HE.out]; unfold impE; rw [Hn.out]; rfl, Own.nil_ _ _ _, by rw [Hn.out]; rfl, hb, hgz⟩
      · have Hn := Lib.hid (show importB b = some S by rw [HI.out, Hok.out, decide_eq_true hsm]; rfl)
        go_wp2
        go_ret2
        refine ⟨_, L, by rw [← HE.out]; unfold impE; rw [Hn.out]; rfl, HO.out, by rw [Hn.out]; exact HS.out, hb, hgz⟩
theorem import_c (A : Option Addr) (c : Nat) (b : List UInt8) (w : World) (h : Sl w w.heap.size A c b) (hn : b.length ≤ 60000) :
    Calls Tryz.prog 22 #[.slice A b.length c] w fun e w' => ∃ (v : Value) (L : List (SV Od)), e = .returned (.tuple #[v, i64 (impE b)]) ∧ Own w' w.heap.size 22 v L ∧ (L.map SV.l).map K = (importB b).getD [] ∧ Below w.heap.size w w' := by
  refine (import_g A c b w h hn).mono ?_
  rintro e w' ⟨v, L, h1, h2, h3, h4, -⟩
  exact ⟨v, L, h1, h2, h3, h4⟩
end Go.Proofs.YtdkkblhfjblpkaaGreat
