/- FoataImports -/
import Derived.Test.YtdkkblhfjblpkaaGreatRows
import Derived.Test.YtdkkblhfjblpkaaGreatBfRf11I
import Derived.Test.YtdkkblhfjblpkaaGreatBi19
import Derived.WalkKit
import Derived.WalkSpells
import Derived.WalkLawsBesides
import Derived.Deep.QuietTactic
import Derived.BigQuiet
import Derived.Laws.StructEq
import Derived.Deep.DeepFit
import Derived.StillTailTactics
namespace Go.Proofs.YtdkkblhfjblpkaaGreat
open Go.RowKit
theorem impL_small {b : List UInt8} {L : List (SV Od)} (h : (L.map SV.l).map K = (importB b).getD []) : smallS L := by
  cases hi : importB b with
  | none =>
    rw [hi] at h
    have : L = [] := List.map_eq_nil_iff.1 (List.map_eq_nil_iff.1 h)
    subst this
    exact ⟨by simp, by simp⟩
  | some S =>
    rw [hi] at h
    exact (good_small (import_dec hi).1 h).1
theorem impL_same {X : List (List Od)} {L M : List (SV Od)} (h : (L.map SV.l).map K = X) (k : (M.map SV.l).map K = X) : sameS (L.map SV.l) (M.map SV.l) = true := sameS_K.2 (h.trans k.symm)
set_option maxRecDepth 100000 in
set_option maxHeartbeats 8000000 in
theorem foataImports_c (B : Option Addr) (d : Nat) (b : List UInt8) (w : World) (hb : Sl w w.heap.size B d b) :
    Calls Tryz.prog 4 #[.slice B b.length d] w fun e w' => e = .returned (.bool true) ∧ Below w.heap.size w w' := by
  have hlc : b.length ≤ d := hb.1
  have hlm : b.length ≤ 9223372036854775807 := hb.len_le
  have hn : (min (b.length : Int) 3000).toNat = (b.take 3000).length := by simp only [List.length_take]; omega
  have hL : (b.take 3000).length ≤ 3000 := by simp only [List.length_take]; omega
  have hb := hb.take 3000
  generalize b.take 3000 = bt at *
  have H1 := Lib.hid fun W (hW : Sl W W.heap.size B d bt) => (show Calls Tryz.prog 22 #[.slice B (min (b.length : Int) 3000).toNat d] W fun e w' => ∃ (v : Value) (L : List (SV Od)), e = .returned (.tuple #[v, i64 (impE bt)]) ∧ Own w' W.heap.size 22 v L ∧ (L.map SV.l).map K = (importB bt).getD [] ∧ Below W.heap.size W w' ∧ W.heap.size < w'.heap.size by rw [hn]; exact import_g B d bt W hW (by omega))
  have H2 := Lib.hid fun W (hW : Sl W W.heap.size B d bt) (hp : 0 < W.heap.size) => (show Calls Tryz.prog 23 #[.slice B (min (b.length : Int) 3000).toNat d] W fun e w' => ∃ (v : Value) (L : List (SV Od)), e = .returned (.tuple #[v, i64 (impE bt)]) ∧ Own w' W.heap.size 22 v L ∧ (L.map SV.l).map K = (importB bt).getD [] ∧ Below W.heap.size W w' by rw [hn]; exact rimport_c B d bt W hW (by omega) hp)
  have Hsm := Lib.hid (fun (L : List (SV Od)) (h : (L.map SV.l).map K = (importB bt).getD []) => impL_small h)
  generalize (importB bt).getD [] = X at *
  generalize impE bt = ie at *
  clear hn hL
  go_enter Tryz.func4, Tryz.ntmps4
  have hB : Below w.heap.size w w := Below.refl _ _
  go_wp2_with fail
  refine (lives_11 _).mono ?_
  rintro e wk1 ⟨rfl, hF⟩
  have hB := below_on hB (by omega) hF
  have hb := hb.later hF
  clear hF
  go_wp2_with fail
  refine (H1.out _ hb).mono ?_
  rintro e wa ⟨v, L1, rfl, hO, hL1, hF, hz⟩
  have hB := below_on hB (by omega) hF
  have hb := hb.later hF
  clear hF H1
  obtain ⟨AS, cS, rfl, hS⟩ := hO.sl
  clear hO
  have hpos : 0 < wa.heap.size := by omega
  clear hz
  go_wp2_with fail
  refine (H2.out _ hb hpos).mono ?_
  rintro e wk2 ⟨v, L2, rfl, hO, hL2, hF⟩
  have hB := below_on hB (by omega) hF
  have hS := hS.later hF
  clear hF H2 hb
  obtain ⟨AT, cT, rfl, hT⟩ := hO.sl
  clear hO
  have HC := Lib.hid (rsame11_c AS AT cS cT L1 L2 _ hS hT (Hsm.out L1 hL1) (Hsm.out L2 hL2))
  rw [impL_same hL1 hL2] at HC
  clear hL1 hL2 Hsm
  go_wp2_with fail
  refine (HC.out).mono ?_
  rintro e wk3 ⟨rfl, hF⟩
  have hB := below_on hB (by omega) hF
  have hS := hS.later hF
  have hT := hT.later hF
  clear hF HC
  have he : (ie == ie) = true := by simp
  go_wp2
  go_ret
  exact ⟨rfl, hB⟩
end Go.Proofs.YtdkkblhfjblpkaaGreat
