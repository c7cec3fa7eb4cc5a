/- chart.Open -/
import Derived.Test.YthmgchohbdlonaaGreatRows
import Derived.Test.YthmgchohbdlonaaGreatChTurn
import Derived.Test.YthmgchohbdlonaaGreatName
import Derived.WalkKit
import Derived.WalkSpells
import Derived.WalkLawsBesides
import Derived.Deep.QuietTactic
import Derived.BigQuiet
import Derived.Laws.StructEq
import Derived.Deep.DeepFit
import Derived.StillTailTactics
namespace Go.Proofs.YthmgchohbdlonaaGreat
open Go.RowKit
/-- chart.Open -/
def openC (M : List (ByteArray × Ac)) (k : ByteArray) (lim : Int) : Int × List (ByteArray × Ac) :=
  if nameB k = false ∨ lim < 0 then (1, M) else if (getM M k).isSome = true then (7, M) else if M.length = 12 then (5, M) else (0, putM M k ⟨k, 0, 0, lim⟩)
set_option maxRecDepth 100000 in
set_option maxHeartbeats 4000000 in
theorem open_c (g b : Nat) (M : List (ByteArray × Ac)) (k : ByteArray) (lim : Int) (w : World) (h : ChIs w g b M) :
    Calls Tryz.prog 25 #[.pointer (some ⟨g, 0, none⟩), .string k, i64 lim] w fun e w' => e = .returned (i64 (openC M k lim).1) ∧ ChIs w' g b (openC M k lim).2 ∧ w.grownBy w' (some b) := by
  have hN := Lib.hid (name_b k w)
  obtain ⟨R, hR⟩ : ∃ R, openC M k lim = R := ⟨_, rfl⟩
  rw [hR]
  unfold openC at hR
  have HR := Lib.hid hR
  clear hR
  go_enter Tryz.func25, Tryz.ntmps25
  go_wp2_with fail
  refine hN.out.mono ?_
  rintro e w1 ⟨rfl, hF⟩
  have h1 := h.later hF
  have hb1 := hF
  clear hF hN h
  cases hn : nameB k with
  | false =>
    have HS := Lib.hid (show R = (1, M) by rw [← HR.out, if_pos (.inl hn)])
    clear hn HR
    go_wp2
    go_ret
    exact ⟨by rw [HS.out]; rfl, by rw [HS.out]; exact h1, grown_of_below hb1 _⟩
  | true =>
    by_cases hl : lim < 0
    · have g1 : decide (lim < 0) = true := decide_eq_true hl
      have HS := Lib.hid (show R = (1, M) by rw [← HR.out, if_pos (.inr hl)])
      clear hn hl HR
      go_wp2
      go_ret
      exact ⟨by rw [HS.out]; rfl, by rw [HS.out]; exact h1, grown_of_below hb1 _⟩
    · have g1 : decide (lim < 0) = false := decide_eq_false hl
      have HS := Lib.hid (show R = (if (getM M k).isSome = true then (7, M) else if M.length = 12 then (5, M) else (0, putM M k ⟨k, 0, 0, lim⟩)) by rw [← HR.out, if_neg (by rw [hn]; simpa using hl)])
      clear hn hl HR
      have c0 := cell_of_row _ g 0 _ _ (0, 0) h1.cell
      simp only [List.getElem?_toArray, List.getElem?_cons_zero] at c0
      have hlk := run_lookup (P := Tryz.prog) strKey Tryz.underlying85 h1.map k (ac0.v) (by kernel_rfl) true
      rw [getM_mv] at hlk
      unfold ac0 at hlk
      cases hm : getM M k with
      | some a =>
        rw [hm] at hlk
        have HT := Lib.hid (show R = (7, M) by rw [HS.out, hm]; rfl)
        have hB := (Below.refl w1.heap.size w1).alloc (Nat.le_refl _) (.cells #[.string a.name, i64 a.hav, i64 a.set_, i64 a.lim] 52)
        clear hm HS
        go_wp2
        go_ret
        exact ⟨by rw [HT.out]; rfl, by rw [HT.out]; exact h1.later hB, grown_of_below (below_on hb1 (Nat.le_refl _) hB) _⟩
      | none =>
        rw [hm] at hlk
        have HT := Lib.hid (show R = (if M.length = 12 then (5, M) else (0, putM M k ⟨k, 0, 0, lim⟩)) by rw [HS.out, hm]; rfl)
        have hB := (Below.refl w1.heap.size w1).alloc (Nat.le_refl _) (.cells #[.string ⟨#[]⟩, i64 0, i64 0, i64 0] 52)
        have h2 := h1.later hB
        have c0 := cell_of_row _ g 0 _ _ (0, 0) h2.cell
        simp only [List.getElem?_toArray, List.getElem?_cons_zero] at c0
        have hb2 := below_on hb1 (Nat.le_refl _) hB
        have hlen := fun ty => run_lenM (P := Tryz.prog) Tryz.underlying85 h2.map ty
        rw [show (mv M).length = M.length from List.length_map ..] at hlen
        clear hm HS h1 hb1 hB
        by_cases h12 : M.length = 12
        · have g2 : ((M.length : Int) == 12) = true := by rw [beq_iff_eq]; omega
          have HU := Lib.hid (show R = (5, M) by rw [HT.out, if_pos h12])
          clear h12 HT
          go_wp2
          go_ret
          exact ⟨by rw [HU.out]; rfl, by rw [HU.out]; exact h2, grown_of_below hb2 _⟩
        · have g2 : ((M.length : Int) == 12) = false := by rw [beq_eq_false_iff_ne]; omega
          have HU := Lib.hid (show R = (0, putM M k ⟨k, 0, 0, lim⟩) by rw [HT.out, if_neg h12])
          obtain ⟨w5, hrun, hm5, hg5⟩ := run_put (P := Tryz.prog) strKey Tryz.underlying85 h2.map k (Ac.v ⟨k, 0, 0, lim⟩)
          rw [putM_mv] at hm5
          have HM := Lib.hid hm5
          have HG := Lib.hid hg5
          have H2 := Lib.hid h2
          clear hm5 hg5 h12 HT
          go_wp2
          go_ret
          exact ⟨by rw [HU.out]; rfl, by rw [HU.out]; exact ⟨H2.out.ne, (HG.out.block g H2.out.lt.1 (fun e => H2.out.ne (by injection e with e; exact e.symm))).trans H2.out.cell, HM.out⟩, grown_trans (grown_of_below hb2 _) HG.out⟩
end Go.Proofs.YthmgchohbdlonaaGreat
