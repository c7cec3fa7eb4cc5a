/- lives -/
import Derived.Test.YtogecfddkohigaaRows
import Derived.Test.YtogecfddkohigaaAsk10
import Derived.Test.YtogecfddkohigaaSwap
import Derived.Test.YtogecfddkohigaaBegins
import Derived.Test.YtogecfddkohigaaMore
import Derived.Deep.RegionHeld3
import Derived.WalkKit
import Derived.WalkSpells
import Derived.WalkLawsBesides
import Derived.Deep.QuietTactic
import Derived.BigQuiet
import Derived.Laws.StructEq
import Derived.Deep.DeepFit
import Derived.StillTailTactics
namespace Go.Proofs.Ytogecfddkohigaa
open Go.RowKit
/-- the list of lives, and what clash.Swap makes of it -/
def livesL : List Od := [askOd 1 ⟨#[97]⟩, askOd 2 ⟨#[98]⟩, askOd 3 ⟨#[98]⟩]
def livesM : List Od := [askOd 2 ⟨#[98]⟩, askOd 1 ⟨#[97]⟩, askOd 3 ⟨#[98]⟩]
theorem lives_ok : swapOk livesL 0 = true := by kernel_rfl
theorem lives_r : swapR livesL 0 = livesM := by kernel_rfl
theorem lives_no : swapOk livesL 1 = false := by kernel_rfl
theorem lives_alike : alikeB livesL livesM = true := by kernel_rfl
theorem lives_begins : beginsB (livesL.take 1) livesM = true := by kernel_rfl
theorem lives_clash : clashB (askOd 2 ⟨#[98]⟩) (askOd 3 ⟨#[98]⟩) = true := by kernel_rfl
theorem lives_not : beginsB (livesL.drop 2) livesM = false := by kernel_rfl
theorem lives_few {l : List Od} (h : l.all (fun x => decide (x.legs.length ≤ 10)) = true) : fewLegs l := fun x hx => of_decide_eq_true (List.all_eq_true.1 h x hx)
theorem askOd_okb (s : Int) (c : UInt8) (w : World) (n : Nat) : Okb w n (askOd s ⟨#[c]⟩) := ⟨by simp [askOd, ByteArray.size, maxLen], by simp [askOd, ByteArray.size, maxLen], by simp [askOd, ByteArray.size, maxLen], SlS.nil_ _ _⟩

set_option maxRecDepth 100000 in
set_option maxHeartbeats 8000000 in
theorem lives_10 (w : World) :
    Calls Try.prog 10 #[] w fun e w' => e = .returned (.bool true) ∧ Below w.heap.size w w' := by
  have a1 : ∀ W : World, Calls Try.prog 47 #[i64 1, .string ⟨#[97]⟩] W fun e w' => e = .returned (.agg #[i64 0, i64 1, i64 7, .string ⟨#[97]⟩, .string ⟨#[]⟩, i64 0, .slice none 0 0, i64 0, i64 0, .string ⟨#[]⟩]) ∧ Below W.heap.size W w' := fun W => ask_10 1 ⟨#[97]⟩ W
  have a2 : ∀ W : World, Calls Try.prog 47 #[i64 2, .string ⟨#[98]⟩] W fun e w' => e = .returned (.agg #[i64 0, i64 2, i64 7, .string ⟨#[98]⟩, .string ⟨#[]⟩, i64 0, .slice none 0 0, i64 0, i64 0, .string ⟨#[]⟩]) ∧ Below W.heap.size W w' := fun W => ask_10 2 ⟨#[98]⟩ W
  have a3 : ∀ W : World, Calls Try.prog 47 #[i64 3, .string ⟨#[98]⟩] W fun e w' => e = .returned (.agg #[i64 0, i64 3, i64 7, .string ⟨#[98]⟩, .string ⟨#[]⟩, i64 0, .slice none 0 0, i64 0, i64 0, .string ⟨#[]⟩]) ∧ Below W.heap.size W w' := fun W => ask_10 3 ⟨#[98]⟩ W
  have sw0 : ∀ (W : World) A c, Sl W W.heap.size A c livesL → Calls Try.prog 48 #[.slice A 3 c, i64 0] W fun e w' => ∃ v, e = .returned (.tuple #[v, .bool true]) ∧ Own w' W.heap.size 30 v livesM ∧ Below W.heap.size W w' := fun W A c h => by
    have := swap_c A c livesL 0 W h (by decide) (lives_few (by kernel_rfl))
    rw [lives_ok, lives_r] at this
    exact this
  have sw1 : ∀ (W : World) A c, Sl W W.heap.size A c livesL → Calls Try.prog 48 #[.slice A 3 c, i64 1] W fun e w' => ∃ v, e = .returned (.tuple #[v, .bool false]) ∧ Below W.heap.size W w' := fun W A c h => by
    have := swap_c A c livesL 1 W h (by decide) (lives_few (by kernel_rfl))
    rw [lives_no] at this
    exact this.mono (fun e w' h => let ⟨v, h1, _, h2⟩ := h; ⟨v, h1, h2⟩)
  have hfl := lives_few (l := livesL) (by kernel_rfl)
  have hfm := lives_few (l := livesM) (by kernel_rfl)
  have al : ∀ (W : World) A c B d, Sl W W.heap.size A c livesL → Sl W W.heap.size B d livesM → Calls Try.prog 20 #[.slice A 3 c, .slice B 3 d] W fun e w' => e = .returned (.bool true) ∧ Below W.heap.size W w' := fun W A c B d h k => by
    have := alike_c A B c d livesL livesM W h k (by decide) (by decide) hfl hfm
    rw [lives_alike] at this
    exact this
  have bg : ∀ (W : World) A c B d, Sl W W.heap.size A c (livesL.take 1) → Sl W W.heap.size B d livesM → Calls Try.prog 18 #[.slice A 1 c, .slice B 3 d] W fun e w' => e = .returned (.bool true) ∧ Below W.heap.size W w' := fun W A c B d h k => by
    have := begins_c A B c d (livesL.take 1) livesM W h k (by decide) (by decide) (fun x hx => hfl x (List.mem_of_mem_take hx)) hfm
    rw [lives_begins] at this
    exact this
  have bn : ∀ (W : World) A c B d, Sl W W.heap.size A c (livesL.drop 2) → Sl W W.heap.size B d livesM → Calls Try.prog 18 #[.slice A 1 c, .slice B 3 d] W fun e w' => e = .returned (.bool false) ∧ Below W.heap.size W w' := fun W A c B d h k => by
    have := begins_c A B c d (livesL.drop 2) livesM W h k (by decide) (by decide) (fun x hx => hfl x (List.mem_of_mem_drop hx)) hfm
    rw [lives_not] at this
    exact this
  have cl : ∀ W : World, Calls Try.prog 12 #[.agg #[i64 0, i64 2, i64 7, .string ⟨#[98]⟩, .string ⟨#[]⟩, i64 0, .slice none 0 0, i64 0, i64 0, .string ⟨#[]⟩], .agg #[i64 0, i64 3, i64 7, .string ⟨#[98]⟩, .string ⟨#[]⟩, i64 0, .slice none 0 0, i64 0, i64 0, .string ⟨#[]⟩]] W fun e w' => e = .returned (.bool true) ∧ Below W.heap.size W w' := fun W => by
    have := clash_c (askOd 2 ⟨#[98]⟩) (askOd 3 ⟨#[98]⟩) W (askOd_okb _ _ _ _) (askOd_okb _ _ _ _) (by decide) (by decide)
    rw [lives_clash] at this
    exact this
  go_enter Try.func10, Try.ntmps10
  go_wp2_with fail
  refine (a1 _).mono ?_
  rintro e w1 ⟨rfl, hb1⟩
  go_wp2_with fail
  refine (a2 _).mono ?_
  rintro e w2 ⟨rfl, hb2⟩
  go_wp2_with fail
  refine (a3 _).mono ?_
  rintro e w3 ⟨rfl, hb3⟩
  have hb4 := below_on (below_on hb1 (Nat.le_refl _) hb2) (Nat.le_refl _) hb3
  have hO := fun cs hcs => own_lit (w := w3) 30 cs livesL (Nat.le_refl _) hcs (by decide) (fun x hx => by
    simp only [livesL, List.mem_cons, List.not_mem_nil, or_false] at hx
    rcases hx with rfl | rfl | rfl <;> exact askOd_okb _ _ _ _)
  have hb5 := fun o => hb4.alloc hb4.size o
  clear hb1 hb2 hb3 hb4 a1 a2 a3
  go_wp2_with fail
  have hL : Sl _ _ (some ⟨w3.heap.size, 0, none⟩) 3 livesL := (hO _ rfl).sl_of
  refine (sw0 _ _ _ hL).mono ?_
  rintro e w4 ⟨v, rfl, hM, hb6⟩
  have hb7 := below_on (hb5 _) (Nat.le_refl _) hb6
  have hL2 := hL.later hb6
  clear hL hb5 hb6 hO sw0
  go_wp2_with fail
  refine (sw1 _ _ _ hL2).mono ?_
  rintro e w5 ⟨v2, rfl, hb8⟩
  have hb9 := below_on hb7 (Nat.le_refl _) hb8
  obtain ⟨A, c, rfl, hM2⟩ : ∃ A c, v = .slice A 3 c ∧ Sl w4 w4.heap.size A c livesM := hM.sl
  have hM3 := hM2.later hb8
  have hL3 := hL2.later hb8
  clear hL2 hM2 hM hb7 hb8 sw1
  obtain ⟨g2, o2, rfl, hgm, -, -, fm, -⟩ := hM3.od (k := 0) (by decide)
  go_wp2_with fail
  generalize w3.heap.size = g at hL3 ⊢
  obtain ⟨b1, o1, hA1, hgl, -, c0, c1, c2, c3, c4, c5, c6, c7, c8, c9⟩ := hL3.od (k := 1) (by decide)
  injection hA1 with hA1
  injection hA1 with e1 e2
  subst e1 e2
  obtain ⟨b2, o3, hA2, -, -, d0, d1, d2, d3, d4, d5, d6, d7, d8, d9⟩ := hL3.od (k := 2) (by decide)
  injection hA2 with hA2
  injection hA2 with e3 e4
  subst e3 e4
  have fc0 : w5.cell? ⟨g, 10, none⟩ = some (i64 0) := c0
  have fc1 : w5.cell? ⟨g, 11, none⟩ = some (i64 2) := c1
  have fc2 : w5.cell? ⟨g, 12, none⟩ = some (i64 7) := c2
  have fc3 : w5.cell? ⟨g, 13, none⟩ = some (.string ⟨#[98]⟩) := c3
  have fc4 : w5.cell? ⟨g, 14, none⟩ = some (.string ⟨#[]⟩) := c4
  have fc5 : w5.cell? ⟨g, 15, none⟩ = some (i64 0) := c5
  have fc6 : w5.cell? ⟨g, 16, none⟩ = some (.slice none 0 0) := c6
  have fc7 : w5.cell? ⟨g, 17, none⟩ = some (i64 0) := c7
  have fc8 : w5.cell? ⟨g, 18, none⟩ = some (i64 0) := c8
  have fc9 : w5.cell? ⟨g, 19, none⟩ = some (.string ⟨#[]⟩) := c9
  have fd0 : w5.cell? ⟨g, 20, none⟩ = some (i64 0) := d0
  have fd1 : w5.cell? ⟨g, 21, none⟩ = some (i64 3) := d1
  have fd2 : w5.cell? ⟨g, 22, none⟩ = some (i64 7) := d2
  have fd3 : w5.cell? ⟨g, 23, none⟩ = some (.string ⟨#[98]⟩) := d3
  have fd4 : w5.cell? ⟨g, 24, none⟩ = some (.string ⟨#[]⟩) := d4
  have fd5 : w5.cell? ⟨g, 25, none⟩ = some (i64 0) := d5
  have fd6 : w5.cell? ⟨g, 26, none⟩ = some (.slice none 0 0) := d6
  have fd7 : w5.cell? ⟨g, 27, none⟩ = some (i64 0) := d7
  have fd8 : w5.cell? ⟨g, 28, none⟩ = some (i64 0) := d8
  have fd9 : w5.cell? ⟨g, 29, none⟩ = some (.string ⟨#[]⟩) := d9
  have hS : ∀ W, Below w5.heap.size w5 W → (Below w5.heap.size w5 W ∧ W.cell? ⟨g, 10, none⟩ = some (i64 0) ∧ W.cell? ⟨g, 11, none⟩ = some (i64 2) ∧ W.cell? ⟨g, 12, none⟩ = some (i64 7) ∧ W.cell? ⟨g, 13, none⟩ = some (.string ⟨#[98]⟩) ∧ W.cell? ⟨g, 14, none⟩ = some (.string ⟨#[]⟩) ∧ W.cell? ⟨g, 15, none⟩ = some (i64 0) ∧ W.cell? ⟨g, 16, none⟩ = some (.slice none 0 0) ∧ W.cell? ⟨g, 17, none⟩ = some (i64 0) ∧ W.cell? ⟨g, 18, none⟩ = some (i64 0) ∧ W.cell? ⟨g, 19, none⟩ = some (.string ⟨#[]⟩) ∧ W.cell? ⟨g, 20, none⟩ = some (i64 0) ∧ W.cell? ⟨g, 21, none⟩ = some (i64 3) ∧ W.cell? ⟨g, 22, none⟩ = some (i64 7) ∧ W.cell? ⟨g, 23, none⟩ = some (.string ⟨#[98]⟩) ∧ W.cell? ⟨g, 24, none⟩ = some (.string ⟨#[]⟩) ∧ W.cell? ⟨g, 25, none⟩ = some (i64 0) ∧ W.cell? ⟨g, 26, none⟩ = some (.slice none 0 0) ∧ W.cell? ⟨g, 27, none⟩ = some (i64 0) ∧ W.cell? ⟨g, 28, none⟩ = some (i64 0) ∧ W.cell? ⟨g, 29, none⟩ = some (.string ⟨#[]⟩) ∧ W.cell? ⟨g2, o2 + 1, none⟩ = some (i64 2)) := fun W h => ⟨h, (h.cell hgl).trans fc0, (h.cell hgl).trans fc1, (h.cell hgl).trans fc2, (h.cell hgl).trans fc3, (h.cell hgl).trans fc4, (h.cell hgl).trans fc5, (h.cell hgl).trans fc6, (h.cell hgl).trans fc7, (h.cell hgl).trans fc8, (h.cell hgl).trans fc9, (h.cell hgl).trans fd0, (h.cell hgl).trans fd1, (h.cell hgl).trans fd2, (h.cell hgl).trans fd3, (h.cell hgl).trans fd4, (h.cell hgl).trans fd5, (h.cell hgl).trans fd6, (h.cell hgl).trans fd7, (h.cell hgl).trans fd8, (h.cell hgl).trans fd9, (h.cell hgm).trans fm⟩
  have hT1 : ∀ W, Below w5.heap.size w5 W → Sl W W.heap.size (some ⟨g, 0, none⟩) 3 (livesL.take 1) := fun W h => (hL3.later h).take 1
  have hT2 : ∀ W, Below w5.heap.size w5 W → Sl W W.heap.size (some ⟨g, 20, none⟩) 1 (livesL.drop 2) := fun W h => (hL3.later h).drop (k := 2) (by decide)
  have hM4 : ∀ W, Below w5.heap.size w5 W → Sl W W.heap.size (some ⟨g2, o2, none⟩) c livesM := fun W h => hM3.later h
  have hL4 : ∀ W, Below w5.heap.size w5 W → Sl W W.heap.size (some ⟨g, 0, none⟩) 3 livesL := fun W h => hL3.later h
  have xA : ∀ W, Below w5.heap.size w5 W → Calls Try.prog 20 #[.slice (some ⟨g, 0, none⟩) 3 3, .slice (some ⟨g2, o2, none⟩) 3 c] W fun e w' => e = .returned (.bool true) ∧ Below W.heap.size W w' := fun W h => al W _ _ _ _ (hL4 W h) (hM4 W h)
  have xB : ∀ W, Below w5.heap.size w5 W → Calls Try.prog 18 #[.slice (some ⟨g, 0, none⟩) 1 3, .slice (some ⟨g2, o2, none⟩) 3 c] W fun e w' => e = .returned (.bool true) ∧ Below W.heap.size W w' := fun W h => bg W _ _ _ _ (hT1 W h) (hM4 W h)
  have xN : ∀ W, Below w5.heap.size w5 W → Calls Try.prog 18 #[.slice (some ⟨g, 20, none⟩) 1 1, .slice (some ⟨g2, o2, none⟩) 3 c] W fun e w' => e = .returned (.bool false) ∧ Below W.heap.size W w' := fun W h => bn W _ _ _ _ (hT2 W h) (hM4 W h)
  clear al bg bn hT1 hT2 hL4 hM4 hfl hfm
  clear c0 c1 c2 c3 c4 c5 c6 c7 c8 c9 d0 d1 d2 d3 d4 d5 d6 d7 d8 d9 hL3 hM3
  have h0 := (Below.refl w5.heap.size w5).drew
  go_region_held3 (fun W => Below w5.heap.size w5 W ∧ W.cell? ⟨g, 10, none⟩ = some (i64 0) ∧ W.cell? ⟨g, 11, none⟩ = some (i64 2) ∧ W.cell? ⟨g, 12, none⟩ = some (i64 7) ∧ W.cell? ⟨g, 13, none⟩ = some (.string ⟨#[98]⟩) ∧ W.cell? ⟨g, 14, none⟩ = some (.string ⟨#[]⟩) ∧ W.cell? ⟨g, 15, none⟩ = some (i64 0) ∧ W.cell? ⟨g, 16, none⟩ = some (.slice none 0 0) ∧ W.cell? ⟨g, 17, none⟩ = some (i64 0) ∧ W.cell? ⟨g, 18, none⟩ = some (i64 0) ∧ W.cell? ⟨g, 19, none⟩ = some (.string ⟨#[]⟩) ∧ W.cell? ⟨g, 20, none⟩ = some (i64 0) ∧ W.cell? ⟨g, 21, none⟩ = some (i64 3) ∧ W.cell? ⟨g, 22, none⟩ = some (i64 7) ∧ W.cell? ⟨g, 23, none⟩ = some (.string ⟨#[98]⟩) ∧ W.cell? ⟨g, 24, none⟩ = some (.string ⟨#[]⟩) ∧ W.cell? ⟨g, 25, none⟩ = some (i64 0) ∧ W.cell? ⟨g, 26, none⟩ = some (.slice none 0 0) ∧ W.cell? ⟨g, 27, none⟩ = some (i64 0) ∧ W.cell? ⟨g, 28, none⟩ = some (i64 0) ∧ W.cell? ⟨g, 29, none⟩ = some (.string ⟨#[]⟩) ∧ W.cell? ⟨g2, o2 + 1, none⟩ = some (i64 2)) (first | exact hS _ h0 | (go_split_ands; exact hS _ (below_on (by assumption) (Nat.le_refl _) hbX)))
    (first
      | (go_at_call 20; with_reducible refine (xA _ ?hb).mono ?_; (case hb => (go_split_ands; assumption)); rintro e w' ⟨rfl, hbX⟩)
      | (go_at_call 18; with_reducible refine (xB _ ?hb).mono ?_; (case hb => (go_split_ands; assumption)); rintro e w' ⟨rfl, hbX⟩)
      | (go_at_call 18; with_reducible refine (xN _ ?hb).mono ?_; (case hb => (go_split_ands; assumption)); rintro e w' ⟨rfl, hbX⟩)
      | (go_at_call 12; with_reducible refine (cl _).mono ?_; rintro e w' ⟨rfl, hbX⟩))
  go_wp2
  go_ret
  refine ⟨rfl, below_on hb9 (Nat.le_refl _) ?_⟩
  go_split_ands
  assumption
end Go.Proofs.Ytogecfddkohigaa
