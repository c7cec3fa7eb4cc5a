/- law06.ask, ref02.Same, order.Number, order.Ahead: small ones; concrete facts; law06.lives -/
import Derived.Test.YtogecfddkohigaaRows
import Derived.Test.YtogecfddkohigaaReadW
import Derived.Test.YtogecfddkohigaaBytesW
import Derived.Test.YtogecfddkohigaaAsk10
import Derived.WalkKit
import Derived.WalkSpells
import Derived.WalkLawsBesides
import Derived.Deep.QuietTactic
import Derived.BigQuiet
import Derived.Laws.StructEq
import Derived.Deep.DeepFit
import Derived.StillTailTactics
namespace Go.Proofs.Ytogecfddkohigaa
open Go.RowKit
set_option maxRecDepth 100000 in
set_option maxHeartbeats 1000000 in
theorem same2_c (A B : Option Addr) (c d : Nat) (l m : List UInt8) (w : World) (h : Sl w w.heap.size A c l) (k : Sl w w.heap.size B d m) :
    Calls Try.prog 30 #[.slice A l.length c, .slice B m.length d] w fun e w' => e = .returned (.bool (l == m)) ∧ Below w.heap.size w w' := by
  have c1 := conv_bytes h
  have c2 := conv_bytes k
  clear h k
  go_enter Try.func30, Try.ntmps30
  go_wp2
  go_ret
  exact ⟨rfl, Below.refl _ _⟩
set_option maxRecDepth 100000 in
set_option maxHeartbeats 1000000 in
theorem ask6_c (w : World) : Calls Try.prog 57 #[] w fun e w' => e = .returned (askOd 1 ⟨#[97]⟩).v ∧ Below w.heap.size w w' := by
  go_enter Try.func57, Try.ntmps57
  go_wp2
  refine bodyPost_ret (v := (askOd 1 ⟨#[97]⟩).v) (by simp [results, Try.results57, go_sem, askOd, Od.v]) rfl ⟨rfl, ?_⟩
  exact (Below.refl _ _).alloc (Nat.le_refl _) _
set_option maxRecDepth 100000 in
set_option maxHeartbeats 1000000 in
theorem number_c (a b : Int) (w : World) (h1 : -1000000 ≤ a ∧ a ≤ 1000000) (h2 : -1000000 ≤ b ∧ b ≤ 1000000) : Calls Try.prog 34 #[.agg #[i64 a, i64 b]] w fun e w' => e = .returned (i64 (1000 * a + b)) ∧ Below w.heap.size w w' := by
  have w1 : IntKind.i64.wrap (1000 * a) = 1000 * a := by rw [IntKind.wrap_i64]; omega
  have w2 : IntKind.i64.wrap (1000 * a + b) = 1000 * a + b := by rw [IntKind.wrap_i64]; omega
  go_enter Try.func34, Try.ntmps34
  go_wp2
  go_ret
  exact ⟨rfl, (Below.refl _ _).alloc (Nat.le_refl _) _⟩
abbrev askO : Od := askOd 1 ⟨#[97]⟩
abbrev askBs : List UInt8 := [0, 2, 14, 2, 97, 0, 0, 0, 0, 0, 0]
theorem ask_right : rightB askO = true := by kernel_rfl
theorem ask_bytes : bytesB askO = askBs := by kernel_rfl
theorem ask_ok : readOk askBs = true := by kernel_rfl
theorem ask_read : readO askBs = askO := by kernel_rfl
theorem ask_okb (W : World) (n : Nat) : Okb W n askO := ⟨by decide, by decide, by decide, SlS.nil_ _ _⟩
theorem sameB_la (a : Option Addr) (c : Nat) : sameB ({ askO with la := a, lc := c } : Od) askO = true := sameB_core.2 rfl
theorem ask_inr : InR askO := ⟨by unfold R64; decide, by unfold R64; decide, by unfold R64; decide, by unfold R64; decide, by unfold R64; decide, by unfold R64; decide, fun l hl => by simp [askOd] at hl⟩
set_option maxRecDepth 100000 in
set_option maxHeartbeats 8000000 in
theorem lives_06 (w : World) : Calls Try.prog 25 #[] w fun e w' => e = .returned (.bool true) ∧ Below w.heap.size w w' := by
  have x1 : ∀ W, Calls Try.prog 57 #[] W fun e w' => e = .returned (.agg #[i64 0, i64 1, i64 7, .string ⟨#[97]⟩, .string ⟨#[]⟩, i64 0, .slice none 0 0, i64 0, i64 0, .string ⟨#[]⟩]) ∧ Below W.heap.size W w' := fun W => ask6_c W
  have x2 : ∀ W, Calls Try.prog 27 #[.agg #[i64 0, i64 1, i64 7, .string ⟨#[97]⟩, .string ⟨#[]⟩, i64 0, .slice none 0 0, i64 0, i64 0, .string ⟨#[]⟩]] W fun e w' => ∃ v, e = .returned (.tuple #[v, i64 0]) ∧ Own w' W.heap.size 5 v askBs ∧ Below W.heap.size W w' := fun W => by
    have := bytes_c askO W (ask_okb _ _) (by decide) ask_inr
    simp only [ask_right, if_true, ask_bytes] at this
    exact this
  have x3 : ∀ W A c, Sl W W.heap.size A c askBs → Calls Try.prog 28 #[.slice A 11 c] W fun e w' => ∃ la lc, e = .returned (.tuple #[.agg #[i64 0, i64 1, i64 7, .string ⟨#[97]⟩, .string ⟨#[]⟩, i64 0, .slice la 0 lc, i64 0, i64 0, .string ⟨#[]⟩], i64 0]) ∧ Okb w' w'.heap.size ({ askO with la := la, lc := lc } : Od) ∧ Below W.heap.size W w' := fun W A c h => by
    have := read_c A c askBs W h (by decide)
    refine this.mono ?_
    rintro e w' ⟨o, rfl, ho, hk, hb⟩
    rw [ask_read] at ho
    have e2 : o = { askO with la := o.la, lc := o.lc } := by rw [← ho]
    refine ⟨o.la, o.lc, ?_, by rw [← e2]; exact hk, hb⟩
    rw [show readE askBs = 0 from by unfold readE; rw [ask_ok]; rfl]
    rw [e2]
    rfl
  go_enter Try.func25, Try.ntmps25
  go_wp2_with fail
  with_reducible refine (x1 _).mono ?_
  rintro e w1 ⟨rfl, hF⟩
  have hB := hF
  clear hF
  go_wp2_with fail
  with_reducible refine (x2 _).mono ?_
  rintro e w2 ⟨v, rfl, hO, hF⟩
  have hB := below_on hB (Nat.le_refl _) hF
  obtain ⟨A1, c1, rfl, hs1⟩ := hO.sl
  clear hO hF x2
  have hB2 := (Below.refl w2.heap.size w2).alloc (Nat.le_refl _) (.cells #[.int .u8 0, .int .u8 2, .int .u8 14, .int .u8 2, .int .u8 97, .int .u8 0, .int .u8 0, .int .u8 0, .int .u8 0, .int .u8 0, .int .u8 0] 5)
  have hS2 := (own_lit (w := w2) (base := w2.heap.size) 5 #[.int .u8 0, .int .u8 2, .int .u8 14, .int .u8 2, .int .u8 97, .int .u8 0, .int .u8 0, .int .u8 0, .int .u8 0, .int .u8 0, .int .u8 0] askBs (Nat.le_refl _) rfl (by decide) (fun _ _ => trivial)).sl_of
  have hs1 := hs1.later hB2
  have HB2 := Lib.hid hB2
  have HS2 := Lib.hid hS2
  have Hs1 := Lib.hid hs1
  clear hB2 hS2 hs1
  go_wp2_with fail
  refine (x3 _ _ 11 HS2.out).mono ?_
  rintro e w3 ⟨la, lc, rfl, hok, hF⟩
  have hB := below_on (below_on hB (Nat.le_refl _) HB2.out) (Nat.le_refl _) hF
  have hs1 := Hs1.out.later hF
  clear hF Hs1 HS2 HB2 x3
  have hg := heap_alloc_new w3 (.cells #[i64 0, i64 1, i64 7, .string ⟨#[97]⟩, .string ⟨#[]⟩, i64 0, .slice la 0 lc, i64 0, i64 0, .string ⟨#[]⟩] 30)
  have hB3 := (Below.refl w3.heap.size w3).alloc (Nat.le_refl _) (.cells #[i64 0, i64 1, i64 7, .string ⟨#[97]⟩, .string ⟨#[]⟩, i64 0, .slice la 0 lc, i64 0, i64 0, .string ⟨#[]⟩] 30)
  have hsY := hs1.later hB3
  have hokY := Okb.later hok hB3
  have hBY := below_on hB (Nat.le_refl _) hB3
  clear hs1 hok hB
  have hlz : w3.heap.size < (w3.alloc (.cells #[i64 0, i64 1, i64 7, .string ⟨#[97]⟩, .string ⟨#[]⟩, i64 0, .slice la 0 lc, i64 0, i64 0, .string ⟨#[]⟩] 30)).heap.size := by simp
  have k0 := cell_of_row _ w3.heap.size 0 _ _ (0, 0) hg
  have k1 := cell_of_row _ w3.heap.size 1 _ _ (0, 0) hg
  have k2 := cell_of_row _ w3.heap.size 2 _ _ (0, 0) hg
  have k3 := cell_of_row _ w3.heap.size 3 _ _ (0, 0) hg
  have k4 := cell_of_row _ w3.heap.size 4 _ _ (0, 0) hg
  have k5 := cell_of_row _ w3.heap.size 5 _ _ (0, 0) hg
  have k6 := cell_of_row _ w3.heap.size 6 _ _ (0, 0) hg
  have k7 := cell_of_row _ w3.heap.size 7 _ _ (0, 0) hg
  have k8 := cell_of_row _ w3.heap.size 8 _ _ (0, 0) hg
  have k9 := cell_of_row _ w3.heap.size 9 _ _ (0, 0) hg
  simp only [List.getElem?_toArray, List.getElem?_cons_zero, List.getElem?_cons_succ] at k0 k1 k2 k3 k4 k5 k6 k7 k8 k9
  clear hg hB3
  go_wp2_with fail
  have hsm := sameB_la la lc
  have hrt : rightB ({ askO with la := la, lc := lc } : Od) = true := (rightB_la askO la lc).trans ask_right
  generalize w3.alloc (.cells #[i64 0, i64 1, i64 7, .string ⟨#[97]⟩, .string ⟨#[]⟩, i64 0, .slice la 0 lc, i64 0, i64 0, .string ⟨#[]⟩] 30) = W3 at *
  generalize w3.heap.size = q at *
  have h0 := (Below.refl W3.heap.size W3).drew
  have y3 : ∀ V, Below W3.heap.size W3 V → Calls Try.prog 29 #[.agg #[i64 0, i64 1, i64 7, .string ⟨#[97]⟩, .string ⟨#[]⟩, i64 0, .slice la 0 lc, i64 0, i64 0, .string ⟨#[]⟩], .agg #[i64 0, i64 1, i64 7, .string ⟨#[97]⟩, .string ⟨#[]⟩, i64 0, .slice none 0 0, i64 0, i64 0, .string ⟨#[]⟩]] V fun e w' => e = .returned (.bool true) ∧ Below V.heap.size V w' := fun V h => by
    have := same_c (⟨0, 1, 7, ⟨#[97]⟩, ⟨#[]⟩, 0, la, lc, [], 0, 0, ⟨#[]⟩⟩ : Od) askO V (Okb.later hokY h) (ask_okb _ _) (Nat.zero_le _) (Nat.zero_le _)
    rw [show sameB (⟨0, 1, 7, ⟨#[97]⟩, ⟨#[]⟩, 0, la, lc, [], 0, 0, ⟨#[]⟩⟩ : Od) askO = true from hsm] at this
    exact this
  have y4 : ∀ V, Below W3.heap.size W3 V → Calls Try.prog 31 #[.agg #[i64 0, i64 1, i64 7, .string ⟨#[97]⟩, .string ⟨#[]⟩, i64 0, .slice la 0 lc, i64 0, i64 0, .string ⟨#[]⟩]] V fun e w' => e = .returned (.bool true) ∧ Below V.heap.size V w' := fun V h => by
    have := right_c0 (⟨0, 1, 7, ⟨#[97]⟩, ⟨#[]⟩, 0, la, lc, [], 0, 0, ⟨#[]⟩⟩ : Od) V (Okb.later hokY h) (Nat.zero_le _)
    rw [show rightB (⟨0, 1, 7, ⟨#[97]⟩, ⟨#[]⟩, 0, la, lc, [], 0, 0, ⟨#[]⟩⟩ : Od) = true from hrt] at this
    exact this
  have hSS : ∀ V, Below W3.heap.size W3 V → (fun V : World => Below W3.heap.size W3 V ∧ V.cell? ⟨q, 0, none⟩ = some (i64 0) ∧ V.cell? ⟨q, 1, none⟩ = some (i64 1) ∧ V.cell? ⟨q, 2, none⟩ = some (i64 7) ∧ V.cell? ⟨q, 3, none⟩ = some (.string ⟨#[97]⟩) ∧ V.cell? ⟨q, 4, none⟩ = some (.string ⟨#[]⟩) ∧ V.cell? ⟨q, 5, none⟩ = some (i64 0) ∧ V.cell? ⟨q, 6, none⟩ = some (.slice la 0 lc) ∧ V.cell? ⟨q, 7, none⟩ = some (i64 0) ∧ V.cell? ⟨q, 8, none⟩ = some (i64 0) ∧ V.cell? ⟨q, 9, none⟩ = some (.string ⟨#[]⟩)) V := fun V h => ⟨h, (h.cell (p := ⟨q, 0, none⟩) hlz).trans k0, (h.cell (p := ⟨q, 1, none⟩) hlz).trans k1, (h.cell (p := ⟨q, 2, none⟩) hlz).trans k2, (h.cell (p := ⟨q, 3, none⟩) hlz).trans k3, (h.cell (p := ⟨q, 4, none⟩) hlz).trans k4, (h.cell (p := ⟨q, 5, none⟩) hlz).trans k5, (h.cell (p := ⟨q, 6, none⟩) hlz).trans k6, (h.cell (p := ⟨q, 7, none⟩) hlz).trans k7, (h.cell (p := ⟨q, 8, none⟩) hlz).trans k8, (h.cell (p := ⟨q, 9, none⟩) hlz).trans k9⟩
  have hb4 := h0.alloc (Nat.le_refl _) (.cells #[.int .u8 0, .int .u8 2, .int .u8 14, .int .u8 2, .int .u8 97, .int .u8 0, .int .u8 0, .int .u8 0, .int .u8 0, .int .u8 0, .int .u8 0] 5)
  have hl4 := (own_lit (w := W3.drew) (base := W3.heap.size) 5 #[.int .u8 0, .int .u8 2, .int .u8 14, .int .u8 2, .int .u8 97, .int .u8 0, .int .u8 0, .int .u8 0, .int .u8 0, .int .u8 0, .int .u8 0] askBs (Nat.le_refl _) rfl (by decide) (fun _ _ => trivial)).sl_of
  have hs4 := hsY.later hb4
  go_region_held3 (fun V => Below W3.heap.size W3 V ∧ V.cell? ⟨q, 0, none⟩ = some (i64 0) ∧ V.cell? ⟨q, 1, none⟩ = some (i64 1) ∧ V.cell? ⟨q, 2, none⟩ = some (i64 7) ∧ V.cell? ⟨q, 3, none⟩ = some (.string ⟨#[97]⟩) ∧ V.cell? ⟨q, 4, none⟩ = some (.string ⟨#[]⟩) ∧ V.cell? ⟨q, 5, none⟩ = some (i64 0) ∧ V.cell? ⟨q, 6, none⟩ = some (.slice la 0 lc) ∧ V.cell? ⟨q, 7, none⟩ = some (i64 0) ∧ V.cell? ⟨q, 8, none⟩ = some (i64 0) ∧ V.cell? ⟨q, 9, none⟩ = some (.string ⟨#[]⟩)) (first | exact hSS _ h0 | exact hSS _ hb4 | exact hSS _ (by assumption) | exact hSS _ (below_on (by go_split_ands; assumption) (Nat.le_refl _) hF))
    (first
      | (go_at_call 30; refine (same2_c A1 _ c1 11 askBs askBs _ hs4 hl4).mono ?_; rintro e V1 ⟨rfl, hF⟩; rw [show (askBs == askBs) = true from by decide]; have hV1 := below_on hb4 (Nat.le_refl _) hF; clear hF)
      | (go_at_call 57; with_reducible refine (x1 _).mono ?_; rintro e V2 ⟨rfl, hF⟩; have hV2 := below_on hV1 (Nat.le_refl _) hF; clear hF)
      | (go_at_call 29; with_reducible refine (y3 _ hV2).mono ?_; rintro e V3 ⟨rfl, hF⟩; have hV3 := below_on hV2 (Nat.le_refl _) hF; clear hF)
      | (go_at_call 31; with_reducible refine (y4 _ hV3).mono ?_; rintro e V4 ⟨rfl, hF⟩; have hV4 := below_on hV3 (Nat.le_refl _) hF; clear hF)
      | (go_at_call 34; refine (number_c 2 3 _ (by decide) (by decide)).mono ?_; rintro e V5 ⟨rfl, hF⟩; rw [show (1000 * 2 + 3 : Int) = 2003 from rfl]; have hV5 := below_on hV4 (Nat.le_refl _) hF; clear hF))
  rename_i hh
  go_wp2
  go_ret
  exact ⟨rfl, below_on hBY (Nat.le_refl _) hh.1⟩
end Go.Proofs.Ytogecfddkohigaa
