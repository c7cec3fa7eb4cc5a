/- order.Bytes: the walk -/
import Derived.Test.YtogecfddkohigaaRows
import Derived.Test.YtogecfddkohigaaBytesO
import Derived.WalkKit
import Derived.WalkSpells
import Derived.WalkLawsBesides
import Derived.Deep.QuietTactic
import Derived.BigQuiet
import Derived.Laws.StructEq
import Derived.Deep.DeepFit
import Derived.StillTailTactics
namespace Go.Proofs.Ytogecfddkohigaa
open Go.RowKit
set_option maxRecDepth 100000 in
set_option maxHeartbeats 8000000 in
theorem bytes_c (x : Od) (w : World) (hx : Okb w w.heap.size x) (hl : x.legs.length ≤ 65536) (hin : InR x) :
    Calls Try.prog 27 #[x.v] w fun e w' => ∃ v, e = .returned (.tuple #[v, i64 (if rightB x then 0 else 1)]) ∧ Own w' w.heap.size 5 v (if rightB x then bytesB x else []) ∧ Below w.heap.size w w' := by
  have hb1 := (Below.refl w.heap.size w).alloc (Nat.le_refl _) (.cells #[i64 x.client, i64 x.seq, i64 x.kind, .string x.acct, .string x.peer, i64 x.sum, .slice x.la x.legs.length x.lc, i64 x.period, i64 x.hold, .string x.note] 30)
  have hz1 : w.heap.size < (w.alloc (.cells #[i64 x.client, i64 x.seq, i64 x.kind, .string x.acct, .string x.peer, i64 x.sum, .slice x.la x.legs.length x.lc, i64 x.period, i64 x.hold, .string x.note] 30)).heap.size := by simp
  have k0 : (w.alloc (.cells #[i64 x.client, i64 x.seq, i64 x.kind, .string x.acct, .string x.peer, i64 x.sum, .slice x.la x.legs.length x.lc, i64 x.period, i64 x.hold, .string x.note] 30)).cell? ⟨w.heap.size, 0, none⟩ = some (i64 x.client) := cell_of_row _ w.heap.size 0 _ _ (0, 0) (heap_alloc_new w _)
  have k1 : (w.alloc (.cells #[i64 x.client, i64 x.seq, i64 x.kind, .string x.acct, .string x.peer, i64 x.sum, .slice x.la x.legs.length x.lc, i64 x.period, i64 x.hold, .string x.note] 30)).cell? ⟨w.heap.size, 1, none⟩ = some (i64 x.seq) := cell_of_row _ w.heap.size 1 _ _ (0, 0) (heap_alloc_new w _)
  have k2 : (w.alloc (.cells #[i64 x.client, i64 x.seq, i64 x.kind, .string x.acct, .string x.peer, i64 x.sum, .slice x.la x.legs.length x.lc, i64 x.period, i64 x.hold, .string x.note] 30)).cell? ⟨w.heap.size, 2, none⟩ = some (i64 x.kind) := cell_of_row _ w.heap.size 2 _ _ (0, 0) (heap_alloc_new w _)
  have k3 : (w.alloc (.cells #[i64 x.client, i64 x.seq, i64 x.kind, .string x.acct, .string x.peer, i64 x.sum, .slice x.la x.legs.length x.lc, i64 x.period, i64 x.hold, .string x.note] 30)).cell? ⟨w.heap.size, 3, none⟩ = some (.string x.acct) := cell_of_row _ w.heap.size 3 _ _ (0, 0) (heap_alloc_new w _)
  have k4 : (w.alloc (.cells #[i64 x.client, i64 x.seq, i64 x.kind, .string x.acct, .string x.peer, i64 x.sum, .slice x.la x.legs.length x.lc, i64 x.period, i64 x.hold, .string x.note] 30)).cell? ⟨w.heap.size, 4, none⟩ = some (.string x.peer) := cell_of_row _ w.heap.size 4 _ _ (0, 0) (heap_alloc_new w _)
  have k5 : (w.alloc (.cells #[i64 x.client, i64 x.seq, i64 x.kind, .string x.acct, .string x.peer, i64 x.sum, .slice x.la x.legs.length x.lc, i64 x.period, i64 x.hold, .string x.note] 30)).cell? ⟨w.heap.size, 5, none⟩ = some (i64 x.sum) := cell_of_row _ w.heap.size 5 _ _ (0, 0) (heap_alloc_new w _)
  have k6 : (w.alloc (.cells #[i64 x.client, i64 x.seq, i64 x.kind, .string x.acct, .string x.peer, i64 x.sum, .slice x.la x.legs.length x.lc, i64 x.period, i64 x.hold, .string x.note] 30)).cell? ⟨w.heap.size, 6, none⟩ = some (.slice x.la x.legs.length x.lc) := cell_of_row _ w.heap.size 6 _ _ (0, 0) (heap_alloc_new w _)
  have k7 : (w.alloc (.cells #[i64 x.client, i64 x.seq, i64 x.kind, .string x.acct, .string x.peer, i64 x.sum, .slice x.la x.legs.length x.lc, i64 x.period, i64 x.hold, .string x.note] 30)).cell? ⟨w.heap.size, 7, none⟩ = some (i64 x.period) := cell_of_row _ w.heap.size 7 _ _ (0, 0) (heap_alloc_new w _)
  have k8 : (w.alloc (.cells #[i64 x.client, i64 x.seq, i64 x.kind, .string x.acct, .string x.peer, i64 x.sum, .slice x.la x.legs.length x.lc, i64 x.period, i64 x.hold, .string x.note] 30)).cell? ⟨w.heap.size, 8, none⟩ = some (i64 x.hold) := cell_of_row _ w.heap.size 8 _ _ (0, 0) (heap_alloc_new w _)
  have k9 : (w.alloc (.cells #[i64 x.client, i64 x.seq, i64 x.kind, .string x.acct, .string x.peer, i64 x.sum, .slice x.la x.legs.length x.lc, i64 x.period, i64 x.hold, .string x.note] 30)).cell? ⟨w.heap.size, 9, none⟩ = some (.string x.note) := cell_of_row _ w.heap.size 9 _ _ (0, 0) (heap_alloc_new w _)
  have hR := Lib.hid (right_c0 x _ (Okb.later hx hb1) hl)
  unfold Od.v at hR ⊢
  go_enter Try.func27, Try.ntmps27
  go_wp2_with fail
  refine hR.out.mono ?_
  rintro e w1 ⟨rfl, hF⟩
  have k0 := (hF.cell (p := ⟨w.heap.size, 0, none⟩) hz1).trans k0
  have k1 := (hF.cell (p := ⟨w.heap.size, 1, none⟩) hz1).trans k1
  have k2 := (hF.cell (p := ⟨w.heap.size, 2, none⟩) hz1).trans k2
  have k3 := (hF.cell (p := ⟨w.heap.size, 3, none⟩) hz1).trans k3
  have k4 := (hF.cell (p := ⟨w.heap.size, 4, none⟩) hz1).trans k4
  have k5 := (hF.cell (p := ⟨w.heap.size, 5, none⟩) hz1).trans k5
  have k6 := (hF.cell (p := ⟨w.heap.size, 6, none⟩) hz1).trans k6
  have k7 := (hF.cell (p := ⟨w.heap.size, 7, none⟩) hz1).trans k7
  have k8 := (hF.cell (p := ⟨w.heap.size, 8, none⟩) hz1).trans k8
  have k9 := (hF.cell (p := ⟨w.heap.size, 9, none⟩) hz1).trans k9
  have hb2w := below_on hb1 (Nat.le_refl _) hF
  have hz1 := Nat.lt_of_lt_of_le hz1 hF.size
  clear hF hR
  by_cases hr : rightB x = true
  · rw [hr]
    have hx1 := Okb.later hx hb2w
    have f := fine_of hr
    obtain ⟨r1, r2, r3, r4, r5, r6, r7⟩ := hin
    have hfa := f.acct
    have hfp := f.peer
    have hfn := f.note
    have hfl := f.legs
    have hfe := f.each
    have HE : Hid (bytesB x = (headBs x ++ x.legs.flatMap legBs) ++ numB x.period ++ numB x.hold ++ textB x.note) := Lib.hid rfl
    have HH : Hid (headBs x = numB x.client ++ numB x.seq ++ numB x.kind ++ textB x.acct ++ textB x.peer ++ numB x.sum ++ numB x.legs.length) := Lib.hid rfl
    have l1 := numB_le r1
    have l2 := numB_le r2
    have l3 := numB_le r3
    have l4 := textB_le hfa
    have l5 := textB_le hfp
    have l6 := numB_le r4
    have l7 := numB_le (n := x.legs.length) ⟨by omega, by omega⟩
    have l8 := numB_le r5
    have l9 := numB_le r6
    have l10 := textB_le hfn
    have x1 : ∀ W, Calls Try.prog 59 #[i64 x.client] W fun e w' => ∃ v, e = .returned v ∧ Own w' W.heap.size 5 v (numB x.client) ∧ Below W.heap.size W w' := fun W => onum_c x.client W r1.1 r1.2
    have x2 : ∀ W, Calls Try.prog 59 #[i64 x.seq] W fun e w' => ∃ v, e = .returned v ∧ Own w' W.heap.size 5 v (numB x.seq) ∧ Below W.heap.size W w' := fun W => onum_c x.seq W r2.1 r2.2
    have x3 : ∀ W, Calls Try.prog 59 #[i64 x.kind] W fun e w' => ∃ v, e = .returned v ∧ Own w' W.heap.size 5 v (numB x.kind) ∧ Below W.heap.size W w' := fun W => onum_c x.kind W r3.1 r3.2
    have x4 : ∀ W, Calls Try.prog 60 #[.string x.acct] W fun e w' => ∃ v, e = .returned v ∧ Own w' W.heap.size 5 v (textB x.acct) ∧ Below W.heap.size W w' := fun W => text_c x.acct W (by omega)
    have x5 : ∀ W, Calls Try.prog 60 #[.string x.peer] W fun e w' => ∃ v, e = .returned v ∧ Own w' W.heap.size 5 v (textB x.peer) ∧ Below W.heap.size W w' := fun W => text_c x.peer W (by omega)
    have x6 : ∀ W, Calls Try.prog 61 #[i64 x.sum] W fun e w' => ∃ v, e = .returned v ∧ Own w' W.heap.size 5 v (numB x.sum) ∧ Below W.heap.size W w' := fun W => num_c x.sum W r4.1 r4.2
    have x7 : ∀ W, Calls Try.prog 59 #[i64 x.legs.length] W fun e w' => ∃ v, e = .returned v ∧ Own w' W.heap.size 5 v (numB x.legs.length) ∧ Below W.heap.size W w' := fun W => onum_c x.legs.length W (by omega) (by omega)
    have x8 : ∀ W, Calls Try.prog 59 #[i64 x.period] W fun e w' => ∃ v, e = .returned v ∧ Own w' W.heap.size 5 v (numB x.period) ∧ Below W.heap.size W w' := fun W => onum_c x.period W r5.1 r5.2
    have x9 : ∀ W, Calls Try.prog 59 #[i64 x.hold] W fun e w' => ∃ v, e = .returned v ∧ Own w' W.heap.size 5 v (numB x.hold) ∧ Below W.heap.size W w' := fun W => onum_c x.hold W r6.1 r6.2
    have x10 : ∀ W, Calls Try.prog 60 #[.string x.note] W fun e w' => ∃ v, e = .returned v ∧ Own w' W.heap.size 5 v (textB x.note) ∧ Below W.heap.size W w' := fun W => text_c x.note W (by omega)
    clear r1 r2 r3 r4 r5 r6 hfa hfp hfn f
    generalize numB x.client = n1 at *
    generalize numB x.seq = n2 at *
    generalize numB x.kind = n3 at *
    generalize textB x.acct = n4 at *
    generalize textB x.peer = n5 at *
    generalize numB x.sum = n6 at *
    generalize numB x.legs.length = n7 at *
    generalize numB x.period = n8 at *
    generalize numB x.hold = n9 at *
    generalize textB x.note = n10 at *
    have h0 := (Below.refl w1.heap.size w1).drew
    have hSS : ∀ V, Below w1.heap.size w1 V → (fun V : World => Below w1.heap.size w1 V ∧ V.cell? ⟨w.heap.size, 0, none⟩ = some (i64 x.client) ∧ V.cell? ⟨w.heap.size, 1, none⟩ = some (i64 x.seq) ∧ V.cell? ⟨w.heap.size, 2, none⟩ = some (i64 x.kind) ∧ V.cell? ⟨w.heap.size, 3, none⟩ = some (.string x.acct) ∧ V.cell? ⟨w.heap.size, 4, none⟩ = some (.string x.peer) ∧ V.cell? ⟨w.heap.size, 5, none⟩ = some (i64 x.sum) ∧ V.cell? ⟨w.heap.size, 6, none⟩ = some (.slice x.la x.legs.length x.lc)) V := fun V h => ⟨h, (h.cell (p := ⟨w.heap.size, 0, none⟩) hz1).trans k0, (h.cell (p := ⟨w.heap.size, 1, none⟩) hz1).trans k1, (h.cell (p := ⟨w.heap.size, 2, none⟩) hz1).trans k2, (h.cell (p := ⟨w.heap.size, 3, none⟩) hz1).trans k3, (h.cell (p := ⟨w.heap.size, 4, none⟩) hz1).trans k4, (h.cell (p := ⟨w.heap.size, 5, none⟩) hz1).trans k5, (h.cell (p := ⟨w.heap.size, 6, none⟩) hz1).trans k6⟩
    go_wp2_with fail
    go_region_held3 (fun V => Below w1.heap.size w1 V ∧ V.cell? ⟨w.heap.size, 0, none⟩ = some (i64 x.client) ∧ V.cell? ⟨w.heap.size, 1, none⟩ = some (i64 x.seq) ∧ V.cell? ⟨w.heap.size, 2, none⟩ = some (i64 x.kind) ∧ V.cell? ⟨w.heap.size, 3, none⟩ = some (.string x.acct) ∧ V.cell? ⟨w.heap.size, 4, none⟩ = some (.string x.peer) ∧ V.cell? ⟨w.heap.size, 5, none⟩ = some (i64 x.sum) ∧ V.cell? ⟨w.heap.size, 6, none⟩ = some (.slice x.la x.legs.length x.lc)) (first | exact hSS _ h0 | exact hSS _ (by assumption) | exact hSS _ (hb7.alloc hb7.size _))
      (first
        | (go_at_call 59; with_reducible refine (x1 _).mono ?_; rintro e u1 ⟨v, rfl, hO, hF⟩; obtain ⟨A1, c1, rfl, hs1⟩ := hO.sl; have hb1 := below_on h0 (Nat.le_refl _) hF; clear hO hF)
        | (go_at_call 59; with_reducible refine (x2 _).mono ?_; rintro e u2 ⟨v, rfl, hO, hF⟩; obtain ⟨A2, c2, rfl, hs2⟩ := hO.sl; have hb2 := below_on hb1 (Nat.le_refl _) hF; have hs1 := hs1.later hF; clear hO hF)
        | (go_at_call 59; with_reducible refine (x3 _).mono ?_; rintro e u3 ⟨v, rfl, hO, hF⟩; obtain ⟨A3, c3, rfl, hs3⟩ := hO.sl; have hb3 := below_on hb2 (Nat.le_refl _) hF; have hs1 := hs1.later hF; have hs2 := hs2.later hF; clear hO hF)
        | (go_at_call 60; with_reducible refine (x4 _).mono ?_; rintro e u4 ⟨v, rfl, hO, hF⟩; obtain ⟨A4, c4, rfl, hs4⟩ := hO.sl; have hb4 := below_on hb3 (Nat.le_refl _) hF; have hs1 := hs1.later hF; have hs2 := hs2.later hF; have hs3 := hs3.later hF; clear hO hF)
        | (go_at_call 60; with_reducible refine (x5 _).mono ?_; rintro e u5 ⟨v, rfl, hO, hF⟩; obtain ⟨A5, c5, rfl, hs5⟩ := hO.sl; have hb5 := below_on hb4 (Nat.le_refl _) hF; have hs1 := hs1.later hF; have hs2 := hs2.later hF; have hs3 := hs3.later hF; have hs4 := hs4.later hF; clear hO hF)
        | (go_at_call 61; with_reducible refine (x6 _).mono ?_; rintro e u6 ⟨v, rfl, hO, hF⟩; obtain ⟨A6, c6, rfl, hs6⟩ := hO.sl; have hb6 := below_on hb5 (Nat.le_refl _) hF; have hs1 := hs1.later hF; have hs2 := hs2.later hF; have hs3 := hs3.later hF; have hs4 := hs4.later hF; have hs5 := hs5.later hF; clear hO hF)
        | (go_at_call 59; with_reducible refine (x7 _).mono ?_; rintro e u7 ⟨v, rfl, hO, hF⟩; obtain ⟨A7, c7, rfl, hs7⟩ := hO.sl; have hb7 := below_on hb6 (Nat.le_refl _) hF; have hs1 := hs1.later hF; have hs2 := hs2.later hF; have hs3 := hs3.later hF; have hs4 := hs4.later hF; have hs5 := hs5.later hF; have hs6 := hs6.later hF; clear hO hF)
        | (go_at_call 58; refine (concat_byte _ _ [(⟨A1, c1, n1⟩ : SV UInt8), ⟨A2, c2, n2⟩, ⟨A3, c3, n3⟩, ⟨A4, c4, n4⟩, ⟨A5, c5, n5⟩, ⟨A6, c6, n6⟩, ⟨A7, c7, n7⟩] _ (own_lit (w := u7) (base := u7.heap.size) 36 #[.slice A1 n1.length c1, .slice A2 n2.length c2, .slice A3 n3.length c3, .slice A4 n4.length c4, .slice A5 n5.length c5, .slice A6 n6.length c6, .slice A7 n7.length c7] [(⟨A1, c1, n1⟩ : SV UInt8), ⟨A2, c2, n2⟩, ⟨A3, c3, n3⟩, ⟨A4, c4, n4⟩, ⟨A5, c5, n5⟩, ⟨A6, c6, n6⟩, ⟨A7, c7, n7⟩] (Nat.le_refl _) rfl (by simp) (by intro y hy; simp only [List.mem_cons, List.not_mem_nil, or_false] at hy; rcases hy with rfl | rfl | rfl | rfl | rfl | rfl | rfl <;> (first | exact hs1 | exact hs2 | exact hs3 | exact hs4 | exact hs5 | exact hs6 | exact hs7))).sl_of (by simp) (by simp; omega)).mono ?_; rintro e uc ⟨vc, rfl, hOc, hF⟩; have hbc := below_on (hb7.alloc hb7.size _) (Nat.le_refl _) hF; have hOc := hOc.mono (base' := w1.heap.size) (Nat.le_trans hb7.size (by simp)); clear hF))
    rename_i hh
    have eH : [(⟨A1, c1, n1⟩ : SV UInt8), ⟨A2, c2, n2⟩, ⟨A3, c3, n3⟩, ⟨A4, c4, n4⟩, ⟨A5, c5, n5⟩, ⟨A6, c6, n6⟩, ⟨A7, c7, n7⟩].flatMap SV.l = n1 ++ n2 ++ n3 ++ n4 ++ n5 ++ n6 ++ n7 := by simp
    rw [eH] at hOc
    have lH : (n1 ++ n2 ++ n3 ++ n4 ++ n5 ++ n6 ++ n7).length ≤ 770 := by simp; omega
    generalize n1 ++ n2 ++ n3 ++ n4 ++ n5 ++ n6 ++ n7 = H at *
    have k5 := (hbc.cell (p := ⟨w.heap.size, 6, none⟩) hz1).trans k6
    have k7 := (hbc.cell (p := ⟨w.heap.size, 7, none⟩) hz1).trans k7
    have k8 := (hbc.cell (p := ⟨w.heap.size, 8, none⟩) hz1).trans k8
    have k9 := (hbc.cell (p := ⟨w.heap.size, 9, none⟩) hz1).trans k9
    clear hh hSS h0 hb1 hb3 hb4 hb5 hb6 hb7 hs1 hs2 hs3 hs4 hs5 hs6 hs7 x1 x2 x3 x4 x5 x6 x7 l1 l2 l3 l4 l5 l6 l7 eH
    go_wp2_with fail
    have hlg : Sl uc uc.heap.size x.la x.lc x.legs := by obtain ⟨_, _, _, q⟩ := hx1; exact q.later hbc
    go_loopw [4, 39] (fun v i wr => ∃ k : Nat, i = i64 k ∧ k ≤ x.legs.length ∧ Own wr w1.heap.size 5 v (H ++ (x.legs.take k).flatMap legBs) ∧ Below uc.heap.size uc wr) (fun _ i _ => x.legs.length - (intOf i).toNat)
    case atStart => exact ⟨0, rfl, by omega, by simpa using hOc, Below.refl _ _⟩
    case round =>
      obtain ⟨k, rfl, hk, hO, hB⟩ := hrel
      clear hOc
      have lP := legs_le hfe k r7 hfl
      by_cases hlt : k < x.legs.length
      · obtain ⟨b, ob, hA, hbb, hsz, e0, e1⟩ := (hlg.later hB).leg hlt
        have hst := flat_step hlt
        have hac := hfe x.legs[k] (List.getElem_mem hlt)
        have hsm := r7 x.legs[k] (List.getElem_mem hlt)
        obtain ⟨P, hP⟩ : ∃ P, H ++ (x.legs.take k).flatMap legBs = P := ⟨_, rfl⟩
        have lP2 : P.length ≤ 2000 := by rw [← hP, List.length_append]; omega
        have HP := Lib.hid (show H ++ (x.legs.take (k + 1)).flatMap legBs = P ++ (textB x.legs[k].acct ++ numB x.legs[k].sum) by rw [hst, ← List.append_assoc, hP]; rfl)
        rw [hP] at hO
        have hO2 := hO
        obtain ⟨AP, cP, rfl, hsP⟩ := hO.sl
        have m1 := textB_le hac
        have m2 := numB_le hsm
        have y1 : ∀ W, Calls Try.prog 60 #[.string x.legs[k].acct] W fun e w' => ∃ v, e = .returned v ∧ Own w' W.heap.size 5 v (textB x.legs[k].acct) ∧ Below W.heap.size W w' := fun W => text_c _ W (by omega)
        have y2 : ∀ W, Calls Try.prog 61 #[i64 x.legs[k].sum] W fun e w' => ∃ v, e = .returned v ∧ Own w' W.heap.size 5 v (numB x.legs[k].sum) ∧ Below W.heap.size W w' := fun W => num_c _ W hsm.1 hsm.2
        generalize textB x.legs[k].acct = t1 at *
        generalize numB x.legs[k].sum = t2 at *
        have hB7 := (Below.refl wr.heap.size wr).alloc (Nat.le_refl _) (.cells #[.string x.legs[k].acct, i64 x.legs[k].sum] 58)
        have d0 : (wr.alloc (.cells #[.string x.legs[k].acct, i64 x.legs[k].sum] 58)).cell? ⟨wr.heap.size, 0, none⟩ = some (.string x.legs[k].acct) := by simp
        have d1 : (wr.alloc (.cells #[.string x.legs[k].acct, i64 x.legs[k].sum] 58)).cell? ⟨wr.heap.size, 1, none⟩ = some (i64 x.legs[k].sum) := by simp
        have hsP := hsP.later hB7
        have hlz : wr.heap.size < (wr.alloc (.cells #[.string x.legs[k].acct, i64 x.legs[k].sum] 58)).heap.size := by simp
        rw [hA]
        have HB := Lib.hid hB
        have hw1 : w1.heap.size ≤ wr.heap.size := Nat.le_trans hbc.size hB.size
        clear hP hst hac hsm hO hA hsz hB
        go_wp2_with fail
        generalize wr.alloc (.cells #[.string x.legs[k].acct, i64 x.legs[k].sum] 58) = W7 at *
        have h0 := (Below.refl W7.heap.size W7).drew
        have hsP := hsP.later h0
        have hSS : ∀ V, Below W7.heap.size W7 V → (fun V : World => Below W7.heap.size W7 V ∧ V.cell? ⟨wr.heap.size, 0, none⟩ = some (.string x.legs[k].acct) ∧ V.cell? ⟨wr.heap.size, 1, none⟩ = some (i64 x.legs[k].sum)) V := fun V h => ⟨h, (h.cell (p := ⟨wr.heap.size, 0, none⟩) hlz).trans d0, (h.cell (p := ⟨wr.heap.size, 1, none⟩) hlz).trans d1⟩
        go_region_held3 (fun V => Below W7.heap.size W7 V ∧ V.cell? ⟨wr.heap.size, 0, none⟩ = some (.string x.legs[k].acct) ∧ V.cell? ⟨wr.heap.size, 1, none⟩ = some (i64 x.legs[k].sum)) (first | exact hSS _ h0 | exact hSS _ (by assumption) | exact hSS _ (hb2.alloc hb2.size _))
          (first
            | (go_at_call 60; with_reducible refine (y1 _).mono ?_; rintro e u1 ⟨v, rfl, hO, hF⟩; obtain ⟨A1, c1, rfl, hs1⟩ := hO.sl; have hb1 := below_on h0 (Nat.le_refl _) hF; have hsP := hsP.later hF; clear hO hF)
            | (go_at_call 61; with_reducible refine (y2 _).mono ?_; rintro e u2 ⟨v, rfl, hO, hF⟩; obtain ⟨A2, c2, rfl, hs2⟩ := hO.sl; have hb2 := below_on hb1 (Nat.le_refl _) hF; have hsP := hsP.later hF; have hs1 := hs1.later hF; clear hO hF)
            | (go_at_call 58; refine (concat_byte _ _ [(⟨AP, cP, P⟩ : SV UInt8), ⟨A1, c1, t1⟩, ⟨A2, c2, t2⟩] _ (own_lit (w := u2) (base := u2.heap.size) 36 #[.slice AP P.length cP, .slice A1 t1.length c1, .slice A2 t2.length c2] [(⟨AP, cP, P⟩ : SV UInt8), ⟨A1, c1, t1⟩, ⟨A2, c2, t2⟩] (Nat.le_refl _) rfl (by simp) (by intro y hy; simp only [List.mem_cons, List.not_mem_nil, or_false] at hy; rcases hy with rfl | rfl | rfl <;> (first | exact hsP | exact hs1 | exact hs2))).sl_of (by simp) (by simp; omega)).mono ?_; rintro e uc ⟨vc, rfl, hOc, hF⟩; have hbc := below_on (hb2.alloc hb2.size _) (Nat.le_refl _) hF; have hOc := hOc.mono (base' := W7.heap.size) (Nat.le_trans hb2.size (by simp)); clear hF))
        have eP : [(⟨AP, cP, P⟩ : SV UInt8), ⟨A1, c1, t1⟩, ⟨A2, c2, t2⟩].flatMap SV.l = P ++ (t1 ++ t2) := by simp
        rw [eP] at hOc
        go_wp2
        go_roundw
        case rel => exact ⟨k + 1, by go_num, by omega, by rw [HP.out]; exact hOc.mono (Nat.le_trans hw1 (Nat.le_of_lt hlz)), below_on (below_on HB.out (Nat.le_refl _) hB7) (Nat.le_refl _) hbc⟩
        case measure => simp [intOf]; omega
      · obtain rfl : k = x.legs.length := by omega
        rw [List.take_length] at hO lP
        have HE2 := HE.out
        rw [HH.out] at HE2
        have HE := Lib.hid HE2
        have HB := Lib.hid (below_on hbc (Nat.le_refl _) hB)
        have k7 := (hB.cell (World.block_lt_of_cell? _ _ k7)).trans k7
        have k8 := (hB.cell (World.block_lt_of_cell? _ _ k8)).trans k8
        have k9 := (hB.cell (World.block_lt_of_cell? _ _ k9)).trans k9
        obtain ⟨P, hP⟩ : ∃ P, H ++ x.legs.flatMap legBs = P := ⟨_, rfl⟩
        have lP2 : P.length ≤ 2000 := by rw [← hP, List.length_append]; omega
        rw [hP] at hO HE
        obtain ⟨AP, cP, rfl, hsP⟩ := hO.sl
        have hw1 : w1.heap.size ≤ wr.heap.size := HB.out.size
        have hz2 : w.heap.size < wr.heap.size := World.block_lt_of_cell? _ _ k7
        clear hO hP HE2 hlg hB
        go_wp2_with fail
        have h0 := (Below.refl wr.heap.size wr).drew
        have hsP := hsP.later h0
        have hSS : ∀ V, Below wr.heap.size wr V → (fun V : World => Below wr.heap.size wr V ∧ V.cell? ⟨w.heap.size, 7, none⟩ = some (i64 x.period) ∧ V.cell? ⟨w.heap.size, 8, none⟩ = some (i64 x.hold) ∧ V.cell? ⟨w.heap.size, 9, none⟩ = some (.string x.note)) V := fun V h => ⟨h, (h.cell (p := ⟨w.heap.size, 7, none⟩) hz2).trans k7, (h.cell (p := ⟨w.heap.size, 8, none⟩) hz2).trans k8, (h.cell (p := ⟨w.heap.size, 9, none⟩) hz2).trans k9⟩
        go_region_held3 (fun V => Below wr.heap.size wr V ∧ V.cell? ⟨w.heap.size, 7, none⟩ = some (i64 x.period) ∧ V.cell? ⟨w.heap.size, 8, none⟩ = some (i64 x.hold) ∧ V.cell? ⟨w.heap.size, 9, none⟩ = some (.string x.note)) (first | exact hSS _ h0 | exact hSS _ (by assumption) | exact hSS _ (hb3.alloc hb3.size _))
          (first
            | (go_at_call 59; with_reducible refine (x8 _).mono ?_; rintro e u1 ⟨v, rfl, hO, hF⟩; obtain ⟨A1, c1, rfl, hs1⟩ := hO.sl; have hb1 := below_on h0 (Nat.le_refl _) hF; have hsP := hsP.later hF; clear hO hF)
            | (go_at_call 59; with_reducible refine (x9 _).mono ?_; rintro e u2 ⟨v, rfl, hO, hF⟩; obtain ⟨A2, c2, rfl, hs2⟩ := hO.sl; have hb2 := below_on hb1 (Nat.le_refl _) hF; have hsP := hsP.later hF; have hs1 := hs1.later hF; clear hO hF)
            | (go_at_call 60; with_reducible refine (x10 _).mono ?_; rintro e u3 ⟨v, rfl, hO, hF⟩; obtain ⟨A3, c3, rfl, hs3⟩ := hO.sl; have hb3 := below_on hb2 (Nat.le_refl _) hF; have hsP := hsP.later hF; have hs1 := hs1.later hF; have hs2 := hs2.later hF; clear hO hF)
            | (go_at_call 58; refine (concat_byte _ _ [(⟨AP, cP, P⟩ : SV UInt8), ⟨A1, c1, n8⟩, ⟨A2, c2, n9⟩, ⟨A3, c3, n10⟩] _ (own_lit (w := u3) (base := u3.heap.size) 36 #[.slice AP P.length cP, .slice A1 n8.length c1, .slice A2 n9.length c2, .slice A3 n10.length c3] [(⟨AP, cP, P⟩ : SV UInt8), ⟨A1, c1, n8⟩, ⟨A2, c2, n9⟩, ⟨A3, c3, n10⟩] (Nat.le_refl _) rfl (by simp) (by intro y hy; simp only [List.mem_cons, List.not_mem_nil, or_false] at hy; rcases hy with rfl | rfl | rfl | rfl <;> (first | exact hsP | exact hs1 | exact hs2 | exact hs3))).sl_of (by simp) (by simp; omega)).mono ?_; rintro e uc ⟨vc, rfl, hOc, hF⟩; have hbc := below_on (hb3.alloc hb3.size _) (Nat.le_refl _) hF; have hOc := hOc.mono (base' := wr.heap.size) (Nat.le_trans hb3.size (by simp)); clear hF))
        have eP : [(⟨AP, cP, P⟩ : SV UInt8), ⟨A1, c1, n8⟩, ⟨A2, c2, n9⟩, ⟨A3, c3, n10⟩].flatMap SV.l = P ++ n8 ++ n9 ++ n10 := by simp
        rw [eP] at hOc
        go_wp2
        go_ret2
        exact ⟨_, rfl, by show Own _ w.heap.size 5 _ (bytesB x); rw [HE.out]; exact hOc.mono (Nat.le_trans hb2w.size hw1), below_on (below_on hb2w (Nat.le_refl _) HB.out) (Nat.le_refl _) hbc⟩
  · have hr : rightB x = false := by simpa using hr
    rw [hr]
    clear hr
    go_wp2
    go_ret2
    exact ⟨_, rfl, Own.nil_ _ _ _, hb2w⟩
end Go.Proofs.Ytogecfddkohigaa
