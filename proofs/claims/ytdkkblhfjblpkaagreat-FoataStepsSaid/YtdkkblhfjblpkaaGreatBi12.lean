/- Texts of this claim, laid together: RNum, RdrB, ReadP. -/
import Derived.Test.YtdkkblhfjblpkaaGreatRows
import Derived.Test.YtdkkblhfjblpkaaGreatBi11
import Derived.WalkKit
import Derived.WalkSpells
import Derived.WalkLawsBesides
import Derived.Deep.QuietTactic
import Derived.BigQuiet
import Derived.Laws.StructEq
import Derived.Deep.DeepFit
import Derived.StillTailTactics
import Derived.Laws.CopyRow
import Derived.Laws.MakeOwn
import Derived.Laws.IdiomStrings
import Derived.Laws.IdiomCopy

/- pack.Reader.Num -/
namespace Go.Proofs.YtdkkblhfjblpkaaGreat
open Go.RowKit
/-- the next number's bytes: k are read, acc is what they spell -/
def uvR : Nat → Nat → List UInt8 → Except Int (Nat × List UInt8)
  | _, _, [] => .error 4
  | i, acc, b :: t =>
    if i = 10 ∨ (i = 9 ∧ 1 < b.toNat) then .error (if t = [] ∧ 128 ≤ b.toNat ∧ i < 10 then 4 else 3)
    else if b.toNat = 0 ∧ 0 < i then .error 3
    else if b.toNat < 128 then .ok (acc + b.toNat * 2 ^ (7 * i), t)
    else uvR (i + 1) (acc + b.toNat % 128 * 2 ^ (7 * i)) t
/-- the next number: what is told, and what is left -/
def numRd (err : Int) (l : List UInt8) : (Int × Int) × (Int × List UInt8) :=
  if err ≠ 0 then ((0, err), (err, l)) else match uvR 0 0 l with
    | .error e => ((0, e), (e, []))
    | .ok (m, t) => ((Lib.unzigzag m, 0), (0, t))
theorem numRd_err {err : Int} (h : err ≠ 0) (l : List UInt8) : numRd err l = ((0, err), (err, l)) := by unfold numRd; rw [if_pos h]
theorem numRd_bad {l : List UInt8} {e : Int} (h : uvR 0 0 l = .error e) : numRd 0 l = ((0, e), (e, [])) := by unfold numRd; rw [if_neg (by simp), h]
theorem numRd_ok {l t : List UInt8} {m : Nat} (h : uvR 0 0 l = .ok (m, t)) : numRd 0 l = ((Lib.unzigzag m, 0), (0, t)) := by unfold numRd; rw [if_neg (by simp), h]
theorem uvR_long {l : List UInt8} {k acc : Nat} (hk : k < l.length) (h : k = 10 ∨ (k = 9 ∧ 1 < l[k].toNat)) : uvR k acc (l.drop k) = .error (longE l k l[k]) := by
  rw [List.drop_eq_getElem_cons hk, uvR, if_pos h]
  unfold longE
  by_cases e : k + 1 = l.length
  · rw [List.drop_eq_nil_of_le (by omega)]; simp [e]
  · rw [if_neg (fun h => e (by have := congrArg List.length h.1; simp at this; omega)), if_neg (fun h => e h.1)]
theorem uvR_zero {l : List UInt8} {k acc : Nat} (hk : k < l.length) (h : ¬ (k = 10 ∨ (k = 9 ∧ 1 < l[k].toNat))) (hz : l[k].toNat = 0 ∧ 0 < k) : uvR k acc (l.drop k) = .error 3 := by
  rw [List.drop_eq_getElem_cons hk, uvR, if_neg h, if_pos hz]
theorem uvR_last {l : List UInt8} {k acc : Nat} (hk : k < l.length) (h : ¬ (k = 10 ∨ (k = 9 ∧ 1 < l[k].toNat))) (hz : ¬ (l[k].toNat = 0 ∧ 0 < k)) (hs : l[k].toNat < 128) : uvR k acc (l.drop k) = .ok (acc + l[k].toNat * 2 ^ (7 * k), l.drop (k + 1)) := by
  rw [List.drop_eq_getElem_cons hk, uvR, if_neg h, if_neg hz, if_pos hs]
theorem uvR_more {l : List UInt8} {k acc : Nat} (hk : k < l.length) (h : ¬ (k = 10 ∨ (k = 9 ∧ 1 < l[k].toNat))) (hs : ¬ l[k].toNat < 128) : uvR k acc (l.drop k) = uvR (k + 1) (acc + l[k].toNat % 128 * 2 ^ (7 * k)) (l.drop (k + 1)) := by
  rw [List.drop_eq_getElem_cons hk, uvR, if_neg h, if_neg (by omega), if_neg hs]

theorem or_step {acc k b : Nat} (hacc : acc < 2 ^ (7 * k)) (hk : k < 9 ∨ (k = 9 ∧ b ≤ 1)) (hb : b < 128) : bits .or .u64 (acc : Int) (IntKind.u64.wrap ((b : Int) * 2 ^ (7 * k))) = ((acc + b * 2 ^ (7 * k) : Nat) : Int) := by
  have hx : b * 2 ^ (7 * k) < 18446744073709551616 := by
    rcases hk with hk | ⟨rfl, hb1⟩
    · have h1 : 2 ^ (7 * k) ≤ 2 ^ 56 := Nat.pow_le_pow_right (by decide) (by omega)
      have h2 : b * 2 ^ (7 * k) ≤ 127 * 2 ^ 56 := Nat.mul_le_mul (by omega) h1
      exact Nat.lt_of_le_of_lt h2 (by decide)
    · exact Nat.lt_of_le_of_lt (Nat.mul_le_mul_right _ hb1) (by decide)
  have hy : acc < 18446744073709551616 := Nat.lt_of_lt_of_le hacc (Nat.le_trans (Nat.pow_le_pow_right (by decide) (show 7 * k ≤ 63 by omega)) (show 2 ^ 63 ≤ 18446744073709551616 by decide))
  have e1 : (b : Int) * 2 ^ (7 * k) = ((b * 2 ^ (7 * k) : Nat) : Int) := by rw [Int.natCast_mul, Int.natCast_pow]; rfl
  have e2 : IntKind.u64.wrap ((b : Int) * 2 ^ (7 * k)) = ((b * 2 ^ (7 * k) : Nat) : Int) := by
    rw [e1]
    generalize b * 2 ^ (7 * k) = X at hx ⊢
    rw [IntKind.wrap_u64]
    omega
  rw [e2, bits_join_low .u64 64 (by decide) wraps_u64 (7 * k) _ _ (by omega) (by exact_mod_cast hacc) (by omega) (by omega) (by exact_mod_cast Nat.mul_mod_left b (2 ^ (7 * k))) (by omega)]
  omega
theorem or_lt {acc k b : Nat} (hacc : acc < 2 ^ (7 * k)) (hk : k < 9 ∨ (k = 9 ∧ b ≤ 1)) (hb : b < 128) : acc + b * 2 ^ (7 * k) < 18446744073709551616 := by
  rcases hk with hk | ⟨rfl, hb1⟩
  · have h1 : 2 ^ (7 * k) ≤ 2 ^ 56 := Nat.pow_le_pow_right (by decide) (by omega)
    have h2 : b * 2 ^ (7 * k) ≤ 127 * 2 ^ 56 := Nat.mul_le_mul (by omega) h1
    have h3 : (2 : Nat) ^ 56 = 72057594037927936 := by decide
    omega
  · have h2 := Nat.mul_le_mul_right (2 ^ (7 * 9)) hb1
    have h3 : (2 : Nat) ^ (7 * 9) = 9223372036854775808 := by decide
    omega
theorem acc_step {acc k b : Nat} (hacc : acc < 2 ^ (7 * k)) (hb : b < 128) : acc + b * 2 ^ (7 * k) < 2 ^ (7 * (k + 1)) := by
  rw [Nat.mul_add, Nat.pow_add, show (2 : Nat) ^ (7 * 1) = 128 from rfl]
  generalize 2 ^ (7 * k) = P at *
  have h2 : b * P ≤ 127 * P := Nat.mul_le_mul_right _ (by omega)
  omega
theorem andNot128 (c : UInt8) : bits .andNot .u8 (c.toNat : Int) 128 = ((c.toNat % 128 : Nat) : Int) := by
  have h : ∀ a : Fin 256, bits .andNot .u8 ((a.val : Nat) : Int) 128 = ((a.val % 128 : Nat) : Int) := by decide +kernel
  exact h ⟨c.toNat, c.toNat_lt⟩
set_option maxRecDepth 100000 in
set_option maxHeartbeats 4000000 in
theorem rnum_c (g r : Nat) (err : Int) (l : List UInt8) (w : World) (h : Rd w g r err l) (hr : r < w.heap.size) (hn : l.length ≤ 65536) :
    Calls Tryz.prog 171 #[.pointer (some ⟨g, 0, none⟩)] w fun e w' => e = .returned (.tuple #[i64 (numRd err l).1.1, i64 (numRd err l).1.2]) ∧ Rd w' g r (numRd err l).2.1 (numRd err l).2.2 ∧ w.grownBy w' (some g) := by
  have H := Lib.hid h
  obtain ⟨hne, A, c, hg, hs⟩ := h
  have hglt := (Array.getElem?_eq_some_iff.1 hg).1
  have c0 := cell_of_row w g 0 _ _ (0, 0) hg
  have c1 := cell_of_row w g 1 _ _ (0, 0) hg
  simp only [List.getElem?_toArray, List.getElem?_cons_zero, List.getElem?_cons_succ] at c0 c1
  by_cases he : err = 0
  · subst he
    have HG := Lib.hid hg
    clear hg
    go_enter Tryz.func171, Tryz.ntmps171
    go_wp2_with fail
    go_loopw [4, 24] (fun m i wr => ∃ k acc : Nat, i = i64 k ∧ m = .int .u64 (acc : Int) ∧ k ≤ l.length ∧ k ≤ 10 ∧ acc < 2 ^ (7 * k) ∧ uvR 0 0 l = uvR k acc (l.drop k) ∧ Below w.heap.size w wr) (fun _ i _ => l.length - (intOf i).toNat)
    case atStart => exact ⟨0, 0, rfl, rfl, by omega, by omega, by decide, rfl, Below.refl _ _⟩
    case round =>
      obtain ⟨k, acc, rfl, rfl, hk, hk10, hacc, hu, hb⟩ := hrel
      have Hu := Lib.hid hu
      have Hacc := Lib.hid hacc
      clear hu hacc
      by_cases hlt : k < l.length
      · obtain ⟨b, o, rfl, hbr, -, hc⟩ := hs.at_ hlt
        have hbr := hbr.symm
        subst hbr
        have c0 := (hb.cell (p := ⟨g, 0, none⟩) hglt).trans c0
        have hgr := (hb.block g hglt).trans HG.out
        have f0 := frozen_of_row wr g 0 _ _ hgr
        have Hgr := Lib.hid hgr
        clear hgr
        have hlc : l.length ≤ c := hs.1
        have d0 := hc 0 _ rfl
        rw [show k * Enc.size UInt8 + 0 = k from Nat.mul_one k] at d0
        have d0 := (hb.cell (p := ⟨r, o + k, none⟩) hr).trans d0
        clear hc
        have i0 : (0 : Int) ≤ (k : Int) := by omega
        have i1 : (k : Int) < (l.length : Int) := by omega
        have hlb := l[k].toNat_lt
        by_cases k10 : k = 10
        · have t1 : ((k : Int) == 10) = true := by rw [beq_iff_eq]; omega
          have hu2 := Lib.hid (numRd_bad (Hu.out.trans (uvR_long hlt (.inl k10))))
          clear Hu Hacc
          try clear k10
          try clear k9
          go_wp2_with fail
          refine (long_c g r 0 l k hlt _ (H.out.later hr hb) hn).mono ?_
          rintro e w2 ⟨rfl, hb2⟩
          have hb3 := below_on hb (Nat.le_refl _) hb2
          go_wp2_with fail
          refine (rfail_c g r 0 _ l _ (H.out.later hr hb3)).mono ?_
          rintro e w3 ⟨rfl, hR, hG⟩
          go_wp2
          go_ret2
          rw [hu2.out]
          exact ⟨rfl, hR, grown_trans (grown_of_below hb3 _) hG⟩
        · have t1 : ((k : Int) == 10) = false := by rw [beq_eq_false_iff_ne]; omega
          by_cases k9 : k = 9
          · have t2 : ((k : Int) == 9) = true := by rw [beq_iff_eq]; omega
            by_cases hb1 : 1 < l[k].toNat
            · have t3 : decide ((1 : Int) < ((l[k].toNat : Nat) : Int)) = true := decide_eq_true (by omega)
              have hu2 := Lib.hid (numRd_bad (Hu.out.trans (uvR_long hlt (.inr ⟨k9, hb1⟩))))
              clear Hu Hacc
              try clear k10
              try clear k9
              go_wp2_with fail
              refine (long_c g r 0 l k hlt _ (H.out.later hr hb) hn).mono ?_
              rintro e w2 ⟨rfl, hb2⟩
              have hb3 := below_on hb (Nat.le_refl _) hb2
              go_wp2_with fail
              refine (rfail_c g r 0 _ l _ (H.out.later hr hb3)).mono ?_
              rintro e w3 ⟨rfl, hR, hG⟩
              go_wp2
              go_ret2
              rw [hu2.out]
              exact ⟨rfl, hR, grown_trans (grown_of_below hb3 _) hG⟩
            · have t3 : decide ((1 : Int) < ((l[k].toNat : Nat) : Int)) = false := decide_eq_false (by omega)
              have hnb := Lib.hid (show ¬ (k = 10 ∨ (k = 9 ∧ 1 < l[k].toNat)) from fun h => by omega)
              by_cases hs1 : l[k].toNat < 128
              · have g3 : decide (((l[k].toNat : Nat) : Int) < 128) = true := decide_eq_true (by omega)
                by_cases hz : l[k].toNat = 0 ∧ 0 < k
                · have g4 : (((l[k].toNat : Nat) : Int) == 0) = true := by rw [beq_iff_eq]; omega
                  have g5 : 0 < k := hz.2
                  have hu2 := Lib.hid (numRd_bad (Hu.out.trans (uvR_zero hlt hnb.out hz)))
                  clear Hu Hacc hnb hz
                  try clear k9
                  go_wp2_with fail
                  refine (rfail_c g r 0 3 l _ (H.out.later hr hb)).mono ?_
                  rintro e w3 ⟨rfl, hR, hG⟩
                  go_wp2
                  go_ret2
                  rw [hu2.out]
                  exact ⟨rfl, hR, grown_trans (grown_of_below hb _) hG⟩
                · by_cases hz0 : l[k].toNat = 0
                  · have g4 : (((l[k].toNat : Nat) : Int) == 0) = true := by rw [beq_iff_eq]; omega
                    have g5 : ¬ 0 < k := fun h => hz ⟨hz0, h⟩
                    have hu2 := Lib.hid (numRd_ok (Hu.out.trans (uvR_last hlt hnb.out hz hs1)))
                    clear Hu
                    have a1 := andNot128 l[k]
                    have hm := Nat.mod_eq_of_lt hs1
                    obtain ⟨X, hX⟩ : ∃ X : Nat, X = acc + l[k].toNat % 128 * 2 ^ (7 * k) := ⟨_, rfl⟩
                    have q := or_step (b := l[k].toNat % 128) Hacc.out (by omega) (Nat.mod_lt _ (by decide))
                    have hX64 := or_lt (b := l[k].toNat % 128) Hacc.out (by omega) (Nat.mod_lt _ (by decide))
                    rw [← hX] at q hX64
                    rw [hm] at q hX a1
                    rw [← hX] at hu2
                    have j1 : (k : Int) + 1 ≤ (l.length : Int) := by omega
                    have j2 : (l.length : Int) ≤ (c : Int) := by omega
                    have j3 : (k : Int) + 1 ≤ (c : Int) := by omega
                    clear Hacc hnb hs1 hm hX
                    try clear k9
                    try clear hz
                    try clear hz0
                    by_cases hcc : c = k + 1
                    · obtain rfl := hcc
                      have hset := Lib.hid (heap_setCell_same wr g 0 _ _ (.slice (some ⟨r, o, none⟩) 0 0) Hgr.out)
                      have hdr := Lib.hid (hs.drop (k := k + 1) (by omega))
                      have hG1 := grown_setCell (g := g) (World.grownBy.refl wr (some g)) (p := ⟨g, 0, none⟩) (.inl rfl) (.slice (some ⟨r, o, none⟩) 0 0)
                      go_wp2_with fail
                      refine (unfold_c X hX64 _).mono ?_
                      rintro e w3 ⟨rfl, hb3⟩
                      go_wp2
                      go_ret2
                      rw [hu2.out]
                      have hnd : (l.drop (k + 1)).length = 0 := by rw [List.length_drop]; omega
                      refine ⟨rfl, Rd.later ⟨hne, _, _, by rw [hset.out]; simp only [List.setIfInBounds_toArray, List.set_cons_zero, hnd]; rfl, ?_⟩ (Nat.lt_of_lt_of_le hr (by simpa [World.setCell] using hb.size)) hb3, grown_trans (grown_of_below hb _) (grown_trans hG1 (grown_of_below hb3 _))⟩
                      have := hdr.out
                      simp only [if_true, Nat.sub_self] at this
                      exact this.keep (fun p hp => World.cell?_of_block (w := w) (by rw [hp]; exact (hG1.block r (Nat.lt_of_lt_of_le hr hb.size) (fun e => hne (by injection e))).trans (hb.block r hr))) (fun _ h => h)
                    · skip
                      have hset := Lib.hid (heap_setCell_same wr g 0 _ _ (.slice (some ⟨r, o + (k + 1), none⟩) (l.length - (k + 1)) (c - (k + 1))) Hgr.out)
                      have hdr := Lib.hid (hs.drop (k := k + 1) (by omega))
                      have hG1 := grown_setCell (g := g) (World.grownBy.refl wr (some g)) (p := ⟨g, 0, none⟩) (.inl rfl) (.slice (some ⟨r, o + (k + 1), none⟩) (l.length - (k + 1)) (c - (k + 1)))
                      go_wp2_with fail
                      refine (unfold_c X hX64 _).mono ?_
                      rintro e w3 ⟨rfl, hb3⟩
                      go_wp2
                      go_ret2
                      rw [hu2.out]
                      have hnd : (l.drop (k + 1)).length = l.length - (k + 1) := by rw [List.length_drop]
                      refine ⟨rfl, Rd.later ⟨hne, _, _, by rw [hset.out]; simp only [List.setIfInBounds_toArray, List.set_cons_zero, hnd]; rfl, ?_⟩ (Nat.lt_of_lt_of_le hr (by simpa [World.setCell] using hb.size)) hb3, grown_trans (grown_of_below hb _) (grown_trans hG1 (grown_of_below hb3 _))⟩
                      have := hdr.out
                      rw [if_neg hcc, Option.map_some, show (⟨r, o, none⟩ : Addr).add ((k + 1) * Enc.size UInt8) = ⟨r, o + (k + 1), none⟩ from by rw [show Enc.size UInt8 = 1 from rfl, Nat.mul_one]; unfold Addr.add; rw [if_neg (by omega)]] at this
                      exact this.keep (fun p hp => World.cell?_of_block (w := w) (by rw [hp]; exact (hG1.block r (Nat.lt_of_lt_of_le hr hb.size) (fun e => hne (by injection e))).trans (hb.block r hr))) (fun _ h => h)
                  · have g4 : (((l[k].toNat : Nat) : Int) == 0) = false := by rw [beq_eq_false_iff_ne]; omega
                    have hu2 := Lib.hid (numRd_ok (Hu.out.trans (uvR_last hlt hnb.out hz hs1)))
                    clear Hu
                    have a1 := andNot128 l[k]
                    have hm := Nat.mod_eq_of_lt hs1
                    obtain ⟨X, hX⟩ : ∃ X : Nat, X = acc + l[k].toNat % 128 * 2 ^ (7 * k) := ⟨_, rfl⟩
                    have q := or_step (b := l[k].toNat % 128) Hacc.out (by omega) (Nat.mod_lt _ (by decide))
                    have hX64 := or_lt (b := l[k].toNat % 128) Hacc.out (by omega) (Nat.mod_lt _ (by decide))
                    rw [← hX] at q hX64
                    rw [hm] at q hX a1
                    rw [← hX] at hu2
                    have j1 : (k : Int) + 1 ≤ (l.length : Int) := by omega
                    have j2 : (l.length : Int) ≤ (c : Int) := by omega
                    have j3 : (k : Int) + 1 ≤ (c : Int) := by omega
                    clear Hacc hnb hs1 hm hX
                    try clear k9
                    try clear hz
                    try clear hz0
                    by_cases hcc : c = k + 1
                    · obtain rfl := hcc
                      have hset := Lib.hid (heap_setCell_same wr g 0 _ _ (.slice (some ⟨r, o, none⟩) 0 0) Hgr.out)
                      have hdr := Lib.hid (hs.drop (k := k + 1) (by omega))
                      have hG1 := grown_setCell (g := g) (World.grownBy.refl wr (some g)) (p := ⟨g, 0, none⟩) (.inl rfl) (.slice (some ⟨r, o, none⟩) 0 0)
                      go_wp2_with fail
                      refine (unfold_c X hX64 _).mono ?_
                      rintro e w3 ⟨rfl, hb3⟩
                      go_wp2
                      go_ret2
                      rw [hu2.out]
                      have hnd : (l.drop (k + 1)).length = 0 := by rw [List.length_drop]; omega
                      refine ⟨rfl, Rd.later ⟨hne, _, _, by rw [hset.out]; simp only [List.setIfInBounds_toArray, List.set_cons_zero, hnd]; rfl, ?_⟩ (Nat.lt_of_lt_of_le hr (by simpa [World.setCell] using hb.size)) hb3, grown_trans (grown_of_below hb _) (grown_trans hG1 (grown_of_below hb3 _))⟩
                      have := hdr.out
                      simp only [if_true, Nat.sub_self] at this
                      exact this.keep (fun p hp => World.cell?_of_block (w := w) (by rw [hp]; exact (hG1.block r (Nat.lt_of_lt_of_le hr hb.size) (fun e => hne (by injection e))).trans (hb.block r hr))) (fun _ h => h)
                    · skip
                      have hset := Lib.hid (heap_setCell_same wr g 0 _ _ (.slice (some ⟨r, o + (k + 1), none⟩) (l.length - (k + 1)) (c - (k + 1))) Hgr.out)
                      have hdr := Lib.hid (hs.drop (k := k + 1) (by omega))
                      have hG1 := grown_setCell (g := g) (World.grownBy.refl wr (some g)) (p := ⟨g, 0, none⟩) (.inl rfl) (.slice (some ⟨r, o + (k + 1), none⟩) (l.length - (k + 1)) (c - (k + 1)))
                      go_wp2_with fail
                      refine (unfold_c X hX64 _).mono ?_
                      rintro e w3 ⟨rfl, hb3⟩
                      go_wp2
                      go_ret2
                      rw [hu2.out]
                      have hnd : (l.drop (k + 1)).length = l.length - (k + 1) := by rw [List.length_drop]
                      refine ⟨rfl, Rd.later ⟨hne, _, _, by rw [hset.out]; simp only [List.setIfInBounds_toArray, List.set_cons_zero, hnd]; rfl, ?_⟩ (Nat.lt_of_lt_of_le hr (by simpa [World.setCell] using hb.size)) hb3, grown_trans (grown_of_below hb _) (grown_trans hG1 (grown_of_below hb3 _))⟩
                      have := hdr.out
                      rw [if_neg hcc, Option.map_some, show (⟨r, o, none⟩ : Addr).add ((k + 1) * Enc.size UInt8) = ⟨r, o + (k + 1), none⟩ from by rw [show Enc.size UInt8 = 1 from rfl, Nat.mul_one]; unfold Addr.add; rw [if_neg (by omega)]] at this
                      exact this.keep (fun p hp => World.cell?_of_block (w := w) (by rw [hp]; exact (hG1.block r (Nat.lt_of_lt_of_le hr hb.size) (fun e => hne (by injection e))).trans (hb.block r hr))) (fun _ h => h)
              · have g3 : decide (((l[k].toNat : Nat) : Int) < 128) = false := decide_eq_false (by omega)
                exfalso
                omega
          · have t2 : ((k : Int) == 9) = false := by rw [beq_eq_false_iff_ne]; omega
            have hnb := Lib.hid (show ¬ (k = 10 ∨ (k = 9 ∧ 1 < l[k].toNat)) from fun h => by omega)
            by_cases hs1 : l[k].toNat < 128
            · have g3 : decide (((l[k].toNat : Nat) : Int) < 128) = true := decide_eq_true (by omega)
              by_cases hz : l[k].toNat = 0 ∧ 0 < k
              · have g4 : (((l[k].toNat : Nat) : Int) == 0) = true := by rw [beq_iff_eq]; omega
                have g5 : 0 < k := hz.2
                have hu2 := Lib.hid (numRd_bad (Hu.out.trans (uvR_zero hlt hnb.out hz)))
                clear Hu Hacc hnb hz
                try clear k9
                go_wp2_with fail
                refine (rfail_c g r 0 3 l _ (H.out.later hr hb)).mono ?_
                rintro e w3 ⟨rfl, hR, hG⟩
                go_wp2
                go_ret2
                rw [hu2.out]
                exact ⟨rfl, hR, grown_trans (grown_of_below hb _) hG⟩
              · by_cases hz0 : l[k].toNat = 0
                · have g4 : (((l[k].toNat : Nat) : Int) == 0) = true := by rw [beq_iff_eq]; omega
                  have g5 : ¬ 0 < k := fun h => hz ⟨hz0, h⟩
                  have hu2 := Lib.hid (numRd_ok (Hu.out.trans (uvR_last hlt hnb.out hz hs1)))
                  clear Hu
                  have a1 := andNot128 l[k]
                  have hm := Nat.mod_eq_of_lt hs1
                  obtain ⟨X, hX⟩ : ∃ X : Nat, X = acc + l[k].toNat % 128 * 2 ^ (7 * k) := ⟨_, rfl⟩
                  have q := or_step (b := l[k].toNat % 128) Hacc.out (by omega) (Nat.mod_lt _ (by decide))
                  have hX64 := or_lt (b := l[k].toNat % 128) Hacc.out (by omega) (Nat.mod_lt _ (by decide))
                  rw [← hX] at q hX64
                  rw [hm] at q hX a1
                  rw [← hX] at hu2
                  have j1 : (k : Int) + 1 ≤ (l.length : Int) := by omega
                  have j2 : (l.length : Int) ≤ (c : Int) := by omega
                  have j3 : (k : Int) + 1 ≤ (c : Int) := by omega
                  clear Hacc hnb hs1 hm hX
                  try clear k9
                  try clear hz
                  try clear hz0
                  by_cases hcc : c = k + 1
                  · obtain rfl := hcc
                    have hset := Lib.hid (heap_setCell_same wr g 0 _ _ (.slice (some ⟨r, o, none⟩) 0 0) Hgr.out)
                    have hdr := Lib.hid (hs.drop (k := k + 1) (by omega))
                    have hG1 := grown_setCell (g := g) (World.grownBy.refl wr (some g)) (p := ⟨g, 0, none⟩) (.inl rfl) (.slice (some ⟨r, o, none⟩) 0 0)
                    go_wp2_with fail
                    refine (unfold_c X hX64 _).mono ?_
                    rintro e w3 ⟨rfl, hb3⟩
                    go_wp2
                    go_ret2
                    rw [hu2.out]
                    have hnd : (l.drop (k + 1)).length = 0 := by rw [List.length_drop]; omega
                    refine ⟨rfl, Rd.later ⟨hne, _, _, by rw [hset.out]; simp only [List.setIfInBounds_toArray, List.set_cons_zero, hnd]; rfl, ?_⟩ (Nat.lt_of_lt_of_le hr (by simpa [World.setCell] using hb.size)) hb3, grown_trans (grown_of_below hb _) (grown_trans hG1 (grown_of_below hb3 _))⟩
                    have := hdr.out
                    simp only [if_true, Nat.sub_self] at this
                    exact this.keep (fun p hp => World.cell?_of_block (w := w) (by rw [hp]; exact (hG1.block r (Nat.lt_of_lt_of_le hr hb.size) (fun e => hne (by injection e))).trans (hb.block r hr))) (fun _ h => h)
                  · skip
                    have hset := Lib.hid (heap_setCell_same wr g 0 _ _ (.slice (some ⟨r, o + (k + 1), none⟩) (l.length - (k + 1)) (c - (k + 1))) Hgr.out)
                    have hdr := Lib.hid (hs.drop (k := k + 1) (by omega))
                    have hG1 := grown_setCell (g := g) (World.grownBy.refl wr (some g)) (p := ⟨g, 0, none⟩) (.inl rfl) (.slice (some ⟨r, o + (k + 1), none⟩) (l.length - (k + 1)) (c - (k + 1)))
                    go_wp2_with fail
                    refine (unfold_c X hX64 _).mono ?_
                    rintro e w3 ⟨rfl, hb3⟩
                    go_wp2
                    go_ret2
                    rw [hu2.out]
                    have hnd : (l.drop (k + 1)).length = l.length - (k + 1) := by rw [List.length_drop]
                    refine ⟨rfl, Rd.later ⟨hne, _, _, by rw [hset.out]; simp only [List.setIfInBounds_toArray, List.set_cons_zero, hnd]; rfl, ?_⟩ (Nat.lt_of_lt_of_le hr (by simpa [World.setCell] using hb.size)) hb3, grown_trans (grown_of_below hb _) (grown_trans hG1 (grown_of_below hb3 _))⟩
                    have := hdr.out
                    rw [if_neg hcc, Option.map_some, show (⟨r, o, none⟩ : Addr).add ((k + 1) * Enc.size UInt8) = ⟨r, o + (k + 1), none⟩ from by rw [show Enc.size UInt8 = 1 from rfl, Nat.mul_one]; unfold Addr.add; rw [if_neg (by omega)]] at this
                    exact this.keep (fun p hp => World.cell?_of_block (w := w) (by rw [hp]; exact (hG1.block r (Nat.lt_of_lt_of_le hr hb.size) (fun e => hne (by injection e))).trans (hb.block r hr))) (fun _ h => h)
                · have g4 : (((l[k].toNat : Nat) : Int) == 0) = false := by rw [beq_eq_false_iff_ne]; omega
                  have hu2 := Lib.hid (numRd_ok (Hu.out.trans (uvR_last hlt hnb.out hz hs1)))
                  clear Hu
                  have a1 := andNot128 l[k]
                  have hm := Nat.mod_eq_of_lt hs1
                  obtain ⟨X, hX⟩ : ∃ X : Nat, X = acc + l[k].toNat % 128 * 2 ^ (7 * k) := ⟨_, rfl⟩
                  have q := or_step (b := l[k].toNat % 128) Hacc.out (by omega) (Nat.mod_lt _ (by decide))
                  have hX64 := or_lt (b := l[k].toNat % 128) Hacc.out (by omega) (Nat.mod_lt _ (by decide))
                  rw [← hX] at q hX64
                  rw [hm] at q hX a1
                  rw [← hX] at hu2
                  have j1 : (k : Int) + 1 ≤ (l.length : Int) := by omega
                  have j2 : (l.length : Int) ≤ (c : Int) := by omega
                  have j3 : (k : Int) + 1 ≤ (c : Int) := by omega
                  clear Hacc hnb hs1 hm hX
                  try clear k9
                  try clear hz
                  try clear hz0
                  by_cases hcc : c = k + 1
                  · obtain rfl := hcc
                    have hset := Lib.hid (heap_setCell_same wr g 0 _ _ (.slice (some ⟨r, o, none⟩) 0 0) Hgr.out)
                    have hdr := Lib.hid (hs.drop (k := k + 1) (by omega))
                    have hG1 := grown_setCell (g := g) (World.grownBy.refl wr (some g)) (p := ⟨g, 0, none⟩) (.inl rfl) (.slice (some ⟨r, o, none⟩) 0 0)
                    go_wp2_with fail
                    refine (unfold_c X hX64 _).mono ?_
                    rintro e w3 ⟨rfl, hb3⟩
                    go_wp2
                    go_ret2
                    rw [hu2.out]
                    have hnd : (l.drop (k + 1)).length = 0 := by rw [List.length_drop]; omega
                    refine ⟨rfl, Rd.later ⟨hne, _, _, by rw [hset.out]; simp only [List.setIfInBounds_toArray, List.set_cons_zero, hnd]; rfl, ?_⟩ (Nat.lt_of_lt_of_le hr (by simpa [World.setCell] using hb.size)) hb3, grown_trans (grown_of_below hb _) (grown_trans hG1 (grown_of_below hb3 _))⟩
                    have := hdr.out
                    simp only [if_true, Nat.sub_self] at this
                    exact this.keep (fun p hp => World.cell?_of_block (w := w) (by rw [hp]; exact (hG1.block r (Nat.lt_of_lt_of_le hr hb.size) (fun e => hne (by injection e))).trans (hb.block r hr))) (fun _ h => h)
                  · skip
                    have hset := Lib.hid (heap_setCell_same wr g 0 _ _ (.slice (some ⟨r, o + (k + 1), none⟩) (l.length - (k + 1)) (c - (k + 1))) Hgr.out)
                    have hdr := Lib.hid (hs.drop (k := k + 1) (by omega))
                    have hG1 := grown_setCell (g := g) (World.grownBy.refl wr (some g)) (p := ⟨g, 0, none⟩) (.inl rfl) (.slice (some ⟨r, o + (k + 1), none⟩) (l.length - (k + 1)) (c - (k + 1)))
                    go_wp2_with fail
                    refine (unfold_c X hX64 _).mono ?_
                    rintro e w3 ⟨rfl, hb3⟩
                    go_wp2
                    go_ret2
                    rw [hu2.out]
                    have hnd : (l.drop (k + 1)).length = l.length - (k + 1) := by rw [List.length_drop]
                    refine ⟨rfl, Rd.later ⟨hne, _, _, by rw [hset.out]; simp only [List.setIfInBounds_toArray, List.set_cons_zero, hnd]; rfl, ?_⟩ (Nat.lt_of_lt_of_le hr (by simpa [World.setCell] using hb.size)) hb3, grown_trans (grown_of_below hb _) (grown_trans hG1 (grown_of_below hb3 _))⟩
                    have := hdr.out
                    rw [if_neg hcc, Option.map_some, show (⟨r, o, none⟩ : Addr).add ((k + 1) * Enc.size UInt8) = ⟨r, o + (k + 1), none⟩ from by rw [show Enc.size UInt8 = 1 from rfl, Nat.mul_one]; unfold Addr.add; rw [if_neg (by omega)]] at this
                    exact this.keep (fun p hp => World.cell?_of_block (w := w) (by rw [hp]; exact (hG1.block r (Nat.lt_of_lt_of_le hr hb.size) (fun e => hne (by injection e))).trans (hb.block r hr))) (fun _ h => h)
            · have g3 : decide (((l[k].toNat : Nat) : Int) < 128) = false := decide_eq_false (by omega)
              have hu2 := Lib.hid (Hu.out.trans (uvR_more hlt hnb.out hs1))
              have a1 := andNot128 l[k]
              obtain ⟨X, hX⟩ : ∃ X : Nat, X = acc + l[k].toNat % 128 * 2 ^ (7 * k) := ⟨_, rfl⟩
              have q := or_step (b := l[k].toNat % 128) Hacc.out (by omega) (Nat.mod_lt _ (by decide))
              have hac := Lib.hid (acc_step (b := l[k].toNat % 128) Hacc.out (Nat.mod_lt _ (by decide)))
              rw [← hX] at q hac hu2
              push_cast at q
              clear Hacc hnb hs1 hX
              try clear k9
              go_wp2_with fail
              go_roundw
              case rel => exact ⟨k + 1, X, by go_num, by first | rfl | rw [q], by omega, by omega, hac.out, hu2.out, hb⟩
              case measure => simp [intOf] <;> omega
      · obtain rfl : k = l.length := by omega
        have hu2 := Lib.hid (numRd_bad (Hu.out.trans (by rw [List.drop_length, uvR])))
        clear Hu Hacc
        go_wp2_with fail
        refine (rfail_c g r 0 4 l _ (H.out.later hr hb)).mono ?_
        rintro e w3 ⟨rfl, hR, hG⟩
        go_wp2
        go_ret2
        rw [hu2.out]
        exact ⟨rfl, hR, grown_trans (grown_of_below hb _) hG⟩
  · have g1 : (err != 0) = true := by simpa using he
    have hu2 := Lib.hid (numRd_err he l)
    clear he
    go_enter Tryz.func171, Tryz.ntmps171
    go_wp2_with fail
    go_quiet (fail)
    go_wp2
    go_ret2
    rw [hu2.out]
    exact ⟨rfl, H.out.later hr (below_drewN (Below.refl _ _) _), grown_of_below (below_drewN (Below.refl _ _) _) _⟩
end Go.Proofs.YtdkkblhfjblpkaaGreat

/- pack.Reader: Range, Text, Done, New; order.small, name; pack.Reader: Text, New; order.name -/
namespace Go.Proofs.YtdkkblhfjblpkaaGreat
open Go.RowKit
theorem conv_bytes {w : World} {S : Nat → Prop} {c : Nat} {A : Option Addr} {l : List UInt8} (h : SlS w S A c l) : (convert 25 9 (.slice A l.length c)).run Tryz.prog w = .ok (.string ⟨l.toArray⟩) w := by
  by_cases hl : l = []
  · subst hl
    rw [run_convert_bytes_string w _ _ _ _ _ c Tryz.underlying25 Tryz.underlying5 Tryz.underlying9]
    cases A <;> simp [Conv.bytesToString, loadCells]
    all_goals rfl
  · obtain ⟨b, o, rfl, -, hc⟩ := h.2.2.1 (List.length_pos_iff.2 hl)
    refine run_convert_bytes_back w _ _ _ ⟨b, o, none⟩ c l Tryz.underlying25 Tryz.underlying5 Tryz.underlying9 fun j hj => ?_
    have := hc j (.int .u8 l[j].toNat) (by rw [flat_byte, List.getElem?_eq_getElem hj]; rfl)
    rw [show (⟨b, o, none⟩ : Addr).add j = ⟨b, o + j, none⟩ from by unfold Addr.add; split <;> simp_all]
    exact this
theorem uvR_len : ∀ (l : List UInt8) (i acc : Nat) {m : Nat} {t : List UInt8}, uvR i acc l = .ok (m, t) → t.length < l.length
  | [], _, _, _, _, h => by simp [uvR] at h
  | b :: r, i, acc, m, t, h => by
    rw [uvR] at h
    split at h
    · simp at h
    · split at h
      · simp at h
      · split at h
        · simp only [Except.ok.injEq, Prod.mk.injEq] at h
          rw [← h.2]; simp
        · have := uvR_len r _ _ h
          simp; omega
theorem uvR_err : ∀ (l : List UInt8) (i acc : Nat) {e : Int}, uvR i acc l = .error e → e = 3 ∨ e = 4
  | [], _, _, _, h => by simp [uvR] at h; exact .inr h.symm
  | b :: r, i, acc, e, h => by
    rw [uvR] at h
    split at h
    · simp only [Except.error.injEq] at h
      split at h <;> omega
    · split at h
      · simp only [Except.error.injEq] at h; omega
      · split at h
        · simp at h
        · exact uvR_err r _ _ h
/-- what is left is no more than there was; where no error is told there is none -/
theorem numRd_left (err : Int) (l : List UInt8) : (numRd err l).2.2.length ≤ l.length ∧ (numRd err l).2.1 = (numRd err l).1.2 := by
  unfold numRd
  split
  · exact ⟨Nat.le_refl _, rfl⟩
  · split
    · exact ⟨by simp, rfl⟩
    · rename_i m t h
      exact ⟨Nat.le_of_lt (uvR_len l 0 0 h), rfl⟩
/-- the next number, if it is one of some -/
def rangeRd (lo hi err : Int) (l : List UInt8) : (Int × Int) × (Int × List UInt8) :=
  if (numRd err l).1.2 ≠ 0 then ((0, (numRd err l).1.2), (numRd err l).2)
  else if (numRd err l).1.1 < lo ∨ hi < (numRd err l).1.1 then ((0, 3), (3, []))
  else (((numRd err l).1.1, 0), (numRd err l).2)
theorem rangeRd_left (lo hi err : Int) (l : List UInt8) : (rangeRd lo hi err l).2.2.length ≤ l.length ∧ (rangeRd lo hi err l).2.1 = (rangeRd lo hi err l).1.2 := by
  have h := numRd_left err l
  unfold rangeRd
  split
  · exact h
  · rename_i h0
    split
    · exact ⟨by simp, rfl⟩
    · exact ⟨h.1, by rw [h.2]; simpa using h0⟩
theorem rangeRd_in {lo hi err : Int} {l : List UInt8} (h : (rangeRd lo hi err l).1.2 = 0) : lo ≤ (rangeRd lo hi err l).1.1 ∧ (rangeRd lo hi err l).1.1 ≤ hi := by
  unfold rangeRd at h ⊢
  split at h
  · rename_i h0; exact absurd h h0
  · rename_i h0
    rw [if_neg h0]
    split at h
    · simp at h
    · rename_i h1
      rw [if_neg h1]
      exact ⟨by simp only; omega, by simp only; omega⟩
set_option maxRecDepth 100000 in
set_option maxHeartbeats 2000000 in
theorem range_c (g r : Nat) (lo hi err : Int) (l : List UInt8) (w : World) (h : Rd w g r err l) (hr : r < w.heap.size) (hn : l.length ≤ 65536) :
    Calls Tryz.prog 124 #[.pointer (some ⟨g, 0, none⟩), i64 lo, i64 hi] w fun e w' => e = .returned (.tuple #[i64 (rangeRd lo hi err l).1.1, i64 (rangeRd lo hi err l).1.2]) ∧ Rd w' g r (rangeRd lo hi err l).2.1 (rangeRd lo hi err l).2.2 ∧ w.grownBy w' (some g) := by
  have hN := Lib.hid (rnum_c g r err l w h hr hn)
  have HR : Hid (∀ q, q = numRd err l → rangeRd lo hi err l = if q.1.2 ≠ 0 then ((0, q.1.2), q.2) else if q.1.1 < lo ∨ hi < q.1.1 then ((0, 3), (3, [])) else ((q.1.1, 0), q.2)) := Lib.hid fun q hq => by subst hq; rfl
  have hN2 := HR.out _ rfl
  have HN2 := Lib.hid hN2
  clear HR hN2
  generalize rangeRd lo hi err l = Z at HN2 ⊢
  generalize numRd err l = q at hN HN2
  obtain ⟨⟨n, e⟩, x, t⟩ := q
  go_enter Tryz.func124, Tryz.ntmps124
  go_wp2_with fail
  refine hN.out.mono ?_
  rintro e1 w1 ⟨rfl, hR, hG⟩
  have HR := Lib.hid hR
  have HG := Lib.hid hG
  clear hR hG
  by_cases he : e = 0
  · subst he
    by_cases h1 : n < lo
    · have hZ := Lib.hid (show Z = ((0, 3), (3, [])) by rw [HN2.out, if_neg (by simp), if_pos (.inl h1)])
      have g1 : decide (n < lo) = true := decide_eq_true h1
      clear h1 HN2 hN
      go_wp2_with fail
      refine (rfail_c g r x 3 t _ HR.out).mono ?_
      rintro e w3 ⟨rfl, hR, hG⟩
      go_wp2
      go_ret2
      rw [hZ.out]
      exact ⟨rfl, hR, grown_trans HG.out hG⟩
    · by_cases h2 : hi < n
      · have hZ := Lib.hid (show Z = ((0, 3), (3, [])) by rw [HN2.out, if_neg (by simp), if_pos (.inr h2)])
        have g1 : decide (n < lo) = false := decide_eq_false h1
        have g2 : decide (hi < n) = true := decide_eq_true h2
        clear h1 h2 HN2 hN
        go_wp2_with fail
        refine (rfail_c g r x 3 t _ HR.out).mono ?_
        rintro e w3 ⟨rfl, hR, hG⟩
        go_wp2
        go_ret2
        rw [hZ.out]
        exact ⟨rfl, hR, grown_trans HG.out hG⟩
      · have hZ := Lib.hid (show Z = ((n, 0), (x, t)) by rw [HN2.out, if_neg (by simp), if_neg (by omega)])
        have g1 : decide (n < lo) = false := decide_eq_false h1
        have g2 : decide (hi < n) = false := decide_eq_false h2
        clear h1 h2 HN2 hN
        go_wp2
        go_ret2
        rw [hZ.out]
        exact ⟨rfl, HR.out, HG.out⟩
  · have hZ := Lib.hid (show Z = ((0, e), (x, t)) by rw [HN2.out, if_pos he])
    have g1 : (e != 0) = true := by simpa using he
    clear he HN2 hN
    go_wp2
    go_ret2
    rw [hZ.out]
    exact ⟨rfl, HR.out, HG.out⟩
set_option maxRecDepth 100000 in
set_option maxHeartbeats 1000000 in
theorem small_c (g r : Nat) (most err : Int) (l : List UInt8) (w : World) (h : Rd w g r err l) (hr : r < w.heap.size) (hn : l.length ≤ 65536) :
    Calls Tryz.prog 173 #[.pointer (some ⟨g, 0, none⟩), i64 most] w fun e w' => e = .returned (i64 (rangeRd 0 most err l).1.1) ∧ Rd w' g r (rangeRd 0 most err l).2.1 (rangeRd 0 most err l).2.2 ∧ w.grownBy w' (some g) := by
  have hN := Lib.hid (range_c g r 0 most err l w h hr hn)
  generalize rangeRd 0 most err l = q at hN ⊢
  obtain ⟨⟨n, e⟩, x, t⟩ := q
  go_enter Tryz.func173, Tryz.ntmps173
  go_wp2_with fail
  refine hN.out.mono ?_
  rintro e1 w1 ⟨rfl, hR, hG⟩
  have HR := Lib.hid hR
  have HG := Lib.hid hG
  clear hR hG hN
  go_wp2
  go_ret
  exact ⟨rfl, HR.out, HG.out⟩
/-- is all read? -/
def doneRd (err : Int) (l : List UInt8) : Int × (Int × List UInt8) := if err ≠ 0 then (err, (err, l)) else if l ≠ [] then (3, (3, [])) else (0, (0, []))
set_option maxRecDepth 100000 in
set_option maxHeartbeats 1000000 in
theorem done_c (g r : Nat) (err : Int) (l : List UInt8) (w : World) (h : Rd w g r err l) (_hr : r < w.heap.size) (_hn : l.length ≤ 65536) :
    Calls Tryz.prog 127 #[.pointer (some ⟨g, 0, none⟩)] w fun e w' => e = .returned (i64 (doneRd err l).1) ∧ Rd w' g r (doneRd err l).2.1 (doneRd err l).2.2 ∧ w.grownBy w' (some g) := by
  have H := Lib.hid h
  obtain ⟨hne, A, c, hg, hs⟩ := h
  have c0 := cell_of_row w g 0 _ _ (0, 0) hg
  have c1 := cell_of_row w g 1 _ _ (0, 0) hg
  simp only [List.getElem?_toArray, List.getElem?_cons_zero, List.getElem?_cons_succ] at c0 c1
  clear hg hs hne
  by_cases he : err = 0
  · subst he
    by_cases hl : l = []
    · subst hl
      go_enter Tryz.func127, Tryz.ntmps127
      go_wp2
      go_ret
      exact ⟨rfl, H.out, World.grownBy.refl _ _⟩
    · have hZ := Lib.hid (show doneRd 0 l = (3, (3, [])) by unfold doneRd; rw [if_neg (by simp), if_pos hl])
      have g1 : 0 < l.length := List.length_pos_iff.2 hl
      clear hl
      go_enter Tryz.func127, Tryz.ntmps127
      go_wp2_with fail
      refine (rfail_c g r 0 3 l _ H.out).mono ?_
      rintro e w3 ⟨rfl, hR, hG⟩
      go_wp2
      go_ret
      rw [hZ.out]
      exact ⟨rfl, hR, hG⟩
  · have hZ := Lib.hid (show doneRd err l = (err, (err, l)) by unfold doneRd; rw [if_pos he])
    have g1 : (err != 0) = true := by simpa using he
    clear he
    go_enter Tryz.func127, Tryz.ntmps127
    go_wp2
    go_ret
    rw [hZ.out]
    exact ⟨rfl, H.out, World.grownBy.refl _ _⟩
/-- the next text -/
def textRd (most err : Int) (l : List UInt8) : (ByteArray × Int) × (Int × List UInt8) :=
  if (rangeRd 0 most err l).1.2 ≠ 0 then ((⟨#[]⟩, (rangeRd 0 most err l).1.2), (rangeRd 0 most err l).2)
  else if ((rangeRd 0 most err l).2.2.length : Int) < (rangeRd 0 most err l).1.1 then ((⟨#[]⟩, 4), (4, []))
  else ((⟨((rangeRd 0 most err l).2.2.take (rangeRd 0 most err l).1.1.toNat).toArray⟩, 0), (0, (rangeRd 0 most err l).2.2.drop (rangeRd 0 most err l).1.1.toNat))
theorem textRd_left (most err : Int) (l : List UInt8) : (textRd most err l).2.2.length ≤ l.length ∧ (textRd most err l).2.1 = (textRd most err l).1.2 ∧ (textRd most err l).1.1.size ≤ l.length := by
  have h := rangeRd_left 0 most err l
  unfold textRd
  split
  · exact ⟨h.1, h.2, Nat.zero_le _⟩
  · split
    · exact ⟨by simp, rfl, Nat.zero_le _⟩
    · refine ⟨by simp only [List.length_drop]; omega, rfl, ?_⟩
      show ((rangeRd 0 most err l).2.2.take (rangeRd 0 most err l).1.1.toNat).toArray.size ≤ l.length
      simp only [List.size_toArray, List.length_take]; omega
set_option maxRecDepth 100000 in
set_option maxHeartbeats 4000000 in
theorem rtext_c (g r : Nat) (most err : Int) (l : List UInt8) (w : World) (h : Rd w g r err l) (hr : r < w.heap.size) (hn : l.length ≤ 65536) :
    Calls Tryz.prog 125 #[.pointer (some ⟨g, 0, none⟩), i64 most] w fun e w' => e = .returned (.tuple #[.string (textRd most err l).1.1, i64 (textRd most err l).1.2]) ∧ Rd w' g r (textRd most err l).2.1 (textRd most err l).2.2 ∧ w.grownBy w' (some g) := by
  have hN := Lib.hid (range_c g r 0 most err l w h hr hn)
  have hl := rangeRd_left 0 most err l
  have hi := rangeRd_in (lo := 0) (hi := most) (err := err) (l := l)
  have HN2 := Lib.hid (show textRd most err l = _ from rfl)
  unfold textRd at HN2
  have HN2 := Lib.hid (show ∀ q, q = rangeRd 0 most err l → textRd most err l = if q.1.2 ≠ 0 then ((⟨#[]⟩, q.1.2), q.2) else if (q.2.2.length : Int) < q.1.1 then ((⟨#[]⟩, 4), (4, [])) else ((⟨(q.2.2.take q.1.1.toNat).toArray⟩, 0), (0, q.2.2.drop q.1.1.toNat)) from fun q hq => by subst hq; rfl)
  have HN2 := Lib.hid (HN2.out _ rfl)
  generalize textRd most err l = Z at HN2 ⊢
  generalize rangeRd 0 most err l = q at hN HN2 hl hi
  obtain ⟨⟨n, e⟩, x, t⟩ := q
  obtain ⟨hl1, hl2⟩ := hl
  simp only at hl1 hl2 hi
  subst hl2
  go_enter Tryz.func125, Tryz.ntmps125
  go_wp2_with fail
  refine hN.out.mono ?_
  rintro e1 w1 ⟨rfl, hR, hG⟩
  have HR := Lib.hid hR
  have HG := Lib.hid hG
  clear hN
  have hr1 := Nat.lt_of_lt_of_le hr hG.size
  clear hG
  by_cases he : x = 0
  · subst he
    obtain ⟨hn0, hn1⟩ := hi rfl
    obtain ⟨m, rfl⟩ := Int.eq_ofNat_of_zero_le hn0
    clear hi hn0
    obtain ⟨hne, A, c, hg, hs⟩ := hR
    have c0 := cell_of_row w1 g 0 _ _ (0, 0) hg
    simp only [List.getElem?_toArray, List.getElem?_cons_zero] at c0
    have f0 := frozen_of_row w1 g 0 _ _ hg
    have hlc : t.length ≤ c := hs.1
    have Hg := Lib.hid hg
    have Hs := Lib.hid hs
    clear hg hs
    by_cases hm : t.length < m
    · have hZ := Lib.hid (show Z = ((⟨#[]⟩, 4), (4, [])) by rw [HN2.out, if_neg (by simp), if_pos (by omega)])
      have g1 : decide ((t.length : Int) < (m : Int)) = true := decide_eq_true (by omega)
      clear HN2
      go_wp2_with fail
      refine (rfail_c g r 0 4 t _ HR.out).mono ?_
      rintro e w3 ⟨rfl, hR, hG⟩
      go_wp2
      go_ret2
      rw [hZ.out]
      exact ⟨rfl, hR, grown_trans HG.out hG⟩
    · have hZ := Lib.hid (show Z = ((⟨(t.take m).toArray⟩, 0), (0, t.drop m)) by rw [HN2.out, if_neg (by simp), if_neg (by omega)]; rfl)
      have g1 : decide ((t.length : Int) < (m : Int)) = false := decide_eq_false (by omega)
      have hcv := conv_bytes (Hs.out.take m)
      rw [List.length_take, Nat.min_eq_left (by omega)] at hcv
      have j0 : (0 : Int) ≤ (m : Int) := by omega
      have j1 : (m : Int) ≤ (t.length : Int) := by omega
      have j2 : (t.length : Int) ≤ (c : Int) := by omega
      have j3 : (m : Int) ≤ (c : Int) := by omega
      have hdr := Lib.hid (Hs.out.drop (k := m) (by omega))
      have Hcv := Lib.hid hcv
      clear HN2
      by_cases hcm : c = m
      · obtain rfl := hcm
        have hset := Lib.hid (heap_setCell_same w1 g 0 _ _ (.slice A 0 0) Hg.out)
        have hG1 := grown_setCell (g := g) (World.grownBy.refl w1 (some g)) (p := ⟨g, 0, none⟩) (.inl rfl) (.slice A 0 0)
        have hnd : (t.drop c).length = 0 := by rw [List.length_drop]; omega
        go_wp2
        go_ret2
        rw [hZ.out]
        refine ⟨rfl, ⟨hne, _, _, by rw [hset.out]; simp only [List.setIfInBounds_toArray, List.set_cons_zero, hnd]; rfl, ?_⟩, grown_trans HG.out hG1⟩
        have := hdr.out
        simp only [if_true, Nat.sub_self] at this
        exact this.keep (fun p hp => World.cell?_of_block (w := w1) (by rw [hp]; exact hG1.block r hr1 (fun e => hne (by injection e)))) (fun _ h => h)
      · have hset := Lib.hid (heap_setCell_same w1 g 0 _ _ (.slice (Option.map (fun x : Addr => x.add m) A) (t.length - m) (c - m)) Hg.out)
        have hG1 := grown_setCell (g := g) (World.grownBy.refl w1 (some g)) (p := ⟨g, 0, none⟩) (.inl rfl) (.slice (Option.map (fun x : Addr => x.add m) A) (t.length - m) (c - m))
        have hnd : (t.drop m).length = t.length - m := List.length_drop ..
        go_wp2
        go_ret2
        rw [hZ.out]
        refine ⟨rfl, ⟨hne, _, _, by rw [hset.out]; simp only [List.setIfInBounds_toArray, List.set_cons_zero, hnd]; rfl, ?_⟩, grown_trans HG.out hG1⟩
        have := hdr.out
        rw [if_neg hcm, show Enc.size UInt8 = 1 from rfl, Nat.mul_one] at this
        exact this.keep (fun p hp => World.cell?_of_block (w := w1) (by rw [hp]; exact hG1.block r hr1 (fun e => hne (by injection e)))) (fun _ h => h)
  · have hZ := Lib.hid (show Z = ((⟨#[]⟩, x), (x, t)) by rw [HN2.out, if_pos he])
    have g1 : (x != 0) = true := by simpa using he
    clear he HN2 hi hR
    go_wp2
    go_ret2
    rw [hZ.out]
    exact ⟨rfl, HR.out, HG.out⟩
set_option maxRecDepth 100000 in
set_option maxHeartbeats 1000000 in
theorem name_c (g r : Nat) (err : Int) (l : List UInt8) (w : World) (h : Rd w g r err l) (hr : r < w.heap.size) (hn : l.length ≤ 65536) :
    Calls Tryz.prog 174 #[.pointer (some ⟨g, 0, none⟩)] w fun e w' => e = .returned (.string (textRd 8 err l).1.1) ∧ Rd w' g r (textRd 8 err l).2.1 (textRd 8 err l).2.2 ∧ w.grownBy w' (some g) := by
  have hN := Lib.hid (rtext_c g r 8 err l w h hr hn)
  generalize textRd 8 err l = q at hN ⊢
  obtain ⟨⟨n, e⟩, x, t⟩ := q
  go_enter Tryz.func174, Tryz.ntmps174
  go_wp2_with fail
  refine hN.out.mono ?_
  rintro e1 w1 ⟨rfl, hR, hG⟩
  have HR := Lib.hid hR
  have HG := Lib.hid hG
  clear hR hG hN
  go_wp2
  go_ret
  exact ⟨rfl, HR.out, HG.out⟩
set_option maxRecDepth 100000 in
set_option maxHeartbeats 4000000 in
theorem rnew_c (A : Option Addr) (c : Nat) (l : List UInt8) (w : World) (h : Sl w w.heap.size A c l) (hn : l.length ≤ 65536) :
    Calls Tryz.prog 123 #[.slice A l.length c] w fun e w' => e = .returned (.pointer (some ⟨w.heap.size + 1, 0, none⟩)) ∧ Rd w' (w.heap.size + 1) w.heap.size 0 l ∧ w'.heap.size = w.heap.size + 2 ∧ Below w.heap.size w w' := by
  obtain ⟨i, hi, hz, hz1, hz2⟩ := info_parts inf_byte
  have hmk := run_makeSlice (P := Tryz.prog) (w := w) 25 5 i (.int .u8 0) Tryz.underlying25 hi hz .i64 .i64 l.length l.length (by omega) (Int.le_refl _) (by rw [Int.toNat_natCast, hz1]; show l.length * 1 ≤ _; omega) (by rw [hz2]; omega) (by omega)
  have hsz := size_madeCells (Value.int IntKind.u8 0).cells (((l.length : Int)).toNat * i.size)
  simp only [Int.toNat_natCast, hz1, show Enc.size UInt8 = 1 from rfl, Nat.mul_one] at hmk hsz
  generalize madeCells (Value.int IntKind.u8 0).cells l.length = Z at hmk hsz
  clear hi hz hz1 hz2
  have hb1 := ((Below.refl w.heap.size w).alloc (Nat.le_refl _) (.cells Z 5)).alloc (by simp) (.cells #[.slice (some ⟨w.heap.size, 0, none⟩) l.length l.length, i64 0] 239)
  have hg0 := heap_alloc2_old w (.cells Z 5) (.cells #[.slice (some ⟨w.heap.size, 0, none⟩) l.length l.length, i64 0] 239)
  have hg1 := heap_alloc2_new w (.cells Z 5) (.cells #[.slice (some ⟨w.heap.size, 0, none⟩) l.length l.length, i64 0] 239)
  have hs2 := h.later hb1
  have hsz2 : ((w.alloc (.cells Z 5)).alloc (.cells #[.slice (some ⟨w.heap.size, 0, none⟩) l.length l.length, i64 0] 239)).heap.size = w.heap.size + 2 := by simp
  have f0 := frozen_of_row _ (w.heap.size + 1) 0 _ _ hg1
  have c0 := cell_of_row _ (w.heap.size + 1) 0 _ _ (0, 0) hg1
  simp only [List.getElem?_toArray, List.getElem?_cons_zero] at c0
  have hcp : ∀ ty, (Builtin.copy_ #[25, 25] ty #[.slice (some ⟨w.heap.size, 0, none⟩) l.length l.length, .slice A l.length c]).run Tryz.prog ((w.alloc (.cells Z 5)).alloc (.cells #[.slice (some ⟨w.heap.size, 0, none⟩) l.length l.length, i64 0] 239)) =
      .ok (goInt l.length) (((w.alloc (.cells Z 5)).alloc (.cells #[.slice (some ⟨w.heap.size, 0, none⟩) l.length l.length, i64 0] 239)).setRow w.heap.size (l.map fun b => Value.int .u8 b.toNat).toArray) := fun ty => by
    by_cases hl : l = []
    · subst hl
      have hz0 : Z = #[] := Array.eq_empty_of_size_eq_zero (by simpa using hsz)
      subst hz0
      rw [run_copy_none _ _ _ ty 5 _ _ _ _ _ _ Tryz.underlying25 (by kernel_rfl) (by rfl), List.map_nil, setRow_self _ _ _ _ _ hg0]
      rfl
    · obtain ⟨b, o, rfl, -, hc⟩ := hs2.2.2.1 (List.length_pos_iff.2 hl)
      rw [run_copy_row _ _ _ _ ty 5 w.heap.size 0 l.length l.length ⟨b, o, none⟩ l.length c Z 5 (l.map fun b => Value.int .u8 b.toNat) Tryz.underlying25 (by kernel_rfl) hg0 (by simp) (fun j v hj => by
        rw [show (⟨b, o, none⟩ : Addr).add j = ⟨b, o + j, none⟩ from by unfold Addr.add; split <;> simp_all]
        exact hc j v (by rw [flat_byte, ← List.getElem?_map]; exact hj)) (by simp [hsz]) (by simp only [List.mem_map]; rintro v ⟨b, _, rfl⟩; rfl)]
      rw [List.length_map, List.take_zero, List.nil_append, Nat.zero_add, List.drop_eq_nil_of_le (by rw [Array.length_toList, hsz]; exact Nat.le_refl _), List.append_nil]
  have Hcp := Lib.hid hcp
  have Hg0 := Lib.hid hg0
  have Hg1 := Lib.hid hg1
  have Hb1 := Lib.hid hb1
  have Hsz2 := Lib.hid hsz2
  clear hg0 hg1 hb1 hs2 hsz2 h hsz
  go_enter Tryz.func123, Tryz.ntmps123
  go_wp2
  go_ret
  refine ⟨rfl, ⟨by omega, some ⟨w.heap.size, 0, none⟩, l.length, ?_, ?_⟩, ?_, ?_⟩
  · rw [setRow_other _ _ _ _ (by omega), Hg1.out]
  · refine ⟨Nat.le_refl _, by simp only [maxLen]; omega, fun _ => ⟨w.heap.size, 0, rfl, rfl, fun j u hu => ?_⟩, fun _ _ => trivial⟩
    rw [Nat.zero_add, cell_setRow_same _ _ _ _ _ _ _ Hg0.out]
    rw [flat_byte] at hu
    simpa using hu
  · rw [setRow_size]; exact Hsz2.out
  · exact Hb1.out.trans ⟨rfl, rfl, rfl, by simp, fun k hk => setRow_other _ _ _ _ (by omega)⟩
end Go.Proofs.YtdkkblhfjblpkaaGreat

/- what order.Read reads -/
namespace Go.Proofs.YtdkkblhfjblpkaaGreat
open Go.RowKit
/-- a reader's state: its error, what is left -/
abbrev St := Int × List UInt8
abbrev smR (most : Int) (s : St) : (Int × Int) × St := rangeRd 0 most s.1 s.2
abbrev txR (most : Int) (s : St) : (ByteArray × Int) × St := textRd most s.1 s.2
abbrev nuR (s : St) : (Int × Int) × St := numRd s.1 s.2
def legsR : Nat → St → List Leg × St
  | 0, s => ([], s)
  | n + 1, s => ((⟨(txR 8 s).1.1, (nuR (txR 8 s).2).1.1⟩ : Leg) :: (legsR n (nuR (txR 8 s).2).2).1, (legsR n (nuR (txR 8 s).2).2).2)
def s1 (l : List UInt8) : St := (smR 9 (0, l)).2
def s2 (l : List UInt8) : St := (smR 999 (s1 l)).2
def s3 (l : List UInt8) : St := (smR 7 (s2 l)).2
def s4 (l : List UInt8) : St := (txR 8 (s3 l)).2
def s5 (l : List UInt8) : St := (txR 8 (s4 l)).2
def s6 (l : List UInt8) : St := (nuR (s5 l)).2
def s7 (l : List UInt8) : St := (smR 6 (s6 l)).2
def nLegs (l : List UInt8) : Nat := (smR 6 (s6 l)).1.1.toNat
def s8 (l : List UInt8) : St := (legsR (nLegs l) (s7 l)).2
def s9 (l : List UInt8) : St := (smR 1000 (s8 l)).2
def s10 (l : List UInt8) : St := (smR 9999 (s9 l)).2
def s11 (l : List UInt8) : St := (txR 20 (s10 l)).2
/-- the order that is read, whether it may be or not -/
def rawO (l : List UInt8) : Od := ⟨(smR 9 (0, l)).1.1, (smR 999 (s1 l)).1.1, (smR 7 (s2 l)).1.1, (txR 8 (s3 l)).1.1, (txR 8 (s4 l)).1.1, (nuR (s5 l)).1.1, none, 0, (legsR (nLegs l) (s7 l)).1, (smR 1000 (s8 l)).1.1, (smR 9999 (s9 l)).1.1, (txR 20 (s10 l)).1.1⟩
def readOk (l : List UInt8) : Bool := decide ((doneRd (s11 l).1 (s11 l).2).1 = 0) && rightB (rawO l)
/-- the error that order.Read tells -/
def readE (l : List UInt8) : Int := if readOk l then 0 else 3
/-- order.Read -/
def readO (l : List UInt8) : Od := if readOk l then rawO l else od0
theorem smR_len (m : Int) (s : St) : (smR m s).2.2.length ≤ s.2.length := (rangeRd_left 0 m s.1 s.2).1
theorem txR_len (m : Int) (s : St) : (txR m s).2.2.length ≤ s.2.length := (textRd_left m s.1 s.2).1
theorem txR_size (m : Int) (s : St) : (txR m s).1.1.size ≤ s.2.length := (textRd_left m s.1 s.2).2.2
theorem nuR_len (s : St) : (nuR s).2.2.length ≤ s.2.length := (numRd_left s.1 s.2).1
/-- a number of some is one of them, or nought -/
theorem smR_in {m : Int} (h0 : 0 ≤ m) (s : St) : 0 ≤ (smR m s).1.1 ∧ (smR m s).1.1 ≤ m := by
  by_cases h : (rangeRd 0 m s.1 s.2).1.2 = 0
  · exact rangeRd_in h
  · unfold smR rangeRd at *
    split
    · exact ⟨by simp, h0⟩
    · split
      · exact ⟨by simp, h0⟩
      · rename_i h1 h2
        rw [if_neg h1, if_neg h2] at h
        exact absurd rfl h
theorem legsR_len : ∀ (n : Nat) (s : St), (legsR n s).2.2.length ≤ s.2.length ∧ (legsR n s).1.length = n ∧ ∀ y ∈ (legsR n s).1, y.acct.size ≤ s.2.length
  | 0, s => ⟨Nat.le_refl _, rfl, by simp [legsR]⟩
  | n + 1, s => by
    obtain ⟨h1, h2, h3⟩ := legsR_len n (nuR (txR 8 s).2).2
    have a := txR_len 8 s
    have b := nuR_len (txR 8 s).2
    refine ⟨by simp only [legsR]; omega, by simp only [legsR, List.length_cons, h2], fun y hy => ?_⟩
    simp only [legsR, List.mem_cons] at hy
    rcases hy with rfl | hy
    · exact txR_size 8 s
    · have := h3 y hy; omega
theorem legsR_step {n k : Nat} {s0 S : St} {L : List Leg} {a1 : (ByteArray × Int) × St} {a2 : (Int × Int) × St} (hk : k < n) (h : legsR n s0 = (L ++ (legsR (n - k) S).1, (legsR (n - k) S).2)) (h1 : textRd 8 S.1 S.2 = a1) (h2 : numRd a1.2.1 a1.2.2 = a2) :
    legsR n s0 = ((L ++ [(⟨a1.1.1, a2.1.1⟩ : Leg)]) ++ (legsR (n - (k + 1)) a2.2).1, (legsR (n - (k + 1)) a2.2).2) := by
  rw [h, show n - k = (n - (k + 1)) + 1 from by omega]
  simp only [legsR, txR, nuR, h1, h2, List.append_assoc, List.singleton_append]
end Go.Proofs.YtdkkblhfjblpkaaGreat
