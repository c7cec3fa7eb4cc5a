/- pack.Reader.Num -/
import Derived.Test.YtogecfddkohigaaRows
import Derived.Test.YtogecfddkohigaaRdr
import Derived.WalkKit
import Derived.WalkSpells
import Derived.WalkLawsBesides
import Derived.Deep.QuietTactic
import Derived.BigQuiet
import Derived.Laws.StructEq
import Derived.Deep.DeepFit
import Derived.StillTailTactics
namespace Go.Proofs.Ytogecfddkohigaa
open Go.RowKit
/-- the next number's bytes: k are read, acc is what they spell -/
def uvR : Nat → Nat → List UInt8 → Except Int (Nat × List UInt8)
  | _, _, [] => .error 4
  | i, acc, b :: t =>
    if i = 10 ∨ (i = 9 ∧ 1 < b.toNat) then .error (if t = [] ∧ 128 ≤ b.toNat ∧ i < 10 then 4 else 3)
    else if b.toNat = 0 ∧ 0 < i then .error 3
    else if b.toNat < 128 then .ok (acc + b.toNat * 2 ^ (7 * i), t)
    else uvR (i + 1) (acc + b.toNat % 128 * 2 ^ (7 * i)) t
/-- the next number: what is told, and what is left -/
def numRd (err : Int) (l : List UInt8) : (Int × Int) × (Int × List UInt8) :=
  if err ≠ 0 then ((0, err), (err, l)) else match uvR 0 0 l with
    | .error e => ((0, e), (e, []))
    | .ok (m, t) => ((Lib.unzigzag m, 0), (0, t))
theorem numRd_err {err : Int} (h : err ≠ 0) (l : List UInt8) : numRd err l = ((0, err), (err, l)) := by unfold numRd; rw [if_pos h]
theorem numRd_bad {l : List UInt8} {e : Int} (h : uvR 0 0 l = .error e) : numRd 0 l = ((0, e), (e, [])) := by unfold numRd; rw [if_neg (by simp), h]
theorem numRd_ok {l t : List UInt8} {m : Nat} (h : uvR 0 0 l = .ok (m, t)) : numRd 0 l = ((Lib.unzigzag m, 0), (0, t)) := by unfold numRd; rw [if_neg (by simp), h]
theorem uvR_long {l : List UInt8} {k acc : Nat} (hk : k < l.length) (h : k = 10 ∨ (k = 9 ∧ 1 < l[k].toNat)) : uvR k acc (l.drop k) = .error (longE l k l[k]) := by
  rw [List.drop_eq_getElem_cons hk, uvR, if_pos h]
  unfold longE
  by_cases e : k + 1 = l.length
  · rw [List.drop_eq_nil_of_le (by omega)]; simp [e]
  · rw [if_neg (fun h => e (by have := congrArg List.length h.1; simp at this; omega)), if_neg (fun h => e h.1)]
theorem uvR_zero {l : List UInt8} {k acc : Nat} (hk : k < l.length) (h : ¬ (k = 10 ∨ (k = 9 ∧ 1 < l[k].toNat))) (hz : l[k].toNat = 0 ∧ 0 < k) : uvR k acc (l.drop k) = .error 3 := by
  rw [List.drop_eq_getElem_cons hk, uvR, if_neg h, if_pos hz]
theorem uvR_last {l : List UInt8} {k acc : Nat} (hk : k < l.length) (h : ¬ (k = 10 ∨ (k = 9 ∧ 1 < l[k].toNat))) (hz : ¬ (l[k].toNat = 0 ∧ 0 < k)) (hs : l[k].toNat < 128) : uvR k acc (l.drop k) = .ok (acc + l[k].toNat * 2 ^ (7 * k), l.drop (k + 1)) := by
  rw [List.drop_eq_getElem_cons hk, uvR, if_neg h, if_neg hz, if_pos hs]
theorem uvR_more {l : List UInt8} {k acc : Nat} (hk : k < l.length) (h : ¬ (k = 10 ∨ (k = 9 ∧ 1 < l[k].toNat))) (hs : ¬ l[k].toNat < 128) : uvR k acc (l.drop k) = uvR (k + 1) (acc + l[k].toNat % 128 * 2 ^ (7 * k)) (l.drop (k + 1)) := by
  rw [List.drop_eq_getElem_cons hk, uvR, if_neg h, if_neg (by omega), if_neg hs]

theorem or_step {acc k b : Nat} (hacc : acc < 2 ^ (7 * k)) (hk : k < 9 ∨ (k = 9 ∧ b ≤ 1)) (hb : b < 128) : bits .or .u64 (acc : Int) (IntKind.u64.wrap ((b : Int) * 2 ^ (7 * k))) = ((acc + b * 2 ^ (7 * k) : Nat) : Int) := by
  have hx : b * 2 ^ (7 * k) < 18446744073709551616 := by
    rcases hk with hk | ⟨rfl, hb1⟩
    · have h1 : 2 ^ (7 * k) ≤ 2 ^ 56 := Nat.pow_le_pow_right (by decide) (by omega)
      have h2 : b * 2 ^ (7 * k) ≤ 127 * 2 ^ 56 := Nat.mul_le_mul (by omega) h1
      exact Nat.lt_of_le_of_lt h2 (by decide)
    · exact Nat.lt_of_le_of_lt (Nat.mul_le_mul_right _ hb1) (by decide)
  have hy : acc < 18446744073709551616 := Nat.lt_of_lt_of_le hacc (Nat.le_trans (Nat.pow_le_pow_right (by decide) (show 7 * k ≤ 63 by omega)) (show 2 ^ 63 ≤ 18446744073709551616 by decide))
  have e1 : (b : Int) * 2 ^ (7 * k) = ((b * 2 ^ (7 * k) : Nat) : Int) := by rw [Int.natCast_mul, Int.natCast_pow]; rfl
  have e2 : IntKind.u64.wrap ((b : Int) * 2 ^ (7 * k)) = ((b * 2 ^ (7 * k) : Nat) : Int) := by
    rw [e1]
    generalize b * 2 ^ (7 * k) = X at hx ⊢
    rw [IntKind.wrap_u64]
    omega
  rw [e2, bits_join_low .u64 64 (by decide) wraps_u64 (7 * k) _ _ (by omega) (by exact_mod_cast hacc) (by omega) (by omega) (by exact_mod_cast Nat.mul_mod_left b (2 ^ (7 * k))) (by omega)]
  omega
theorem or_lt {acc k b : Nat} (hacc : acc < 2 ^ (7 * k)) (hk : k < 9 ∨ (k = 9 ∧ b ≤ 1)) (hb : b < 128) : acc + b * 2 ^ (7 * k) < 18446744073709551616 := by
  rcases hk with hk | ⟨rfl, hb1⟩
  · have h1 : 2 ^ (7 * k) ≤ 2 ^ 56 := Nat.pow_le_pow_right (by decide) (by omega)
    have h2 : b * 2 ^ (7 * k) ≤ 127 * 2 ^ 56 := Nat.mul_le_mul (by omega) h1
    have h3 : (2 : Nat) ^ 56 = 72057594037927936 := by decide
    omega
  · have h2 := Nat.mul_le_mul_right (2 ^ (7 * 9)) hb1
    have h3 : (2 : Nat) ^ (7 * 9) = 9223372036854775808 := by decide
    omega
theorem acc_step {acc k b : Nat} (hacc : acc < 2 ^ (7 * k)) (hb : b < 128) : acc + b * 2 ^ (7 * k) < 2 ^ (7 * (k + 1)) := by
  rw [Nat.mul_add, Nat.pow_add, show (2 : Nat) ^ (7 * 1) = 128 from rfl]
  generalize 2 ^ (7 * k) = P at *
  have h2 : b * P ≤ 127 * P := Nat.mul_le_mul_right _ (by omega)
  omega
theorem andNot128 (c : UInt8) : bits .andNot .u8 (c.toNat : Int) 128 = ((c.toNat % 128 : Nat) : Int) := by
  have h : ∀ a : Fin 256, bits .andNot .u8 ((a.val : Nat) : Int) 128 = ((a.val % 128 : Nat) : Int) := by decide +kernel
  exact h ⟨c.toNat, c.toNat_lt⟩
set_option maxRecDepth 100000 in
set_option maxHeartbeats 4000000 in
theorem rnum_c (g r : Nat) (err : Int) (l : List UInt8) (w : World) (h : Rd w g r err l) (hr : r < w.heap.size) (hn : l.length ≤ 65536) :
    Calls Try.prog 65 #[.pointer (some ⟨g, 0, none⟩)] w fun e w' => e = .returned (.tuple #[i64 (numRd err l).1.1, i64 (numRd err l).1.2]) ∧ Rd w' g r (numRd err l).2.1 (numRd err l).2.2 ∧ w.grownBy w' (some g) := by
  have H := Lib.hid h
  obtain ⟨hne, A, c, hg, hs⟩ := h
  have hglt := (Array.getElem?_eq_some_iff.1 hg).1
  have c0 := cell_of_row w g 0 _ _ (0, 0) hg
  have c1 := cell_of_row w g 1 _ _ (0, 0) hg
  simp only [List.getElem?_toArray, List.getElem?_cons_zero, List.getElem?_cons_succ] at c0 c1
  by_cases he : err = 0
  · subst he
    have HG := Lib.hid hg
    clear hg
    go_enter Try.func65, Try.ntmps65
    go_wp2_with fail
    go_loopw [4, 24] (fun m i wr => ∃ k acc : Nat, i = i64 k ∧ m = .int .u64 (acc : Int) ∧ k ≤ l.length ∧ k ≤ 10 ∧ acc < 2 ^ (7 * k) ∧ uvR 0 0 l = uvR k acc (l.drop k) ∧ Below w.heap.size w wr) (fun _ i _ => l.length - (intOf i).toNat)
    case atStart => exact ⟨0, 0, rfl, rfl, by omega, by omega, by decide, rfl, Below.refl _ _⟩
    case round =>
      obtain ⟨k, acc, rfl, rfl, hk, hk10, hacc, hu, hb⟩ := hrel
      have Hu := Lib.hid hu
      have Hacc := Lib.hid hacc
      clear hu hacc
      by_cases hlt : k < l.length
      · obtain ⟨b, o, rfl, hbr, -, hc⟩ := hs.at_ hlt
        have hbr := hbr.symm
        subst hbr
        have c0 := (hb.cell (p := ⟨g, 0, none⟩) hglt).trans c0
        have hgr := (hb.block g hglt).trans HG.out
        have f0 := frozen_of_row wr g 0 _ _ hgr
        have Hgr := Lib.hid hgr
        clear hgr
        have hlc : l.length ≤ c := hs.1
        have d0 := hc 0 _ rfl
        rw [show k * Enc.size UInt8 + 0 = k from Nat.mul_one k] at d0
        have d0 := (hb.cell (p := ⟨r, o + k, none⟩) hr).trans d0
        clear hc
        have i0 : (0 : Int) ≤ (k : Int) := by omega
        have i1 : (k : Int) < (l.length : Int) := by omega
        have hlb := l[k].toNat_lt
        by_cases k10 : k = 10
        · have t1 : ((k : Int) == 10) = true := by rw [beq_iff_eq]; omega
          have hu2 := Lib.hid (numRd_bad (Hu.out.trans (uvR_long hlt (.inl k10))))
          clear Hu Hacc
          try clear k10
          try clear k9
          go_wp2_with fail
          refine (long_c g r 0 l k hlt _ (H.out.later hr hb) hn).mono ?_
          rintro e w2 ⟨rfl, hb2⟩
          have hb3 := below_on hb (Nat.le_refl _) hb2
          go_wp2_with fail
          refine (rfail_c g r 0 _ l _ (H.out.later hr hb3)).mono ?_
          rintro e w3 ⟨rfl, hR, hG⟩
          go_wp2
          go_ret2
          rw [hu2.out]
          exact ⟨rfl, hR, grown_trans (grown_of_below hb3 _) hG⟩
        · have t1 : ((k : Int) == 10) = false := by rw [beq_eq_false_iff_ne]; omega
          by_cases k9 : k = 9
          · have t2 : ((k : Int) == 9) = true := by rw [beq_iff_eq]; omega
            by_cases hb1 : 1 < l[k].toNat
            · have t3 : decide ((1 : Int) < ((l[k].toNat : Nat) : Int)) = true := decide_eq_true (by omega)
              have hu2 := Lib.hid (numRd_bad (Hu.out.trans (uvR_long hlt (.inr ⟨k9, hb1⟩))))
              clear Hu Hacc
              try clear k10
              try clear k9
              go_wp2_with fail
              refine (long_c g r 0 l k hlt _ (H.out.later hr hb) hn).mono ?_
              rintro e w2 ⟨rfl, hb2⟩
              have hb3 := below_on hb (Nat.le_refl _) hb2
              go_wp2_with fail
              refine (rfail_c g r 0 _ l _ (H.out.later hr hb3)).mono ?_
              rintro e w3 ⟨rfl, hR, hG⟩
              go_wp2
              go_ret2
              rw [hu2.out]
              exact ⟨rfl, hR, grown_trans (grown_of_below hb3 _) hG⟩
            · have t3 : decide ((1 : Int) < ((l[k].toNat : Nat) : Int)) = false := decide_eq_false (by omega)
              have hnb := Lib.hid (show ¬ (k = 10 ∨ (k = 9 ∧ 1 < l[k].toNat)) from fun h => by omega)
              by_cases hs1 : l[k].toNat < 128
              · have g3 : decide (((l[k].toNat : Nat) : Int) < 128) = true := decide_eq_true (by omega)
                by_cases hz : l[k].toNat = 0 ∧ 0 < k
                · have g4 : (((l[k].toNat : Nat) : Int) == 0) = true := by rw [beq_iff_eq]; omega
                  have g5 : 0 < k := hz.2
                  have hu2 := Lib.hid (numRd_bad (Hu.out.trans (uvR_zero hlt hnb.out hz)))
                  clear Hu Hacc hnb hz
                  try clear k9
                  go_wp2_with fail
                  refine (rfail_c g r 0 3 l _ (H.out.later hr hb)).mono ?_
                  rintro e w3 ⟨rfl, hR, hG⟩
                  go_wp2
                  go_ret2
                  rw [hu2.out]
                  exact ⟨rfl, hR, grown_trans (grown_of_below hb _) hG⟩
                · by_cases hz0 : l[k].toNat = 0
                  · have g4 : (((l[k].toNat : Nat) : Int) == 0) = true := by rw [beq_iff_eq]; omega
                    have g5 : ¬ 0 < k := fun h => hz ⟨hz0, h⟩
                    have hu2 := Lib.hid (numRd_ok (Hu.out.trans (uvR_last hlt hnb.out hz hs1)))
                    clear Hu
                    have a1 := andNot128 l[k]
                    have hm := Nat.mod_eq_of_lt hs1
                    obtain ⟨X, hX⟩ : ∃ X : Nat, X = acc + l[k].toNat % 128 * 2 ^ (7 * k) := ⟨_, rfl⟩
                    have q := or_step (b := l[k].toNat % 128) Hacc.out (by omega) (Nat.mod_lt _ (by decide))
                    have hX64 := or_lt (b := l[k].toNat % 128) Hacc.out (by omega) (Nat.mod_lt _ (by decide))
                    rw [← hX] at q hX64
                    rw [hm] at q hX a1
                    rw [← hX] at hu2
                    have j1 : (k : Int) + 1 ≤ (l.length : Int) := by omega
                    have j2 : (l.length : Int) ≤ (c : Int) := by omega
                    have j3 : (k : Int) + 1 ≤ (c : Int) := by omega
                    clear Hacc hnb hs1 hm hX
                    try clear k9
                    try clear hz
                    try clear hz0
                    by_cases hcc : c = k + 1
                    · obtain rfl := hcc
                      have hset := Lib.hid (heap_setCell_same wr g 0 _ _ (.slice (some ⟨r, o, none⟩) 0 0) Hgr.out)
                      have hdr := Lib.hid (hs.drop (k := k + 1) (by omega))
                      have hG1 := grown_setCell (g := g) (World.grownBy.refl wr (some g)) (p := ⟨g, 0, none⟩) (.inl rfl) (.slice (some ⟨r, o, none⟩) 0 0)
                      go_wp2_with fail
                      refine (unfold_c X hX64 _).mono ?_
                      rintro e w3 ⟨rfl, hb3⟩
                      go_wp2
                      go_ret2
                      rw [hu2.out]
                      have hnd : (l.drop (k + 1)).length = 0 := by rw [List.length_drop]; omega
                      refine ⟨rfl, Rd.later ⟨hne, _, _, by rw [hset.out]; simp only [List.setIfInBounds_toArray, List.set_cons_zero, hnd]; rfl, ?_⟩ (Nat.lt_of_lt_of_le hr (by simpa [World.setCell] using hb.size)) hb3, grown_trans (grown_of_below hb _) (grown_trans hG1 (grown_of_below hb3 _))⟩
                      have := hdr.out
                      simp only [if_true, Nat.sub_self] at this
                      exact this.keep (fun p hp => World.cell?_of_block (w := w) (by rw [hp]; exact (hG1.block r (Nat.lt_of_lt_of_le hr hb.size) (fun e => hne (by injection e))).trans (hb.block r hr))) (fun _ h => h)
                    · skip
                      have hset := Lib.hid (heap_setCell_same wr g 0 _ _ (.slice (some ⟨r, o + (k + 1), none⟩) (l.length - (k + 1)) (c - (k + 1))) Hgr.out)
                      have hdr := Lib.hid (hs.drop (k := k + 1) (by omega))
                      have hG1 := grown_setCell (g := g) (World.grownBy.refl wr (some g)) (p := ⟨g, 0, none⟩) (.inl rfl) (.slice (some ⟨r, o + (k + 1), none⟩) (l.length - (k + 1)) (c - (k + 1)))
                      go_wp2_with fail
                      refine (unfold_c X hX64 _).mono ?_
                      rintro e w3 ⟨rfl, hb3⟩
                      go_wp2
                      go_ret2
                      rw [hu2.out]
                      have hnd : (l.drop (k + 1)).length = l.length - (k + 1) := by rw [List.length_drop]
                      refine ⟨rfl, Rd.later ⟨hne, _, _, by rw [hset.out]; simp only [List.setIfInBounds_toArray, List.set_cons_zero, hnd]; rfl, ?_⟩ (Nat.lt_of_lt_of_le hr (by simpa [World.setCell] using hb.size)) hb3, grown_trans (grown_of_below hb _) (grown_trans hG1 (grown_of_below hb3 _))⟩
                      have := hdr.out
                      rw [if_neg hcc, Option.map_some, show (⟨r, o, none⟩ : Addr).add ((k + 1) * Enc.size UInt8) = ⟨r, o + (k + 1), none⟩ from by rw [show Enc.size UInt8 = 1 from rfl, Nat.mul_one]; unfold Addr.add; rw [if_neg (by omega)]] at this
                      exact this.keep (fun p hp => World.cell?_of_block (w := w) (by rw [hp]; exact (hG1.block r (Nat.lt_of_lt_of_le hr hb.size) (fun e => hne (by injection e))).trans (hb.block r hr))) (fun _ h => h)
                  · have g4 : (((l[k].toNat : Nat) : Int) == 0) = false := by rw [beq_eq_false_iff_ne]; omega
                    have hu2 := Lib.hid (numRd_ok (Hu.out.trans (uvR_last hlt hnb.out hz hs1)))
                    clear Hu
                    have a1 := andNot128 l[k]
                    have hm := Nat.mod_eq_of_lt hs1
                    obtain ⟨X, hX⟩ : ∃ X : Nat, X = acc + l[k].toNat % 128 * 2 ^ (7 * k) := ⟨_, rfl⟩
                    have q := or_step (b := l[k].toNat % 128) Hacc.out (by omega) (Nat.mod_lt _ (by decide))
                    have hX64 := or_lt (b := l[k].toNat % 128) Hacc.out (by omega) (Nat.mod_lt _ (by decide))
                    rw [← hX] at q hX64
                    rw [hm] at q hX a1
                    rw [← hX] at hu2
                    have j1 : (k : Int) + 1 ≤ (l.length : Int) := by omega
                    have j2 : (l.length : Int) ≤ (c : Int) := by omega
                    have j3 : (k : Int) + 1 ≤ (c : Int) := by omega
                    clear Hacc hnb hs1 hm hX
                    try clear k9
                    try clear hz
                    try clear hz0
                    by_cases hcc : c = k + 1
                    · obtain rfl := hcc
                      have hset := Lib.hid (heap_setCell_same wr g 0 _ _ (.slice (some ⟨r, o, none⟩) 0 0) Hgr.out)
                      have hdr := Lib.hid (hs.drop (k := k + 1) (by omega))
                      have hG1 := grown_setCell (g := g) (World.grownBy.refl wr (some g)) (p := ⟨g, 0, none⟩) (.inl rfl) (.slice (some ⟨r, o, none⟩) 0 0)
                      go_wp2_with fail
                      refine (unfold_c X hX64 _).mono ?_
                      rintro e w3 ⟨rfl, hb3⟩
                      go_wp2
                      go_ret2
                      rw [hu2.out]
                      have hnd : (l.drop (k + 1)).length = 0 := by rw [List.length_drop]; omega
                      refine ⟨rfl, Rd.later ⟨hne, _, _, by rw [hset.out]; simp only [List.setIfInBounds_toArray, List.set_cons_zero, hnd]; rfl, ?_⟩ (Nat.lt_of_lt_of_le hr (by simpa [World.setCell] using hb.size)) hb3, grown_trans (grown_of_below hb _) (grown_trans hG1 (grown_of_below hb3 _))⟩
                      have := hdr.out
                      simp only [if_true, Nat.sub_self] at this
                      exact this.keep (fun p hp => World.cell?_of_block (w := w) (by rw [hp]; exact (hG1.block r (Nat.lt_of_lt_of_le hr hb.size) (fun e => hne (by injection e))).trans (hb.block r hr))) (fun _ h => h)
                    · skip
                      have hset := Lib.hid (heap_setCell_same wr g 0 _ _ (.slice (some ⟨r, o + (k + 1), none⟩) (l.length - (k + 1)) (c - (k + 1))) Hgr.out)
                      have hdr := Lib.hid (hs.drop (k := k + 1) (by omega))
                      have hG1 := grown_setCell (g := g) (World.grownBy.refl wr (some g)) (p := ⟨g, 0, none⟩) (.inl rfl) (.slice (some ⟨r, o + (k + 1), none⟩) (l.length - (k + 1)) (c - (k + 1)))
                      go_wp2_with fail
                      refine (unfold_c X hX64 _).mono ?_
                      rintro e w3 ⟨rfl, hb3⟩
                      go_wp2
                      go_ret2
                      rw [hu2.out]
                      have hnd : (l.drop (k + 1)).length = l.length - (k + 1) := by rw [List.length_drop]
                      refine ⟨rfl, Rd.later ⟨hne, _, _, by rw [hset.out]; simp only [List.setIfInBounds_toArray, List.set_cons_zero, hnd]; rfl, ?_⟩ (Nat.lt_of_lt_of_le hr (by simpa [World.setCell] using hb.size)) hb3, grown_trans (grown_of_below hb _) (grown_trans hG1 (grown_of_below hb3 _))⟩
                      have := hdr.out
                      rw [if_neg hcc, Option.map_some, show (⟨r, o, none⟩ : Addr).add ((k + 1) * Enc.size UInt8) = ⟨r, o + (k + 1), none⟩ from by rw [show Enc.size UInt8 = 1 from rfl, Nat.mul_one]; unfold Addr.add; rw [if_neg (by omega)]] at this
                      exact this.keep (fun p hp => World.cell?_of_block (w := w) (by rw [hp]; exact (hG1.block r (Nat.lt_of_lt_of_le hr hb.size) (fun e => hne (by injection e))).trans (hb.block r hr))) (fun _ h => h)
              · have g3 : decide (((l[k].toNat : Nat) : Int) < 128) = false := decide_eq_false (by omega)
                exfalso
                omega
          · have t2 : ((k : Int) == 9) = false := by rw [beq_eq_false_iff_ne]; omega
            have hnb := Lib.hid (show ¬ (k = 10 ∨ (k = 9 ∧ 1 < l[k].toNat)) from fun h => by omega)
            by_cases hs1 : l[k].toNat < 128
            · have g3 : decide (((l[k].toNat : Nat) : Int) < 128) = true := decide_eq_true (by omega)
              by_cases hz : l[k].toNat = 0 ∧ 0 < k
              · have g4 : (((l[k].toNat : Nat) : Int) == 0) = true := by rw [beq_iff_eq]; omega
                have g5 : 0 < k := hz.2
                have hu2 := Lib.hid (numRd_bad (Hu.out.trans (uvR_zero hlt hnb.out hz)))
                clear Hu Hacc hnb hz
                try clear k9
                go_wp2_with fail
                refine (rfail_c g r 0 3 l _ (H.out.later hr hb)).mono ?_
                rintro e w3 ⟨rfl, hR, hG⟩
                go_wp2
                go_ret2
                rw [hu2.out]
                exact ⟨rfl, hR, grown_trans (grown_of_below hb _) hG⟩
              · by_cases hz0 : l[k].toNat = 0
                · have g4 : (((l[k].toNat : Nat) : Int) == 0) = true := by rw [beq_iff_eq]; omega
                  have g5 : ¬ 0 < k := fun h => hz ⟨hz0, h⟩
                  have hu2 := Lib.hid (numRd_ok (Hu.out.trans (uvR_last hlt hnb.out hz hs1)))
                  clear Hu
                  have a1 := andNot128 l[k]
                  have hm := Nat.mod_eq_of_lt hs1
                  obtain ⟨X, hX⟩ : ∃ X : Nat, X = acc + l[k].toNat % 128 * 2 ^ (7 * k) := ⟨_, rfl⟩
                  have q := or_step (b := l[k].toNat % 128) Hacc.out (by omega) (Nat.mod_lt _ (by decide))
                  have hX64 := or_lt (b := l[k].toNat % 128) Hacc.out (by omega) (Nat.mod_lt _ (by decide))
                  rw [← hX] at q hX64
                  rw [hm] at q hX a1
                  rw [← hX] at hu2
                  have j1 : (k : Int) + 1 ≤ (l.length : Int) := by omega
                  have j2 : (l.length : Int) ≤ (c : Int) := by omega
                  have j3 : (k : Int) + 1 ≤ (c : Int) := by omega
                  clear Hacc hnb hs1 hm hX
                  try clear k9
                  try clear hz
                  try clear hz0
                  by_cases hcc : c = k + 1
                  · obtain rfl := hcc
                    have hset := Lib.hid (heap_setCell_same wr g 0 _ _ (.slice (some ⟨r, o, none⟩) 0 0) Hgr.out)
                    have hdr := Lib.hid (hs.drop (k := k + 1) (by omega))
                    have hG1 := grown_setCell (g := g) (World.grownBy.refl wr (some g)) (p := ⟨g, 0, none⟩) (.inl rfl) (.slice (some ⟨r, o, none⟩) 0 0)
                    go_wp2_with fail
                    refine (unfold_c X hX64 _).mono ?_
                    rintro e w3 ⟨rfl, hb3⟩
                    go_wp2
                    go_ret2
                    rw [hu2.out]
                    have hnd : (l.drop (k + 1)).length = 0 := by rw [List.length_drop]; omega
                    refine ⟨rfl, Rd.later ⟨hne, _, _, by rw [hset.out]; simp only [List.setIfInBounds_toArray, List.set_cons_zero, hnd]; rfl, ?_⟩ (Nat.lt_of_lt_of_le hr (by simpa [World.setCell] using hb.size)) hb3, grown_trans (grown_of_below hb _) (grown_trans hG1 (grown_of_below hb3 _))⟩
                    have := hdr.out
                    simp only [if_true, Nat.sub_self] at this
                    exact this.keep (fun p hp => World.cell?_of_block (w := w) (by rw [hp]; exact (hG1.block r (Nat.lt_of_lt_of_le hr hb.size) (fun e => hne (by injection e))).trans (hb.block r hr))) (fun _ h => h)
                  · skip
                    have hset := Lib.hid (heap_setCell_same wr g 0 _ _ (.slice (some ⟨r, o + (k + 1), none⟩) (l.length - (k + 1)) (c - (k + 1))) Hgr.out)
                    have hdr := Lib.hid (hs.drop (k := k + 1) (by omega))
                    have hG1 := grown_setCell (g := g) (World.grownBy.refl wr (some g)) (p := ⟨g, 0, none⟩) (.inl rfl) (.slice (some ⟨r, o + (k + 1), none⟩) (l.length - (k + 1)) (c - (k + 1)))
                    go_wp2_with fail
                    refine (unfold_c X hX64 _).mono ?_
                    rintro e w3 ⟨rfl, hb3⟩
                    go_wp2
                    go_ret2
                    rw [hu2.out]
                    have hnd : (l.drop (k + 1)).length = l.length - (k + 1) := by rw [List.length_drop]
                    refine ⟨rfl, Rd.later ⟨hne, _, _, by rw [hset.out]; simp only [List.setIfInBounds_toArray, List.set_cons_zero, hnd]; rfl, ?_⟩ (Nat.lt_of_lt_of_le hr (by simpa [World.setCell] using hb.size)) hb3, grown_trans (grown_of_below hb _) (grown_trans hG1 (grown_of_below hb3 _))⟩
                    have := hdr.out
                    rw [if_neg hcc, Option.map_some, show (⟨r, o, none⟩ : Addr).add ((k + 1) * Enc.size UInt8) = ⟨r, o + (k + 1), none⟩ from by rw [show Enc.size UInt8 = 1 from rfl, Nat.mul_one]; unfold Addr.add; rw [if_neg (by omega)]] at this
                    exact this.keep (fun p hp => World.cell?_of_block (w := w) (by rw [hp]; exact (hG1.block r (Nat.lt_of_lt_of_le hr hb.size) (fun e => hne (by injection e))).trans (hb.block r hr))) (fun _ h => h)
                · have g4 : (((l[k].toNat : Nat) : Int) == 0) = false := by rw [beq_eq_false_iff_ne]; omega
                  have hu2 := Lib.hid (numRd_ok (Hu.out.trans (uvR_last hlt hnb.out hz hs1)))
                  clear Hu
                  have a1 := andNot128 l[k]
                  have hm := Nat.mod_eq_of_lt hs1
                  obtain ⟨X, hX⟩ : ∃ X : Nat, X = acc + l[k].toNat % 128 * 2 ^ (7 * k) := ⟨_, rfl⟩
                  have q := or_step (b := l[k].toNat % 128) Hacc.out (by omega) (Nat.mod_lt _ (by decide))
                  have hX64 := or_lt (b := l[k].toNat % 128) Hacc.out (by omega) (Nat.mod_lt _ (by decide))
                  rw [← hX] at q hX64
                  rw [hm] at q hX a1
                  rw [← hX] at hu2
                  have j1 : (k : Int) + 1 ≤ (l.length : Int) := by omega
                  have j2 : (l.length : Int) ≤ (c : Int) := by omega
                  have j3 : (k : Int) + 1 ≤ (c : Int) := by omega
                  clear Hacc hnb hs1 hm hX
                  try clear k9
                  try clear hz
                  try clear hz0
                  by_cases hcc : c = k + 1
                  · obtain rfl := hcc
                    have hset := Lib.hid (heap_setCell_same wr g 0 _ _ (.slice (some ⟨r, o, none⟩) 0 0) Hgr.out)
                    have hdr := Lib.hid (hs.drop (k := k + 1) (by omega))
                    have hG1 := grown_setCell (g := g) (World.grownBy.refl wr (some g)) (p := ⟨g, 0, none⟩) (.inl rfl) (.slice (some ⟨r, o, none⟩) 0 0)
                    go_wp2_with fail
                    refine (unfold_c X hX64 _).mono ?_
                    rintro e w3 ⟨rfl, hb3⟩
                    go_wp2
                    go_ret2
                    rw [hu2.out]
                    have hnd : (l.drop (k + 1)).length = 0 := by rw [List.length_drop]; omega
                    refine ⟨rfl, Rd.later ⟨hne, _, _, by rw [hset.out]; simp only [List.setIfInBounds_toArray, List.set_cons_zero, hnd]; rfl, ?_⟩ (Nat.lt_of_lt_of_le hr (by simpa [World.setCell] using hb.size)) hb3, grown_trans (grown_of_below hb _) (grown_trans hG1 (grown_of_below hb3 _))⟩
                    have := hdr.out
                    simp only [if_true, Nat.sub_self] at this
                    exact this.keep (fun p hp => World.cell?_of_block (w := w) (by rw [hp]; exact (hG1.block r (Nat.lt_of_lt_of_le hr hb.size) (fun e => hne (by injection e))).trans (hb.block r hr))) (fun _ h => h)
                  · skip
                    have hset := Lib.hid (heap_setCell_same wr g 0 _ _ (.slice (some ⟨r, o + (k + 1), none⟩) (l.length - (k + 1)) (c - (k + 1))) Hgr.out)
                    have hdr := Lib.hid (hs.drop (k := k + 1) (by omega))
                    have hG1 := grown_setCell (g := g) (World.grownBy.refl wr (some g)) (p := ⟨g, 0, none⟩) (.inl rfl) (.slice (some ⟨r, o + (k + 1), none⟩) (l.length - (k + 1)) (c - (k + 1)))
                    go_wp2_with fail
                    refine (unfold_c X hX64 _).mono ?_
                    rintro e w3 ⟨rfl, hb3⟩
                    go_wp2
                    go_ret2
                    rw [hu2.out]
                    have hnd : (l.drop (k + 1)).length = l.length - (k + 1) := by rw [List.length_drop]
                    refine ⟨rfl, Rd.later ⟨hne, _, _, by rw [hset.out]; simp only [List.setIfInBounds_toArray, List.set_cons_zero, hnd]; rfl, ?_⟩ (Nat.lt_of_lt_of_le hr (by simpa [World.setCell] using hb.size)) hb3, grown_trans (grown_of_below hb _) (grown_trans hG1 (grown_of_below hb3 _))⟩
                    have := hdr.out
                    rw [if_neg hcc, Option.map_some, show (⟨r, o, none⟩ : Addr).add ((k + 1) * Enc.size UInt8) = ⟨r, o + (k + 1), none⟩ from by rw [show Enc.size UInt8 = 1 from rfl, Nat.mul_one]; unfold Addr.add; rw [if_neg (by omega)]] at this
                    exact this.keep (fun p hp => World.cell?_of_block (w := w) (by rw [hp]; exact (hG1.block r (Nat.lt_of_lt_of_le hr hb.size) (fun e => hne (by injection e))).trans (hb.block r hr))) (fun _ h => h)
            · have g3 : decide (((l[k].toNat : Nat) : Int) < 128) = false := decide_eq_false (by omega)
              have hu2 := Lib.hid (Hu.out.trans (uvR_more hlt hnb.out hs1))
              have a1 := andNot128 l[k]
              obtain ⟨X, hX⟩ : ∃ X : Nat, X = acc + l[k].toNat % 128 * 2 ^ (7 * k) := ⟨_, rfl⟩
              have q := or_step (b := l[k].toNat % 128) Hacc.out (by omega) (Nat.mod_lt _ (by decide))
              have hac := Lib.hid (acc_step (b := l[k].toNat % 128) Hacc.out (Nat.mod_lt _ (by decide)))
              rw [← hX] at q hac hu2
              push_cast at q
              clear Hacc hnb hs1 hX
              try clear k9
              go_wp2_with fail
              go_roundw
              case rel => exact ⟨k + 1, X, by go_num, by first | rfl | rw [q], by omega, by omega, hac.out, hu2.out, hb⟩
              case measure => simp [intOf] <;> omega
      · obtain rfl : k = l.length := by omega
        have hu2 := Lib.hid (numRd_bad (Hu.out.trans (by rw [List.drop_length, uvR])))
        clear Hu Hacc
        go_wp2_with fail
        refine (rfail_c g r 0 4 l _ (H.out.later hr hb)).mono ?_
        rintro e w3 ⟨rfl, hR, hG⟩
        go_wp2
        go_ret2
        rw [hu2.out]
        exact ⟨rfl, hR, grown_trans (grown_of_below hb _) hG⟩
  · have g1 : (err != 0) = true := by simpa using he
    have hu2 := Lib.hid (numRd_err he l)
    clear he
    go_enter Try.func65, Try.ntmps65
    go_wp2_with fail
    go_quiet (fail)
    go_wp2
    go_ret2
    rw [hu2.out]
    exact ⟨rfl, H.out.later hr (below_drewN (Below.refl _ _) _), grown_of_below (below_drewN (Below.refl _ _) _) _⟩
end Go.Proofs.Ytogecfddkohigaa
