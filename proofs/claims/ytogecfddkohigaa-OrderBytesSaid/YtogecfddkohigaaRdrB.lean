/- pack.Reader: Range, Text, Done, New; order.small, name; pack.Reader: Text, New; order.name -/
import Derived.Test.YtogecfddkohigaaRows
import Derived.Test.YtogecfddkohigaaRNum
import Derived.Laws.CopyRow
import Derived.Laws.MakeOwn
import Derived.Laws.IdiomStrings
import Derived.Laws.IdiomCopy
import Derived.WalkKit
import Derived.WalkSpells
import Derived.WalkLawsBesides
import Derived.Deep.QuietTactic
import Derived.BigQuiet
import Derived.Laws.StructEq
import Derived.Deep.DeepFit
import Derived.StillTailTactics
namespace Go.Proofs.Ytogecfddkohigaa
open Go.RowKit
theorem conv_bytes {w : World} {S : Nat → Prop} {c : Nat} {A : Option Addr} {l : List UInt8} (h : SlS w S A c l) : (convert 36 9 (.slice A l.length c)).run Try.prog w = .ok (.string ⟨l.toArray⟩) w := by
  by_cases hl : l = []
  · subst hl
    rw [run_convert_bytes_string w _ _ _ _ _ c Try.underlying36 Try.underlying5 Try.underlying9]
    cases A <;> simp [Conv.bytesToString, loadCells]
    all_goals rfl
  · obtain ⟨b, o, rfl, -, hc⟩ := h.2.2.1 (List.length_pos_iff.2 hl)
    refine run_convert_bytes_back w _ _ _ ⟨b, o, none⟩ c l Try.underlying36 Try.underlying5 Try.underlying9 fun j hj => ?_
    have := hc j (.int .u8 l[j].toNat) (by rw [flat_byte, List.getElem?_eq_getElem hj]; rfl)
    rw [show (⟨b, o, none⟩ : Addr).add j = ⟨b, o + j, none⟩ from by unfold Addr.add; split <;> simp_all]
    exact this
theorem uvR_len : ∀ (l : List UInt8) (i acc : Nat) {m : Nat} {t : List UInt8}, uvR i acc l = .ok (m, t) → t.length < l.length
  | [], _, _, _, _, h => by simp [uvR] at h
  | b :: r, i, acc, m, t, h => by
    rw [uvR] at h
    split at h
    · simp at h
    · split at h
      · simp at h
      · split at h
        · simp only [Except.ok.injEq, Prod.mk.injEq] at h
          rw [← h.2]; simp
        · have := uvR_len r _ _ h
          simp; omega
theorem uvR_err : ∀ (l : List UInt8) (i acc : Nat) {e : Int}, uvR i acc l = .error e → e = 3 ∨ e = 4
  | [], _, _, _, h => by simp [uvR] at h; exact .inr h.symm
  | b :: r, i, acc, e, h => by
    rw [uvR] at h
    split at h
    · simp only [Except.error.injEq] at h
      split at h <;> omega
    · split at h
      · simp only [Except.error.injEq] at h; omega
      · split at h
        · simp at h
        · exact uvR_err r _ _ h
/-- what is left is no more than there was; where no error is told there is none -/
theorem numRd_left (err : Int) (l : List UInt8) : (numRd err l).2.2.length ≤ l.length ∧ (numRd err l).2.1 = (numRd err l).1.2 := by
  unfold numRd
  split
  · exact ⟨Nat.le_refl _, rfl⟩
  · split
    · exact ⟨by simp, rfl⟩
    · rename_i m t h
      exact ⟨Nat.le_of_lt (uvR_len l 0 0 h), rfl⟩
/-- the next number, if it is one of some -/
def rangeRd (lo hi err : Int) (l : List UInt8) : (Int × Int) × (Int × List UInt8) :=
  if (numRd err l).1.2 ≠ 0 then ((0, (numRd err l).1.2), (numRd err l).2)
  else if (numRd err l).1.1 < lo ∨ hi < (numRd err l).1.1 then ((0, 3), (3, []))
  else (((numRd err l).1.1, 0), (numRd err l).2)
theorem rangeRd_left (lo hi err : Int) (l : List UInt8) : (rangeRd lo hi err l).2.2.length ≤ l.length ∧ (rangeRd lo hi err l).2.1 = (rangeRd lo hi err l).1.2 := by
  have h := numRd_left err l
  unfold rangeRd
  split
  · exact h
  · rename_i h0
    split
    · exact ⟨by simp, rfl⟩
    · exact ⟨h.1, by rw [h.2]; simpa using h0⟩
theorem rangeRd_in {lo hi err : Int} {l : List UInt8} (h : (rangeRd lo hi err l).1.2 = 0) : lo ≤ (rangeRd lo hi err l).1.1 ∧ (rangeRd lo hi err l).1.1 ≤ hi := by
  unfold rangeRd at h ⊢
  split at h
  · rename_i h0; exact absurd h h0
  · rename_i h0
    rw [if_neg h0]
    split at h
    · simp at h
    · rename_i h1
      rw [if_neg h1]
      exact ⟨by simp only; omega, by simp only; omega⟩
set_option maxRecDepth 100000 in
set_option maxHeartbeats 2000000 in
theorem range_c (g r : Nat) (lo hi err : Int) (l : List UInt8) (w : World) (h : Rd w g r err l) (hr : r < w.heap.size) (hn : l.length ≤ 65536) :
    Calls Try.prog 91 #[.pointer (some ⟨g, 0, none⟩), i64 lo, i64 hi] w fun e w' => e = .returned (.tuple #[i64 (rangeRd lo hi err l).1.1, i64 (rangeRd lo hi err l).1.2]) ∧ Rd w' g r (rangeRd lo hi err l).2.1 (rangeRd lo hi err l).2.2 ∧ w.grownBy w' (some g) := by
  have hN := Lib.hid (rnum_c g r err l w h hr hn)
  have HR : Hid (∀ q, q = numRd err l → rangeRd lo hi err l = if q.1.2 ≠ 0 then ((0, q.1.2), q.2) else if q.1.1 < lo ∨ hi < q.1.1 then ((0, 3), (3, [])) else ((q.1.1, 0), q.2)) := Lib.hid fun q hq => by subst hq; rfl
  have hN2 := HR.out _ rfl
  have HN2 := Lib.hid hN2
  clear HR hN2
  generalize rangeRd lo hi err l = Z at HN2 ⊢
  generalize numRd err l = q at hN HN2
  obtain ⟨⟨n, e⟩, x, t⟩ := q
  go_enter Try.func91, Try.ntmps91
  go_wp2_with fail
  refine hN.out.mono ?_
  rintro e1 w1 ⟨rfl, hR, hG⟩
  have HR := Lib.hid hR
  have HG := Lib.hid hG
  clear hR hG
  by_cases he : e = 0
  · subst he
    by_cases h1 : n < lo
    · have hZ := Lib.hid (show Z = ((0, 3), (3, [])) by rw [HN2.out, if_neg (by simp), if_pos (.inl h1)])
      have g1 : decide (n < lo) = true := decide_eq_true h1
      clear h1 HN2 hN
      go_wp2_with fail
      refine (rfail_c g r x 3 t _ HR.out).mono ?_
      rintro e w3 ⟨rfl, hR, hG⟩
      go_wp2
      go_ret2
      rw [hZ.out]
      exact ⟨rfl, hR, grown_trans HG.out hG⟩
    · by_cases h2 : hi < n
      · have hZ := Lib.hid (show Z = ((0, 3), (3, [])) by rw [HN2.out, if_neg (by simp), if_pos (.inr h2)])
        have g1 : decide (n < lo) = false := decide_eq_false h1
        have g2 : decide (hi < n) = true := decide_eq_true h2
        clear h1 h2 HN2 hN
        go_wp2_with fail
        refine (rfail_c g r x 3 t _ HR.out).mono ?_
        rintro e w3 ⟨rfl, hR, hG⟩
        go_wp2
        go_ret2
        rw [hZ.out]
        exact ⟨rfl, hR, grown_trans HG.out hG⟩
      · have hZ := Lib.hid (show Z = ((n, 0), (x, t)) by rw [HN2.out, if_neg (by simp), if_neg (by omega)])
        have g1 : decide (n < lo) = false := decide_eq_false h1
        have g2 : decide (hi < n) = false := decide_eq_false h2
        clear h1 h2 HN2 hN
        go_wp2
        go_ret2
        rw [hZ.out]
        exact ⟨rfl, HR.out, HG.out⟩
  · have hZ := Lib.hid (show Z = ((0, e), (x, t)) by rw [HN2.out, if_pos he])
    have g1 : (e != 0) = true := by simpa using he
    clear he HN2 hN
    go_wp2
    go_ret2
    rw [hZ.out]
    exact ⟨rfl, HR.out, HG.out⟩
set_option maxRecDepth 100000 in
set_option maxHeartbeats 1000000 in
theorem small_c (g r : Nat) (most err : Int) (l : List UInt8) (w : World) (h : Rd w g r err l) (hr : r < w.heap.size) (hn : l.length ≤ 65536) :
    Calls Try.prog 63 #[.pointer (some ⟨g, 0, none⟩), i64 most] w fun e w' => e = .returned (i64 (rangeRd 0 most err l).1.1) ∧ Rd w' g r (rangeRd 0 most err l).2.1 (rangeRd 0 most err l).2.2 ∧ w.grownBy w' (some g) := by
  have hN := Lib.hid (range_c g r 0 most err l w h hr hn)
  generalize rangeRd 0 most err l = q at hN ⊢
  obtain ⟨⟨n, e⟩, x, t⟩ := q
  go_enter Try.func63, Try.ntmps63
  go_wp2_with fail
  refine hN.out.mono ?_
  rintro e1 w1 ⟨rfl, hR, hG⟩
  have HR := Lib.hid hR
  have HG := Lib.hid hG
  clear hR hG hN
  go_wp2
  go_ret
  exact ⟨rfl, HR.out, HG.out⟩
/-- is all read? -/
def doneRd (err : Int) (l : List UInt8) : Int × (Int × List UInt8) := if err ≠ 0 then (err, (err, l)) else if l ≠ [] then (3, (3, [])) else (0, (0, []))
set_option maxRecDepth 100000 in
set_option maxHeartbeats 1000000 in
theorem done_c (g r : Nat) (err : Int) (l : List UInt8) (w : World) (h : Rd w g r err l) (_hr : r < w.heap.size) (_hn : l.length ≤ 65536) :
    Calls Try.prog 67 #[.pointer (some ⟨g, 0, none⟩)] w fun e w' => e = .returned (i64 (doneRd err l).1) ∧ Rd w' g r (doneRd err l).2.1 (doneRd err l).2.2 ∧ w.grownBy w' (some g) := by
  have H := Lib.hid h
  obtain ⟨hne, A, c, hg, hs⟩ := h
  have c0 := cell_of_row w g 0 _ _ (0, 0) hg
  have c1 := cell_of_row w g 1 _ _ (0, 0) hg
  simp only [List.getElem?_toArray, List.getElem?_cons_zero, List.getElem?_cons_succ] at c0 c1
  clear hg hs hne
  by_cases he : err = 0
  · subst he
    by_cases hl : l = []
    · subst hl
      go_enter Try.func67, Try.ntmps67
      go_wp2
      go_ret
      exact ⟨rfl, H.out, World.grownBy.refl _ _⟩
    · have hZ := Lib.hid (show doneRd 0 l = (3, (3, [])) by unfold doneRd; rw [if_neg (by simp), if_pos hl])
      have g1 : 0 < l.length := List.length_pos_iff.2 hl
      clear hl
      go_enter Try.func67, Try.ntmps67
      go_wp2_with fail
      refine (rfail_c g r 0 3 l _ H.out).mono ?_
      rintro e w3 ⟨rfl, hR, hG⟩
      go_wp2
      go_ret
      rw [hZ.out]
      exact ⟨rfl, hR, hG⟩
  · have hZ := Lib.hid (show doneRd err l = (err, (err, l)) by unfold doneRd; rw [if_pos he])
    have g1 : (err != 0) = true := by simpa using he
    clear he
    go_enter Try.func67, Try.ntmps67
    go_wp2
    go_ret
    rw [hZ.out]
    exact ⟨rfl, H.out, World.grownBy.refl _ _⟩
/-- the next text -/
def textRd (most err : Int) (l : List UInt8) : (ByteArray × Int) × (Int × List UInt8) :=
  if (rangeRd 0 most err l).1.2 ≠ 0 then ((⟨#[]⟩, (rangeRd 0 most err l).1.2), (rangeRd 0 most err l).2)
  else if ((rangeRd 0 most err l).2.2.length : Int) < (rangeRd 0 most err l).1.1 then ((⟨#[]⟩, 4), (4, []))
  else ((⟨((rangeRd 0 most err l).2.2.take (rangeRd 0 most err l).1.1.toNat).toArray⟩, 0), (0, (rangeRd 0 most err l).2.2.drop (rangeRd 0 most err l).1.1.toNat))
theorem textRd_left (most err : Int) (l : List UInt8) : (textRd most err l).2.2.length ≤ l.length ∧ (textRd most err l).2.1 = (textRd most err l).1.2 ∧ (textRd most err l).1.1.size ≤ l.length := by
  have h := rangeRd_left 0 most err l
  unfold textRd
  split
  · exact ⟨h.1, h.2, Nat.zero_le _⟩
  · split
    · exact ⟨by simp, rfl, Nat.zero_le _⟩
    · refine ⟨by simp only [List.length_drop]; omega, rfl, ?_⟩
      show ((rangeRd 0 most err l).2.2.take (rangeRd 0 most err l).1.1.toNat).toArray.size ≤ l.length
      simp only [List.size_toArray, List.length_take]; omega
set_option maxRecDepth 100000 in
set_option maxHeartbeats 4000000 in
theorem rtext_c (g r : Nat) (most err : Int) (l : List UInt8) (w : World) (h : Rd w g r err l) (hr : r < w.heap.size) (hn : l.length ≤ 65536) :
    Calls Try.prog 66 #[.pointer (some ⟨g, 0, none⟩), i64 most] w fun e w' => e = .returned (.tuple #[.string (textRd most err l).1.1, i64 (textRd most err l).1.2]) ∧ Rd w' g r (textRd most err l).2.1 (textRd most err l).2.2 ∧ w.grownBy w' (some g) := by
  have hN := Lib.hid (range_c g r 0 most err l w h hr hn)
  have hl := rangeRd_left 0 most err l
  have hi := rangeRd_in (lo := 0) (hi := most) (err := err) (l := l)
  have HN2 := Lib.hid (show textRd most err l = _ from rfl)
  unfold textRd at HN2
  have HN2 := Lib.hid (show ∀ q, q = rangeRd 0 most err l → textRd most err l = if q.1.2 ≠ 0 then ((⟨#[]⟩, q.1.2), q.2) else if (q.2.2.length : Int) < q.1.1 then ((⟨#[]⟩, 4), (4, [])) else ((⟨(q.2.2.take q.1.1.toNat).toArray⟩, 0), (0, q.2.2.drop q.1.1.toNat)) from fun q hq => by subst hq; rfl)
  have HN2 := Lib.hid (HN2.out _ rfl)
  generalize textRd most err l = Z at HN2 ⊢
  generalize rangeRd 0 most err l = q at hN HN2 hl hi
  obtain ⟨⟨n, e⟩, x, t⟩ := q
  obtain ⟨hl1, hl2⟩ := hl
  simp only at hl1 hl2 hi
  subst hl2
  go_enter Try.func66, Try.ntmps66
  go_wp2_with fail
  refine hN.out.mono ?_
  rintro e1 w1 ⟨rfl, hR, hG⟩
  have HR := Lib.hid hR
  have HG := Lib.hid hG
  clear hN
  have hr1 := Nat.lt_of_lt_of_le hr hG.size
  clear hG
  by_cases he : x = 0
  · subst he
    obtain ⟨hn0, hn1⟩ := hi rfl
    obtain ⟨m, rfl⟩ := Int.eq_ofNat_of_zero_le hn0
    clear hi hn0
    obtain ⟨hne, A, c, hg, hs⟩ := hR
    have c0 := cell_of_row w1 g 0 _ _ (0, 0) hg
    simp only [List.getElem?_toArray, List.getElem?_cons_zero] at c0
    have f0 := frozen_of_row w1 g 0 _ _ hg
    have hlc : t.length ≤ c := hs.1
    have Hg := Lib.hid hg
    have Hs := Lib.hid hs
    clear hg hs
    by_cases hm : t.length < m
    · have hZ := Lib.hid (show Z = ((⟨#[]⟩, 4), (4, [])) by rw [HN2.out, if_neg (by simp), if_pos (by omega)])
      have g1 : decide ((t.length : Int) < (m : Int)) = true := decide_eq_true (by omega)
      clear HN2
      go_wp2_with fail
      refine (rfail_c g r 0 4 t _ HR.out).mono ?_
      rintro e w3 ⟨rfl, hR, hG⟩
      go_wp2
      go_ret2
      rw [hZ.out]
      exact ⟨rfl, hR, grown_trans HG.out hG⟩
    · have hZ := Lib.hid (show Z = ((⟨(t.take m).toArray⟩, 0), (0, t.drop m)) by rw [HN2.out, if_neg (by simp), if_neg (by omega)]; rfl)
      have g1 : decide ((t.length : Int) < (m : Int)) = false := decide_eq_false (by omega)
      have hcv := conv_bytes (Hs.out.take m)
      rw [List.length_take, Nat.min_eq_left (by omega)] at hcv
      have j0 : (0 : Int) ≤ (m : Int) := by omega
      have j1 : (m : Int) ≤ (t.length : Int) := by omega
      have j2 : (t.length : Int) ≤ (c : Int) := by omega
      have j3 : (m : Int) ≤ (c : Int) := by omega
      have hdr := Lib.hid (Hs.out.drop (k := m) (by omega))
      have Hcv := Lib.hid hcv
      clear HN2
      by_cases hcm : c = m
      · obtain rfl := hcm
        have hset := Lib.hid (heap_setCell_same w1 g 0 _ _ (.slice A 0 0) Hg.out)
        have hG1 := grown_setCell (g := g) (World.grownBy.refl w1 (some g)) (p := ⟨g, 0, none⟩) (.inl rfl) (.slice A 0 0)
        have hnd : (t.drop c).length = 0 := by rw [List.length_drop]; omega
        go_wp2
        go_ret2
        rw [hZ.out]
        refine ⟨rfl, ⟨hne, _, _, by rw [hset.out]; simp only [List.setIfInBounds_toArray, List.set_cons_zero, hnd]; rfl, ?_⟩, grown_trans HG.out hG1⟩
        have := hdr.out
        simp only [if_true, Nat.sub_self] at this
        exact this.keep (fun p hp => World.cell?_of_block (w := w1) (by rw [hp]; exact hG1.block r hr1 (fun e => hne (by injection e)))) (fun _ h => h)
      · have hset := Lib.hid (heap_setCell_same w1 g 0 _ _ (.slice (Option.map (fun x : Addr => x.add m) A) (t.length - m) (c - m)) Hg.out)
        have hG1 := grown_setCell (g := g) (World.grownBy.refl w1 (some g)) (p := ⟨g, 0, none⟩) (.inl rfl) (.slice (Option.map (fun x : Addr => x.add m) A) (t.length - m) (c - m))
        have hnd : (t.drop m).length = t.length - m := List.length_drop ..
        go_wp2
        go_ret2
        rw [hZ.out]
        refine ⟨rfl, ⟨hne, _, _, by rw [hset.out]; simp only [List.setIfInBounds_toArray, List.set_cons_zero, hnd]; rfl, ?_⟩, grown_trans HG.out hG1⟩
        have := hdr.out
        rw [if_neg hcm, show Enc.size UInt8 = 1 from rfl, Nat.mul_one] at this
        exact this.keep (fun p hp => World.cell?_of_block (w := w1) (by rw [hp]; exact hG1.block r hr1 (fun e => hne (by injection e)))) (fun _ h => h)
  · have hZ := Lib.hid (show Z = ((⟨#[]⟩, x), (x, t)) by rw [HN2.out, if_pos he])
    have g1 : (x != 0) = true := by simpa using he
    clear he HN2 hi hR
    go_wp2
    go_ret2
    rw [hZ.out]
    exact ⟨rfl, HR.out, HG.out⟩
set_option maxRecDepth 100000 in
set_option maxHeartbeats 1000000 in
theorem name_c (g r : Nat) (err : Int) (l : List UInt8) (w : World) (h : Rd w g r err l) (hr : r < w.heap.size) (hn : l.length ≤ 65536) :
    Calls Try.prog 64 #[.pointer (some ⟨g, 0, none⟩)] w fun e w' => e = .returned (.string (textRd 8 err l).1.1) ∧ Rd w' g r (textRd 8 err l).2.1 (textRd 8 err l).2.2 ∧ w.grownBy w' (some g) := by
  have hN := Lib.hid (rtext_c g r 8 err l w h hr hn)
  generalize textRd 8 err l = q at hN ⊢
  obtain ⟨⟨n, e⟩, x, t⟩ := q
  go_enter Try.func64, Try.ntmps64
  go_wp2_with fail
  refine hN.out.mono ?_
  rintro e1 w1 ⟨rfl, hR, hG⟩
  have HR := Lib.hid hR
  have HG := Lib.hid hG
  clear hR hG hN
  go_wp2
  go_ret
  exact ⟨rfl, HR.out, HG.out⟩
set_option maxRecDepth 100000 in
set_option maxHeartbeats 4000000 in
theorem rnew_c (A : Option Addr) (c : Nat) (l : List UInt8) (w : World) (h : Sl w w.heap.size A c l) (hn : l.length ≤ 65536) :
    Calls Try.prog 62 #[.slice A l.length c] w fun e w' => e = .returned (.pointer (some ⟨w.heap.size + 1, 0, none⟩)) ∧ Rd w' (w.heap.size + 1) w.heap.size 0 l ∧ w'.heap.size = w.heap.size + 2 ∧ Below w.heap.size w w' := by
  obtain ⟨i, hi, hz, hz1, hz2⟩ := info_parts inf_byte
  have hmk := run_makeSlice (P := Try.prog) (w := w) 36 5 i (.int .u8 0) Try.underlying36 hi hz .i64 .i64 l.length l.length (by omega) (Int.le_refl _) (by rw [Int.toNat_natCast, hz1]; show l.length * 1 ≤ _; omega) (by rw [hz2]; omega) (by omega)
  have hsz := size_madeCells (Value.int IntKind.u8 0).cells (((l.length : Int)).toNat * i.size)
  simp only [Int.toNat_natCast, hz1, show Enc.size UInt8 = 1 from rfl, Nat.mul_one] at hmk hsz
  generalize madeCells (Value.int IntKind.u8 0).cells l.length = Z at hmk hsz
  clear hi hz hz1 hz2
  have hb1 := ((Below.refl w.heap.size w).alloc (Nat.le_refl _) (.cells Z 5)).alloc (by simp) (.cells #[.slice (some ⟨w.heap.size, 0, none⟩) l.length l.length, i64 0] 110)
  have hg0 := heap_alloc2_old w (.cells Z 5) (.cells #[.slice (some ⟨w.heap.size, 0, none⟩) l.length l.length, i64 0] 110)
  have hg1 := heap_alloc2_new w (.cells Z 5) (.cells #[.slice (some ⟨w.heap.size, 0, none⟩) l.length l.length, i64 0] 110)
  have hs2 := h.later hb1
  have hsz2 : ((w.alloc (.cells Z 5)).alloc (.cells #[.slice (some ⟨w.heap.size, 0, none⟩) l.length l.length, i64 0] 110)).heap.size = w.heap.size + 2 := by simp
  have f0 := frozen_of_row _ (w.heap.size + 1) 0 _ _ hg1
  have c0 := cell_of_row _ (w.heap.size + 1) 0 _ _ (0, 0) hg1
  simp only [List.getElem?_toArray, List.getElem?_cons_zero] at c0
  have hcp : ∀ ty, (Builtin.copy_ #[36, 36] ty #[.slice (some ⟨w.heap.size, 0, none⟩) l.length l.length, .slice A l.length c]).run Try.prog ((w.alloc (.cells Z 5)).alloc (.cells #[.slice (some ⟨w.heap.size, 0, none⟩) l.length l.length, i64 0] 110)) =
      .ok (goInt l.length) (((w.alloc (.cells Z 5)).alloc (.cells #[.slice (some ⟨w.heap.size, 0, none⟩) l.length l.length, i64 0] 110)).setRow w.heap.size (l.map fun b => Value.int .u8 b.toNat).toArray) := fun ty => by
    by_cases hl : l = []
    · subst hl
      have hz0 : Z = #[] := Array.eq_empty_of_size_eq_zero (by simpa using hsz)
      subst hz0
      rw [run_copy_none _ _ _ ty 5 _ _ _ _ _ _ Try.underlying36 (by kernel_rfl) (by rfl), List.map_nil, setRow_self _ _ _ _ _ hg0]
      rfl
    · obtain ⟨b, o, rfl, -, hc⟩ := hs2.2.2.1 (List.length_pos_iff.2 hl)
      rw [run_copy_row _ _ _ _ ty 5 w.heap.size 0 l.length l.length ⟨b, o, none⟩ l.length c Z 5 (l.map fun b => Value.int .u8 b.toNat) Try.underlying36 (by kernel_rfl) hg0 (by simp) (fun j v hj => by
        rw [show (⟨b, o, none⟩ : Addr).add j = ⟨b, o + j, none⟩ from by unfold Addr.add; split <;> simp_all]
        exact hc j v (by rw [flat_byte, ← List.getElem?_map]; exact hj)) (by simp [hsz]) (by simp only [List.mem_map]; rintro v ⟨b, _, rfl⟩; rfl)]
      rw [List.length_map, List.take_zero, List.nil_append, Nat.zero_add, List.drop_eq_nil_of_le (by rw [Array.length_toList, hsz]; exact Nat.le_refl _), List.append_nil]
  have Hcp := Lib.hid hcp
  have Hg0 := Lib.hid hg0
  have Hg1 := Lib.hid hg1
  have Hb1 := Lib.hid hb1
  have Hsz2 := Lib.hid hsz2
  clear hg0 hg1 hb1 hs2 hsz2 h hsz
  go_enter Try.func62, Try.ntmps62
  go_wp2
  go_ret
  refine ⟨rfl, ⟨by omega, some ⟨w.heap.size, 0, none⟩, l.length, ?_, ?_⟩, ?_, ?_⟩
  · rw [setRow_other _ _ _ _ (by omega), Hg1.out]
  · refine ⟨Nat.le_refl _, by simp only [maxLen]; omega, fun _ => ⟨w.heap.size, 0, rfl, rfl, fun j u hu => ?_⟩, fun _ _ => trivial⟩
    rw [Nat.zero_add, cell_setRow_same _ _ _ _ _ _ _ Hg0.out]
    rw [flat_byte] at hu
    simpa using hu
  · rw [setRow_size]; exact Hsz2.out
  · exact Hb1.out.trans ⟨rfl, rfl, rfl, by simp, fun k hk => setRow_other _ _ _ _ (by omega)⟩
end Go.Proofs.Ytogecfddkohigaa
