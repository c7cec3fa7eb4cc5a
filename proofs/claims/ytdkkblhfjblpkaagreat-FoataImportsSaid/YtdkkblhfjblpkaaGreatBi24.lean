/- Texts of this claim, laid together: RfRead. -/
import Derived.Test.YtdkkblhfjblpkaaGreatRows
import Derived.Test.YtdkkblhfjblpkaaGreatBi22
import Derived.Test.YtdkkblhfjblpkaaGreatBi23
import Derived.Test.YtdkkblhfjblpkaaGreatBi13
import Derived.Test.YtdkkblhfjblpkaaGreatBi3
import Derived.Laws.ResultCell
import Derived.Deep.Cut
import Derived.WalkKit
import Derived.WalkSpells
import Derived.WalkLawsBesides
import Derived.Deep.QuietTactic
import Derived.BigQuiet
import Derived.Laws.StructEq
import Derived.Deep.DeepFit
import Derived.StillTailTactics

/- the reference's Read -/
namespace Go.Proofs.YtdkkblhfjblpkaaGreat
open Go.RowKit
abbrev rg (lo hi : Int) (s : St) : (Int × Int) × St := rangeRd lo hi s.1 s.2
def pS1 (l : List UInt8) : St := (rg 0 9 (0, l)).2
def pS2 (l : List UInt8) : St := (rg 1 999 (pS1 l)).2
def pS3 (l : List UInt8) : St := (rg 1 7 (pS2 l)).2
def uS4 (s : St) : St := (txR 8 s).2
def uS5 (s : St) : St := (txR 8 (uS4 s)).2
def uS6 (s : St) : St := (nuR (uS5 s)).2
def uS7 (s : St) : St := (smR 6 (uS6 s)).2
def uN (s : St) : Nat := (smR 6 (uS6 s)).1.1.toNat
def uS8 (s : St) : St := (legsR (uN s) (uS7 s)).2
def uS9 (s : St) : St := (smR 1000 (uS8 s)).2
def uS10 (s : St) : St := (smR 9999 (uS9 s)).2
def uS11 (s : St) : St := (txR 20 (uS10 s)).2
def odOf (c q k : Int) (s : St) : Od := ⟨c, q, k, (txR 8 s).1.1, (txR 8 (uS4 s)).1.1, (nuR (uS5 s)).1.1, none, 0, (legsR (uN s) (uS7 s)).1, (smR 1000 (uS8 s)).1.1, (smR 9999 (uS9 s)).1.1, (txR 20 (uS10 s)).1.1⟩
/-- the order that the reference reads, whether it may be or not -/
def raw2 (l : List UInt8) : Od := odOf (rg 0 9 (0, l)).1.1 (rg 1 999 (pS1 l)).1.1 (rg 1 7 (pS2 l)).1.1 (pS3 l)
def ok2 (l : List UInt8) : Bool := decide ((uS11 (pS3 l)).1 = 0 ∧ (uS11 (pS3 l)).2 = []) && rightB (raw2 l)
theorem s4_of (l : List UInt8) : s4 l = uS4 (s3 l) := by unfold s4 uS4; exact Eq.refl _
theorem s5_of (l : List UInt8) : s5 l = uS5 (s3 l) := by unfold s5 uS5; rw [s4_of]
theorem s6_of (l : List UInt8) : s6 l = uS6 (s3 l) := by unfold s6 uS6; rw [s5_of]
theorem s7_of (l : List UInt8) : s7 l = uS7 (s3 l) := by unfold s7 uS7; rw [s6_of]
theorem nLegs_of (l : List UInt8) : nLegs l = uN (s3 l) := by unfold nLegs uN; rw [s6_of]
theorem s8_of (l : List UInt8) : s8 l = uS8 (s3 l) := by unfold s8 uS8; rw [s7_of, nLegs_of]
theorem s9_of (l : List UInt8) : s9 l = uS9 (s3 l) := by unfold s9 uS9; rw [s8_of]
theorem s10_of (l : List UInt8) : s10 l = uS10 (s3 l) := by unfold s10 uS10; rw [s9_of]
theorem s11_of (l : List UInt8) : s11 l = uS11 (s3 l) := by unfold s11 uS11; rw [s10_of]
theorem rawO_of (l : List UInt8) : rawO l = odOf (smR 9 (0, l)).1.1 (smR 999 (s1 l)).1.1 (smR 7 (s2 l)).1.1 (s3 l) := by
  unfold rawO odOf
  rw [s4_of, s5_of, nLegs_of, s7_of, s8_of, s9_of, s10_of]
theorem uS11_err {s : St} (h : (uS11 s).1 = 0) : s.1 = 0 := by
  obtain ⟨h10, _⟩ := txR_dec (m := 20) (s := uS10 s) h
  obtain ⟨h9, _⟩ := smR_dec (m := 9999) (s := uS9 s) h10
  obtain ⟨h8, _⟩ := smR_dec (m := 1000) (s := uS8 s) h9
  obtain ⟨h7, _⟩ := legsR_dec (uN s) (uS7 s) h8
  obtain ⟨h6, _⟩ := smR_dec (m := 6) (s := uS6 s) h7
  obtain ⟨h5, _⟩ := nuR_dec (s := uS5 s) h6
  obtain ⟨h4, _⟩ := txR_dec (m := 8) (s := uS4 s) h5
  exact (txR_dec (m := 8) (s := s) h4).1
theorem rg1_sm {m : Int} {s : St} (h : (rg 1 m s).2.1 = 0) : rg 1 m s = smR m s := by
  unfold rg smR rangeRd at *
  by_cases he : (numRd s.1 s.2).1.2 ≠ 0
  · rw [if_pos he, if_pos he]
  · rw [if_neg he] at h ⊢
    rw [if_neg he]
    by_cases hr : (numRd s.1 s.2).1.1 < 1 ∨ m < (numRd s.1 s.2).1.1
    · rw [if_pos hr] at h
      exact absurd h (by decide)
    · rw [if_neg hr, if_neg (by omega)]
theorem rg1_sm2 {m : Int} {s : St} (h : (smR m s).2.1 = 0) (h1 : 1 ≤ (smR m s).1.1) : rg 1 m s = smR m s := by
  unfold rg smR rangeRd at *
  by_cases he : (numRd s.1 s.2).1.2 ≠ 0
  · rw [if_pos he, if_pos he]
  · rw [if_neg he] at h h1 ⊢
    rw [if_neg he]
    by_cases hr : (numRd s.1 s.2).1.1 < 0 ∨ m < (numRd s.1 s.2).1.1
    · rw [if_pos hr] at h
      exact absurd h (by decide)
    · rw [if_neg hr] at h1 ⊢
      simp only at h1
      rw [if_neg (by omega)]
theorem chain_of {l : List UInt8} (h3 : rg 1 7 (s2 l) = smR 7 (s2 l)) (h2 : rg 1 999 (s1 l) = smR 999 (s1 l)) : raw2 l = rawO l ∧ pS3 l = s3 l := by
  have e1 : pS1 l = s1 l := rfl
  have e2 : pS2 l = s2 l := by unfold pS2; rw [e1, h2]; rfl
  have e3 : pS3 l = s3 l := by unfold pS3; rw [e2, h3]; rfl
  refine ⟨?_, e3⟩
  unfold raw2
  rw [rawO_of, e3, e2, e1, h3, h2]
theorem read2_law (l : List UInt8) : readOk l = ok2 l ∧ (readOk l = true → raw2 l = rawO l) := by
  by_cases hk : readOk l = true
  · have hk2 := hk
    unfold readOk at hk2
    rw [Bool.and_eq_true] at hk2
    obtain ⟨hd, hR⟩ := hk2
    obtain ⟨h11, ht⟩ := doneRd_nil (of_decide_eq_true hd)
    obtain ⟨_, fq, fk, _⟩ := fit_of hR
    rw [s11_of] at h11 ht
    have h3 : (smR 7 (s2 l)).2.1 = 0 := uS11_err (s := s3 l) h11
    have h2 : (smR 999 (s1 l)).2.1 = 0 := (smR_dec (m := 7) (s := s2 l) h3).1
    obtain ⟨e, e3⟩ := chain_of (rg1_sm2 h3 fk.1) (rg1_sm2 h2 fq.1)
    refine ⟨?_, fun _ => e⟩
    rw [hk]
    unfold ok2
    rw [e, hR, e3, decide_eq_true (show (uS11 (s3 l)).1 = 0 ∧ (uS11 (s3 l)).2 = [] from ⟨h11, ht⟩)]
    rfl
  · refine ⟨?_, fun h => absurd h hk⟩
    rw [Bool.eq_iff_iff]
    refine ⟨fun h => absurd h hk, fun h => ?_⟩
    exfalso
    apply hk
    unfold ok2 at h
    rw [Bool.and_eq_true] at h
    obtain ⟨hd, hR⟩ := h
    obtain ⟨h11, ht⟩ := of_decide_eq_true hd
    have h3 : (rg 1 7 (pS2 l)).2.1 = 0 := uS11_err (s := pS3 l) h11
    have e3 := rg1_sm h3
    rw [e3] at h3
    have h2 : (rg 1 999 (s1 l)).2.1 = 0 := (smR_dec (m := 7) (s := pS2 l) h3).1
    have e2 := rg1_sm h2
    have e4 : pS2 l = s2 l := by show (rg 1 999 (s1 l)).2 = _; rw [e2]; rfl
    rw [e4] at e3
    obtain ⟨e, e5⟩ := chain_of e3 e2
    rw [e] at hR
    rw [e5] at h11 ht
    unfold readOk
    rw [hR, s11_of, h11, ht]
    rfl
/-- bytes that lie below lie in one block -/
theorem Sl.one {w : World} {n : Nat} {A : Option Addr} {c : Nat} {l : List UInt8} (h : Sl w n A c l) (_hn : n ≤ w.heap.size) : ∃ r ≤ n, ∀ w', Below n w w' → SlS w' (fun b => b = r) A c l := by
  obtain ⟨h1, h2, h3, h4⟩ := h
  by_cases hl : 0 < l.length
  · obtain ⟨b, o, hA, hb, hc⟩ := h3 hl
    have hs : SlS w (fun x => x = b) A c l := ⟨h1, h2, fun _ => ⟨b, o, hA, rfl, hc⟩, fun x hx => h4 x hx⟩
    exact ⟨b, Nat.le_of_lt hb, fun w' hB => hs.keep (fun p hp => World.cell?_of_block (w := w) (by rw [hp]; exact hB.block b hb)) (fun _ h => h)⟩
  · exact ⟨n, Nat.le_refl _, fun w' _ => ⟨h1, h2, fun h => absurd h hl, fun x hx => absurd (List.length_pos_of_mem hx) hl⟩⟩
/-- in the midst of a reading: the reader in block g (what is left in r), the order in q, the result in t -/
structure MidQ (w W : World) (r g q t : Nat) (s : St) (cs : Array Value) : Prop where
  rd : RQ W g r s.1 s.2
  lt : r < W.heap.size
  row : W.heap[q]? = some (.cells cs 50 (0, 0))
  res : W.heap[t]? = some (.cells #[i64 0, i64 0, i64 0, .string ⟨#[]⟩, .string ⟨#[]⟩, i64 0, .slice none 0 0, i64 0, i64 0, .string ⟨#[]⟩] 50 (0, 0))
  bel : Below w.heap.size w W
  at_ : w.heap.size ≤ t ∧ r ≤ t ∧ t < g ∧ g < q
theorem MidQ.call {w W W' : World} {r g q t : Nat} {s s' : St} {cs : Array Value} (m : MidQ w W r g q t s cs) (h : RQ W' g r s'.1 s'.2) (k : W.grownBy W' (some g)) : MidQ w W' r g q t s' cs := by
  obtain ⟨_, lt, row, res, bel, a, b, c, d⟩ := m
  refine ⟨h, Nat.lt_of_lt_of_le lt k.size, ?_, ?_, bel.trans (below_of_grown k bel.size (fun k e => by injection e; omega)), a, b, c, d⟩
  · rw [k.block q (Array.getElem?_eq_some_iff.1 row).1 (fun e => by injection e; omega), row]
  · rw [k.block t (Array.getElem?_eq_some_iff.1 res).1 (fun e => by injection e; omega), res]
theorem MidQ.store {w W : World} {r g q t : Nat} {s : St} {cs : Array Value} (m : MidQ w W r g q t s cs) (j : Nat) (v : Value) : MidQ w (W.setCell ⟨q, j, none⟩ v) r g q t s (cs.setIfInBounds j v) := by
  obtain ⟨rd, lt, row, res, bel, a, b, c, d⟩ := m
  have k := grown_setCell (g := q) (World.grownBy.refl W (some q)) (p := ⟨q, j, none⟩) (.inl rfl) v
  refine ⟨rd.grown k (by simp; omega) (by simp; omega) lt, Nat.lt_of_lt_of_le lt k.size, heap_setCell_same W q j _ _ v row, ?_, bel.trans (below_of_grown k bel.size (fun k e => by injection e; omega)), a, b, c, d⟩
  rw [k.block t (Array.getElem?_eq_some_iff.1 res).1 (fun e => by injection e; omega), res]
theorem MidQ.later {w W W' : World} {r g q t : Nat} {s : St} {cs : Array Value} (m : MidQ w W r g q t s cs) (h : Below W.heap.size W W') : MidQ w W' r g q t s cs := by
  obtain ⟨rd, lt, row, res, bel, a⟩ := m
  exact ⟨rd.later lt h, Nat.lt_of_lt_of_le lt h.size, by rw [h.block q (Array.getElem?_eq_some_iff.1 row).1, row], by rw [h.block t (Array.getElem?_eq_some_iff.1 res).1, res], below_on bel (Nat.le_refl _) h |> fun k => k.mono (Nat.le_refl _), a⟩
theorem MidQ.grown {w W W' : World} {r g q t : Nat} {s : St} {cs : Array Value} {row : Option Nat} (m : MidQ w W r g q t s cs) (k : W.grownBy W' row) (hq : ∀ b, row = some b → q < b) : MidQ w W' r g q t s cs := by
  obtain ⟨rd, lt, hrow, res, bel, a, b, c, d⟩ := m
  have hne : ∀ k, k ≤ q → some k ≠ row := fun k hk e => by have := hq k e.symm; omega
  refine ⟨rd.grown k (fun e => hne g (by omega) e.symm) (fun e => hne r (by omega) e.symm) lt, Nat.lt_of_lt_of_le lt k.size, ?_, ?_, bel.trans (below_of_grown k bel.size (fun k e => by have := hq k e; omega)), a, b, c, d⟩
  · rw [k.block q (Array.getElem?_eq_some_iff.1 hrow).1 (hne q (Nat.le_refl _)), hrow]
  · rw [k.block t (Array.getElem?_eq_some_iff.1 res).1 (hne t (by omega)), res]
set_option maxRecDepth 100000 in
set_option maxHeartbeats 8000000 in
theorem rread_own (A : Option Addr) (c : Nat) (l : List UInt8) (w : World) (h : Sl w w.heap.size A c l) (hn : l.length ≤ 60000) :
    Calls Tryz.prog 78 #[.slice A l.length c] w fun e w' => ∃ o : Od, e = .returned (.tuple #[o.v, i64 (readE l)]) ∧ ({ o with la := none, lc := 0 } : Od) = readO l ∧ Enc.ok w' (fun b => w.heap.size ≤ b ∧ b < w'.heap.size) o ∧ Below w.heap.size w w' := by
  obtain ⟨r, hr, hone⟩ := h.one (Nat.le_refl _)
  have hbw := ((Below.refl w.heap.size w).alloc (Nat.le_refl _) (.cells #[i64 0, i64 0, i64 0, .string ⟨#[]⟩, .string ⟨#[]⟩, i64 0, .slice none 0 0, i64 0, i64 0, .string ⟨#[]⟩] 50)).alloc (by simp) (.cells #[.slice A l.length c, i64 0] 124)
  have hR : RQ ((w.alloc (.cells #[i64 0, i64 0, i64 0, .string ⟨#[]⟩, .string ⟨#[]⟩, i64 0, .slice none 0 0, i64 0, i64 0, .string ⟨#[]⟩] 50)).alloc (.cells #[.slice A l.length c, i64 0] 124)) (w.heap.size + 1) r 0 l := ⟨by omega, A, c, heap_alloc2_new w _ _, hone _ hbw⟩
  have hr1 := heap_alloc2_old w (.cells #[i64 0, i64 0, i64 0, .string ⟨#[]⟩, .string ⟨#[]⟩, i64 0, .slice none 0 0, i64 0, i64 0, .string ⟨#[]⟩] 50) (.cells #[.slice A l.length c, i64 0] 124)
  have hlt : r < ((w.alloc (.cells #[i64 0, i64 0, i64 0, .string ⟨#[]⟩, .string ⟨#[]⟩, i64 0, .slice none 0 0, i64 0, i64 0, .string ⟨#[]⟩] 50)).alloc (.cells #[.slice A l.length c, i64 0] 124)).heap.size := by simp; omega
  clear hone h
  go_enter Tryz.func78, Tryz.ntmps78
  go_wp2_with fail
  generalize (w.alloc (.cells #[i64 0, i64 0, i64 0, .string ⟨#[]⟩, .string ⟨#[]⟩, i64 0, .slice none 0 0, i64 0, i64 0, .string ⟨#[]⟩] 50)).alloc (.cells #[.slice A l.length c, i64 0] 124) = W1 at *
  generalize hg : w.heap.size + 1 = g at *
  have l0 : ((0, l) : St).2.length ≤ 60000 := hn

  have hC := qrange_c g r 0 9 (((0, l) : St)).1 (((0, l) : St)).2 _ hR hlt (by omega)
  have l1 : (rangeRd 0 9 (((0, l) : St)).1 (((0, l) : St)).2).2.2.length ≤ 60000 := Nat.le_trans (rangeRd_left 0 9 (((0, l) : St)).1 (((0, l) : St)).2).1 l0
  obtain ⟨q1, hq⟩ : ∃ q, rangeRd 0 9 (((0, l) : St)).1 (((0, l) : St)).2 = q := ⟨_, rfl⟩
  rw [hq] at hC l1
  have Hq1 := Lib.hid hq
  clear hq
  refine hC.mono ?_
  rintro e Wq1 ⟨rfl, hR, hG⟩
  clear hC
  have hbw := hbw.trans (below_of_grown hG (B := w.heap.size) hbw.size (fun k e => by injection e; omega))
  have hlt := Nat.lt_of_lt_of_le hlt hG.size
  have hr1 := (hG.block _ (Array.getElem?_eq_some_iff.1 hr1).1 (fun e => by injection e; omega)).trans hr1
  have hR : RQ Wq1 g r q1.2.1 q1.2.2 := hR
  clear hG
  have hC := qrange_c g r 1 999 (q1.2).1 (q1.2).2 _ hR hlt (by omega)
  have l2 : (rangeRd 1 999 (q1.2).1 (q1.2).2).2.2.length ≤ 60000 := Nat.le_trans (rangeRd_left 1 999 (q1.2).1 (q1.2).2).1 l1
  obtain ⟨q2, hq⟩ : ∃ q, rangeRd 1 999 (q1.2).1 (q1.2).2 = q := ⟨_, rfl⟩
  rw [hq] at hC l2
  have Hq2 := Lib.hid hq
  clear hq
  go_wp2_with fail
  refine hC.mono ?_
  rintro e Wq2 ⟨rfl, hR, hG⟩
  clear hC
  have hbw := hbw.trans (below_of_grown hG (B := w.heap.size) hbw.size (fun k e => by injection e; omega))
  have hlt := Nat.lt_of_lt_of_le hlt hG.size
  have hr1 := (hG.block _ (Array.getElem?_eq_some_iff.1 hr1).1 (fun e => by injection e; omega)).trans hr1
  have hR : RQ Wq2 g r q2.2.1 q2.2.2 := hR
  clear hG
  have hC := qrange_c g r 1 7 (q2.2).1 (q2.2).2 _ hR hlt (by omega)
  have l3 : (rangeRd 1 7 (q2.2).1 (q2.2).2).2.2.length ≤ 60000 := Nat.le_trans (rangeRd_left 1 7 (q2.2).1 (q2.2).2).1 l2
  obtain ⟨q3, hq⟩ : ∃ q, rangeRd 1 7 (q2.2).1 (q2.2).2 = q := ⟨_, rfl⟩
  rw [hq] at hC l3
  have Hq3 := Lib.hid hq
  clear hq
  go_wp2_with fail
  refine hC.mono ?_
  rintro e Wq3 ⟨rfl, hR, hG⟩
  clear hC
  have hbw := hbw.trans (below_of_grown hG (B := w.heap.size) hbw.size (fun k e => by injection e; omega))
  have hlt := Nat.lt_of_lt_of_le hlt hG.size
  have hr1 := (hG.block _ (Array.getElem?_eq_some_iff.1 hr1).1 (fun e => by injection e; omega)).trans hr1
  have hR : RQ Wq3 g r q3.2.1 q3.2.2 := hR
  clear hG
  have hC := qtext_c g r 8 (q3.2).1 (q3.2).2 _ hR hlt (by omega)
  have l4 : (textRd 8 (q3.2).1 (q3.2).2).2.2.length ≤ 60000 := Nat.le_trans (textRd_left 8 (q3.2).1 (q3.2).2).1 l3
  have zq4 : (textRd 8 (q3.2).1 (q3.2).2).1.1.size ≤ 60000 := Nat.le_trans (textRd_left 8 (q3.2).1 (q3.2).2).2.2 l3
  obtain ⟨q4, hq⟩ : ∃ q, textRd 8 (q3.2).1 (q3.2).2 = q := ⟨_, rfl⟩
  rw [hq] at hC l4 zq4
  have Hq4 := Lib.hid hq
  clear hq
  go_wp2_with fail
  refine hC.mono ?_
  rintro e Wq4 ⟨rfl, hR, hG⟩
  clear hC
  have hbw := hbw.trans (below_of_grown hG (B := w.heap.size) hbw.size (fun k e => by injection e; omega))
  have hlt := Nat.lt_of_lt_of_le hlt hG.size
  have hr1 := (hG.block _ (Array.getElem?_eq_some_iff.1 hr1).1 (fun e => by injection e; omega)).trans hr1
  have hR : RQ Wq4 g r q4.2.1 q4.2.2 := hR
  clear hG
  have hC := qtext_c g r 8 (q4.2).1 (q4.2).2 _ hR hlt (by omega)
  have l5 : (textRd 8 (q4.2).1 (q4.2).2).2.2.length ≤ 60000 := Nat.le_trans (textRd_left 8 (q4.2).1 (q4.2).2).1 l4
  have zq5 : (textRd 8 (q4.2).1 (q4.2).2).1.1.size ≤ 60000 := Nat.le_trans (textRd_left 8 (q4.2).1 (q4.2).2).2.2 l4
  obtain ⟨q5, hq⟩ : ∃ q, textRd 8 (q4.2).1 (q4.2).2 = q := ⟨_, rfl⟩
  rw [hq] at hC l5 zq5
  have Hq5 := Lib.hid hq
  clear hq
  go_wp2_with fail
  refine hC.mono ?_
  rintro e Wq5 ⟨rfl, hR, hG⟩
  clear hC
  have hbw := hbw.trans (below_of_grown hG (B := w.heap.size) hbw.size (fun k e => by injection e; omega))
  have hlt := Nat.lt_of_lt_of_le hlt hG.size
  have hr1 := (hG.block _ (Array.getElem?_eq_some_iff.1 hr1).1 (fun e => by injection e; omega)).trans hr1
  have hR : RQ Wq5 g r q5.2.1 q5.2.2 := hR
  clear hG
  have hC := qnum_c g r (q5.2).1 (q5.2).2 _ hR hlt (by omega)
  have l6 : (numRd (q5.2).1 (q5.2).2).2.2.length ≤ 60000 := Nat.le_trans (numRd_left (q5.2).1 (q5.2).2).1 l5
  obtain ⟨q6, hq⟩ : ∃ q, numRd (q5.2).1 (q5.2).2 = q := ⟨_, rfl⟩
  rw [hq] at hC l6
  have Hq6 := Lib.hid hq
  clear hq
  go_wp2_with fail
  refine hC.mono ?_
  rintro e Wq6 ⟨rfl, hR, hG⟩
  clear hC
  have hbw := hbw.trans (below_of_grown hG (B := w.heap.size) hbw.size (fun k e => by injection e; omega))
  have hlt := Nat.lt_of_lt_of_le hlt hG.size
  have hr1 := (hG.block _ (Array.getElem?_eq_some_iff.1 hr1).1 (fun e => by injection e; omega)).trans hr1
  have hR : RQ Wq6 g r q6.2.1 q6.2.2 := hR
  clear hG
  have hC := qrange_c g r 0 6 (q6.2).1 (q6.2).2 _ hR hlt (by omega)
  have l7 : (rangeRd 0 6 (q6.2).1 (q6.2).2).2.2.length ≤ 60000 := Nat.le_trans (rangeRd_left 0 6 (q6.2).1 (q6.2).2).1 l6
  obtain ⟨q7, hq⟩ : ∃ q, rangeRd 0 6 (q6.2).1 (q6.2).2 = q := ⟨_, rfl⟩
  rw [hq] at hC l7
  have Hq7 := Lib.hid hq
  clear hq
  go_wp2_with fail
  refine hC.mono ?_
  rintro e Wq7 ⟨rfl, hR, hG⟩
  clear hC
  have hbw := hbw.trans (below_of_grown hG (B := w.heap.size) hbw.size (fun k e => by injection e; omega))
  have hlt := Nat.lt_of_lt_of_le hlt hG.size
  have hr1 := (hG.block _ (Array.getElem?_eq_some_iff.1 hr1).1 (fun e => by injection e; omega)).trans hr1
  have hR : RQ Wq7 g r q7.2.1 q7.2.2 := hR
  clear hG
  have hin := smR_in (m := 6) (by decide) q6.2
  simp only [smR, Hq7.out] at hin
  obtain ⟨n, hnn⟩ := Int.eq_ofNat_of_zero_le hin.1
  have hn6 : n ≤ 6 := by omega
  have HN := Lib.hid hnn
  clear hin
  rw [hnn]
  clear hnn
  have hB1 := (Below.refl Wq7.heap.size Wq7).alloc (Nat.le_refl _) (.cells #[i64 q1.1.1, i64 q2.1.1, i64 q3.1.1, .string q4.1.1, .string q5.1.1, i64 q6.1.1, .slice none 0 0, i64 0, i64 0, .string ⟨#[]⟩] 50)
  have hgt := (hR.lt : g < Wq7.heap.size)
  have M : MidQ w (Wq7.alloc (.cells #[i64 q1.1.1, i64 q2.1.1, i64 q3.1.1, .string q4.1.1, .string q5.1.1, i64 q6.1.1, .slice none 0 0, i64 0, i64 0, .string ⟨#[]⟩] 50)) r g Wq7.heap.size w.heap.size q7.2 #[i64 q1.1.1, i64 q2.1.1, i64 q3.1.1, .string q4.1.1, .string q5.1.1, i64 q6.1.1, .slice none 0 0, i64 0, i64 0, .string ⟨#[]⟩] := ⟨hR.later hlt hB1, Nat.lt_of_lt_of_le hlt hB1.size, heap_alloc_new Wq7 _, (hB1.block _ (Array.getElem?_eq_some_iff.1 hr1).1).trans hr1, below_on hbw (Nat.le_refl _) hB1, Nat.le_refl _, hr, by omega, hgt⟩
  clear hbw hr1 hR hB1 hlt hgt
  generalize hW4 : Wq7.alloc (.cells #[i64 q1.1.1, i64 q2.1.1, i64 q3.1.1, .string q4.1.1, .string q5.1.1, i64 q6.1.1, .slice none 0 0, i64 0, i64 0, .string ⟨#[]⟩] 50) = W4 at M
  have HW4 := Lib.hid hW4
  clear hW4
  go_wp2_with fail
  rw [HW4.out]
  clear HW4
  generalize Wq7.heap.size = q at *
  go_loopw [20] (fun i W => ∃ (k : Nat) (v : Value) (L : List Leg) (S : St), i = i64 k ∧ k ≤ n ∧ MidQ w W r g q w.heap.size S #[i64 q1.1.1, i64 q2.1.1, i64 q3.1.1, .string q4.1.1, .string q5.1.1, i64 q6.1.1, v, i64 0, i64 0, .string ⟨#[]⟩] ∧ Own W (q + 1) 167 v L ∧ L.length = k ∧ legsR n q7.2 = (L ++ (legsR (n - k) S).1, (legsR (n - k) S).2) ∧ S.2.length ≤ 60000) (fun i _ => n - (intOf i).toNat)
  case atStart => exact ⟨0, .slice none 0 0, [], q7.2, rfl, by omega, M, Own.nil_ _ _ _, rfl, by simp, l7⟩
  case round =>
    obtain ⟨k, v, L, S, rfl, hk, M, hO, hLk, hlr, lS⟩ := hrel
    have Hlr := Lib.hid hlr
    have HLk := Lib.hid hLk
    clear hlr hLk
    by_cases hlt : k < n
    · have hC := qtext_c g r 8 (S).1 (S).2 _ M.rd M.lt (by omega)
      have la : (textRd 8 (S).1 (S).2).2.2.length ≤ 60000 := Nat.le_trans (textRd_left 8 (S).1 (S).2).1 lS
      have za1 : (textRd 8 (S).1 (S).2).1.1.size ≤ 60000 := Nat.le_trans (textRd_left 8 (S).1 (S).2).2.2 lS
      obtain ⟨a1, hq⟩ : ∃ q, textRd 8 (S).1 (S).2 = q := ⟨_, rfl⟩
      rw [hq] at hC la za1
      have Ha1 := Lib.hid hq
      clear hq
      go_wp2_with fail
      refine hC.mono ?_
      rintro e Wa1 ⟨rfl, hR, hG⟩
      clear hC
      have M := M.call (s' := a1.2) hR hG
      have hO := hO.offL hG (by have := M.at_; omega)
      clear hR hG
      have hC := qnum_c g r (a1.2).1 (a1.2).2 _ M.rd M.lt (by omega)
      have lb : (numRd (a1.2).1 (a1.2).2).2.2.length ≤ 60000 := Nat.le_trans (numRd_left (a1.2).1 (a1.2).2).1 la
      obtain ⟨a2, hq⟩ : ∃ q, numRd (a1.2).1 (a1.2).2 = q := ⟨_, rfl⟩
      rw [hq] at hC lb
      have Ha2 := Lib.hid hq
      clear hq
      go_wp2_with fail
      refine hC.mono ?_
      rintro e Wa2 ⟨rfl, hR, hG⟩
      clear hC
      have M := M.call (s' := a2.2) hR hG
      have hO := hO.offL hG (by have := M.at_; omega)
      clear hR hG
      have kq := cell_of_row _ q 6 _ _ (0, 0) M.row
      simp only [List.getElem?_toArray, List.getElem?_cons_zero, List.getElem?_cons_succ] at kq
      have HB7 := (Below.refl Wa2.heap.size Wa2).alloc (Nat.le_refl _) (.cells #[.string a1.1.1, i64 a2.1.1] 167)
      have HH := Lib.hid (heap_alloc_new Wa2 (.cells #[.string a1.1.1, i64 a2.1.1] 167))
      have Hne := Lib.hid (hO.new_ne (Nat.le_refl Wa2.heap.size))
      have HO2 := Lib.hid (hO.later HB7)
      have M := M.later HB7
      have hbs : q + 1 ≤ (Wa2.alloc (.cells #[.string a1.1.1, i64 a2.1.1] 167)).heap.size := (Array.getElem?_eq_some_iff.1 M.row).1
      have Hbs := Lib.hid hbs
      have hL4 : L.length + 1 ≤ 4294967296 := by have := HLk.out; omega
      have hza : Okb Wa2 Wa2.heap.size (⟨a1.1.1, a2.1.1⟩ : Leg) := Nat.le_trans za1 (by decide)
      have Hza := Lib.hid hza
      have HLr := Lib.hid (legsR_step hlt Hlr.out Ha1.out Ha2.out)
      clear hO HB7 hbs hza Hlr Ha1 Ha2 za1
      go_wp2_with (at_builtin; refine wpList_append_one rfl (some 98) (.tmp 93) (.tmp 97) 48 rfl rfl (.agg #[.string ByteArray.empty, i64 0]) 24 Tryz.underlying48 inf_leg rfl (by decide) (by decide) rfl HO2.out Wa2.heap.size (⟨a1.1.1, a2.1.1⟩ : Leg) rfl _ 167 HH.out rfl Hne.out Hza.out hL4 Hbs.out ?_; intro v3 w3 hO3 hg3 hat3; obtain ⟨A3, c3, hv3, -⟩ := hO3.sl; subst hv3; obtain ⟨n3, hn3⟩ : ∃ n3, (L ++ [(⟨a1.1.1, a2.1.1⟩ : Leg)]).length = n3 := ⟨_, rfl⟩; rw [hn3] at hO3 ⊢; clear hn3; have M3 := M.grown hg3 (fun b e => by have := (HO2.out.1.lt b e).1; omega); have k6 := cell_of_row _ q 6 _ _ (0, 0) M3.row; have f6 := frozen_of_row _ q 6 _ _ M3.row; simp only [List.getElem?_toArray, List.getElem?_cons_zero, List.getElem?_cons_succ] at k6)
      have M := M3.store 6 (.slice A3 n3 c3)
      simp only [List.setIfInBounds_toArray, List.set_cons_succ, List.set_cons_zero] at M
      go_roundw
      case rel => exact ⟨k + 1, .slice A3 n3 c3, L ++ [⟨a1.1.1, a2.1.1⟩], a2.2, by go_num, by omega, M, hO3.offL (grown_setCell (g := q) (World.grownBy.refl w3 (some q)) (p := ⟨q, 6, none⟩) (.inl rfl) (.slice A3 n3 c3)) (Nat.lt_succ_self _), by rw [List.length_append, HLk.out]; rfl, HLr.out, lb⟩
      case measure => simp [intOf]; omega
    · obtain rfl : k = n := by omega
      have hL2 := Hlr.out
      rw [Nat.sub_self] at hL2
      simp only [legsR, List.append_nil] at hL2
      have HL := Lib.hid hL2
      have lLn := HLk.out
      have hLs : L.length ≤ 65536 := by omega
      clear hL2 lLn Hlr
      have HLs := Lib.hid hLs
      clear hLs
      have hC := qrange_c g r 0 1000 (S).1 (S).2 _ M.rd M.lt (by omega)
      have l8 : (rangeRd 0 1000 (S).1 (S).2).2.2.length ≤ 60000 := Nat.le_trans (rangeRd_left 0 1000 (S).1 (S).2).1 lS
      obtain ⟨q8, hq⟩ : ∃ q, rangeRd 0 1000 (S).1 (S).2 = q := ⟨_, rfl⟩
      rw [hq] at hC l8
      have Hq8 := Lib.hid hq
      clear hq
      go_wp2_with fail
      refine hC.mono ?_
      rintro e Wq8 ⟨rfl, hR, hG⟩
      clear hC
      have M := M.call (s' := q8.2) hR hG
      have hO := hO.offL hG (by have := M.at_; omega)
      clear hR hG
      have hC := qrange_c g r 0 9999 (q8.2).1 (q8.2).2 _ M.rd M.lt (by omega)
      have l9 : (rangeRd 0 9999 (q8.2).1 (q8.2).2).2.2.length ≤ 60000 := Nat.le_trans (rangeRd_left 0 9999 (q8.2).1 (q8.2).2).1 l8
      obtain ⟨q9, hq⟩ : ∃ q, rangeRd 0 9999 (q8.2).1 (q8.2).2 = q := ⟨_, rfl⟩
      rw [hq] at hC l9
      have Hq9 := Lib.hid hq
      clear hq
      go_wp2_with fail
      refine hC.mono ?_
      rintro e Wq9 ⟨rfl, hR, hG⟩
      clear hC
      have M := M.call (s' := q9.2) hR hG
      have hO := hO.offL hG (by have := M.at_; omega)
      clear hR hG
      have hC := qtext_c g r 20 (q9.2).1 (q9.2).2 _ M.rd M.lt (by omega)
      have l10 : (textRd 20 (q9.2).1 (q9.2).2).2.2.length ≤ 60000 := Nat.le_trans (textRd_left 20 (q9.2).1 (q9.2).2).1 l9
      have zq10 : (textRd 20 (q9.2).1 (q9.2).2).1.1.size ≤ 60000 := Nat.le_trans (textRd_left 20 (q9.2).1 (q9.2).2).2.2 l9
      obtain ⟨q10, hq⟩ : ∃ q, textRd 20 (q9.2).1 (q9.2).2 = q := ⟨_, rfl⟩
      rw [hq] at hC l10 zq10
      have Hq10 := Lib.hid hq
      clear hq
      go_wp2_with fail
      refine hC.mono ?_
      rintro e Wq10 ⟨rfl, hR, hG⟩
      clear hC
      have M := M.call (s' := q10.2) hR hG
      have hO := hO.offL hG (by have := M.at_; omega)
      clear hR hG
      have k7 := cell_of_row _ q 7 _ _ (0, 0) M.row
      have k8 := cell_of_row _ q 8 _ _ (0, 0) M.row
      have k9 := cell_of_row _ q 9 _ _ (0, 0) M.row
      have f7 := frozen_of_row _ q 7 _ _ M.row
      have f8 := frozen_of_row _ q 8 _ _ M.row
      have f9 := frozen_of_row _ q 9 _ _ M.row
      simp only [List.getElem?_toArray, List.getElem?_cons_zero, List.getElem?_cons_succ] at k7 k8 k9
      have M := (((M.store 7 (i64 q8.1.1)).store 8 (i64 q9.1.1)).store 9 (.string q10.1.1))
      simp only [List.setIfInBounds_toArray, List.set_cons_succ, List.set_cons_zero] at M
      have hO := hO.offL (grown_setCell (g := q) (grown_setCell (g := q) (grown_setCell (g := q) (World.grownBy.refl Wq10 (some q)) (p := ⟨q, 7, none⟩) (.inl rfl) (i64 q8.1.1)) (p := ⟨q, 8, none⟩) (.inl rfl) (i64 q9.1.1)) (p := ⟨q, 9, none⟩) (.inl rfl) (.string q10.1.1)) (Nat.lt_succ_self _)
      generalize hWD : ((Wq10.setCell ⟨q, 7, none⟩ (i64 q8.1.1)).setCell ⟨q, 8, none⟩ (i64 q9.1.1)).setCell ⟨q, 9, none⟩ (.string q10.1.1) = WD at M hO
      have HWD := Lib.hid hWD
      clear hWD
      have hraw : raw2 l = ⟨q1.1.1, q2.1.1, q3.1.1, q4.1.1, q5.1.1, q6.1.1, none, 0, L, q8.1.1, q9.1.1, q10.1.1⟩ ∧ uS11 (pS3 l) = q10.2 := by
        have e1 : rg 0 9 (0, l) = q1 := Hq1.out
        have e2 : rg 1 999 (pS1 l) = q2 := by unfold pS1; rw [e1]; exact Hq2.out
        have e3 : rg 1 7 (pS2 l) = q3 := by unfold pS2; rw [e2]; exact Hq3.out
        have e30 : pS3 l = q3.2 := by unfold pS3; rw [e3]
        have e4 : txR 8 (pS3 l) = q4 := by rw [e30]; exact Hq4.out
        have e5 : txR 8 (uS4 (pS3 l)) = q5 := by unfold uS4; rw [e4]; exact Hq5.out
        have e6 : nuR (uS5 (pS3 l)) = q6 := by unfold uS5; rw [e5]; exact Hq6.out
        have e7 : smR 6 (uS6 (pS3 l)) = q7 := by unfold uS6; rw [e6]; exact Hq7.out
        have eN : uN (pS3 l) = k := by unfold uN; rw [e7, HN.out]; rfl
        have eL : legsR (uN (pS3 l)) (uS7 (pS3 l)) = (L, S) := by rw [eN]; unfold uS7; rw [e7]; exact HL.out
        have e8 : smR 1000 (uS8 (pS3 l)) = q8 := by unfold uS8; rw [eL]; exact Hq8.out
        have e9 : smR 9999 (uS9 (pS3 l)) = q9 := by unfold uS9; rw [e8]; exact Hq9.out
        have e10 : txR 20 (uS10 (pS3 l)) = q10 := by unfold uS10; rw [e9]; exact Hq10.out
        refine ⟨?_, by unfold uS11; rw [e10]⟩
        unfold raw2 odOf
        rw [e1, e2, e3, e4, e5, e6, eL, e8, e9, e10]
      have Hraw := Lib.hid hraw
      clear hraw Hq1 Hq2 Hq3 Hq4 Hq5 Hq6 Hq7 Hq8 Hq9 Hq10 HN HL
      have Hlaw := Lib.hid (read2_law l)
      have hsl := hO.sl
      obtain ⟨AL, cL, rfl, hsL⟩ := hsl
      obtain ⟨AR, cR, gR, hsR⟩ := M.rd.2
      have j0 := cell_of_row _ g 0 _ _ (0, 0) gR
      have j1 := cell_of_row _ g 1 _ _ (0, 0) gR
      simp only [List.getElem?_toArray, List.getElem?_cons_zero, List.getElem?_cons_succ] at j0 j1
      have okb : Okb WD WD.heap.size (⟨q1.1.1, q2.1.1, q3.1.1, q4.1.1, q5.1.1, q6.1.1, AL, cL, L, q8.1.1, q9.1.1, q10.1.1⟩ : Od) := ⟨Nat.le_trans zq4 (by decide), Nat.le_trans zq5 (by decide), Nat.le_trans zq10 (by decide), hsL⟩
      have hRt := Lib.hid (rright_c (⟨q1.1.1, q2.1.1, q3.1.1, q4.1.1, q5.1.1, q6.1.1, AL, cL, L, q8.1.1, q9.1.1, q10.1.1⟩ : Od) WD okb HLs.out)
      unfold Od.v at hRt
      clear okb gR hsR hsL
      go_upto_region 22 with fail
      rw [HWD.out]
      clear HWD k7 k8 k9 f7 f8 f9
      by_cases he : q10.2.1 = 0
      · have g1 : (q10.2.1 != 0) = false := by rw [he]; rfl
        have He := Lib.hid he
        by_cases ht : q10.2.2 = []
        · have Ht := Lib.hid ht
          have g2 : decide ((0 : Int) < (q10.2.2.length : Int)) = false := by rw [ht]; rfl
          clear he ht
          have k0 := cell_of_row _ q 0 _ _ (0, 0) M.row
          have k1 := cell_of_row _ q 1 _ _ (0, 0) M.row
          have k2 := cell_of_row _ q 2 _ _ (0, 0) M.row
          have k3 := cell_of_row _ q 3 _ _ (0, 0) M.row
          have k4 := cell_of_row _ q 4 _ _ (0, 0) M.row
          have k5 := cell_of_row _ q 5 _ _ (0, 0) M.row
          have k6 := cell_of_row _ q 6 _ _ (0, 0) M.row
          have k7 := cell_of_row _ q 7 _ _ (0, 0) M.row
          have k8 := cell_of_row _ q 8 _ _ (0, 0) M.row
          have k9 := cell_of_row _ q 9 _ _ (0, 0) M.row
          simp only [List.getElem?_toArray, List.getElem?_cons_zero, List.getElem?_cons_succ] at k0 k1 k2 k3 k4 k5 k6 k7 k8 k9
          go_wp2_with fail
          refine hRt.out.mono ?_
          rintro e WR ⟨rfl, hF⟩
          have M := M.later hF
          have hO := hO.later hF
          clear k0 k1 k2 k3 k4 k5 k6 k7 k8 k9
          have k0 := cell_of_row _ q 0 _ _ (0, 0) M.row
          have k1 := cell_of_row _ q 1 _ _ (0, 0) M.row
          have k2 := cell_of_row _ q 2 _ _ (0, 0) M.row
          have k3 := cell_of_row _ q 3 _ _ (0, 0) M.row
          have k4 := cell_of_row _ q 4 _ _ (0, 0) M.row
          have k5 := cell_of_row _ q 5 _ _ (0, 0) M.row
          have k6 := cell_of_row _ q 6 _ _ (0, 0) M.row
          have k7 := cell_of_row _ q 7 _ _ (0, 0) M.row
          have k8 := cell_of_row _ q 8 _ _ (0, 0) M.row
          have k9 := cell_of_row _ q 9 _ _ (0, 0) M.row
          simp only [List.getElem?_toArray, List.getElem?_cons_zero, List.getElem?_cons_succ] at k0 k1 k2 k3 k4 k5 k6 k7 k8 k9
          clear hF hRt
          by_cases hrt : rightB (⟨q1.1.1, q2.1.1, q3.1.1, q4.1.1, q5.1.1, q6.1.1, AL, cL, L, q8.1.1, q9.1.1, q10.1.1⟩ : Od) = true
          · rw [hrt]
            have Hrt := Lib.hid hrt
            clear hrt
            have HrO := Lib.hid (show readOk l = true by rw [Hlaw.out.1]; unfold ok2; rw [Hraw.out.2, Hraw.out.1, decide_eq_true (show q10.2.1 = 0 ∧ q10.2.2 = [] from ⟨He.out, Ht.out⟩), Bool.true_and]; exact (rightB_la _ AL cL).symm.trans Hrt.out)
            have hRow := setRow_heap WR w.heap.size _ #[i64 q1.1.1, i64 q2.1.1, i64 q3.1.1, .string q4.1.1, .string q5.1.1, i64 q6.1.1, .slice AL L.length cL, i64 q8.1.1, i64 q9.1.1, .string q10.1.1] _ _ M.res
            have HRow := Lib.hid hRow
            have HRes := Lib.hid M.res
            have HBw := Lib.hid (M.bel.trans (⟨rfl, rfl, rfl, by simp, fun k hk => setRow_other _ _ _ _ (by omega)⟩ : Below w.heap.size WR (WR.setRow w.heap.size #[i64 q1.1.1, i64 q2.1.1, i64 q3.1.1, .string q4.1.1, .string q5.1.1, i64 q6.1.1, .slice AL L.length cL, i64 q8.1.1, i64 q9.1.1, .string q10.1.1])))
            have HSl := Lib.hid (Own.sl_new (B := w.heap.size) (hO.offL (⟨rfl, rfl, rfl, by simp, fun k hk hne => setRow_other _ _ _ _ (fun e => hne (by rw [e]))⟩ : WR.grownBy (WR.setRow w.heap.size #[i64 q1.1.1, i64 q2.1.1, i64 q3.1.1, .string q4.1.1, .string q5.1.1, i64 q6.1.1, .slice AL L.length cL, i64 q8.1.1, i64 q9.1.1, .string q10.1.1]) (some w.heap.size)) (by have := M.at_; omega)) (by have := M.at_; omega))
            clear hRow
            go_wp2_with (refine wpList_store_row rfl 50 (.tmp 2) (.tmp 140) rfl w.heap.size #[i64 q1.1.1, i64 q2.1.1, i64 q3.1.1, .string q4.1.1, .string q5.1.1, i64 q6.1.1, .slice AL L.length cL, i64 q8.1.1, i64 q9.1.1, .string q10.1.1] rfl rfl 50 #[i64 0, i64 0, i64 0, .string ⟨#[]⟩, .string ⟨#[]⟩, i64 0, .slice none 0 0, i64 0, i64 0, .string ⟨#[]⟩] HRes.out (by kernel_rfl) rfl (by simp [Value.oneCell']) ?_)
            (try simp only [Exit.inBlock, Exit.then]); refine bodyPost_ret (results_cell_row_tmp rfl _ _ w.heap.size 50 _ (0, 0) _ rfl HRow.out Tryz.underlying50 rfl (by kernel_rfl)) rfl ?_
            refine ⟨(⟨q1.1.1, q2.1.1, q3.1.1, q4.1.1, q5.1.1, q6.1.1, AL, cL, L, q8.1.1, q9.1.1, q10.1.1⟩ : Od), by rw [show readE l = 0 from by unfold readE; rw [HrO.out]; rfl]; rfl, by unfold readO; rw [HrO.out, if_pos rfl, ← Hlaw.out.2 HrO.out]; exact Hraw.out.1.symm, ⟨Nat.le_trans zq4 (by decide), Nat.le_trans zq5 (by decide), Nat.le_trans zq10 (by decide), HSl.out⟩, HBw.out⟩
          · have hrt : rightB (⟨q1.1.1, q2.1.1, q3.1.1, q4.1.1, q5.1.1, q6.1.1, AL, cL, L, q8.1.1, q9.1.1, q10.1.1⟩ : Od) = false := by simpa using hrt
            rw [hrt]
            have Hrt := Lib.hid hrt
            clear hrt
            have HrO := Lib.hid (show readOk l = false by rw [Hlaw.out.1]; unfold ok2; rw [Hraw.out.1]; rw [show rightB (⟨q1.1.1, q2.1.1, q3.1.1, q4.1.1, q5.1.1, q6.1.1, none, 0, L, q8.1.1, q9.1.1, q10.1.1⟩ : Od) = false from (rightB_la _ AL cL).symm.trans Hrt.out, Bool.and_false])
            have hRow := setRow_heap WR w.heap.size _ #[i64 0, i64 0, i64 0, .string ⟨#[]⟩, .string ⟨#[]⟩, i64 0, .slice none 0 0, i64 0, i64 0, .string ⟨#[]⟩] _ _ M.res
            have HRow := Lib.hid hRow
            have HRes := Lib.hid M.res
            have HBw := Lib.hid (M.bel.trans (⟨rfl, rfl, rfl, by simp, fun k hk => setRow_other _ _ _ _ (by omega)⟩ : Below w.heap.size WR (WR.setRow w.heap.size #[i64 0, i64 0, i64 0, .string ⟨#[]⟩, .string ⟨#[]⟩, i64 0, .slice none 0 0, i64 0, i64 0, .string ⟨#[]⟩])))
            clear hRow
            go_wp2_with (refine wpList_store_row rfl 50 (.tmp 2) (.tmp 139) rfl w.heap.size #[i64 0, i64 0, i64 0, .string ⟨#[]⟩, .string ⟨#[]⟩, i64 0, .slice none 0 0, i64 0, i64 0, .string ⟨#[]⟩] rfl rfl 50 #[i64 0, i64 0, i64 0, .string ⟨#[]⟩, .string ⟨#[]⟩, i64 0, .slice none 0 0, i64 0, i64 0, .string ⟨#[]⟩] HRes.out (by kernel_rfl) rfl (by simp [Value.oneCell']) ?_)
            (try simp only [Exit.inBlock, Exit.then]); refine bodyPost_ret (results_cell_row_tmp rfl _ _ w.heap.size 50 _ (0, 0) _ rfl HRow.out Tryz.underlying50 rfl (by kernel_rfl)) rfl ?_
            refine ⟨od0, by rw [show readE l = 3 from by unfold readE; rw [HrO.out]; rfl]; rfl, by unfold readO; rw [HrO.out]; rfl, ⟨Nat.zero_le _, Nat.zero_le _, Nat.zero_le _, SlS.nil_ _ _⟩, HBw.out⟩
        · have Ht := Lib.hid ht
          have g2 : decide ((0 : Int) < (q10.2.2.length : Int)) = true := by rw [decide_eq_true_eq]; have := List.length_pos_iff.2 ht; omega
          have g3 : 0 < q10.2.2.length := List.length_pos_iff.2 ht
          clear he hRt
          have HrO := Lib.hid (show readOk l = false by rw [Hlaw.out.1]; unfold ok2; rw [Hraw.out.2, decide_eq_false (fun h => Ht.out h.2)]; rfl)
          have hRow := setRow_heap WD w.heap.size _ #[i64 0, i64 0, i64 0, .string ⟨#[]⟩, .string ⟨#[]⟩, i64 0, .slice none 0 0, i64 0, i64 0, .string ⟨#[]⟩] _ _ M.res
          have HRow := Lib.hid hRow
          have HRes := Lib.hid M.res
          have HBw := Lib.hid (M.bel.trans (⟨rfl, rfl, rfl, by simp, fun k hk => setRow_other _ _ _ _ (by omega)⟩ : Below w.heap.size WD (WD.setRow w.heap.size #[i64 0, i64 0, i64 0, .string ⟨#[]⟩, .string ⟨#[]⟩, i64 0, .slice none 0 0, i64 0, i64 0, .string ⟨#[]⟩])))
          clear hRow
          go_wp2_with (refine wpList_store_row rfl 50 (.tmp 2) (.tmp 139) rfl w.heap.size #[i64 0, i64 0, i64 0, .string ⟨#[]⟩, .string ⟨#[]⟩, i64 0, .slice none 0 0, i64 0, i64 0, .string ⟨#[]⟩] rfl rfl 50 #[i64 0, i64 0, i64 0, .string ⟨#[]⟩, .string ⟨#[]⟩, i64 0, .slice none 0 0, i64 0, i64 0, .string ⟨#[]⟩] HRes.out (by kernel_rfl) rfl (by simp [Value.oneCell']) ?_)
          (try simp only [Exit.inBlock, Exit.then]); refine bodyPost_ret (results_cell_row_tmp rfl _ _ w.heap.size 50 _ (0, 0) _ rfl HRow.out Tryz.underlying50 rfl (by kernel_rfl)) rfl ?_
          refine ⟨od0, by rw [show readE l = 3 from by unfold readE; rw [HrO.out]; rfl]; rfl, by unfold readO; rw [HrO.out]; rfl, ⟨Nat.zero_le _, Nat.zero_le _, Nat.zero_le _, SlS.nil_ _ _⟩, HBw.out⟩
      · have g1 : (q10.2.1 != 0) = true := by simpa using he
        have He := Lib.hid he
        clear he hRt
        have HrO := Lib.hid (show readOk l = false by rw [Hlaw.out.1]; unfold ok2; rw [Hraw.out.2, decide_eq_false (fun h => He.out h.1)]; rfl)
        have hRow := setRow_heap WD w.heap.size _ #[i64 0, i64 0, i64 0, .string ⟨#[]⟩, .string ⟨#[]⟩, i64 0, .slice none 0 0, i64 0, i64 0, .string ⟨#[]⟩] _ _ M.res
        have HRow := Lib.hid hRow
        have HRes := Lib.hid M.res
        have HBw := Lib.hid (M.bel.trans (⟨rfl, rfl, rfl, by simp, fun k hk => setRow_other _ _ _ _ (by omega)⟩ : Below w.heap.size WD (WD.setRow w.heap.size #[i64 0, i64 0, i64 0, .string ⟨#[]⟩, .string ⟨#[]⟩, i64 0, .slice none 0 0, i64 0, i64 0, .string ⟨#[]⟩])))
        clear hRow
        go_wp2_with (refine wpList_store_row rfl 50 (.tmp 2) (.tmp 139) rfl w.heap.size #[i64 0, i64 0, i64 0, .string ⟨#[]⟩, .string ⟨#[]⟩, i64 0, .slice none 0 0, i64 0, i64 0, .string ⟨#[]⟩] rfl rfl 50 #[i64 0, i64 0, i64 0, .string ⟨#[]⟩, .string ⟨#[]⟩, i64 0, .slice none 0 0, i64 0, i64 0, .string ⟨#[]⟩] HRes.out (by kernel_rfl) rfl (by simp [Value.oneCell']) ?_)
        (try simp only [Exit.inBlock, Exit.then]); refine bodyPost_ret (results_cell_row_tmp rfl _ _ w.heap.size 50 _ (0, 0) _ rfl HRow.out Tryz.underlying50 rfl (by kernel_rfl)) rfl ?_
        refine ⟨od0, by rw [show readE l = 3 from by unfold readE; rw [HrO.out]; rfl]; rfl, by unfold readO; rw [HrO.out]; rfl, ⟨Nat.zero_le _, Nat.zero_le _, Nat.zero_le _, SlS.nil_ _ _⟩, HBw.out⟩
theorem rread_c (A : Option Addr) (c : Nat) (l : List UInt8) (w : World) (h : Sl w w.heap.size A c l) (hn : l.length ≤ 60000) :
    Calls Tryz.prog 78 #[.slice A l.length c] w fun e w' => ∃ o : Od, e = .returned (.tuple #[o.v, i64 (readE l)]) ∧ ({ o with la := none, lc := 0 } : Od) = readO l ∧ Okb w' w'.heap.size o ∧ Below w.heap.size w w' := by
  refine (rread_own A c l w h hn).mono ?_
  rintro e w' ⟨o, h1, h2, h3, h4⟩
  exact ⟨o, h1, h2, Enc.keep (α := Od) h3 (fun _ _ => rfl) (fun _ hb => hb.2), h4⟩
end Go.Proofs.YtdkkblhfjblpkaaGreat
