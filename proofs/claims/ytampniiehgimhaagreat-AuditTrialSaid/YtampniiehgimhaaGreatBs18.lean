/- Texts of this claim, laid together. -/
import Derived.Test.YtampniiehgimhaaGreatRows
import Derived.Test.YtampniiehgimhaaGreatBs9
import Derived.Test.YtampniiehgimhaaGreatBs17
import Derived.Test.YtampniiehgimhaaGreatBs14
import Derived.Test.YtampniiehgimhaaGreatBs15
import Derived.Test.YtampniiehgimhaaGreatBs16
import Derived.WalkKit
import Derived.WalkSpells
import Derived.WalkLawsBesides
import Derived.Deep.QuietTactic
import Derived.BigQuiet
import Derived.Laws.StructEq
import Derived.Deep.DeepFit
import Derived.StillTailTactics
import Derived.Test.YtampniiehgimhaaGreatBs7
import Derived.Test.YtampniiehgimhaaGreatBs8
import Derived.Test.YtampniiehgimhaaGreatBs13
import Derived.Deep.RegionHeld3
import Derived.Deep.Cut

/- ref09: a book in memory -/
namespace Go.Proofs.YtampniiehgimhaaGreat
open Go.RowKit
/-- where a reference's book lies: itself, its chart, its holds; all behind base -/
structure RA where
 base : Nat
 r : Nat
 gc : Nat
 gh : Nat
abbrev RA.ptr (a : RA) : Value := .pointer (some ⟨a.r, 0, none⟩)
def RA.own (a : RA) (k : Nat) : Prop := k = a.r ∨ k = a.gc ∨ k = a.gh
def RA.T (a : RA) (k : Nat) : Prop := a.base ≤ k ∧ ¬ a.own k
/-- the reference's book; its rows lie in blocks of T -/
structure RkIs (w : World) (a : RA) (T : Nat → Prop) (B : Bk) : Prop where
 cell : w.heap[a.r]? = some (.cells #[.pointer (some ⟨a.gc, 0, none⟩), .pointer (some ⟨a.gh, 0, none⟩), i64 B.cl] 127 (0, 0))
 c : RcIs w T a.gc B.L
 h : RhIs w T a.gh B.H
 ne : a.r ≠ a.gc ∧ a.r ≠ a.gh ∧ a.gc ≠ a.gh
 lo : ∀ k, a.own k → a.base ≤ k
 tn : ∀ k, a.own k → ¬ T k
section
variable {w w' : World} {a : RA} {T : Nat → Prop} {B : Bk}
theorem RkIs.lt (h : RkIs w a T B) : ∀ k, a.own k → k < w.heap.size := by
 intro k hk
 rcases hk with rfl | rfl | rfl
 ·exact (Array.getElem?_eq_some_iff.1 h.cell).1
 ·exact h.c.lt
 ·exact h.h.lt
theorem RkIs.kept {S : Nat → Prop} (h : RkIs w a T B) (hk : Gr w w' S) (hS : ∀ k, a.own k → ¬ S k) (hT : ∀ k, T k → ¬ S k) : RkIs w' a T B :=
 ⟨(hk.block a.r (h.lt _ (.inl rfl)) (hS _ (.inl rfl))).trans h.cell, h.c.kept hk (hS _ (.inr (.inl rfl))) hT, h.h.kept hk (hS _ (.inr (.inr rfl))) hT, h.ne, h.lo, h.tn⟩
theorem RkIs.later (h : RkIs w a T B) (hb : Below w.heap.size w w') : RkIs w' a T B := h.kept (Gr.of_below hb (fun _ => False)) (fun _ _ => id) (fun _ _ => id)
theorem RkIs.room {T' : Nat → Prop} (h : RkIs w a T B) (ht : ∀ k, k < w.heap.size → T k → T' k) (hn : ∀ k, a.own k → ¬ T' k) : RkIs w a T' B := by
 obtain ⟨h0, ⟨A, c, h1, h2, h3⟩, ⟨A', c', k1, k2, k3⟩, h4, h5, _⟩ := h
 exact ⟨h0, ⟨A, c, h1, h2.mono fun k hk => ⟨hk.1, ht k hk.1 hk.2⟩, h3⟩, ⟨A', c', k1, k2.mono fun k hk => ⟨hk.1, ht k hk.1 hk.2⟩, k3⟩, h4, h5, hn⟩
theorem RA.T_own {k : Nat} (h : a.own k) : ¬ a.T k := fun e => e.2 h
theorem RkIs.new (h : RkIs w a T B) : ∀ k, w.heap.size ≤ k → a.T k := fun k hk => ⟨by have := h.lo _ (.inl rfl); have := h.lt _ (.inl rfl); omega, fun e => by have := h.lt k e; omega⟩
theorem RkIs.chart {L : List Ac} (h : RkIs w a T B) (hc : RcIs w' T a.gc L) (hg : w.grownBy w' (some a.gc)) : RkIs w' a T ⟨L, B.H, B.cl⟩ ∧ Gr w w' (GH a.gh a.gc) :=
 ⟨⟨((Gr.of_grown hg).block a.r (h.lt _ (.inl rfl)) (fun e => h.ne.1 (by injection e with e; exact e.symm))).trans h.cell, hc, h.h.kept (Gr.of_grown hg) (fun e => h.ne.2.2 (by injection e)) (fun k hk e => h.tn _ (.inr (.inl rfl)) (by injection e with e; rw [e]; exact hk)), h.ne, h.lo, h.tn⟩,
  (Gr.of_grown hg).mono fun k _ e => .inr (by injection e with e; exact e.symm)⟩
theorem RkIs.both {L : List Ac} {H : List Held} (h : RkIs w a T B) (hc : RcIs w' T a.gc L) (hh : RhIs w' T a.gh H) (hg : Gr w w' (GH a.gh a.gc)) : RkIs w' a T ⟨L, H, B.cl⟩ :=
 ⟨(hg.block a.r (h.lt _ (.inl rfl)) (fun e => e.elim h.ne.2.1 h.ne.1)).trans h.cell, hc, hh, h.ne, h.lo, h.tn⟩
theorem RkIs.shut (h : RkIs w a T B) (p : Int) : RkIs (w.setCell ⟨a.r, 2, none⟩ (i64 p)) a T ⟨B.L, B.H, p⟩ ∧ Gr w (w.setCell ⟨a.r, 2, none⟩ (i64 p)) (fun k => k = a.r) := by
 have hs := heap_setCell_same w a.r 2 _ _ (i64 p) h.cell
 have hg := Gr.of_grown (grown_setCell (World.grownBy.refl w (some a.r)) (p := ⟨a.r, 2, none⟩) (.inl rfl) (i64 p))
 exact ⟨⟨hs, h.c.kept hg (fun e => h.ne.1 (by injection e)) (fun k hk e => h.tn _ (.inl rfl) (by injection e with e; rw [e]; exact hk)), h.h.kept hg (fun e => h.ne.2.1 (by injection e)) (fun k hk e => h.tn _ (.inl rfl) (by injection e with e; rw [e]; exact hk)), h.ne, h.lo, h.tn⟩,
  hg.mono fun k _ e => by injection e with e; exact e.symm⟩
theorem RA.gh_own {k : Nat} (h : GH a.gh a.gc k) : a.own k := h.elim (fun e => .inr (.inr e)) (fun e => .inr (.inl e))
theorem RkIs.own_below {n : Nat} (h : RkIs w a T B) (hg : Gr w w' a.own) (hn : n ≤ w.heap.size) (ha : n ≤ a.base) : Below n w w' := hg.below hn fun k hk => Nat.le_trans ha (h.lo k hk)
end
/-- an order as the reference's book takes it: its legs lie apart from the book -/
def RdIn (w : World) (a : RA) (x : Od) : Prop := Od.Ok w (fun k => k < w.heap.size ∧ ¬ a.own k) x ∧ x.legs.length ≤ 65536
theorem RdIn.of_sl {w : World} {n : Nat} {A : Option Addr} {c : Nat} {l : List Od} (h : Sl w n A c l) {a : RA} (ha : ∀ k, a.own k → n ≤ k) (hB : n ≤ w.heap.size) (hl : ∀ x ∈ l, x.legs.length ≤ 65536) : ∀ x ∈ l, RdIn w a x := fun x hx =>
 ⟨Enc.keep (α := Od) (h.2.2.2 x hx) (fun _ _ => rfl) (fun k hk => ⟨Nat.lt_of_lt_of_le hk hB, fun e => by have := ha k e; omega⟩), hl x hx⟩
theorem RdIn.later {w w' : World} {a : RA} {x : Od} (h : RdIn w a x) (hb : Below w.heap.size w w') : RdIn w' a x :=
 ⟨Enc.keep (α := Od) h.1 (fun _ hp => hb.cell hp.1) (fun _ hk => ⟨Nat.lt_of_lt_of_le hk.1 hb.size, hk.2⟩), h.2⟩
theorem RdIn.okb {w : World} {a : RA} {x : Od} (h : RdIn w a x) : Okb w w.heap.size x := Enc.keep (α := Od) h.1 (fun _ _ => rfl) (fun _ h => h.1)
end Go.Proofs.YtampniiehgimhaaGreat
/- ref06.bare -/
namespace Go.Proofs.YtampniiehgimhaaGreat
open Go.RowKit
theorem heap_alloc3_mid (w : World) (A B C : Obj) : (((w.alloc A).alloc B).alloc C).heap[w.heap.size + 1]? = some B := by
 rw [heap_alloc_old _ _ (by simp)]
 exact heap_alloc2_new w A B
set_option maxRecDepth 100000 in
set_option maxHeartbeats 4000000 in
theorem rbare1_c (x : Od) (hk : x.kind = 1) (w : World) : Calls Tryz.prog 112 #[x.v] w fun e w' => e = .returned (dress x (bare1 x)).v ∧ Below w.heap.size w w' := by
 unfold Od.v
 rw [hk]
 clear hk
 go_enter Tryz.func112, Tryz.ntmps112
 go_wp2
 refine bodyPost_ret (results_cell_row rfl _ _ (w.heap.size + 1) 37 _ (0, 0) _ rfl (heap_alloc3_mid w _ _ _) Tryz.underlying37 rfl (by kernel_rfl)) rfl ?_
 exact ⟨rfl, (((Below.refl _ _).alloc (Nat.le_refl _) _).alloc (by simp) _).alloc (by simp; omega) _⟩
set_option maxRecDepth 100000 in
set_option maxHeartbeats 4000000 in
theorem rbare2_c (x : Od) (hk : x.kind = 2) (w : World) : Calls Tryz.prog 112 #[x.v] w fun e w' => e = .returned (dress x (bare2 x)).v ∧ Below w.heap.size w w' := by
 unfold Od.v
 rw [hk]
 clear hk
 go_enter Tryz.func112, Tryz.ntmps112
 go_wp2
 refine bodyPost_ret (results_cell_row rfl _ _ (w.heap.size + 1) 37 _ (0, 0) _ rfl (heap_alloc3_mid w _ _ _) Tryz.underlying37 rfl (by kernel_rfl)) rfl ?_
 exact ⟨rfl, (((Below.refl _ _).alloc (Nat.le_refl _) _).alloc (by simp) _).alloc (by simp; omega) _⟩
set_option maxRecDepth 100000 in
set_option maxHeartbeats 4000000 in
theorem rbare3_c (x : Od) (hk : x.kind = 3) (w : World) : Calls Tryz.prog 112 #[x.v] w fun e w' => e = .returned (dress x (bare3 x)).v ∧ Below w.heap.size w w' := by
 unfold Od.v
 rw [hk]
 clear hk
 go_enter Tryz.func112, Tryz.ntmps112
 go_wp2
 refine bodyPost_ret (results_cell_row rfl _ _ (w.heap.size + 1) 37 _ (0, 0) _ rfl (heap_alloc3_mid w _ _ _) Tryz.underlying37 rfl (by kernel_rfl)) rfl ?_
 exact ⟨rfl, (((Below.refl _ _).alloc (Nat.le_refl _) _).alloc (by simp) _).alloc (by simp; omega) _⟩
set_option maxRecDepth 100000 in
set_option maxHeartbeats 4000000 in
theorem rbare4_c (x : Od) (hk : x.kind = 4) (w : World) : Calls Tryz.prog 112 #[x.v] w fun e w' => e = .returned (dress x (bare4 x)).v ∧ Below w.heap.size w w' := by
 unfold Od.v
 rw [hk]
 clear hk
 go_enter Tryz.func112, Tryz.ntmps112
 go_wp2
 refine bodyPost_ret (results_cell_row rfl _ _ (w.heap.size + 1) 37 _ (0, 0) _ rfl (heap_alloc3_mid w _ _ _) Tryz.underlying37 rfl (by kernel_rfl)) rfl ?_
 exact ⟨rfl, (((Below.refl _ _).alloc (Nat.le_refl _) _).alloc (by simp) _).alloc (by simp; omega) _⟩
set_option maxRecDepth 100000 in
set_option maxHeartbeats 4000000 in
theorem rbare5_c (x : Od) (hk : x.kind = 5) (w : World) : Calls Tryz.prog 112 #[x.v] w fun e w' => e = .returned (dress x (bare5 x)).v ∧ Below w.heap.size w w' := by
 unfold Od.v
 rw [hk]
 clear hk
 go_enter Tryz.func112, Tryz.ntmps112
 go_wp2
 refine bodyPost_ret (results_cell_row rfl _ _ (w.heap.size + 1) 37 _ (0, 0) _ rfl (heap_alloc3_mid w _ _ _) Tryz.underlying37 rfl (by kernel_rfl)) rfl ?_
 exact ⟨rfl, (((Below.refl _ _).alloc (Nat.le_refl _) _).alloc (by simp) _).alloc (by simp; omega) _⟩
set_option maxRecDepth 100000 in
set_option maxHeartbeats 4000000 in
theorem rbare6_c (x : Od) (hk : x.kind = 6) (w : World) : Calls Tryz.prog 112 #[x.v] w fun e w' => e = .returned (dress x (bare6 x)).v ∧ Below w.heap.size w w' := by
 unfold Od.v
 rw [hk]
 clear hk
 go_enter Tryz.func112, Tryz.ntmps112
 go_wp2
 refine bodyPost_ret (results_cell_row rfl _ _ (w.heap.size + 1) 37 _ (0, 0) _ rfl (heap_alloc3_mid w _ _ _) Tryz.underlying37 rfl (by kernel_rfl)) rfl ?_
 exact ⟨rfl, (((Below.refl _ _).alloc (Nat.le_refl _) _).alloc (by simp) _).alloc (by simp; omega) _⟩
set_option maxRecDepth 100000 in
set_option maxHeartbeats 4000000 in
theorem rbare7_c (x : Od) (hk : x.kind = 7) (w : World) : Calls Tryz.prog 112 #[x.v] w fun e w' => e = .returned (dress x (bare7 x)).v ∧ Below w.heap.size w w' := by
 unfold Od.v
 rw [hk]
 clear hk
 go_enter Tryz.func112, Tryz.ntmps112
 go_wp2
 refine bodyPost_ret (results_cell_row rfl _ _ (w.heap.size + 1) 37 _ (0, 0) _ rfl (heap_alloc3_mid w _ _ _) Tryz.underlying37 rfl (by kernel_rfl)) rfl ?_
 exact ⟨rfl, (((Below.refl _ _).alloc (Nat.le_refl _) _).alloc (by simp) _).alloc (by simp; omega) _⟩
end Go.Proofs.YtampniiehgimhaaGreat
/- ref06.Right -/
namespace Go.Proofs.YtampniiehgimhaaGreat
open Go.RowKit
theorem rightB_range {x : Od} (h : ¬ ((0 ≤ x.client ∧ x.client ≤ 9) ∧ (1 ≤ x.seq ∧ x.seq ≤ 999) ∧ 1 ≤ x.kind ∧ x.kind ≤ 7)) : rightB x = false := by
 unfold rightB
 rw [Bool.eq_false_iff]
 intro hc
 simp only [Bool.and_eq_true, decide_eq_true_eq] at hc
 omega
set_option maxRecDepth 100000 in
set_option maxHeartbeats 4000000 in
theorem rright_no (x : Od) (w : World) (h : ¬ ((0 ≤ x.client ∧ x.client ≤ 9) ∧ (1 ≤ x.seq ∧ x.seq ≤ 999) ∧ 1 ≤ x.kind ∧ x.kind ≤ 7)) :
  Calls Tryz.prog 61 #[x.v] w fun e w' => e = .returned (.bool false) ∧ Below w.heap.size w w' := by
 unfold Od.v
 have hb0 := (Below.refl w.heap.size w).alloc (Nat.le_refl _) (.cells #[i64 x.client, i64 x.seq, i64 x.kind, .string x.acct, .string x.peer, i64 x.sum, .slice x.la x.legs.length x.lc, i64 x.period, i64 x.hold, .string x.note] 37)
 have hg := heap_alloc_new w (.cells #[i64 x.client, i64 x.seq, i64 x.kind, .string x.acct, .string x.peer, i64 x.sum, .slice x.la x.legs.length x.lc, i64 x.period, i64 x.hold, .string x.note] 37)
 have hz : w.heap.size < (w.alloc (.cells #[i64 x.client, i64 x.seq, i64 x.kind, .string x.acct, .string x.peer, i64 x.sum, .slice x.la x.legs.length x.lc, i64 x.period, i64 x.hold, .string x.note] 37)).heap.size := by simp
 have k0 := cell_of_row _ (w.heap.size) 0 _ _ (0, 0) hg
 have k1 := cell_of_row _ (w.heap.size) 1 _ _ (0, 0) hg
 have k2 := cell_of_row _ (w.heap.size) 2 _ _ (0, 0) hg
 have k3 := cell_of_row _ (w.heap.size) 3 _ _ (0, 0) hg
 have k4 := cell_of_row _ (w.heap.size) 4 _ _ (0, 0) hg
 have k5 := cell_of_row _ (w.heap.size) 5 _ _ (0, 0) hg
 have k6 := cell_of_row _ (w.heap.size) 6 _ _ (0, 0) hg
 have k7 := cell_of_row _ (w.heap.size) 7 _ _ (0, 0) hg
 have k8 := cell_of_row _ (w.heap.size) 8 _ _ (0, 0) hg
 have k9 := cell_of_row _ (w.heap.size) 9 _ _ (0, 0) hg
 simp only [List.getElem?_toArray, List.getElem?_cons_zero, List.getElem?_cons_succ] at k0 k1 k2 k3 k4 k5 k6 k7 k8 k9
 by_cases c0 : x.client < 0
 ·have g0 : decide (x.client < 0) = true := decide_eq_true c0
  clear h c0
  go_enter Tryz.func61, Tryz.ntmps61
  go_wp2_with fail
  go_quiet (fail)
  go_wp2
  go_ret
  exact ⟨rfl, below_drewN hb0 _⟩
 by_cases c1 : 9 < x.client
 ·have g1 : decide (9 < x.client) = true := decide_eq_true c1
  have g0 : decide (x.client < 0) = false := decide_eq_false c0
  clear h c0 c1
  go_enter Tryz.func61, Tryz.ntmps61
  go_wp2_with fail
  go_quiet (fail)
  go_wp2
  go_ret
  exact ⟨rfl, below_drewN hb0 _⟩
 by_cases c2 : x.seq < 1
 ·have g2 : decide (x.seq < 1) = true := decide_eq_true c2
  have g0 : decide (x.client < 0) = false := decide_eq_false c0
  have g1 : decide (9 < x.client) = false := decide_eq_false c1
  clear h c0 c1 c2
  go_enter Tryz.func61, Tryz.ntmps61
  go_wp2_with fail
  go_quiet (fail)
  go_wp2
  go_ret
  exact ⟨rfl, below_drewN hb0 _⟩
 by_cases c3 : 999 < x.seq
 ·have g3 : decide (999 < x.seq) = true := decide_eq_true c3
  have g0 : decide (x.client < 0) = false := decide_eq_false c0
  have g1 : decide (9 < x.client) = false := decide_eq_false c1
  have g2 : decide (x.seq < 1) = false := decide_eq_false c2
  clear h c0 c1 c2 c3
  go_enter Tryz.func61, Tryz.ntmps61
  go_wp2_with fail
  go_quiet (fail)
  go_wp2
  go_ret
  exact ⟨rfl, below_drewN hb0 _⟩
 by_cases c4 : x.kind < 1
 ·have g4 : decide (x.kind < 1) = true := decide_eq_true c4
  have g0 : decide (x.client < 0) = false := decide_eq_false c0
  have g1 : decide (9 < x.client) = false := decide_eq_false c1
  have g2 : decide (x.seq < 1) = false := decide_eq_false c2
  have g3 : decide (999 < x.seq) = false := decide_eq_false c3
  clear h c0 c1 c2 c3 c4
  go_enter Tryz.func61, Tryz.ntmps61
  go_wp2_with fail
  go_quiet (fail)
  go_wp2
  go_ret
  exact ⟨rfl, below_drewN hb0 _⟩
 by_cases c5 : 7 < x.kind
 ·have g5 : decide (7 < x.kind) = true := decide_eq_true c5
  have g0 : decide (x.client < 0) = false := decide_eq_false c0
  have g1 : decide (9 < x.client) = false := decide_eq_false c1
  have g2 : decide (x.seq < 1) = false := decide_eq_false c2
  have g3 : decide (999 < x.seq) = false := decide_eq_false c3
  have g4 : decide (x.kind < 1) = false := decide_eq_false c4
  clear h c0 c1 c2 c3 c4 c5
  go_enter Tryz.func61, Tryz.ntmps61
  go_wp2_with fail
  go_quiet (fail)
  go_wp2
  go_ret
  exact ⟨rfl, below_drewN hb0 _⟩
 omega
set_option maxRecDepth 100000 in
set_option maxHeartbeats 8000000 in
theorem rright_1 (x : Od) (w : World) (hx : Okb w w.heap.size x) (hl : x.legs.length ≤ 65536) (hk : x.kind = 1) (hc : 0 ≤ x.client ∧ x.client ≤ 9) (hs : 1 ≤ x.seq ∧ x.seq ≤ 999) :
  Calls Tryz.prog 61 #[x.v] w fun e w' => e = .returned (.bool (sameB x (dress x (bare1 x)) && fits1 x)) ∧ Below w.heap.size w w' := by
 have hzb : ∀ W, Below w.heap.size w W → Okb W W.heap.size (dress x (bare1 x)) := fun W h => by
  obtain ⟨a, b, c, d⟩ := Okb.later hx h
  exact ⟨a, Nat.zero_le _, Nat.zero_le _, SlS.nil_ _ _⟩
 have hcB := Lib.hid fun W => rbare1_c x hk W
 have hcS := Lib.hid fun W (h : Below w.heap.size w W) => rsame_c x (dress x (bare1 x)) W (Okb.later hx h) (hzb W h) hl (by show (0 : Nat) ≤ 65536; omega)
 have hN := Lib.hid fun W => rname_c x.acct hx.acct W
 have hP := Lib.hid fun W => rname_c x.peer hx.peer W
 have hLg := Lib.hid hx.legs
 have hlm : x.note.size ≤ 9223372036854775807 := Nat.le_trans hx.note (by decide)
 generalize hsm : sameB x (dress x (bare1 x)) = sm at *
 unfold Od.v at hcB hcS ⊢
 rw [hk] at hcB hcS ⊢
 have g0 : decide (x.client < 0) = false := decide_eq_false (by omega)
 have g1 : decide ((9 : Int) < x.client) = false := decide_eq_false (by omega)
 have g2 : decide (x.seq < 1) = false := decide_eq_false (by omega)
 have g3 : decide ((999 : Int) < x.seq) = false := decide_eq_false (by omega)
 clear hx hzb hsm hk hc hs hl
 have hb0 := (Below.refl w.heap.size w).alloc (Nat.le_refl _) (.cells #[i64 x.client, i64 x.seq, i64 1, .string x.acct, .string x.peer, i64 x.sum, .slice x.la x.legs.length x.lc, i64 x.period, i64 x.hold, .string x.note] 37)
 have hg := heap_alloc_new w (.cells #[i64 x.client, i64 x.seq, i64 1, .string x.acct, .string x.peer, i64 x.sum, .slice x.la x.legs.length x.lc, i64 x.period, i64 x.hold, .string x.note] 37)
 have hz : w.heap.size < (w.alloc (.cells #[i64 x.client, i64 x.seq, i64 1, .string x.acct, .string x.peer, i64 x.sum, .slice x.la x.legs.length x.lc, i64 x.period, i64 x.hold, .string x.note] 37)).heap.size := by simp
 have k0 := cell_of_row _ (w.heap.size) 0 _ _ (0, 0) hg
 have k1 := cell_of_row _ (w.heap.size) 1 _ _ (0, 0) hg
 have k2 := cell_of_row _ (w.heap.size) 2 _ _ (0, 0) hg
 have k3 := cell_of_row _ (w.heap.size) 3 _ _ (0, 0) hg
 have k4 := cell_of_row _ (w.heap.size) 4 _ _ (0, 0) hg
 have k5 := cell_of_row _ (w.heap.size) 5 _ _ (0, 0) hg
 have k6 := cell_of_row _ (w.heap.size) 6 _ _ (0, 0) hg
 have k7 := cell_of_row _ (w.heap.size) 7 _ _ (0, 0) hg
 have k8 := cell_of_row _ (w.heap.size) 8 _ _ (0, 0) hg
 have k9 := cell_of_row _ (w.heap.size) 9 _ _ (0, 0) hg
 simp only [List.getElem?_toArray, List.getElem?_cons_zero, List.getElem?_cons_succ] at k0 k1 k2 k3 k4 k5 k6 k7 k8 k9
 go_enter Tryz.func61, Tryz.ntmps61
 go_wp2_with fail
 generalize w.alloc (.cells #[i64 x.client, i64 x.seq, i64 1, .string x.acct, .string x.peer, i64 x.sum, .slice x.la x.legs.length x.lc, i64 x.period, i64 x.hold, .string x.note] 37) = W1 at *
 have hSS : ∀ V, Below W1.heap.size W1 V → (fun V : World => Below W1.heap.size W1 V ∧ V.cell? ⟨w.heap.size, 0, none⟩ = some (i64 x.client) ∧ V.cell? ⟨w.heap.size, 1, none⟩ = some (i64 x.seq) ∧ V.cell? ⟨w.heap.size, 2, none⟩ = some (i64 1) ∧ V.cell? ⟨w.heap.size, 3, none⟩ = some (.string x.acct) ∧ V.cell? ⟨w.heap.size, 4, none⟩ = some (.string x.peer) ∧ V.cell? ⟨w.heap.size, 5, none⟩ = some (i64 x.sum) ∧ V.cell? ⟨w.heap.size, 6, none⟩ = some (.slice x.la x.legs.length x.lc) ∧ V.cell? ⟨w.heap.size, 7, none⟩ = some (i64 x.period) ∧ V.cell? ⟨w.heap.size, 8, none⟩ = some (i64 x.hold) ∧ V.cell? ⟨w.heap.size, 9, none⟩ = some (.string x.note)) V := fun V h => ⟨h, (h.cell (p := ⟨w.heap.size, 0, none⟩) hz).trans k0, (h.cell (p := ⟨w.heap.size, 1, none⟩) hz).trans k1, (h.cell (p := ⟨w.heap.size, 2, none⟩) hz).trans k2, (h.cell (p := ⟨w.heap.size, 3, none⟩) hz).trans k3, (h.cell (p := ⟨w.heap.size, 4, none⟩) hz).trans k4, (h.cell (p := ⟨w.heap.size, 5, none⟩) hz).trans k5, (h.cell (p := ⟨w.heap.size, 6, none⟩) hz).trans k6, (h.cell (p := ⟨w.heap.size, 7, none⟩) hz).trans k7, (h.cell (p := ⟨w.heap.size, 8, none⟩) hz).trans k8, (h.cell (p := ⟨w.heap.size, 9, none⟩) hz).trans k9⟩
 have h0 := (Below.refl W1.heap.size W1).drew
 have hB1 := fun V (h : Below W1.heap.size W1 V) => below_on hb0 (Nat.le_refl _) h
 go_region_held3 (fun V : World => Below W1.heap.size W1 V ∧ V.cell? ⟨w.heap.size, 0, none⟩ = some (i64 x.client) ∧ V.cell? ⟨w.heap.size, 1, none⟩ = some (i64 x.seq) ∧ V.cell? ⟨w.heap.size, 2, none⟩ = some (i64 1) ∧ V.cell? ⟨w.heap.size, 3, none⟩ = some (.string x.acct) ∧ V.cell? ⟨w.heap.size, 4, none⟩ = some (.string x.peer) ∧ V.cell? ⟨w.heap.size, 5, none⟩ = some (i64 x.sum) ∧ V.cell? ⟨w.heap.size, 6, none⟩ = some (.slice x.la x.legs.length x.lc) ∧ V.cell? ⟨w.heap.size, 7, none⟩ = some (i64 x.period) ∧ V.cell? ⟨w.heap.size, 8, none⟩ = some (i64 x.hold) ∧ V.cell? ⟨w.heap.size, 9, none⟩ = some (.string x.note)) (first | exact hSS _ h0 | exact hSS _ (by assumption))
  (first
   | (go_at_call 112; with_reducible refine (hcB.out _).mono ?_; rintro e u1 ⟨rfl, hF⟩; have hb1 := below_on h0 (Nat.le_refl _) hF; clear hF)
   | (go_at_call 111; refine (hcS.out _ (hB1 _ hb1)).mono ?_; rintro e u2 ⟨rfl, hF⟩; have hb2 := below_on hb1 (Nat.le_refl _) hF; clear hF))
 have hbw := hB1 _ hb2
 have hz2 := Nat.lt_of_lt_of_le hz hb2.size
 have k0 := (hb2.cell (p := ⟨w.heap.size, 0, none⟩) hz).trans k0
 have k1 := (hb2.cell (p := ⟨w.heap.size, 1, none⟩) hz).trans k1
 have k2 := (hb2.cell (p := ⟨w.heap.size, 2, none⟩) hz).trans k2
 have k3 := (hb2.cell (p := ⟨w.heap.size, 3, none⟩) hz).trans k3
 have k4 := (hb2.cell (p := ⟨w.heap.size, 4, none⟩) hz).trans k4
 have k5 := (hb2.cell (p := ⟨w.heap.size, 5, none⟩) hz).trans k5
 have k6 := (hb2.cell (p := ⟨w.heap.size, 6, none⟩) hz).trans k6
 have k7 := (hb2.cell (p := ⟨w.heap.size, 7, none⟩) hz).trans k7
 have k8 := (hb2.cell (p := ⟨w.heap.size, 8, none⟩) hz).trans k8
 have k9 := (hb2.cell (p := ⟨w.heap.size, 9, none⟩) hz).trans k9
 clear hSS h0 hB1 hb1 hcB hcS hg hb0 g0 g1 g2 g3
 clear hz hb2
 cases sm
 ·go_wp2
  go_ret
  exact ⟨rfl, hbw⟩
 go_wp2_with fail
 refine (hN.out _).mono ?_
 rintro e u3 ⟨rfl, hF⟩
 have k0 := (hF.cell (World.block_lt_of_cell? _ _ k0)).trans k0
 have k1 := (hF.cell (World.block_lt_of_cell? _ _ k1)).trans k1
 have k2 := (hF.cell (World.block_lt_of_cell? _ _ k2)).trans k2
 have k3 := (hF.cell (World.block_lt_of_cell? _ _ k3)).trans k3
 have k4 := (hF.cell (World.block_lt_of_cell? _ _ k4)).trans k4
 have k5 := (hF.cell (World.block_lt_of_cell? _ _ k5)).trans k5
 have k6 := (hF.cell (World.block_lt_of_cell? _ _ k6)).trans k6
 have k7 := (hF.cell (World.block_lt_of_cell? _ _ k7)).trans k7
 have k8 := (hF.cell (World.block_lt_of_cell? _ _ k8)).trans k8
 have k9 := (hF.cell (World.block_lt_of_cell? _ _ k9)).trans k9
 have hbw := below_on hbw (Nat.le_refl _) hF
 clear hF
 cases hn : nameB x.acct
 ·skip
  have hR := Lib.hid (show fits1 x = false by unfold fits1; rw [hn]; rw [Bool.eq_iff_iff]; (try simp); (try omega))
  clear hN hP
  go_wp2
  go_ret
  exact ⟨by rw [hR.out]; rfl, hbw⟩
 by_cases hs : x.sum < 0
 ·have t : decide (x.sum < 0) = true := decide_eq_true hs
  have hR := Lib.hid (show fits1 x = false by unfold fits1; rw [hn]; rw [Bool.eq_iff_iff]; (try simp); (try omega))
  clear hN hP
  go_wp2
  go_ret
  exact ⟨by rw [hR.out]; rfl, hbw⟩
 have t : decide (x.sum < 0) = false := decide_eq_false hs
 have hR := Lib.hid (show fits1 x = true by unfold fits1; rw [hn]; rw [Bool.eq_iff_iff]; (try simp); (try omega))
 go_wp2
 go_ret
 exact ⟨by rw [hR.out]; rfl, hbw⟩
set_option maxRecDepth 100000 in
set_option maxHeartbeats 8000000 in
theorem rright_2 (x : Od) (w : World) (hx : Okb w w.heap.size x) (hl : x.legs.length ≤ 65536) (hk : x.kind = 2) (hc : 0 ≤ x.client ∧ x.client ≤ 9) (hs : 1 ≤ x.seq ∧ x.seq ≤ 999) :
  Calls Tryz.prog 61 #[x.v] w fun e w' => e = .returned (.bool (sameB x (dress x (bare2 x)) && fits2 x)) ∧ Below w.heap.size w w' := by
 have hzb : ∀ W, Below w.heap.size w W → Okb W W.heap.size (dress x (bare2 x)) := fun W h => by
  obtain ⟨a, b, c, d⟩ := Okb.later hx h
  exact ⟨Nat.zero_le _, Nat.zero_le _, c, d⟩
 have hcB := Lib.hid fun W => rbare2_c x hk W
 have hcS := Lib.hid fun W (h : Below w.heap.size w W) => rsame_c x (dress x (bare2 x)) W (Okb.later hx h) (hzb W h) hl (by show x.legs.length ≤ 65536; exact hl)
 have hN := Lib.hid fun W => rname_c x.acct hx.acct W
 have hP := Lib.hid fun W => rname_c x.peer hx.peer W
 have hLg := Lib.hid hx.legs
 have hlm : x.note.size ≤ 9223372036854775807 := Nat.le_trans hx.note (by decide)
 generalize hsm : sameB x (dress x (bare2 x)) = sm at *
 unfold Od.v at hcB hcS ⊢
 rw [hk] at hcB hcS ⊢
 have g0 : decide (x.client < 0) = false := decide_eq_false (by omega)
 have g1 : decide ((9 : Int) < x.client) = false := decide_eq_false (by omega)
 have g2 : decide (x.seq < 1) = false := decide_eq_false (by omega)
 have g3 : decide ((999 : Int) < x.seq) = false := decide_eq_false (by omega)
 clear hx hzb hsm hk hc hs
 have hb0 := (Below.refl w.heap.size w).alloc (Nat.le_refl _) (.cells #[i64 x.client, i64 x.seq, i64 2, .string x.acct, .string x.peer, i64 x.sum, .slice x.la x.legs.length x.lc, i64 x.period, i64 x.hold, .string x.note] 37)
 have hg := heap_alloc_new w (.cells #[i64 x.client, i64 x.seq, i64 2, .string x.acct, .string x.peer, i64 x.sum, .slice x.la x.legs.length x.lc, i64 x.period, i64 x.hold, .string x.note] 37)
 have hz : w.heap.size < (w.alloc (.cells #[i64 x.client, i64 x.seq, i64 2, .string x.acct, .string x.peer, i64 x.sum, .slice x.la x.legs.length x.lc, i64 x.period, i64 x.hold, .string x.note] 37)).heap.size := by simp
 have k0 := cell_of_row _ (w.heap.size) 0 _ _ (0, 0) hg
 have k1 := cell_of_row _ (w.heap.size) 1 _ _ (0, 0) hg
 have k2 := cell_of_row _ (w.heap.size) 2 _ _ (0, 0) hg
 have k3 := cell_of_row _ (w.heap.size) 3 _ _ (0, 0) hg
 have k4 := cell_of_row _ (w.heap.size) 4 _ _ (0, 0) hg
 have k5 := cell_of_row _ (w.heap.size) 5 _ _ (0, 0) hg
 have k6 := cell_of_row _ (w.heap.size) 6 _ _ (0, 0) hg
 have k7 := cell_of_row _ (w.heap.size) 7 _ _ (0, 0) hg
 have k8 := cell_of_row _ (w.heap.size) 8 _ _ (0, 0) hg
 have k9 := cell_of_row _ (w.heap.size) 9 _ _ (0, 0) hg
 simp only [List.getElem?_toArray, List.getElem?_cons_zero, List.getElem?_cons_succ] at k0 k1 k2 k3 k4 k5 k6 k7 k8 k9
 go_enter Tryz.func61, Tryz.ntmps61
 go_wp2_with fail
 generalize w.alloc (.cells #[i64 x.client, i64 x.seq, i64 2, .string x.acct, .string x.peer, i64 x.sum, .slice x.la x.legs.length x.lc, i64 x.period, i64 x.hold, .string x.note] 37) = W1 at *
 have hSS : ∀ V, Below W1.heap.size W1 V → (fun V : World => Below W1.heap.size W1 V ∧ V.cell? ⟨w.heap.size, 0, none⟩ = some (i64 x.client) ∧ V.cell? ⟨w.heap.size, 1, none⟩ = some (i64 x.seq) ∧ V.cell? ⟨w.heap.size, 2, none⟩ = some (i64 2) ∧ V.cell? ⟨w.heap.size, 3, none⟩ = some (.string x.acct) ∧ V.cell? ⟨w.heap.size, 4, none⟩ = some (.string x.peer) ∧ V.cell? ⟨w.heap.size, 5, none⟩ = some (i64 x.sum) ∧ V.cell? ⟨w.heap.size, 6, none⟩ = some (.slice x.la x.legs.length x.lc) ∧ V.cell? ⟨w.heap.size, 7, none⟩ = some (i64 x.period) ∧ V.cell? ⟨w.heap.size, 8, none⟩ = some (i64 x.hold) ∧ V.cell? ⟨w.heap.size, 9, none⟩ = some (.string x.note)) V := fun V h => ⟨h, (h.cell (p := ⟨w.heap.size, 0, none⟩) hz).trans k0, (h.cell (p := ⟨w.heap.size, 1, none⟩) hz).trans k1, (h.cell (p := ⟨w.heap.size, 2, none⟩) hz).trans k2, (h.cell (p := ⟨w.heap.size, 3, none⟩) hz).trans k3, (h.cell (p := ⟨w.heap.size, 4, none⟩) hz).trans k4, (h.cell (p := ⟨w.heap.size, 5, none⟩) hz).trans k5, (h.cell (p := ⟨w.heap.size, 6, none⟩) hz).trans k6, (h.cell (p := ⟨w.heap.size, 7, none⟩) hz).trans k7, (h.cell (p := ⟨w.heap.size, 8, none⟩) hz).trans k8, (h.cell (p := ⟨w.heap.size, 9, none⟩) hz).trans k9⟩
 have h0 := (Below.refl W1.heap.size W1).drew
 have hB1 := fun V (h : Below W1.heap.size W1 V) => below_on hb0 (Nat.le_refl _) h
 go_region_held3 (fun V : World => Below W1.heap.size W1 V ∧ V.cell? ⟨w.heap.size, 0, none⟩ = some (i64 x.client) ∧ V.cell? ⟨w.heap.size, 1, none⟩ = some (i64 x.seq) ∧ V.cell? ⟨w.heap.size, 2, none⟩ = some (i64 2) ∧ V.cell? ⟨w.heap.size, 3, none⟩ = some (.string x.acct) ∧ V.cell? ⟨w.heap.size, 4, none⟩ = some (.string x.peer) ∧ V.cell? ⟨w.heap.size, 5, none⟩ = some (i64 x.sum) ∧ V.cell? ⟨w.heap.size, 6, none⟩ = some (.slice x.la x.legs.length x.lc) ∧ V.cell? ⟨w.heap.size, 7, none⟩ = some (i64 x.period) ∧ V.cell? ⟨w.heap.size, 8, none⟩ = some (i64 x.hold) ∧ V.cell? ⟨w.heap.size, 9, none⟩ = some (.string x.note)) (first | exact hSS _ h0 | exact hSS _ (by assumption))
  (first
   | (go_at_call 112; with_reducible refine (hcB.out _).mono ?_; rintro e u1 ⟨rfl, hF⟩; have hb1 := below_on h0 (Nat.le_refl _) hF; clear hF)
   | (go_at_call 111; refine (hcS.out _ (hB1 _ hb1)).mono ?_; rintro e u2 ⟨rfl, hF⟩; have hb2 := below_on hb1 (Nat.le_refl _) hF; clear hF))
 have hbw := hB1 _ hb2
 have hz2 := Nat.lt_of_lt_of_le hz hb2.size
 have k0 := (hb2.cell (p := ⟨w.heap.size, 0, none⟩) hz).trans k0
 have k1 := (hb2.cell (p := ⟨w.heap.size, 1, none⟩) hz).trans k1
 have k2 := (hb2.cell (p := ⟨w.heap.size, 2, none⟩) hz).trans k2
 have k3 := (hb2.cell (p := ⟨w.heap.size, 3, none⟩) hz).trans k3
 have k4 := (hb2.cell (p := ⟨w.heap.size, 4, none⟩) hz).trans k4
 have k5 := (hb2.cell (p := ⟨w.heap.size, 5, none⟩) hz).trans k5
 have k6 := (hb2.cell (p := ⟨w.heap.size, 6, none⟩) hz).trans k6
 have k7 := (hb2.cell (p := ⟨w.heap.size, 7, none⟩) hz).trans k7
 have k8 := (hb2.cell (p := ⟨w.heap.size, 8, none⟩) hz).trans k8
 have k9 := (hb2.cell (p := ⟨w.heap.size, 9, none⟩) hz).trans k9
 clear hSS h0 hB1 hb1 hcB hcS hg hb0 g0 g1 g2 g3
 clear hz hb2
 cases sm
 ·go_wp2
  go_ret
  exact ⟨rfl, hbw⟩
 clear hN hP
 by_cases hp1 : x.period < 1
 ·have tp1 : decide (x.period < 1) = true := decide_eq_true hp1
  have hR := Lib.hid (show fits2 x = false by unfold fits2; rw [show periodB x.period = false by unfold periodB; rw [Bool.eq_false_iff]; simp only [ne_eq, Bool.and_eq_true, decide_eq_true_eq]; omega, Bool.and_false]; rfl)
  go_wp2
  go_ret
  exact ⟨by rw [hR.out]; rfl, hbw⟩
 have tp1 : decide (x.period < 1) = false := decide_eq_false hp1
 by_cases hp2 : 1000 < x.period
 ·have tp2 : decide ((1000 : Int) < x.period) = true := decide_eq_true hp2
  have hR := Lib.hid (show fits2 x = false by unfold fits2; rw [show periodB x.period = false by unfold periodB; rw [Bool.eq_false_iff]; simp only [ne_eq, Bool.and_eq_true, decide_eq_true_eq]; omega, Bool.and_false]; rfl)
  go_wp2
  go_ret
  exact ⟨by rw [hR.out]; rfl, hbw⟩
 have tp2 : decide ((1000 : Int) < x.period) = false := decide_eq_false hp2
 have hPer := Lib.hid (show periodB x.period = true by unfold periodB; rw [decide_eq_true (by omega), decide_eq_true (by omega)]; rfl)
 clear hp1 hp2
 have hlg := hLg.out.later hbw
 clear hLg
 have hlc : x.legs.length ≤ x.lc := hlg.1
 go_wp2_with fail
 go_loopw [5] (fun i wr => ∃ k : Nat, i = i64 k ∧ k ≤ x.legs.length ∧ legsTo x.legs k ∧ Below u2.heap.size u2 wr) (fun i _ => x.legs.length - (intOf i).toNat)
 case atStart => exact ⟨0, rfl, by omega, ⟨by simp, by simp⟩, Below.refl _ _⟩
 case round =>
  obtain ⟨k, rfl, hk, hto, hB⟩ := hrel
  have Hto := Lib.hid hto
  clear hto
  have hbr := below_on hbw (Nat.le_refl _) hB
  have m5 := (hB.cell (World.block_lt_of_cell? _ _ k6)).trans k6
  have m8 := (hB.cell (World.block_lt_of_cell? _ _ k9)).trans k9
  by_cases hlt : k < x.legs.length
  ·obtain ⟨b, ob, hA, hbb, hsz, c0, c1⟩ := (hlg.later hB).leg hlt
   have hCN := Lib.hid (rname_c x.legs[k].acct hsz wr)
   have hlgr := hlg.later hB
   clear hbb hsz
   rw [hA] at m5
   have HA := Lib.hid hA
   clear hA
   have i0 : (0 : Int) ≤ (k : Int) := by omega
   have i1 : (k : Int) < (x.legs.length : Int) := by omega
   go_wp2_with fail
   refine hCN.out.mono ?_
   rintro e u3 ⟨rfl, hF⟩
   have m5 := (hF.cell (World.block_lt_of_cell? _ _ m5)).trans m5
   have c0 := (hF.cell (World.block_lt_of_cell? _ _ c0)).trans c0
   have c1 := (hF.cell (World.block_lt_of_cell? _ _ c1)).trans c1
   have hB3 := below_on hB (Nat.le_refl _) hF
   have hb3 := below_on hbr (Nat.le_refl _) hF
   have hlg3 := hlgr.later hF
   clear hF hCN hlgr m8 hB hbr
   cases hn : nameB x.legs[k].acct
   ·have hbad := Lib.hid (show legB x.legs[k] = false by unfold legB; rw [hn]; rfl)
    have hR := Lib.hid (show fits2 x = false by unfold fits2; rw [legsB_bad hlt hbad.out]; rfl)
    go_wp2
    go_ret
    exact ⟨by rw [hR.out]; rfl, hb3⟩
   ·by_cases hs0 : x.legs[k].sum = 0
    ·have ts : (x.legs[k].sum == 0) = true := beq_iff_eq.2 hs0
     have hbad := Lib.hid (show legB x.legs[k] = false by unfold legB; rw [decide_eq_false (by simpa using hs0), Bool.and_false])
     have hR := Lib.hid (show fits2 x = false by unfold fits2; rw [legsB_bad hlt hbad.out]; rfl)
     clear hs0
     go_wp2
     go_ret
     exact ⟨by rw [hR.out]; rfl, hb3⟩
    ·have ts : (x.legs[k].sum == 0) = false := beq_eq_false_iff_ne.2 hs0
     have hgood := Lib.hid (show legB x.legs[k] = true by unfold legB; rw [hn, decide_eq_true hs0]; rfl)
     clear hs0 hn
     go_wp2_with fail
     go_loopw [6] (fun i wr => ∃ j : Nat, i = i64 j ∧ j ≤ k ∧ (∀ (q : Nat) (hq : q < x.legs.length), q < j → x.legs[q].acct ≠ x.legs[k].acct) ∧ Below u3.heap.size u3 wr) (fun i _ => k - (intOf i).toNat)
     case atStart => exact ⟨0, rfl, by omega, fun q hq h => absurd h (by omega), Below.refl _ _⟩
     case round =>
      obtain ⟨j, rfl, hj, hne, hB4⟩ := hrel
      have Hne := Lib.hid hne
      clear hne
      by_cases hjk : j < k
      ·have hjl : j < x.legs.length := by omega
       obtain ⟨b2, ob2, hA2, -, -, d0, -⟩ := hlg3.leg hjl
       rw [HA.out] at hA2
       injection hA2 with hA2
       injection hA2 with e1 e2
       subst e1 e2
       have d0 := (hB4.cell (World.block_lt_of_cell? _ _ d0)).trans d0
       have c0 := (hB4.cell (World.block_lt_of_cell? _ _ c0)).trans c0
       have m5 := (hB4.cell (World.block_lt_of_cell? _ _ m5)).trans m5
       have j0 : (0 : Int) ≤ (j : Int) := by omega
       have j1 : (j : Int) < (x.legs.length : Int) := by omega
       have j2 : (j : Int) < (k : Int) := by omega
       by_cases he : x.legs[j].acct = x.legs[k].acct
       ·have te : (x.legs[j].acct.toList == x.legs[k].acct.toList) = true := beqS_of_eq he
        have hR := Lib.hid (show fits2 x = false by
         unfold fits2
         rw [legsB_seen hlt (by
          rw [← he]
          refine List.mem_map_of_mem ?_
          rw [List.mem_take_iff_getElem]
          exact ⟨j, by omega, rfl⟩)]
         rfl)
        clear he
        go_wp2_with fail
        go_quiet (fail)
        go_wp2
        go_ret
        exact ⟨by rw [hR.out]; rfl, below_drewN (below_on hb3 (Nat.le_refl _) hB4) _⟩
       ·have te : (x.legs[j].acct.toList == x.legs[k].acct.toList) = false := beqS_of_ne he
        have He := Lib.hid he
        clear he
        go_wp2_with fail
        go_quiet (fail)
        go_wp2
        go_roundw
        case rel => exact ⟨j + 1, by go_num, by omega, fun q hq h => by
         rcases Nat.lt_succ_iff_lt_or_eq.1 h with h1 | rfl
         ·exact Hne.out q hq h1
         ·exact He.out, below_drewN hB4 _⟩
        case measure => simp [intOf]; omega
      ·obtain rfl : j = k := by omega
       have hnx := Lib.hid (Hto.out.next hlt (by
        intro hm
        obtain ⟨y, hy, hye⟩ := List.mem_map.1 hm
        rw [List.mem_take_iff_getElem] at hy
        obtain ⟨q, hq, rfl⟩ := hy
        exact Hne.out q (by omega) (by omega) hye) hgood.out)
       clear Hne
       go_wp2
       go_roundw
       case rel => exact ⟨_, _, _, _, _, _, _, _, _, _, _, _, _, _, _, _, _, _, _, _, _, _, _, _, _, _, _, _, _, _, _, _, _, _, _, _, _, _, _, _, _, _, _, _, _, ⟨j + 1, by go_num, by omega, hnx.out, below_on hB3 (Nat.le_refl _) hB4⟩, rfl⟩
       case measure => simp [intOf]; omega
  ·obtain rfl : k = x.legs.length := by omega
   have hF2 := Lib.hid (show fits2 x = ((decide (2 ≤ x.legs.length) && decide (x.legs.length ≤ 6)) && decide ((x.note.size : Int) ≤ 20)) by unfold fits2; rw [legsB_all Hto.out, hPer.out, Bool.and_true])
   clear Hto hlg
   by_cases h2 : 2 ≤ x.legs.length
   ·have t2 : decide ((2 : Int) ≤ (x.legs.length : Int)) = true := decide_eq_true (by omega)
    by_cases h6 : x.legs.length ≤ 6
    ·have t6 : decide ((x.legs.length : Int) ≤ 6) = true := decide_eq_true (by omega)
     have hR := Lib.hid (show fits2 x = decide ((x.note.size : Int) ≤ 20) by rw [hF2.out, decide_eq_true h2, decide_eq_true h6]; rfl)
     clear h2 h6 hF2
     by_cases hn : (x.note.size : Int) ≤ 20
     ·have tn : decide ((x.note.size : Int) ≤ 20) = true := decide_eq_true hn
      have hR2 := Lib.hid (hR.out.trans tn)
      clear hn hR
      go_wp2
      go_ret
      exact ⟨by rw [hR2.out]; rfl, hbr⟩
     ·have tn : decide ((x.note.size : Int) ≤ 20) = false := decide_eq_false hn
      have hR2 := Lib.hid (hR.out.trans tn)
      clear hn hR
      go_wp2
      go_ret
      exact ⟨by rw [hR2.out]; rfl, hbr⟩
    ·have t6 : decide ((x.legs.length : Int) ≤ 6) = false := decide_eq_false (by omega)
     have hR := Lib.hid (show fits2 x = false by rw [hF2.out, decide_eq_false h6, Bool.and_false]; rfl)
     clear h2 h6 hF2
     go_wp2
     go_ret
     exact ⟨by rw [hR.out]; rfl, hbr⟩
   ·have t2 : decide ((2 : Int) ≤ (x.legs.length : Int)) = false := decide_eq_false (by omega)
    have hR := Lib.hid (show fits2 x = false by rw [hF2.out, decide_eq_false h2]; rfl)
    clear h2 hF2
    go_wp2
    go_ret
    exact ⟨by rw [hR.out]; rfl, hbr⟩
set_option maxRecDepth 100000 in
set_option maxHeartbeats 8000000 in
theorem rright_3 (x : Od) (w : World) (hx : Okb w w.heap.size x) (hl : x.legs.length ≤ 65536) (hk : x.kind = 3) (hc : 0 ≤ x.client ∧ x.client ≤ 9) (hs : 1 ≤ x.seq ∧ x.seq ≤ 999) :
  Calls Tryz.prog 61 #[x.v] w fun e w' => e = .returned (.bool (sameB x (dress x (bare3 x)) && fits3 x)) ∧ Below w.heap.size w w' := by
 have hzb : ∀ W, Below w.heap.size w W → Okb W W.heap.size (dress x (bare3 x)) := fun W h => by
  obtain ⟨a, b, c, d⟩ := Okb.later hx h
  exact ⟨a, Nat.zero_le _, Nat.zero_le _, SlS.nil_ _ _⟩
 have hcB := Lib.hid fun W => rbare3_c x hk W
 have hcS := Lib.hid fun W (h : Below w.heap.size w W) => rsame_c x (dress x (bare3 x)) W (Okb.later hx h) (hzb W h) hl (by show (0 : Nat) ≤ 65536; omega)
 have hN := Lib.hid fun W => rname_c x.acct hx.acct W
 have hP := Lib.hid fun W => rname_c x.peer hx.peer W
 have hLg := Lib.hid hx.legs
 have hlm : x.note.size ≤ 9223372036854775807 := Nat.le_trans hx.note (by decide)
 generalize hsm : sameB x (dress x (bare3 x)) = sm at *
 unfold Od.v at hcB hcS ⊢
 rw [hk] at hcB hcS ⊢
 have g0 : decide (x.client < 0) = false := decide_eq_false (by omega)
 have g1 : decide ((9 : Int) < x.client) = false := decide_eq_false (by omega)
 have g2 : decide (x.seq < 1) = false := decide_eq_false (by omega)
 have g3 : decide ((999 : Int) < x.seq) = false := decide_eq_false (by omega)
 clear hx hzb hsm hk hc hs hl
 have hb0 := (Below.refl w.heap.size w).alloc (Nat.le_refl _) (.cells #[i64 x.client, i64 x.seq, i64 3, .string x.acct, .string x.peer, i64 x.sum, .slice x.la x.legs.length x.lc, i64 x.period, i64 x.hold, .string x.note] 37)
 have hg := heap_alloc_new w (.cells #[i64 x.client, i64 x.seq, i64 3, .string x.acct, .string x.peer, i64 x.sum, .slice x.la x.legs.length x.lc, i64 x.period, i64 x.hold, .string x.note] 37)
 have hz : w.heap.size < (w.alloc (.cells #[i64 x.client, i64 x.seq, i64 3, .string x.acct, .string x.peer, i64 x.sum, .slice x.la x.legs.length x.lc, i64 x.period, i64 x.hold, .string x.note] 37)).heap.size := by simp
 have k0 := cell_of_row _ (w.heap.size) 0 _ _ (0, 0) hg
 have k1 := cell_of_row _ (w.heap.size) 1 _ _ (0, 0) hg
 have k2 := cell_of_row _ (w.heap.size) 2 _ _ (0, 0) hg
 have k3 := cell_of_row _ (w.heap.size) 3 _ _ (0, 0) hg
 have k4 := cell_of_row _ (w.heap.size) 4 _ _ (0, 0) hg
 have k5 := cell_of_row _ (w.heap.size) 5 _ _ (0, 0) hg
 have k6 := cell_of_row _ (w.heap.size) 6 _ _ (0, 0) hg
 have k7 := cell_of_row _ (w.heap.size) 7 _ _ (0, 0) hg
 have k8 := cell_of_row _ (w.heap.size) 8 _ _ (0, 0) hg
 have k9 := cell_of_row _ (w.heap.size) 9 _ _ (0, 0) hg
 simp only [List.getElem?_toArray, List.getElem?_cons_zero, List.getElem?_cons_succ] at k0 k1 k2 k3 k4 k5 k6 k7 k8 k9
 go_enter Tryz.func61, Tryz.ntmps61
 go_wp2_with fail
 generalize w.alloc (.cells #[i64 x.client, i64 x.seq, i64 3, .string x.acct, .string x.peer, i64 x.sum, .slice x.la x.legs.length x.lc, i64 x.period, i64 x.hold, .string x.note] 37) = W1 at *
 have hSS : ∀ V, Below W1.heap.size W1 V → (fun V : World => Below W1.heap.size W1 V ∧ V.cell? ⟨w.heap.size, 0, none⟩ = some (i64 x.client) ∧ V.cell? ⟨w.heap.size, 1, none⟩ = some (i64 x.seq) ∧ V.cell? ⟨w.heap.size, 2, none⟩ = some (i64 3) ∧ V.cell? ⟨w.heap.size, 3, none⟩ = some (.string x.acct) ∧ V.cell? ⟨w.heap.size, 4, none⟩ = some (.string x.peer) ∧ V.cell? ⟨w.heap.size, 5, none⟩ = some (i64 x.sum) ∧ V.cell? ⟨w.heap.size, 6, none⟩ = some (.slice x.la x.legs.length x.lc) ∧ V.cell? ⟨w.heap.size, 7, none⟩ = some (i64 x.period) ∧ V.cell? ⟨w.heap.size, 8, none⟩ = some (i64 x.hold) ∧ V.cell? ⟨w.heap.size, 9, none⟩ = some (.string x.note)) V := fun V h => ⟨h, (h.cell (p := ⟨w.heap.size, 0, none⟩) hz).trans k0, (h.cell (p := ⟨w.heap.size, 1, none⟩) hz).trans k1, (h.cell (p := ⟨w.heap.size, 2, none⟩) hz).trans k2, (h.cell (p := ⟨w.heap.size, 3, none⟩) hz).trans k3, (h.cell (p := ⟨w.heap.size, 4, none⟩) hz).trans k4, (h.cell (p := ⟨w.heap.size, 5, none⟩) hz).trans k5, (h.cell (p := ⟨w.heap.size, 6, none⟩) hz).trans k6, (h.cell (p := ⟨w.heap.size, 7, none⟩) hz).trans k7, (h.cell (p := ⟨w.heap.size, 8, none⟩) hz).trans k8, (h.cell (p := ⟨w.heap.size, 9, none⟩) hz).trans k9⟩
 have h0 := (Below.refl W1.heap.size W1).drew
 have hB1 := fun V (h : Below W1.heap.size W1 V) => below_on hb0 (Nat.le_refl _) h
 go_region_held3 (fun V : World => Below W1.heap.size W1 V ∧ V.cell? ⟨w.heap.size, 0, none⟩ = some (i64 x.client) ∧ V.cell? ⟨w.heap.size, 1, none⟩ = some (i64 x.seq) ∧ V.cell? ⟨w.heap.size, 2, none⟩ = some (i64 3) ∧ V.cell? ⟨w.heap.size, 3, none⟩ = some (.string x.acct) ∧ V.cell? ⟨w.heap.size, 4, none⟩ = some (.string x.peer) ∧ V.cell? ⟨w.heap.size, 5, none⟩ = some (i64 x.sum) ∧ V.cell? ⟨w.heap.size, 6, none⟩ = some (.slice x.la x.legs.length x.lc) ∧ V.cell? ⟨w.heap.size, 7, none⟩ = some (i64 x.period) ∧ V.cell? ⟨w.heap.size, 8, none⟩ = some (i64 x.hold) ∧ V.cell? ⟨w.heap.size, 9, none⟩ = some (.string x.note)) (first | exact hSS _ h0 | exact hSS _ (by assumption))
  (first
   | (go_at_call 112; with_reducible refine (hcB.out _).mono ?_; rintro e u1 ⟨rfl, hF⟩; have hb1 := below_on h0 (Nat.le_refl _) hF; clear hF)
   | (go_at_call 111; refine (hcS.out _ (hB1 _ hb1)).mono ?_; rintro e u2 ⟨rfl, hF⟩; have hb2 := below_on hb1 (Nat.le_refl _) hF; clear hF))
 have hbw := hB1 _ hb2
 have hz2 := Nat.lt_of_lt_of_le hz hb2.size
 have k0 := (hb2.cell (p := ⟨w.heap.size, 0, none⟩) hz).trans k0
 have k1 := (hb2.cell (p := ⟨w.heap.size, 1, none⟩) hz).trans k1
 have k2 := (hb2.cell (p := ⟨w.heap.size, 2, none⟩) hz).trans k2
 have k3 := (hb2.cell (p := ⟨w.heap.size, 3, none⟩) hz).trans k3
 have k4 := (hb2.cell (p := ⟨w.heap.size, 4, none⟩) hz).trans k4
 have k5 := (hb2.cell (p := ⟨w.heap.size, 5, none⟩) hz).trans k5
 have k6 := (hb2.cell (p := ⟨w.heap.size, 6, none⟩) hz).trans k6
 have k7 := (hb2.cell (p := ⟨w.heap.size, 7, none⟩) hz).trans k7
 have k8 := (hb2.cell (p := ⟨w.heap.size, 8, none⟩) hz).trans k8
 have k9 := (hb2.cell (p := ⟨w.heap.size, 9, none⟩) hz).trans k9
 clear hSS h0 hB1 hb1 hcB hcS hg hb0 g0 g1 g2 g3
 clear hz hb2
 cases sm
 ·go_wp2
  go_ret
  exact ⟨rfl, hbw⟩
 go_wp2_with fail
 refine (hN.out _).mono ?_
 rintro e u3 ⟨rfl, hF⟩
 have k0 := (hF.cell (World.block_lt_of_cell? _ _ k0)).trans k0
 have k1 := (hF.cell (World.block_lt_of_cell? _ _ k1)).trans k1
 have k2 := (hF.cell (World.block_lt_of_cell? _ _ k2)).trans k2
 have k3 := (hF.cell (World.block_lt_of_cell? _ _ k3)).trans k3
 have k4 := (hF.cell (World.block_lt_of_cell? _ _ k4)).trans k4
 have k5 := (hF.cell (World.block_lt_of_cell? _ _ k5)).trans k5
 have k6 := (hF.cell (World.block_lt_of_cell? _ _ k6)).trans k6
 have k7 := (hF.cell (World.block_lt_of_cell? _ _ k7)).trans k7
 have k8 := (hF.cell (World.block_lt_of_cell? _ _ k8)).trans k8
 have k9 := (hF.cell (World.block_lt_of_cell? _ _ k9)).trans k9
 have hbw := below_on hbw (Nat.le_refl _) hF
 clear hF
 cases hn : nameB x.acct
 ·skip
  have hR := Lib.hid (show fits3 x = false by unfold fits3; rw [hn]; rw [Bool.eq_iff_iff]; (try simp); (try omega))
  clear hN hP
  go_wp2
  go_ret
  exact ⟨by rw [hR.out]; rfl, hbw⟩
 by_cases hs : x.sum < 1
 ·have t : decide (x.sum < 1) = true := decide_eq_true hs
  have hR := Lib.hid (show fits3 x = false by unfold fits3; rw [hn]; rw [Bool.eq_iff_iff]; (try simp); (try omega))
  clear hN hP
  go_wp2
  go_ret
  exact ⟨by rw [hR.out]; rfl, hbw⟩
 have t : decide (x.sum < 1) = false := decide_eq_false hs
 have hR := Lib.hid (show fits3 x = true by unfold fits3; rw [hn]; rw [Bool.eq_iff_iff]; (try simp); (try omega))
 go_wp2
 go_ret
 exact ⟨by rw [hR.out]; rfl, hbw⟩
end Go.Proofs.YtampniiehgimhaaGreat
