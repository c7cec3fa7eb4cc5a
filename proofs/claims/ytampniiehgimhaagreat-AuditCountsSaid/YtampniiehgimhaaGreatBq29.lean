/- Texts of this claim, laid together: AuP, AuM, Mv, OperLit, OperMv, SlLeg. -/
import Derived.Test.YtampniiehgimhaaGreatRows
import Derived.Test.YtampniiehgimhaaGreatBq25
import Derived.Test.YtampniiehgimhaaGreatBq5
import Derived.Test.YtampniiehgimhaaGreatBq6
import Derived.Test.YtampniiehgimhaaGreatBq9
import Derived.WalkKit
import Derived.WalkSpells
import Derived.WalkLawsBesides
import Derived.Deep.QuietTactic
import Derived.BigQuiet
import Derived.Laws.StructEq
import Derived.Deep.DeepFit
import Derived.StillTailTactics
import Derived.Test.YtampniiehgimhaaGreatBq1
import Derived.Test.YtampniiehgimhaaGreatBq23
import Derived.Test.YtampniiehgimhaaGreatBq13

/- audit: what orders move (plain) -/
namespace Go.Proofs.YtampniiehgimhaaGreat
open Go.RowKit
/-- an order, and what it is told: did it move something? -/
def mvB (p : Od × Rp) : Bool := decide (p.2.err = 0) && (decide (p.1.kind = 2) || decide (p.1.kind = 4))
def movedZ (Z : List (Od × Rp)) : List Od := (Z.filter mvB).map (·.1)
/-- the orders that moved something -/
abbrev movedL (l : List Od) : List Od := movedZ (toldZ bk0 l)
theorem movedZ_app (Y Z : List (Od × Rp)) : movedZ (Y ++ Z) = movedZ Y ++ movedZ Z := by unfold movedZ; rw [List.filter_append, List.map_append]
theorem toldZ_snoc (B : Bk) (l : List Od) (x : Od) : toldZ B (l ++ [x]) = toldZ B l ++ [(x, (doL (foldL B l) x).1)] := by rw [toldZ_app]; rfl
theorem toldZ_len (B : Bk) (l : List Od) : (toldZ B l).length = l.length := by unfold toldZ; rw [List.length_zip, toldL_len]; omega
theorem toldZ_snd (B : Bk) (l : List Od) : (toldZ B l).map (·.2) = toldL B l := by
 unfold toldZ
 rw [show (fun x : Od × Rp => x.2) = Prod.snd from rfl, List.map_snd_zip]
 rw [toldL_len]; exact Nat.le_refl _
theorem toldZ_take (B : Bk) {l : List Od} {k : Nat} (hk : k < l.length) : (toldZ B l).take (k + 1) = (toldZ B l).take k ++ [(l[k], (toldL B l)[k]'(by rw [toldL_len]; exact hk))] := by
 rw [List.take_succ_eq_append_getElem (by rw [toldZ_len]; exact hk)]
 congr 2
 unfold toldZ
 rw [List.getElem_zip]
theorem toldZ_mem : ∀ (l : List Od) (B : Bk), InvB B → (∀ x ∈ l, OdB x) → ∀ p ∈ toldZ B l, p.1 ∈ l ∧ ∃ C, InvB C ∧ p.2 = (doL C p.1).1
 | [], _, _, _ => fun p hp => by cases hp
 | x :: r, B, hI, hx => fun p hp => by
  rw [toldZ_cons] at hp
  rcases List.mem_cons.1 hp with rfl | hp
  ·exact ⟨List.mem_cons_self .., B, hI, rfl⟩
  ·obtain ⟨h1, h2⟩ := toldZ_mem r _ (hI.do_ (hx x (List.mem_cons_self ..))) (fun y hy => hx y (List.mem_cons_of_mem _ hy)) p hp
   exact ⟨List.mem_cons_of_mem _ h1, h2⟩
theorem do_right {B : Bk} {x : Od} (h : (doL B x).1.err = 0) : rightB x = true := by
 unfold doL at h
 by_cases hr : rightB x = false
 ·rw [if_pos hr] at h; cases h
 ·simpa using hr
/-- an order that moved something -/
structure Mvd (x : Od) : Prop where
 right : rightB x = true
 kind : x.kind = 2 ∨ x.kind = 4
 done : ∃ C, InvB C ∧ (doL C x).1.err = 0
theorem movedL_mem {l : List Od} (hx : ∀ x ∈ l, OdB x) {x : Od} (h : x ∈ movedL l) : x ∈ l ∧ Mvd x := by
 obtain ⟨p, hp, rfl⟩ := List.mem_map.1 h
 obtain ⟨hp, hm⟩ := List.mem_filter.1 hp
 unfold mvB at hm
 simp only [Bool.and_eq_true, Bool.or_eq_true, decide_eq_true_eq] at hm
 obtain ⟨h1, C, hC, h2⟩ := toldZ_mem l bk0 inv_bk0 hx p hp
 rw [h2] at hm
 exact ⟨h1, do_right hm.1, hm.2, C, hC, hm.1⟩
theorem movedL_len (l : List Od) : (movedL l).length ≤ l.length := by
 show (List.map (·.1) (List.filter mvB (toldZ bk0 l))).length ≤ l.length
 rw [List.length_map]
 exact Nat.le_trans (List.length_filter_le _ _) (Nat.le_of_eq (toldZ_len _ _))
/-- what an order moves -/
def mvL (x : Od) : List Leg := if x.kind = 2 then x.legs else legs2 x.acct x.peer x.sum
theorem Mvd.fits {x : Od} (h : Mvd x) : 2 ≤ (mvL x).length ∧ (mvL x).length ≤ 6 ∧ 1 ≤ x.period ∧ x.period ≤ 1000 ∧ (x.kind = 4 → 1 ≤ x.sum) := by
 have hf := rightB_fits h.right
 unfold fitsO at hf
 unfold mvL
 rcases h.kind with k | k
 ·rw [if_neg (by omega), if_pos k] at hf
  unfold fits2 periodB at hf
  simp only [Bool.and_eq_true, decide_eq_true_eq] at hf
  obtain ⟨⟨h1, h2, h3⟩, -⟩ := hf
  unfold legsB at h1
  simp only [Bool.and_eq_true, decide_eq_true_eq] at h1
  rw [if_pos k]
  exact ⟨h1.2.1, h1.2.2, h2, h3, fun e => by omega⟩
 ·rw [if_neg (by omega), if_neg (by omega), if_neg (by omega), if_pos k] at hf
  unfold fits4 periodB at hf
  simp only [Bool.and_eq_true, decide_eq_true_eq] at hf
  obtain ⟨⟨⟨⟨_, _⟩, h1⟩, _⟩, h2, h3⟩ := hf
  rw [if_neg (by omega)]
  exact ⟨Nat.le_refl _, by show 2 ≤ 6; decide, h2, h3, fun _ => by omega⟩
theorem Mvd.sums {x : Od} (h : Mvd x) (hx : OdB x) : ∀ y ∈ mvL x, R64 y.sum := by
 obtain ⟨_, _, _, hs, _, _, hl⟩ := hx.rng
 have h4 := h.fits.2.2.2.2
 unfold mvL
 split
 ·exact hl
 ·rename_i hk
  have h1 := h4 (h.kind.resolve_left hk)
  intro y hy
  unfold legs2 at hy
  unfold R64 at hs ⊢
  rcases List.mem_cons.1 hy with rfl | hy
  ·show _ ≤ -x.sum ∧ -x.sum ≤ _; omega
  ·simp only [List.mem_singleton] at hy; subst hy; show _ ≤ x.sum ∧ x.sum ≤ _; omega
/-- a book's told order weighs 0 -/
theorem Mvd.zero {x : Od} (h : Mvd x) : sumL ((mvL x).map Leg.sum) = 0 := by
 obtain ⟨C, hC, hd⟩ := h.done
 have hr := h.right
 unfold mvL
 rcases h.kind with k | k
 ·rw [if_pos k]
  unfold doL kindD at hd
  rw [if_neg (by rw [hr]; decide), if_neg (by omega), if_pos k] at hd
  unfold postD at hd
  split at hd
  ·cases hd
  ·have hm : (makeL C.L x.legs).1 = 0 := hd
   unfold makeL at hm
   split at hm
   ·rename_i e; exact absurd hm e
   ·rename_i hc
    have hc : checkL C.L x.legs = 0 := by simpa using hc
    unfold checkL at hc
    split at hc
    ·cases hc
    ·split at hc
     ·cases hc
     ·rename_i h2
      have hw : weighB x.legs = true := by simpa using h2
      unfold weighB at hw
      simp only [Bool.and_eq_true, decide_eq_true_eq] at hw
      have h1 := hw.1
      have h2 := hw.2
      unfold sumR at h1 h2
      split at h1
      ·cases h1
      ·rename_i e; rw [if_neg e] at h2; exact h2
 ·rw [if_neg (by omega)]
  show -x.sum + (x.sum + 0) = 0
  omega
/-- what moves of some periods move -/
def legsR (M : List Od) (a b : Int) : List Leg := M.flatMap fun x => if a ≤ x.period ∧ x.period ≤ b then mvL x else []
theorem legsR_app (M N : List Od) (a b : Int) : legsR (M ++ N) a b = legsR M a b ++ legsR N a b := List.flatMap_append ..
theorem legsR_perm {M N : List Od} (h : M.Perm N) (a b : Int) : (legsR M a b).Perm (legsR N a b) := h.flatMap_right _
theorem legsR_sums {l : List Od} (hx : ∀ x ∈ l, OdB x) (a b : Int) : ∀ y ∈ legsR (movedL l) a b, R64 y.sum := fun y hy => by
 obtain ⟨x, hm, hy⟩ := List.mem_flatMap.1 hy
 obtain ⟨h1, h2⟩ := movedL_mem hx hm
 split at hy
 ·exact h2.sums (hx x h1) y hy
 ·cases hy
theorem flat_le {α β : Type} (f : α → List β) (n : Nat) : ∀ l : List α, (∀ x ∈ l, (f x).length ≤ n) → (l.flatMap f).length ≤ l.length * n
 | [], _ => by simp
 | x :: r, h => by
  rw [List.flatMap_cons, List.length_append, List.length_cons, Nat.add_mul]
  have h1 := flat_le f n r fun y hy => h y (List.mem_cons_of_mem _ hy)
  have h2 := h x (List.mem_cons_self ..)
  omega
theorem legsR_len {l : List Od} (hx : ∀ x ∈ l, OdB x) (a b : Int) : (legsR (movedL l) a b).length ≤ 6 * l.length := by
 have h := flat_le (fun x : Od => if a ≤ x.period ∧ x.period ≤ b then mvL x else []) 6 (movedL l) fun x hm => by
  split
  ·exact (movedL_mem hx hm).2.fits.2.1
  ·exact Nat.zero_le _
 have h2 := movedL_len l
 unfold legsR
 omega
/-- the sums of an account above 0, and the others -/
def inK (ls : List Leg) (k : ByteArray) : List Int := (ls.filter fun x => decide (x.acct = k) && decide (0 < x.sum)).map Leg.sum
def outK (ls : List Leg) (k : ByteArray) : List Int := (ls.filter fun x => decide (x.acct = k) && !decide (0 < x.sum)).map Leg.sum
def allK (ls : List Leg) (k : ByteArray) : List Int := (ls.filter fun x => decide (x.acct = k)).map Leg.sum
theorem inK_app (l m : List Leg) (k : ByteArray) : inK (l ++ m) k = inK l k ++ inK m k := by unfold inK; rw [List.filter_append, List.map_append]
theorem outK_app (l m : List Leg) (k : ByteArray) : outK (l ++ m) k = outK l k ++ outK m k := by unfold outK; rw [List.filter_append, List.map_append]
theorem allK_app (l m : List Leg) (k : ByteArray) : allK (l ++ m) k = allK l k ++ allK m k := by unfold allK; rw [List.filter_append, List.map_append]
theorem inK_sub (ls : List Leg) (k : ByteArray) : ∀ a ∈ inK ls k, ∃ x ∈ ls, x.sum = a := fun a h => by
 obtain ⟨x, hx, rfl⟩ := List.mem_map.1 h
 exact ⟨x, (List.mem_filter.1 hx).1, rfl⟩
theorem outK_sub (ls : List Leg) (k : ByteArray) : ∀ a ∈ outK ls k, ∃ x ∈ ls, x.sum = a := fun a h => by
 obtain ⟨x, hx, rfl⟩ := List.mem_map.1 h
 exact ⟨x, (List.mem_filter.1 hx).1, rfl⟩
theorem inK_len (ls : List Leg) (k : ByteArray) : (inK ls k).length ≤ ls.length := by unfold inK; rw [List.length_map]; exact List.length_filter_le _ _
theorem outK_len (ls : List Leg) (k : ByteArray) : (outK ls k).length ≤ ls.length := by unfold outK; rw [List.length_map]; exact List.length_filter_le _ _
theorem inK_snoc (ls : List Leg) (x : Leg) (k : ByteArray) : inK (ls ++ [x]) k = if x.acct = k ∧ 0 < x.sum then inK ls k ++ [x.sum] else inK ls k := by
 rw [inK_app]
 unfold inK
 by_cases h : x.acct = k ∧ 0 < x.sum
 ·rw [if_pos h, List.filter_cons_of_pos (by simp [h.1, h.2])]; rfl
 ·rw [if_neg h, List.filter_cons_of_neg (by simpa using h)]; simp
theorem outK_snoc (ls : List Leg) (x : Leg) (k : ByteArray) : outK (ls ++ [x]) k = if x.acct = k ∧ ¬ 0 < x.sum then outK ls k ++ [x.sum] else outK ls k := by
 rw [outK_app]
 unfold outK
 by_cases h : x.acct = k ∧ ¬ 0 < x.sum
 ·rw [if_pos h, List.filter_cons_of_pos (by simp [h.1]; omega)]; rfl
 ·rw [if_neg h, List.filter_cons_of_neg (by simpa using h)]; simp
/-- both together -/
theorem in_out : ∀ (ls : List Leg) (k : ByteArray), sumL (inK ls k) + sumL (outK ls k) = sumL (allK ls k)
 | [], _ => rfl
 | x :: r, k => by
  have ih := in_out r k
  have e1 : inK (x :: r) k = inK [x] k ++ inK r k := inK_app [x] r k
  have e2 : outK (x :: r) k = outK [x] k ++ outK r k := outK_app [x] r k
  have e3 : allK (x :: r) k = allK [x] k ++ allK r k := allK_app [x] r k
  rw [e1, e2, e3, sumL_app, sumL_app, sumL_app]
  have : sumL (inK [x] k) + sumL (outK [x] k) = sumL (allK [x] k) := by
   unfold inK outK allK
   by_cases h : x.acct = k
   ·by_cases h0 : 0 < x.sum
    ·simp [h, h0, sumL]
    ·simp [h, h0, sumL]
   ·simp [h, sumL]
  omega
/-- the names of accounts, in order, each once -/
def hasN (N : List ByteArray) (k : ByteArray) : Bool := N.any fun j => decide (j = k)
theorem hasN_iff {N : List ByteArray} {k : ByteArray} : hasN N k = true ↔ k ∈ N := by unfold hasN; simp
def addN (N : List ByteArray) (k : ByteArray) : List ByteArray := if hasN N k = true then N else insB bless k N
def namesL (ls : List Leg) : List ByteArray := ls.foldl (fun N x => addN N x.acct) []
theorem namesL_snoc (ls : List Leg) (x : Leg) : namesL (ls ++ [x]) = addN (namesL ls) x.acct := by unfold namesL; rw [List.foldl_append]; rfl
theorem addN_mem {N : List ByteArray} {k j : ByteArray} : j ∈ addN N k ↔ j = k ∨ j ∈ N := by
 unfold addN
 split
 ·rename_i h
  rw [hasN_iff] at h
  exact ⟨.inr, fun e => e.elim (fun e => e ▸ h) id⟩
 ·exact insB_mem
theorem addN_srt {N : List ByteArray} (h : SrtL bless N) (k : ByteArray) : SrtL bless (addN N k) := by
 unfold addN
 split
 ·exact h
 ·rename_i hk
  rw [hasN_iff] at hk
  refine insB_srt bless_strict k N h fun y hy => ?_
  cases h1 : bless k y with
  | true => exact .inl rfl
  | false =>
   cases h2 : bless y k with
   | true => exact .inr rfl
   | false => exact absurd (bless_tri h1 h2 ▸ hy) hk
theorem namesL_both : ∀ (ls : List Leg) (N : List ByteArray), SrtL bless N → SrtL bless (ls.foldl (fun N x => addN N x.acct) N) ∧ ∀ k, k ∈ ls.foldl (fun N x => addN N x.acct) N ↔ k ∈ N ∨ ∃ x ∈ ls, x.acct = k
 | [], N, h => ⟨h, fun k => by simp⟩
 | x :: r, N, h => by
  obtain ⟨h1, h2⟩ := namesL_both r (addN N x.acct) (addN_srt h _)
  refine ⟨h1, fun k => (h2 k).trans ?_⟩
  rw [addN_mem]
  constructor
  ·rintro ((rfl | h) | ⟨y, hy, e⟩)
   ·exact .inr ⟨x, by simp, rfl⟩
   ·exact .inl h
   ·exact .inr ⟨y, by simp [hy], e⟩
  ·rintro (h | ⟨y, hy, e⟩)
   ·exact .inl (.inr h)
   ·rcases List.mem_cons.1 hy with rfl | hy
    ·exact .inl (.inl e.symm)
    ·exact .inr ⟨y, hy, e⟩
theorem namesL_srt (ls : List Leg) : SrtL bless (namesL ls) := (namesL_both ls [] List.Pairwise.nil).1
theorem namesL_mem {ls : List Leg} {k : ByteArray} : k ∈ namesL ls ↔ ∃ x ∈ ls, x.acct = k := by
 have := (namesL_both ls [] List.Pairwise.nil).2 k
 unfold namesL
 simpa using this
theorem namesL_perm {l m : List Leg} (h : l.Perm m) : namesL l = namesL m :=
 srt_ext bless_strict (namesL_srt l) (namesL_srt m) fun k => by
  rw [namesL_mem, namesL_mem]
  constructor
  ·rintro ⟨x, hx, e⟩; exact ⟨x, h.mem_iff.1 hx, e⟩
  ·rintro ⟨x, hx, e⟩; exact ⟨x, h.mem_iff.2 hx, e⟩
theorem addN_len (N : List ByteArray) (k : ByteArray) : (addN N k).length ≤ N.length + 1 := by
 unfold addN
 split
 ·omega
 ·rw [(insB_perm _ _).length_eq]; simp
theorem namesL_len (ls : List Leg) : (namesL ls).length ≤ ls.length := by
 have : ∀ (ls : List Leg) (N : List ByteArray), (ls.foldl (fun N x => addN N x.acct) N).length ≤ N.length + ls.length := fun ls => by
  induction ls with
  | nil => intro N; simp
  | cons x r ih =>
   intro N
   have h1 := ih (addN N x.acct)
   have h2 := addN_len N x.acct
   show (r.foldl (fun N x => addN N x.acct) (addN N x.acct)).length ≤ _
   rw [List.length_cons]
   omega
 have := this ls []
 simpa [namesL] using this
/-- a line of a trial -/
structure Ln where
 acct : ByteArray
 inn : Int
 out : Int
deriving DecidableEq
def lineOf (ls : List Leg) (k : ByteArray) : Ln := ⟨k, (sumR (sumL (inK ls k))).1, (sumR (0 - (sumR (sumL (outK ls k))).1)).1⟩
/-- are these sums? -/
def okLn (ls : List Leg) (k : ByteArray) : Bool := decide ((sumR (sumL (inK ls k))).2 = 0) && (decide ((sumR (sumL (outK ls k))).2 = 0) && decide ((sumR (0 - (sumR (sumL (outK ls k))).1)).2 = 0))
/-- audit.Trial -/
def trialL (ls : List Leg) : List Ln × Int := if (namesL ls).all (okLn ls) = true then ((namesL ls).map (lineOf ls), 0) else ([], 2)
/-- audit.Between -/
def betwL (ls : List Leg) (k : ByteArray) : Int × Int := sumR (sumL (allK ls k))
theorem inK_perm {l m : List Leg} (h : l.Perm m) (k : ByteArray) : (inK l k).Perm (inK m k) := (h.filter _).map _
theorem outK_perm {l m : List Leg} (h : l.Perm m) (k : ByteArray) : (outK l k).Perm (outK m k) := (h.filter _).map _
theorem allK_perm {l m : List Leg} (h : l.Perm m) (k : ByteArray) : (allK l k).Perm (allK m k) := (h.filter _).map _
theorem lineOf_perm {l m : List Leg} (h : l.Perm m) : lineOf l = lineOf m := funext fun k => by
 unfold lineOf
 rw [sumL_perm (inK_perm h k), sumL_perm (outK_perm h k)]
theorem okLn_perm {l m : List Leg} (h : l.Perm m) : okLn l = okLn m := funext fun k => by
 unfold okLn
 rw [sumL_perm (inK_perm h k), sumL_perm (outK_perm h k)]
theorem trialL_perm {l m : List Leg} (h : l.Perm m) : trialL l = trialL m := by
 unfold trialL
 rw [namesL_perm h, lineOf_perm h, okLn_perm h]
theorem betwL_perm {l m : List Leg} (h : l.Perm m) (k : ByteArray) : betwL l k = betwL m k := by
 unfold betwL
 rw [sumL_perm (allK_perm h k)]
theorem movedZ_perm {Y Z : List (Od × Rp)} (h : Y.Perm Z) : (movedZ Y).Perm (movedZ Z) := (h.filter _).map _
theorem sumR_ok {n : Int} (h : (sumR n).2 = 0) : (sumR n).1 = n ∧ R64 n := by
 unfold sumR at *
 split
 ·rename_i h1; rw [if_pos h1] at h; cases h
 ·rename_i h1
  have : overB n = false := by simpa using h1
  unfold overB at this
  simp only [Bool.not_eq_false', Bool.and_eq_true, decide_eq_true_eq] at this
  exact ⟨rfl, this⟩
end Go.Proofs.YtampniiehgimhaaGreat

/- audit: flows in memory -/
namespace Go.Proofs.YtampniiehgimhaaGreat
open Go.RowKit
/-- what came and went of an account: where it lies -/
structure Fl where
 name : ByteArray
 p : Nat
 vi : Value
 li : List Int
 vo : Value
 lo : List Int
abbrev Fl.ptr (x : Fl) : Value := .pointer (some ⟨x.p, 0, none⟩)
def flEnts (T : List Fl) : List (ByteArray × Value) := T.map fun x => (x.name, x.ptr)
def getF (T : List Fl) (k : ByteArray) : Option Fl := T.find? fun x => decide (x.name = k)
theorem flEnts_get (T : List Fl) (k : ByteArray) : getM (flEnts T) k = (getF T k).map Fl.ptr := by
 unfold getM flEnts getF
 rw [List.find?_map, Option.map_map]
 rfl
theorem getF_mem {T : List Fl} {k : ByteArray} {x : Fl} (h : getF T k = some x) : x ∈ T ∧ x.name = k := ⟨List.mem_of_find?_eq_some h, by simpa using List.find?_some h⟩
theorem getF_none {T : List Fl} {k : ByteArray} : getF T k = none ↔ ∀ x ∈ T, x.name ≠ k := by
 unfold getF
 rw [List.find?_eq_none]
 simp
def setF (T : List Fl) (y : Fl) : List Fl := T.map fun z => if z.name = y.name then y else z
theorem mem_setF {T : List Fl} {y z : Fl} (h : z ∈ setF T y) : z = y ∨ (z ∈ T ∧ z.name ≠ y.name) := by
 obtain ⟨q, hq, rfl⟩ := List.mem_map.1 h
 by_cases e : q.name = y.name
 ·rw [if_pos e]; exact .inl rfl
 ·rw [if_neg e]; exact .inr ⟨hq, e⟩
theorem setF_names (T : List Fl) (y : Fl) : (setF T y).map Fl.name = T.map Fl.name := by
 unfold setF
 rw [List.map_map]
 refine List.map_congr_left fun z _ => ?_
 show (if z.name = y.name then y else z).name = z.name
 split
 ·rename_i e; exact e.symm
 ·rfl
structure FlM (w : World) (B b : Nat) (T : List Fl) : Prop where
 map : MapIs Value.string w b (flEnts T)
 cell : ∀ x ∈ T, w.heap[x.p]? = some (.cells #[x.vi, x.vo] 183 (0, 0))
 inn : ∀ x ∈ T, Own w B 2 x.vi x.li
 out : ∀ x ∈ T, Own w B 2 x.vo x.lo
 lo : ∀ x ∈ T, B ≤ x.p
 lab : ∃ f : Nat → Option (ByteArray × Nat), f b = some (ByteArray.empty, 3) ∧ ∀ x ∈ T, f x.p = some (x.name, 0) ∧ (∀ g, x.vi.ownBlock = some g → f g = some (x.name, 1)) ∧ (∀ g, x.vo.ownBlock = some g → f g = some (x.name, 2))
def flAll (b : Nat) (T : List Fl) (k : Nat) : Prop := k = b ∨ ∃ x ∈ T, k = x.p ∨ x.vi.ownBlock = some k ∨ x.vo.ownBlock = some k
theorem FlM.lt {w : World} {B b : Nat} {T : List Fl} (h : FlM w B b T) : ∀ k, flAll b T k → (k = b ∨ B ≤ k) ∧ k < w.heap.size := fun k hk => by
 rcases hk with rfl | ⟨x, hx, rfl | e | e⟩
 ·exact ⟨.inl rfl, h.map.lt⟩
 ·exact ⟨.inr (h.lo x hx), (Array.getElem?_eq_some_iff.1 (h.cell x hx)).1⟩
 ·exact ⟨.inr ((h.inn x hx).1.lt k e).1, ((h.inn x hx).1.lt k e).2⟩
 ·exact ⟨.inr ((h.out x hx).1.lt k e).1, ((h.out x hx).1.lt k e).2⟩
theorem FlM.kept {w w' : World} {B b : Nat} {T : List Fl} {S : Nat → Prop} (h : FlM w B b T) (hg : Gr w w' S) (hS : ∀ k, flAll b T k → ¬ S k) : FlM w' B b T where
 map := h.map.gr hg (hS b (.inl rfl))
 cell x hx := by rw [hg.block _ (Array.getElem?_eq_some_iff.1 (h.cell x hx)).1 (hS _ (.inr ⟨x, hx, .inl rfl⟩))]; exact h.cell x hx
 inn x hx := (h.inn x hx).gr hg (fun g e => hS g (.inr ⟨x, hx, .inr (.inl e)⟩)) (fun _ _ => trivial)
 out x hx := (h.out x hx).gr hg (fun g e => hS g (.inr ⟨x, hx, .inr (.inr e)⟩)) (fun _ _ => trivial)
 lo := h.lo
 lab := h.lab
theorem FlM.later {w w' : World} {B b : Nat} {T : List Fl} (h : FlM w B b T) (hb : Below w.heap.size w w') : FlM w' B b T := h.kept (Gr.of_below hb (fun _ => False)) (fun _ _ => id)
theorem FlM.names {w : World} {B b : Nat} {T : List Fl} (h : FlM w B b T) : T.Pairwise fun x y => x.name ≠ y.name := by
 have := h.map.nodup
 unfold flEnts at this
 have h2 := List.pairwise_map.1 this
 exact h2
theorem fl_uniq {T : List Fl} (hn : T.Pairwise fun x y => x.name ≠ y.name) {r q : Fl} (hr : r ∈ T) (hq : q ∈ T) (e : r.name = q.name) : r = q := by
 obtain ⟨i, hi, rfl⟩ := List.mem_iff_getElem.1 hr
 obtain ⟨j, hj, rfl⟩ := List.mem_iff_getElem.1 hq
 rcases Nat.lt_trichotomy i j with h1 | h1 | h1
 ·exact absurd e (List.pairwise_iff_getElem.1 hn i j hi hj h1)
 ·subst h1; rfl
 ·exact absurd e.symm (List.pairwise_iff_getElem.1 hn j i hj hi h1)
theorem getF_of {T : List Fl} (hn : T.Pairwise fun x y => x.name ≠ y.name) {x : Fl} (hx : x ∈ T) : getF T x.name = some x := by
 cases h : getF T x.name with
 | none => exact absurd rfl (getF_none.1 h x hx)
 | some y => rw [fl_uniq hn (getF_mem h).1 hx (getF_mem h).2]
abbrev fl0 (k : ByteArray) (p : Nat) : Fl := ⟨k, p, .slice none 0 0, [], .slice none 0 0, []⟩
theorem flEnts_new {T : List Fl} {k : ByteArray} (h : getF T k = none) (p : Nat) : putM (flEnts T) k (.pointer (some ⟨p, 0, none⟩)) = flEnts (T ++ [fl0 k p]) := by
 have hno := getF_none.1 h
 unfold putM
 rw [if_neg]
 ·unfold flEnts; rw [List.map_append]; rfl
 ·rw [List.any_eq_true]
  rintro ⟨q, hq, e⟩
  obtain ⟨x, hx, rfl⟩ := List.mem_map.1 hq
  exact hno x hx (by simpa using e)
/-- an account more -/
theorem FlM.new {w w2 : World} {B b : Nat} {T : List Fl} (h : FlM w B b T) {k : ByteArray} (hk : getF T k = none) (hB : B ≤ w.heap.size)
  (hm : MapIs Value.string w2 b (putM (flEnts T) k (.pointer (some ⟨w.heap.size, 0, none⟩)))) (hg : (w.alloc (.cells #[.slice none 0 0, .slice none 0 0] 183)).grownBy w2 (some b)) :
  FlM w2 B b (T ++ [fl0 k w.heap.size]) ∧ Gr w w2 (fun j => j = b) := by
 have hlt := h.lt
 have hb := Below.refl w.heap.size w |>.alloc (Nat.le_refl _) (.cells #[.slice none 0 0, .slice none 0 0] 183)
 have hG : Gr w w2 (fun j => j = b) := (Gr.of_below hb (fun j => j = b)).after ((Gr.of_grown hg).mono fun j _ e => by injection e with e; exact e.symm)
 have hno := getF_none.1 hk
 obtain ⟨f, f1, f2⟩ := h.lab
 have hbp : ∀ x ∈ T, x.p ≠ b := fun x hx e => by
  have := (f2 x hx).1
  rw [e, f1] at this
  injection this with this; injection this with _ this; cases this
 have hbi : ∀ x ∈ T, ∀ g, x.vi.ownBlock = some g → g ≠ b := fun x hx g e e2 => by
  have := (f2 x hx).2.1 g e
  rw [e2, f1] at this
  injection this with this; injection this with _ this; cases this
 have hbo : ∀ x ∈ T, ∀ g, x.vo.ownBlock = some g → g ≠ b := fun x hx g e e2 => by
  have := (f2 x hx).2.2 g e
  rw [e2, f1] at this
  injection this with this; injection this with _ this; cases this
 refine ⟨⟨by rw [← flEnts_new hk]; exact hm, fun x hx => ?_, fun x hx => ?_, fun x hx => ?_, fun x hx => ?_, ⟨fun g => if g = w.heap.size then some (k, 0) else f g, ?_, fun x hx => ?_⟩⟩, hG⟩
 ·rcases List.mem_append.1 hx with hx | hx
  ·rw [hG.block _ (Array.getElem?_eq_some_iff.1 (h.cell x hx)).1 (hbp x hx)]; exact h.cell x hx
  ·obtain rfl := List.mem_singleton.1 hx
   rw [hg.block w.heap.size (by simp) (fun e => by injection e with e; have := (hlt b (.inl rfl)).2; omega)]
   exact heap_alloc_new w _
 ·rcases List.mem_append.1 hx with hx | hx
  ·exact (h.inn x hx).gr hG (fun g e => hbi x hx g e) (fun _ _ => trivial)
  ·obtain rfl := List.mem_singleton.1 hx
   exact Own.nil_ _ _ _
 ·rcases List.mem_append.1 hx with hx | hx
  ·exact (h.out x hx).gr hG (fun g e => hbo x hx g e) (fun _ _ => trivial)
  ·obtain rfl := List.mem_singleton.1 hx
   exact Own.nil_ _ _ _
 ·rcases List.mem_append.1 hx with hx | hx
  ·exact h.lo x hx
  ·obtain rfl := List.mem_singleton.1 hx
   exact hB
 ·show (if b = w.heap.size then _ else f b) = _
  rw [if_neg (fun e => by have := (hlt b (.inl rfl)).2; omega)]; exact f1
 ·rcases List.mem_append.1 hx with hx | hx
  ·have hl : ∀ j, flAll b T j → ¬ j = w.heap.size := fun j hj e => by have := (hlt j hj).2; omega
   refine ⟨?_, fun g e => ?_, fun g e => ?_⟩
   ·show (if x.p = w.heap.size then _ else f x.p) = _
    rw [if_neg (hl _ (.inr ⟨x, hx, .inl rfl⟩))]; exact (f2 x hx).1
   ·show (if g = w.heap.size then _ else f g) = _
    rw [if_neg (hl _ (.inr ⟨x, hx, .inr (.inl e)⟩))]; exact (f2 x hx).2.1 g e
   ·show (if g = w.heap.size then _ else f g) = _
    rw [if_neg (hl _ (.inr ⟨x, hx, .inr (.inr e)⟩))]; exact (f2 x hx).2.2 g e
  ·obtain rfl := List.mem_singleton.1 hx
   exact ⟨if_pos rfl, ⟨fun g e => (by cases e), fun g e => (by cases e)⟩⟩
/-- a sum more -/
theorem FlM.growI {w w1 w2 : World} {B b : Nat} {T : List Fl} (h : FlM w B b T) {x : Fl} (hx : x ∈ T) {v : Value} {l : List Int} (ho : Own w1 B 2 v l) (hg : w.grownBy w1 x.vi.ownBlock) (hv : v.ownBlock = x.vi.ownBlock ∨ v.ownBlock = some w.heap.size)
  (hc2 : w2.heap[x.p]? = some (.cells #[v, x.vo] 183 (0, 0))) (hgb : w1.grownBy w2 (some x.p)) :
  FlM w2 B b (setF T { x with vi := v, li := l }) ∧ Gr w w2 (fun k => k = x.p ∨ x.vi.ownBlock = some k) := by
 have hlt := h.lt
 obtain ⟨f, f1, f2⟩ := h.lab
 obtain ⟨fx0, fx1, fx2⟩ := f2 x hx
 have hxp : some x.p ≠ x.vi.ownBlock := fun e => by
  have := fx1 x.p e.symm
  rw [fx0] at this
  injection this with this; injection this with _ this; cases this
 have hg2 := Gr.of_grown hgb
 have hG : Gr w w2 (fun k => k = x.p ∨ x.vi.ownBlock = some k) :=
  ((Gr.of_grown hg).mono (S' := fun k => k = x.p ∨ x.vi.ownBlock = some k) (fun j _ e => .inr e)).after (hg2.mono fun j _ e => .inl (by injection e with e; exact e.symm))
 have hbx : ¬ (b = x.p ∨ x.vi.ownBlock = some b) := by
  rintro (e | e)
  ·rw [← e, f1] at fx0
   injection fx0 with fx0; injection fx0 with _ fx0; cases fx0
  ·have := fx1 b e
   rw [f1] at this
   injection this with this; injection this with _ this; cases this
 have hzp : ∀ z ∈ T, z.name ≠ x.name → ∀ g (n : Nat), f g = some (z.name, n) → ¬ (g = x.p ∨ x.vi.ownBlock = some g) := fun z _ hne g n hf => by
  rintro (e | e)
  ·rw [e, fx0] at hf
   injection hf with hf; injection hf with hf _; exact hne hf.symm
  ·have := fx1 g e
   rw [hf] at this
   injection this with this; injection this with this _; exact hne this
 have hvp : ∀ g, v.ownBlock = some g → g ≠ x.p := fun g e e2 => by
  rcases hv with h1 | h1
  ·exact hxp (by rw [← e2, ← e, h1])
  ·rw [h1] at e; injection e with e
   have := (hlt x.p (.inr ⟨x, hx, .inl rfl⟩)).2
   omega
 refine ⟨⟨?_, fun z hz => ?_, fun z hz => ?_, fun z hz => ?_, fun z hz => ?_, ⟨fun g => if g = w.heap.size then some (x.name, 1) else f g, ?_, fun z hz => ?_⟩⟩, hG⟩
 ·have e : flEnts (setF T { x with vi := v, li := l }) = flEnts T := by
   unfold flEnts setF
   rw [List.map_map]
   refine List.map_congr_left fun z hz => ?_
   show ((if z.name = x.name then ({ x with vi := v, li := l } : Fl) else z).name, (if z.name = x.name then ({ x with vi := v, li := l } : Fl) else z).ptr) = _
   by_cases e : z.name = x.name
   ·rw [if_pos e]
    obtain rfl := fl_uniq h.names hz hx e
    rfl
   ·rw [if_neg e]
  rw [e]
  exact h.map.gr hG hbx
 ·rcases mem_setF hz with rfl | ⟨hz, hne⟩
  ·exact hc2
  ·rw [hG.block _ (Array.getElem?_eq_some_iff.1 (h.cell z hz)).1 (hzp z hz hne _ 0 (f2 z hz).1)]
   exact h.cell z hz
 ·rcases mem_setF hz with rfl | ⟨hz, hne⟩
  ·exact ho.gr hg2 (fun g e e2 => hvp g e (by injection e2 with e2; exact e2.symm)) (fun _ _ => trivial)
  ·exact (h.inn z hz).gr hG (fun g e => hzp z hz hne g 1 ((f2 z hz).2.1 g e)) (fun _ _ => trivial)
 ·rcases mem_setF hz with rfl | ⟨hz, hne⟩
  ·exact (h.out x hx).gr hG (fun g e e2 => by
    have hf := fx2 g e
    rcases e2 with e2 | e2
    ·rw [e2, fx0] at hf
     injection hf with hf; injection hf with _ hf; cases hf
    ·have := fx1 g e2
     rw [hf] at this
     injection this with this; injection this with _ this; cases this) (fun _ _ => trivial)
  ·exact (h.out z hz).gr hG (fun g e => hzp z hz hne g 2 ((f2 z hz).2.2 g e)) (fun _ _ => trivial)
 ·rcases mem_setF hz with rfl | ⟨hz, hne⟩
  ·exact h.lo x hx
  ·exact h.lo z hz
 ·show (if b = w.heap.size then _ else f b) = _
  rw [if_neg (fun e => by have := (hlt b (.inl rfl)).2; omega)]; exact f1
 ·have hl : ∀ j, flAll b T j → ¬ j = w.heap.size := fun j hj e => by have := (hlt j hj).2; omega
  rcases mem_setF hz with rfl | ⟨hz, hne⟩
  ·have hvf : ∀ g, v.ownBlock = some g → (if g = w.heap.size then some (x.name, 1) else f g) = some (x.name, 1) := fun g e => by
    by_cases hw : g = w.heap.size
    ·rw [if_pos hw]
    ·rw [if_neg hw]
     rcases hv with h1 | h1
     ·exact fx1 g (by rw [← h1]; exact e)
     ·rw [h1] at e; injection e with e; exact absurd e.symm hw
   have hoth : ∀ g, x.vo.ownBlock = some g → (if g = w.heap.size then some (x.name, 1) else f g) = some (x.name, 2) := fun g e => by
    rw [if_neg (hl _ (.inr ⟨x, hx, .inr (.inr e)⟩))]; exact fx2 g e
   refine ⟨?_, hvf, hoth⟩
   show (if x.p = w.heap.size then _ else f x.p) = _
   rw [if_neg (hl _ (.inr ⟨x, hx, .inl rfl⟩))]; exact fx0
  ·refine ⟨?_, fun g e => ?_, fun g e => ?_⟩
   ·show (if z.p = w.heap.size then _ else f z.p) = _
    rw [if_neg (hl _ (.inr ⟨z, hz, .inl rfl⟩))]; exact (f2 z hz).1
   ·show (if g = w.heap.size then _ else f g) = _
    rw [if_neg (hl _ (.inr ⟨z, hz, .inr (.inl e)⟩))]; exact (f2 z hz).2.1 g e
   ·show (if g = w.heap.size then _ else f g) = _
    rw [if_neg (hl _ (.inr ⟨z, hz, .inr (.inr e)⟩))]; exact (f2 z hz).2.2 g e
/-- a sum more -/
theorem FlM.growO {w w1 w2 : World} {B b : Nat} {T : List Fl} (h : FlM w B b T) {x : Fl} (hx : x ∈ T) {v : Value} {l : List Int} (ho : Own w1 B 2 v l) (hg : w.grownBy w1 x.vo.ownBlock) (hv : v.ownBlock = x.vo.ownBlock ∨ v.ownBlock = some w.heap.size)
  (hc2 : w2.heap[x.p]? = some (.cells #[x.vi, v] 183 (0, 0))) (hgb : w1.grownBy w2 (some x.p)) :
  FlM w2 B b (setF T { x with vo := v, lo := l }) ∧ Gr w w2 (fun k => k = x.p ∨ x.vo.ownBlock = some k) := by
 have hlt := h.lt
 obtain ⟨f, f1, f2⟩ := h.lab
 obtain ⟨fx0, fx1, fx2⟩ := f2 x hx
 have hxp : some x.p ≠ x.vo.ownBlock := fun e => by
  have := fx2 x.p e.symm
  rw [fx0] at this
  injection this with this; injection this with _ this; cases this
 have hg2 := Gr.of_grown hgb
 have hG : Gr w w2 (fun k => k = x.p ∨ x.vo.ownBlock = some k) :=
  ((Gr.of_grown hg).mono (S' := fun k => k = x.p ∨ x.vo.ownBlock = some k) (fun j _ e => .inr e)).after (hg2.mono fun j _ e => .inl (by injection e with e; exact e.symm))
 have hbx : ¬ (b = x.p ∨ x.vo.ownBlock = some b) := by
  rintro (e | e)
  ·rw [← e, f1] at fx0
   injection fx0 with fx0; injection fx0 with _ fx0; cases fx0
  ·have := fx2 b e
   rw [f1] at this
   injection this with this; injection this with _ this; cases this
 have hzp : ∀ z ∈ T, z.name ≠ x.name → ∀ g (n : Nat), f g = some (z.name, n) → ¬ (g = x.p ∨ x.vo.ownBlock = some g) := fun z _ hne g n hf => by
  rintro (e | e)
  ·rw [e, fx0] at hf
   injection hf with hf; injection hf with hf _; exact hne hf.symm
  ·have := fx2 g e
   rw [hf] at this
   injection this with this; injection this with this _; exact hne this
 have hvp : ∀ g, v.ownBlock = some g → g ≠ x.p := fun g e e2 => by
  rcases hv with h1 | h1
  ·exact hxp (by rw [← e2, ← e, h1])
  ·rw [h1] at e; injection e with e
   have := (hlt x.p (.inr ⟨x, hx, .inl rfl⟩)).2
   omega
 refine ⟨⟨?_, fun z hz => ?_, fun z hz => ?_, fun z hz => ?_, fun z hz => ?_, ⟨fun g => if g = w.heap.size then some (x.name, 2) else f g, ?_, fun z hz => ?_⟩⟩, hG⟩
 ·have e : flEnts (setF T { x with vo := v, lo := l }) = flEnts T := by
   unfold flEnts setF
   rw [List.map_map]
   refine List.map_congr_left fun z hz => ?_
   show ((if z.name = x.name then ({ x with vo := v, lo := l } : Fl) else z).name, (if z.name = x.name then ({ x with vo := v, lo := l } : Fl) else z).ptr) = _
   by_cases e : z.name = x.name
   ·rw [if_pos e]
    obtain rfl := fl_uniq h.names hz hx e
    rfl
   ·rw [if_neg e]
  rw [e]
  exact h.map.gr hG hbx
 ·rcases mem_setF hz with rfl | ⟨hz, hne⟩
  ·exact hc2
  ·rw [hG.block _ (Array.getElem?_eq_some_iff.1 (h.cell z hz)).1 (hzp z hz hne _ 0 (f2 z hz).1)]
   exact h.cell z hz
 ·rcases mem_setF hz with rfl | ⟨hz, hne⟩
  ·exact (h.inn x hx).gr hG (fun g e e2 => by
    have hf := fx1 g e
    rcases e2 with e2 | e2
    ·rw [e2, fx0] at hf
     injection hf with hf; injection hf with _ hf; cases hf
    ·have := fx2 g e2
     rw [hf] at this
     injection this with this; injection this with _ this; cases this) (fun _ _ => trivial)
  ·exact (h.inn z hz).gr hG (fun g e => hzp z hz hne g 1 ((f2 z hz).2.1 g e)) (fun _ _ => trivial)
 ·rcases mem_setF hz with rfl | ⟨hz, hne⟩
  ·exact ho.gr hg2 (fun g e e2 => hvp g e (by injection e2 with e2; exact e2.symm)) (fun _ _ => trivial)
  ·exact (h.out z hz).gr hG (fun g e => hzp z hz hne g 2 ((f2 z hz).2.2 g e)) (fun _ _ => trivial)
 ·rcases mem_setF hz with rfl | ⟨hz, hne⟩
  ·exact h.lo x hx
  ·exact h.lo z hz
 ·show (if b = w.heap.size then _ else f b) = _
  rw [if_neg (fun e => by have := (hlt b (.inl rfl)).2; omega)]; exact f1
 ·have hl : ∀ j, flAll b T j → ¬ j = w.heap.size := fun j hj e => by have := (hlt j hj).2; omega
  rcases mem_setF hz with rfl | ⟨hz, hne⟩
  ·have hvf : ∀ g, v.ownBlock = some g → (if g = w.heap.size then some (x.name, 2) else f g) = some (x.name, 2) := fun g e => by
    by_cases hw : g = w.heap.size
    ·rw [if_pos hw]
    ·rw [if_neg hw]
     rcases hv with h1 | h1
     ·exact fx2 g (by rw [← h1]; exact e)
     ·rw [h1] at e; injection e with e; exact absurd e.symm hw
   have hoth : ∀ g, x.vi.ownBlock = some g → (if g = w.heap.size then some (x.name, 2) else f g) = some (x.name, 1) := fun g e => by
    rw [if_neg (hl _ (.inr ⟨x, hx, .inr (.inl e)⟩))]; exact fx1 g e
   refine ⟨?_, hoth, hvf⟩
   show (if x.p = w.heap.size then _ else f x.p) = _
   rw [if_neg (hl _ (.inr ⟨x, hx, .inl rfl⟩))]; exact fx0
  ·refine ⟨?_, fun g e => ?_, fun g e => ?_⟩
   ·show (if z.p = w.heap.size then _ else f z.p) = _
    rw [if_neg (hl _ (.inr ⟨z, hz, .inl rfl⟩))]; exact (f2 z hz).1
   ·show (if g = w.heap.size then _ else f g) = _
    rw [if_neg (hl _ (.inr ⟨z, hz, .inr (.inl e)⟩))]; exact (f2 z hz).2.1 g e
   ·show (if g = w.heap.size then _ else f g) = _
    rw [if_neg (hl _ (.inr ⟨z, hz, .inr (.inr e)⟩))]; exact (f2 z hz).2.2 g e
/-- flows, and the legs that made them -/
structure FlR (T : List Fl) (N : List ByteArray) (ls : List Leg) : Prop where
 perm : (T.map Fl.name).Perm N
 inn : ∀ x ∈ T, x.li = inK ls x.name
 out : ∀ x ∈ T, x.lo = outK ls x.name
theorem FlR.none_ {T : List Fl} {N : List ByteArray} {ls : List Leg} (h : FlR T N ls) (k : ByteArray) : getF T k = none ↔ k ∉ N := by
 rw [getF_none, ← h.perm.mem_iff]
 constructor
 ·intro h1 h2
  obtain ⟨x, hx, e⟩ := List.mem_map.1 h2
  exact h1 x hx e
 ·intro h1 x hx e
  exact h1 (List.mem_map.2 ⟨x, hx, e⟩)
theorem FlR.add {T : List Fl} {ls : List Leg} (h : FlR T (namesL ls) ls) {k : ByteArray} (hk : getF T k = none) (p : Nat) : FlR (T ++ [fl0 k p]) (addN (namesL ls) k) ls := by
 have hno := (h.none_ k).1 hk
 have hl : ∀ x ∈ ls, x.acct ≠ k := fun x hx e => hno (namesL_mem.2 ⟨x, hx, e⟩)
 refine ⟨?_, fun x hx => ?_, fun x hx => ?_⟩
 ·unfold addN
  rw [if_neg (fun e => hno (hasN_iff.1 e)), List.map_append]
  exact (List.perm_append_comm.trans (by simpa using h.perm.cons k)).trans (insB_perm _ _).symm
 ·rcases List.mem_append.1 hx with hx | hx
  ·exact h.inn x hx
  ·obtain rfl := List.mem_singleton.1 hx
   show [] = inK ls k
   unfold inK
   rw [List.filter_eq_nil_iff.2 fun x hx => by simp [hl x hx]]; rfl
 ·rcases List.mem_append.1 hx with hx | hx
  ·exact h.out x hx
  ·obtain rfl := List.mem_singleton.1 hx
   show [] = outK ls k
   unfold outK
   rw [List.filter_eq_nil_iff.2 fun x hx => by simp [hl x hx]]; rfl
theorem FlR.has {T : List Fl} {ls : List Leg} (h : FlR T (namesL ls) ls) {k : ByteArray} {x : Fl} (hk : getF T k = some x) : addN (namesL ls) k = namesL ls := by
 unfold addN
 rw [if_pos]
 rw [hasN_iff]
 refine Classical.byContradiction fun hn => ?_
 rw [(h.none_ k).2 hn] at hk; cases hk
theorem FlR.growI {T : List Fl} {N : List ByteArray} {ls : List Leg} (h : FlR T N ls) {x : Fl} (hx : x ∈ T) (hN : N = addN (namesL ls) x.name) {s : Int} (hs : 0 < s) (v : Value) : FlR (setF T { x with vi := v, li := x.li ++ [s] }) (namesL (ls ++ [⟨x.name, s⟩])) (ls ++ [⟨x.name, s⟩]) := by
 refine ⟨by rw [setF_names, namesL_snoc, ← hN]; exact h.perm, fun z hz => ?_, fun z hz => ?_⟩
 ·rcases mem_setF hz with rfl | ⟨hz, hne⟩
  ·rw [inK_snoc, if_pos ⟨rfl, hs⟩]
   show x.li ++ [s] = _
   rw [h.inn x hx]
  ·rw [inK_snoc, if_neg (fun e => hne e.1.symm)]; exact h.inn z hz
 ·rcases mem_setF hz with rfl | ⟨hz, hne⟩
  ·rw [outK_snoc, if_neg (fun e => e.2 hs)]; exact h.out x hx
  ·rw [outK_snoc, if_neg (fun e => hne e.1.symm)]; exact h.out z hz
theorem FlR.growO {T : List Fl} {N : List ByteArray} {ls : List Leg} (h : FlR T N ls) {x : Fl} (hx : x ∈ T) (hN : N = addN (namesL ls) x.name) {s : Int} (hs : ¬ 0 < s) (v : Value) : FlR (setF T { x with vo := v, lo := x.lo ++ [s] }) (namesL (ls ++ [⟨x.name, s⟩])) (ls ++ [⟨x.name, s⟩]) := by
 refine ⟨by rw [setF_names, namesL_snoc, ← hN]; exact h.perm, fun z hz => ?_, fun z hz => ?_⟩
 ·rcases mem_setF hz with rfl | ⟨hz, hne⟩
  ·rw [inK_snoc, if_neg (fun e => hs e.2)]; exact h.inn x hx
  ·rw [inK_snoc, if_neg (fun e => hne e.1.symm)]; exact h.inn z hz
 ·rcases mem_setF hz with rfl | ⟨hz, hne⟩
  ·rw [outK_snoc, if_pos ⟨rfl, hs⟩]
   show x.lo ++ [s] = _
   rw [h.out x hx]
  ·rw [outK_snoc, if_neg (fun e => hne e.1.symm)]; exact h.out z hz
theorem FlM.mono {w : World} {B B' b : Nat} {T : List Fl} (h : FlM w B b T) (hB : B' ≤ B) : FlM w B' b T :=
 ⟨h.map, h.cell, fun x hx => (h.inn x hx).mono hB, fun x hx => (h.out x hx).mono hB, fun x hx => Nat.le_trans hB (h.lo x hx), h.lab⟩
theorem FlM.made (w : World) (B : Nat) : FlM (w.alloc (.map #[] 0)) B w.heap.size [] :=
 ⟨MapIs.made w, fun _ h => (by cases h), fun _ h => (by cases h), fun _ h => (by cases h), fun _ h => (by cases h), ⟨fun g => if g = w.heap.size then some (ByteArray.empty, 3) else none, if_pos rfl, fun _ h => (by cases h)⟩⟩
theorem FlM.look {w : World} {B b : Nat} {T : List Fl} (h : FlM w B b T) (k : ByteArray) : (Instr.lookup 173 (.map (some b)) (.string k) false).run Tryz.prog w = .ok (((getF T k).map Fl.ptr).getD (.pointer none)) w := by
 have hlk := run_lookup (P := Tryz.prog) strKey Tryz.underlying173 h.map k (.pointer none) (by kernel_rfl) false
 rw [flEnts_get] at hlk
 exact hlk
theorem FlR.nil_ : FlR [] (namesL []) [] := ⟨.refl _, fun _ h => (by cases h), fun _ h => (by cases h)⟩
theorem mem_setF_self {T : List Fl} {x y : Fl} (hx : x ∈ T) (e : y.name = x.name) : y ∈ setF T y := by
 refine List.mem_map.2 ⟨x, hx, ?_⟩
 rw [if_pos e.symm]
end Go.Proofs.YtampniiehgimhaaGreat

/- Moves and lines as Lean has them. No program. -/
namespace Go.Proofs.YtampniiehgimhaaGreat
open Go.RowKit
/-- audit.Move: the slice of its legs lies at la, of capacity lc -/
structure Mv where
 client : Int
 seq : Int
 period : Int
 la : Option Addr
 lc : Nat
 legs : List Leg
structure Mv.Ok (w : World) (S : Nat → Prop) (x : Mv) : Prop where
 legs : SlS w S x.la x.lc x.legs
instance encMv : Enc Mv where
 size := 4
 cells x := [i64 x.client, i64 x.seq, i64 x.period, .slice x.la x.legs.length x.lc]
 val x := .agg #[i64 x.client, i64 x.seq, i64 x.period, .slice x.la x.legs.length x.lc]
 ok := Mv.Ok
 len _ := rfl
 one _ v hv := by
  simp only [List.mem_cons, List.not_mem_nil, or_false] at hv
  rcases hv with rfl | rfl | rfl | rfl <;> rfl
 keep h hk hB := ⟨h.legs.keep hk hB⟩
/-- what it says -/
def Mv.core (x : Mv) : Id × Int × List Leg := (⟨x.client, x.seq⟩, x.period, x.legs)
def coreM (x : Od) : Id × Int × List Leg := (x.id, x.period, mvL x)
/-- what moves of some periods move -/
def legsM (M : List Mv) (a b : Int) : List Leg := M.flatMap fun x => if a ≤ x.period ∧ x.period ≤ b then x.legs else []
theorem legsM_eq : ∀ (M : List Mv) (L : List Od), M.map Mv.core = L.map coreM → ∀ a b, legsM M a b = legsR L a b
 | [], [], _, _, _ => rfl
 | [], _ :: _, h, _, _ => by cases h
 | _ :: _, [], h, _, _ => by cases h
 | x :: M, y :: L, h, a, b => by
  rw [List.map_cons, List.map_cons] at h
  injection h with h1 h2
  have ih := legsM_eq M L h2 a b
  have e2 : x.period = y.period := congrArg (fun p => p.2.1) h1
  have e3 : x.legs = mvL y := congrArg (fun p => p.2.2) h1
  show (if a ≤ x.period ∧ x.period ≤ b then x.legs else []) ++ legsM M a b = (if a ≤ y.period ∧ y.period ≤ b then mvL y else []) ++ legsR L a b
  rw [ih, e2, e3]
theorem SlS.mv {w : World} {S : Nat → Prop} {c : Nat} {A : Option Addr} {l : List Mv} (h : SlS w S A c l) {k : Nat} (hk : k < l.length) : ∃ b o, A = some ⟨b, o, none⟩ ∧ S b ∧ Mv.Ok w S l[k] ∧
  w.cell? ⟨b, o + k * 4, none⟩ = some (i64 l[k].client) ∧ w.cell? ⟨b, o + k * 4 + 1, none⟩ = some (i64 l[k].seq) ∧ w.cell? ⟨b, o + k * 4 + 2, none⟩ = some (i64 l[k].period) ∧ w.cell? ⟨b, o + k * 4 + 3, none⟩ = some (.slice l[k].la l[k].legs.length l[k].lc) := by
 obtain ⟨b, o, hA, hb, hok, hc⟩ := h.at_ hk
 exact ⟨b, o, hA, hb, hok, hc 0 _ rfl, hc 1 _ rfl, hc 2 _ rfl, hc 3 _ rfl⟩
instance encLn : Enc Ln where
 size := 3
 cells x := [.string x.acct, i64 x.inn, i64 x.out]
 val x := .agg #[.string x.acct, i64 x.inn, i64 x.out]
 ok _ _ x := x.acct.size ≤ maxLen
 len _ := rfl
 one _ v hv := by
  simp only [List.mem_cons, List.not_mem_nil, or_false] at hv
  rcases hv with rfl | rfl | rfl <;> rfl
 keep h _ _ := h
theorem SlS.ln {w : World} {S : Nat → Prop} {c : Nat} {A : Option Addr} {l : List Ln} (h : SlS w S A c l) {k : Nat} (hk : k < l.length) : ∃ b o, A = some ⟨b, o, none⟩ ∧ S b ∧ l[k].acct.size ≤ maxLen ∧
  w.cell? ⟨b, o + k * 3, none⟩ = some (.string l[k].acct) ∧ w.cell? ⟨b, o + k * 3 + 1, none⟩ = some (i64 l[k].inn) ∧ w.cell? ⟨b, o + k * 3 + 2, none⟩ = some (i64 l[k].out) := by
 obtain ⟨b, o, hA, hb, hok, hc⟩ := h.at_ hk
 exact ⟨b, o, hA, hb, hok, hc 0 _ rfl, hc 1 _ rfl, hc 2 _ rfl⟩
end Go.Proofs.YtampniiehgimhaaGreat

/- a literal of one order, as one operation of a drawn region -/
namespace Go.Proofs.YtampniiehgimhaaGreat
open Go.RowKit
theorem oper_lit_od {o : Oper} {a : Act} {w : World} {K : Act → World → Prop} {Q : Exit → Act → World → Prop} (n : Nat) (ho : o.op = .buildSlice 22 1 #[(0, .tmp n)]) (z : Od) (hx : a.tmps[n]?.getD undef = .agg #[i64 z.client, i64 z.seq, i64 z.kind, .string z.acct, .string z.peer, i64 z.sum, .slice z.la z.legs.length z.lc, i64 z.period, i64 z.hold, .string z.note])
  (hK : K (a.put o.dst (.slice (some ⟨w.heap.size, 0, none⟩) 1 1)) (w.alloc (.cells #[i64 z.client, i64 z.seq, i64 z.kind, .string z.acct, .string z.peer, i64 z.sum, .slice z.la z.legs.length z.lc, i64 z.period, i64 z.hold, .string z.note] 37))) : Oper.wp Tryz.prog o a w K Q := by
 obtain ⟨d, op, t, ps, af, gd⟩ := o
 dsimp only at ho hK
 subst ho
 go_simp
 exact hK
theorem oper_assign {P : Program} {o : Oper} {a : Act} {w : World} {K : Act → World → Prop} {Q : Exit → Act → World → Prop} (x : Operand) (ho : o.op = .assign x) (v : Value) (hx : a.eval x = v)
  (hK : K (a.put o.dst v) w) : Oper.wp P o a w K Q := by
 obtain ⟨d, op, t, ps, af, gd⟩ := o
 dsimp only at ho hK
 subst ho hx
 unfold Oper.wp execOp
 simp only [Sem.run_pure]
 exact hK
end Go.Proofs.YtampniiehgimhaaGreat

/- a literal of one move, one line, one sum, as one operation of a drawn region -/
namespace Go.Proofs.YtampniiehgimhaaGreat
open Go.RowKit
theorem oper_lit_mv {o : Oper} {a : Act} {w : World} {K : Act → World → Prop} {Q : Exit → Act → World → Prop} (n : Nat) (ho : o.op = .buildSlice 78 1 #[(0, .tmp n)]) (z : Mv) (hx : a.tmps[n]?.getD undef = .agg #[i64 z.client, i64 z.seq, i64 z.period, .slice z.la z.legs.length z.lc])
  (hK : K (a.put o.dst (.slice (some ⟨w.heap.size, 0, none⟩) 1 1)) (w.alloc (.cells #[i64 z.client, i64 z.seq, i64 z.period, .slice z.la z.legs.length z.lc] 85))) : Oper.wp Tryz.prog o a w K Q := by
 obtain ⟨d, op, t, ps, af, gd⟩ := o
 dsimp only at ho hK
 subst ho
 go_simp
 exact hK
theorem oper_lit_ln {o : Oper} {a : Act} {w : World} {K : Act → World → Prop} {Q : Exit → Act → World → Prop} (n : Nat) (ho : o.op = .buildSlice 95 1 #[(0, .tmp n)]) (z : Ln) (hx : a.tmps[n]?.getD undef = .agg #[.string z.acct, i64 z.inn, i64 z.out])
  (hK : K (a.put o.dst (.slice (some ⟨w.heap.size, 0, none⟩) 1 1)) (w.alloc (.cells #[.string z.acct, i64 z.inn, i64 z.out] 104))) : Oper.wp Tryz.prog o a w K Q := by
 obtain ⟨d, op, t, ps, af, gd⟩ := o
 dsimp only at ho hK
 subst ho
 go_simp
 exact hK
theorem oper_lit_i64 {o : Oper} {a : Act} {w : World} {K : Act → World → Prop} {Q : Exit → Act → World → Prop} (n : Nat) (ho : o.op = .buildSlice 181 1 #[(0, .tmp n)]) (z : Int) (hx : a.tmps[n]?.getD undef = i64 z)
  (hK : K (a.put o.dst (.slice (some ⟨w.heap.size, 0, none⟩) 1 1)) (w.alloc (.cells #[i64 z] 2))) : Oper.wp Tryz.prog o a w K Q := by
 obtain ⟨d, op, t, ps, af, gd⟩ := o
 dsimp only at ho hK
 subst ho
 go_simp
 exact hK
end Go.Proofs.YtampniiehgimhaaGreat

/- Clone, Grow, Concat at api.Leg -/
namespace Go.Proofs.YtampniiehgimhaaGreat
open Go.RowKit
theorem inf_leg : (Tryz.prog.info? 167).map (fun i => (i.zero, i.size, i.bytes)) = some (some (.agg #[.string ByteArray.empty, i64 0]), Enc.size Leg, 24) := by kernel_rfl

set_option maxRecDepth 100000 in
set_option maxHeartbeats 400000 in
theorem clone_leg (A : Option Addr) (c : Nat) (l : List Leg) (w : World) (h : Sl w w.heap.size A c l) (hn : l.length ≤ 65536) :
  Calls Tryz.prog 125 #[.slice A l.length c] w fun e w' => ∃ v, e = .returned v ∧ Own w' w.heap.size 167 v l ∧ Below w.heap.size w w' := by
 have hnil := fun W : World => Lib.run_eql_slice_nil (P := Tryz.prog) W 35 167 A l.length c 0 0 Tryz.underlying35
 cases A with
 | none =>
  have hl : l = [] := by
   rcases l with _ | ⟨x, r⟩
   ·rfl
   ·obtain ⟨_, _, h1, _⟩ := h.2.2.1 (by simp); cases h1
  subst hl
  simp only [Option.isNone_none, List.length_nil] at hnil
  go_enter Tryz.func125, Tryz.ntmps125
  go_wp2
  go_ret
  exact ⟨_, rfl, Own.nil_ _ _ _, Below.refl _ _⟩
 | some ad =>
  simp only [Option.isNone_some] at hnil
  have hO0 := own_lit (w := w) (base := w.heap.size) 167 #[] ([] : List Leg) (Nat.le_refl _) rfl (by simp) (by simp)
  have hbx := (Below.refl w.heap.size w).alloc (Nat.le_refl _) (.cells #[] 167)
  have hs := (h.below hbx).mono (hO0.oth (Nat.le_refl _) hbx.size)
  go_enter Tryz.func125, Tryz.ntmps125
  go_wp2_with (at_builtin; refine wpList_append_slice rfl (some 7) (.tmp 5) (.tmp 6) 35 rfl rfl (.agg #[.string ByteArray.empty, i64 0]) 24 Tryz.underlying35 inf_leg rfl (by decide) (by decide) rfl hO0 (some ad) l.length c l rfl rfl hs (by simp; omega) hbx.size ?_; intro v3 w3 hO3 hg3 hat3)
  go_ret
  exact ⟨_, rfl, by simpa using hO3, hbx.trans (hO0.below hg3 (Nat.le_refl _) hbx.size)⟩

end Go.Proofs.YtampniiehgimhaaGreat
