/- audit: what orders move (plain) -/
import Derived.Test.YtgholbeehkfbiaaGreatRows
import Derived.Test.YtgholbeehkfbiaaGreatBm19
import Derived.Test.YtgholbeehkfbiaaGreatBm13
import Derived.WalkKit
import Derived.WalkSpells
import Derived.WalkLawsBesides
import Derived.Deep.QuietTactic
import Derived.BigQuiet
import Derived.Laws.StructEq
import Derived.Deep.DeepFit
import Derived.StillTailTactics
namespace Go.Proofs.YtgholbeehkfbiaaGreat
open Go.RowKit
/-- an order, and what it is told: did it move something? -/
def mvB (p : Od × Rp) : Bool := decide (p.2.err = 0) && (decide (p.1.kind = 2) || decide (p.1.kind = 4))
def movedZ (Z : List (Od × Rp)) : List Od := (Z.filter mvB).map (·.1)
/-- the orders that moved something -/
abbrev movedL (l : List Od) : List Od := movedZ (toldZ bk0 l)
theorem movedZ_app (Y Z : List (Od × Rp)) : movedZ (Y ++ Z) = movedZ Y ++ movedZ Z := by unfold movedZ; rw [List.filter_append, List.map_append]
theorem toldZ_snoc (B : Bk) (l : List Od) (x : Od) : toldZ B (l ++ [x]) = toldZ B l ++ [(x, (doL (foldL B l) x).1)] := by rw [toldZ_app]; rfl
theorem toldZ_len (B : Bk) (l : List Od) : (toldZ B l).length = l.length := by unfold toldZ; rw [List.length_zip, toldL_len]; omega
theorem toldZ_snd (B : Bk) (l : List Od) : (toldZ B l).map (·.2) = toldL B l := by
  unfold toldZ
  rw [show (fun x : Od × Rp => x.2) = Prod.snd from rfl, List.map_snd_zip]
  rw [toldL_len]; exact Nat.le_refl _
theorem toldZ_take (B : Bk) {l : List Od} {k : Nat} (hk : k < l.length) : (toldZ B l).take (k + 1) = (toldZ B l).take k ++ [(l[k], (toldL B l)[k]'(by rw [toldL_len]; exact hk))] := by
  rw [List.take_succ_eq_append_getElem (by rw [toldZ_len]; exact hk)]
  congr 2
  unfold toldZ
  rw [List.getElem_zip]
theorem toldZ_mem : ∀ (l : List Od) (B : Bk), InvB B → (∀ x ∈ l, OdB x) → ∀ p ∈ toldZ B l, p.1 ∈ l ∧ ∃ C, InvB C ∧ p.2 = (doL C p.1).1
  | [], _, _, _ => fun p hp => by cases hp
  | x :: r, B, hI, hx => fun p hp => by
    rw [toldZ_cons] at hp
    rcases List.mem_cons.1 hp with rfl | hp
    · exact ⟨List.mem_cons_self .., B, hI, rfl⟩
    · obtain ⟨h1, h2⟩ := toldZ_mem r _ (hI.do_ (hx x (List.mem_cons_self ..))) (fun y hy => hx y (List.mem_cons_of_mem _ hy)) p hp
      exact ⟨List.mem_cons_of_mem _ h1, h2⟩
theorem do_right {B : Bk} {x : Od} (h : (doL B x).1.err = 0) : rightB x = true := by
  unfold doL at h
  by_cases hr : rightB x = false
  · rw [if_pos hr] at h; cases h
  · simpa using hr
/-- an order that moved something -/
structure Mvd (x : Od) : Prop where
  right : rightB x = true
  kind : x.kind = 2 ∨ x.kind = 4
  done : ∃ C, InvB C ∧ (doL C x).1.err = 0
theorem movedL_mem {l : List Od} (hx : ∀ x ∈ l, OdB x) {x : Od} (h : x ∈ movedL l) : x ∈ l ∧ Mvd x := by
  obtain ⟨p, hp, rfl⟩ := List.mem_map.1 h
  obtain ⟨hp, hm⟩ := List.mem_filter.1 hp
  unfold mvB at hm
  simp only [Bool.and_eq_true, Bool.or_eq_true, decide_eq_true_eq] at hm
  obtain ⟨h1, C, hC, h2⟩ := toldZ_mem l bk0 inv_bk0 hx p hp
  rw [h2] at hm
  exact ⟨h1, do_right hm.1, hm.2, C, hC, hm.1⟩
theorem movedL_len (l : List Od) : (movedL l).length ≤ l.length := by
  show (List.map (·.1) (List.filter mvB (toldZ bk0 l))).length ≤ l.length
  rw [List.length_map]
  exact Nat.le_trans (List.length_filter_le _ _) (Nat.le_of_eq (toldZ_len _ _))
/-- what an order moves -/
def mvL (x : Od) : List Leg := if x.kind = 2 then x.legs else legs2 x.acct x.peer x.sum
theorem Mvd.fits {x : Od} (h : Mvd x) : 2 ≤ (mvL x).length ∧ (mvL x).length ≤ 6 ∧ 1 ≤ x.period ∧ x.period ≤ 1000 ∧ (x.kind = 4 → 1 ≤ x.sum) := by
  have hf := rightB_fits h.right
  unfold fitsO at hf
  unfold mvL
  rcases h.kind with k | k
  · rw [if_neg (by omega), if_pos k] at hf
    unfold fits2 periodB at hf
    simp only [Bool.and_eq_true, decide_eq_true_eq] at hf
    obtain ⟨⟨h1, h2, h3⟩, -⟩ := hf
    unfold legsB at h1
    simp only [Bool.and_eq_true, decide_eq_true_eq] at h1
    rw [if_pos k]
    exact ⟨h1.2.1, h1.2.2, h2, h3, fun e => by omega⟩
  · rw [if_neg (by omega), if_neg (by omega), if_neg (by omega), if_pos k] at hf
    unfold fits4 periodB at hf
    simp only [Bool.and_eq_true, decide_eq_true_eq] at hf
    obtain ⟨⟨⟨⟨_, _⟩, h1⟩, _⟩, h2, h3⟩ := hf
    rw [if_neg (by omega)]
    exact ⟨Nat.le_refl _, by show 2 ≤ 6; decide, h2, h3, fun _ => by omega⟩
theorem Mvd.sums {x : Od} (h : Mvd x) (hx : OdB x) : ∀ y ∈ mvL x, R64 y.sum := by
  obtain ⟨_, _, _, hs, _, _, hl⟩ := hx.rng
  have h4 := h.fits.2.2.2.2
  unfold mvL
  split
  · exact hl
  · rename_i hk
    have h1 := h4 (h.kind.resolve_left hk)
    intro y hy
    unfold legs2 at hy
    unfold R64 at hs ⊢
    rcases List.mem_cons.1 hy with rfl | hy
    · show _ ≤ -x.sum ∧ -x.sum ≤ _; omega
    · simp only [List.mem_singleton] at hy; subst hy; show _ ≤ x.sum ∧ x.sum ≤ _; omega
/-- a book's told order weighs 0 -/
theorem Mvd.zero {x : Od} (h : Mvd x) : sumL ((mvL x).map Leg.sum) = 0 := by
  obtain ⟨C, hC, hd⟩ := h.done
  have hr := h.right
  unfold mvL
  rcases h.kind with k | k
  · rw [if_pos k]
    unfold doL kindD at hd
    rw [if_neg (by rw [hr]; decide), if_neg (by omega), if_pos k] at hd
    unfold postD at hd
    split at hd
    · cases hd
    · have hm : (makeL C.L x.legs).1 = 0 := hd
      unfold makeL at hm
      split at hm
      · rename_i e; exact absurd hm e
      · rename_i hc
        have hc : checkL C.L x.legs = 0 := by simpa using hc
        unfold checkL at hc
        split at hc
        · cases hc
        · split at hc
          · cases hc
          · rename_i h2
            have hw : weighB x.legs = true := by simpa using h2
            unfold weighB at hw
            simp only [Bool.and_eq_true, decide_eq_true_eq] at hw
            have h1 := hw.1
            have h2 := hw.2
            unfold sumR at h1 h2
            split at h1
            · cases h1
            · rename_i e; rw [if_neg e] at h2; exact h2
  · rw [if_neg (by omega)]
    show -x.sum + (x.sum + 0) = 0
    omega
/-- what moves of some periods move -/
def legsR (M : List Od) (a b : Int) : List Leg := M.flatMap fun x => if a ≤ x.period ∧ x.period ≤ b then mvL x else []
theorem legsR_app (M N : List Od) (a b : Int) : legsR (M ++ N) a b = legsR M a b ++ legsR N a b := List.flatMap_append ..
theorem legsR_perm {M N : List Od} (h : M.Perm N) (a b : Int) : (legsR M a b).Perm (legsR N a b) := h.flatMap_right _
theorem legsR_sums {l : List Od} (hx : ∀ x ∈ l, OdB x) (a b : Int) : ∀ y ∈ legsR (movedL l) a b, R64 y.sum := fun y hy => by
  obtain ⟨x, hm, hy⟩ := List.mem_flatMap.1 hy
  obtain ⟨h1, h2⟩ := movedL_mem hx hm
  split at hy
  · exact h2.sums (hx x h1) y hy
  · cases hy
theorem flat_le {α β : Type} (f : α → List β) (n : Nat) : ∀ l : List α, (∀ x ∈ l, (f x).length ≤ n) → (l.flatMap f).length ≤ l.length * n
  | [], _ => by simp
  | x :: r, h => by
    rw [List.flatMap_cons, List.length_append, List.length_cons, Nat.add_mul]
    have h1 := flat_le f n r fun y hy => h y (List.mem_cons_of_mem _ hy)
    have h2 := h x (List.mem_cons_self ..)
    omega
theorem legsR_len {l : List Od} (hx : ∀ x ∈ l, OdB x) (a b : Int) : (legsR (movedL l) a b).length ≤ 6 * l.length := by
  have h := flat_le (fun x : Od => if a ≤ x.period ∧ x.period ≤ b then mvL x else []) 6 (movedL l) fun x hm => by
    split
    · exact (movedL_mem hx hm).2.fits.2.1
    · exact Nat.zero_le _
  have h2 := movedL_len l
  unfold legsR
  omega
/-- the sums of an account above 0, and the others -/
def inK (ls : List Leg) (k : ByteArray) : List Int := (ls.filter fun x => decide (x.acct = k) && decide (0 < x.sum)).map Leg.sum
def outK (ls : List Leg) (k : ByteArray) : List Int := (ls.filter fun x => decide (x.acct = k) && !decide (0 < x.sum)).map Leg.sum
def allK (ls : List Leg) (k : ByteArray) : List Int := (ls.filter fun x => decide (x.acct = k)).map Leg.sum
theorem inK_app (l m : List Leg) (k : ByteArray) : inK (l ++ m) k = inK l k ++ inK m k := by unfold inK; rw [List.filter_append, List.map_append]
theorem outK_app (l m : List Leg) (k : ByteArray) : outK (l ++ m) k = outK l k ++ outK m k := by unfold outK; rw [List.filter_append, List.map_append]
theorem allK_app (l m : List Leg) (k : ByteArray) : allK (l ++ m) k = allK l k ++ allK m k := by unfold allK; rw [List.filter_append, List.map_append]
theorem inK_sub (ls : List Leg) (k : ByteArray) : ∀ a ∈ inK ls k, ∃ x ∈ ls, x.sum = a := fun a h => by
  obtain ⟨x, hx, rfl⟩ := List.mem_map.1 h
  exact ⟨x, (List.mem_filter.1 hx).1, rfl⟩
theorem outK_sub (ls : List Leg) (k : ByteArray) : ∀ a ∈ outK ls k, ∃ x ∈ ls, x.sum = a := fun a h => by
  obtain ⟨x, hx, rfl⟩ := List.mem_map.1 h
  exact ⟨x, (List.mem_filter.1 hx).1, rfl⟩
theorem inK_len (ls : List Leg) (k : ByteArray) : (inK ls k).length ≤ ls.length := by unfold inK; rw [List.length_map]; exact List.length_filter_le _ _
theorem outK_len (ls : List Leg) (k : ByteArray) : (outK ls k).length ≤ ls.length := by unfold outK; rw [List.length_map]; exact List.length_filter_le _ _
theorem inK_snoc (ls : List Leg) (x : Leg) (k : ByteArray) : inK (ls ++ [x]) k = if x.acct = k ∧ 0 < x.sum then inK ls k ++ [x.sum] else inK ls k := by
  rw [inK_app]
  unfold inK
  by_cases h : x.acct = k ∧ 0 < x.sum
  · rw [if_pos h, List.filter_cons_of_pos (by simp [h.1, h.2])]; rfl
  · rw [if_neg h, List.filter_cons_of_neg (by simpa using h)]; simp
theorem outK_snoc (ls : List Leg) (x : Leg) (k : ByteArray) : outK (ls ++ [x]) k = if x.acct = k ∧ ¬ 0 < x.sum then outK ls k ++ [x.sum] else outK ls k := by
  rw [outK_app]
  unfold outK
  by_cases h : x.acct = k ∧ ¬ 0 < x.sum
  · rw [if_pos h, List.filter_cons_of_pos (by simp [h.1]; omega)]; rfl
  · rw [if_neg h, List.filter_cons_of_neg (by simpa using h)]; simp
/-- both together -/
theorem in_out : ∀ (ls : List Leg) (k : ByteArray), sumL (inK ls k) + sumL (outK ls k) = sumL (allK ls k)
  | [], _ => rfl
  | x :: r, k => by
    have ih := in_out r k
    have e1 : inK (x :: r) k = inK [x] k ++ inK r k := inK_app [x] r k
    have e2 : outK (x :: r) k = outK [x] k ++ outK r k := outK_app [x] r k
    have e3 : allK (x :: r) k = allK [x] k ++ allK r k := allK_app [x] r k
    rw [e1, e2, e3, sumL_app, sumL_app, sumL_app]
    have : sumL (inK [x] k) + sumL (outK [x] k) = sumL (allK [x] k) := by
      unfold inK outK allK
      by_cases h : x.acct = k
      · by_cases h0 : 0 < x.sum
        · simp [h, h0, sumL]
        · simp [h, h0, sumL]
      · simp [h, sumL]
    omega
/-- the names of accounts, in order, each once -/
def hasN (N : List ByteArray) (k : ByteArray) : Bool := N.any fun j => decide (j = k)
theorem hasN_iff {N : List ByteArray} {k : ByteArray} : hasN N k = true ↔ k ∈ N := by unfold hasN; simp
def addN (N : List ByteArray) (k : ByteArray) : List ByteArray := if hasN N k = true then N else insB bless k N
def namesL (ls : List Leg) : List ByteArray := ls.foldl (fun N x => addN N x.acct) []
theorem namesL_snoc (ls : List Leg) (x : Leg) : namesL (ls ++ [x]) = addN (namesL ls) x.acct := by unfold namesL; rw [List.foldl_append]; rfl
theorem addN_mem {N : List ByteArray} {k j : ByteArray} : j ∈ addN N k ↔ j = k ∨ j ∈ N := by
  unfold addN
  split
  · rename_i h
    rw [hasN_iff] at h
    exact ⟨.inr, fun e => e.elim (fun e => e ▸ h) id⟩
  · exact insB_mem
theorem addN_srt {N : List ByteArray} (h : SrtL bless N) (k : ByteArray) : SrtL bless (addN N k) := by
  unfold addN
  split
  · exact h
  · rename_i hk
    rw [hasN_iff] at hk
    refine insB_srt bless_strict k N h fun y hy => ?_
    cases h1 : bless k y with
    | true => exact .inl rfl
    | false =>
      cases h2 : bless y k with
      | true => exact .inr rfl
      | false => exact absurd (bless_tri h1 h2 ▸ hy) hk
theorem namesL_both : ∀ (ls : List Leg) (N : List ByteArray), SrtL bless N → SrtL bless (ls.foldl (fun N x => addN N x.acct) N) ∧ ∀ k, k ∈ ls.foldl (fun N x => addN N x.acct) N ↔ k ∈ N ∨ ∃ x ∈ ls, x.acct = k
  | [], N, h => ⟨h, fun k => by simp⟩
  | x :: r, N, h => by
    obtain ⟨h1, h2⟩ := namesL_both r (addN N x.acct) (addN_srt h _)
    refine ⟨h1, fun k => (h2 k).trans ?_⟩
    rw [addN_mem]
    constructor
    · rintro ((rfl | h) | ⟨y, hy, e⟩)
      · exact .inr ⟨x, by simp, rfl⟩
      · exact .inl h
      · exact .inr ⟨y, by simp [hy], e⟩
    · rintro (h | ⟨y, hy, e⟩)
      · exact .inl (.inr h)
      · rcases List.mem_cons.1 hy with rfl | hy
        · exact .inl (.inl e.symm)
        · exact .inr ⟨y, hy, e⟩
theorem namesL_srt (ls : List Leg) : SrtL bless (namesL ls) := (namesL_both ls [] List.Pairwise.nil).1
theorem namesL_mem {ls : List Leg} {k : ByteArray} : k ∈ namesL ls ↔ ∃ x ∈ ls, x.acct = k := by
  have := (namesL_both ls [] List.Pairwise.nil).2 k
  unfold namesL
  simpa using this
theorem namesL_perm {l m : List Leg} (h : l.Perm m) : namesL l = namesL m :=
  srt_ext bless_strict (namesL_srt l) (namesL_srt m) fun k => by
    rw [namesL_mem, namesL_mem]
    constructor
    · rintro ⟨x, hx, e⟩; exact ⟨x, h.mem_iff.1 hx, e⟩
    · rintro ⟨x, hx, e⟩; exact ⟨x, h.mem_iff.2 hx, e⟩
theorem addN_len (N : List ByteArray) (k : ByteArray) : (addN N k).length ≤ N.length + 1 := by
  unfold addN
  split
  · omega
  · rw [(insB_perm _ _).length_eq]; simp
theorem namesL_len (ls : List Leg) : (namesL ls).length ≤ ls.length := by
  have : ∀ (ls : List Leg) (N : List ByteArray), (ls.foldl (fun N x => addN N x.acct) N).length ≤ N.length + ls.length := fun ls => by
    induction ls with
    | nil => intro N; simp
    | cons x r ih =>
      intro N
      have h1 := ih (addN N x.acct)
      have h2 := addN_len N x.acct
      show (r.foldl (fun N x => addN N x.acct) (addN N x.acct)).length ≤ _
      rw [List.length_cons]
      omega
  have := this ls []
  simpa [namesL] using this
/-- a line of a trial -/
structure Ln where
  acct : ByteArray
  inn : Int
  out : Int
deriving DecidableEq
def lineOf (ls : List Leg) (k : ByteArray) : Ln := ⟨k, (sumR (sumL (inK ls k))).1, (sumR (0 - (sumR (sumL (outK ls k))).1)).1⟩
/-- are these sums? -/
def okLn (ls : List Leg) (k : ByteArray) : Bool := decide ((sumR (sumL (inK ls k))).2 = 0) && (decide ((sumR (sumL (outK ls k))).2 = 0) && decide ((sumR (0 - (sumR (sumL (outK ls k))).1)).2 = 0))
/-- audit.Trial -/
def trialL (ls : List Leg) : List Ln × Int := if (namesL ls).all (okLn ls) = true then ((namesL ls).map (lineOf ls), 0) else ([], 2)
/-- audit.Between -/
def betwL (ls : List Leg) (k : ByteArray) : Int × Int := sumR (sumL (allK ls k))
theorem inK_perm {l m : List Leg} (h : l.Perm m) (k : ByteArray) : (inK l k).Perm (inK m k) := (h.filter _).map _
theorem outK_perm {l m : List Leg} (h : l.Perm m) (k : ByteArray) : (outK l k).Perm (outK m k) := (h.filter _).map _
theorem allK_perm {l m : List Leg} (h : l.Perm m) (k : ByteArray) : (allK l k).Perm (allK m k) := (h.filter _).map _
theorem lineOf_perm {l m : List Leg} (h : l.Perm m) : lineOf l = lineOf m := funext fun k => by
  unfold lineOf
  rw [sumL_perm (inK_perm h k), sumL_perm (outK_perm h k)]
theorem okLn_perm {l m : List Leg} (h : l.Perm m) : okLn l = okLn m := funext fun k => by
  unfold okLn
  rw [sumL_perm (inK_perm h k), sumL_perm (outK_perm h k)]
theorem trialL_perm {l m : List Leg} (h : l.Perm m) : trialL l = trialL m := by
  unfold trialL
  rw [namesL_perm h, lineOf_perm h, okLn_perm h]
theorem betwL_perm {l m : List Leg} (h : l.Perm m) (k : ByteArray) : betwL l k = betwL m k := by
  unfold betwL
  rw [sumL_perm (allK_perm h k)]
theorem movedZ_perm {Y Z : List (Od × Rp)} (h : Y.Perm Z) : (movedZ Y).Perm (movedZ Z) := (h.filter _).map _
theorem sumR_ok {n : Int} (h : (sumR n).2 = 0) : (sumR n).1 = n ∧ R64 n := by
  unfold sumR at *
  split
  · rename_i h1; rw [if_pos h1] at h; cases h
  · rename_i h1
    have : overB n = false := by simpa using h1
    unfold overB at this
    simp only [Bool.not_eq_false', Bool.and_eq_true, decide_eq_true_eq] at this
    exact ⟨rfl, this⟩
end Go.Proofs.YtgholbeehkfbiaaGreat
