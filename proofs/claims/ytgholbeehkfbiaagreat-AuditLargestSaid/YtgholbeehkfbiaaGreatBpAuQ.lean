/- audit: the plain laws -/
import Derived.Test.YtgholbeehkfbiaaGreatRows
import Derived.Test.YtgholbeehkfbiaaGreatBpAuP
import Derived.Test.YtgholbeehkfbiaaGreatBm20
import Derived.WalkKit
import Derived.WalkSpells
import Derived.WalkLawsBesides
import Derived.Deep.QuietTactic
import Derived.BigQuiet
import Derived.Laws.StructEq
import Derived.Deep.DeepFit
import Derived.StillTailTactics
namespace Go.Proofs.YtgholbeehkfbiaaGreat
open Go.RowKit
theorem tells_zero' {L : List Ac} {k : ByteArray} {e : Int} (h : (tellsL L k e).err = 0) : e = 0 := by
  unfold tellsL at h
  by_cases h1 : e ≠ 0
  · rw [if_pos h1] at h; exact absurd h h1
  · simpa using h1
/-- one leg's part of an account -/
def legK (k : ByteArray) (x : Leg) : Int := if x.acct = k then x.sum else 0
theorem allK_sum : ∀ (ls : List Leg) (k : ByteArray), sumL (allK ls k) = sumL (ls.map (legK k))
  | [], _ => rfl
  | x :: r, k => by
    have ih := allK_sum r k
    unfold allK at *
    rw [List.map_cons]
    by_cases h : x.acct = k
    · rw [List.filter_cons_of_pos (by simpa using h), List.map_cons, sumL, sumL, ih]
      unfold legK; rw [if_pos h]
    · rw [List.filter_cons_of_neg (by simpa using h), sumL, ih]
      unfold legK; rw [if_neg h]; omega
theorem allK_one {k : ByteArray} : ∀ {ls : List Leg}, (∀ x ∈ ls, x.acct ≠ k) → allK ls k = []
  | ls, h => by
    unfold allK
    rw [List.filter_eq_nil_iff.2 fun x hx => by simpa using h x hx]; rfl
/-- all names together are all legs -/
theorem names_sum : ∀ (N : List ByteArray) (ls : List Leg), N.Nodup → (∀ x ∈ ls, x.acct ∈ N) → sumL (N.map fun k => sumL (allK ls k)) = sumL (ls.map Leg.sum) := by
  intro N ls hN
  induction ls with
  | nil =>
    intro _
    have : ∀ M : List ByteArray, sumL (M.map fun k => sumL (allK [] k)) = 0 := fun M => by
      induction M with
      | nil => rfl
      | cons k r ih => rw [List.map_cons, sumL, ih]; rfl
    exact this N
  | cons x r ih =>
    intro h
    replace ih := ih fun y hy => h y (List.mem_cons_of_mem _ hy)
    have hx := h x (List.mem_cons_self ..)
    rw [List.map_cons, sumL, ← ih]
    clear h ih
    induction N with
    | nil => cases hx
    | cons k N ihN =>
      obtain ⟨n1, n2⟩ := List.nodup_cons.1 hN
      simp only [List.map_cons, sumL, allK_sum]
      have key : ∀ M : List ByteArray, x.acct ∉ M → sumL (M.map fun k => legK k x + sumL (r.map (legK k))) = sumL (M.map fun k => sumL (r.map (legK k))) := fun M hM => by
        congr 1
        refine List.map_congr_left fun j hj => ?_
        unfold legK
        rw [if_neg (fun e => hM (by rw [e]; exact hj))]
        omega
      by_cases e : x.acct = k
      · rw [key N (by rw [e]; exact n1)]
        unfold legK
        rw [if_pos e]
        omega
      · have hx2 : x.acct ∈ N := (List.mem_cons.1 hx).resolve_left e
        have ih2 := ihN n2 hx2
        simp only [allK_sum, List.map_cons, sumL] at ih2
        rw [ih2]
        unfold legK
        rw [if_neg e]
        omega
theorem srt_nodup {N : List ByteArray} (h : SrtL bless N) : N.Nodup := h.imp fun {a b} h e => by rw [e, bless_strict.irr] at h; cases h
theorem legsR_zero {l : List Od} (hx : ∀ x ∈ l, OdB x) (a b : Int) : sumL ((legsR (movedL l) a b).map Leg.sum) = 0 := by
  have : ∀ M : List Od, (∀ x ∈ M, Mvd x) → sumL ((legsR M a b).map Leg.sum) = 0 := fun M => by
    induction M with
    | nil => intro _; rfl
    | cons x r ih =>
      intro h
      have h1 := ih fun y hy => h y (List.mem_cons_of_mem _ hy)
      have e : legsR (x :: r) a b = (if a ≤ x.period ∧ x.period ≤ b then mvL x else []) ++ legsR r a b := rfl
      rw [e, List.map_append, sumL_app, h1]
      split
      · rw [(h x (List.mem_cons_self ..)).zero]; rfl
      · rfl
  exact this _ fun x hm => (movedL_mem hx hm).2
/-- in a trial all that came in is all that went out -/
theorem trial_zero {l : List Od} (hx : ∀ x ∈ l, OdB x) (p : Int) (h : (trialL (legsR (movedL l) 0 p)).2 = 0) : sumL ((trialL (legsR (movedL l) 0 p)).1.map Ln.inn) = sumL ((trialL (legsR (movedL l) 0 p)).1.map Ln.out) := by
  have hz := legsR_zero hx 0 p
  generalize legsR (movedL l) 0 p = ls at *
  unfold trialL at *
  split at h
  · rename_i hall
    rw [if_pos hall]
    have hns := names_sum (namesL ls) ls (srt_nodup (namesL_srt ls)) fun x hx => namesL_mem.2 ⟨x, hx, rfl⟩
    rw [hz] at hns
    rw [List.all_eq_true] at hall
    generalize namesL ls = N at *
    have : ∀ M : List ByteArray, (∀ k ∈ M, okLn ls k = true) → sumL ((M.map (lineOf ls)).map Ln.inn) - sumL ((M.map (lineOf ls)).map Ln.out) = sumL (M.map fun k => sumL (allK ls k)) := fun M => by
      induction M with
      | nil => intro _; rfl
      | cons k r ih =>
        intro hM
        have h1 := ih fun j hj => hM j (List.mem_cons_of_mem _ hj)
        have h2 := hM k (List.mem_cons_self ..)
        unfold okLn at h2
        simp only [Bool.and_eq_true, decide_eq_true_eq] at h2
        have e1 := (sumR_ok h2.1).1
        have e2 := (sumR_ok h2.2.1).1
        have e3 := (sumR_ok h2.2.2).1
        have h3 := in_out ls k
        simp only [List.map_cons, sumL]
        have f1 : (lineOf ls k).inn = sumL (inK ls k) := e1
        have f2 : (lineOf ls k).out = - sumL (outK ls k) := by
          show (sumR (0 - (sumR (sumL (outK ls k))).1)).1 = _
          rw [e3, e2]; omega
        omega
    have := this N hall
    show sumL ((N.map (lineOf ls)).map Ln.inn) = sumL ((N.map (lineOf ls)).map Ln.out)
    omega
  · cases h
/-- what an account has, by its name -/
def havK (L : List Ac) (k : ByteArray) : Int := match getK Ac.name L k with
  | some a => a.hav
  | none => 0
theorem havK_eq {L L' : List Ac} {k : ByteArray} (h : getK Ac.name L k = getK Ac.name L' k) : havK L k = havK L' k := by unfold havK; rw [h]
theorem turn_havK (L : List Ac) (j : ByteArray) (x y : Int) (h : (turnL (givD y) L j x).1 = 0) (k : ByteArray) : havK (turnL (givD y) L j x).2 k = havK L k - if j = k then y else 0 := by
  rcases turnL_cases (givD y) L j x with ⟨e, _⟩ | ⟨_, a, hg, h0, _, _, e⟩
  · exact absurd h e
  · rw [e]
    unfold havK
    rw [get_setK]
    have hn : ((givD y a).1).name = j := (getK_mem hg).2
    by_cases hk : j = k
    · subst hk
      rw [if_pos hn, hg, if_pos rfl]
      exact sumR_zero h0
    · rw [if_neg (by rw [hn]; exact hk), if_neg hk]
      omega
theorem turn_asiK (L : List Ac) (j : ByteArray) (x y : Int) (k : ByteArray) : havK (turnL (asiD y) L j x).2 k = havK L k := by
  rcases turnL_cases (asiD y) L j x with ⟨_, e⟩ | ⟨_, a, hg, h0, _, _, e⟩
  · rw [e]
  · rw [e]
    unfold havK
    rw [get_setK]
    have hn : ((asiD y a).1).name = j := (getK_mem hg).2
    by_cases hk : j = k
    · subst hk
      rw [if_pos hn, hg]
      rfl
    · rw [if_neg (by rw [hn]; exact hk)]
theorem post_havK (L : List Ac) (x : Leg) (h : (postL L x).1 = 0) (k : ByteArray) : havK (postL L x).2 k = havK L k + legK k x := by
  unfold postL at *
  split at h
  · rename_i h1; exact absurd h h1
  · rename_i h1
    rw [if_neg h1]
    split at h
    · rename_i h2; exact absurd h h2
    · rename_i h2
      rw [if_neg h2]
      rw [turn_havK _ _ _ _ h, sumR_zero (by simpa using h2)]
      unfold legK
      split <;> omega
theorem all_havK (k : ByteArray) : ∀ (l : List Leg) {L : List Ac}, (allL L l).1 = 0 → havK (allL L l).2 k = havK L k + sumL (l.map (legK k))
  | [], L, h => by show havK L k = havK L k + 0; omega
  | x :: r, L, h => by
    unfold allL at *
    by_cases h1 : (postL L x).1 ≠ 0
    · rw [if_pos h1] at h
      exact absurd h h1
    · rw [if_neg h1] at h ⊢
      have h1 : (postL L x).1 = 0 := by simpa using h1
      rw [all_havK k r h, post_havK L x h1]
      show _ = havK L k + (legK k x + sumL (r.map (legK k)))
      omega
theorem make_havK (L : List Ac) (l : List Leg) (h : (makeL L l).1 = 0) (k : ByteArray) : havK (makeL L l).2 k = havK L k + sumL (l.map (legK k)) := by
  unfold makeL at *
  split at h
  · rename_i e; exact absurd h e
  · rename_i e
    rw [if_neg e]
    exact all_havK k l h
theorem free_havK (L : List Ac) (H : List Held) (j : ByteArray) (n : Int) (k : ByteArray) : havK (freeHL L H j n).2.1 k = havK L k := by
  unfold freeHL
  cases getK Held.key H ⟨j, n⟩ with
  | none => rfl
  | some y => exact turn_asiK _ _ _ _ _
theorem put_havK (L : List Ac) (H : List Held) (x : Held) (k : ByteArray) : havK (putH L H x).2.1 k = havK L k := by
  unfold putH
  split
  · rfl
  · split
    · rfl
    · split
      · rfl
      · exact turn_asiK _ _ _ _ _
theorem open_havK (L : List Ac) (j : ByteArray) (lim : Int) (k : ByteArray) : havK (openL L j lim).2 k = havK L k := by
  rcases openL_cases L j lim with ⟨_, e⟩ | ⟨_, _, _, hn, _, e⟩
  · rw [e]
  · rw [e]
    unfold havK
    rw [get_insB _ _ _ hn]
    by_cases hk : j = k
    · subst hk
      rw [if_pos rfl, hn]
    · rw [if_neg hk]
/-- what an order turns of an account -/
def mvK (B : Bk) (x : Od) (k : ByteArray) : Int := if mvB (x, (doL B x).1) = true then sumL ((mvL x).map (legK k)) else 0
theorem mvB_iff {x : Od} {r : Rp} : mvB (x, r) = true ↔ r.err = 0 ∧ (x.kind = 2 ∨ x.kind = 4) := by unfold mvB; simp
theorem do_havK {B : Bk} (hI : InvB B) (x : Od) (k : ByteArray) : havK (doL B x).2.L k = havK B.L k + mvK B x k := by
  by_cases he : (doL B x).1.err = 0
  · by_cases h24 : x.kind = 2 ∨ x.kind = 4
    · unfold mvK
      rw [if_pos (mvB_iff.2 ⟨he, h24⟩)]
      have hr := do_right he
      unfold doL kindD at he ⊢
      rw [if_neg (by rw [hr]; decide)] at he ⊢
      rcases h24 with k2 | k4
      · rw [if_neg (by omega), if_pos k2] at he ⊢
        unfold mvL
        rw [if_pos k2]
        unfold postD at *
        split at he
        · cases he
        · rename_i hc
          rw [if_neg hc]
          exact make_havK _ _ he k
      · rw [if_neg (by omega), if_neg (by omega), if_neg (by omega), if_pos k4] at he ⊢
        unfold mvL
        rw [if_neg (by omega)]
        unfold capD at *
        split at he
        · cases he
        · rename_i hc
          rw [if_neg hc]
          have ht := (tells_zero' he)
          dsimp only at ht ⊢
          unfold takeH at *
          cases hg : getK Held.key B.H ⟨x.acct, x.hold⟩ with
          | none => rw [hg] at ht; cases ht
          | some y =>
            rw [hg] at ht
            dsimp only at ht ⊢
            split at ht
            · cases ht
            · rename_i h1
              rw [if_neg h1]
              split at ht
              · rename_i h2; exact absurd ht h2
              · rename_i h2
                rw [if_neg h2]
                split at ht
                · rename_i h3; exact absurd ht h3
                · rename_i h3
                  rw [if_neg h3]
                  dsimp only
                  rw [make_havK _ _ ht k, free_havK]
    · unfold mvK
      rw [if_neg (fun e => h24 (mvB_iff.1 e).2), Int.add_zero]
      have k2 : x.kind ≠ 2 := fun e => h24 (.inl e)
      have k4 : x.kind ≠ 4 := fun e => h24 (.inr e)
      unfold doL
      split
      · rfl
      · unfold kindD
        by_cases k1 : x.kind = 1
        · rw [if_pos k1]; exact open_havK _ _ _ _
        rw [if_neg k1, if_neg k2]
        by_cases k3 : x.kind = 3
        · rw [if_pos k3]; exact put_havK _ _ _ _
        rw [if_neg k3, if_neg k4]
        by_cases k5 : x.kind = 5
        · rw [if_pos k5]; exact free_havK _ _ _ _ _
        rw [if_neg k5]
        by_cases k6 : x.kind = 6
        · rw [if_pos k6]; unfold shutD; split <;> rfl
        rw [if_neg k6]; rfl
  · rw [(doL_err hI he).1]
    unfold mvK
    rw [if_neg (fun e => he (mvB_iff.1 e).1)]
    omega
theorem fold_havK (k : ByteArray) : ∀ (l : List Od) {B : Bk}, InvB B → (∀ x ∈ l, OdB x) → havK (foldL B l).L k = havK B.L k + sumL (allK ((movedZ (toldZ B l)).flatMap mvL) k)
  | [], B, _, _ => by show havK B.L k = havK B.L k + 0; omega
  | x :: r, B, hI, hx => by
    have ih := fold_havK k r (hI.do_ (hx x (List.mem_cons_self ..))) fun y hy => hx y (List.mem_cons_of_mem _ hy)
    have h1 := do_havK hI x k
    have e : movedZ (toldZ B (x :: r)) = (if mvB (x, (doL B x).1) = true then [x] else []) ++ movedZ (toldZ (doL B x).2 r) := by
      rw [toldZ_cons]
      unfold movedZ
      by_cases h : mvB (x, (doL B x).1) = true
      · rw [List.filter_cons_of_pos h, if_pos h]; rfl
      · rw [List.filter_cons_of_neg h, if_neg h]; rfl
    rw [e, List.flatMap_append, allK_app, sumL_app]
    show havK (foldL (doL B x).2 r).L k = _
    rw [ih, h1]
    unfold mvK
    split
    · rw [allK_sum ([x].flatMap mvL)]
      have : [x].flatMap mvL = mvL x := by simp
      rw [this]
      omega
    · show _ = _ + (sumL (allK [] k) + _)
      have : sumL (allK [] k) = 0 := rfl
      omega
/-- by all periods: all moves -/
theorem legsR_all {l : List Od} (hx : ∀ x ∈ l, OdB x) {a : Int} (ha : a ≤ 1) : legsR (movedL l) a 1000 = (movedL l).flatMap mvL := by
  unfold legsR
  have : ∀ M : List Od, (∀ x ∈ M, Mvd x) → (M.flatMap fun x => if a ≤ x.period ∧ x.period ≤ 1000 then mvL x else []) = M.flatMap mvL := fun M => by
    induction M with
    | nil => intro _; rfl
    | cons x r ih =>
      intro h
      rw [List.flatMap_cons, List.flatMap_cons, ih fun y hy => h y (List.mem_cons_of_mem _ hy)]
      obtain ⟨_, _, h1, h2, _⟩ := (h x (List.mem_cons_self ..)).fits
      rw [if_pos ⟨by omega, h2⟩]
  exact this _ fun x hm => (movedL_mem hx hm).2
/-- an account has what came in less what went out -/
theorem have_law {l : List Od} (hx : ∀ x ∈ l, OdB x) {a : Ac} (ha : a ∈ (foldL bk0 l).L) : a.hav = sumL (allK (legsR (movedL l) 0 1000) a.name) := by
  have h := fold_havK a.name l inv_bk0 hx
  have hI := inv_bk0.fold l hx
  unfold havK at h
  rw [getK_of keyA hI.inv.srtA ha] at h
  rw [legsR_all hx (by omega)]
  have e0 : getK Ac.name bk0.L a.name = none := rfl
  rw [e0] at h
  dsimp only at h
  rw [Int.zero_add] at h
  exact h
/-- the line of an account, by all periods -/
theorem line_law {ls : List Leg} {k : ByteArray} (h : okLn ls k = true) : (lineOf ls k).inn - (lineOf ls k).out = sumL (allK ls k) := by
  unfold okLn at h
  simp only [Bool.and_eq_true, decide_eq_true_eq] at h
  have e1 := (sumR_ok h.1).1
  have e2 := (sumR_ok h.2.1).1
  have e3 := (sumR_ok h.2.2).1
  have h3 := in_out ls k
  have f1 : (lineOf ls k).inn = sumL (inK ls k) := e1
  have f2 : (lineOf ls k).out = - sumL (outK ls k) := by
    show (sumR (0 - (sumR (sumL (outK ls k))).1)).1 = _
    rw [e3, e2]; omega
  omega
/-- up to one period, and from the next one on -/
theorem parts_law {l : List Od} (hx : ∀ x ∈ l, OdB x) (k : ByteArray) {at_ : Int} (h0 : 0 ≤ at_) (h1 : at_ < 1000) :
    sumL (allK (legsR (movedL l) 0 at_) k) + sumL (allK (legsR (movedL l) (at_ + 1) 1000) k) = sumL (allK (legsR (movedL l) 0 1000) k) := by
  have : ∀ M : List Od, (∀ x ∈ M, Mvd x) → sumL (allK (legsR M 0 at_) k) + sumL (allK (legsR M (at_ + 1) 1000) k) = sumL (allK (legsR M 0 1000) k) := fun M => by
    induction M with
    | nil => intro _; rfl
    | cons x r ih =>
      intro h
      have ih := ih fun y hy => h y (List.mem_cons_of_mem _ hy)
      obtain ⟨_, _, p1, p2, _⟩ := (h x (List.mem_cons_self ..)).fits
      have e : ∀ a b, legsR (x :: r) a b = (if a ≤ x.period ∧ x.period ≤ b then mvL x else []) ++ legsR r a b := fun _ _ => rfl
      rw [e, e, e, allK_app, allK_app, allK_app, sumL_app, sumL_app, sumL_app]
      have z : sumL (allK [] k) = 0 := rfl
      rw [if_pos (⟨by omega, p2⟩ : (0 : Int) ≤ x.period ∧ x.period ≤ 1000)]
      by_cases hp : x.period ≤ at_
      · rw [if_pos ⟨by omega, hp⟩, if_neg (by omega)]
        omega
      · rw [if_neg (by omega), if_pos ⟨by omega, p2⟩]
        omega
  exact this _ fun x hm => (movedL_mem hx hm).2
theorem parts_none (M : List Od) (k : ByteArray) : betwL (legsR M 5 4) k = (0, 0) := by
  have : legsR M 5 4 = [] := by
    unfold legsR
    induction M with
    | nil => rfl
    | cons x r ih => rw [List.flatMap_cons, ih, if_neg (by omega)]; rfl
  rw [this]
  rfl
end Go.Proofs.YtgholbeehkfbiaaGreat
