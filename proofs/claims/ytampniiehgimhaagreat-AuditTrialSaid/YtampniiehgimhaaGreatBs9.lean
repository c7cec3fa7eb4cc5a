/- Texts of this claim, laid together. -/
import Derived.Test.YtampniiehgimhaaGreatRows
import Derived.Test.YtampniiehgimhaaGreatBs6
import Derived.Test.YtampniiehgimhaaGreatBs8
import Derived.WalkKit
import Derived.WalkSpells
import Derived.WalkLawsBesides
import Derived.Deep.QuietTactic
import Derived.BigQuiet
import Derived.Laws.StructEq
import Derived.Deep.DeepFit
import Derived.StillTailTactics
import Derived.Maps.Own
import Derived.Sort.KeysCollected
import Derived.Test.YtampniiehgimhaaGreatBs1
import Derived.Test.YtampniiehgimhaaGreatBs3
import Derived.Test.YtampniiehgimhaaGreatBs2
import Derived.Test.YtampniiehgimhaaGreatShelf
import Derived.Test.YtampniiehgimhaaGreatBs4
import Derived.Laws.Tables
import Derived.Laws.CopyOwn
import Derived.Test.YtampniiehgimhaaGreatBs5

/- book: what orders do, in plain Lean -/
namespace Go.Proofs.YtampniiehgimhaaGreat
open Go.RowKit
/-- a book: accounts and holds in order, the last closed period -/
structure Bk where
 L : List Ac
 H : List Held
 cl : Int
theorem Bk.ext_ {a b : Bk} (h1 : a.L = b.L) (h2 : a.H = b.H) (h3 : a.cl = b.cl) : a = b := by cases a; cases b; simp_all
def rpE (e : Int) : Rp := ⟨e, 0, 0, 0⟩
/-- (*book.Book).tells -/
def tellsL (L : List Ac) (k : ByteArray) (e : Int) : Rp := if e ≠ 0 then rpE e else if (getLR L k).2 ≠ 0 then rpE (getLR L k).2 else ⟨0, (getLR L k).1.hav, (getLR L k).1.set_, 0⟩
/-- order.Number -/
def numO (x : Od) : Int := 1000 * x.client + x.seq
def withN (r : Rp) (n : Int) : Rp := if r.err = 0 then { r with num := n } else r
def openD (B : Bk) (x : Od) : Rp × Bk := (tellsL (openL B.L x.acct x.sum).2 x.acct (openL B.L x.acct x.sum).1, ⟨(openL B.L x.acct x.sum).2, B.H, B.cl⟩)
def postD (B : Bk) (x : Od) : Rp × Bk := if x.period ≤ B.cl then (rpE 10, B) else (rpE (makeL B.L x.legs).1, ⟨(makeL B.L x.legs).2, B.H, B.cl⟩)
def holdD (B : Bk) (x : Od) : Rp × Bk := (withN (tellsL (putH B.L B.H ⟨numO x, x.acct, x.sum⟩).2.1 x.acct (putH B.L B.H ⟨numO x, x.acct, x.sum⟩).1) (numO x), ⟨(putH B.L B.H ⟨numO x, x.acct, x.sum⟩).2.1, (putH B.L B.H ⟨numO x, x.acct, x.sum⟩).2.2, B.cl⟩)
def capD (B : Bk) (x : Od) : Rp × Bk := if x.period ≤ B.cl then (rpE 10, B) else (tellsL (takeH B.L B.H x.acct x.hold x.peer x.sum).2.1 x.acct (takeH B.L B.H x.acct x.hold x.peer x.sum).1, ⟨(takeH B.L B.H x.acct x.hold x.peer x.sum).2.1, (takeH B.L B.H x.acct x.hold x.peer x.sum).2.2, B.cl⟩)
def relD (B : Bk) (x : Od) : Rp × Bk := (tellsL (freeHL B.L B.H x.acct x.hold).2.1 x.acct (freeHL B.L B.H x.acct x.hold).1, ⟨(freeHL B.L B.H x.acct x.hold).2.1, (freeHL B.L B.H x.acct x.hold).2.2, B.cl⟩)
def shutD (B : Bk) (x : Od) : Rp × Bk := if x.period ≤ B.cl then (rpE 10, B) else (⟨0, 0, 0, x.period⟩, ⟨B.L, B.H, x.period⟩)
def askD (B : Bk) (x : Od) : Rp × Bk := (tellsL B.L x.acct 0, B)
def kindD (B : Bk) (x : Od) : Rp × Bk := if x.kind = 1 then openD B x else if x.kind = 2 then postD B x else if x.kind = 3 then holdD B x else if x.kind = 4 then capD B x else if x.kind = 5 then relD B x else if x.kind = 6 then shutD B x else askD B x
/-- (*book.Book).Do -/
def doL (B : Bk) (x : Od) : Rp × Bk := if rightB x = false then (rpE 1, B) else kindD B x
def bk0 : Bk := ⟨[], [], 0⟩
/-- the book behind orders -/
def foldL (B : Bk) : List Od → Bk
 | [] => B
 | x :: r => foldL (doL B x).2 r
/-- what they are told -/
def toldL (B : Bk) : List Od → List Rp
 | [] => []
 | x :: r => (doL B x).1 :: toldL (doL B x).2 r
theorem foldL_app (l m : List Od) : ∀ B : Bk, foldL B (l ++ m) = foldL (foldL B l) m := by
 induction l with
 | nil => intro B; rfl
 | cons x r ih => intro B; exact ih _
theorem toldL_app (l m : List Od) : ∀ B : Bk, toldL B (l ++ m) = toldL B l ++ toldL (foldL B l) m := by
 induction l with
 | nil => intro B; rfl
 | cons x r ih => intro B; show _ :: toldL _ (r ++ m) = _; rw [ih]; rfl
theorem toldL_len (l : List Od) : ∀ B : Bk, (toldL B l).length = l.length := by
 induction l with
 | nil => intro B; rfl
 | cons x r ih => intro B; show (toldL _ r).length + 1 = r.length + 1; rw [ih]
theorem foldL_snoc (B : Bk) (l : List Od) (x : Od) : foldL B (l ++ [x]) = (doL (foldL B l) x).2 := foldL_app l [x] B
theorem toldL_snoc (B : Bk) (l : List Od) (x : Od) : toldL B (l ++ [x]) = toldL B l ++ [(doL (foldL B l) x).1] := toldL_app l [x] B
/-- what a right order is -/
theorem rightB_ids {x : Od} (h : rightB x = true) : (1 ≤ x.kind ∧ x.kind ≤ 7) ∧ (0 ≤ x.client ∧ x.client ≤ 9) ∧ 1 ≤ x.seq ∧ x.seq ≤ 999 := by
 unfold rightB at h
 simp only [Bool.and_eq_true, decide_eq_true_eq] at h
 exact ⟨h.1, h.2.1.1, h.2.1.2⟩
theorem rightB_fits {x : Od} (h : rightB x = true) : fitsO x = true := by
 unfold rightB at h
 simp only [Bool.and_eq_true] at h
 exact h.2.2.2
theorem insB_mem {α : Type} {lt : α → α → Bool} {x y : α} {L : List α} : y ∈ insB lt x L ↔ y = x ∨ y ∈ L := by rw [(insB_perm x L).mem_iff, List.mem_cons]
theorem openL_cases (L : List Ac) (k : ByteArray) (lim : Int) : ((openL L k lim).1 ≠ 0 ∧ (openL L k lim).2 = L) ∨ ((openL L k lim).1 = 0 ∧ nameB k = true ∧ 0 ≤ lim ∧ getK Ac.name L k = none ∧ L.length ≠ 12 ∧ (openL L k lim).2 = insB ltA ⟨k, 0, 0, lim⟩ L) := by
 unfold openL
 by_cases h1 : nameB k = false ∨ lim < 0
 ·rw [if_pos h1]; exact .inl ⟨by show (1 : Int) ≠ 0; decide, rfl⟩
 ·rw [if_neg h1]
  by_cases h2 : (getK Ac.name L k).isSome = true
  ·rw [if_pos h2]; exact .inl ⟨by show (7 : Int) ≠ 0; decide, rfl⟩
  ·rw [if_neg h2]
   by_cases h3 : L.length = 12
   ·rw [if_pos h3]; exact .inl ⟨by show (5 : Int) ≠ 0; decide, rfl⟩
   ·rw [if_neg h3]
    exact .inr ⟨rfl, by simpa using fun e => h1 (.inl e), by omega, by simpa using h2, h3, rfl⟩
theorem InvH.open_ {L : List Ac} {H : List Held} (h : InvH L H) (k : ByteArray) {lim : Int} (hl : R64 lim) : InvH (openL L k lim).2 H := by
 have hok := openL_ok h.okA k hl
 rcases openL_cases L k lim with ⟨_, e⟩ | ⟨_, _, _, hg, _, e⟩
 ·rw [e]; exact h
 ·rw [e] at hok ⊢
  have hno := getK_none.1 hg
  refine ⟨hok, insB_srt keyA.strict _ _ h.srtA (fun y hy => keyA.co _ _ (fun e => hno y hy e.symm)), h.okH, h.srtH, ?_, h.few, ?_⟩
  ·intro a ha
   rcases insB_mem.1 ha with rfl | ha
   ·have hn : ofL H k = [] := by
     unfold ofL
     rw [List.filter_eq_nil_iff]
     intro x hx
     obtain ⟨a, ha, hk⟩ := h.at_ x hx
     have := hno a ha
     simp only [decide_eq_true_eq]
     rw [← hk]
     exact this
    show (0 : Int) = sumH (ofL H k)
    rw [hn]; rfl
   ·exact h.set a ha
  ·intro x hx
   obtain ⟨a, ha, hk⟩ := h.at_ x hx
   exact ⟨a, insB_mem.2 (.inr ha), hk⟩
theorem InvH.make_ {L : List Ac} {H : List Held} (h : InvH L H) (l : List Leg) : InvH (makeL L l).2 H :=
 h.ss (makeL_ss h.srtA l).1 (makeL_ok h.okA l) (makeL_ss h.srtA l).2
theorem few_names : ∀ (N : List ByteArray) (H : List Held), (∀ x ∈ H, x.acct ∈ N) → (∀ s, (ofL H s).length ≤ 8) → H.length ≤ 8 * N.length
 | [], H, h, _ => by
  cases H with
  | nil => exact Nat.zero_le _
  | cons x r => exact absurd (h x (List.mem_cons_self ..)) (by simp)
 | n :: r, H, h, hf => by
  have e : H.length = (ofL H n).length + (H.filter fun x => !decide (x.acct = n)).length := by
   unfold ofL
   induction H with
   | nil => rfl
   | cons x q ih =>
    have ih := ih (fun y hy => h y (List.mem_cons_of_mem _ hy)) (fun s => Nat.le_trans (by rw [ofL_cons]; split <;> simp) (hf s))
    by_cases hx : x.acct = n
    ·rw [List.filter_cons_of_pos (by simpa using hx), List.filter_cons_of_neg (by simpa using hx)]
     simp only [List.length_cons]
     omega
    ·rw [List.filter_cons_of_neg (by simpa using hx), List.filter_cons_of_pos (by simpa using hx)]
     simp only [List.length_cons]
     omega
  have h2 := few_names r (H.filter fun x => !decide (x.acct = n)) (fun x hx => by
   obtain ⟨hx, hn⟩ := List.mem_filter.1 hx
   rcases List.mem_cons.1 (h x hx) with e | hr
   ·simp [e] at hn
   ·exact hr) (fun s => Nat.le_trans ((List.Sublist.filter _ List.filter_sublist).length_le) (hf s))
  have h1 := hf n
  simp only [List.length_cons]
  omega
/-- what a book keeps -/
structure InvB (B : Bk) : Prop where
 inv : InvH B.L B.H
 len : B.L.length ≤ 12
 cl : 0 ≤ B.cl ∧ B.cl ≤ 1000
theorem InvB.lenH {B : Bk} (h : InvB B) : B.H.length ≤ 96 := by
 have := few_names (B.L.map Ac.name) B.H (fun x hx => by
  obtain ⟨a, ha, e⟩ := h.inv.at_ x hx
  exact List.mem_map.2 ⟨a, ha, e⟩) h.inv.few
 rw [List.length_map] at this
 have := h.len
 omega
theorem inv_bk0 : InvB bk0 where
 inv := ⟨by simp [bk0, OkA], List.Pairwise.nil, by simp [bk0, OkH], List.Pairwise.nil, by simp [bk0], fun s => by show ([] : List Held).length ≤ 8; decide, by simp [bk0]⟩
 len := by decide
 cl := by decide
/-- an order as a book takes it: its texts are short, its numbers of 64 bits -/
structure OdB (x : Od) : Prop where
 acct : x.acct.size ≤ maxLen
 peer : x.peer.size ≤ maxLen
 rng : InR x
theorem takeH_lenA (L : List Ac) (H : List Held) (hs : SrtL ltA L) (k : ByteArray) (n : Int) (p : ByteArray) (s : Int) : (takeH L H k n p s).2.1.length = L.length := by
 unfold takeH
 cases getK Held.key H ⟨k, n⟩ with
 | none => rfl
 | some y =>
  dsimp only
  split
  ·rfl
  ·split
   ·rfl
   ·split
    ·rfl
    ·have h1 := freeHL_lenA L H k n
     have hs1 : SrtL ltA (freeHL L H k n).2.1 := by
      unfold freeHL
      cases getK Held.key H ⟨k, n⟩ with
      | none => exact hs
      | some y => exact turnL_srt hs _ _
     rw [(makeL_ss hs1 (legs2 k p s)).1.len, h1]
theorem putH_lenA (L : List Ac) (H : List Held) (x : Held) : (putH L H x).2.1.length = L.length := by
 unfold putH
 split
 ·rfl
 ·split
  ·rfl
  ·split
   ·rfl
   ·exact turnL_len _ _ _ _
theorem openL_len {L : List Ac} (k : ByteArray) (lim : Int) (h : L.length ≤ 12) : (openL L k lim).2.length ≤ 12 := by
 rcases openL_cases L k lim with ⟨_, e⟩ | ⟨_, _, _, _, hn, e⟩
 ·rw [e]; exact h
 ·rw [e, (insB_perm _ _).length_eq, List.length_cons]; omega
theorem InvB.do_ {B : Bk} (h : InvB B) {x : Od} (hx : OdB x) : InvB (doL B x).2 := by
 obtain ⟨r1, r2, r3, r4, r5, r6, r7⟩ := hx.rng
 unfold doL
 by_cases hr : rightB x = false
 ·rw [if_pos hr]; exact h
 rw [if_neg hr]
 have hr' : rightB x = true := by simpa using hr
 have hf := rightB_fits hr'
 unfold kindD
 unfold fitsO at hf
 by_cases k1 : x.kind = 1
 ·rw [if_pos k1]
  exact ⟨h.inv.open_ _ r4, openL_len _ _ h.len, h.cl⟩
 rw [if_neg k1] at hf ⊢
 by_cases k2 : x.kind = 2
 ·rw [if_pos k2]
  unfold postD
  split
  ·exact h
  ·exact ⟨h.inv.make_ _, by show (makeL B.L x.legs).2.length ≤ 12; rw [(makeL_ss h.inv.srtA _).1.len]; exact h.len, h.cl⟩
 rw [if_neg k2] at hf ⊢
 by_cases k3 : x.kind = 3
 ·rw [if_pos k3]
  exact ⟨h.inv.put _ r4 hx.acct, by show (putH B.L B.H ⟨numO x, x.acct, x.sum⟩).2.1.length ≤ 12; rw [putH_lenA]; exact h.len, h.cl⟩
 rw [if_neg k3] at hf ⊢
 by_cases k4 : x.kind = 4
 ·rw [if_pos k4]
  unfold capD
  split
  ·exact h
  ·exact ⟨h.inv.take _ _ _ _, by show (takeH B.L B.H x.acct x.hold x.peer x.sum).2.1.length ≤ 12; rw [takeH_lenA _ _ h.inv.srtA]; exact h.len, h.cl⟩
 rw [if_neg k4] at hf ⊢
 by_cases k5 : x.kind = 5
 ·rw [if_pos k5]
  exact ⟨h.inv.free _ _, by show (freeHL B.L B.H x.acct x.hold).2.1.length ≤ 12; rw [freeHL_lenA]; exact h.len, h.cl⟩
 rw [if_neg k5] at hf ⊢
 by_cases k6 : x.kind = 6
 ·rw [if_pos k6] at hf ⊢
  unfold shutD
  unfold fits6 periodB at hf
  simp only [Bool.and_eq_true, decide_eq_true_eq] at hf
  split
  ·exact h
  ·exact ⟨h.inv, h.len, by show 0 ≤ x.period ∧ x.period ≤ 1000; omega⟩
 rw [if_neg k6]
 exact h
end Go.Proofs.YtampniiehgimhaaGreat
/- A map with texts as keys, as the kit's sorted keys read it. No program. -/
namespace Go.Proofs.YtampniiehgimhaaGreat
open Go.WideElems (Fit rd rg rd_mk rg_of)
def anyR : Value → Option (DataW Unit × List MemPlace) := fun _ => some (.lit (.bool true), [])
def bytesOf : Value → List UInt8
 | .string s => s.data.toList
 | _ => []
theorem ownsMap_of {P : Program} {k : TypeId} (hk : P.underlying k = some .string) {w : World} {b : Nat} {M : List (ByteArray × Value)} (h : MapIs Value.string w b M) (hn : M.length ≤ maxLen) (hs : ∀ p ∈ M, p.1.size ≤ maxLen) :
  ∃ D0 : DataW Unit, w.ownsMap P k anyR b M.length D0 ∧ (strKeys D0).Perm (M.map fun p => p.1.data.toList) ∧ Maps.size D0 = M.length := by
 obtain ⟨es, clock, hb, he, hpw, hcl, hnd⟩ := h
 have hlen : es.size = M.length := by have := congrArg List.length he; simpa using this
 have hkey : ∀ x ∈ es.toList, ∃ p ∈ M, x.key = .string p.1 := fun x hx => by
  have : (x.key, x.val) ∈ M.map (fun p => (Value.string p.1, p.2)) := by rw [← he]; exact List.mem_map.2 ⟨x, hx, rfl⟩
  obtain ⟨p, hp, e⟩ := List.mem_map.1 this
  injection e with e1 e2
  exact ⟨p, hp, e1.symm⟩
 have hrd : ∀ x ∈ es.toList, rd P k anyR x = some (.string (bytesOf x.key), .lit (.bool true)) := fun x hx => by
  obtain ⟨p, hp, e⟩ := hkey x hx
  have h1 : keyOf P k x.key = some (.string p.1.data.toList) := by rw [e]; exact WideMaps.keyOf_string_mk hk (hs p hp)
  have := rd_mk (R := anyR) (val := x.val) (born := x.born) h1 rfl
  rw [e]
  exact this
 have hkeys : (es.toList.map (·.key)) = M.map (fun p => Value.string p.1) := by
  have := congrArg (List.map Prod.fst) he
  simpa [List.map_map, Function.comp_def] using this
 refine ⟨_, ⟨es, clock, hb, ⟨by omega, ⟨hcl, ?_, ?_⟩, fun x hx => ⟨_, hrd x hx⟩⟩, by omega, rfl⟩, ?_, ?_⟩
 ·exact List.pairwise_map.2 (hpw.imp fun h => Nat.ne_of_lt h)
 ·rw [hkeys]
  exact List.pairwise_map.2 (hnd.imp fun h e => h (by injection e))
 ·show ((List.foldr DataW.insert [] (es.toList.map (rg P k anyR))).map fun p => strOf p.1).Perm _
  refine ((WideShapes.sorted_perm _).map _).trans (List.Perm.of_eq ?_)
  rw [List.map_map]
  have h1 : es.toList.map ((fun p : Lit × DataW Unit => strOf p.1) ∘ rg P k anyR) = es.toList.map (fun x => bytesOf x.key) := List.map_congr_left fun x hx => by
   simp only [Function.comp_def, rg_of (hrd x hx)]
   rfl
  rw [h1]
  have := congrArg (List.map bytesOf) hkeys
  rw [List.map_map, List.map_map] at this
  exact this
 ·show (List.foldr DataW.insert [] (es.toList.map (rg P k anyR))).length = _
  rw [(WideShapes.sorted_perm _).length_eq, List.length_map, Array.length_toList, hlen]
theorem bl_lt : ∀ {a b : List UInt8}, Op.bytesLess a b = true → a < b
 | _, [], h => by simp [Op.bytesLess] at h
 | [], _ :: _, _ => List.nil_lt_cons _ _
 | x :: r, y :: s, h => by
  simp only [Op.bytesLess, Bool.or_eq_true, decide_eq_true_eq, Bool.and_eq_true, beq_iff_eq] at h
  rcases h with h | ⟨rfl, h⟩
  ·exact List.cons_lt_cons_iff.2 (.inl h)
  ·exact List.cons_lt_cons_iff.2 (.inr ⟨rfl, bl_lt h⟩)
theorem bless_le {a b : ByteArray} (h : bless a b = true) : a.data.toList ≤ b.data.toList := by
 unfold bless at h
 rw [ByteArray.toList_eq, ByteArray.toList_eq] at h
 exact List.le_of_lt (bl_lt h)
/-- what the kit's sort hands back, where the keys are known in order -/
theorem sorted_keys {ss : List (List UInt8)} {N : List ByteArray} (hp : ss.Perm (N.map fun a => a.data.toList)) (hs : N.Pairwise fun a b => bless a b = true) : (ss.mergeSort (fun x y => decide (x ≤ y))).map _root_.Go.Proofs.encStr = N.map Value.string := by
 have e : ss.mergeSort (fun x y => decide (x ≤ y)) = N.map fun a => a.data.toList := by
  have tr : ∀ a b c : List UInt8, leB a b = true → leB b c = true → leB a c = true := fun a b c h1 h2 => by simp only [leB, decide_eq_true_eq] at *; exact List.le_trans h1 h2
  have to : ∀ a b : List UInt8, (leB a b || leB b a) = true := fun a b => by simp only [leB, Bool.or_eq_true, decide_eq_true_eq]; exact List.le_total a b
  refine List.Perm.eq_of_pairwise (le := fun a b => leB a b = true) (fun a b _ _ h1 h2 => ?_) (List.pairwise_mergeSort tr to ss) ?_ ((List.mergeSort_perm ss leB).trans hp)
  ·simp only [leB, decide_eq_true_eq] at h1 h2
   exact List.le_antisymm h1 h2
  ·rw [List.pairwise_map]
   exact hs.imp fun h => decide_eq_true (bless_le h)
 rw [e, List.map_map]
 refine List.map_congr_left fun a _ => ?_
 obtain ⟨⟨x⟩⟩ := a
 rfl
end Go.Proofs.YtampniiehgimhaaGreat
/- chart.All -/
namespace Go.Proofs.YtampniiehgimhaaGreat
open Go.RowKit
theorem acInfo_ : (Tryz.prog.info? 140).map (fun i => (i.zero, i.size, i.bytes)) = some (some (.agg #[.string ByteArray.empty, i64 0, i64 0, i64 0]), Enc.size Ac, 40) := by kernel_rfl
theorem keysA_c (mb : Option Nat) (W : World) : Calls Tryz.prog 136 #[.map mb] W fun e w' => e = .returned (.func (.func 182) #[] #[.pointer (some ⟨W.heap.size, 0, none⟩)]) ∧ w' = W.alloc (.cells #[.map mb] 189) :=
  (callsIn_wide (n := 5)).1 (AnyZ.keys_in Tryz.keysA Fence.wide 5 trivial rfl mb W)
theorem sortsA (m : Nat) : AnyZ.SortsIn Tryz.prog Tryz.sortedA_ren Fence.wide m :=
  ⟨fun blk off cap ss W hH hblk hsz => callsIn_wide.2 (Tryz.slices_Sort_string blk off cap ss W hH hblk hsz),
   fun p cap W => callsIn_wide.2 (Tryz.slices_Sort_string_none p cap W)⟩
theorem RkA.names {M : List (ByteArray × Ac)} {L : List Ac} (h : RkA M L) : (M.map (·.1)).Perm (L.map Ac.name) := by
  have h1 := h.perm.map Ac.name
  rw [List.map_map] at h1
  refine (List.Perm.of_eq (List.map_congr_left fun p hp => ?_)).trans h1
  exact (h.key p hp).symm
theorem srt_names {L : List Ac} (h : SrtL ltA L) : (L.map Ac.name).Pairwise fun a b => bless a b = true := List.pairwise_map.2 h
theorem nameB_sz {s : ByteArray} (h : nameB s = true) : s.size ≤ 8 := by
  unfold nameB at h
  simp only [Bool.and_eq_true, decide_eq_true_eq] at h
  exact h.2.2
theorem flat1 (N : List ByteArray) : N.flatMap Enc.cells = N.map Value.string := by
  induction N with
  | nil => rfl
  | cons a r ih => rw [List.flatMap_cons, ih]; rfl
theorem OkA.sizes {L : List Ac} (h : OkA L) : ∀ a ∈ L, a.name.size ≤ 8 := fun a ha => nameB_sz (h a ha).2.2
set_option maxRecDepth 100000 in
set_option maxHeartbeats 2000000 in
theorem sortedA_c (b : Nat) (M : List (ByteArray × Ac)) (L : List Ac) (W : World) (h : MapIs Value.string W b (mv M)) (hr : RkA M L) (hok : OkA L) (hn : L.length ≤ 65536) :
    Calls Tryz.prog 88 #[.func (.func 182) #[] #[.pointer (some ⟨W.heap.size, 0, none⟩)]] (W.alloc (.cells #[.map (some b)] 189)) fun e w' =>
      ∃ v, e = .returned v ∧ Own w' (W.heap.size + 1) 9 v (L.map Ac.name) ∧ Below (W.heap.size + 1) (W.alloc (.cells #[.map (some b)] 189)) w' := by
  have hML : (mv M).length = L.length := by unfold mv; rw [List.length_map]; exact hr.len
  have hsz : ∀ p ∈ mv M, p.1.size ≤ 8 := fun p hp => by
    obtain ⟨q, hq, rfl⟩ := List.mem_map.1 hp
    have h1 : q.1 ∈ L.map Ac.name := hr.names.mem_iff.1 (List.mem_map.2 ⟨q, hq, rfl⟩)
    obtain ⟨a, ha, e⟩ := List.mem_map.1 h1
    have := hok.sizes a ha
    show q.1.size ≤ 8
    rw [← e]; exact this
  obtain ⟨D0, hown, hk, hz⟩ := ownsMap_of (P := Tryz.prog) (k := 9) Tryz.underlying9 h (by rw [hML]; unfold maxLen; omega) (fun p hp => by have := hsz p hp; unfold maxLen; omega)
  refine (callsIn_wide (n := 5)).1 ?_
  have hbl := hown.lt
  have hseq : SeqGives Fence.wide 2 Tryz.prog 182 #[.pointer (some ⟨W.heap.size, 0, none⟩)] _root_.Go.Proofs.encStr (fun ss => ss.Perm (strKeys D0)) (Maps.size D0) (W.alloc (.cells #[.map (some b)] 189)) :=
    AnyZ.keys_gives (ρ := Tryz.keysA_ren) { Tryz.keysA with } Fence.wide _ trivial rfl (by omega) W.heap.size b (mv M).length D0 _ (by simp) (by simp) (by
      obtain ⟨es, clock, hb, Ft, hs, hD⟩ := hown
      exact ⟨es, clock, (Below.heap_alloc _ _ b hbl).trans hb, Ft, hs, hD⟩)
  have cS := AnyZ.sorted_in Tryz.sortedA Fence.wide 5 trivial trivial trivial trivial rfl (by omega) (sortsA _) (enters_of Tryz.func121 (by kernel_rfl) rfl) 182 #[.pointer (some ⟨W.heap.size, 0, none⟩)] trivial (enters_of Tryz.func182 (by kernel_rfl) rfl) _ _ (by rw [hz, hML]; unfold maxLen; omega) (by rw [hz, hML]; omega) _ hseq
  change CallsIn _ _ Tryz.prog 88 _ _ _ at cS
  refine cS.mono ?_
  rintro e w' ⟨v, ss, rfl, hS, hrow, hnil, hb⟩
  have hp : ss.Perm ((L.map Ac.name).map fun a => a.data.toList) := by
    refine (hS.trans hk).trans ?_
    have := hr.names.map (fun a : ByteArray => a.data.toList)
    refine List.Perm.trans (List.Perm.of_eq ?_) this
    unfold mv
    rw [List.map_map, List.map_map]
    rfl
  have hlen : ss.length = (L.map Ac.name).length := by rw [hp.length_eq, List.length_map]
  rw [sorted_keys hp (srt_names hr.srt), hlen] at hrow
  refine ⟨v, rfl, ⟨?_, fun x hx => ?_⟩, by simpa using hb⟩
  · rw [flat1]
    have hs : (W.alloc (.cells #[.map (some b)] 189)).heap.size = W.heap.size + 1 := by simp
    rw [hs] at hrow
    exact hrow
  · obtain ⟨a, ha, rfl⟩ := List.mem_map.1 hx
    have := hok.sizes a ha
    show a.name.size ≤ maxLen
    unfold maxLen; omega
set_option maxRecDepth 100000 in
set_option maxHeartbeats 4000000 in
theorem challA_c (g b : Nat) (L : List Ac) (w : World) (h : ChA w g b L) (hok : OkA L) (hn : L.length ≤ 65536) :
    Calls Tryz.prog 98 #[.pointer (some ⟨g, 0, none⟩)] w fun e w' => ∃ v, e = .returned v ∧ Own w' w.heap.size 140 v L ∧ Below w.heap.size w w' := by
  have hsrt := h.srt
  obtain ⟨M, h, hr⟩ := h
  have hlg := h.lt.1
  have Hr := Lib.hid hr
  have Hok := Lib.hid hok
  have c0 := cell_of_row _ g 0 _ _ (0, 0) h.cell
  simp only [List.getElem?_toArray, List.getElem?_cons_zero] at c0
  have Hch := Lib.hid h
  have Hsr := Lib.hid hsrt
  have hK := Lib.hid fun W => keysA_c (some b) W
  have hS := Lib.hid (sortedA_c b M L w h.map hr hok hn)
  clear h hr hok hsrt
  go_enter Tryz.func98, Tryz.ntmps98
  go_wp2_with fail
  refine (hK.out _).mono ?_
  rintro e w1 ⟨rfl, rfl⟩
  go_wp2_with fail
  refine hS.out.mono ?_
  rintro e w2 ⟨kv, rfl, hkv, hF⟩
  have hB2 : Below w.heap.size w w2 := ((Below.refl _ w).alloc (Nat.le_refl _) _).trans (hF.mono (Nat.le_succ _))
  have Hkv := Lib.hid hkv
  clear hK hS hF hkv
  have hkl : (L.map Ac.name).length = L.length := List.length_map ..
  obtain ⟨A, c, rfl⟩ : ∃ A c, kv = .slice A L.length c := by
    obtain ⟨-, hrw⟩ := Hkv.out.1
    rw [hkl] at hrw
    rcases hrw with ⟨e, e0⟩ | ⟨gb, cap, _, e, _⟩
    · exact ⟨none, 0, by rw [e, e0]⟩
    · exact ⟨_, _, e⟩
  have hsz2 := hB2.size
  go_wp2_with fail
  go_loopw [3, 15] (fun v i wr => ∃ n : Nat, i = i64 n ∧ n ≤ L.length ∧ Own wr w2.heap.size 140 v (L.take n) ∧ Below w2.heap.size w2 wr) (fun _ i _ => L.length - (intOf i).toNat)
  case atStart => exact ⟨0, rfl, Nat.zero_le _, Own.nil_ _ _ _, Below.refl _ _⟩
  case round =>
    obtain ⟨n, rfl, hnl, hO, hB⟩ := hrel
    by_cases hlt : n < L.length
    · obtain ⟨gb, cap, cur, hkv1, hgb, hrow, -⟩ := Hkv.out.form (by rw [hkl]; omega)
      injection hkv1 with eA eL eC
      subst eA eC
      clear eL
      have hkn : n < (L.map Ac.name).length := by rw [hkl]; exact hlt
      have hK2 := Hkv.out.later hB
      have hat : wr.cell? ⟨gb, n, none⟩ = some (.string (L[n]).name) := by
        have := hK2.at_ hkn 0 (.string (L[n]).name) (by simp only [List.getElem_map]; rfl)
        rw [show Enc.size ByteArray = 1 from rfl, Nat.mul_one, Nat.add_zero] at this
        exact this
      have hBw := hB2.trans (hB.mono hB2.size)
      have hm := (Hch.out.later hBw).map
      have hlk := run_lookup (P := Tryz.prog) strKey Tryz.underlying189 hm (L[n]).name (ac0.v) (by kernel_rfl) false
      rw [getM_mv, Hr.out.get_ _, getK_of keyA Hsr.out (List.getElem_mem hlt)] at hlk
      have c1 := (hBw.cell (p := ⟨g, 0, none⟩) hlg).trans c0
      unfold ac0 at hlk
      obtain ⟨a, ha⟩ : ∃ a, L[n] = a := ⟨_, rfl⟩
      rw [ha] at hat hlk
      have hal : a.name.size ≤ maxLen := by have := Hok.out.sizes _ (List.getElem_mem hlt); rw [ha] at this; unfold maxLen; omega
      have HO2 := Lib.hid (hO.later ((Below.refl _ _).alloc (Nat.le_refl _) (.cells #[.string a.name, i64 a.hav, i64 a.set_, i64 a.lim] 140)))
      have Hne := Lib.hid (hO.new_ne (Nat.le_refl wr.heap.size))
      have HH := Lib.hid (heap_alloc_new wr (.cells #[.string a.name, i64 a.hav, i64 a.set_, i64 a.lim] 140))
      have HB2 := Lib.hid (hB.alloc hB.size (.cells #[.string a.name, i64 a.hav, i64 a.set_, i64 a.lim] 140))
      have Hal := Lib.hid hal
      have Htk := Lib.hid (show L.take n ++ [a] = L.take (n + 1) by rw [← ha]; exact (List.take_succ_eq_append_getElem hlt).symm)
      have Hln := Lib.hid (show (L.take n).length + 1 ≤ 65536 by rw [List.length_take]; omega)
      have g1 : decide ((n : Int) < (L.length : Int)) = true := decide_eq_true (by omega)
      have g2 : decide (n < L.length) = true := decide_eq_true hlt
      have hm1 : (n : Int) + 1 ≤ 65536 := by omega
      clear ha
      clear hK2 hm hBw hB hkl hkn hn hnl hO hal
      simp only [Bool.false_eq_true, if_false, Option.map_some, Option.getD_some] at hlk
      go_wp2_with (at_builtin; refine wpList_append_one rfl (some 27) (.tmp 19) (.tmp 26) 109 rfl rfl (.agg #[.string ByteArray.empty, i64 0, i64 0, i64 0]) 40 Tryz.underlying109 acInfo_ rfl (by decide) (by decide) rfl HO2.out wr.heap.size a rfl _ 140 HH.out rfl Hne.out Hal.out (by have := Hln.out; omega) HB2.out.size ?_; intro v3 w3 hO3 hg3 hat3)
      rw [Htk.out] at hO3
      have hB3 := HB2.out.trans (HO2.out.below hg3 (Nat.le_refl _) HB2.out.size)
      clear hg3 hat3 HO2 HB2
      go_roundw
      case rel => exact ⟨n + 1, by go_num, by omega, hO3, hB3⟩
      case measure => simp [intOf]; omega
    · have g1 : decide ((n : Int) < (L.length : Int)) = false := decide_eq_false (by omega)
      have g2 : decide (n < L.length) = false := decide_eq_false hlt
      go_wp2
      go_ret
      rw [List.take_of_length_le (by omega)] at hO
      exact ⟨_, rfl, hO.mono hsz2, hB2.trans (hB.mono hB2.size)⟩
end Go.Proofs.YtampniiehgimhaaGreat
/- A region that draws its order: what it keeps may grow on the way. No program. -/
namespace Go.Proofs.YtampniiehgimhaaGreat
open Go.RowKit
section
variable {P : Program} {ops : Array Oper} {Q : Exit → Act → World → Prop} {md : Region.Mode} {S S' : World → Prop} {d : Nat}
end
end Go.Proofs.YtampniiehgimhaaGreat
/- book: the ledger in memory -/
namespace Go.Proofs.YtampniiehgimhaaGreat
open Go.RowKit
/-- where a book lies: itself, its chart and that's map, its holds and that's map -/
structure BA where
 p : Nat
 g : Nat
 b : Nat
 gh : Nat
 bh : Nat
abbrev BA.ptr (a : BA) : Value := .pointer (some ⟨a.p, 0, none⟩)
def BA.own (a : BA) (k : Nat) : Prop := k = a.p ∨ k = a.b ∨ k = a.bh
def BA.maps (a : BA) (k : Nat) : Prop := k = a.b ∨ k = a.bh
def BA.all (a : BA) (k : Nat) : Prop := k = a.p ∨ k = a.g ∨ k = a.b ∨ k = a.gh ∨ k = a.bh
structure BA.Apart (a : BA) : Prop where
 pg : a.p ≠ a.g
 pb : a.p ≠ a.b
 pgh : a.p ≠ a.gh
 pbh : a.p ≠ a.bh
 ghb : a.gh ≠ a.b
 bhb : a.bh ≠ a.b
 gbh : a.g ≠ a.bh
structure BkA (w : World) (a : BA) (B : Bk) : Prop where
 cell : w.heap[a.p]? = some (.cells #[.pointer (some ⟨a.g, 0, none⟩), .pointer (some ⟨a.gh, 0, none⟩), i64 B.cl] 118 (0, 0))
 ch : ChA w a.g a.b B.L
 ho : HoA w a.gh a.bh B.H
 ap : a.Apart
theorem BkA.lt {w : World} {a : BA} {B : Bk} (h : BkA w a B) : ∀ k, a.all k → k < w.heap.size := by
 intro k hk
 rcases hk with rfl | rfl | rfl | rfl | rfl
 ·exact (Array.getElem?_eq_some_iff.1 h.cell).1
 ·exact h.ch.lt.1
 ·exact h.ch.lt.2.1
 ·exact h.ho.lt.1
 ·exact h.ho.lt.2.1
theorem BkA.kept {w w' : World} {a : BA} {B : Bk} {S : Nat → Prop} (h : BkA w a B) (hk : Gr w w' S) (hS : ∀ k, a.all k → ¬ S k) : BkA w' a B :=
 ⟨(hk.block a.p (h.lt _ (.inl rfl)) (hS _ (.inl rfl))).trans h.cell, h.ch.kept hk (hS _ (.inr (.inl rfl))) (hS _ (.inr (.inr (.inl rfl)))), h.ho.kept hk (hS _ (.inr (.inr (.inr (.inl rfl))))) (hS _ (.inr (.inr (.inr (.inr rfl))))), h.ap⟩
theorem BkA.later {w w' : World} {a : BA} {B : Bk} (h : BkA w a B) (hb : Below w.heap.size w w') : BkA w' a B := h.kept (Gr.of_below hb (fun _ => False)) (fun _ _ => id)
theorem BkA.chart {w w' : World} {a : BA} {B : Bk} {L : List Ac} (h : BkA w a B) (hc : ChA w' a.g a.b L) (hg : w.grownBy w' (some a.b)) : BkA w' a ⟨L, B.H, B.cl⟩ ∧ Gr w w' a.maps :=
 ⟨⟨(hg.block a.p (h.lt _ (.inl rfl)) (fun e => h.ap.pb (by injection e))).trans h.cell, hc, h.ho.kept (Gr.of_grown hg) (fun e => h.ap.ghb (by injection e with e; exact e.symm)) (fun e => h.ap.bhb (by injection e with e; exact e.symm)), h.ap⟩,
  (Gr.of_grown hg).mono fun k _ e => .inl (by injection e with e; exact e.symm)⟩
theorem BkA.both {w w' : World} {a : BA} {B : Bk} {L : List Ac} {H : List Held} (h : BkA w a B) (hc : ChA w' a.g a.b L) (hh : HoA w' a.gh a.bh H) (hg : G2 w w' a.b a.bh) : BkA w' a ⟨L, H, B.cl⟩ ∧ Gr w w' a.maps :=
 ⟨⟨((Gr.of_g2 hg).block a.p (h.lt _ (.inl rfl)) (fun e => e.elim h.ap.pb h.ap.pbh)).trans h.cell, hc, hh, h.ap⟩, Gr.of_g2 hg⟩
theorem BA.maps_own {a : BA} {k : Nat} (h : a.maps k) : a.own k := .inr h
theorem gr_setRow (w : World) (g : Nat) (cs : Array Value) : Gr w (w.setRow g cs) (fun k => k = g) := ⟨rfl, rfl, rfl, by simp, fun k _ hn => setRow_other w g k cs hn⟩
theorem Gr.own_row {w u : World} {S : Nat → Prop} (h : Gr w u S) {g : Nat} (hg : w.heap.size ≤ g) (cs : Array Value) : Gr w (u.setRow g cs) S := h.trans (gr_setRow u g cs) (fun k e => .inr (by rw [e]; exact hg))
theorem Gr.after {w u v : World} {S : Nat → Prop} (h : Gr w u S) (k : Gr u v S) : Gr w v S := h.trans k (fun _ e => .inl e)
theorem Gr.more {w u v : World} {S : Nat → Prop} (h : Gr w u S) (k : Below u.heap.size u v) : Gr w v S := h.after (Gr.of_below k S)
theorem BkA.row {w : World} {a : BA} {B : Bk} (h : BkA w a B) {g : Nat} (hg : ∀ k, a.all k → k ≠ g) (cs : Array Value) : BkA (w.setRow g cs) a B := h.kept (gr_setRow w g cs) hg
/-- an order, and room for a reply, laid behind a book -/
theorem not_maps {a : BA} {w : World} (hl : ∀ k, a.all k → k < w.heap.size) {k : Nat} (hk : w.heap.size ≤ k) : ¬ a.maps k := fun e => by
 rcases e with e | e
 ·have := hl a.b (.inr (.inr (.inl rfl))); omega
 ·have := hl a.bh (.inr (.inr (.inr (.inr rfl)))); omega
theorem not_all {a : BA} {w : World} (hl : ∀ k, a.all k → k < w.heap.size) {g : Nat} (hg : w.heap.size ≤ g) : ∀ k, a.all k → k ≠ g := fun k hk e => by have := hl k hk; omega
theorem BA.Apart.p_maps {a : BA} (h : a.Apart) : ¬ a.maps a.p := fun e => e.elim h.pb h.pbh
/-- an order as a book takes it: its legs lie apart from the book -/
def OdIn (w : World) (a : BA) (x : Od) : Prop := Od.Ok w (fun k => k < w.heap.size ∧ ¬ a.all k) x ∧ x.legs.length ≤ 65536
set_option maxRecDepth 100000 in
set_option maxHeartbeats 8000000 in
theorem btells_c (a : BA) (B : Bk) (x : Od) (er : Int) (w : World) (h : BkA w a B) :
  Calls Tryz.prog 162 #[a.ptr, x.v, i64 er] w fun e w' => e = .returned (tellsL B.L x.acct er).v ∧ Below w.heap.size w w' := by
 obtain ⟨R, hR⟩ : ∃ R, tellsL B.L x.acct er = R := ⟨_, rfl⟩
 rw [hR]
 unfold tellsL at hR
 have HR := Lib.hid hR.symm
 clear hR
 by_cases he : er = 0
 ·have g1 : (er != 0) = false := by rw [he]; rfl
  have HR1 := Lib.hid (show R = _ from HR.out.trans (if_neg (fun e => e he)))
  have HG := Lib.hid (fun (W : World) (hW : BkA W a B) => getA_c a.g a.b B.L x.acct W hW.ch)
  generalize getLR B.L x.acct = gl at *
  obtain ⟨ac, ge⟩ := gl
  dsimp only at *
  clear HR he
  have hb0 : Below w.heap.size w ((w.alloc (.cells #[i64 x.client, i64 x.seq, i64 x.kind, .string x.acct, .string x.peer, i64 x.sum, .slice x.la x.legs.length x.lc, i64 x.period, i64 x.hold, .string x.note] 37)).alloc (.cells #[i64 0, i64 0, i64 0, i64 0] 31)) := ((Below.refl w.heap.size w).alloc (Nat.le_refl _) (.cells #[i64 x.client, i64 x.seq, i64 x.kind, .string x.acct, .string x.peer, i64 x.sum, .slice x.la x.legs.length x.lc, i64 x.period, i64 x.hold, .string x.note] 37)).alloc (by simp) (.cells #[i64 0, i64 0, i64 0, i64 0] 31)
  have ho0 := heap_alloc2_old w (.cells #[i64 x.client, i64 x.seq, i64 x.kind, .string x.acct, .string x.peer, i64 x.sum, .slice x.la x.legs.length x.lc, i64 x.period, i64 x.hold, .string x.note] 37) (.cells #[i64 0, i64 0, i64 0, i64 0] 31)
  have hr0 := heap_alloc2_new w (.cells #[i64 x.client, i64 x.seq, i64 x.kind, .string x.acct, .string x.peer, i64 x.sum, .slice x.la x.legs.length x.lc, i64 x.period, i64 x.hold, .string x.note] 37) (.cells #[i64 0, i64 0, i64 0, i64 0] 31)
  have hlt0 : w.heap.size < ((w.alloc (.cells #[i64 x.client, i64 x.seq, i64 x.kind, .string x.acct, .string x.peer, i64 x.sum, .slice x.la x.legs.length x.lc, i64 x.period, i64 x.hold, .string x.note] 37)).alloc (.cells #[i64 0, i64 0, i64 0, i64 0] 31)).heap.size ∧ w.heap.size + 1 < ((w.alloc (.cells #[i64 x.client, i64 x.seq, i64 x.kind, .string x.acct, .string x.peer, i64 x.sum, .slice x.la x.legs.length x.lc, i64 x.period, i64 x.hold, .string x.note] 37)).alloc (.cells #[i64 0, i64 0, i64 0, i64 0] 31)).heap.size := ⟨by simp; omega, by simp⟩
  have Hlt := Lib.hid h.lt
  have Hap := Lib.hid h.ap
  have H0 := h.later hb0
  unfold Od.v
  go_enter Tryz.func162, Tryz.ntmps162
  go_wp2_with fail
  generalize ((w.alloc (.cells #[i64 x.client, i64 x.seq, i64 x.kind, .string x.acct, .string x.peer, i64 x.sum, .slice x.la x.legs.length x.lc, i64 x.period, i64 x.hold, .string x.note] 37)).alloc (.cells #[i64 0, i64 0, i64 0, i64 0] 31)) = W0 at *
  generalize hrb : w.heap.size + 1 = rb at *
  have Hrb := Lib.hid (show w.heap.size ≤ rb by omega)
  clear hrb
  have Hna := Lib.hid (not_all Hlt.out Hrb.out)
  have Hnm := Lib.hid (not_maps Hlt.out Hrb.out)
  have hp0 := H0.cell
  have HSS := Lib.hid (show ∀ V, Gr W0 V a.maps → (fun V : World => V.cell? ⟨a.p, 0, none⟩ = some (.pointer (some ⟨a.g, 0, none⟩)) ∧ V.cell? ⟨a.p, 1, none⟩ = some (.pointer (some ⟨a.gh, 0, none⟩)) ∧ V.cell? ⟨a.p, 2, none⟩ = some (i64 B.cl) ∧ V.cell? ⟨w.heap.size, 0, none⟩ = some (i64 x.client) ∧ V.cell? ⟨w.heap.size, 1, none⟩ = some (i64 x.seq) ∧ V.cell? ⟨w.heap.size, 2, none⟩ = some (i64 x.kind) ∧ V.cell? ⟨w.heap.size, 3, none⟩ = some (.string x.acct) ∧ V.cell? ⟨w.heap.size, 4, none⟩ = some (.string x.peer) ∧ V.cell? ⟨w.heap.size, 5, none⟩ = some (i64 x.sum) ∧ V.cell? ⟨w.heap.size, 6, none⟩ = some (.slice x.la x.legs.length x.lc) ∧ V.cell? ⟨w.heap.size, 7, none⟩ = some (i64 x.period) ∧ V.cell? ⟨w.heap.size, 8, none⟩ = some (i64 x.hold) ∧ V.cell? ⟨w.heap.size, 9, none⟩ = some (.string x.note)) V from fun V hG => by
   have hp1 := (hG.block a.p (Array.getElem?_eq_some_iff.1 hp0).1 Hap.out.p_maps).trans hp0
   have ho1 := (hG.block w.heap.size hlt0.1 (not_maps Hlt.out (Nat.le_refl _))).trans ho0
   exact ⟨cell_of_row _ a.p 0 _ _ (0, 0) hp1, cell_of_row _ a.p 1 _ _ (0, 0) hp1, cell_of_row _ a.p 2 _ _ (0, 0) hp1, cell_of_row _ w.heap.size 0 _ _ (0, 0) ho1, cell_of_row _ w.heap.size 1 _ _ (0, 0) ho1, cell_of_row _ w.heap.size 2 _ _ (0, 0) ho1, cell_of_row _ w.heap.size 3 _ _ (0, 0) ho1, cell_of_row _ w.heap.size 4 _ _ (0, 0) ho1, cell_of_row _ w.heap.size 5 _ _ (0, 0) ho1, cell_of_row _ w.heap.size 6 _ _ (0, 0) ho1, cell_of_row _ w.heap.size 7 _ _ (0, 0) ho1, cell_of_row _ w.heap.size 8 _ _ (0, 0) ho1, cell_of_row _ w.heap.size 9 _ _ (0, 0) ho1⟩)
  have HR0 := Lib.hid hr0
  have HO0 := Lib.hid ho0
  have HB0 := Lib.hid H0
  have Hb0 := Lib.hid hb0
  have hG0 := Gr.of_below ((Below.refl W0.heap.size W0).drew) a.maps
  clear hp0 ho0 hr0 H0 hb0 h
  refine wp_region_noPanic ?_
  refine wp_region_l 12 (fun V : World => V.cell? ⟨a.p, 0, none⟩ = some (.pointer (some ⟨a.g, 0, none⟩)) ∧ V.cell? ⟨a.p, 1, none⟩ = some (.pointer (some ⟨a.gh, 0, none⟩)) ∧ V.cell? ⟨a.p, 2, none⟩ = some (i64 B.cl) ∧ V.cell? ⟨w.heap.size, 0, none⟩ = some (i64 x.client) ∧ V.cell? ⟨w.heap.size, 1, none⟩ = some (i64 x.seq) ∧ V.cell? ⟨w.heap.size, 2, none⟩ = some (i64 x.kind) ∧ V.cell? ⟨w.heap.size, 3, none⟩ = some (.string x.acct) ∧ V.cell? ⟨w.heap.size, 4, none⟩ = some (.string x.peer) ∧ V.cell? ⟨w.heap.size, 5, none⟩ = some (i64 x.sum) ∧ V.cell? ⟨w.heap.size, 6, none⟩ = some (.slice x.la x.legs.length x.lc) ∧ V.cell? ⟨w.heap.size, 7, none⟩ = some (i64 x.period) ∧ V.cell? ⟨w.heap.size, 8, none⟩ = some (i64 x.hold) ∧ V.cell? ⟨w.heap.size, 9, none⟩ = some (.string x.note)) (by kernel_rfl) (HSS.out _ hG0) (fun hH => ?_)
  refine tkZ 0 ?_; refine tkZ 1 ?_; refine tkZ 2 ?_; refine tkZ 3 ?_; refine tkZ 4 ?_; refine tkZ 5 ?_
  refine wpAnyL_ready (rs := [6, 10]) (by kernel_rfl) (by simp) ?_
  refine AllReadyL.cons rfl (fun K hK => ?_) ?_
  ·skip
   have hb := (Below.refl W0.heap.size W0).drew
   go_simp
   refine (HG.out _ (HB0.out.later hb)).mono ?_
   rintro e W1 ⟨rfl, hF⟩
   have hb := hb.trans (hF.mono hb.size)
   clear hF
   refine hK.out _ _ (HSS.out _ (Gr.of_below hb _)) (fun hH => ?_)
   clear hK K
   try simp only [Act.put, uA, uZ, uS, vA, vZ, vS]
   refine tkZ 7 ?_; refine tkZ 8 ?_; refine tkZ 9 ?_
   refine tkO 10 (fun K hK => ?_)
   go_simp
   obtain ⟨ab, hab, hal⟩ : ∃ ab, ab = W1.heap.size ∧ (W1.alloc (.cells #[.string ⟨#[]⟩, i64 0, i64 0, i64 0] 140)).heap[ab]? = some (.cells #[.string ⟨#[]⟩, i64 0, i64 0, i64 0] 140) := ⟨_, rfl, heap_alloc_new W1 _⟩
   have Hab := Lib.hid hab
   have hgb := hb.size
   have Hge := Lib.hid (show W0.heap.size ≤ ab by omega)
   clear hab
   have hb := hb.alloc hb.size (.cells #[.string ⟨#[]⟩, i64 0, i64 0, i64 0] 140)
   refine hK.out _ _ (HSS.out _ (Gr.of_below hb _)) (fun hH => ?_)
   clear hK K
   try simp only [Act.put, uA, uZ, uS, vA, vZ, vS]
   refine tkO 11 (fun K hK => ?_)
   refine wp_store_row 140 (.tmp 7) (.tmp 20) rfl ab #[.string ac.name, i64 ac.hav, i64 ac.set_, i64 ac.lim] (by rw [Hab.out] <;> rfl) rfl 140 #[.string ⟨#[]⟩, i64 0, i64 0, i64 0] hal (by kernel_rfl) rfl (by simp [Value.oneCell']) ?_
   have hal2 := setRow_heap _ ab _ #[.string ac.name, i64 ac.hav, i64 ac.set_, i64 ac.lim] _ _ hal
   have hb := below_setRow hb Hge.out #[.string ac.name, i64 ac.hav, i64 ac.set_, i64 ac.lim]
   refine hK.out _ _ (HSS.out _ (Gr.of_below hb _)) (fun hH => ?_)
   clear hK K
   try simp only [Act.put, uA, uZ, uS]
   refine tkL (fun K hK => ?_)
   go_simp
   refine hK.out _ _ ?_
   clear hK K
   try simp only [Act.put, uA, uZ, uS, vA, vZ, vS]
   refine tkD ?_
   generalize ((W1.alloc (.cells #[.string ⟨#[]⟩, i64 0, i64 0, i64 0] 140))).setRow ab #[.string ac.name, i64 ac.hav, i64 ac.set_, i64 ac.lim] = W3 at *
   have hb3 := Hb0.out.trans (hb.mono Hb0.out.size)
   have hr3 := (hb.block rb hlt0.2).trans HR0.out
   have n1 := cell_of_row _ ab 1 _ _ (0, 0) hal2
   have n2 := cell_of_row _ ab 2 _ _ (0, 0) hal2
   simp only [List.getElem?_toArray, List.getElem?_cons_zero, List.getElem?_cons_succ] at n1 n2
   have Hr3 := Lib.hid hr3
   clear hb hal hal2 hr3
   by_cases hg : ge = 0
   ·have g2 : (ge != 0) = false := by rw [hg]; rfl
    have HR2 := Lib.hid (show R = ⟨0, ac.hav, ac.set_, 0⟩ from HR1.out.trans (if_neg (fun e => e hg)))
    have HRow := Lib.hid (setRow_heap W3 rb _ #[i64 0, i64 ac.hav, i64 ac.set_, i64 0] _ _ Hr3.out)
    have HBel := Lib.hid (below_setRow hb3 Hrb.out #[i64 0, i64 ac.hav, i64 ac.set_, i64 0])
    have hab2 := Hab.out
    subst hab2
    clear HR1 hg
    go_wp2_with (refine wpList_store_row rfl 31 (.tmp 6) (.tmp 30) rfl rb #[i64 0, i64 ac.hav, i64 ac.set_, i64 0] rfl rfl 31 #[i64 0, i64 0, i64 0, i64 0] Hr3.out (by kernel_rfl) rfl (by simp [Value.oneCell']) ?_)
    exact bodyPost_ret (results_cell_row rfl _ _ rb 31 _ (0, 0) _ rfl HRow.out Tryz.underlying31 rfl (by kernel_rfl)) rfl ⟨by rw [HR2.out] <;> rfl, HBel.out⟩
   ·have g2 : (ge != 0) = true := by simpa using hg
    have HR2 := Lib.hid (show R = rpE ge from HR1.out.trans (if_pos hg))
    have HRow := Lib.hid (setRow_heap W3 rb _ #[i64 ge, i64 0, i64 0, i64 0] _ _ Hr3.out)
    have HBel := Lib.hid (below_setRow hb3 Hrb.out #[i64 ge, i64 0, i64 0, i64 0])
    clear HR1 hg
    go_wp2_with (refine wpList_store_row rfl 31 (.tmp 6) (.tmp 25) rfl rb #[i64 ge, i64 0, i64 0, i64 0] rfl rfl 31 #[i64 0, i64 0, i64 0, i64 0] Hr3.out (by kernel_rfl) rfl (by simp [Value.oneCell']) ?_)
    exact bodyPost_ret (results_cell_row rfl _ _ rb 31 _ (0, 0) _ rfl HRow.out Tryz.underlying31 rfl (by kernel_rfl)) rfl ⟨by rw [HR2.out] <;> rfl, HBel.out⟩
  refine AllReadyL.cons rfl (fun K hK => ?_) ?_
  ·skip
   have hb := (Below.refl W0.heap.size W0).drew
   go_simp
   obtain ⟨ab, hab, hal⟩ : ∃ ab, ab = W0.heap.size ∧ (W0.drew.alloc (.cells #[.string ⟨#[]⟩, i64 0, i64 0, i64 0] 140)).heap[ab]? = some (.cells #[.string ⟨#[]⟩, i64 0, i64 0, i64 0] 140) := ⟨_, rfl, heap_alloc_new W0.drew _⟩
   have Hab := Lib.hid hab
   have Hge := Lib.hid (show W0.heap.size ≤ ab by omega)
   clear hab
   have hb := hb.alloc hb.size (.cells #[.string ⟨#[]⟩, i64 0, i64 0, i64 0] 140)
   refine hK.out _ _ (HSS.out _ (Gr.of_below hb _)) (fun hH => ?_)
   clear hK K
   try simp only [Act.put, uA, uZ, uS, vA, vZ, vS]
   refine tkO 6 (fun K hK => ?_)
   go_simp
   refine (HG.out _ (HB0.out.later hb)).mono ?_
   rintro e W1 ⟨rfl, hF⟩
   have hal := (hF.block ab (Array.getElem?_eq_some_iff.1 hal).1).trans hal
   have hb := hb.trans (hF.mono hb.size)
   clear hF
   refine hK.out _ _ (HSS.out _ (Gr.of_below hb _)) (fun hH => ?_)
   clear hK K
   try simp only [Act.put, uA, uZ, uS, vA, vZ, vS]
   refine tkZ 7 ?_; refine tkZ 8 ?_; refine tkZ 9 ?_
   refine tkO 11 (fun K hK => ?_)
   refine wp_store_row 140 (.tmp 7) (.tmp 20) rfl ab #[.string ac.name, i64 ac.hav, i64 ac.set_, i64 ac.lim] (by rw [Hab.out] <;> rfl) rfl 140 #[.string ⟨#[]⟩, i64 0, i64 0, i64 0] hal (by kernel_rfl) rfl (by simp [Value.oneCell']) ?_
   have hal2 := setRow_heap _ ab _ #[.string ac.name, i64 ac.hav, i64 ac.set_, i64 ac.lim] _ _ hal
   have hb := below_setRow hb Hge.out #[.string ac.name, i64 ac.hav, i64 ac.set_, i64 ac.lim]
   refine hK.out _ _ (HSS.out _ (Gr.of_below hb _)) (fun hH => ?_)
   clear hK K
   try simp only [Act.put, uA, uZ, uS]
   refine tkL (fun K hK => ?_)
   go_simp
   refine hK.out _ _ ?_
   clear hK K
   try simp only [Act.put, uA, uZ, uS, vA, vZ, vS]
   refine tkD ?_
   generalize (W1).setRow ab #[.string ac.name, i64 ac.hav, i64 ac.set_, i64 ac.lim] = W3 at *
   have hb3 := Hb0.out.trans (hb.mono Hb0.out.size)
   have hr3 := (hb.block rb hlt0.2).trans HR0.out
   have n1 := cell_of_row _ ab 1 _ _ (0, 0) hal2
   have n2 := cell_of_row _ ab 2 _ _ (0, 0) hal2
   simp only [List.getElem?_toArray, List.getElem?_cons_zero, List.getElem?_cons_succ] at n1 n2
   have Hr3 := Lib.hid hr3
   clear hb hal hal2 hr3
   by_cases hg : ge = 0
   ·have g2 : (ge != 0) = false := by rw [hg]; rfl
    have HR2 := Lib.hid (show R = ⟨0, ac.hav, ac.set_, 0⟩ from HR1.out.trans (if_neg (fun e => e hg)))
    have HRow := Lib.hid (setRow_heap W3 rb _ #[i64 0, i64 ac.hav, i64 ac.set_, i64 0] _ _ Hr3.out)
    have HBel := Lib.hid (below_setRow hb3 Hrb.out #[i64 0, i64 ac.hav, i64 ac.set_, i64 0])
    have hab2 := Hab.out
    subst hab2
    clear HR1 hg
    go_wp2_with (refine wpList_store_row rfl 31 (.tmp 6) (.tmp 30) rfl rb #[i64 0, i64 ac.hav, i64 ac.set_, i64 0] rfl rfl 31 #[i64 0, i64 0, i64 0, i64 0] Hr3.out (by kernel_rfl) rfl (by simp [Value.oneCell']) ?_)
    exact bodyPost_ret (results_cell_row rfl _ _ rb 31 _ (0, 0) _ rfl HRow.out Tryz.underlying31 rfl (by kernel_rfl)) rfl ⟨by rw [HR2.out] <;> rfl, HBel.out⟩
   ·have g2 : (ge != 0) = true := by simpa using hg
    have HR2 := Lib.hid (show R = rpE ge from HR1.out.trans (if_pos hg))
    have HRow := Lib.hid (setRow_heap W3 rb _ #[i64 ge, i64 0, i64 0, i64 0] _ _ Hr3.out)
    have HBel := Lib.hid (below_setRow hb3 Hrb.out #[i64 ge, i64 0, i64 0, i64 0])
    clear HR1 hg
    go_wp2_with (refine wpList_store_row rfl 31 (.tmp 6) (.tmp 25) rfl rb #[i64 ge, i64 0, i64 0, i64 0] rfl rfl 31 #[i64 0, i64 0, i64 0, i64 0] Hr3.out (by kernel_rfl) rfl (by simp [Value.oneCell']) ?_)
    exact bodyPost_ret (results_cell_row rfl _ _ rb 31 _ (0, 0) _ rfl HRow.out Tryz.underlying31 rfl (by kernel_rfl)) rfl ⟨by rw [HR2.out] <;> rfl, HBel.out⟩
  exact AllReadyL.nil
 ·have g1 : (er != 0) = true := by simpa using he
  have HR1 := Lib.hid (show R = rpE er from HR.out.trans (if_pos he))
  clear HR he h
  have hb := ((Below.refl w.heap.size w).alloc (Nat.le_refl _) (.cells #[i64 x.client, i64 x.seq, i64 x.kind, .string x.acct, .string x.peer, i64 x.sum, .slice x.la x.legs.length x.lc, i64 x.period, i64 x.hold, .string x.note] 37)).alloc (by simp) (.cells #[i64 er, i64 0, i64 0, i64 0] 31)
  unfold Od.v
  go_enter Tryz.func162, Tryz.ntmps162
  go_wp2
  exact bodyPost_ret (results_cell_row rfl _ _ (w.heap.size + 1) 31 _ (0, 0) _ rfl (heap_alloc2_new w _ _) Tryz.underlying31 rfl (by kernel_rfl)) rfl ⟨by rw [HR1.out]; rfl, hb⟩
end Go.Proofs.YtampniiehgimhaaGreat
/- book: plain laws -/
namespace Go.Proofs.YtampniiehgimhaaGreat
open Go.RowKit
theorem put_cases {L : List Ac} {H : List Held} (_h : InvH L H) {y : Held} (hp : (putH L H y).1 = 0) : ∃ a : Ac, getK Ac.name L y.acct = some a ∧ 1 ≤ y.num ∧ y.num ≤ 9999 ∧ 1 ≤ y.sum ∧ freeA a y.sum = true ∧ R64 (a.set_ + y.sum) ∧
  putH L H y = (0, setK Ac.name L { a with set_ := a.set_ + y.sum }, insB ltH y H) ∧ getK Held.key H y.key = none := by
 unfold putH at hp
 by_cases h1 : y.num < 1 ∨ 9999 < y.num ∨ y.sum < 1
 ·rw [if_pos h1] at hp; cases hp
 rw [if_neg h1] at hp
 by_cases h2 : (getK Held.key H y.key).isSome = true
 ·rw [if_pos h2] at hp; cases hp
 rw [if_neg h2] at hp
 by_cases h3 : (ofL H y.acct).length = 8
 ·rw [if_pos h3] at hp; cases hp
 rw [if_neg h3] at hp
 have hP : putH L H y = (0, (turnL (asiD y.sum) L y.acct y.sum).2, insB ltH y H) := by
  unfold putH
  rw [if_neg h1, if_neg h2, if_neg h3]
  dsimp only at hp ⊢
  rw [if_pos hp, hp]
 rcases turnL_cases (asiD y.sum) L y.acct y.sum with ⟨e0, _⟩ | ⟨e0, a, ha, hz, hge, hfr, e⟩
 ·exact absurd hp e0
 have hrs : R64 (a.set_ + y.sum) := by have := sumR_R64 (a.set_ + y.sum); rwa [sumR_0 hz] at this
 exact ⟨a, ha, by omega, by omega, by omega, hfr (by omega), hrs, by rw [hP, e, asiD_0 hz], by simpa using h2⟩
theorem freeHL_srt {L : List Ac} (H : List Held) (hs : SrtL ltA L) (k : ByteArray) (n : Int) : SrtL ltA (freeHL L H k n).2.1 := by
 unfold freeHL
 cases getK Held.key H ⟨k, n⟩ with
 | none => exact hs
 | some y => exact turnL_srt hs _ _
end Go.Proofs.YtampniiehgimhaaGreat
