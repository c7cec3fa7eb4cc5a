/- Texts of this claim, laid together. -/
import Derived.Below
import Derived.Laws.OwnMore
import Derived.Deep.AppendLies
import Derived.Deep.Draws
import Derived.Laws.Rows
import Derived.Maps.AppendAt
import Derived.RegionTactic
import Derived.OwnWalk
import Derived.Lib.Hide
import Derived.Test.YtampniiehgimhaaGreatRows
import Derived.WalkKit
import Derived.WalkSpells
import Derived.WalkLawsBesides
import Derived.Deep.QuietTactic
import Derived.BigQuiet
import Derived.Laws.StructEq
import Derived.Deep.DeepFit
import Derived.Laws.CopyRow
import Derived.Lib.SliceRun
import Derived.Laws.IdiomCopy
import Derived.StillTailTactics
import Derived.Lib.AppendZeros
import Derived.Deep.RegionHeld3
import Derived.Lib.Zigzag
import Derived.Lib.VarintMem
import Derived.Lib.ConvBytes
import Derived.Test.YtampniiehgimhaaGreatShelf
import Derived.Laws.Runes
import Derived.Laws.RangeAny
import Derived.Lib.OthersKept
import Derived.WalkMore
import Derived.Maps.RangeRun
import Derived.Maps.RangeWalk
import Derived.ChangeMaps4
import Derived.Laws.ResultCell
import Derived.Deep.Cut
import Derived.Deep.RegionWith
import Derived.Shelf.Abstract
import Derived.Shelf.SlSortCmp.WholeK
import Derived.Shelf.SlSortCmp.NoneTotal
import Derived.Shelf.SlMaps.Clone
import Derived.Test.YtampniiehgimhaaGreatShelfS
import Derived.Shelf.Spec.BitsCarry
import Derived.Laws.EntriesVeiled
import Derived.Maps.Own
import Derived.Sort.KeysCollected
import Derived.Laws.Tables
import Derived.Laws.CopyOwn
import Derived.Deep.Slices
import Derived.ProofKit
import Derived.OpenShut
import Derived.ChangeOld
import Derived.ShutString
import Derived.Deep.CutBlock
import Derived.Test.YtampniiehgimhaaGreatProg
import Derived.JoinedOf
import Derived.Test.YtampniiehgimhaaGreatBs1
import Derived.Test.YtampniiehgimhaaGreatBs13
import Derived.Test.YtampniiehgimhaaGreatBs23
import Derived.Test.YtampniiehgimhaaGreatBs3
import Derived.Test.YtampniiehgimhaaGreatBs2
import Derived.Test.YtampniiehgimhaaGreatBs6
import Derived.Test.YtampniiehgimhaaGreatBs24
import Derived.Test.YtampniiehgimhaaGreatBs4
import Derived.Test.YtampniiehgimhaaGreatBs5
import Derived.Test.YtampniiehgimhaaGreatBs7
import Derived.Test.YtampniiehgimhaaGreatBs8
import Derived.Test.YtampniiehgimhaaGreatBs9
import Derived.Test.YtampniiehgimhaaGreatBs29
import Derived.Test.YtampniiehgimhaaGreatBs10
import Derived.Test.YtampniiehgimhaaGreatBs11
import Derived.Test.YtampniiehgimhaaGreatBs12
import Derived.Test.YtampniiehgimhaaGreatBs14
import Derived.Test.YtampniiehgimhaaGreatBs15
import Derived.Test.YtampniiehgimhaaGreatBs16
import Derived.Test.YtampniiehgimhaaGreatBs17
import Derived.Test.YtampniiehgimhaaGreatBs18
import Derived.Test.YtampniiehgimhaaGreatBs19
import Derived.Test.YtampniiehgimhaaGreatBsRf09
import Derived.Test.YtampniiehgimhaaGreatBs20

/- Memory words: values that carry what they read as; a slice that reads as a list of data; a row of the call's own. No program. -/
namespace Go.Proofs.YtampniiehgimhaaGreat
open Go.RowKit
section
variable {α : Type} [Enc α] {w w' : World} {S S' : Nat → Prop} {B B' c : Nat} {A : Option Addr} {l : List α}
end
section
variable {α : Type} [Enc α] {w w' : World} {base : Nat} {e : TypeId} {v : Value} {l : List α}
end
end Go.Proofs.YtampniiehgimhaaGreat
/- The data of the program as Lean has them. No program. -/
namespace Go.Proofs.YtampniiehgimhaaGreat
open Go.RowKit
end Go.Proofs.YtampniiehgimhaaGreat
/- ref10.At. -/
namespace Go.Proofs.YtampniiehgimhaaGreat
open Go.RowKit
end Go.Proofs.YtampniiehgimhaaGreat
/- A row of the call's own that is written in place: a store of an element, a clear of its end. No program. -/
namespace Go.Proofs.YtampniiehgimhaaGreat
open Go.RowKit
section
variable {α : Type} [Enc α] {w w' : World} {base : Nat} {e : TypeId} {v : Value} {l : List α}
theorem setCells_row (g : Nat) (t : TypeId) : ∀ (vs : List Value) (o : Nat) (cur : Array Value) (w : World), w.heap[g]? = some (.cells cur t (0, 0)) → o + vs.length ≤ cur.size →
  w.setCells g o vs = w.setRow g (cur.toList.take o ++ vs ++ cur.toList.drop (o + vs.length)).toArray
 | [], o, cur, w, hg, _ => by
  simp only [World.setCells, List.append_nil, List.length_nil, Nat.add_zero, List.take_append_drop, Array.toArray_toList]
  rw [setRow_self w g cur t (0, 0) hg]
 | v :: r, o, cur, w, hg, hl => by
  simp only [List.length_cons] at hl
  have ho : o < cur.size := by omega
  rw [World.setCells, setCell_eq_setRow w g o cur t (0, 0) v hg, setCells_row g t r (o + 1) (cur.setIfInBounds o v) _ (setRow_heap w g cur _ t _ hg) (by simp; omega), setRow_setRow]
  congr 2
  have e := list_seg_step cur.toList o v r (by simp; omega)
  simpa [Array.toList_setIfInBounds] using e
end
end Go.Proofs.YtampniiehgimhaaGreat
/- append onto a row of the call's own: one datum, or a slice of data. No program. -/
namespace Go.Proofs.YtampniiehgimhaaGreat
open Go.RowKit
section
variable {α : Type} [Enc α] {P : Program} {w : World} {base : Nat} {e : TypeId} {v : Value} {l : List α}
end
end Go.Proofs.YtampniiehgimhaaGreat
/- coins.Add, Less -/
namespace Go.Proofs.YtampniiehgimhaaGreat
open Go.RowKit
end Go.Proofs.YtampniiehgimhaaGreat
/- append of a slice behind a guard that is met -/
namespace Go.Proofs.YtampniiehgimhaaGreat
open Go.RowKit
section
variable {α : Type} [Enc α] {w : World} {base : Nat} {e : TypeId} {v : Value} {l : List α} {P : Program}
end
end Go.Proofs.YtampniiehgimhaaGreat
/- Slices of slices as data; a new row with room. No program. -/
namespace Go.Proofs.YtampniiehgimhaaGreat
open Go.RowKit
theorem SlS.sv {α : Type} [Enc α] {w : World} {S : Nat → Prop} {c : Nat} {A : Option Addr} {l : List (SV α)} (h : SlS w S A c l) {k : Nat} (hk : k < l.length) : ∃ b o, A = some ⟨b, o, none⟩ ∧ S b ∧ SlS w S l[k].a l[k].c l[k].l ∧
  w.cell? ⟨b, o + k, none⟩ = some (.slice l[k].a l[k].l.length l[k].c) := by
 obtain ⟨b, o, hA, hb, hok, hc⟩ := h.at_ hk
 have h0 := hc 0 _ rfl
 rw [show k * Enc.size (SV α) + 0 = k from Nat.mul_one k] at h0
 exact ⟨b, o, hA, hb, hok, h0⟩
section
variable {α : Type} [Enc α]
theorem own_room (w : World) (base : Nat) (e : TypeId) (cap : Nat) (cs : Array Value) (hb : base ≤ w.heap.size) (hm : cap ≤ maxLen) (hcs : cs.size = cap * Enc.size α) : Own (w.alloc (.cells cs e)) base e (.slice (some ⟨w.heap.size, 0, none⟩) 0 cap) ([] : List α) :=
 ⟨⟨by simp, .inr ⟨w.heap.size, cap, cs, rfl, hb, heap_alloc_new w _, Nat.zero_le _, hm, hcs, by simp⟩⟩, by simp⟩
end
end Go.Proofs.YtampniiehgimhaaGreat
/- ref06.Same -/
namespace Go.Proofs.YtampniiehgimhaaGreat
open Go.RowKit
end Go.Proofs.YtampniiehgimhaaGreat
/- calls, as one operation of a drawn region -/
namespace Go.Proofs.YtampniiehgimhaaGreat
open Go.RowKit
end Go.Proofs.YtampniiehgimhaaGreat
/- ref05.Ahead -/
namespace Go.Proofs.YtampniiehgimhaaGreat
open Go.RowKit
end Go.Proofs.YtampniiehgimhaaGreat
/- ref01: sums in two halves -/
namespace Go.Proofs.YtampniiehgimhaaGreat
open Go.RowKit
end Go.Proofs.YtampniiehgimhaaGreat
/- ref01.Add -/
namespace Go.Proofs.YtampniiehgimhaaGreat
open Go.RowKit
end Go.Proofs.YtampniiehgimhaaGreat
/- two blocks turned -/
namespace Go.Proofs.YtampniiehgimhaaGreat
open Go.RowKit
end Go.Proofs.YtampniiehgimhaaGreat
/- Clone, Grow, Concat at uint8 -/
namespace Go.Proofs.YtampniiehgimhaaGreat
open Go.RowKit
end Go.Proofs.YtampniiehgimhaaGreat
/- pack.fold, Num; order.num -/
namespace Go.Proofs.YtampniiehgimhaaGreat
open Go.RowKit
end Go.Proofs.YtampniiehgimhaaGreat
/- pack.Text -/
namespace Go.Proofs.YtampniiehgimhaaGreat
open Go.RowKit
end Go.Proofs.YtampniiehgimhaaGreat
/- order.Bytes -/
namespace Go.Proofs.YtampniiehgimhaaGreat
open Go.RowKit
end Go.Proofs.YtampniiehgimhaaGreat
/- few and own, in lists. No program. -/
namespace Go.Proofs.YtampniiehgimhaaGreat
open Go.RowKit
def fewL (n : Nat) (l : List Od) : List Od := (l.take n).map cut8
theorem fewL_len {l : List Od} {k : Nat} (h : k < l.length) : (fewL k l).length = k := by
 unfold fewL
 rw [List.length_map, List.length_take]; omega
theorem fewL_succ {l : List Od} {k : Nat} (h : k < l.length) : fewL (k + 1) l = fewL k l ++ [cut8 l[k]] := by
 unfold fewL
 rw [List.take_succ_eq_append_getElem h, List.map_append]; rfl
theorem fewL_legs (n : Nat) (l : List Od) : ∀ x ∈ fewL n l, x.legs.length ≤ 8 := by
 intro x hx
 obtain ⟨y, _, rfl⟩ := List.mem_map.1 hx
 show (y.legs.take 8).length ≤ 8
 rw [List.length_take]; omega
theorem fewL_le (n : Nat) (l : List Od) : (fewL n l).length ≤ n := by
 unfold fewL
 rw [List.length_map, List.length_take]; omega
end Go.Proofs.YtampniiehgimhaaGreat
/- Slices of strings: Index, Contains, IndexFunc, ContainsFunc. -/
namespace Go.Proofs.YtampniiehgimhaaGreat
open Go.RowKit
end Go.Proofs.YtampniiehgimhaaGreat
/- slices.Sort at strings, of twelve or fewer -/
namespace Go.Proofs.YtampniiehgimhaaGreat
open Go.RowKit
end Go.Proofs.YtampniiehgimhaaGreat
/- slices.Sort, Compact at strings -/
namespace Go.Proofs.YtampniiehgimhaaGreat
open Go.RowKit
end Go.Proofs.YtampniiehgimhaaGreat
/- slices.DeleteFunc at strings -/
namespace Go.Proofs.YtampniiehgimhaaGreat
open Go.RowKit
end Go.Proofs.YtampniiehgimhaaGreat
/- slices.Compact at strings -/
namespace Go.Proofs.YtampniiehgimhaaGreat
open Go.RowKit
end Go.Proofs.YtampniiehgimhaaGreat
/- order.Touches -/
namespace Go.Proofs.YtampniiehgimhaaGreat
open Go.RowKit
end Go.Proofs.YtampniiehgimhaaGreat
/- clash.Clash -/
namespace Go.Proofs.YtampniiehgimhaaGreat
open Go.RowKit
end Go.Proofs.YtampniiehgimhaaGreat
/- Keys of maps: Ids -/
namespace Go.Proofs.YtampniiehgimhaaGreat
open Go.RowKit
end Go.Proofs.YtampniiehgimhaaGreat
/- clash.places, clash.Right -/
namespace Go.Proofs.YtampniiehgimhaaGreat
open Go.RowKit
section
variable {κ ν μ : Type} [DecidableEq κ]
end
end Go.Proofs.YtampniiehgimhaaGreat
/- clash.Begins, clash.Alike -/
namespace Go.Proofs.YtampniiehgimhaaGreat
open Go.RowKit
end Go.Proofs.YtampniiehgimhaaGreat
/- IndexFunc, ContainsFunc, DeleteFunc at api.Order -/
namespace Go.Proofs.YtampniiehgimhaaGreat
open Go.RowKit
end Go.Proofs.YtampniiehgimhaaGreat
/- Clone, Grow, Concat at api.Order -/
namespace Go.Proofs.YtampniiehgimhaaGreat
open Go.RowKit
theorem inf_od : (Tryz.prog.info? 37).map (fun i => (i.zero, i.size, i.bytes)) = some (some (.agg #[i64 0, i64 0, i64 0, .string ByteArray.empty, .string ByteArray.empty, i64 0, .slice none 0 0, i64 0, i64 0, .string ByteArray.empty]), Enc.size Od, 120) := by kernel_rfl
end Go.Proofs.YtampniiehgimhaaGreat
/- clash.others, Rest, Meet, Swap -/
namespace Go.Proofs.YtampniiehgimhaaGreat
open Go.RowKit
end Go.Proofs.YtampniiehgimhaaGreat
/- ref10.Same -/
namespace Go.Proofs.YtampniiehgimhaaGreat
open Go.RowKit
end Go.Proofs.YtampniiehgimhaaGreat
/- clash.Swap -/
namespace Go.Proofs.YtampniiehgimhaaGreat
open Go.RowKit
end Go.Proofs.YtampniiehgimhaaGreat
/- slices.Equal at legs, order.Same -/
namespace Go.Proofs.YtampniiehgimhaaGreat
open Go.RowKit
end Go.Proofs.YtampniiehgimhaaGreat
/- voucher: post, all, Check, Make -/
namespace Go.Proofs.YtampniiehgimhaaGreat
open Go.RowKit
end Go.Proofs.YtampniiehgimhaaGreat
/- hold: Take -/
namespace Go.Proofs.YtampniiehgimhaaGreat
open Go.RowKit
end Go.Proofs.YtampniiehgimhaaGreat
/- chart: what a turn may be -/
namespace Go.Proofs.YtampniiehgimhaaGreat
open Go.RowKit
end Go.Proofs.YtampniiehgimhaaGreat
/- law08: what holds and accounts keep -/
namespace Go.Proofs.YtampniiehgimhaaGreat
open Go.RowKit
/-- behind a check that found nothing, legs are posted -/
theorem make_of_check {L : List Ac} {l : List Leg} (h : checkL L l = 0) : makeL L l = allL L l ∧ (makeL L l).1 = 0 := by
 have h1 : makeL L l = allL L l := by unfold makeL; rw [if_neg (by rw [h]; simp)]
 refine ⟨h1, ?_⟩
 rw [h1]
 unfold checkL at h
 split at h
 ·cases h
 ·split at h
  ·cases h
  ·exact h
end Go.Proofs.YtampniiehgimhaaGreat
/- accounts and holds: what is turned back -/
namespace Go.Proofs.YtampniiehgimhaaGreat
open Go.RowKit
section
variable {α κ : Type} [DecidableEq κ] {lt : α → α → Bool} {kf : α → κ}
end
end Go.Proofs.YtampniiehgimhaaGreat
/- book: orders that do not clash may change places (plain) -/
namespace Go.Proofs.YtampniiehgimhaaGreat
open Go.RowKit
theorem legsB_names {l : List Leg} (h : legsB l = true) : ∀ x ∈ l, nameB x.acct = true := fun x hx => by
 unfold legsB at h
 simp only [Bool.and_eq_true, List.all_eq_true] at h
 have := h.1.2 x hx
 unfold legB at this
 simp only [Bool.and_eq_true] at this
 exact this.1
theorem rightB_kinds {x : Od} (h : rightB x = true) : (x.kind = 2 → legsB x.legs = true) ∧ (x.kind ≠ 2 → x.kind ≠ 6 → nameB x.acct = true) ∧ (x.kind = 4 → nameB x.peer = true) := by
 have hf := rightB_fits h
 unfold fitsO at hf
 refine ⟨fun k => ?_, fun k2 k6 => ?_, fun k => ?_⟩
 ·rw [if_neg (by omega), if_pos k] at hf
  unfold fits2 at hf
  simp only [Bool.and_eq_true] at hf
  exact hf.1.1
 ·by_cases k1 : x.kind = 1
  ·rw [if_pos k1] at hf
   unfold fits1 at hf
   simp only [Bool.and_eq_true] at hf
   exact hf.1
  rw [if_neg k1, if_neg k2] at hf
  by_cases k3 : x.kind = 3
  ·rw [if_pos k3] at hf
   unfold fits3 at hf
   simp only [Bool.and_eq_true] at hf
   exact hf.1
  rw [if_neg k3] at hf
  by_cases k4 : x.kind = 4
  ·rw [if_pos k4] at hf
   unfold fits4 at hf
   simp only [Bool.and_eq_true] at hf
   exact hf.1.1.1.1.1
  rw [if_neg k4] at hf
  by_cases k5 : x.kind = 5
  ·rw [if_pos k5] at hf
   unfold fits5 at hf
   simp only [Bool.and_eq_true] at hf
   exact hf.1
  rw [if_neg k5, if_neg k6] at hf
  exact hf
 ·rw [if_neg (by omega), if_neg (by omega), if_neg (by omega), if_pos k] at hf
  unfold fits4 at hf
  simp only [Bool.and_eq_true] at hf
  exact hf.1.1.1.1.2
section
variable {α κ : Type} [DecidableEq κ] {lt : α → α → Bool} {kf : α → κ}
end
/-- accounts of some names are the same -/
def AgA (T : ByteArray → Prop) (L L' : List Ac) : Prop := ∀ k, T k → getK Ac.name L k = getK Ac.name L' k
section
variable {T : ByteArray → Prop} {L L' : List Ac} {H H' : List Held}
theorem AgA.sub {U : ByteArray → Prop} (h : AgA T L L') (hU : ∀ k, U k → T k) : AgA U L L' := fun k hk => h k (hU k hk)
end
/-- orders, each with what it is told -/
def toldZ (B : Bk) (l : List Od) : List (Od × Rp) := l.zip (toldL B l)
theorem toldZ_cons (B : Bk) (x : Od) (l : List Od) : toldZ B (x :: l) = (x, (doL B x).1) :: toldZ (doL B x).2 l := rfl
theorem toldZ_get {B : Bk} {l : List Od} {k : Nat} (hk : k < l.length) : (l[k], (toldL B l)[k]'(by rw [toldL_len]; exact hk)) ∈ toldZ B l := by
 unfold toldZ
 have : k < (l.zip (toldL B l)).length := by rw [List.length_zip, toldL_len]; omega
 have h := List.getElem_mem this
 rw [List.getElem_zip] at h
 exact h
end Go.Proofs.YtampniiehgimhaaGreat
/- rows and maps under a frame of many blocks -/
namespace Go.Proofs.YtampniiehgimhaaGreat
open Go.RowKit
theorem Own.sl_at {α : Type} [Enc α] {w : World} {base : Nat} {e : TypeId} {v : Value} {l : List α} {S : Nat → Prop} (h : Own w base e v l) (hb : ∀ b, v.ownBlock = some b → S b) (hx : ∀ x ∈ l, Enc.ok w S x) : ∃ A c, v = .slice A l.length c ∧ SlS w S A c l := by
 obtain ⟨⟨h1, h2⟩, h3⟩ := h
 rcases h2 with ⟨rfl, h0⟩ | ⟨g, cap, cur, rfl, hg, hh, hn, hm, hz, ht⟩
 ·have : l = [] := List.length_eq_zero_iff.1 h0
  subst this
  exact ⟨none, 0, rfl, SlS.nil_ _ _⟩
 ·refine ⟨_, _, rfl, hn, hm, fun _ => ⟨g, 0, rfl, hb g rfl, fun j u hu => ?_⟩, hx⟩
  rw [cell_of_row w g (0 + j) cur e (0, 0) hh, Nat.zero_add]
  rw [← ht, List.getElem?_take] at hu
  split at hu
  ·rw [← hu]; simp
  ·cases hu
theorem MapIs.gr {κ : Type} [DecidableEq κ] {enc : κ → Value} {w w' : World} {b : Nat} {M : List (κ × Value)} {S : Nat → Prop} (h : MapIs enc w b M) (hg : Gr w w' S) (hb : ¬ S b) : MapIs enc w' b M := by
 have hl := h.lt
 obtain ⟨es, cl, h1, h2, h3, h4, h5⟩ := h
 exact ⟨es, cl, by rw [hg.block b hl hb]; exact h1, h2, h3, h4, h5⟩
/-- what reads as cells is no map's block -/
theorem SlS.off_map {α κ : Type} [Enc α] {enc : κ → Value} {w : World} {S : Nat → Prop} {A : Option Addr} {c b : Nat} {l : List α} {M : List (κ × Value)} (h : SlS w S A c l) (hm : MapIs enc w b M) (hs : 0 < Enc.size α) (hx : ∀ x ∈ l, Enc.ok w (fun k => S k ∧ k ≠ b) x) : SlS w (fun k => S k ∧ k ≠ b) A c l := by
 obtain ⟨h1, h2, h3, _⟩ := h
 refine ⟨h1, h2, fun hn => ?_, hx⟩
 obtain ⟨b1, o, e, hb, hc⟩ := h3 hn
 refine ⟨b1, o, e, ⟨hb, fun e2 => ?_⟩, hc⟩
 have hlen : 0 < (l.flatMap Enc.cells).length := by rw [flat_len]; exact Nat.mul_pos hn hs
 have h0 := hc 0 _ (List.getElem?_eq_getElem hlen)
 obtain ⟨es, cl, hh, _⟩ := hm
 subst e2
 unfold World.cell? at h0
 simp [hh] at h0
end Go.Proofs.YtampniiehgimhaaGreat
/- audit: what orders move (plain) -/
namespace Go.Proofs.YtampniiehgimhaaGreat
open Go.RowKit
/-- an order, and what it is told: did it move something? -/
def mvB (p : Od × Rp) : Bool := decide (p.2.err = 0) && (decide (p.1.kind = 2) || decide (p.1.kind = 4))
def movedZ (Z : List (Od × Rp)) : List Od := (Z.filter mvB).map (·.1)
/-- the orders that moved something -/
abbrev movedL (l : List Od) : List Od := movedZ (toldZ bk0 l)
theorem movedZ_app (Y Z : List (Od × Rp)) : movedZ (Y ++ Z) = movedZ Y ++ movedZ Z := by unfold movedZ; rw [List.filter_append, List.map_append]
theorem toldZ_len (B : Bk) (l : List Od) : (toldZ B l).length = l.length := by unfold toldZ; rw [List.length_zip, toldL_len]; omega
theorem toldZ_take (B : Bk) {l : List Od} {k : Nat} (hk : k < l.length) : (toldZ B l).take (k + 1) = (toldZ B l).take k ++ [(l[k], (toldL B l)[k]'(by rw [toldL_len]; exact hk))] := by
 rw [List.take_succ_eq_append_getElem (by rw [toldZ_len]; exact hk)]
 congr 2
 unfold toldZ
 rw [List.getElem_zip]
theorem toldZ_mem : ∀ (l : List Od) (B : Bk), InvB B → (∀ x ∈ l, OdB x) → ∀ p ∈ toldZ B l, p.1 ∈ l ∧ ∃ C, InvB C ∧ p.2 = (doL C p.1).1
 | [], _, _, _ => fun p hp => by cases hp
 | x :: r, B, hI, hx => fun p hp => by
  rw [toldZ_cons] at hp
  rcases List.mem_cons.1 hp with rfl | hp
  ·exact ⟨List.mem_cons_self .., B, hI, rfl⟩
  ·obtain ⟨h1, h2⟩ := toldZ_mem r _ (hI.do_ (hx x (List.mem_cons_self ..))) (fun y hy => hx y (List.mem_cons_of_mem _ hy)) p hp
   exact ⟨List.mem_cons_of_mem _ h1, h2⟩
theorem do_right {B : Bk} {x : Od} (h : (doL B x).1.err = 0) : rightB x = true := by
 unfold doL at h
 by_cases hr : rightB x = false
 ·rw [if_pos hr] at h; cases h
 ·simpa using hr
/-- an order that moved something -/
structure Mvd (x : Od) : Prop where
 right : rightB x = true
 kind : x.kind = 2 ∨ x.kind = 4
 done : ∃ C, InvB C ∧ (doL C x).1.err = 0
theorem movedL_mem {l : List Od} (hx : ∀ x ∈ l, OdB x) {x : Od} (h : x ∈ movedL l) : x ∈ l ∧ Mvd x := by
 obtain ⟨p, hp, rfl⟩ := List.mem_map.1 h
 obtain ⟨hp, hm⟩ := List.mem_filter.1 hp
 unfold mvB at hm
 simp only [Bool.and_eq_true, Bool.or_eq_true, decide_eq_true_eq] at hm
 obtain ⟨h1, C, hC, h2⟩ := toldZ_mem l bk0 inv_bk0 hx p hp
 rw [h2] at hm
 exact ⟨h1, do_right hm.1, hm.2, C, hC, hm.1⟩
theorem movedL_len (l : List Od) : (movedL l).length ≤ l.length := by
 show (List.map (·.1) (List.filter mvB (toldZ bk0 l))).length ≤ l.length
 rw [List.length_map]
 exact Nat.le_trans (List.length_filter_le _ _) (Nat.le_of_eq (toldZ_len _ _))
/-- what an order moves -/
def mvL (x : Od) : List Leg := if x.kind = 2 then x.legs else legs2 x.acct x.peer x.sum
theorem Mvd.fits {x : Od} (h : Mvd x) : 2 ≤ (mvL x).length ∧ (mvL x).length ≤ 6 ∧ 1 ≤ x.period ∧ x.period ≤ 1000 ∧ (x.kind = 4 → 1 ≤ x.sum) := by
 have hf := rightB_fits h.right
 unfold fitsO at hf
 unfold mvL
 rcases h.kind with k | k
 ·rw [if_neg (by omega), if_pos k] at hf
  unfold fits2 periodB at hf
  simp only [Bool.and_eq_true, decide_eq_true_eq] at hf
  obtain ⟨⟨h1, h2, h3⟩, -⟩ := hf
  unfold legsB at h1
  simp only [Bool.and_eq_true, decide_eq_true_eq] at h1
  rw [if_pos k]
  exact ⟨h1.2.1, h1.2.2, h2, h3, fun e => by omega⟩
 ·rw [if_neg (by omega), if_neg (by omega), if_neg (by omega), if_pos k] at hf
  unfold fits4 periodB at hf
  simp only [Bool.and_eq_true, decide_eq_true_eq] at hf
  obtain ⟨⟨⟨⟨_, _⟩, h1⟩, _⟩, h2, h3⟩ := hf
  rw [if_neg (by omega)]
  exact ⟨Nat.le_refl _, by show 2 ≤ 6; decide, h2, h3, fun _ => by omega⟩
theorem Mvd.sums {x : Od} (h : Mvd x) (hx : OdB x) : ∀ y ∈ mvL x, R64 y.sum := by
 obtain ⟨_, _, _, hs, _, _, hl⟩ := hx.rng
 have h4 := h.fits.2.2.2.2
 unfold mvL
 split
 ·exact hl
 ·rename_i hk
  have h1 := h4 (h.kind.resolve_left hk)
  intro y hy
  unfold legs2 at hy
  unfold R64 at hs ⊢
  rcases List.mem_cons.1 hy with rfl | hy
  ·show _ ≤ -x.sum ∧ -x.sum ≤ _; omega
  ·simp only [List.mem_singleton] at hy; subst hy; show _ ≤ x.sum ∧ x.sum ≤ _; omega
/-- a book's told order weighs 0 -/
theorem Mvd.zero {x : Od} (h : Mvd x) : sumL ((mvL x).map Leg.sum) = 0 := by
 obtain ⟨C, hC, hd⟩ := h.done
 have hr := h.right
 unfold mvL
 rcases h.kind with k | k
 ·rw [if_pos k]
  unfold doL kindD at hd
  rw [if_neg (by rw [hr]; decide), if_neg (by omega), if_pos k] at hd
  unfold postD at hd
  split at hd
  ·cases hd
  ·have hm : (makeL C.L x.legs).1 = 0 := hd
   unfold makeL at hm
   split at hm
   ·rename_i e; exact absurd hm e
   ·rename_i hc
    have hc : checkL C.L x.legs = 0 := by simpa using hc
    unfold checkL at hc
    split at hc
    ·cases hc
    ·split at hc
     ·cases hc
     ·rename_i h2
      have hw : weighB x.legs = true := by simpa using h2
      unfold weighB at hw
      simp only [Bool.and_eq_true, decide_eq_true_eq] at hw
      have h1 := hw.1
      have h2 := hw.2
      unfold sumR at h1 h2
      split at h1
      ·cases h1
      ·rename_i e; rw [if_neg e] at h2; exact h2
 ·rw [if_neg (by omega)]
  show -x.sum + (x.sum + 0) = 0
  omega
/-- what moves of some periods move -/
def legsR (M : List Od) (a b : Int) : List Leg := M.flatMap fun x => if a ≤ x.period ∧ x.period ≤ b then mvL x else []
theorem legsR_sums {l : List Od} (hx : ∀ x ∈ l, OdB x) (a b : Int) : ∀ y ∈ legsR (movedL l) a b, R64 y.sum := fun y hy => by
 obtain ⟨x, hm, hy⟩ := List.mem_flatMap.1 hy
 obtain ⟨h1, h2⟩ := movedL_mem hx hm
 split at hy
 ·exact h2.sums (hx x h1) y hy
 ·cases hy
theorem flat_le {α β : Type} (f : α → List β) (n : Nat) : ∀ l : List α, (∀ x ∈ l, (f x).length ≤ n) → (l.flatMap f).length ≤ l.length * n
 | [], _ => by simp
 | x :: r, h => by
  rw [List.flatMap_cons, List.length_append, List.length_cons, Nat.add_mul]
  have h1 := flat_le f n r fun y hy => h y (List.mem_cons_of_mem _ hy)
  have h2 := h x (List.mem_cons_self ..)
  omega
theorem legsR_len {l : List Od} (hx : ∀ x ∈ l, OdB x) (a b : Int) : (legsR (movedL l) a b).length ≤ 6 * l.length := by
 have h := flat_le (fun x : Od => if a ≤ x.period ∧ x.period ≤ b then mvL x else []) 6 (movedL l) fun x hm => by
  split
  ·exact (movedL_mem hx hm).2.fits.2.1
  ·exact Nat.zero_le _
 have h2 := movedL_len l
 unfold legsR
 omega
/-- the sums of an account above 0, and the others -/
def inK (ls : List Leg) (k : ByteArray) : List Int := (ls.filter fun x => decide (x.acct = k) && decide (0 < x.sum)).map Leg.sum
def outK (ls : List Leg) (k : ByteArray) : List Int := (ls.filter fun x => decide (x.acct = k) && !decide (0 < x.sum)).map Leg.sum
def allK (ls : List Leg) (k : ByteArray) : List Int := (ls.filter fun x => decide (x.acct = k)).map Leg.sum
theorem inK_app (l m : List Leg) (k : ByteArray) : inK (l ++ m) k = inK l k ++ inK m k := by unfold inK; rw [List.filter_append, List.map_append]
theorem outK_app (l m : List Leg) (k : ByteArray) : outK (l ++ m) k = outK l k ++ outK m k := by unfold outK; rw [List.filter_append, List.map_append]
theorem allK_app (l m : List Leg) (k : ByteArray) : allK (l ++ m) k = allK l k ++ allK m k := by unfold allK; rw [List.filter_append, List.map_append]
theorem inK_sub (ls : List Leg) (k : ByteArray) : ∀ a ∈ inK ls k, ∃ x ∈ ls, x.sum = a := fun a h => by
 obtain ⟨x, hx, rfl⟩ := List.mem_map.1 h
 exact ⟨x, (List.mem_filter.1 hx).1, rfl⟩
theorem outK_sub (ls : List Leg) (k : ByteArray) : ∀ a ∈ outK ls k, ∃ x ∈ ls, x.sum = a := fun a h => by
 obtain ⟨x, hx, rfl⟩ := List.mem_map.1 h
 exact ⟨x, (List.mem_filter.1 hx).1, rfl⟩
theorem inK_len (ls : List Leg) (k : ByteArray) : (inK ls k).length ≤ ls.length := by unfold inK; rw [List.length_map]; exact List.length_filter_le _ _
theorem outK_len (ls : List Leg) (k : ByteArray) : (outK ls k).length ≤ ls.length := by unfold outK; rw [List.length_map]; exact List.length_filter_le _ _
theorem inK_snoc (ls : List Leg) (x : Leg) (k : ByteArray) : inK (ls ++ [x]) k = if x.acct = k ∧ 0 < x.sum then inK ls k ++ [x.sum] else inK ls k := by
 rw [inK_app]
 unfold inK
 by_cases h : x.acct = k ∧ 0 < x.sum
 ·rw [if_pos h, List.filter_cons_of_pos (by simp [h.1, h.2])]; rfl
 ·rw [if_neg h, List.filter_cons_of_neg (by simpa using h)]; simp
theorem outK_snoc (ls : List Leg) (x : Leg) (k : ByteArray) : outK (ls ++ [x]) k = if x.acct = k ∧ ¬ 0 < x.sum then outK ls k ++ [x.sum] else outK ls k := by
 rw [outK_app]
 unfold outK
 by_cases h : x.acct = k ∧ ¬ 0 < x.sum
 ·rw [if_pos h, List.filter_cons_of_pos (by simp [h.1]; omega)]; rfl
 ·rw [if_neg h, List.filter_cons_of_neg (by simpa using h)]; simp
/-- both together -/
theorem in_out : ∀ (ls : List Leg) (k : ByteArray), sumL (inK ls k) + sumL (outK ls k) = sumL (allK ls k)
 | [], _ => rfl
 | x :: r, k => by
  have ih := in_out r k
  have e1 : inK (x :: r) k = inK [x] k ++ inK r k := inK_app [x] r k
  have e2 : outK (x :: r) k = outK [x] k ++ outK r k := outK_app [x] r k
  have e3 : allK (x :: r) k = allK [x] k ++ allK r k := allK_app [x] r k
  rw [e1, e2, e3, sumL_app, sumL_app, sumL_app]
  have : sumL (inK [x] k) + sumL (outK [x] k) = sumL (allK [x] k) := by
   unfold inK outK allK
   by_cases h : x.acct = k
   ·by_cases h0 : 0 < x.sum
    ·simp [h, h0, sumL]
    ·simp [h, h0, sumL]
   ·simp [h, sumL]
  omega
/-- the names of accounts, in order, each once -/
def hasN (N : List ByteArray) (k : ByteArray) : Bool := N.any fun j => decide (j = k)
theorem hasN_iff {N : List ByteArray} {k : ByteArray} : hasN N k = true ↔ k ∈ N := by unfold hasN; simp
def addN (N : List ByteArray) (k : ByteArray) : List ByteArray := if hasN N k = true then N else insB bless k N
def namesL (ls : List Leg) : List ByteArray := ls.foldl (fun N x => addN N x.acct) []
theorem namesL_snoc (ls : List Leg) (x : Leg) : namesL (ls ++ [x]) = addN (namesL ls) x.acct := by unfold namesL; rw [List.foldl_append]; rfl
theorem addN_mem {N : List ByteArray} {k j : ByteArray} : j ∈ addN N k ↔ j = k ∨ j ∈ N := by
 unfold addN
 split
 ·rename_i h
  rw [hasN_iff] at h
  exact ⟨.inr, fun e => e.elim (fun e => e ▸ h) id⟩
 ·exact insB_mem
theorem addN_srt {N : List ByteArray} (h : SrtL bless N) (k : ByteArray) : SrtL bless (addN N k) := by
 unfold addN
 split
 ·exact h
 ·rename_i hk
  rw [hasN_iff] at hk
  refine insB_srt bless_strict k N h fun y hy => ?_
  cases h1 : bless k y with
  | true => exact .inl rfl
  | false =>
   cases h2 : bless y k with
   | true => exact .inr rfl
   | false => exact absurd (bless_tri h1 h2 ▸ hy) hk
theorem namesL_both : ∀ (ls : List Leg) (N : List ByteArray), SrtL bless N → SrtL bless (ls.foldl (fun N x => addN N x.acct) N) ∧ ∀ k, k ∈ ls.foldl (fun N x => addN N x.acct) N ↔ k ∈ N ∨ ∃ x ∈ ls, x.acct = k
 | [], N, h => ⟨h, fun k => by simp⟩
 | x :: r, N, h => by
  obtain ⟨h1, h2⟩ := namesL_both r (addN N x.acct) (addN_srt h _)
  refine ⟨h1, fun k => (h2 k).trans ?_⟩
  rw [addN_mem]
  constructor
  ·rintro ((rfl | h) | ⟨y, hy, e⟩)
   ·exact .inr ⟨x, by simp, rfl⟩
   ·exact .inl h
   ·exact .inr ⟨y, by simp [hy], e⟩
  ·rintro (h | ⟨y, hy, e⟩)
   ·exact .inl (.inr h)
   ·rcases List.mem_cons.1 hy with rfl | hy
    ·exact .inl (.inl e.symm)
    ·exact .inr ⟨y, hy, e⟩
theorem namesL_srt (ls : List Leg) : SrtL bless (namesL ls) := (namesL_both ls [] List.Pairwise.nil).1
theorem namesL_mem {ls : List Leg} {k : ByteArray} : k ∈ namesL ls ↔ ∃ x ∈ ls, x.acct = k := by
 have := (namesL_both ls [] List.Pairwise.nil).2 k
 unfold namesL
 simpa using this
theorem addN_len (N : List ByteArray) (k : ByteArray) : (addN N k).length ≤ N.length + 1 := by
 unfold addN
 split
 ·omega
 ·rw [(insB_perm _ _).length_eq]; simp
theorem namesL_len (ls : List Leg) : (namesL ls).length ≤ ls.length := by
 have : ∀ (ls : List Leg) (N : List ByteArray), (ls.foldl (fun N x => addN N x.acct) N).length ≤ N.length + ls.length := fun ls => by
  induction ls with
  | nil => intro N; simp
  | cons x r ih =>
   intro N
   have h1 := ih (addN N x.acct)
   have h2 := addN_len N x.acct
   show (r.foldl (fun N x => addN N x.acct) (addN N x.acct)).length ≤ _
   rw [List.length_cons]
   omega
 have := this ls []
 simpa [namesL] using this
/-- a line of a trial -/
structure Ln where
 acct : ByteArray
 inn : Int
 out : Int
deriving DecidableEq
def lineOf (ls : List Leg) (k : ByteArray) : Ln := ⟨k, (sumR (sumL (inK ls k))).1, (sumR (0 - (sumR (sumL (outK ls k))).1)).1⟩
/-- are these sums? -/
def okLn (ls : List Leg) (k : ByteArray) : Bool := decide ((sumR (sumL (inK ls k))).2 = 0) && (decide ((sumR (sumL (outK ls k))).2 = 0) && decide ((sumR (0 - (sumR (sumL (outK ls k))).1)).2 = 0))
/-- audit.Trial -/
def trialL (ls : List Leg) : List Ln × Int := if (namesL ls).all (okLn ls) = true then ((namesL ls).map (lineOf ls), 0) else ([], 2)
/-- audit.Between -/
def betwL (ls : List Leg) (k : ByteArray) : Int × Int := sumR (sumL (allK ls k))
end Go.Proofs.YtampniiehgimhaaGreat
/- audit: flows in memory -/
namespace Go.Proofs.YtampniiehgimhaaGreat
open Go.RowKit
/-- what came and went of an account: where it lies -/
structure Fl where
 name : ByteArray
 p : Nat
 vi : Value
 li : List Int
 vo : Value
 lo : List Int
abbrev Fl.ptr (x : Fl) : Value := .pointer (some ⟨x.p, 0, none⟩)
def flEnts (T : List Fl) : List (ByteArray × Value) := T.map fun x => (x.name, x.ptr)
def getF (T : List Fl) (k : ByteArray) : Option Fl := T.find? fun x => decide (x.name = k)
theorem flEnts_get (T : List Fl) (k : ByteArray) : getM (flEnts T) k = (getF T k).map Fl.ptr := by
 unfold getM flEnts getF
 rw [List.find?_map, Option.map_map]
 rfl
theorem getF_mem {T : List Fl} {k : ByteArray} {x : Fl} (h : getF T k = some x) : x ∈ T ∧ x.name = k := ⟨List.mem_of_find?_eq_some h, by simpa using List.find?_some h⟩
theorem getF_none {T : List Fl} {k : ByteArray} : getF T k = none ↔ ∀ x ∈ T, x.name ≠ k := by
 unfold getF
 rw [List.find?_eq_none]
 simp
def setF (T : List Fl) (y : Fl) : List Fl := T.map fun z => if z.name = y.name then y else z
theorem mem_setF {T : List Fl} {y z : Fl} (h : z ∈ setF T y) : z = y ∨ (z ∈ T ∧ z.name ≠ y.name) := by
 obtain ⟨q, hq, rfl⟩ := List.mem_map.1 h
 by_cases e : q.name = y.name
 ·rw [if_pos e]; exact .inl rfl
 ·rw [if_neg e]; exact .inr ⟨hq, e⟩
theorem setF_names (T : List Fl) (y : Fl) : (setF T y).map Fl.name = T.map Fl.name := by
 unfold setF
 rw [List.map_map]
 refine List.map_congr_left fun z _ => ?_
 show (if z.name = y.name then y else z).name = z.name
 split
 ·rename_i e; exact e.symm
 ·rfl
structure FlM (w : World) (B b : Nat) (T : List Fl) : Prop where
 map : MapIs Value.string w b (flEnts T)
 cell : ∀ x ∈ T, w.heap[x.p]? = some (.cells #[x.vi, x.vo] 183 (0, 0))
 inn : ∀ x ∈ T, Own w B 2 x.vi x.li
 out : ∀ x ∈ T, Own w B 2 x.vo x.lo
 lo : ∀ x ∈ T, B ≤ x.p
 lab : ∃ f : Nat → Option (ByteArray × Nat), f b = some (ByteArray.empty, 3) ∧ ∀ x ∈ T, f x.p = some (x.name, 0) ∧ (∀ g, x.vi.ownBlock = some g → f g = some (x.name, 1)) ∧ (∀ g, x.vo.ownBlock = some g → f g = some (x.name, 2))
def flAll (b : Nat) (T : List Fl) (k : Nat) : Prop := k = b ∨ ∃ x ∈ T, k = x.p ∨ x.vi.ownBlock = some k ∨ x.vo.ownBlock = some k
theorem FlM.lt {w : World} {B b : Nat} {T : List Fl} (h : FlM w B b T) : ∀ k, flAll b T k → (k = b ∨ B ≤ k) ∧ k < w.heap.size := fun k hk => by
 rcases hk with rfl | ⟨x, hx, rfl | e | e⟩
 ·exact ⟨.inl rfl, h.map.lt⟩
 ·exact ⟨.inr (h.lo x hx), (Array.getElem?_eq_some_iff.1 (h.cell x hx)).1⟩
 ·exact ⟨.inr ((h.inn x hx).1.lt k e).1, ((h.inn x hx).1.lt k e).2⟩
 ·exact ⟨.inr ((h.out x hx).1.lt k e).1, ((h.out x hx).1.lt k e).2⟩
theorem FlM.kept {w w' : World} {B b : Nat} {T : List Fl} {S : Nat → Prop} (h : FlM w B b T) (hg : Gr w w' S) (hS : ∀ k, flAll b T k → ¬ S k) : FlM w' B b T where
 map := h.map.gr hg (hS b (.inl rfl))
 cell x hx := by rw [hg.block _ (Array.getElem?_eq_some_iff.1 (h.cell x hx)).1 (hS _ (.inr ⟨x, hx, .inl rfl⟩))]; exact h.cell x hx
 inn x hx := (h.inn x hx).gr hg (fun g e => hS g (.inr ⟨x, hx, .inr (.inl e)⟩)) (fun _ _ => trivial)
 out x hx := (h.out x hx).gr hg (fun g e => hS g (.inr ⟨x, hx, .inr (.inr e)⟩)) (fun _ _ => trivial)
 lo := h.lo
 lab := h.lab
theorem FlM.later {w w' : World} {B b : Nat} {T : List Fl} (h : FlM w B b T) (hb : Below w.heap.size w w') : FlM w' B b T := h.kept (Gr.of_below hb (fun _ => False)) (fun _ _ => id)
theorem FlM.names {w : World} {B b : Nat} {T : List Fl} (h : FlM w B b T) : T.Pairwise fun x y => x.name ≠ y.name := by
 have := h.map.nodup
 unfold flEnts at this
 have h2 := List.pairwise_map.1 this
 exact h2
theorem fl_uniq {T : List Fl} (hn : T.Pairwise fun x y => x.name ≠ y.name) {r q : Fl} (hr : r ∈ T) (hq : q ∈ T) (e : r.name = q.name) : r = q := by
 obtain ⟨i, hi, rfl⟩ := List.mem_iff_getElem.1 hr
 obtain ⟨j, hj, rfl⟩ := List.mem_iff_getElem.1 hq
 rcases Nat.lt_trichotomy i j with h1 | h1 | h1
 ·exact absurd e (List.pairwise_iff_getElem.1 hn i j hi hj h1)
 ·subst h1; rfl
 ·exact absurd e.symm (List.pairwise_iff_getElem.1 hn j i hj hi h1)
abbrev fl0 (k : ByteArray) (p : Nat) : Fl := ⟨k, p, .slice none 0 0, [], .slice none 0 0, []⟩
theorem flEnts_new {T : List Fl} {k : ByteArray} (h : getF T k = none) (p : Nat) : putM (flEnts T) k (.pointer (some ⟨p, 0, none⟩)) = flEnts (T ++ [fl0 k p]) := by
 have hno := getF_none.1 h
 unfold putM
 rw [if_neg]
 ·unfold flEnts; rw [List.map_append]; rfl
 ·rw [List.any_eq_true]
  rintro ⟨q, hq, e⟩
  obtain ⟨x, hx, rfl⟩ := List.mem_map.1 hq
  exact hno x hx (by simpa using e)
/-- an account more -/
theorem FlM.new {w w2 : World} {B b : Nat} {T : List Fl} (h : FlM w B b T) {k : ByteArray} (hk : getF T k = none) (hB : B ≤ w.heap.size)
  (hm : MapIs Value.string w2 b (putM (flEnts T) k (.pointer (some ⟨w.heap.size, 0, none⟩)))) (hg : (w.alloc (.cells #[.slice none 0 0, .slice none 0 0] 183)).grownBy w2 (some b)) :
  FlM w2 B b (T ++ [fl0 k w.heap.size]) ∧ Gr w w2 (fun j => j = b) := by
 have hlt := h.lt
 have hb := Below.refl w.heap.size w |>.alloc (Nat.le_refl _) (.cells #[.slice none 0 0, .slice none 0 0] 183)
 have hG : Gr w w2 (fun j => j = b) := (Gr.of_below hb (fun j => j = b)).after ((Gr.of_grown hg).mono fun j _ e => by injection e with e; exact e.symm)
 have hno := getF_none.1 hk
 obtain ⟨f, f1, f2⟩ := h.lab
 have hbp : ∀ x ∈ T, x.p ≠ b := fun x hx e => by
  have := (f2 x hx).1
  rw [e, f1] at this
  injection this with this; injection this with _ this; cases this
 have hbi : ∀ x ∈ T, ∀ g, x.vi.ownBlock = some g → g ≠ b := fun x hx g e e2 => by
  have := (f2 x hx).2.1 g e
  rw [e2, f1] at this
  injection this with this; injection this with _ this; cases this
 have hbo : ∀ x ∈ T, ∀ g, x.vo.ownBlock = some g → g ≠ b := fun x hx g e e2 => by
  have := (f2 x hx).2.2 g e
  rw [e2, f1] at this
  injection this with this; injection this with _ this; cases this
 refine ⟨⟨by rw [← flEnts_new hk]; exact hm, fun x hx => ?_, fun x hx => ?_, fun x hx => ?_, fun x hx => ?_, ⟨fun g => if g = w.heap.size then some (k, 0) else f g, ?_, fun x hx => ?_⟩⟩, hG⟩
 ·rcases List.mem_append.1 hx with hx | hx
  ·rw [hG.block _ (Array.getElem?_eq_some_iff.1 (h.cell x hx)).1 (hbp x hx)]; exact h.cell x hx
  ·obtain rfl := List.mem_singleton.1 hx
   rw [hg.block w.heap.size (by simp) (fun e => by injection e with e; have := (hlt b (.inl rfl)).2; omega)]
   exact heap_alloc_new w _
 ·rcases List.mem_append.1 hx with hx | hx
  ·exact (h.inn x hx).gr hG (fun g e => hbi x hx g e) (fun _ _ => trivial)
  ·obtain rfl := List.mem_singleton.1 hx
   exact Own.nil_ _ _ _
 ·rcases List.mem_append.1 hx with hx | hx
  ·exact (h.out x hx).gr hG (fun g e => hbo x hx g e) (fun _ _ => trivial)
  ·obtain rfl := List.mem_singleton.1 hx
   exact Own.nil_ _ _ _
 ·rcases List.mem_append.1 hx with hx | hx
  ·exact h.lo x hx
  ·obtain rfl := List.mem_singleton.1 hx
   exact hB
 ·show (if b = w.heap.size then _ else f b) = _
  rw [if_neg (fun e => by have := (hlt b (.inl rfl)).2; omega)]; exact f1
 ·rcases List.mem_append.1 hx with hx | hx
  ·have hl : ∀ j, flAll b T j → ¬ j = w.heap.size := fun j hj e => by have := (hlt j hj).2; omega
   refine ⟨?_, fun g e => ?_, fun g e => ?_⟩
   ·show (if x.p = w.heap.size then _ else f x.p) = _
    rw [if_neg (hl _ (.inr ⟨x, hx, .inl rfl⟩))]; exact (f2 x hx).1
   ·show (if g = w.heap.size then _ else f g) = _
    rw [if_neg (hl _ (.inr ⟨x, hx, .inr (.inl e)⟩))]; exact (f2 x hx).2.1 g e
   ·show (if g = w.heap.size then _ else f g) = _
    rw [if_neg (hl _ (.inr ⟨x, hx, .inr (.inr e)⟩))]; exact (f2 x hx).2.2 g e
  ·obtain rfl := List.mem_singleton.1 hx
   exact ⟨if_pos rfl, ⟨fun g e => (by cases e), fun g e => (by cases e)⟩⟩
/-- a sum more -/
theorem FlM.growI {w w1 w2 : World} {B b : Nat} {T : List Fl} (h : FlM w B b T) {x : Fl} (hx : x ∈ T) {v : Value} {l : List Int} (ho : Own w1 B 2 v l) (hg : w.grownBy w1 x.vi.ownBlock) (hv : v.ownBlock = x.vi.ownBlock ∨ v.ownBlock = some w.heap.size)
  (hc2 : w2.heap[x.p]? = some (.cells #[v, x.vo] 183 (0, 0))) (hgb : w1.grownBy w2 (some x.p)) :
  FlM w2 B b (setF T { x with vi := v, li := l }) ∧ Gr w w2 (fun k => k = x.p ∨ x.vi.ownBlock = some k) := by
 have hlt := h.lt
 obtain ⟨f, f1, f2⟩ := h.lab
 obtain ⟨fx0, fx1, fx2⟩ := f2 x hx
 have hxp : some x.p ≠ x.vi.ownBlock := fun e => by
  have := fx1 x.p e.symm
  rw [fx0] at this
  injection this with this; injection this with _ this; cases this
 have hg2 := Gr.of_grown hgb
 have hG : Gr w w2 (fun k => k = x.p ∨ x.vi.ownBlock = some k) :=
  ((Gr.of_grown hg).mono (S' := fun k => k = x.p ∨ x.vi.ownBlock = some k) (fun j _ e => .inr e)).after (hg2.mono fun j _ e => .inl (by injection e with e; exact e.symm))
 have hbx : ¬ (b = x.p ∨ x.vi.ownBlock = some b) := by
  rintro (e | e)
  ·rw [← e, f1] at fx0
   injection fx0 with fx0; injection fx0 with _ fx0; cases fx0
  ·have := fx1 b e
   rw [f1] at this
   injection this with this; injection this with _ this; cases this
 have hzp : ∀ z ∈ T, z.name ≠ x.name → ∀ g (n : Nat), f g = some (z.name, n) → ¬ (g = x.p ∨ x.vi.ownBlock = some g) := fun z _ hne g n hf => by
  rintro (e | e)
  ·rw [e, fx0] at hf
   injection hf with hf; injection hf with hf _; exact hne hf.symm
  ·have := fx1 g e
   rw [hf] at this
   injection this with this; injection this with this _; exact hne this
 have hvp : ∀ g, v.ownBlock = some g → g ≠ x.p := fun g e e2 => by
  rcases hv with h1 | h1
  ·exact hxp (by rw [← e2, ← e, h1])
  ·rw [h1] at e; injection e with e
   have := (hlt x.p (.inr ⟨x, hx, .inl rfl⟩)).2
   omega
 refine ⟨⟨?_, fun z hz => ?_, fun z hz => ?_, fun z hz => ?_, fun z hz => ?_, ⟨fun g => if g = w.heap.size then some (x.name, 1) else f g, ?_, fun z hz => ?_⟩⟩, hG⟩
 ·have e : flEnts (setF T { x with vi := v, li := l }) = flEnts T := by
   unfold flEnts setF
   rw [List.map_map]
   refine List.map_congr_left fun z hz => ?_
   show ((if z.name = x.name then ({ x with vi := v, li := l } : Fl) else z).name, (if z.name = x.name then ({ x with vi := v, li := l } : Fl) else z).ptr) = _
   by_cases e : z.name = x.name
   ·rw [if_pos e]
    obtain rfl := fl_uniq h.names hz hx e
    rfl
   ·rw [if_neg e]
  rw [e]
  exact h.map.gr hG hbx
 ·rcases mem_setF hz with rfl | ⟨hz, hne⟩
  ·exact hc2
  ·rw [hG.block _ (Array.getElem?_eq_some_iff.1 (h.cell z hz)).1 (hzp z hz hne _ 0 (f2 z hz).1)]
   exact h.cell z hz
 ·rcases mem_setF hz with rfl | ⟨hz, hne⟩
  ·exact ho.gr hg2 (fun g e e2 => hvp g e (by injection e2 with e2; exact e2.symm)) (fun _ _ => trivial)
  ·exact (h.inn z hz).gr hG (fun g e => hzp z hz hne g 1 ((f2 z hz).2.1 g e)) (fun _ _ => trivial)
 ·rcases mem_setF hz with rfl | ⟨hz, hne⟩
  ·exact (h.out x hx).gr hG (fun g e e2 => by
    have hf := fx2 g e
    rcases e2 with e2 | e2
    ·rw [e2, fx0] at hf
     injection hf with hf; injection hf with _ hf; cases hf
    ·have := fx1 g e2
     rw [hf] at this
     injection this with this; injection this with _ this; cases this) (fun _ _ => trivial)
  ·exact (h.out z hz).gr hG (fun g e => hzp z hz hne g 2 ((f2 z hz).2.2 g e)) (fun _ _ => trivial)
 ·rcases mem_setF hz with rfl | ⟨hz, hne⟩
  ·exact h.lo x hx
  ·exact h.lo z hz
 ·show (if b = w.heap.size then _ else f b) = _
  rw [if_neg (fun e => by have := (hlt b (.inl rfl)).2; omega)]; exact f1
 ·have hl : ∀ j, flAll b T j → ¬ j = w.heap.size := fun j hj e => by have := (hlt j hj).2; omega
  rcases mem_setF hz with rfl | ⟨hz, hne⟩
  ·have hvf : ∀ g, v.ownBlock = some g → (if g = w.heap.size then some (x.name, 1) else f g) = some (x.name, 1) := fun g e => by
    by_cases hw : g = w.heap.size
    ·rw [if_pos hw]
    ·rw [if_neg hw]
     rcases hv with h1 | h1
     ·exact fx1 g (by rw [← h1]; exact e)
     ·rw [h1] at e; injection e with e; exact absurd e.symm hw
   have hoth : ∀ g, x.vo.ownBlock = some g → (if g = w.heap.size then some (x.name, 1) else f g) = some (x.name, 2) := fun g e => by
    rw [if_neg (hl _ (.inr ⟨x, hx, .inr (.inr e)⟩))]; exact fx2 g e
   refine ⟨?_, hvf, hoth⟩
   show (if x.p = w.heap.size then _ else f x.p) = _
   rw [if_neg (hl _ (.inr ⟨x, hx, .inl rfl⟩))]; exact fx0
  ·refine ⟨?_, fun g e => ?_, fun g e => ?_⟩
   ·show (if z.p = w.heap.size then _ else f z.p) = _
    rw [if_neg (hl _ (.inr ⟨z, hz, .inl rfl⟩))]; exact (f2 z hz).1
   ·show (if g = w.heap.size then _ else f g) = _
    rw [if_neg (hl _ (.inr ⟨z, hz, .inr (.inl e)⟩))]; exact (f2 z hz).2.1 g e
   ·show (if g = w.heap.size then _ else f g) = _
    rw [if_neg (hl _ (.inr ⟨z, hz, .inr (.inr e)⟩))]; exact (f2 z hz).2.2 g e
/-- a sum more -/
theorem FlM.growO {w w1 w2 : World} {B b : Nat} {T : List Fl} (h : FlM w B b T) {x : Fl} (hx : x ∈ T) {v : Value} {l : List Int} (ho : Own w1 B 2 v l) (hg : w.grownBy w1 x.vo.ownBlock) (hv : v.ownBlock = x.vo.ownBlock ∨ v.ownBlock = some w.heap.size)
  (hc2 : w2.heap[x.p]? = some (.cells #[x.vi, v] 183 (0, 0))) (hgb : w1.grownBy w2 (some x.p)) :
  FlM w2 B b (setF T { x with vo := v, lo := l }) ∧ Gr w w2 (fun k => k = x.p ∨ x.vo.ownBlock = some k) := by
 have hlt := h.lt
 obtain ⟨f, f1, f2⟩ := h.lab
 obtain ⟨fx0, fx1, fx2⟩ := f2 x hx
 have hxp : some x.p ≠ x.vo.ownBlock := fun e => by
  have := fx2 x.p e.symm
  rw [fx0] at this
  injection this with this; injection this with _ this; cases this
 have hg2 := Gr.of_grown hgb
 have hG : Gr w w2 (fun k => k = x.p ∨ x.vo.ownBlock = some k) :=
  ((Gr.of_grown hg).mono (S' := fun k => k = x.p ∨ x.vo.ownBlock = some k) (fun j _ e => .inr e)).after (hg2.mono fun j _ e => .inl (by injection e with e; exact e.symm))
 have hbx : ¬ (b = x.p ∨ x.vo.ownBlock = some b) := by
  rintro (e | e)
  ·rw [← e, f1] at fx0
   injection fx0 with fx0; injection fx0 with _ fx0; cases fx0
  ·have := fx2 b e
   rw [f1] at this
   injection this with this; injection this with _ this; cases this
 have hzp : ∀ z ∈ T, z.name ≠ x.name → ∀ g (n : Nat), f g = some (z.name, n) → ¬ (g = x.p ∨ x.vo.ownBlock = some g) := fun z _ hne g n hf => by
  rintro (e | e)
  ·rw [e, fx0] at hf
   injection hf with hf; injection hf with hf _; exact hne hf.symm
  ·have := fx2 g e
   rw [hf] at this
   injection this with this; injection this with this _; exact hne this
 have hvp : ∀ g, v.ownBlock = some g → g ≠ x.p := fun g e e2 => by
  rcases hv with h1 | h1
  ·exact hxp (by rw [← e2, ← e, h1])
  ·rw [h1] at e; injection e with e
   have := (hlt x.p (.inr ⟨x, hx, .inl rfl⟩)).2
   omega
 refine ⟨⟨?_, fun z hz => ?_, fun z hz => ?_, fun z hz => ?_, fun z hz => ?_, ⟨fun g => if g = w.heap.size then some (x.name, 2) else f g, ?_, fun z hz => ?_⟩⟩, hG⟩
 ·have e : flEnts (setF T { x with vo := v, lo := l }) = flEnts T := by
   unfold flEnts setF
   rw [List.map_map]
   refine List.map_congr_left fun z hz => ?_
   show ((if z.name = x.name then ({ x with vo := v, lo := l } : Fl) else z).name, (if z.name = x.name then ({ x with vo := v, lo := l } : Fl) else z).ptr) = _
   by_cases e : z.name = x.name
   ·rw [if_pos e]
    obtain rfl := fl_uniq h.names hz hx e
    rfl
   ·rw [if_neg e]
  rw [e]
  exact h.map.gr hG hbx
 ·rcases mem_setF hz with rfl | ⟨hz, hne⟩
  ·exact hc2
  ·rw [hG.block _ (Array.getElem?_eq_some_iff.1 (h.cell z hz)).1 (hzp z hz hne _ 0 (f2 z hz).1)]
   exact h.cell z hz
 ·rcases mem_setF hz with rfl | ⟨hz, hne⟩
  ·exact (h.inn x hx).gr hG (fun g e e2 => by
    have hf := fx1 g e
    rcases e2 with e2 | e2
    ·rw [e2, fx0] at hf
     injection hf with hf; injection hf with _ hf; cases hf
    ·have := fx2 g e2
     rw [hf] at this
     injection this with this; injection this with _ this; cases this) (fun _ _ => trivial)
  ·exact (h.inn z hz).gr hG (fun g e => hzp z hz hne g 1 ((f2 z hz).2.1 g e)) (fun _ _ => trivial)
 ·rcases mem_setF hz with rfl | ⟨hz, hne⟩
  ·exact ho.gr hg2 (fun g e e2 => hvp g e (by injection e2 with e2; exact e2.symm)) (fun _ _ => trivial)
  ·exact (h.out z hz).gr hG (fun g e => hzp z hz hne g 2 ((f2 z hz).2.2 g e)) (fun _ _ => trivial)
 ·rcases mem_setF hz with rfl | ⟨hz, hne⟩
  ·exact h.lo x hx
  ·exact h.lo z hz
 ·show (if b = w.heap.size then _ else f b) = _
  rw [if_neg (fun e => by have := (hlt b (.inl rfl)).2; omega)]; exact f1
 ·have hl : ∀ j, flAll b T j → ¬ j = w.heap.size := fun j hj e => by have := (hlt j hj).2; omega
  rcases mem_setF hz with rfl | ⟨hz, hne⟩
  ·have hvf : ∀ g, v.ownBlock = some g → (if g = w.heap.size then some (x.name, 2) else f g) = some (x.name, 2) := fun g e => by
    by_cases hw : g = w.heap.size
    ·rw [if_pos hw]
    ·rw [if_neg hw]
     rcases hv with h1 | h1
     ·exact fx2 g (by rw [← h1]; exact e)
     ·rw [h1] at e; injection e with e; exact absurd e.symm hw
   have hoth : ∀ g, x.vi.ownBlock = some g → (if g = w.heap.size then some (x.name, 2) else f g) = some (x.name, 1) := fun g e => by
    rw [if_neg (hl _ (.inr ⟨x, hx, .inr (.inl e)⟩))]; exact fx1 g e
   refine ⟨?_, hoth, hvf⟩
   show (if x.p = w.heap.size then _ else f x.p) = _
   rw [if_neg (hl _ (.inr ⟨x, hx, .inl rfl⟩))]; exact fx0
  ·refine ⟨?_, fun g e => ?_, fun g e => ?_⟩
   ·show (if z.p = w.heap.size then _ else f z.p) = _
    rw [if_neg (hl _ (.inr ⟨z, hz, .inl rfl⟩))]; exact (f2 z hz).1
   ·show (if g = w.heap.size then _ else f g) = _
    rw [if_neg (hl _ (.inr ⟨z, hz, .inr (.inl e)⟩))]; exact (f2 z hz).2.1 g e
   ·show (if g = w.heap.size then _ else f g) = _
    rw [if_neg (hl _ (.inr ⟨z, hz, .inr (.inr e)⟩))]; exact (f2 z hz).2.2 g e
/-- flows, and the legs that made them -/
structure FlR (T : List Fl) (N : List ByteArray) (ls : List Leg) : Prop where
 perm : (T.map Fl.name).Perm N
 inn : ∀ x ∈ T, x.li = inK ls x.name
 out : ∀ x ∈ T, x.lo = outK ls x.name
theorem FlR.none_ {T : List Fl} {N : List ByteArray} {ls : List Leg} (h : FlR T N ls) (k : ByteArray) : getF T k = none ↔ k ∉ N := by
 rw [getF_none, ← h.perm.mem_iff]
 constructor
 ·intro h1 h2
  obtain ⟨x, hx, e⟩ := List.mem_map.1 h2
  exact h1 x hx e
 ·intro h1 x hx e
  exact h1 (List.mem_map.2 ⟨x, hx, e⟩)
theorem FlR.add {T : List Fl} {ls : List Leg} (h : FlR T (namesL ls) ls) {k : ByteArray} (hk : getF T k = none) (p : Nat) : FlR (T ++ [fl0 k p]) (addN (namesL ls) k) ls := by
 have hno := (h.none_ k).1 hk
 have hl : ∀ x ∈ ls, x.acct ≠ k := fun x hx e => hno (namesL_mem.2 ⟨x, hx, e⟩)
 refine ⟨?_, fun x hx => ?_, fun x hx => ?_⟩
 ·unfold addN
  rw [if_neg (fun e => hno (hasN_iff.1 e)), List.map_append]
  exact (List.perm_append_comm.trans (by simpa using h.perm.cons k)).trans (insB_perm _ _).symm
 ·rcases List.mem_append.1 hx with hx | hx
  ·exact h.inn x hx
  ·obtain rfl := List.mem_singleton.1 hx
   show [] = inK ls k
   unfold inK
   rw [List.filter_eq_nil_iff.2 fun x hx => by simp [hl x hx]]; rfl
 ·rcases List.mem_append.1 hx with hx | hx
  ·exact h.out x hx
  ·obtain rfl := List.mem_singleton.1 hx
   show [] = outK ls k
   unfold outK
   rw [List.filter_eq_nil_iff.2 fun x hx => by simp [hl x hx]]; rfl
theorem FlR.has {T : List Fl} {ls : List Leg} (h : FlR T (namesL ls) ls) {k : ByteArray} {x : Fl} (hk : getF T k = some x) : addN (namesL ls) k = namesL ls := by
 unfold addN
 rw [if_pos]
 rw [hasN_iff]
 refine Classical.byContradiction fun hn => ?_
 rw [(h.none_ k).2 hn] at hk; cases hk
theorem FlR.growI {T : List Fl} {N : List ByteArray} {ls : List Leg} (h : FlR T N ls) {x : Fl} (hx : x ∈ T) (hN : N = addN (namesL ls) x.name) {s : Int} (hs : 0 < s) (v : Value) : FlR (setF T { x with vi := v, li := x.li ++ [s] }) (namesL (ls ++ [⟨x.name, s⟩])) (ls ++ [⟨x.name, s⟩]) := by
 refine ⟨by rw [setF_names, namesL_snoc, ← hN]; exact h.perm, fun z hz => ?_, fun z hz => ?_⟩
 ·rcases mem_setF hz with rfl | ⟨hz, hne⟩
  ·rw [inK_snoc, if_pos ⟨rfl, hs⟩]
   show x.li ++ [s] = _
   rw [h.inn x hx]
  ·rw [inK_snoc, if_neg (fun e => hne e.1.symm)]; exact h.inn z hz
 ·rcases mem_setF hz with rfl | ⟨hz, hne⟩
  ·rw [outK_snoc, if_neg (fun e => e.2 hs)]; exact h.out x hx
  ·rw [outK_snoc, if_neg (fun e => hne e.1.symm)]; exact h.out z hz
theorem FlR.growO {T : List Fl} {N : List ByteArray} {ls : List Leg} (h : FlR T N ls) {x : Fl} (hx : x ∈ T) (hN : N = addN (namesL ls) x.name) {s : Int} (hs : ¬ 0 < s) (v : Value) : FlR (setF T { x with vo := v, lo := x.lo ++ [s] }) (namesL (ls ++ [⟨x.name, s⟩])) (ls ++ [⟨x.name, s⟩]) := by
 refine ⟨by rw [setF_names, namesL_snoc, ← hN]; exact h.perm, fun z hz => ?_, fun z hz => ?_⟩
 ·rcases mem_setF hz with rfl | ⟨hz, hne⟩
  ·rw [inK_snoc, if_neg (fun e => hs e.2)]; exact h.inn x hx
  ·rw [inK_snoc, if_neg (fun e => hne e.1.symm)]; exact h.inn z hz
 ·rcases mem_setF hz with rfl | ⟨hz, hne⟩
  ·rw [outK_snoc, if_pos ⟨rfl, hs⟩]
   show x.lo ++ [s] = _
   rw [h.out x hx]
  ·rw [outK_snoc, if_neg (fun e => hne e.1.symm)]; exact h.out z hz
theorem FlM.mono {w : World} {B B' b : Nat} {T : List Fl} (h : FlM w B b T) (hB : B' ≤ B) : FlM w B' b T :=
 ⟨h.map, h.cell, fun x hx => (h.inn x hx).mono hB, fun x hx => (h.out x hx).mono hB, fun x hx => Nat.le_trans hB (h.lo x hx), h.lab⟩
theorem FlM.made (w : World) (B : Nat) : FlM (w.alloc (.map #[] 0)) B w.heap.size [] :=
 ⟨MapIs.made w, fun _ h => (by cases h), fun _ h => (by cases h), fun _ h => (by cases h), fun _ h => (by cases h), ⟨fun g => if g = w.heap.size then some (ByteArray.empty, 3) else none, if_pos rfl, fun _ h => (by cases h)⟩⟩
theorem FlM.look {w : World} {B b : Nat} {T : List Fl} (h : FlM w B b T) (k : ByteArray) : (Instr.lookup 173 (.map (some b)) (.string k) false).run Tryz.prog w = .ok (((getF T k).map Fl.ptr).getD (.pointer none)) w := by
 have hlk := run_lookup (P := Tryz.prog) strKey Tryz.underlying173 h.map k (.pointer none) (by kernel_rfl) false
 rw [flEnts_get] at hlk
 exact hlk
theorem FlR.nil_ : FlR [] (namesL []) [] := ⟨.refl _, fun _ h => (by cases h), fun _ h => (by cases h)⟩
end Go.Proofs.YtampniiehgimhaaGreat
/- Moves and lines as Lean has them. No program. -/
namespace Go.Proofs.YtampniiehgimhaaGreat
open Go.RowKit
/-- audit.Move: the slice of its legs lies at la, of capacity lc -/
structure Mv where
 client : Int
 seq : Int
 period : Int
 la : Option Addr
 lc : Nat
 legs : List Leg
structure Mv.Ok (w : World) (S : Nat → Prop) (x : Mv) : Prop where
 legs : SlS w S x.la x.lc x.legs
instance encMv : Enc Mv where
 size := 4
 cells x := [i64 x.client, i64 x.seq, i64 x.period, .slice x.la x.legs.length x.lc]
 val x := .agg #[i64 x.client, i64 x.seq, i64 x.period, .slice x.la x.legs.length x.lc]
 ok := Mv.Ok
 len _ := rfl
 one _ v hv := by
  simp only [List.mem_cons, List.not_mem_nil, or_false] at hv
  rcases hv with rfl | rfl | rfl | rfl <;> rfl
 keep h hk hB := ⟨h.legs.keep hk hB⟩
/-- what it says -/
def Mv.core (x : Mv) : Id × Int × List Leg := (⟨x.client, x.seq⟩, x.period, x.legs)
def coreM (x : Od) : Id × Int × List Leg := (x.id, x.period, mvL x)
/-- what moves of some periods move -/
def legsM (M : List Mv) (a b : Int) : List Leg := M.flatMap fun x => if a ≤ x.period ∧ x.period ≤ b then x.legs else []
theorem legsM_eq : ∀ (M : List Mv) (L : List Od), M.map Mv.core = L.map coreM → ∀ a b, legsM M a b = legsR L a b
 | [], [], _, _, _ => rfl
 | [], _ :: _, h, _, _ => by cases h
 | _ :: _, [], h, _, _ => by cases h
 | x :: M, y :: L, h, a, b => by
  rw [List.map_cons, List.map_cons] at h
  injection h with h1 h2
  have ih := legsM_eq M L h2 a b
  have e2 : x.period = y.period := congrArg (fun p => p.2.1) h1
  have e3 : x.legs = mvL y := congrArg (fun p => p.2.2) h1
  show (if a ≤ x.period ∧ x.period ≤ b then x.legs else []) ++ legsM M a b = (if a ≤ y.period ∧ y.period ≤ b then mvL y else []) ++ legsR L a b
  rw [ih, e2, e3]
theorem SlS.mv {w : World} {S : Nat → Prop} {c : Nat} {A : Option Addr} {l : List Mv} (h : SlS w S A c l) {k : Nat} (hk : k < l.length) : ∃ b o, A = some ⟨b, o, none⟩ ∧ S b ∧ Mv.Ok w S l[k] ∧
  w.cell? ⟨b, o + k * 4, none⟩ = some (i64 l[k].client) ∧ w.cell? ⟨b, o + k * 4 + 1, none⟩ = some (i64 l[k].seq) ∧ w.cell? ⟨b, o + k * 4 + 2, none⟩ = some (i64 l[k].period) ∧ w.cell? ⟨b, o + k * 4 + 3, none⟩ = some (.slice l[k].la l[k].legs.length l[k].lc) := by
 obtain ⟨b, o, hA, hb, hok, hc⟩ := h.at_ hk
 exact ⟨b, o, hA, hb, hok, hc 0 _ rfl, hc 1 _ rfl, hc 2 _ rfl, hc 3 _ rfl⟩
instance encLn : Enc Ln where
 size := 3
 cells x := [.string x.acct, i64 x.inn, i64 x.out]
 val x := .agg #[.string x.acct, i64 x.inn, i64 x.out]
 ok _ _ x := x.acct.size ≤ maxLen
 len _ := rfl
 one _ v hv := by
  simp only [List.mem_cons, List.not_mem_nil, or_false] at hv
  rcases hv with rfl | rfl | rfl <;> rfl
 keep h _ _ := h
theorem SlS.ln {w : World} {S : Nat → Prop} {c : Nat} {A : Option Addr} {l : List Ln} (h : SlS w S A c l) {k : Nat} (hk : k < l.length) : ∃ b o, A = some ⟨b, o, none⟩ ∧ S b ∧ l[k].acct.size ≤ maxLen ∧
  w.cell? ⟨b, o + k * 3, none⟩ = some (.string l[k].acct) ∧ w.cell? ⟨b, o + k * 3 + 1, none⟩ = some (i64 l[k].inn) ∧ w.cell? ⟨b, o + k * 3 + 2, none⟩ = some (i64 l[k].out) := by
 obtain ⟨b, o, hA, hb, hok, hc⟩ := h.at_ hk
 exact ⟨b, o, hA, hb, hok, hc 0 _ rfl, hc 1 _ rfl, hc 2 _ rfl⟩
end Go.Proofs.YtampniiehgimhaaGreat
/- a literal of one order, as one operation of a drawn region -/
namespace Go.Proofs.YtampniiehgimhaaGreat
open Go.RowKit
theorem oper_assign {P : Program} {o : Oper} {a : Act} {w : World} {K : Act → World → Prop} {Q : Exit → Act → World → Prop} (x : Operand) (ho : o.op = .assign x) (v : Value) (hx : a.eval x = v)
  (hK : K (a.put o.dst v) w) : Oper.wp P o a w K Q := by
 obtain ⟨d, op, t, ps, af, gd⟩ := o
 dsimp only at ho hK
 subst ho hx
 unfold Oper.wp execOp
 simp only [Sem.run_pure]
 exact hK
end Go.Proofs.YtampniiehgimhaaGreat
/- a literal of one move, one line, one sum, as one operation of a drawn region -/
namespace Go.Proofs.YtampniiehgimhaaGreat
open Go.RowKit
theorem oper_lit_mv {o : Oper} {a : Act} {w : World} {K : Act → World → Prop} {Q : Exit → Act → World → Prop} (n : Nat) (ho : o.op = .buildSlice 78 1 #[(0, .tmp n)]) (z : Mv) (hx : a.tmps[n]?.getD undef = .agg #[i64 z.client, i64 z.seq, i64 z.period, .slice z.la z.legs.length z.lc])
  (hK : K (a.put o.dst (.slice (some ⟨w.heap.size, 0, none⟩) 1 1)) (w.alloc (.cells #[i64 z.client, i64 z.seq, i64 z.period, .slice z.la z.legs.length z.lc] 85))) : Oper.wp Tryz.prog o a w K Q := by
 obtain ⟨d, op, t, ps, af, gd⟩ := o
 dsimp only at ho hK
 subst ho
 go_simp
 exact hK
theorem oper_lit_i64 {o : Oper} {a : Act} {w : World} {K : Act → World → Prop} {Q : Exit → Act → World → Prop} (n : Nat) (ho : o.op = .buildSlice 181 1 #[(0, .tmp n)]) (z : Int) (hx : a.tmps[n]?.getD undef = i64 z)
  (hK : K (a.put o.dst (.slice (some ⟨w.heap.size, 0, none⟩) 1 1)) (w.alloc (.cells #[i64 z] 2))) : Oper.wp Tryz.prog o a w K Q := by
 obtain ⟨d, op, t, ps, af, gd⟩ := o
 dsimp only at ho hK
 subst ho
 go_simp
 exact hK
end Go.Proofs.YtampniiehgimhaaGreat
/- Clone, Grow, Concat at api.Leg -/
namespace Go.Proofs.YtampniiehgimhaaGreat
open Go.RowKit
theorem inf_leg : (Tryz.prog.info? 167).map (fun i => (i.zero, i.size, i.bytes)) = some (some (.agg #[.string ByteArray.empty, i64 0]), Enc.size Leg, 24) := by kernel_rfl
set_option maxRecDepth 100000 in
set_option maxHeartbeats 400000 in
theorem clone_leg (A : Option Addr) (c : Nat) (l : List Leg) (w : World) (h : Sl w w.heap.size A c l) (hn : l.length ≤ 65536) :
  Calls Tryz.prog 125 #[.slice A l.length c] w fun e w' => ∃ v, e = .returned v ∧ Own w' w.heap.size 167 v l ∧ Below w.heap.size w w' := by
 have hnil := fun W : World => Lib.run_eql_slice_nil (P := Tryz.prog) W 35 167 A l.length c 0 0 Tryz.underlying35
 cases A with
 | none =>
  have hl : l = [] := by
   rcases l with _ | ⟨x, r⟩
   ·rfl
   ·obtain ⟨_, _, h1, _⟩ := h.2.2.1 (by simp); cases h1
  subst hl
  simp only [Option.isNone_none, List.length_nil] at hnil
  go_enter Tryz.func125, Tryz.ntmps125
  go_wp2
  go_ret
  exact ⟨_, rfl, Own.nil_ _ _ _, Below.refl _ _⟩
 | some ad =>
  simp only [Option.isNone_some] at hnil
  have hO0 := own_lit (w := w) (base := w.heap.size) 167 #[] ([] : List Leg) (Nat.le_refl _) rfl (by simp) (by simp)
  have hbx := (Below.refl w.heap.size w).alloc (Nat.le_refl _) (.cells #[] 167)
  have hs := (h.below hbx).mono (hO0.oth (Nat.le_refl _) hbx.size)
  go_enter Tryz.func125, Tryz.ntmps125
  go_wp2_with (at_builtin; refine wpList_append_slice rfl (some 7) (.tmp 5) (.tmp 6) 35 rfl rfl (.agg #[.string ByteArray.empty, i64 0]) 24 Tryz.underlying35 inf_leg rfl (by decide) (by decide) rfl hO0 (some ad) l.length c l rfl rfl hs (by simp; omega) hbx.size ?_; intro v3 w3 hO3 hg3 hat3)
  go_ret
  exact ⟨_, rfl, by simpa using hO3, hbx.trans (hO0.below hg3 (Nat.le_refl _) hbx.size)⟩
end Go.Proofs.YtampniiehgimhaaGreat
/- replies: rows of them, and what is the same -/
namespace Go.Proofs.YtampniiehgimhaaGreat
open Go.RowKit
theorem SlS.rp {w : World} {S : Nat → Prop} {c : Nat} {A : Option Addr} {l : List Rp} (h : SlS w S A c l) {k : Nat} (hk : k < l.length) : ∃ b o, A = some ⟨b, o, none⟩ ∧ S b ∧
  w.cell? ⟨b, o + k * 4, none⟩ = some (i64 l[k].err) ∧ w.cell? ⟨b, o + k * 4 + 1, none⟩ = some (i64 l[k].hav) ∧ w.cell? ⟨b, o + k * 4 + 2, none⟩ = some (i64 l[k].set_) ∧ w.cell? ⟨b, o + k * 4 + 3, none⟩ = some (i64 l[k].num) := by
 obtain ⟨b, o, hA, hb, _, hc⟩ := h.at_ hk
 exact ⟨b, o, hA, hb, hc 0 _ rfl, hc 1 _ rfl, hc 2 _ rfl, hc 3 _ rfl⟩
end Go.Proofs.YtampniiehgimhaaGreat
/- Arguments as data: an order, as the statement reads it -/
namespace Go.Proofs.YtampniiehgimhaaGreat
open Go.RowKit
open Go.ChangeShapes Go.WideShapes Go.Deep
end Go.Proofs.YtampniiehgimhaaGreat
/- What the frames of the statements use -/
namespace Go.Proofs.YtampniiehgimhaaGreat
open Go.RowKit
open Go.ChangeShapes Go.WideShapes Go.Deep
end Go.Proofs.YtampniiehgimhaaGreat
/- What the frames of the statements use: the arguments opened -/
namespace Go.Proofs.YtampniiehgimhaaGreat
open Go.RowKit
open Go.ChangeShapes Go.WideShapes Go.Deep
section
variable {H : Type} {enc : TypeId × Value → H} {w : World} {base : Nat} {spare : Nat → Bool} {held : Bool} {r : Reach} {b0 : Nat} {v : Value} {d : DataW H} {p : List MemPlace}
end
end Go.Proofs.YtampniiehgimhaaGreat
/- Arguments as data, with their ranges: an order, orders -/
namespace Go.Proofs.YtampniiehgimhaaGreat
open Go.RowKit
open Go.ChangeShapes Go.WideShapes Go.Deep
section
variable {α : Type} [Enc α] {P : Program}
end
section
variable {H : Type} {enc : TypeId × Value → H} {w : World} {base : Nat} {spare : Nat → Bool} {held : Bool} {r : Reach} {b0 : Nat} {v : Value} {d : DataW H} {p : List MemPlace}
set_option maxRecDepth 100000 in
set_option maxHeartbeats 1000000 in
theorem open_odsR (hv : Value.okWide Tryz.prog w r b0 22 v) (h : DataW.Trod enc Tryz.prog w base spare held 22 v d p) : ∃ A c, ∃ l : List Od, v = .slice A l.length c ∧ Sl w w.heap.size A c l ∧ ∀ x ∈ l, InR x := by
 obtain ⟨a, len, cap, rfl⟩ := okWide_slice Tryz.underlying22 hv
 obtain ⟨fuel, hf⟩ := h
 obtain ⟨A, c, l, hx, hs, hq⟩ := readsQ_slice Tryz.underlying22 cellsOd (by decide) readsQ_od hf
 have hx2 : [Value.slice a len cap] = [.slice A l.length c] := hx
 injection hx2 with hx3
 exact ⟨A, c, l, hx3, hs, hq⟩
end
end Go.Proofs.YtampniiehgimhaaGreat
namespace Go.Proofs.YtampniiehgimhaaGreat
open Go.RowKit
theorem cut8_rng {x : Od} (h : InR x) : InR (cut8 x) := ⟨h.1, h.2.1, h.2.2.1, h.2.2.2.1, h.2.2.2.2.1, h.2.2.2.2.2.1, fun l hl => h.2.2.2.2.2.2 l (List.mem_of_mem_take hl)⟩
theorem fewL_od {w : World} {S : Nat → Prop} {A : Option Addr} {c n : Nat} {l : List Od} (h : SlS w S A c l) (hr : ∀ x ∈ l, InR x) : ∀ x ∈ fewL n l, OdB x := fun x hx => by
 obtain ⟨y, hy, rfl⟩ := List.mem_map.1 hx
 have hy := List.mem_of_mem_take hy
 have ho : Od.Ok w S y := h.2.2.2 y hy
 exact ⟨ho.acct, ho.peer, cut8_rng (hr y hy)⟩
end Go.Proofs.YtampniiehgimhaaGreat
namespace Go.Proofs.YtampniiehgimhaaGreat
open Go.RowKit
theorem RdIn.kept {w w' : World} {a : RA} {x : Od} (h : RdIn w a x) (hg : Gr w w' a.own) : RdIn w' a x :=
 ⟨Enc.keep (α := Od) h.1 (fun _ hp => World.cell?_of_block (hg.block _ hp.1 hp.2)) (fun _ hb => ⟨Nat.lt_of_lt_of_le hb.1 hg.size, hb.2⟩), h.2⟩
set_option maxRecDepth 100000 in
set_option maxHeartbeats 8000000 in
theorem rfold9_c (A : Option Addr) (c : Nat) (l : List Od) (w : World) (h : Sl w w.heap.size A c l) (hx : ∀ x ∈ l, OdB x) (hl : ∀ x ∈ l, x.legs.length ≤ 65536) (hn : l.length ≤ 60000) :
  Calls Tryz.prog 16 #[.slice A l.length c] w fun e w' => ∃ (a : RA) (v : Value), e = .returned (.tuple #[v, a.ptr]) ∧ RkIs w' a a.T (foldL bk0 l) ∧ Own w' w.heap.size 31 v (toldL bk0 l) ∧ a.base = w.heap.size ∧ Below w.heap.size w w' := by
 have hN := Lib.hid (rnew9_c w)
 have H := Lib.hid h
 have Hx := Lib.hid hx
 have Hl := Lib.hid hl
 have hlc : l.length ≤ c := h.1
 clear h hx hl
 go_enter Tryz.func16, Tryz.ntmps16
 go_wp2_with fail
 refine hN.out.mono ?_
 rintro e w1 ⟨a, rfl, hb0, ha, hF⟩
 have Hlt := Lib.hid hb0.lt
 have Hba := Lib.hid ha
 have Ha := Lib.hid (show ∀ k, a.own k → w.heap.size ≤ k from fun k hk => by have := hb0.lo k hk; omega)
 have hsz := hF.size
 clear hN ha
 go_wp2_with fail
 go_loopw [5, 6] (fun v i wr => ∃ (k : Nat) (T : Nat → Prop), i = i64 k ∧ k ≤ l.length ∧ RkIs wr a T (foldL bk0 (l.take k)) ∧ (∀ j, wr.heap.size ≤ j → T j) ∧ (∀ j, T j → a.T j) ∧ (∀ g, v.ownBlock = some g → ¬ T g) ∧ InvB (foldL bk0 (l.take k)) ∧ Own wr w1.heap.size 31 v (toldL bk0 (l.take k)) ∧ Below w.heap.size w wr ∧ w1.heap.size ≤ wr.heap.size) (fun _ i _ => l.length - (intOf i).toNat)
 case atStart => exact ⟨0, a.T, rfl, Nat.zero_le _, hb0, hb0.new, fun _ h => h, fun g h => (by cases h), inv_bk0, Own.nil_ _ _ _, hF, Nat.le_refl _⟩
 case round =>
  clear hb0 hF
  obtain ⟨k, T, rfl, hk, hB, hTn, hTa, hTv, hI, hO, hb, hz⟩ := hrel
  by_cases hlt : k < l.length
  ·have g1 : decide ((k : Int) < (l.length : Int)) = true := decide_eq_true (by omega)
   have g2 : decide (k < l.length) = true := decide_eq_true hlt
   have i0 : (0 : Int) ≤ (k : Int) := by omega
   have i1 : (k : Int) < (l.length : Int) := by omega
   have hlw := H.out.below hb
   obtain ⟨b, o, rfl, hbb, _, c0, c1, c2, c3, c4, c5, c6, c7, c8, c9⟩ := hlw.od hlt
   have hin := RdIn.of_sl (hlw.mono fun _ h => h) (fun k hk => Ha.out k hk) hb.size Hl.out l[k] (List.getElem_mem hlt)
   have hxo := Hx.out l[k] (List.getElem_mem hlt)
   have HF := Lib.hid (show foldL bk0 (l.take (k + 1)) = (doL (foldL bk0 (l.take k)) l[k]).2 by rw [List.take_succ_eq_append_getElem hlt, foldL_snoc])
   have HTl := Lib.hid (show toldL bk0 (l.take (k + 1)) = toldL bk0 (l.take k) ++ [(doL (foldL bk0 (l.take k)) l[k]).1] by rw [List.take_succ_eq_append_getElem hlt, toldL_snoc])
   have HLn := Lib.hid (show (toldL bk0 (l.take k)).length = k by rw [toldL_len, List.length_take]; omega)
   have hI2 := hI.do_ hxo
   generalize foldL bk0 (l.take k) = B at *
   generalize toldL bk0 (l.take k) = ts at *
   obtain ⟨x, hxk⟩ : ∃ x, l[k] = x := ⟨_, rfl⟩
   rw [hxk] at c0 c1 c2 c3 c4 c5 c6 c7 c8 c9 hin hxo HF HTl hI2
   have HO1 := Lib.hid hO
   have HD := Lib.hid (rdo9_c a T B x wr hB hTn hI hxo hin)
   generalize doL B x = d at *
   obtain ⟨R, B2⟩ := d
   dsimp only at *
   have HI2 := Lib.hid hI2
   have HTa := Lib.hid hTa
   have HTn := Lib.hid hTn
   have HTv := Lib.hid hTv
   have HRo := Lib.hid (show ∀ k, a.own k → w.heap.size ≤ k from Ha.out)
   have Hof := Lib.hid (show ∀ (W : World), Gr wr W a.own → Below w.heap.size w W from fun W hG => hb.trans (hG.below hb.size Ha.out))
   clear hxk hin hxo hI hI2 hB hO hlw hbb hTa hTn hTv hb
   go_wp2_with fail
   refine HD.out.mono ?_
   rintro e w2 ⟨rfl, hB2, hG⟩
   have hb2 := Hof.out w2 hG
   have HO2 := HO1.out.gr hG (fun b hv e => by have h1 := (HO1.out.1.lt b hv).1; have h2 := Hlt.out b e; omega) (fun _ _ => trivial)
   have hz2 : w1.heap.size ≤ w2.heap.size := by have := hG.size; omega
   have Hzr := Lib.hid hG.size
   have HO3 := Lib.hid (HO2.later ((Below.refl _ _).alloc (Nat.le_refl _) (.cells #[i64 R.err, i64 R.hav, i64 R.set_, i64 R.num] 31)))
   have Hne := Lib.hid (HO2.new_ne (Nat.le_refl w2.heap.size))
   have HH := Lib.hid (heap_alloc_new w2 (.cells #[i64 R.err, i64 R.hav, i64 R.set_, i64 R.num] 31))
   have hb3 := hb2.alloc hb2.size (.cells #[i64 R.err, i64 R.hav, i64 R.set_, i64 R.num] 31)
   have hB3 := hB2.later ((Below.refl _ _).alloc (Nat.le_refl _) (.cells #[i64 R.err, i64 R.hav, i64 R.set_, i64 R.num] 31))
   have Hz3 := Lib.hid (show w1.heap.size ≤ (w2.alloc (.cells #[i64 R.err, i64 R.hav, i64 R.set_, i64 R.num] 31)).heap.size by simp; omega)
   have Hz4 := Lib.hid (show wr.heap.size ≤ (w2.alloc (.cells #[i64 R.err, i64 R.hav, i64 R.set_, i64 R.num] 31)).heap.size by simp; have := Hzr.out; omega)
   clear HO1 HO2 hG hb2 HD hB2 c0 c1 c2 c3 c4 c5 c6 c7 c8 c9
   go_wp2_with (at_builtin; refine wpList_append_one rfl (some 22) (.tmp 14) (.tmp 21) 39 rfl rfl (.agg #[i64 0, i64 0, i64 0, i64 0]) 32 Tryz.underlying39 rpInfo rfl (by decide) (by decide) rfl HO3.out w2.heap.size R rfl _ 31 HH.out rfl Hne.out trivial (by rw [HLn.out]; omega) Hz3.out ?_; intro v3 w3 hO3 hg3 hat3)
   rw [← HTl.out] at hO3
   obtain ⟨T2, hT2⟩ : ∃ T2 : Nat → Prop, T2 = fun j => T j ∧ v3.ownBlock ≠ some j := ⟨_, rfl⟩
   have hnv : ∀ j, (w2.alloc (.cells #[i64 R.err, i64 R.hav, i64 R.set_, i64 R.num] 31)).heap.size > j → T j → v3.ownBlock ≠ some j := fun j hj ht e => by
    rcases hat3 with h | h
    ·exact HTv.out j (by first | exact h.symm.trans e | exact h.trans e) ht
    ·rw [h] at e
     injection e with e
     omega
   have hB4 := (hB3.room (T' := T2) (fun j hj ht => by rw [hT2]; exact ⟨ht, hnv j hj ht⟩) (fun j hj ht => by rw [hT2] at ht; exact hB3.tn j hj ht.1)).kept (Gr.of_grown hg3) (fun j hj e => by have h1 := (HO3.out.1.lt j e).1; have h2 := Hlt.out j hj; omega) (fun j hj e => by rw [hT2] at hj; exact HTv.out j e hj.1)
   rw [← HF.out] at hB4 HI2
   have hb4 := hb3.trans (HO3.out.below hg3 hsz hb3.size)
   have hz4 := hg3.size
   have hT3 : ∀ j, w3.heap.size ≤ j → T2 j := fun j hj => by
    rw [hT2]
    refine ⟨HTn.out j (Nat.le_trans Hz4.out (Nat.le_trans hz4 hj)), fun e => ?_⟩
    have := (hO3.1.lt j e).2
    omega
   have HT2 := Lib.hid (show (∀ j, T2 j → a.T j) ∧ (∀ g, v3.ownBlock = some g → ¬ T2 g) from ⟨fun j hj => by rw [hT2] at hj; exact HTa.out j hj.1, fun g hv hj => by rw [hT2] at hj; exact hj.2 hv⟩)
   clear hg3 hat3 HO3 HH Hne hB3 hb3 hnv hT2
   go_roundw
   case rel => exact ⟨k + 1, T2, by go_num, by omega, hB4, hT3, HT2.out.1, HT2.out.2, HI2.out, hO3, hb4, Nat.le_trans Hz3.out hz4⟩
   case measure => simp [intOf]; omega
  ·obtain rfl : k = l.length := by omega
   have g1 : decide ((l.length : Int) < (l.length : Int)) = false := decide_eq_false (by omega)
   rw [List.take_length] at hB hI hO
   have HB := Lib.hid (hB.room (fun j _ hj => hTa j hj) (fun j hj => RA.T_own hj))
   have HO := Lib.hid (hO.mono hsz)
   clear hB hI hO hTn hTa hTv
   go_wp2
   go_ret2
   exact ⟨a, _, rfl, HB.out, HO.out, Hba.out, hb⟩
end Go.Proofs.YtampniiehgimhaaGreat
