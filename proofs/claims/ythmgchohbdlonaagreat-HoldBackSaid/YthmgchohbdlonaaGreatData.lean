/- The data of the program as Lean has them. No program. -/
import Derived.Test.YthmgchohbdlonaaGreatBase
namespace Go.Proofs.YthmgchohbdlonaaGreat
open Go.RowKit

abbrev i64 (n : Int) : Value := .int .i64 n

instance encInt : Enc Int where
  size := 1
  cells n := [i64 n]
  val n := i64 n
  ok _ _ _ := True
  len _ := rfl
  one _ v hv := by simp only [List.mem_singleton] at hv; subst hv; rfl
  keep h _ _ := h
instance encByte : Enc UInt8 where
  size := 1
  cells n := [.int .u8 n.toNat]
  val n := .int .u8 n.toNat
  ok _ _ _ := True
  len _ := rfl
  one _ v hv := by simp only [List.mem_singleton] at hv; subst hv; rfl
  keep h _ _ := h
instance encBool : Enc Bool where
  size := 1
  cells n := [.bool n]
  val n := .bool n
  ok _ _ _ := True
  len _ := rfl
  one _ v hv := by simp only [List.mem_singleton] at hv; subst hv; rfl
  keep h _ _ := h
instance encStr : Enc ByteArray where
  size := 1
  cells s := [.string s]
  val s := .string s
  ok _ _ s := s.size ≤ maxLen
  len _ := rfl
  one _ v hv := by simp only [List.mem_singleton] at hv; subst hv; rfl
  keep h _ _ := h

/-- api.Id -/
structure Id where
  client : Int
  seq : Int
instance encId : Enc Id where
  size := 2
  cells x := [i64 x.client, i64 x.seq]
  val x := .agg #[i64 x.client, i64 x.seq]
  ok _ _ _ := True
  len _ := rfl
  one _ v hv := by simp only [List.mem_cons, List.not_mem_nil, or_false] at hv; rcases hv with rfl | rfl <;> rfl
  keep h _ _ := h
theorem Id.ext_ {a b : Id} (h1 : a.client = b.client) (h2 : a.seq = b.seq) : a = b := by cases a; cases b; simp_all
instance : DecidableEq Id := fun a b => if h : a.client = b.client ∧ a.seq = b.seq then isTrue (Id.ext_ h.1 h.2) else isFalse (fun e => h (by rw [e]; exact ⟨rfl, rfl⟩))

/-- is n an int64? -/
def R64 (n : Int) : Prop := -9223372036854775808 ≤ n ∧ n ≤ 9223372036854775807
/-- api.Leg -/
structure Leg where
  acct : ByteArray
  sum : Int
instance encLeg : Enc Leg where
  size := 2
  cells x := [.string x.acct, i64 x.sum]
  val x := .agg #[.string x.acct, i64 x.sum]
  ok _ _ x := x.acct.size ≤ maxLen
  len _ := rfl
  one _ v hv := by simp only [List.mem_cons, List.not_mem_nil, or_false] at hv; rcases hv with rfl | rfl <;> rfl
  keep h _ _ := h
theorem Leg.ext_ {a b : Leg} (h1 : a.acct = b.acct) (h2 : a.sum = b.sum) : a = b := by cases a; cases b; simp_all
instance : DecidableEq Leg := fun a b => if h : a.acct = b.acct ∧ a.sum = b.sum then isTrue (Leg.ext_ h.1 h.2) else isFalse (fun e => h (by rw [e]; exact ⟨rfl, rfl⟩))

/-- api.Order: the slice of its legs lies at la, of capacity lc, and reads as legs -/
structure Od where
  client : Int
  seq : Int
  kind : Int
  acct : ByteArray
  peer : ByteArray
  sum : Int
  la : Option Addr
  lc : Nat
  legs : List Leg
  period : Int
  hold : Int
  note : ByteArray
def Od.id (x : Od) : Id := ⟨x.client, x.seq⟩
def Od.cells (x : Od) : List Value :=
  [i64 x.client, i64 x.seq, i64 x.kind, .string x.acct, .string x.peer, i64 x.sum, .slice x.la x.legs.length x.lc, i64 x.period, i64 x.hold, .string x.note]
def Od.v (x : Od) : Value := .agg #[i64 x.client, i64 x.seq, i64 x.kind, .string x.acct, .string x.peer, i64 x.sum, .slice x.la x.legs.length x.lc, i64 x.period, i64 x.hold, .string x.note]
structure Od.Ok (w : World) (S : Nat → Prop) (x : Od) : Prop where
  acct : x.acct.size ≤ maxLen
  peer : x.peer.size ≤ maxLen
  note : x.note.size ≤ maxLen
  legs : SlS w S x.la x.lc x.legs
instance encOd : Enc Od where
  size := 10
  cells := Od.cells
  val := Od.v
  ok := Od.Ok
  len _ := rfl
  one _ v hv := by
    simp only [Od.cells, List.mem_cons, List.not_mem_nil, or_false] at hv
    rcases hv with rfl | rfl | rfl | rfl | rfl | rfl | rfl | rfl | rfl | rfl <;> rfl
  keep h hk hB := ⟨h.acct, h.peer, h.note, h.legs.keep hk hB⟩
theorem SlS.od {w : World} {S : Nat → Prop} {c : Nat} {A : Option Addr} {l : List Od} (h : SlS w S A c l) {k : Nat} (hk : k < l.length) : ∃ b o, A = some ⟨b, o, none⟩ ∧ S b ∧ Od.Ok w S l[k] ∧
    w.cell? ⟨b, o + k * 10, none⟩ = some (i64 l[k].client) ∧ w.cell? ⟨b, o + k * 10 + 1, none⟩ = some (i64 l[k].seq) ∧ w.cell? ⟨b, o + k * 10 + 2, none⟩ = some (i64 l[k].kind) ∧
    w.cell? ⟨b, o + k * 10 + 3, none⟩ = some (.string l[k].acct) ∧ w.cell? ⟨b, o + k * 10 + 4, none⟩ = some (.string l[k].peer) ∧ w.cell? ⟨b, o + k * 10 + 5, none⟩ = some (i64 l[k].sum) ∧
    w.cell? ⟨b, o + k * 10 + 6, none⟩ = some (.slice l[k].la l[k].legs.length l[k].lc) ∧ w.cell? ⟨b, o + k * 10 + 7, none⟩ = some (i64 l[k].period) ∧ w.cell? ⟨b, o + k * 10 + 8, none⟩ = some (i64 l[k].hold) ∧
    w.cell? ⟨b, o + k * 10 + 9, none⟩ = some (.string l[k].note) := by
  obtain ⟨b, o, hA, hb, hok, hc⟩ := h.at_ hk
  exact ⟨b, o, hA, hb, hok, hc 0 _ rfl, hc 1 _ rfl, hc 2 _ rfl, hc 3 _ rfl, hc 4 _ rfl, hc 5 _ rfl, hc 6 _ rfl, hc 7 _ rfl, hc 8 _ rfl, hc 9 _ rfl⟩
theorem SlS.str {w : World} {S : Nat → Prop} {c : Nat} {A : Option Addr} {l : List ByteArray} (h : SlS w S A c l) {k : Nat} (hk : k < l.length) : ∃ b o, A = some ⟨b, o, none⟩ ∧ S b ∧ l[k].size ≤ maxLen ∧ w.cell? ⟨b, o + k, none⟩ = some (.string l[k]) := by
  obtain ⟨b, o, hA, hb, hok, hc⟩ := h.at_ hk
  have h0 := hc 0 _ rfl
  rw [show k * Enc.size ByteArray + 0 = k from Nat.mul_one k] at h0
  exact ⟨b, o, hA, hb, hok, h0⟩
theorem SlS.leg {w : World} {S : Nat → Prop} {c : Nat} {A : Option Addr} {l : List Leg} (h : SlS w S A c l) {k : Nat} (hk : k < l.length) : ∃ b o, A = some ⟨b, o, none⟩ ∧ S b ∧ l[k].acct.size ≤ maxLen ∧
    w.cell? ⟨b, o + k * 2, none⟩ = some (.string l[k].acct) ∧ w.cell? ⟨b, o + k * 2 + 1, none⟩ = some (i64 l[k].sum) := by
  obtain ⟨b, o, hA, hb, hok, hc⟩ := h.at_ hk
  exact ⟨b, o, hA, hb, hok, hc 0 _ rfl, hc 1 _ rfl⟩
end Go.Proofs.YthmgchohbdlonaaGreat
