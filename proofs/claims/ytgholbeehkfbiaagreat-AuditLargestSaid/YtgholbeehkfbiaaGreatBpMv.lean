/- Moves and lines as Lean has them. No program. -/
import Derived.Test.YtgholbeehkfbiaaGreatBpAuP
namespace Go.Proofs.YtgholbeehkfbiaaGreat
open Go.RowKit
/-- audit.Move: the slice of its legs lies at la, of capacity lc -/
structure Mv where
  client : Int
  seq : Int
  period : Int
  la : Option Addr
  lc : Nat
  legs : List Leg
structure Mv.Ok (w : World) (S : Nat → Prop) (x : Mv) : Prop where
  legs : SlS w S x.la x.lc x.legs
instance encMv : Enc Mv where
  size := 4
  cells x := [i64 x.client, i64 x.seq, i64 x.period, .slice x.la x.legs.length x.lc]
  val x := .agg #[i64 x.client, i64 x.seq, i64 x.period, .slice x.la x.legs.length x.lc]
  ok := Mv.Ok
  len _ := rfl
  one _ v hv := by
    simp only [List.mem_cons, List.not_mem_nil, or_false] at hv
    rcases hv with rfl | rfl | rfl | rfl <;> rfl
  keep h hk hB := ⟨h.legs.keep hk hB⟩
/-- what it says -/
def Mv.core (x : Mv) : Id × Int × List Leg := (⟨x.client, x.seq⟩, x.period, x.legs)
def coreM (x : Od) : Id × Int × List Leg := (x.id, x.period, mvL x)
/-- what moves of some periods move -/
def legsM (M : List Mv) (a b : Int) : List Leg := M.flatMap fun x => if a ≤ x.period ∧ x.period ≤ b then x.legs else []
theorem legsM_eq : ∀ (M : List Mv) (L : List Od), M.map Mv.core = L.map coreM → ∀ a b, legsM M a b = legsR L a b
  | [], [], _, _, _ => rfl
  | [], _ :: _, h, _, _ => by cases h
  | _ :: _, [], h, _, _ => by cases h
  | x :: M, y :: L, h, a, b => by
    rw [List.map_cons, List.map_cons] at h
    injection h with h1 h2
    have ih := legsM_eq M L h2 a b
    have e2 : x.period = y.period := congrArg (fun p => p.2.1) h1
    have e3 : x.legs = mvL y := congrArg (fun p => p.2.2) h1
    show (if a ≤ x.period ∧ x.period ≤ b then x.legs else []) ++ legsM M a b = (if a ≤ y.period ∧ y.period ≤ b then mvL y else []) ++ legsR L a b
    rw [ih, e2, e3]
theorem SlS.mv {w : World} {S : Nat → Prop} {c : Nat} {A : Option Addr} {l : List Mv} (h : SlS w S A c l) {k : Nat} (hk : k < l.length) : ∃ b o, A = some ⟨b, o, none⟩ ∧ S b ∧ Mv.Ok w S l[k] ∧
    w.cell? ⟨b, o + k * 4, none⟩ = some (i64 l[k].client) ∧ w.cell? ⟨b, o + k * 4 + 1, none⟩ = some (i64 l[k].seq) ∧ w.cell? ⟨b, o + k * 4 + 2, none⟩ = some (i64 l[k].period) ∧ w.cell? ⟨b, o + k * 4 + 3, none⟩ = some (.slice l[k].la l[k].legs.length l[k].lc) := by
  obtain ⟨b, o, hA, hb, hok, hc⟩ := h.at_ hk
  exact ⟨b, o, hA, hb, hok, hc 0 _ rfl, hc 1 _ rfl, hc 2 _ rfl, hc 3 _ rfl⟩
instance encLn : Enc Ln where
  size := 3
  cells x := [.string x.acct, i64 x.inn, i64 x.out]
  val x := .agg #[.string x.acct, i64 x.inn, i64 x.out]
  ok _ _ x := x.acct.size ≤ maxLen
  len _ := rfl
  one _ v hv := by
    simp only [List.mem_cons, List.not_mem_nil, or_false] at hv
    rcases hv with rfl | rfl | rfl <;> rfl
  keep h _ _ := h
theorem SlS.ln {w : World} {S : Nat → Prop} {c : Nat} {A : Option Addr} {l : List Ln} (h : SlS w S A c l) {k : Nat} (hk : k < l.length) : ∃ b o, A = some ⟨b, o, none⟩ ∧ S b ∧ l[k].acct.size ≤ maxLen ∧
    w.cell? ⟨b, o + k * 3, none⟩ = some (.string l[k].acct) ∧ w.cell? ⟨b, o + k * 3 + 1, none⟩ = some (i64 l[k].inn) ∧ w.cell? ⟨b, o + k * 3 + 2, none⟩ = some (i64 l[k].out) := by
  obtain ⟨b, o, hA, hb, hok, hc⟩ := h.at_ hk
  exact ⟨b, o, hA, hb, hok, hc 0 _ rfl, hc 1 _ rfl, hc 2 _ rfl⟩
end Go.Proofs.YtgholbeehkfbiaaGreat
