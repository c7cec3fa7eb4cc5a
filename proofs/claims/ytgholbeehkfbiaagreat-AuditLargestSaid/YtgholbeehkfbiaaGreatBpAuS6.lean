/- audit: Largest -/
import Derived.Test.YtgholbeehkfbiaaGreatRows
import Derived.Test.YtgholbeehkfbiaaGreatBpAuS5
import Derived.WalkKit
import Derived.WalkSpells
import Derived.WalkLawsBesides
import Derived.Deep.QuietTactic
import Derived.BigQuiet
import Derived.Laws.StructEq
import Derived.Deep.DeepFit
import Derived.StillTailTactics
namespace Go.Proofs.YtgholbeehkfbiaaGreat
open Go.RowKit
set_option maxRecDepth 100000 in
set_option maxHeartbeats 4000000 in
theorem asort_c (B : Nat) (v : Value) (M : List Mv) (w : World) (h : Own w B 85 v M) (hn : M.length ≤ 60000) (hq : ∀ x ∈ M, okMv x) (hB : B ≤ w.heap.size) :
    Calls Tryz.prog 88 #[v, .func (.func 89) #[] #[]] w fun e w' => e = .returned (.tuple #[]) ∧ Own w' B 85 v (sortB ltM M) ∧ Below B w w' := by
  by_cases h1 : M.length ≤ 1
  · obtain ⟨Am, cm, rfl, hsm⟩ := h.sl
    have e : sortB ltM M = M := by
      cases M with
      | nil => rfl
      | cons x M =>
        cases M with
        | nil => rfl
        | cons y M => simp at h1
    refine (asort1_c Am M.length cm _ w h1).mono ?_
    rintro e w' ⟨rfl, rfl⟩
    exact ⟨rfl, by rw [show sortB ltM M = M from ‹_›]; exact h, Below.refl _ _⟩
  · obtain ⟨g, cap, cur, rfl, -⟩ := h.form (by omega)
    have hR : RowM w B g M.length cap M := ⟨h, rfl⟩
    have HS := Lib.hid (astab_c B g M.length cap M w hR hn hq hB)
    clear h hR hq hB
    generalize hk : M.length = n at *
    have Hk := Lib.hid hk
    clear hk
    go_enter Tryz.func88, Tryz.ntmps88
    go_wp2_with fail
    refine HS.out.mono ?_
    rintro e w1 ⟨rfl, hO, hF⟩
    have HO := Lib.hid hO.own
    have HF := Lib.hid hF
    clear hO hF HS
    go_wp2
    go_end0
    exact ⟨rfl, HO.out, HF.out⟩
/-- moves, sorted by what they move -/
def ltC (a b : Id × Int × List Leg) : Bool := decide (amtL b.2.2 < amtL a.2.2)
theorem map_insM (x : Mv) : ∀ L : List Mv, (insB ltM x L).map Mv.core = insB ltC x.core (L.map Mv.core)
  | [] => rfl
  | y :: L => by
    have ih := map_insM x L
    show List.map Mv.core (if ltM y x = true then y :: insB ltM x L else x :: y :: L) = (if ltM y x = true then y.core :: insB ltC x.core (L.map Mv.core) else x.core :: y.core :: L.map Mv.core)
    by_cases h : ltM y x = true
    · rw [if_pos h, if_pos h, List.map_cons, ih]
    · rw [if_neg h, if_neg h]; rfl
theorem map_sortM : ∀ L : List Mv, (sortB ltM L).map Mv.core = sortB ltC (L.map Mv.core)
  | [] => rfl
  | x :: L => by
    show (insB ltM x (sortB ltM L)).map Mv.core = insB ltC x.core (sortB ltC (L.map Mv.core))
    rw [map_insM, map_sortM L]
theorem mv_ok {l : List Od} (hx : ∀ x ∈ l, OdB x) {M : List Mv} (hc : M.map Mv.core = (movedL l).map coreM) : ∀ x ∈ M, okMv x := fun x hm => by
  have h1 : x.core ∈ (movedL l).map coreM := by rw [← hc]; exact List.mem_map_of_mem hm
  obtain ⟨y, hy, e⟩ := List.mem_map.1 h1
  obtain ⟨hyl, hmv⟩ := movedL_mem hx hy
  have e3 : mvL y = x.legs := congrArg (fun p => p.2.2) e
  exact ⟨by rw [← e3]; have := hmv.fits.2.1; omega, by rw [← e3]; exact hmv.sums (hx y hyl)⟩
/-- audit.Largest: the ids of the moves that move most -/
def largI (l : List Od) (n : Int) : List Id := ((sortB ltC ((movedL l).map coreM)).take (max n 0).toNat).map (·.1)
theorem alarg_c (A : Option Addr) (c : Nat) (l : List Od) (n : Int) (w : World) (h : Sl w w.heap.size A c l) (hx : ∀ x ∈ l, OdB x) (hl : ∀ x ∈ l, x.legs.length ≤ 65536) (hn : l.length ≤ 60000) :
    Calls Tryz.prog 51 #[.slice A l.length c, i64 n] w fun e w' => ∃ v, e = .returned v ∧ Own w' w.heap.size 34 v (largI l n) ∧ Below w.heap.size w w' :=
  alargG_c A c l n _ w h hx hl hn (by rw [(sortB_perm _).length_eq, List.length_map]) fun v M W hc hO hW => by
    have hM : M.length ≤ 60000 := by have := congrArg List.length hc; rw [List.length_map, List.length_map] at this; have := movedL_len l; omega
    refine (asort_c w.heap.size v M W hO hM (mv_ok hx hc) hW).mono ?_
    rintro e w' ⟨rfl, h1, h2⟩
    exact ⟨rfl, sortB ltM M, by rw [map_sortM, hc], h1, h2⟩
end Go.Proofs.YtgholbeehkfbiaaGreat
