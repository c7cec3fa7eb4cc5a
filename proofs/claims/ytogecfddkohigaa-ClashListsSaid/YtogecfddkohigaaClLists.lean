/- ClashLists -/
import Derived.Test.YtogecfddkohigaaRows
import Derived.Test.YtogecfddkohigaaRDefs
import Derived.Test.YtogecfddkohigaaRRest
import Derived.Test.YtogecfddkohigaaRRight
import Derived.Test.YtogecfddkohigaaLives
import Derived.Test.YtogecfddkohigaaFewL
import Derived.Test.YtogecfddkohigaaLaw10
import Derived.Test.YtogecfddkohigaaSameL
import Derived.Test.YtogecfddkohigaaOthers
import Derived.Deep.RegionHeld3
import Derived.WalkKit
import Derived.WalkSpells
import Derived.WalkLawsBesides
import Derived.Deep.QuietTactic
import Derived.BigQuiet
import Derived.Laws.StructEq
import Derived.Deep.DeepFit
import Derived.StillTailTactics
namespace Go.Proofs.Ytogecfddkohigaa
open Go.RowKit
theorem restL_len (a b : List Od) : (restL a b).length ≤ b.length := by
  unfold restL; split
  · exact othersL_len a b
  · simp
theorem restL_few {a b : List Od} (h : fewLegs b) : fewLegs (restL a b) := fun x hx => by
  unfold restL at hx; split at hx
  · exact h x (othersL_sub a b x hx)
  · simp at hx
set_option maxRecDepth 100000 in
set_option maxHeartbeats 8000000 in
theorem claLists_c (hC : RClash) (hR : RBegins) (A B : Option Addr) (c d : Nat) (a b : List Od) (w : World) (ha : Sl w w.heap.size A c a) (hb : Sl w w.heap.size B d b) :
    Calls Try.prog 3 #[.slice A a.length c, .slice B b.length d] w fun e w' => e = .returned (.bool true) ∧ Below w.heap.size w w' := by
  have HC := Lib.hid hC
  have HB := Lib.hid hR
  clear hC hR
  go_enter Try.func3, Try.ntmps3
  go_wp2_with fail
  refine (lives_10 _).mono ?_
  rintro e w1 ⟨rfl, hB⟩
  have ha := ha.later hB
  have hb := hb.later hB
  go_wp2_with fail
  refine (few_10 A c 30 a _ ha (by decide)).mono ?_
  rintro e wfL ⟨v, rfl, hO, hF⟩
  have hB := below_on hB (by omega) hF
  have hb := hb.later hF
  have nL := fewL_le 30 a
  have lL : fewLegs (fewL 30 a) := fun x hx => Nat.le_trans (fewL_legs 30 a x hx) (by decide)
  clear hF
  generalize fewL 30 a = L at hO nL lL
  obtain ⟨AL, cL, rfl, hL⟩ := hO.sl
  clear hO
  go_wp2_with fail
  refine (few_10 B d 30 b _ hb (by decide)).mono ?_
  rintro e wfM ⟨v, rfl, hO, hF⟩
  have hB := below_on hB (by omega) hF
  have hL := hL.later hF
  have nM := fewL_le 30 b
  have lM : fewLegs (fewL 30 b) := fun x hx => Nat.le_trans (fewL_legs 30 b x hx) (by decide)
  clear hF
  generalize fewL 30 b = M at hO nM lM
  obtain ⟨AM, cM, rfl, hM⟩ := hO.sl
  clear hO
  go_wp2_with fail
  obtain ⟨wz, hwz⟩ : ∃ wz : World, wz = wfM := ⟨_, rfl⟩
  subst hwz
  go_loopw [5] (fun i W => ∃ k : Nat, i = i64 k ∧ k ≤ L.length ∧ Below wz.heap.size wz W) (fun i _ => L.length - (intOf i).toNat)
  case atStart => exact ⟨0, rfl, by omega, Below.refl _ _⟩
  case round =>
    obtain ⟨k, rfl, hk, hW⟩ := hrel
    by_cases hx : k < L.length
    · by_cases hy : k < M.length
      · obtain ⟨b1, o1, rfl, -, hok, e0, e1, e2, e3, e4, e5, e6, e7, e8, e9⟩ := (hL.later hW).od hx
        obtain ⟨b2, o2, rfl, -, hok2, d0, d1, d2, d3, d4, d5, d6, d7, d8, d9⟩ := (hM.later hW).od hy
        have Hok := Lib.hid hok
        have Hok2 := Lib.hid hok2
        clear hok hok2
        have xO : ∀ V, Below wr.heap.size wr V → Calls Try.prog 12 #[.agg #[i64 L[k].client, i64 L[k].seq, i64 L[k].kind, .string L[k].acct, .string L[k].peer, i64 L[k].sum, .slice L[k].la L[k].legs.length L[k].lc, i64 L[k].period, i64 L[k].hold, .string L[k].note], .agg #[i64 M[k].client, i64 M[k].seq, i64 M[k].kind, .string M[k].acct, .string M[k].peer, i64 M[k].sum, .slice M[k].la M[k].legs.length M[k].lc, i64 M[k].period, i64 M[k].hold, .string M[k].note]] V fun e w' => e = .returned (.bool (clashB L[k] M[k])) ∧ Below V.heap.size V w' := fun V h => clash_c L[k] M[k] V (Okb.later Hok.out h) (Okb.later Hok2.out h) (lL _ (List.getElem_mem _)) (lM _ (List.getElem_mem _))
        have xR : ∀ V, Below wr.heap.size wr V → Calls Try.prog 13 #[.agg #[i64 L[k].client, i64 L[k].seq, i64 L[k].kind, .string L[k].acct, .string L[k].peer, i64 L[k].sum, .slice L[k].la L[k].legs.length L[k].lc, i64 L[k].period, i64 L[k].hold, .string L[k].note], .agg #[i64 M[k].client, i64 M[k].seq, i64 M[k].kind, .string M[k].acct, .string M[k].peer, i64 M[k].sum, .slice M[k].la M[k].legs.length M[k].lc, i64 M[k].period, i64 M[k].hold, .string M[k].note]] V fun e w' => e = .returned (.bool (clashB L[k] M[k])) ∧ Below V.heap.size V w' := fun V h => HC.out L[k] M[k] V (Okb.later Hok.out h) (Okb.later Hok2.out h) (lL _ (List.getElem_mem _)) (lM _ (List.getElem_mem _))
        generalize clashB L[k] M[k] = v at xO xR
        have qv : (v != v) = false := by simp
        have i0 : (0 : Int) ≤ (k : Int) := by omega
        have i1 : (k : Int) < (L.length : Int) := by omega
        have i2 : (k : Int) < (M.length : Int) := by omega
        have hI := hW
        have hS : ∀ V, Below wr.heap.size wr V → (fun W' : World => Below wr.heap.size wr W' ∧ W'.cell? ⟨b1, o1 + k * 10, none⟩ = some (i64 L[k].client) ∧ W'.cell? ⟨b1, o1 + k * 10 + 1, none⟩ = some (i64 L[k].seq) ∧ W'.cell? ⟨b1, o1 + k * 10 + 2, none⟩ = some (i64 L[k].kind) ∧ W'.cell? ⟨b1, o1 + k * 10 + 3, none⟩ = some (.string L[k].acct) ∧ W'.cell? ⟨b1, o1 + k * 10 + 4, none⟩ = some (.string L[k].peer) ∧ W'.cell? ⟨b1, o1 + k * 10 + 5, none⟩ = some (i64 L[k].sum) ∧ W'.cell? ⟨b1, o1 + k * 10 + 6, none⟩ = some (.slice L[k].la L[k].legs.length L[k].lc) ∧ W'.cell? ⟨b1, o1 + k * 10 + 7, none⟩ = some (i64 L[k].period) ∧ W'.cell? ⟨b1, o1 + k * 10 + 8, none⟩ = some (i64 L[k].hold) ∧ W'.cell? ⟨b1, o1 + k * 10 + 9, none⟩ = some (.string L[k].note) ∧ W'.cell? ⟨b2, o2 + k * 10, none⟩ = some (i64 M[k].client) ∧ W'.cell? ⟨b2, o2 + k * 10 + 1, none⟩ = some (i64 M[k].seq) ∧ W'.cell? ⟨b2, o2 + k * 10 + 2, none⟩ = some (i64 M[k].kind) ∧ W'.cell? ⟨b2, o2 + k * 10 + 3, none⟩ = some (.string M[k].acct) ∧ W'.cell? ⟨b2, o2 + k * 10 + 4, none⟩ = some (.string M[k].peer) ∧ W'.cell? ⟨b2, o2 + k * 10 + 5, none⟩ = some (i64 M[k].sum) ∧ W'.cell? ⟨b2, o2 + k * 10 + 6, none⟩ = some (.slice M[k].la M[k].legs.length M[k].lc) ∧ W'.cell? ⟨b2, o2 + k * 10 + 7, none⟩ = some (i64 M[k].period) ∧ W'.cell? ⟨b2, o2 + k * 10 + 8, none⟩ = some (i64 M[k].hold) ∧ W'.cell? ⟨b2, o2 + k * 10 + 9, none⟩ = some (.string M[k].note)) V := fun V h => ⟨h, (h.cell (World.block_lt_of_cell? _ _ e0)).trans e0, (h.cell (World.block_lt_of_cell? _ _ e1)).trans e1, (h.cell (World.block_lt_of_cell? _ _ e2)).trans e2, (h.cell (World.block_lt_of_cell? _ _ e3)).trans e3, (h.cell (World.block_lt_of_cell? _ _ e4)).trans e4, (h.cell (World.block_lt_of_cell? _ _ e5)).trans e5, (h.cell (World.block_lt_of_cell? _ _ e6)).trans e6, (h.cell (World.block_lt_of_cell? _ _ e7)).trans e7, (h.cell (World.block_lt_of_cell? _ _ e8)).trans e8, (h.cell (World.block_lt_of_cell? _ _ e9)).trans e9, (h.cell (World.block_lt_of_cell? _ _ d0)).trans d0, (h.cell (World.block_lt_of_cell? _ _ d1)).trans d1, (h.cell (World.block_lt_of_cell? _ _ d2)).trans d2, (h.cell (World.block_lt_of_cell? _ _ d3)).trans d3, (h.cell (World.block_lt_of_cell? _ _ d4)).trans d4, (h.cell (World.block_lt_of_cell? _ _ d5)).trans d5, (h.cell (World.block_lt_of_cell? _ _ d6)).trans d6, (h.cell (World.block_lt_of_cell? _ _ d7)).trans d7, (h.cell (World.block_lt_of_cell? _ _ d8)).trans d8, (h.cell (World.block_lt_of_cell? _ _ d9)).trans d9⟩
        clear Hok Hok2
        have h5 := (Below.refl wr.heap.size wr).drew
        clear hW HC HB hB lL lM hL hM
        go_wp2_with fail
        refine wp_region_noPanic ?_
        refine wp_region_held_drew (S := fun W' => Below wr.heap.size wr W' ∧ W'.cell? ⟨b1, o1 + k * 10, none⟩ = some (i64 L[k].client) ∧ W'.cell? ⟨b1, o1 + k * 10 + 1, none⟩ = some (i64 L[k].seq) ∧ W'.cell? ⟨b1, o1 + k * 10 + 2, none⟩ = some (i64 L[k].kind) ∧ W'.cell? ⟨b1, o1 + k * 10 + 3, none⟩ = some (.string L[k].acct) ∧ W'.cell? ⟨b1, o1 + k * 10 + 4, none⟩ = some (.string L[k].peer) ∧ W'.cell? ⟨b1, o1 + k * 10 + 5, none⟩ = some (i64 L[k].sum) ∧ W'.cell? ⟨b1, o1 + k * 10 + 6, none⟩ = some (.slice L[k].la L[k].legs.length L[k].lc) ∧ W'.cell? ⟨b1, o1 + k * 10 + 7, none⟩ = some (i64 L[k].period) ∧ W'.cell? ⟨b1, o1 + k * 10 + 8, none⟩ = some (i64 L[k].hold) ∧ W'.cell? ⟨b1, o1 + k * 10 + 9, none⟩ = some (.string L[k].note) ∧ W'.cell? ⟨b2, o2 + k * 10, none⟩ = some (i64 M[k].client) ∧ W'.cell? ⟨b2, o2 + k * 10 + 1, none⟩ = some (i64 M[k].seq) ∧ W'.cell? ⟨b2, o2 + k * 10 + 2, none⟩ = some (i64 M[k].kind) ∧ W'.cell? ⟨b2, o2 + k * 10 + 3, none⟩ = some (.string M[k].acct) ∧ W'.cell? ⟨b2, o2 + k * 10 + 4, none⟩ = some (.string M[k].peer) ∧ W'.cell? ⟨b2, o2 + k * 10 + 5, none⟩ = some (i64 M[k].sum) ∧ W'.cell? ⟨b2, o2 + k * 10 + 6, none⟩ = some (.slice M[k].la M[k].legs.length M[k].lc) ∧ W'.cell? ⟨b2, o2 + k * 10 + 7, none⟩ = some (i64 M[k].period) ∧ W'.cell? ⟨b2, o2 + k * 10 + 8, none⟩ = some (i64 M[k].hold) ∧ W'.cell? ⟨b2, o2 + k * 10 + 9, none⟩ = some (.string M[k].note)) (by kernel_rfl) (hS _ h5) (fun hH => ?_)
        refine wpAnyH_take (i := 0) (v := ?v100) rfl (by kernel_rfl) (by kernel_rfl) (by kernel_rfl) (fun _ _ _ h => h) (Or.inl ⟨by kernel_rfl, ?hy100⟩) (by assumption) ?r100
        case hy100 => (intro W hSW; obtain ⟨_, f0, f1, f2, f3, f4, f5, f6, f7, f8, f9, f10, f11, f12, f13, f14, f15, f16, f17, f18, f19⟩ := hSW; go_simp; try with_reducible rfl)
        simp only [Act.put, List.setIfInBounds_toArray]
        refine wpAnyH_take (i := 1) (v := ?v201) rfl (by kernel_rfl) (by kernel_rfl) (by kernel_rfl) (fun _ _ _ h => h) (Or.inl ⟨by kernel_rfl, ?hy201⟩) (by assumption) ?r201
        case hy201 => (intro W hSW; obtain ⟨_, f0, f1, f2, f3, f4, f5, f6, f7, f8, f9, f10, f11, f12, f13, f14, f15, f16, f17, f18, f19⟩ := hSW; go_simp; try with_reducible rfl)
        simp only [Act.put]
        refine wpAnyH_take (i := 2) (v := ?v302) rfl (by kernel_rfl) (by kernel_rfl) (by kernel_rfl) (fun _ _ _ h => h) (Or.inl ⟨by kernel_rfl, ?hy302⟩) (by assumption) ?r302
        case hy302 => (intro W hSW; obtain ⟨_, f0, f1, f2, f3, f4, f5, f6, f7, f8, f9, f10, f11, f12, f13, f14, f15, f16, f17, f18, f19⟩ := hSW; go_simp; try with_reducible rfl)
        simp only [Act.put]
        refine wpAnyH_take (i := 3) (v := ?v403) rfl (by kernel_rfl) (by kernel_rfl) (by kernel_rfl) (fun _ _ _ h => h) (Or.inl ⟨by kernel_rfl, ?hy403⟩) (by assumption) ?r403
        case hy403 => (intro W hSW; obtain ⟨_, f0, f1, f2, f3, f4, f5, f6, f7, f8, f9, f10, f11, f12, f13, f14, f15, f16, f17, f18, f19⟩ := hSW; go_simp; try with_reducible rfl)
        simp only [Act.put]
        refine wpAnyH_take (i := 4) (v := ?v504) rfl (by kernel_rfl) (by kernel_rfl) (by kernel_rfl) (fun _ _ _ h => h) (Or.inl ⟨by kernel_rfl, ?hy504⟩) (by assumption) ?r504
        case hy504 => (intro W hSW; obtain ⟨_, f0, f1, f2, f3, f4, f5, f6, f7, f8, f9, f10, f11, f12, f13, f14, f15, f16, f17, f18, f19⟩ := hSW; go_simp; try with_reducible rfl)
        simp only [Act.put]
        refine wpAnyH_take (i := 5) (v := ?v605) rfl (by kernel_rfl) (by kernel_rfl) (by kernel_rfl) (fun _ _ _ h => h) (Or.inl ⟨by kernel_rfl, ?hy605⟩) (by assumption) ?r605
        case hy605 => (intro W hSW; obtain ⟨_, f0, f1, f2, f3, f4, f5, f6, f7, f8, f9, f10, f11, f12, f13, f14, f15, f16, f17, f18, f19⟩ := hSW; go_simp; try with_reducible rfl)
        simp only [Act.put]
        refine wpAnyH_take (i := 6) (v := ?v706) rfl (by kernel_rfl) (by kernel_rfl) (by kernel_rfl) (fun _ _ _ h => h) (Or.inl ⟨by kernel_rfl, ?hy706⟩) (by assumption) ?r706
        case hy706 => (intro W hSW; obtain ⟨_, f0, f1, f2, f3, f4, f5, f6, f7, f8, f9, f10, f11, f12, f13, f14, f15, f16, f17, f18, f19⟩ := hSW; go_simp; try with_reducible rfl)
        simp only [Act.put]
        refine wpAnyH_take (i := 7) (v := ?v807) rfl (by kernel_rfl) (by kernel_rfl) (by kernel_rfl) (fun _ _ _ h => h) (Or.inl ⟨by kernel_rfl, ?hy807⟩) (by assumption) ?r807
        case hy807 => (intro W hSW; obtain ⟨_, f0, f1, f2, f3, f4, f5, f6, f7, f8, f9, f10, f11, f12, f13, f14, f15, f16, f17, f18, f19⟩ := hSW; go_simp; try with_reducible rfl)
        simp only [Act.put]
        refine wpAnyH_take (i := 9) (v := ?v909) rfl (by kernel_rfl) (by kernel_rfl) (by kernel_rfl) (fun _ _ _ h => h) (Or.inl ⟨by kernel_rfl, ?hy909⟩) (by assumption) ?r909
        case hy909 => (intro W hSW; obtain ⟨_, f0, f1, f2, f3, f4, f5, f6, f7, f8, f9, f10, f11, f12, f13, f14, f15, f16, f17, f18, f19⟩ := hSW; go_simp; try with_reducible rfl)
        simp only [Act.put]
        refine wpAnyH_take (i := 10) (v := ?v1010) rfl (by kernel_rfl) (by kernel_rfl) (by kernel_rfl) (fun _ _ _ h => h) (Or.inl ⟨by kernel_rfl, ?hy1010⟩) (by assumption) ?r1010
        case hy1010 => (intro W hSW; obtain ⟨_, f0, f1, f2, f3, f4, f5, f6, f7, f8, f9, f10, f11, f12, f13, f14, f15, f16, f17, f18, f19⟩ := hSW; go_simp; try with_reducible rfl)
        simp only [Act.put]
        refine wpAnyH_take (i := 11) (v := ?v1111) rfl (by kernel_rfl) (by kernel_rfl) (by kernel_rfl) (fun _ _ _ h => h) (Or.inl ⟨by kernel_rfl, ?hy1111⟩) (by assumption) ?r1111
        case hy1111 => (intro W hSW; obtain ⟨_, f0, f1, f2, f3, f4, f5, f6, f7, f8, f9, f10, f11, f12, f13, f14, f15, f16, f17, f18, f19⟩ := hSW; go_simp; try with_reducible rfl)
        simp only [Act.put]
        refine wpAnyH_take (i := 12) (v := ?v1212) rfl (by kernel_rfl) (by kernel_rfl) (by kernel_rfl) (fun _ _ _ h => h) (Or.inl ⟨by kernel_rfl, ?hy1212⟩) (by assumption) ?r1212
        case hy1212 => (intro W hSW; obtain ⟨_, f0, f1, f2, f3, f4, f5, f6, f7, f8, f9, f10, f11, f12, f13, f14, f15, f16, f17, f18, f19⟩ := hSW; go_simp; try with_reducible rfl)
        simp only [Act.put]
        refine wpAnyH_take (i := 13) (v := ?v1313) rfl (by kernel_rfl) (by kernel_rfl) (by kernel_rfl) (fun _ _ _ h => h) (Or.inl ⟨by kernel_rfl, ?hy1313⟩) (by assumption) ?r1313
        case hy1313 => (intro W hSW; obtain ⟨_, f0, f1, f2, f3, f4, f5, f6, f7, f8, f9, f10, f11, f12, f13, f14, f15, f16, f17, f18, f19⟩ := hSW; go_simp; try with_reducible rfl)
        simp only [Act.put]
        refine wpAnyH_take (i := 14) (v := ?v1414) rfl (by kernel_rfl) (by kernel_rfl) (by kernel_rfl) (fun _ _ _ h => h) (Or.inl ⟨by kernel_rfl, ?hy1414⟩) (by assumption) ?r1414
        case hy1414 => (intro W hSW; obtain ⟨_, f0, f1, f2, f3, f4, f5, f6, f7, f8, f9, f10, f11, f12, f13, f14, f15, f16, f17, f18, f19⟩ := hSW; go_simp; try with_reducible rfl)
        simp only [Act.put]
        refine wpAnyH_take (i := 15) (v := ?v1515) rfl (by kernel_rfl) (by kernel_rfl) (by kernel_rfl) (fun _ _ _ h => h) (Or.inl ⟨by kernel_rfl, ?hy1515⟩) (by assumption) ?r1515
        case hy1515 => (intro W hSW; obtain ⟨_, f0, f1, f2, f3, f4, f5, f6, f7, f8, f9, f10, f11, f12, f13, f14, f15, f16, f17, f18, f19⟩ := hSW; go_simp; try with_reducible rfl)
        simp only [Act.put]
        refine wpAnyH_take (i := 16) (v := ?v1616) rfl (by kernel_rfl) (by kernel_rfl) (by kernel_rfl) (fun _ _ _ h => h) (Or.inl ⟨by kernel_rfl, ?hy1616⟩) (by assumption) ?r1616
        case hy1616 => (intro W hSW; obtain ⟨_, f0, f1, f2, f3, f4, f5, f6, f7, f8, f9, f10, f11, f12, f13, f14, f15, f16, f17, f18, f19⟩ := hSW; go_simp; try with_reducible rfl)
        simp only [Act.put]
        refine wpAnyH_ready (rs := [8]) (by kernel_rfl) (by simp) ?_
        refine AllReadyH.cons rfl (fun K hK => ?_) AllReadyH.nil
        go_simp
        go_at_call 12
        with_reducible refine (xO _ h5).mono ?_
        rintro e w6 ⟨rfl, hF⟩
        have h6 := below_on h5 (Nat.le_refl _) hF
        refine hK.out _ _ (hS _ h6) (fun hG6 => ?_)
        clear hK K hF
        refine wpAnyH_ready (rs := [17]) (by kernel_rfl) (by simp) ?_
        refine AllReadyH.cons rfl (fun K hK => ?_) AllReadyH.nil
        go_simp
        go_at_call 13
        with_reducible refine (xR _ h6).mono ?_
        rintro e w7 ⟨rfl, hF⟩
        have h7 := below_on h6 (Nat.le_refl _) hF
        refine hK.out _ _ (hS _ h7) (fun hG7 => ?_)
        clear hK K hF
        refine wpAnyH_take (i := 18) (v := ?v1718) rfl (by kernel_rfl) (by kernel_rfl) (by kernel_rfl) (fun _ _ _ h => h) (Or.inl ⟨by kernel_rfl, ?hy1718⟩) (by assumption) ?r1718
        case hy1718 => (intro W hSW; obtain ⟨_, f0, f1, f2, f3, f4, f5, f6, f7, f8, f9, f10, f11, f12, f13, f14, f15, f16, f17, f18, f19⟩ := hSW; go_simp; try with_reducible rfl)
        simp only [Act.put, List.setIfInBounds_toArray]
        refine wpAnyH_done (by kernel_rfl) ?_ _
        refine NoPanic.normal ?_
        have hI := below_on hI (Nat.le_refl _) h7
        clear hH hG6 hG7 hS xO xR h5 h6 h7
        go_wp2
        go_roundw
        case rel => exact ⟨k + 1, by go_num, by omega, hI⟩
        case measure => simp [intOf]; omega
      · have g2 : decide ((k : Int) < (M.length : Int)) = false := decide_eq_false (by omega)
        have hL := hL.later hW
        have hM := hM.later hW
        have hB := below_on hB (Nat.le_refl _) hW
        clear hW
        have c1 : ∀ W, Sl W W.heap.size AL cL L → Sl W W.heap.size AM cM M → Calls Try.prog 14 #[.slice AL L.length cL, .slice AM M.length cM] W fun e w' => ∃ v, e = .returned (.tuple #[v, .bool (meetOk L M)]) ∧ Own w' W.heap.size 30 v (meetR L M) ∧ Below W.heap.size W w' := fun W h k => meet_c AL AM cL cM L M W h k (by omega) (by omega) lL lM
        have c2 : ∀ W, Sl W W.heap.size AL cL L → Sl W W.heap.size AM cM M → Calls Try.prog 15 #[.slice AL L.length cL, .slice AM M.length cM] W fun e w' => ∃ v, e = .returned (.tuple #[v, .bool (meetOk L M)]) ∧ Own w' W.heap.size 30 v (meetR L M) ∧ Below W.heap.size W w' := fun W h k => rmeet_c HB.out AL AM cL cM L M W h k (by omega) (by omega) lL lM
        have c3 : ∀ W, Sl W W.heap.size AL cL L → Calls Try.prog 16 #[.slice AL L.length cL] W fun e w' => e = .returned (.bool (validL L)) ∧ Below W.heap.size W w' := fun W h => right_c AL cL L W h (by omega)
        have c4 : ∀ W, Sl W W.heap.size AL cL L → Calls Try.prog 17 #[.slice AL L.length cL] W fun e w' => e = .returned (.bool (validL L)) ∧ Below W.heap.size W w' := fun W h => rright_c AL cL L W h (by omega)
        have c5 : ∀ W, Sl W W.heap.size AL cL L → Sl W W.heap.size AM cM M → Calls Try.prog 18 #[.slice AL L.length cL, .slice AM M.length cM] W fun e w' => e = .returned (.bool (beginsB L M)) ∧ Below W.heap.size W w' := fun W h k => begins_c AL AM cL cM L M W h k (by omega) (by omega) lL lM
        have c6 : ∀ W, Sl W W.heap.size AL cL L → Sl W W.heap.size AM cM M → Calls Try.prog 19 #[.slice AL L.length cL, .slice AM M.length cM] W fun e w' => e = .returned (.bool (beginsB L M)) ∧ Below W.heap.size W w' := fun W h k => HB.out AL AM cL cM L M W h k (by omega) (by omega) lL lM
        have c7 : ∀ W, Sl W W.heap.size AL cL L → Sl W W.heap.size AM cM M → Calls Try.prog 20 #[.slice AL L.length cL, .slice AM M.length cM] W fun e w' => e = .returned (.bool (alikeB L M)) ∧ Below W.heap.size W w' := fun W h k => alike_c AL AM cL cM L M W h k (by omega) (by omega) lL lM
        have c8 : ∀ W, Sl W W.heap.size AL cL L → Sl W W.heap.size AM cM M → Calls Try.prog 21 #[.slice AL L.length cL, .slice AM M.length cM] W fun e w' => e = .returned (.bool (alikeB L M)) ∧ Below W.heap.size W w' := fun W h k => ralike_c HB.out AL AM cL cM L M W h k (by omega) (by omega) lL lM
        have c9 : ∀ W, Sl W W.heap.size AL cL L → Sl W W.heap.size AM cM M → Calls Try.prog 23 #[.slice AL L.length cL, .slice AM M.length cM] W fun e w' => ∃ v, e = .returned v ∧ Own w' W.heap.size 30 v (restL L M) ∧ Below W.heap.size W w' := fun W h k => rest_c AL AM cL cM L M W h k (by omega) (by omega) lL lM
        have c10 : ∀ W, Sl W W.heap.size AL cL L → Sl W W.heap.size AM cM M → Calls Try.prog 24 #[.slice AL L.length cL, .slice AM M.length cM] W fun e w' => ∃ v, e = .returned v ∧ Own w' W.heap.size 30 v (restL L M) ∧ Below W.heap.size W w' := fun W h k => rrest_c HB.out AL AM cL cM L M W h k (by omega) (by omega) lL lM
        have nR : (restL L M).length ≤ 30 := Nat.le_trans (restL_len L M) nM
        have nN : (meetR L M).length ≤ L.length + M.length := meetR_len L M
        have lN : fewLegs (meetR L M) := meetR_few lL lM
        have lR : fewLegs (restL L M) := restL_few lM
        clear HC HB
        generalize meetR L M = N at c1 c2 nN lN
        generalize restL L M = R at c9 c10 nR lR
        generalize meetOk L M = ok at c1 c2
        generalize validL L = vr at c3 c4
        generalize alikeB L M = va at c7 c8
        generalize beginsB L M = vb at c5 c6
        have sN : ∀ W A C c d, Sl W W.heap.size A c N → Sl W W.heap.size C d N → Calls Try.prog 22 #[.slice A (N).length c, .slice C (N).length d] W fun e w' => e = .returned (.bool true) ∧ Below W.heap.size W w' := fun W A C c d h k => by
          have := sameL_c A C c d N N W h k (by omega) (by omega) (fun x hx => Nat.le_trans (lN x hx) (by decide)) (fun x hx => Nat.le_trans (lN x hx) (by decide))
          rw [sameL_self] at this
          exact this
        have sR : ∀ W A C c d, Sl W W.heap.size A c R → Sl W W.heap.size C d R → Calls Try.prog 22 #[.slice A (R).length c, .slice C (R).length d] W fun e w' => e = .returned (.bool true) ∧ Below W.heap.size W w' := fun W A C c d h k => by
          have := sameL_c A C c d R R W h k (by omega) (by omega) (fun x hx => Nat.le_trans (lR x hx) (by decide)) (fun x hx => Nat.le_trans (lR x hx) (by decide))
          rw [sameL_self] at this
          exact this
        clear nN lN nR lR lL lM nL nM
        go_wp2_with fail
        with_reducible refine (c1 _ hL hM).mono ?_
        rintro e wx ⟨v, rfl, hO, hF⟩
        have hB := below_on hB (Nat.le_refl _) hF
        have hL := hL.later hF
        have hM := hM.later hF
        obtain ⟨A1, d1, rfl, hN1⟩ := hO.sl
        clear hO hF c1
        go_wp2_with fail
        with_reducible refine (c2 _ hL hM).mono ?_
        rintro e wx ⟨v, rfl, hO, hF⟩
        have hB := below_on hB (Nat.le_refl _) hF
        have hL := hL.later hF
        have hM := hM.later hF
        have hN1 := hN1.later hF
        obtain ⟨A2, d2, rfl, hN2⟩ := hO.sl
        clear hO hF c2
        go_wp2_with fail
        with_reducible refine (c3 _ hL).mono ?_
        rintro e wx ⟨rfl, hF⟩
        have hB := below_on hB (Nat.le_refl _) hF
        have hL := hL.later hF
        have hM := hM.later hF
        have hN1 := hN1.later hF
        have hN2 := hN2.later hF
        clear hF c3
        go_wp2_with fail
        with_reducible refine (c4 _ hL).mono ?_
        rintro e wx ⟨rfl, hF⟩
        have hB := below_on hB (Nat.le_refl _) hF
        have hL := hL.later hF
        have hM := hM.later hF
        have hN1 := hN1.later hF
        have hN2 := hN2.later hF
        clear hF c4
        go_wp2_with fail
        with_reducible refine (c5 _ hL hM).mono ?_
        rintro e wx ⟨rfl, hF⟩
        have hB := below_on hB (Nat.le_refl _) hF
        have hL := hL.later hF
        have hM := hM.later hF
        have hN1 := hN1.later hF
        have hN2 := hN2.later hF
        clear hF c5
        go_wp2_with fail
        with_reducible refine (c6 _ hL hM).mono ?_
        rintro e wx ⟨rfl, hF⟩
        have hB := below_on hB (Nat.le_refl _) hF
        have hL := hL.later hF
        have hM := hM.later hF
        have hN1 := hN1.later hF
        have hN2 := hN2.later hF
        clear hF c6
        go_wp2_with fail
        with_reducible refine (c7 _ hL hM).mono ?_
        rintro e wx ⟨rfl, hF⟩
        have hB := below_on hB (Nat.le_refl _) hF
        have hL := hL.later hF
        have hM := hM.later hF
        have hN1 := hN1.later hF
        have hN2 := hN2.later hF
        clear hF c7
        go_wp2_with fail
        with_reducible refine (c8 _ hL hM).mono ?_
        rintro e wx ⟨rfl, hF⟩
        have hB := below_on hB (Nat.le_refl _) hF
        have hL := hL.later hF
        have hM := hM.later hF
        have hN1 := hN1.later hF
        have hN2 := hN2.later hF
        clear hF c8
        go_wp2_with fail
        with_reducible refine (c9 _ hL hM).mono ?_
        rintro e wx ⟨v, rfl, hO, hF⟩
        have hB := below_on hB (Nat.le_refl _) hF
        have hL := hL.later hF
        have hM := hM.later hF
        have hN1 := hN1.later hF
        have hN2 := hN2.later hF
        obtain ⟨A3, d3, rfl, hR1⟩ := hO.sl
        clear hO hF c9
        go_wp2_with fail
        with_reducible refine (c10 _ hL hM).mono ?_
        rintro e wx ⟨v, rfl, hO, hF⟩
        have hB := below_on hB (Nat.le_refl _) hF
        have hN1 := hN1.later hF
        have hN2 := hN2.later hF
        have hR1 := hR1.later hF
        obtain ⟨A4, d4, rfl, hR2⟩ := hO.sl
        clear hO hF c10
        go_wp2_with fail
        with_reducible refine (sR _ _ _ _ _ hR1 hR2).mono ?_
        rintro e wx ⟨rfl, hF⟩
        have hB := below_on hB (Nat.le_refl _) hF
        have hN1 := hN1.later hF
        have hN2 := hN2.later hF
        clear hF sR hR1 hR2
        go_wp2_with fail
        with_reducible refine (sN _ _ _ _ _ hN1 hN2).mono ?_
        rintro e wx ⟨rfl, hF⟩
        have hB := below_on hB (Nat.le_refl _) hF
        clear hF sN hN1 hN2
        go_wp2
        go_ret
        exact ⟨rfl, hB⟩
    · have g1 : decide ((k : Int) < (L.length : Int)) = false := decide_eq_false (by omega)
      have hL := hL.later hW
      have hM := hM.later hW
      have hB := below_on hB (Nat.le_refl _) hW
      clear hW
      have c1 : ∀ W, Sl W W.heap.size AL cL L → Sl W W.heap.size AM cM M → Calls Try.prog 14 #[.slice AL L.length cL, .slice AM M.length cM] W fun e w' => ∃ v, e = .returned (.tuple #[v, .bool (meetOk L M)]) ∧ Own w' W.heap.size 30 v (meetR L M) ∧ Below W.heap.size W w' := fun W h k => meet_c AL AM cL cM L M W h k (by omega) (by omega) lL lM
      have c2 : ∀ W, Sl W W.heap.size AL cL L → Sl W W.heap.size AM cM M → Calls Try.prog 15 #[.slice AL L.length cL, .slice AM M.length cM] W fun e w' => ∃ v, e = .returned (.tuple #[v, .bool (meetOk L M)]) ∧ Own w' W.heap.size 30 v (meetR L M) ∧ Below W.heap.size W w' := fun W h k => rmeet_c HB.out AL AM cL cM L M W h k (by omega) (by omega) lL lM
      have c3 : ∀ W, Sl W W.heap.size AL cL L → Calls Try.prog 16 #[.slice AL L.length cL] W fun e w' => e = .returned (.bool (validL L)) ∧ Below W.heap.size W w' := fun W h => right_c AL cL L W h (by omega)
      have c4 : ∀ W, Sl W W.heap.size AL cL L → Calls Try.prog 17 #[.slice AL L.length cL] W fun e w' => e = .returned (.bool (validL L)) ∧ Below W.heap.size W w' := fun W h => rright_c AL cL L W h (by omega)
      have c5 : ∀ W, Sl W W.heap.size AL cL L → Sl W W.heap.size AM cM M → Calls Try.prog 18 #[.slice AL L.length cL, .slice AM M.length cM] W fun e w' => e = .returned (.bool (beginsB L M)) ∧ Below W.heap.size W w' := fun W h k => begins_c AL AM cL cM L M W h k (by omega) (by omega) lL lM
      have c6 : ∀ W, Sl W W.heap.size AL cL L → Sl W W.heap.size AM cM M → Calls Try.prog 19 #[.slice AL L.length cL, .slice AM M.length cM] W fun e w' => e = .returned (.bool (beginsB L M)) ∧ Below W.heap.size W w' := fun W h k => HB.out AL AM cL cM L M W h k (by omega) (by omega) lL lM
      have c7 : ∀ W, Sl W W.heap.size AL cL L → Sl W W.heap.size AM cM M → Calls Try.prog 20 #[.slice AL L.length cL, .slice AM M.length cM] W fun e w' => e = .returned (.bool (alikeB L M)) ∧ Below W.heap.size W w' := fun W h k => alike_c AL AM cL cM L M W h k (by omega) (by omega) lL lM
      have c8 : ∀ W, Sl W W.heap.size AL cL L → Sl W W.heap.size AM cM M → Calls Try.prog 21 #[.slice AL L.length cL, .slice AM M.length cM] W fun e w' => e = .returned (.bool (alikeB L M)) ∧ Below W.heap.size W w' := fun W h k => ralike_c HB.out AL AM cL cM L M W h k (by omega) (by omega) lL lM
      have c9 : ∀ W, Sl W W.heap.size AL cL L → Sl W W.heap.size AM cM M → Calls Try.prog 23 #[.slice AL L.length cL, .slice AM M.length cM] W fun e w' => ∃ v, e = .returned v ∧ Own w' W.heap.size 30 v (restL L M) ∧ Below W.heap.size W w' := fun W h k => rest_c AL AM cL cM L M W h k (by omega) (by omega) lL lM
      have c10 : ∀ W, Sl W W.heap.size AL cL L → Sl W W.heap.size AM cM M → Calls Try.prog 24 #[.slice AL L.length cL, .slice AM M.length cM] W fun e w' => ∃ v, e = .returned v ∧ Own w' W.heap.size 30 v (restL L M) ∧ Below W.heap.size W w' := fun W h k => rrest_c HB.out AL AM cL cM L M W h k (by omega) (by omega) lL lM
      have nR : (restL L M).length ≤ 30 := Nat.le_trans (restL_len L M) nM
      have nN : (meetR L M).length ≤ L.length + M.length := meetR_len L M
      have lN : fewLegs (meetR L M) := meetR_few lL lM
      have lR : fewLegs (restL L M) := restL_few lM
      clear HC HB
      generalize meetR L M = N at c1 c2 nN lN
      generalize restL L M = R at c9 c10 nR lR
      generalize meetOk L M = ok at c1 c2
      generalize validL L = vr at c3 c4
      generalize alikeB L M = va at c7 c8
      generalize beginsB L M = vb at c5 c6
      have sN : ∀ W A C c d, Sl W W.heap.size A c N → Sl W W.heap.size C d N → Calls Try.prog 22 #[.slice A (N).length c, .slice C (N).length d] W fun e w' => e = .returned (.bool true) ∧ Below W.heap.size W w' := fun W A C c d h k => by
        have := sameL_c A C c d N N W h k (by omega) (by omega) (fun x hx => Nat.le_trans (lN x hx) (by decide)) (fun x hx => Nat.le_trans (lN x hx) (by decide))
        rw [sameL_self] at this
        exact this
      have sR : ∀ W A C c d, Sl W W.heap.size A c R → Sl W W.heap.size C d R → Calls Try.prog 22 #[.slice A (R).length c, .slice C (R).length d] W fun e w' => e = .returned (.bool true) ∧ Below W.heap.size W w' := fun W A C c d h k => by
        have := sameL_c A C c d R R W h k (by omega) (by omega) (fun x hx => Nat.le_trans (lR x hx) (by decide)) (fun x hx => Nat.le_trans (lR x hx) (by decide))
        rw [sameL_self] at this
        exact this
      clear nN lN nR lR lL lM nL nM
      go_wp2_with fail
      with_reducible refine (c1 _ hL hM).mono ?_
      rintro e wx ⟨v, rfl, hO, hF⟩
      have hB := below_on hB (Nat.le_refl _) hF
      have hL := hL.later hF
      have hM := hM.later hF
      obtain ⟨A1, d1, rfl, hN1⟩ := hO.sl
      clear hO hF c1
      go_wp2_with fail
      with_reducible refine (c2 _ hL hM).mono ?_
      rintro e wx ⟨v, rfl, hO, hF⟩
      have hB := below_on hB (Nat.le_refl _) hF
      have hL := hL.later hF
      have hM := hM.later hF
      have hN1 := hN1.later hF
      obtain ⟨A2, d2, rfl, hN2⟩ := hO.sl
      clear hO hF c2
      go_wp2_with fail
      with_reducible refine (c3 _ hL).mono ?_
      rintro e wx ⟨rfl, hF⟩
      have hB := below_on hB (Nat.le_refl _) hF
      have hL := hL.later hF
      have hM := hM.later hF
      have hN1 := hN1.later hF
      have hN2 := hN2.later hF
      clear hF c3
      go_wp2_with fail
      with_reducible refine (c4 _ hL).mono ?_
      rintro e wx ⟨rfl, hF⟩
      have hB := below_on hB (Nat.le_refl _) hF
      have hL := hL.later hF
      have hM := hM.later hF
      have hN1 := hN1.later hF
      have hN2 := hN2.later hF
      clear hF c4
      go_wp2_with fail
      with_reducible refine (c5 _ hL hM).mono ?_
      rintro e wx ⟨rfl, hF⟩
      have hB := below_on hB (Nat.le_refl _) hF
      have hL := hL.later hF
      have hM := hM.later hF
      have hN1 := hN1.later hF
      have hN2 := hN2.later hF
      clear hF c5
      go_wp2_with fail
      with_reducible refine (c6 _ hL hM).mono ?_
      rintro e wx ⟨rfl, hF⟩
      have hB := below_on hB (Nat.le_refl _) hF
      have hL := hL.later hF
      have hM := hM.later hF
      have hN1 := hN1.later hF
      have hN2 := hN2.later hF
      clear hF c6
      go_wp2_with fail
      with_reducible refine (c7 _ hL hM).mono ?_
      rintro e wx ⟨rfl, hF⟩
      have hB := below_on hB (Nat.le_refl _) hF
      have hL := hL.later hF
      have hM := hM.later hF
      have hN1 := hN1.later hF
      have hN2 := hN2.later hF
      clear hF c7
      go_wp2_with fail
      with_reducible refine (c8 _ hL hM).mono ?_
      rintro e wx ⟨rfl, hF⟩
      have hB := below_on hB (Nat.le_refl _) hF
      have hL := hL.later hF
      have hM := hM.later hF
      have hN1 := hN1.later hF
      have hN2 := hN2.later hF
      clear hF c8
      go_wp2_with fail
      with_reducible refine (c9 _ hL hM).mono ?_
      rintro e wx ⟨v, rfl, hO, hF⟩
      have hB := below_on hB (Nat.le_refl _) hF
      have hL := hL.later hF
      have hM := hM.later hF
      have hN1 := hN1.later hF
      have hN2 := hN2.later hF
      obtain ⟨A3, d3, rfl, hR1⟩ := hO.sl
      clear hO hF c9
      go_wp2_with fail
      with_reducible refine (c10 _ hL hM).mono ?_
      rintro e wx ⟨v, rfl, hO, hF⟩
      have hB := below_on hB (Nat.le_refl _) hF
      have hN1 := hN1.later hF
      have hN2 := hN2.later hF
      have hR1 := hR1.later hF
      obtain ⟨A4, d4, rfl, hR2⟩ := hO.sl
      clear hO hF c10
      go_wp2_with fail
      with_reducible refine (sR _ _ _ _ _ hR1 hR2).mono ?_
      rintro e wx ⟨rfl, hF⟩
      have hB := below_on hB (Nat.le_refl _) hF
      have hN1 := hN1.later hF
      have hN2 := hN2.later hF
      clear hF sR hR1 hR2
      go_wp2_with fail
      with_reducible refine (sN _ _ _ _ _ hN1 hN2).mono ?_
      rintro e wx ⟨rfl, hF⟩
      have hB := below_on hB (Nat.le_refl _) hF
      clear hF sN hN1 hN2
      go_wp2
      go_ret
      exact ⟨rfl, hB⟩
end Go.Proofs.Ytogecfddkohigaa
