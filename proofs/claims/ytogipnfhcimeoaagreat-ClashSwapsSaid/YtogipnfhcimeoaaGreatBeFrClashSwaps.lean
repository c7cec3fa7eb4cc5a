/- countinghouselaw10.ClashSwaps returns true for every input, and what its arguments read as stays as it was: the given statement, with no condition. -/
import Derived.Test.YtogipnfhcimeoaaGreatRows
import Derived.Test.YtogipnfhcimeoaaGreatBc18
import Derived.Test.YtogipnfhcimeoaaGreatBd11
import Derived.Test.YtogipnfhcimeoaaGreatBeClSwaps
import Derived.WalkKit
import Derived.ProofKit
import Derived.OpenShut
import Derived.ShutString
import Derived.ChangeOld
import Derived.Below
namespace Go.Proofs.YtogipnfhcimeoaaGreat
open Go.ChangeShapes Go.WideShapes Go.ChangeAt Go.RowKit
open Go.ChangeMaps (open_string shut_string)

set_option maxRecDepth 100000 in
theorem clashSwaps_lifted (os : Os) (started : os.Started) (H : Type) (enc : TypeId × Value → H) :
    ReturnsInHanded {} Tryz.checked os 13 .any (Rows.clashSwapsSpec.pre6 enc Tryz.prog Tryz.f13 Rows.clashSwapsRow.domain false) (Rows.clashSwapsSpec.post enc Tryz.prog Tryz.f13 false true false false) := by
  refine returnsInHanded_of_change (C := Tryz.checked) ownKnob_none started (by kernel_rfl) Tryz.func13
    (ChangeSpec.witness6 (enc := enc) (C := Tryz.checked) false ⟨#[], #[.slice none 0 0, .slice none 0 0], []⟩ 8 (by kernel_rfl) (by kernel_rfl) (by kernel_rfl) (by kernel_rfl)) ?_
  intro W base args ds gs before hval0 hW hcnd _
  have hval : ∀ (j : Nat) t v, Tryz.f13.params[j]? = some t → args[j]? = some v → Value.okWide Tryz.prog W .any base t v := hval0
  have hW' := hW
  obtain ⟨p, q, hA0, hV, rfl, hfz, hnd⟩ := hW
  have hA : DataW.TrodAll enc Tryz.prog W 0 (fun _ => true) true Tryz.f13.params.toList args.toList ds p := hA0
  rw [Tryz.params13] at hA hval
  obtain ⟨v0, vs0, d0, ds0, p0, q0, hargs, rfl, rfl, h0, r0⟩ := trodAll_cons hA
  obtain ⟨v1, vs1, d1, ds1, p1, q1, rfl, rfl, rfl, h1, r1⟩ := trodAll_cons r0
  obtain ⟨rfl, rfl, rfl⟩ := trodAll_nil r1
  obtain rfl : args = #[v0, v1] := by cases args; simp_all
  obtain ⟨rfl, rfl⟩ := trodVars_none hV
  have k0 := h0
  have lt0 : ∀ x ∈ p0, x.block < W.heap.size := by obtain ⟨m, hm⟩ := k0; exact DataW.trod_lt m _ _ _ hm
  obtain ⟨A0, c0, a0, rfl, w0, i0⟩ := open_odsR (hval 0 22 v0 rfl rfl) h0
  have k1 := h1
  have lt1 : ∀ x ∈ p1, x.block < W.heap.size := by obtain ⟨m, hm⟩ := k1; exact DataW.trod_lt m _ _ _ hm
  obtain ⟨A1, c1, a1, rfl, w1⟩ := open_ns (hval 1 76 v1 rfl rfl) h1
  clear hA0 hval0
  refine (clashSwaps_c A0 A1 c0 c1 a0 a1 W w0 i0 w1).mono fun e W' ⟨he, bel⟩ => ?_
  subst he
  exact ⟨_, rfl, _, _, _, [], _, [], hW', trodAll_mk1 (shut_bool Tryz.underlying4 _), (trodAll_cons_mk (Below.trod laidOut (by kernel_rfl) (of_decide_eq_true (by kernel_rfl)) k0 bel lt0) (trodAll_cons_mk (Below.trod laidOut (by kernel_rfl) (of_decide_eq_true (by kernel_rfl)) k1 bel lt1) trodAll_mk0)), rfl, bel.frame _, fun h => by cases h⟩

theorem clashSwaps_wf : (Rows.clashSwapsRow.wf (OpenSpec.ofChange Rows.clashSwapsSpec)) = true := by kernel_rfl
theorem clashSwaps_inp : (Rows.clashSwapsRow.inPlace == Tryz.checked.prog.inPlace 13) = true := by kernel_rfl
theorem clashSwaps_unf : (Rows.clashSwapsRow.unfollowed == Tryz.checked.prog.unfollowed 13) = true := by kernel_rfl
theorem clashSwaps_rec : (Rows.clashSwapsRow.recurses == Tryz.checked.prog.recurses 13) = true := by kernel_rfl
theorem clashSwaps_nam : (Rows.clashSwapsRow.named == Tryz.checked.prog.varsNamed 13) = true := by kernel_rfl
theorem clashSwaps_lif : (Rows.clashSwapsRow.lifted == Tryz.checked.prog.liftsFinal) = true := by kernel_rfl
theorem clashSwaps_mak : (Tryz.checked.prog.make == some Rows.clashSwapsRow.make) = true := by kernel_rfl
theorem clashSwaps_pk : (Rows.clashSwapsRow.plainKeys == Tryz.checked.prog.plainKeys) = true := by kernel_rfl
theorem clashSwaps_pin : (Rows.clashSwapsRow.pinned == Rows.clashSwapsRow.pinnedBy) = true := by kernel_rfl
theorem clashSwaps_joined : joinedFacts Tryz.checked.prog 13 Tryz.f13 Rows.clashSwapsSpec Rows.clashSwapsRow = true := by
  unfold joinedFacts
  rw [join_laid, join_maps, clashSwaps_wf, clashSwaps_inp, clashSwaps_unf, clashSwaps_rec, clashSwaps_nam, clashSwaps_lif, clashSwaps_mak, clashSwaps_pk, clashSwaps_pin]
  kernel_rfl

/-- the given statement -/
theorem clashSwaps_holds : Rows.ClashSwapsSaid :=
  OpenClaim.holds_of_wide 13 Tryz.f13 rfl rfl rfl rfl rfl rfl rfl ⟨rfl, rfl, rfl, rfl, rfl⟩ rfl rfl rfl rfl rfl (by kernel_rfl) Tryz.func13 clashSwaps_joined
    (of_decide_eq_true (by kernel_rfl)) (by unfold Func.isWrapper; rw [if_neg (of_decide_eq_false (by kernel_rfl))]; exact ⟨rfl, rfl⟩)
    (fun os started H enc _ => clashSwaps_lifted os started H enc)
end Go.Proofs.YtogipnfhcimeoaaGreat
