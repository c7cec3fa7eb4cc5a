/- countinghouselaw11.FoataLevels returns true for every input, and what its arguments read as stays as it was: the given statement, with no condition. -/
import Derived.Test.YtogipnfhcimeoaaGreatRows
import Derived.Test.YtogipnfhcimeoaaGreatBc18
import Derived.Test.YtogipnfhcimeoaaGreatBaFoLvls
import Derived.Test.YtogipnfhcimeoaaGreatBaJoin
import Derived.WalkKit
import Derived.ProofKit
import Derived.OpenShut
import Derived.ShutString
import Derived.ChangeOld
import Derived.Below
namespace Go.Proofs.YtogipnfhcimeoaaGreat
open Go.ChangeShapes Go.WideShapes Go.ChangeAt Go.RowKit
open Go.ChangeMaps (open_string shut_string)

set_option maxRecDepth 100000 in
theorem foataLevels_lifted (os : Os) (started : os.Started) (H : Type) (enc : TypeId × Value → H) :
    ReturnsInHanded {} Tryz.checked os 5 .any (Rows.foataLevelsSpec.pre6 enc Tryz.prog Tryz.f5 Rows.foataLevelsRow.domain false) (Rows.foataLevelsSpec.post enc Tryz.prog Tryz.f5 false true false false) := by
  refine returnsInHanded_of_change (C := Tryz.checked) ownKnob_none started (by kernel_rfl) Tryz.func5
    (ChangeSpec.witness6 (enc := enc) (C := Tryz.checked) false ⟨#[], #[.slice none 0 0], []⟩ 8 (by kernel_rfl) (by kernel_rfl) (by kernel_rfl) (by kernel_rfl)) ?_
  intro W base args ds gs before hval0 hW hcnd _
  have hval : ∀ (j : Nat) t v, Tryz.f5.params[j]? = some t → args[j]? = some v → Value.okWide Tryz.prog W .any base t v := hval0
  have hW' := hW
  obtain ⟨p, q, hA0, hV, rfl, hfz, hnd⟩ := hW
  have hA : DataW.TrodAll enc Tryz.prog W 0 (fun _ => true) true Tryz.f5.params.toList args.toList ds p := hA0
  rw [Tryz.params5] at hA hval
  obtain ⟨v0, vs0, d0, ds0, p0, q0, hargs, rfl, rfl, h0, r0⟩ := trodAll_cons hA
  obtain ⟨rfl, rfl, rfl⟩ := trodAll_nil r0
  obtain rfl : args = #[v0] := by cases args; simp_all
  obtain ⟨rfl, rfl⟩ := trodVars_none hV
  have k0 := h0
  have lt0 : ∀ x ∈ p0, x.block < W.heap.size := by obtain ⟨m, hm⟩ := k0; exact DataW.trod_lt m _ _ _ hm
  obtain ⟨A0, c0, a0, rfl, w0⟩ := open_ods (hval 0 22 v0 rfl rfl) h0
  clear hA0 hval0
  refine (foataLevels_c A0 c0 a0 W w0).mono fun e W' ⟨he, bel⟩ => ?_
  subst he
  exact ⟨_, rfl, _, _, _, [], _, [], hW', trodAll_mk1 (shut_bool Tryz.underlying4 _), (trodAll_cons_mk (Below.trod laidOut (by kernel_rfl) (of_decide_eq_true (by kernel_rfl)) k0 bel lt0) trodAll_mk0), rfl, bel.frame _, fun h => by cases h⟩

theorem foataLevels_wf : (Rows.foataLevelsRow.wf (OpenSpec.ofChange Rows.foataLevelsSpec)) = true := by kernel_rfl
theorem foataLevels_inp : (Rows.foataLevelsRow.inPlace == Tryz.checked.prog.inPlace 5) = true := by kernel_rfl
theorem foataLevels_unf : (Rows.foataLevelsRow.unfollowed == Tryz.checked.prog.unfollowed 5) = true := by kernel_rfl
theorem foataLevels_rec : (Rows.foataLevelsRow.recurses == Tryz.checked.prog.recurses 5) = true := by kernel_rfl
theorem foataLevels_nam : (Rows.foataLevelsRow.named == Tryz.checked.prog.varsNamed 5) = true := by kernel_rfl
theorem foataLevels_lif : (Rows.foataLevelsRow.lifted == Tryz.checked.prog.liftsFinal) = true := by kernel_rfl
theorem foataLevels_mak : (Tryz.checked.prog.make == some Rows.foataLevelsRow.make) = true := by kernel_rfl
theorem foataLevels_pk : (Rows.foataLevelsRow.plainKeys == Tryz.checked.prog.plainKeys) = true := by kernel_rfl
theorem foataLevels_pin : (Rows.foataLevelsRow.pinned == Rows.foataLevelsRow.pinnedBy) = true := by kernel_rfl
theorem foataLevels_joined : joinedFacts Tryz.checked.prog 5 Tryz.f5 Rows.foataLevelsSpec Rows.foataLevelsRow = true := by
  unfold joinedFacts
  rw [join_laid, join_maps, foataLevels_wf, foataLevels_inp, foataLevels_unf, foataLevels_rec, foataLevels_nam, foataLevels_lif, foataLevels_mak, foataLevels_pk, foataLevels_pin]
  kernel_rfl

/-- the given statement -/
theorem foataLevels_holds : Rows.FoataLevelsSaid :=
  OpenClaim.holds_of_wide 5 Tryz.f5 rfl rfl rfl rfl rfl rfl rfl ⟨rfl, rfl, rfl, rfl, rfl⟩ rfl rfl rfl rfl rfl (by kernel_rfl) Tryz.func5 foataLevels_joined
    (of_decide_eq_true (by kernel_rfl)) (by unfold Func.isWrapper; rw [if_neg (of_decide_eq_false (by kernel_rfl))]; exact ⟨rfl, rfl⟩)
    (fun os started H enc _ => foataLevels_lifted os started H enc)
end Go.Proofs.YtogipnfhcimeoaaGreat
