/- countinghouselaw11.FoataMore returns true for every input, and what its arguments read as stays as it was: the given statement, with no condition. -/
import Derived.Test.YtogipnfhcimeoaaGreatRows
import Derived.Test.YtogipnfhcimeoaaGreatBc18
import Derived.Test.YtogipnfhcimeoaaGreatBaFoMore
import Derived.Test.YtogipnfhcimeoaaGreatBaJoin
import Derived.WalkKit
import Derived.ProofKit
import Derived.OpenShut
import Derived.ShutString
import Derived.ChangeOld
import Derived.Below
namespace Go.Proofs.YtogipnfhcimeoaaGreat
open Go.ChangeShapes Go.WideShapes Go.ChangeAt Go.RowKit
open Go.ChangeMaps (open_string shut_string)

set_option maxRecDepth 100000 in
theorem foataMore_lifted (os : Os) (started : os.Started) (H : Type) (enc : TypeId × Value → H) :
    ReturnsInHanded {} Tryz.checked os 6 .any (Rows.foataMoreSpec.pre6 enc Tryz.prog Tryz.f6 Rows.foataMoreRow.domain false) (Rows.foataMoreSpec.post enc Tryz.prog Tryz.f6 false true false false) := by
  refine returnsInHanded_of_change (C := Tryz.checked) ownKnob_none started (by kernel_rfl) Tryz.func6
    (ChangeSpec.witness6 (enc := enc) (C := Tryz.checked) false ⟨#[], #[.slice none 0 0], []⟩ 8 (by kernel_rfl) (by kernel_rfl) (by kernel_rfl) (by kernel_rfl)) ?_
  intro W base args ds gs before hval0 hW hcnd _
  have hval : ∀ (j : Nat) t v, Tryz.f6.params[j]? = some t → args[j]? = some v → Value.okWide Tryz.prog W .any base t v := hval0
  have hW' := hW
  obtain ⟨p, q, hA0, hV, rfl, hfz, hnd⟩ := hW
  have hA : DataW.TrodAll enc Tryz.prog W 0 (fun _ => true) true Tryz.f6.params.toList args.toList ds p := hA0
  rw [Tryz.params6] at hA hval
  obtain ⟨v0, vs0, d0, ds0, p0, q0, hargs, rfl, rfl, h0, r0⟩ := trodAll_cons hA
  obtain ⟨rfl, rfl, rfl⟩ := trodAll_nil r0
  obtain rfl : args = #[v0] := by cases args; simp_all
  obtain ⟨rfl, rfl⟩ := trodVars_none hV
  have k0 := h0
  have lt0 : ∀ x ∈ p0, x.block < W.heap.size := by obtain ⟨m, hm⟩ := k0; exact DataW.trod_lt m _ _ _ hm
  obtain ⟨A0, c0, a0, rfl, w0⟩ := open_ods (hval 0 22 v0 rfl rfl) h0
  clear hA0 hval0
  refine (foataMore_c A0 c0 a0 W w0).mono fun e W' ⟨he, bel⟩ => ?_
  subst he
  exact ⟨_, rfl, _, _, _, [], _, [], hW', trodAll_mk1 (shut_bool Tryz.underlying4 _), (trodAll_cons_mk (Below.trod laidOut (by kernel_rfl) (of_decide_eq_true (by kernel_rfl)) k0 bel lt0) trodAll_mk0), rfl, bel.frame _, fun h => by cases h⟩

theorem foataMore_wf : (Rows.foataMoreRow.wf (OpenSpec.ofChange Rows.foataMoreSpec)) = true := by kernel_rfl
theorem foataMore_inp : (Rows.foataMoreRow.inPlace == Tryz.checked.prog.inPlace 6) = true := by kernel_rfl
theorem foataMore_unf : (Rows.foataMoreRow.unfollowed == Tryz.checked.prog.unfollowed 6) = true := by kernel_rfl
theorem foataMore_rec : (Rows.foataMoreRow.recurses == Tryz.checked.prog.recurses 6) = true := by kernel_rfl
theorem foataMore_nam : (Rows.foataMoreRow.named == Tryz.checked.prog.varsNamed 6) = true := by kernel_rfl
theorem foataMore_lif : (Rows.foataMoreRow.lifted == Tryz.checked.prog.liftsFinal) = true := by kernel_rfl
theorem foataMore_mak : (Tryz.checked.prog.make == some Rows.foataMoreRow.make) = true := by kernel_rfl
theorem foataMore_pk : (Rows.foataMoreRow.plainKeys == Tryz.checked.prog.plainKeys) = true := by kernel_rfl
theorem foataMore_pin : (Rows.foataMoreRow.pinned == Rows.foataMoreRow.pinnedBy) = true := by kernel_rfl
theorem foataMore_joined : joinedFacts Tryz.checked.prog 6 Tryz.f6 Rows.foataMoreSpec Rows.foataMoreRow = true := by
  unfold joinedFacts
  rw [join_laid, join_maps, foataMore_wf, foataMore_inp, foataMore_unf, foataMore_rec, foataMore_nam, foataMore_lif, foataMore_mak, foataMore_pk, foataMore_pin]
  kernel_rfl

/-- the given statement -/
theorem foataMore_holds : Rows.FoataMoreSaid :=
  OpenClaim.holds_of_wide 6 Tryz.f6 rfl rfl rfl rfl rfl rfl rfl ⟨rfl, rfl, rfl, rfl, rfl⟩ rfl rfl rfl rfl rfl (by kernel_rfl) Tryz.func6 foataMore_joined
    (of_decide_eq_true (by kernel_rfl)) (by unfold Func.isWrapper; rw [if_neg (of_decide_eq_false (by kernel_rfl))]; exact ⟨rfl, rfl⟩)
    (fun os started H enc _ => foataMore_lifted os started H enc)
end Go.Proofs.YtogipnfhcimeoaaGreat
