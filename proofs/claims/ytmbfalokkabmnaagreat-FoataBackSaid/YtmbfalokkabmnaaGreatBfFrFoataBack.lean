/- countinghouselaw11.FoataBack returns true for every input, and what its arguments read as stays as it was: the given statement, with no condition. -/
import Derived.Test.YtmbfalokkabmnaaGreatRows
import Derived.Test.YtmbfalokkabmnaaGreatBh22
import Derived.Test.YtmbfalokkabmnaaGreatBh23
import Derived.Test.YtmbfalokkabmnaaGreatBfOpenR
import Derived.Test.YtmbfalokkabmnaaGreatBfFoBack
import Derived.Test.YtmbfalokkabmnaaGreatBfJoin
import Derived.WalkKit
import Derived.ProofKit
import Derived.OpenShut
import Derived.ShutString
import Derived.ChangeOld
import Derived.Below
namespace Go.Proofs.YtmbfalokkabmnaaGreat
open Go.ChangeShapes Go.WideShapes Go.ChangeAt Go.RowKit
open Go.ChangeMaps (open_string shut_string)

set_option maxRecDepth 100000 in
theorem foataBack_lifted (os : Os) (started : os.Started) (H : Type) (enc : TypeId × Value → H) :
    ReturnsInHanded {} Tryz.checked os 6 .any (Rows.foataBackSpec.pre6 enc Tryz.prog Tryz.f6 Rows.foataBackRow.domain false) (Rows.foataBackSpec.post enc Tryz.prog Tryz.f6 false true false false) := by
  refine returnsInHanded_of_change (C := Tryz.checked) ownKnob_none started (by kernel_rfl) Tryz.func6
    (ChangeSpec.witness6 (enc := enc) (C := Tryz.checked) false ⟨#[], #[.slice none 0 0, .slice none 0 0], []⟩ 8 (by kernel_rfl) (by kernel_rfl) (by kernel_rfl) (by kernel_rfl)) ?_
  intro W base args ds gs before hval0 hW hcnd _
  have hval : ∀ (j : Nat) t v, Tryz.f6.params[j]? = some t → args[j]? = some v → Value.okWide Tryz.prog W .any base t v := hval0
  have hW' := hW
  obtain ⟨p, q, hA0, hV, rfl, hfz, hnd⟩ := hW
  have hA : DataW.TrodAll enc Tryz.prog W 0 (fun _ => true) true Tryz.f6.params.toList args.toList ds p := hA0
  rw [Tryz.params6] at hA hval
  obtain ⟨v0, vs0, d0, ds0, p0, q0, hargs, rfl, rfl, h0, r0⟩ := trodAll_cons hA
  obtain ⟨v1, vs1, d1, ds1, p1, q1, rfl, rfl, rfl, h1, r1⟩ := trodAll_cons r0
  obtain ⟨rfl, rfl, rfl⟩ := trodAll_nil r1
  obtain rfl : args = #[v0, v1] := by cases args; simp_all
  obtain ⟨rfl, rfl⟩ := trodVars_none hV
  have k0 := h0
  have lt0 : ∀ x ∈ p0, x.block < W.heap.size := by obtain ⟨m, hm⟩ := k0; exact DataW.trod_lt m _ _ _ hm
  obtain ⟨A0, c0, a0, rfl, w0, i0⟩ := open_odsR (hval 0 22 v0 rfl rfl) h0
  have k1 := h1
  have lt1 : ∀ x ∈ p1, x.block < W.heap.size := by obtain ⟨m, hm⟩ := k1; exact DataW.trod_lt m _ _ _ hm
  obtain ⟨A1, c1, a1, rfl, w1⟩ := open_bytes (hval 1 25 v1 rfl rfl) h1
  clear hA0 hval0
  refine (foataBack_c A0 A1 c0 c1 a0 a1 W w0 i0 w1).mono fun e W' ⟨he, bel⟩ => ?_
  subst he
  exact ⟨_, rfl, _, _, _, [], _, [], hW', trodAll_mk1 (shut_bool Tryz.underlying4 _), (trodAll_cons_mk (Below.trod laidOut (by kernel_rfl) (of_decide_eq_true (by kernel_rfl)) k0 bel lt0) (trodAll_cons_mk (Below.trod laidOut (by kernel_rfl) (of_decide_eq_true (by kernel_rfl)) k1 bel lt1) trodAll_mk0)), rfl, bel.frame _, fun h => by cases h⟩

theorem foataBack_wf : (Rows.foataBackRow.wf (OpenSpec.ofChange Rows.foataBackSpec)) = true := by kernel_rfl
theorem foataBack_inp : (Rows.foataBackRow.inPlace == Tryz.checked.prog.inPlace 6) = true := by kernel_rfl
theorem foataBack_unf : (Rows.foataBackRow.unfollowed == Tryz.checked.prog.unfollowed 6) = true := by kernel_rfl
theorem foataBack_rec : (Rows.foataBackRow.recurses == Tryz.checked.prog.recurses 6) = true := by kernel_rfl
theorem foataBack_nam : (Rows.foataBackRow.named == Tryz.checked.prog.varsNamed 6) = true := by kernel_rfl
theorem foataBack_lif : (Rows.foataBackRow.lifted == Tryz.checked.prog.liftsFinal) = true := by kernel_rfl
theorem foataBack_mak : (Tryz.checked.prog.make == some Rows.foataBackRow.make) = true := by kernel_rfl
theorem foataBack_pk : (Rows.foataBackRow.plainKeys == Tryz.checked.prog.plainKeys) = true := by kernel_rfl
theorem foataBack_pin : (Rows.foataBackRow.pinned == Rows.foataBackRow.pinnedBy) = true := by kernel_rfl
theorem foataBack_joined : joinedFacts Tryz.checked.prog 6 Tryz.f6 Rows.foataBackSpec Rows.foataBackRow = true := by
  unfold joinedFacts
  rw [join_laid, join_maps, foataBack_wf, foataBack_inp, foataBack_unf, foataBack_rec, foataBack_nam, foataBack_lif, foataBack_mak, foataBack_pk, foataBack_pin]
  kernel_rfl

/-- the given statement -/
theorem foataBack_holds : Rows.FoataBackSaid :=
  OpenClaim.holds_of_wide 6 Tryz.f6 rfl rfl rfl rfl rfl rfl rfl ⟨rfl, rfl, rfl, rfl, rfl⟩ rfl rfl rfl rfl rfl (by kernel_rfl) Tryz.func6 foataBack_joined
    (of_decide_eq_true (by kernel_rfl)) (by unfold Func.isWrapper; rw [if_neg (of_decide_eq_false (by kernel_rfl))]; exact ⟨rfl, rfl⟩)
    (fun os started H enc _ => foataBack_lifted os started H enc)
end Go.Proofs.YtmbfalokkabmnaaGreat
