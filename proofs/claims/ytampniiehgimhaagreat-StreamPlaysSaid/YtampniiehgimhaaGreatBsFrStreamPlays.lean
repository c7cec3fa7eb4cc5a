/- countinghouselaw12.StreamPlays returns true for every input, and what its arguments read as stays as it was: the given statement, with no condition. -/
import Derived.Test.YtampniiehgimhaaGreatRows
import Derived.Test.YtampniiehgimhaaGreatBsStPlays
import Derived.Test.YtampniiehgimhaaGreatBs12
import Derived.Test.YtampniiehgimhaaGreatBsO12
import Derived.Test.YtampniiehgimhaaGreatBs20
import Derived.WalkKit
import Derived.ProofKit
import Derived.OpenShut
import Derived.ShutString
import Derived.ChangeOld
import Derived.Below

namespace Go.Proofs.YtampniiehgimhaaGreat
open Go.ChangeShapes Go.WideShapes Go.ChangeAt Go.RowKit
open Go.ChangeMaps (open_string shut_string)
set_option maxRecDepth 100000 in
theorem streamPlays_lifted (os : Os) (started : os.Started) (H : Type) (enc : TypeId × Value → H) :
  ReturnsInHanded {} Tryz.checked os 4 .any (Rows.streamPlaysSpec.pre6 enc Tryz.prog Tryz.f4 Rows.streamPlaysRow.domain false) (Rows.streamPlaysSpec.post enc Tryz.prog Tryz.f4 false true false false) := by
 refine returnsInHanded_of_change (C := Tryz.checked) ownKnob_none started (by kernel_rfl) Tryz.func4
  (ChangeSpec.witness6 (enc := enc) (C := Tryz.checked) false ⟨#[], #[.slice none 0 0], []⟩ 8 (by kernel_rfl) (by kernel_rfl) (by kernel_rfl) (by kernel_rfl)) ?_
 intro W base args ds gs before hval0 hW hcnd _
 have hval : ∀ (j : Nat) t v, Tryz.f4.params[j]? = some t → args[j]? = some v → Value.okWide Tryz.prog W .any base t v := hval0
 have hW' := hW
 obtain ⟨p, q, hA0, hV, rfl, hfz, hnd⟩ := hW
 have hA : DataW.TrodAll enc Tryz.prog W 0 (fun _ => true) true Tryz.f4.params.toList args.toList ds p := hA0
 rw [Tryz.params4] at hA hval
 obtain ⟨v0, vs0, d0, ds0, p0, q0, hargs, rfl, rfl, h0, r0⟩ := trodAll_cons hA
 obtain ⟨rfl, rfl, rfl⟩ := trodAll_nil r0
 obtain rfl : args = #[v0] := by cases args; simp_all
 obtain ⟨rfl, rfl⟩ := trodVars_none hV
 have k0 := h0
 have lt0 : ∀ x ∈ p0, x.block < W.heap.size := by obtain ⟨m, hm⟩ := k0; exact DataW.trod_lt m _ _ _ hm
 obtain ⟨A0, c0, a0, rfl, w0, i0⟩ := open_o12s Tryz.underlying47 (hval 0 47 v0 rfl rfl) h0
 clear hA0 hval0
 refine (streamPlays_c A0 c0 a0 W w0 i0).mono fun e W' ⟨he, bel⟩ => ?_
 subst he
 exact ⟨_, rfl, _, _, _, [], _, [], hW', trodAll_mk1 (shut_bool Tryz.underlying4 _), (trodAll_cons_mk (Below.trod laidOut (by kernel_rfl) (of_decide_eq_true (by kernel_rfl)) k0 bel lt0) trodAll_mk0), rfl, bel.frame _, fun h => by cases h⟩
theorem streamPlays_wf : (Rows.streamPlaysRow.wf (OpenSpec.ofChange Rows.streamPlaysSpec)) = true := by kernel_rfl
theorem streamPlays_inp : (Rows.streamPlaysRow.inPlace == Tryz.checked.prog.inPlace 4) = true := by kernel_rfl
theorem streamPlays_unf : (Rows.streamPlaysRow.unfollowed == Tryz.checked.prog.unfollowed 4) = true := by kernel_rfl
theorem streamPlays_rec : (Rows.streamPlaysRow.recurses == Tryz.checked.prog.recurses 4) = true := by kernel_rfl
theorem streamPlays_nam : (Rows.streamPlaysRow.named == Tryz.checked.prog.varsNamed 4) = true := by kernel_rfl
theorem streamPlays_lif : (Rows.streamPlaysRow.lifted == Tryz.checked.prog.liftsFinal) = true := by kernel_rfl
theorem streamPlays_mak : (Tryz.checked.prog.make == some Rows.streamPlaysRow.make) = true := by kernel_rfl
theorem streamPlays_pk : (Rows.streamPlaysRow.plainKeys == Tryz.checked.prog.plainKeys) = true := by kernel_rfl
theorem streamPlays_pin : (Rows.streamPlaysRow.pinned == Rows.streamPlaysRow.pinnedBy) = true := by kernel_rfl
theorem streamPlays_joined : joinedFacts Tryz.checked.prog 4 Tryz.f4 Rows.streamPlaysSpec Rows.streamPlaysRow = true := by
 unfold joinedFacts
 rw [join_laid, join_maps, streamPlays_wf, streamPlays_inp, streamPlays_unf, streamPlays_rec, streamPlays_nam, streamPlays_lif, streamPlays_mak, streamPlays_pk, streamPlays_pin]
 kernel_rfl
/-- the given statement -/
theorem streamPlays_holds : Rows.StreamPlaysSaid :=
 OpenClaim.holds_of_wide 4 Tryz.f4 rfl rfl rfl rfl rfl rfl rfl ⟨rfl, rfl, rfl, rfl, rfl⟩ rfl rfl rfl rfl rfl (by kernel_rfl) Tryz.func4 streamPlays_joined
  (of_decide_eq_true (by kernel_rfl)) (by unfold Func.isWrapper; rw [if_neg (of_decide_eq_false (by kernel_rfl))]; exact ⟨rfl, rfl⟩)
  (fun os started H enc _ => streamPlays_lifted os started H enc)
end Go.Proofs.YtampniiehgimhaaGreat
