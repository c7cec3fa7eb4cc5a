/- countinghouselaw09.BookDoes returns true for every input, and what its arguments read as stays as it was: the given statement, with no condition. -/
import Derived.Test.YtampniiehgimhaaGreatRows
import Derived.Test.YtampniiehgimhaaGreatBpBkDoes
import Derived.Test.YtampniiehgimhaaGreatBn13
import Derived.Test.YtampniiehgimhaaGreatBn23
import Derived.WalkKit
import Derived.ProofKit
import Derived.OpenShut
import Derived.ShutString
import Derived.ChangeOld
import Derived.Below
namespace Go.Proofs.YtampniiehgimhaaGreat
open Go.ChangeShapes Go.WideShapes Go.ChangeAt Go.RowKit
open Go.ChangeMaps (open_string shut_string)

set_option maxRecDepth 100000 in
theorem bookDoes_lifted (os : Os) (started : os.Started) (H : Type) (enc : TypeId × Value → H) :
  ReturnsInHanded {} Tryz.checked os 3 .any (Rows.bookDoesSpec.pre6 enc Tryz.prog Tryz.f3 Rows.bookDoesRow.domain false) (Rows.bookDoesSpec.post enc Tryz.prog Tryz.f3 false true false false) := by
 refine returnsInHanded_of_change (C := Tryz.checked) ownKnob_none started (by kernel_rfl) Tryz.func3
  (ChangeSpec.witness6 (enc := enc) (C := Tryz.checked) false ⟨#[], #[.slice none 0 0], []⟩ 8 (by kernel_rfl) (by kernel_rfl) (by kernel_rfl) (by kernel_rfl)) ?_
 intro W base args ds gs before hval0 hW hcnd _
 have hval : ∀ (j : Nat) t v, Tryz.f3.params[j]? = some t → args[j]? = some v → Value.okWide Tryz.prog W .any base t v := hval0
 have hW' := hW
 obtain ⟨p, q, hA0, hV, rfl, hfz, hnd⟩ := hW
 have hA : DataW.TrodAll enc Tryz.prog W 0 (fun _ => true) true Tryz.f3.params.toList args.toList ds p := hA0
 rw [Tryz.params3] at hA hval
 obtain ⟨v0, vs0, d0, ds0, p0, q0, hargs, rfl, rfl, h0, r0⟩ := trodAll_cons hA
 obtain ⟨rfl, rfl, rfl⟩ := trodAll_nil r0
 obtain rfl : args = #[v0] := by cases args; simp_all
 obtain ⟨rfl, rfl⟩ := trodVars_none hV
 have k0 := h0
 have lt0 : ∀ x ∈ p0, x.block < W.heap.size := by obtain ⟨m, hm⟩ := k0; exact DataW.trod_lt m _ _ _ hm
 obtain ⟨A0, c0, a0, rfl, w0, i0⟩ := open_odsR (hval 0 22 v0 rfl rfl) h0
 clear hA0 hval0
 refine (bookDoes_c A0 c0 a0 W w0 i0).mono fun e W' ⟨he, bel⟩ => ?_
 subst he
 exact ⟨_, rfl, _, _, _, [], _, [], hW', trodAll_mk1 (shut_bool Tryz.underlying4 _), (trodAll_cons_mk (Below.trod laidOut (by kernel_rfl) (of_decide_eq_true (by kernel_rfl)) k0 bel lt0) trodAll_mk0), rfl, bel.frame _, fun h => by cases h⟩

theorem bookDoes_wf : (Rows.bookDoesRow.wf (OpenSpec.ofChange Rows.bookDoesSpec)) = true := by kernel_rfl
theorem bookDoes_inp : (Rows.bookDoesRow.inPlace == Tryz.checked.prog.inPlace 3) = true := by kernel_rfl
theorem bookDoes_unf : (Rows.bookDoesRow.unfollowed == Tryz.checked.prog.unfollowed 3) = true := by kernel_rfl
theorem bookDoes_rec : (Rows.bookDoesRow.recurses == Tryz.checked.prog.recurses 3) = true := by kernel_rfl
theorem bookDoes_nam : (Rows.bookDoesRow.named == Tryz.checked.prog.varsNamed 3) = true := by kernel_rfl
theorem bookDoes_lif : (Rows.bookDoesRow.lifted == Tryz.checked.prog.liftsFinal) = true := by kernel_rfl
theorem bookDoes_mak : (Tryz.checked.prog.make == some Rows.bookDoesRow.make) = true := by kernel_rfl
theorem bookDoes_pk : (Rows.bookDoesRow.plainKeys == Tryz.checked.prog.plainKeys) = true := by kernel_rfl
theorem bookDoes_pin : (Rows.bookDoesRow.pinned == Rows.bookDoesRow.pinnedBy) = true := by kernel_rfl
theorem bookDoes_joined : joinedFacts Tryz.checked.prog 3 Tryz.f3 Rows.bookDoesSpec Rows.bookDoesRow = true := by
 unfold joinedFacts
 rw [join_laid, join_maps, bookDoes_wf, bookDoes_inp, bookDoes_unf, bookDoes_rec, bookDoes_nam, bookDoes_lif, bookDoes_mak, bookDoes_pk, bookDoes_pin]
 kernel_rfl

/-- the given statement -/
theorem bookDoes_holds : Rows.BookDoesSaid :=
 OpenClaim.holds_of_wide 3 Tryz.f3 rfl rfl rfl rfl rfl rfl rfl ⟨rfl, rfl, rfl, rfl, rfl⟩ rfl rfl rfl rfl rfl (by kernel_rfl) Tryz.func3 bookDoes_joined
  (of_decide_eq_true (by kernel_rfl)) (by unfold Func.isWrapper; rw [if_neg (of_decide_eq_false (by kernel_rfl))]; exact ⟨rfl, rfl⟩)
  (fun os started H enc _ => bookDoes_lifted os started H enc)
end Go.Proofs.YtampniiehgimhaaGreat
