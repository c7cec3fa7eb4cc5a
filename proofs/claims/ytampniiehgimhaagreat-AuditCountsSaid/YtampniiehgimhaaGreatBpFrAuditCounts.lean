/- countinghouselaw22.AuditCounts returns true for every input, and what its arguments read as stays as it was: the given statement, with no condition. -/
import Derived.Test.YtampniiehgimhaaGreatRows
import Derived.Test.YtampniiehgimhaaGreatBq12
import Derived.Test.YtampniiehgimhaaGreatBpAuCounts
import Derived.Test.YtampniiehgimhaaGreatBq20
import Derived.WalkKit
import Derived.ProofKit
import Derived.OpenShut
import Derived.ShutString
import Derived.ChangeOld
import Derived.Below
namespace Go.Proofs.YtampniiehgimhaaGreat
open Go.ChangeShapes Go.WideShapes Go.ChangeAt Go.RowKit
open Go.ChangeMaps (open_string shut_string)

set_option maxRecDepth 100000 in
theorem auditCounts_lifted (os : Os) (started : os.Started) (H : Type) (enc : TypeId × Value → H) :
  ReturnsInHanded {} Tryz.checked os 7 .any (Rows.auditCountsSpec.pre6 enc Tryz.prog Tryz.f7 Rows.auditCountsRow.domain false) (Rows.auditCountsSpec.post enc Tryz.prog Tryz.f7 false true false false) := by
 refine returnsInHanded_of_change (C := Tryz.checked) ownKnob_none started (by kernel_rfl) Tryz.func7
  (ChangeSpec.witness6 (enc := enc) (C := Tryz.checked) false ⟨#[], #[.slice none 0 0, .string ⟨#[]⟩], []⟩ 8 (by kernel_rfl) (by kernel_rfl) (by kernel_rfl) (by kernel_rfl)) ?_
 intro W base args ds gs before hval0 hW hcnd _
 have hval : ∀ (j : Nat) t v, Tryz.f7.params[j]? = some t → args[j]? = some v → Value.okWide Tryz.prog W .any base t v := hval0
 have hW' := hW
 obtain ⟨p, q, hA0, hV, rfl, hfz, hnd⟩ := hW
 have hA : DataW.TrodAll enc Tryz.prog W 0 (fun _ => true) true Tryz.f7.params.toList args.toList ds p := hA0
 rw [Tryz.params7] at hA hval
 obtain ⟨v0, vs0, d0, ds0, p0, q0, hargs, rfl, rfl, h0, r0⟩ := trodAll_cons hA
 obtain ⟨v1, vs1, d1, ds1, p1, q1, rfl, rfl, rfl, h1, r1⟩ := trodAll_cons r0
 obtain ⟨rfl, rfl, rfl⟩ := trodAll_nil r1
 obtain rfl : args = #[v0, v1] := by cases args; simp_all
 obtain ⟨rfl, rfl⟩ := trodVars_none hV
 have k0 := h0
 have lt0 : ∀ x ∈ p0, x.block < W.heap.size := by obtain ⟨m, hm⟩ := k0; exact DataW.trod_lt m _ _ _ hm
 obtain ⟨A0, c0, a0, rfl, w0, i0⟩ := open_odsR (hval 0 22 v0 rfl rfl) h0
 obtain ⟨a1, rfl, rfl, rfl, w1⟩ := open_string Tryz.underlying9 (hval 1 9 v1 rfl rfl) h1
 clear hA0 hval0
 refine (auditCounts_c A0 c0 a0 a1 W w0 i0 w1).mono fun e W' ⟨he, bel⟩ => ?_
 subst he
 exact ⟨_, rfl, _, _, _, [], _, [], hW', trodAll_mk1 (shut_bool Tryz.underlying4 _), (trodAll_cons_mk (Below.trod laidOut (by kernel_rfl) (of_decide_eq_true (by kernel_rfl)) k0 bel lt0) (trodAll_cons_mk (shut_string Tryz.underlying9 w1) trodAll_mk0)), rfl, bel.frame _, fun h => by cases h⟩

theorem auditCounts_wf : (Rows.auditCountsRow.wf (OpenSpec.ofChange Rows.auditCountsSpec)) = true := by kernel_rfl
theorem auditCounts_inp : (Rows.auditCountsRow.inPlace == Tryz.checked.prog.inPlace 7) = true := by kernel_rfl
theorem auditCounts_unf : (Rows.auditCountsRow.unfollowed == Tryz.checked.prog.unfollowed 7) = true := by kernel_rfl
theorem auditCounts_rec : (Rows.auditCountsRow.recurses == Tryz.checked.prog.recurses 7) = true := by kernel_rfl
theorem auditCounts_nam : (Rows.auditCountsRow.named == Tryz.checked.prog.varsNamed 7) = true := by kernel_rfl
theorem auditCounts_lif : (Rows.auditCountsRow.lifted == Tryz.checked.prog.liftsFinal) = true := by kernel_rfl
theorem auditCounts_mak : (Tryz.checked.prog.make == some Rows.auditCountsRow.make) = true := by kernel_rfl
theorem auditCounts_pk : (Rows.auditCountsRow.plainKeys == Tryz.checked.prog.plainKeys) = true := by kernel_rfl
theorem auditCounts_pin : (Rows.auditCountsRow.pinned == Rows.auditCountsRow.pinnedBy) = true := by kernel_rfl
theorem auditCounts_joined : joinedFacts Tryz.checked.prog 7 Tryz.f7 Rows.auditCountsSpec Rows.auditCountsRow = true := by
 unfold joinedFacts
 rw [join_laid, join_maps, auditCounts_wf, auditCounts_inp, auditCounts_unf, auditCounts_rec, auditCounts_nam, auditCounts_lif, auditCounts_mak, auditCounts_pk, auditCounts_pin]
 kernel_rfl

/-- the given statement -/
theorem auditCounts_holds : Rows.AuditCountsSaid :=
 OpenClaim.holds_of_wide 7 Tryz.f7 rfl rfl rfl rfl rfl rfl rfl ⟨rfl, rfl, rfl, rfl, rfl⟩ rfl rfl rfl rfl rfl (by kernel_rfl) Tryz.func7 auditCounts_joined
  (of_decide_eq_true (by kernel_rfl)) (by unfold Func.isWrapper; rw [if_neg (of_decide_eq_false (by kernel_rfl))]; exact ⟨rfl, rfl⟩)
  (fun os started H enc _ => auditCounts_lifted os started H enc)
end Go.Proofs.YtampniiehgimhaaGreat
