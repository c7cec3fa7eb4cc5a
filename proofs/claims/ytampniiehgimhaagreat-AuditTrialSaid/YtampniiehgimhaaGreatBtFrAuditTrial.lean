/- countinghouselaw22.AuditTrial returns true for every input, and what its arguments read as stays as it was: the given statement, with no condition. -/
import Derived.Test.YtampniiehgimhaaGreatRows
import Derived.Test.YtampniiehgimhaaGreatBtAuTrial
import Derived.Test.YtampniiehgimhaaGreatBtOpThree
import Derived.Test.YtampniiehgimhaaGreatBs12
import Derived.Test.YtampniiehgimhaaGreatBs20
import Derived.WalkKit
import Derived.ProofKit
import Derived.OpenShut
import Derived.ShutString
import Derived.ChangeOld
import Derived.Below
import Derived.Test.YtampniiehgimhaaGreatBtX

namespace Go.Proofs.YtampniiehgimhaaGreat
open Go.ChangeShapes Go.WideShapes Go.ChangeAt Go.RowKit
open Go.ChangeMaps (open_string shut_string)
set_option maxRecDepth 100000 in
theorem auditTrial_lifted (os : Os) (started : os.Started) (H : Type) (enc : TypeId × Value → H) :
  ReturnsInHanded {} Tryz.checked os 6 .any (Rows.auditTrialSpec.pre6 enc Tryz.prog Tryz.f6 Rows.auditTrialRow.domain false) (Rows.auditTrialSpec.post enc Tryz.prog Tryz.f6 false true false false) := by
 refine returnsInHanded_of_change (C := Tryz.checked) ownKnob_none started (by kernel_rfl) Tryz.func6
  (ChangeSpec.witness6 (enc := enc) (C := Tryz.checked) false ⟨#[], #[.slice none 0 0, .agg #[.int .i64 0, .int .i64 0, .int .i64 0], .string ⟨#[]⟩], []⟩ 8 (by kernel_rfl) (by kernel_rfl) (by kernel_rfl) (by kernel_rfl)) ?_
 intro W base args ds gs before hval0 hW hcnd _
 have hval : ∀ (j : Nat) t v, Tryz.f6.params[j]? = some t → args[j]? = some v → Value.okWide Tryz.prog W .any base t v := hval0
 have hW' := hW
 obtain ⟨p, q, hA0, hV, rfl, hfz, hnd⟩ := hW
 have hA : DataW.TrodAll enc Tryz.prog W 0 (fun _ => true) true Tryz.f6.params.toList args.toList ds p := hA0
 rw [Tryz.params6] at hA hval
 obtain ⟨v0, vs0, d0, ds0, p0, q0, hargs, rfl, rfl, h0, r0⟩ := trodAll_cons hA
 obtain ⟨v1, vs1, d1, ds1, p1, q1, rfl, rfl, rfl, h1, r1⟩ := trodAll_cons r0
 obtain ⟨v2, vs2, d2, ds2, p2, q2, rfl, rfl, rfl, h2, r2⟩ := trodAll_cons r1
 obtain ⟨rfl, rfl, rfl⟩ := trodAll_nil r2
 obtain rfl : args = #[v0, v1, v2] := by cases args; simp_all
 obtain ⟨rfl, rfl⟩ := trodVars_none hV
 have k0 := h0
 have lt0 : ∀ x ∈ p0, x.block < W.heap.size := by obtain ⟨m, hm⟩ := k0; exact DataW.trod_lt m _ _ _ hm
 obtain ⟨A0, c0, a0, rfl, w0, i0⟩ := open_odsR (hval 0 22 v0 rfl rfl) h0
 have k1 := h1
 have lt1 : ∀ x ∈ p1, x.block < W.heap.size := by obtain ⟨m, hm⟩ := k1; exact DataW.trod_lt m _ _ _ hm
 obtain ⟨a1, b1, g1, rfl⟩ := open_three (hval 1 94 v1 rfl rfl) h1
 obtain ⟨a2, rfl, rfl, rfl, w2⟩ := open_string Tryz.underlying9 (hval 2 9 v2 rfl rfl) h2
 clear hA0 hval0
 refine (auditTrial_c A0 c0 a0 a1 b1 g1 a2 W w0 i0 w2).mono fun e W' ⟨he, bel⟩ => ?_
 subst he
 exact ⟨_, rfl, _, _, _, [], _, [], hW', trodAll_mk1 (shut_bool Tryz.underlying4 _), (trodAll_cons_mk (Below.trod laidOut (by kernel_rfl) (of_decide_eq_true (by kernel_rfl)) k0 bel lt0) (trodAll_cons_mk (Below.trod laidOut (by kernel_rfl) (of_decide_eq_true (by kernel_rfl)) k1 bel lt1) (trodAll_cons_mk (shut_string Tryz.underlying9 w2) trodAll_mk0))), rfl, bel.frame _, fun h => by cases h⟩
theorem auditTrial_wf : (Rows.auditTrialRow.wf (OpenSpec.ofChange Rows.auditTrialSpec)) = true := by kernel_rfl
theorem auditTrial_inp : (Rows.auditTrialRow.inPlace == Tryz.checked.prog.inPlace 6) = true := by kernel_rfl
theorem auditTrial_unf : (Rows.auditTrialRow.unfollowed == Tryz.checked.prog.unfollowed 6) = true := by kernel_rfl
theorem auditTrial_rec : (Rows.auditTrialRow.recurses == Tryz.checked.prog.recurses 6) = true := by kernel_rfl
theorem auditTrial_nam : (Rows.auditTrialRow.named == Tryz.checked.prog.varsNamed 6) = true := by kernel_rfl
theorem auditTrial_lif : (Rows.auditTrialRow.lifted == Tryz.checked.prog.liftsFinal) = true := by kernel_rfl
theorem auditTrial_mak : (Tryz.checked.prog.make == some Rows.auditTrialRow.make) = true := by kernel_rfl
theorem auditTrial_pk : (Rows.auditTrialRow.plainKeys == Tryz.checked.prog.plainKeys) = true := by kernel_rfl
theorem auditTrial_pin : (Rows.auditTrialRow.pinned == Rows.auditTrialRow.pinnedBy) = true := by kernel_rfl
theorem auditTrial_joined : joinedFacts Tryz.checked.prog 6 Tryz.f6 Rows.auditTrialSpec Rows.auditTrialRow = true := by
 unfold joinedFacts
 rw [join_laid, join_maps, auditTrial_wf, auditTrial_inp, auditTrial_unf, auditTrial_rec, auditTrial_nam, auditTrial_lif, auditTrial_mak, auditTrial_pk, auditTrial_pin]
 kernel_rfl
/-- the given statement -/
theorem auditTrial_holds : Rows.AuditTrialSaid :=
 OpenClaim.holds_of_wide 6 Tryz.f6 rfl rfl rfl rfl rfl rfl rfl ⟨rfl, rfl, rfl, rfl, rfl⟩ rfl rfl rfl rfl rfl (by kernel_rfl) Tryz.func6 auditTrial_joined
  (of_decide_eq_true (by kernel_rfl)) (by unfold Func.isWrapper; rw [if_neg (of_decide_eq_false (by kernel_rfl))]; exact ⟨rfl, rfl⟩)
  (fun os started H enc _ => auditTrial_lifted os started H enc)
end Go.Proofs.YtampniiehgimhaaGreat
