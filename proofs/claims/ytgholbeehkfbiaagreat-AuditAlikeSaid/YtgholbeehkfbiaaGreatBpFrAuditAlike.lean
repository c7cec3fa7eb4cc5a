/- countinghouselaw22.AuditAlike returns true for every input, and what its arguments read as stays as it was: the given statement, with no condition. -/
import Derived.Test.YtgholbeehkfbiaaGreatRows
import Derived.Test.YtgholbeehkfbiaaGreatBm9
import Derived.Test.YtgholbeehkfbiaaGreatBm10
import Derived.Test.YtgholbeehkfbiaaGreatBpOpTwo
import Derived.Test.YtgholbeehkfbiaaGreatBpAuAlike
import Derived.Test.YtgholbeehkfbiaaGreatBpJoin
import Derived.WalkKit
import Derived.ProofKit
import Derived.OpenShut
import Derived.ShutString
import Derived.ChangeOld
import Derived.Below
namespace Go.Proofs.YtgholbeehkfbiaaGreat
open Go.ChangeShapes Go.WideShapes Go.ChangeAt Go.RowKit
open Go.ChangeMaps (open_string shut_string)

set_option maxRecDepth 100000 in
theorem auditAlike_lifted (os : Os) (started : os.Started) (H : Type) (enc : TypeId × Value → H) :
    ReturnsInHanded {} Tryz.checked os 11 .any (Rows.auditAlikeSpec.pre6 enc Tryz.prog Tryz.f11 Rows.auditAlikeRow.domain false) (Rows.auditAlikeSpec.post enc Tryz.prog Tryz.f11 false true false false) := by
  refine returnsInHanded_of_change (C := Tryz.checked) ownKnob_none started (by kernel_rfl) Tryz.func11
    (ChangeSpec.witness6 (enc := enc) (C := Tryz.checked) false ⟨#[], #[.slice none 0 0, .slice none 0 0, .int .i64 0], []⟩ 8 (by kernel_rfl) (by kernel_rfl) (by kernel_rfl) (by kernel_rfl)) ?_
  intro W base args ds gs before hval0 hW hcnd _
  have hval : ∀ (j : Nat) t v, Tryz.f11.params[j]? = some t → args[j]? = some v → Value.okWide Tryz.prog W .any base t v := hval0
  have hW' := hW
  obtain ⟨p, q, hA0, hV, rfl, hfz, hnd⟩ := hW
  have hA : DataW.TrodAll enc Tryz.prog W 0 (fun _ => true) true Tryz.f11.params.toList args.toList ds p := hA0
  rw [Tryz.params11] at hA hval
  obtain ⟨v0, vs0, d0, ds0, p0, q0, hargs, rfl, rfl, h0, r0⟩ := trodAll_cons hA
  obtain ⟨v1, vs1, d1, ds1, p1, q1, rfl, rfl, rfl, h1, r1⟩ := trodAll_cons r0
  obtain ⟨v2, vs2, d2, ds2, p2, q2, rfl, rfl, rfl, h2, r2⟩ := trodAll_cons r1
  obtain ⟨rfl, rfl, rfl⟩ := trodAll_nil r2
  obtain rfl : args = #[v0, v1, v2] := by cases args; simp_all
  obtain ⟨rfl, rfl⟩ := trodVars_none hV
  have k0 := h0
  have lt0 : ∀ x ∈ p0, x.block < W.heap.size := by obtain ⟨m, hm⟩ := k0; exact DataW.trod_lt m _ _ _ hm
  obtain ⟨A0, c0, a0, rfl, w0, i0⟩ := open_odsR (hval 0 22 v0 rfl rfl) h0
  have k1 := h1
  have lt1 : ∀ x ∈ p1, x.block < W.heap.size := by obtain ⟨m, hm⟩ := k1; exact DataW.trod_lt m _ _ _ hm
  obtain ⟨A1, c1, a1, rfl, w1⟩ := open_ns (hval 1 114 v1 rfl rfl) h1
  obtain ⟨a2, rfl, rfl, rfl, w2⟩ := open_int Tryz.underlying3 (hval 2 3 v2 rfl rfl) h2
  clear hA0 hval0
  refine (auditAlike_c A0 A1 c0 c1 a0 a1 a2 W w0 i0 w1 (R64.of_wf w2)).mono fun e W' ⟨he, bel⟩ => ?_
  subst he
  exact ⟨_, rfl, _, _, _, [], _, [], hW', trodAll_mk1 (shut_bool Tryz.underlying4 _), (trodAll_cons_mk (Below.trod laidOut (by kernel_rfl) (of_decide_eq_true (by kernel_rfl)) k0 bel lt0) (trodAll_cons_mk (Below.trod laidOut (by kernel_rfl) (of_decide_eq_true (by kernel_rfl)) k1 bel lt1) (trodAll_cons_mk (shut_int Tryz.underlying3 w2) trodAll_mk0))), rfl, bel.frame _, fun h => by cases h⟩

theorem auditAlike_wf : (Rows.auditAlikeRow.wf (OpenSpec.ofChange Rows.auditAlikeSpec)) = true := by kernel_rfl
theorem auditAlike_inp : (Rows.auditAlikeRow.inPlace == Tryz.checked.prog.inPlace 11) = true := by kernel_rfl
theorem auditAlike_unf : (Rows.auditAlikeRow.unfollowed == Tryz.checked.prog.unfollowed 11) = true := by kernel_rfl
theorem auditAlike_rec : (Rows.auditAlikeRow.recurses == Tryz.checked.prog.recurses 11) = true := by kernel_rfl
theorem auditAlike_nam : (Rows.auditAlikeRow.named == Tryz.checked.prog.varsNamed 11) = true := by kernel_rfl
theorem auditAlike_lif : (Rows.auditAlikeRow.lifted == Tryz.checked.prog.liftsFinal) = true := by kernel_rfl
theorem auditAlike_mak : (Tryz.checked.prog.make == some Rows.auditAlikeRow.make) = true := by kernel_rfl
theorem auditAlike_pk : (Rows.auditAlikeRow.plainKeys == Tryz.checked.prog.plainKeys) = true := by kernel_rfl
theorem auditAlike_pin : (Rows.auditAlikeRow.pinned == Rows.auditAlikeRow.pinnedBy) = true := by kernel_rfl
theorem auditAlike_joined : joinedFacts Tryz.checked.prog 11 Tryz.f11 Rows.auditAlikeSpec Rows.auditAlikeRow = true := by
  unfold joinedFacts
  rw [join_laid, join_maps, auditAlike_wf, auditAlike_inp, auditAlike_unf, auditAlike_rec, auditAlike_nam, auditAlike_lif, auditAlike_mak, auditAlike_pk, auditAlike_pin]
  kernel_rfl

/-- the given statement -/
theorem auditAlike_holds : Rows.AuditAlikeSaid :=
  OpenClaim.holds_of_wide 11 Tryz.f11 rfl rfl rfl rfl rfl rfl rfl ⟨rfl, rfl, rfl, rfl, rfl⟩ rfl rfl rfl rfl rfl (by kernel_rfl) Tryz.func11 auditAlike_joined
    (of_decide_eq_true (by kernel_rfl)) (by unfold Func.isWrapper; rw [if_neg (of_decide_eq_false (by kernel_rfl))]; exact ⟨rfl, rfl⟩)
    (fun os started H enc _ => auditAlike_lifted os started H enc)
end Go.Proofs.YtgholbeehkfbiaaGreat
