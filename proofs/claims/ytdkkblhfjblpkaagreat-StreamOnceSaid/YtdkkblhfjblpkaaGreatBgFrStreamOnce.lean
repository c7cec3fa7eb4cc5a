/- countinghouselaw12.StreamOnce returns true for every input, and what its arguments read as stays as it was: the given statement, with no condition. -/
import Derived.Test.YtdkkblhfjblpkaaGreatRows
import Derived.Test.YtdkkblhfjblpkaaGreatBi9
import Derived.Test.YtdkkblhfjblpkaaGreatBk1
import Derived.Test.YtdkkblhfjblpkaaGreatBgOpTwo
import Derived.Test.YtdkkblhfjblpkaaGreatBgStOnce
import Derived.Test.YtdkkblhfjblpkaaGreatBgJoin
import Derived.WalkKit
import Derived.ProofKit
import Derived.OpenShut
import Derived.ShutString
import Derived.ChangeOld
import Derived.Below
namespace Go.Proofs.YtdkkblhfjblpkaaGreat
open Go.ChangeShapes Go.WideShapes Go.ChangeAt Go.RowKit
open Go.ChangeMaps (open_string shut_string)

set_option maxRecDepth 100000 in
theorem streamOnce_lifted (os : Os) (started : os.Started) (H : Type) (enc : TypeId × Value → H) :
    ReturnsInHanded {} Tryz.checked os 7 .any (Rows.streamOnceSpec.pre6 enc Tryz.prog Tryz.f7 Rows.streamOnceRow.domain false) (Rows.streamOnceSpec.post enc Tryz.prog Tryz.f7 false true false false) := by
  refine returnsInHanded_of_change (C := Tryz.checked) ownKnob_none started (by kernel_rfl) Tryz.func7
    (ChangeSpec.witness6 (enc := enc) (C := Tryz.checked) false ⟨#[], #[.slice none 0 0, .slice none 0 0, .string ⟨#[]⟩], []⟩ 8 (by kernel_rfl) (by kernel_rfl) (by kernel_rfl) (by kernel_rfl)) ?_
  intro W base args ds gs before hval0 hW hcnd _
  have hval : ∀ (j : Nat) t v, Tryz.f7.params[j]? = some t → args[j]? = some v → Value.okWide Tryz.prog W .any base t v := hval0
  have hW' := hW
  obtain ⟨p, q, hA0, hV, rfl, hfz, hnd⟩ := hW
  have hA : DataW.TrodAll enc Tryz.prog W 0 (fun _ => true) true Tryz.f7.params.toList args.toList ds p := hA0
  rw [Tryz.params7] at hA hval
  obtain ⟨v0, vs0, d0, ds0, p0, q0, hargs, rfl, rfl, h0, r0⟩ := trodAll_cons hA
  obtain ⟨v1, vs1, d1, ds1, p1, q1, rfl, rfl, rfl, h1, r1⟩ := trodAll_cons r0
  obtain ⟨v2, vs2, d2, ds2, p2, q2, rfl, rfl, rfl, h2, r2⟩ := trodAll_cons r1
  obtain ⟨rfl, rfl, rfl⟩ := trodAll_nil r2
  obtain rfl : args = #[v0, v1, v2] := by cases args; simp_all
  obtain ⟨rfl, rfl⟩ := trodVars_none hV
  have k0 := h0
  have lt0 : ∀ x ∈ p0, x.block < W.heap.size := by obtain ⟨m, hm⟩ := k0; exact DataW.trod_lt m _ _ _ hm
  obtain ⟨A0, c0, a0, rfl, w0, i0⟩ := open_odsR (hval 0 22 v0 rfl rfl) h0
  have k1 := h1
  have lt1 : ∀ x ∈ p1, x.block < W.heap.size := by obtain ⟨m, hm⟩ := k1; exact DataW.trod_lt m _ _ _ hm
  obtain ⟨A1, c1, a1, rfl, w1⟩ := open_ns (hval 1 67 v1 rfl rfl) h1
  obtain ⟨a2, rfl, rfl, rfl, w2⟩ := open_string Tryz.underlying9 (hval 2 9 v2 rfl rfl) h2
  clear hA0 hval0
  refine (streamOnce_c A0 A1 c0 c1 a0 a1 a2 W w0 i0 w1 w2).mono fun e W' ⟨he, bel⟩ => ?_
  subst he
  exact ⟨_, rfl, _, _, _, [], _, [], hW', trodAll_mk1 (shut_bool Tryz.underlying4 _), (trodAll_cons_mk (Below.trod laidOut (by kernel_rfl) (of_decide_eq_true (by kernel_rfl)) k0 bel lt0) (trodAll_cons_mk (Below.trod laidOut (by kernel_rfl) (of_decide_eq_true (by kernel_rfl)) k1 bel lt1) (trodAll_cons_mk (shut_string Tryz.underlying9 w2) trodAll_mk0))), rfl, bel.frame _, fun h => by cases h⟩

theorem streamOnce_wf : (Rows.streamOnceRow.wf (OpenSpec.ofChange Rows.streamOnceSpec)) = true := by kernel_rfl
theorem streamOnce_inp : (Rows.streamOnceRow.inPlace == Tryz.checked.prog.inPlace 7) = true := by kernel_rfl
theorem streamOnce_unf : (Rows.streamOnceRow.unfollowed == Tryz.checked.prog.unfollowed 7) = true := by kernel_rfl
theorem streamOnce_rec : (Rows.streamOnceRow.recurses == Tryz.checked.prog.recurses 7) = true := by kernel_rfl
theorem streamOnce_nam : (Rows.streamOnceRow.named == Tryz.checked.prog.varsNamed 7) = true := by kernel_rfl
theorem streamOnce_lif : (Rows.streamOnceRow.lifted == Tryz.checked.prog.liftsFinal) = true := by kernel_rfl
theorem streamOnce_mak : (Tryz.checked.prog.make == some Rows.streamOnceRow.make) = true := by kernel_rfl
theorem streamOnce_pk : (Rows.streamOnceRow.plainKeys == Tryz.checked.prog.plainKeys) = true := by kernel_rfl
theorem streamOnce_pin : (Rows.streamOnceRow.pinned == Rows.streamOnceRow.pinnedBy) = true := by kernel_rfl
theorem streamOnce_joined : joinedFacts Tryz.checked.prog 7 Tryz.f7 Rows.streamOnceSpec Rows.streamOnceRow = true := by
  unfold joinedFacts
  rw [join_laid, join_maps, streamOnce_wf, streamOnce_inp, streamOnce_unf, streamOnce_rec, streamOnce_nam, streamOnce_lif, streamOnce_mak, streamOnce_pk, streamOnce_pin]
  kernel_rfl

/-- the given statement -/
theorem streamOnce_holds : Rows.StreamOnceSaid :=
  OpenClaim.holds_of_wide 7 Tryz.f7 rfl rfl rfl rfl rfl rfl rfl ⟨rfl, rfl, rfl, rfl, rfl⟩ rfl rfl rfl rfl rfl (by kernel_rfl) Tryz.func7 streamOnce_joined
    (of_decide_eq_true (by kernel_rfl)) (by unfold Func.isWrapper; rw [if_neg (of_decide_eq_false (by kernel_rfl))]; exact ⟨rfl, rfl⟩)
    (fun os started H enc _ => streamOnce_lifted os started H enc)
end Go.Proofs.YtdkkblhfjblpkaaGreat
