/- ref10.Alike, Rest, Meet -/
import Derived.Test.YtogecfddkohigaaRows
import Derived.Test.YtogecfddkohigaaRDefs
import Derived.Test.YtogecfddkohigaaROthers
import Derived.Test.YtogecfddkohigaaAppendG
import Derived.Test.YtogecfddkohigaaOthers
import Derived.WalkKit
import Derived.WalkSpells
import Derived.WalkLawsBesides
import Derived.Deep.QuietTactic
import Derived.BigQuiet
import Derived.Laws.StructEq
import Derived.Deep.DeepFit
import Derived.StillTailTactics
namespace Go.Proofs.Ytogecfddkohigaa
open Go.RowKit
theorem Own.rsls {w : World} {base : Nat} {e : TypeId} {v : Value} {l : List Od} {S : Nat → Prop} (h : Own w base e v l) (hS : ∀ b, base ≤ b → b < w.heap.size → S b) (hx : ∀ x ∈ l, Enc.ok w S x) : ∃ A c, v = .slice A l.length c ∧ SlS w S A c l := by
  obtain ⟨A, c, rfl, hs⟩ := h.sl
  refine ⟨A, c, rfl, hs.1, hs.2.1, fun hn => ?_, hx⟩
  obtain ⟨b, o, rfl, hb, hc⟩ := hs.2.2.1 hn
  exact ⟨b, o, rfl, hS b (h.1.lt b rfl).1 hb, hc⟩

set_option maxRecDepth 100000 in
set_option maxHeartbeats 1000000 in
theorem ralike_c (hR : RBegins) (A C : Option Addr) (c d : Nat) (a b : List Od) (w : World) (ha : Sl w w.heap.size A c a) (hb : Sl w w.heap.size C d b) (hna : a.length ≤ 65536) (hnb : b.length ≤ 65536) (hla : fewLegs a) (hlb : fewLegs b) :
    Calls Try.prog 21 #[.slice A a.length c, .slice C b.length d] w fun e w' => e = .returned (.bool (alikeB a b)) ∧ Below w.heap.size w w' := by
  have H := Lib.hid (hR A C c d a b w ha hb hna hnb hla hlb)
  clear ha hb hla hlb hR
  by_cases hl : a.length = b.length
  · have q : ((a.length : Int) == (b.length : Int)) = true := by rw [hl]; simp
    have Hs : Hid (alikeB a b = beginsB a b) := Lib.hid (by unfold alikeB; rw [decide_eq_true hl, Bool.true_and])
    clear hl
    go_enter Try.func21, Try.ntmps21
    go_wp2_with (go_at_call 19; refine (H.out).mono ?_; rintro e w' ⟨rfl, hb⟩)
    go_ret
    exact ⟨by rw [Hs.out]; rfl, hb⟩
  · have q : ((a.length : Int) == (b.length : Int)) = false := by rw [beq_eq_false_iff_ne]; omega
    have Hs : Hid (alikeB a b = false) := Lib.hid (by unfold alikeB; rw [decide_eq_false hl, Bool.false_and])
    clear hl
    go_enter Try.func21, Try.ntmps21
    go_wp2_with (go_at_call 19; refine (H.out).mono ?_; rintro e w' ⟨rfl, hb⟩)
    go_ret
    exact ⟨by rw [Hs.out]; rfl, Below.refl _ _⟩

set_option maxRecDepth 100000 in
set_option maxHeartbeats 1000000 in
theorem rrest_c (hR : RBegins) (A C : Option Addr) (c d : Nat) (a b : List Od) (w : World) (ha : Sl w w.heap.size A c a) (hb : Sl w w.heap.size C d b) (hna : a.length ≤ 65536) (hnb : b.length ≤ 65536) (hla : fewLegs a) (hlb : fewLegs b) :
    Calls Try.prog 24 #[.slice A a.length c, .slice C b.length d] w fun e w' => ∃ v, e = .returned v ∧ Own w' w.heap.size 30 v (restL a b) ∧ Below w.heap.size w w' := by
  go_enter Try.func24, Try.ntmps24
  go_wp2_with fail
  refine (hR A C c d a b w ha hb hna hnb hla hlb).mono ?_
  rintro e w1 ⟨rfl, hb1⟩
  by_cases hbg : beginsB a b = true
  · have hr : restL a b = othersL a b := by unfold restL; rw [if_pos hbg]
    rw [hbg]
    have Hr := Lib.hid hr
    clear hr
    have Hbg := Lib.hid hbg
    clear hbg
    go_wp2_with fail
    refine (rothers_c A C c d a b w1 (ha.later hb1) (hb.later hb1) hna hnb).mono ?_
    rintro e w2 ⟨v2, rfl, hO2, hb2⟩
    go_wp2
    go_ret
    exact ⟨_, rfl, by rw [Hr.out]; exact hO2.mono hb1.size, hb1.trans (hb2.mono hb1.size)⟩
  · have hbg' : beginsB a b = false := by simpa using hbg
    have hr : restL a b = [] := by unfold restL; rw [if_neg hbg]
    rw [hbg']
    have Hr := Lib.hid hr
    clear hr hbg hbg'
    go_wp2
    go_ret
    exact ⟨_, rfl, by rw [Hr.out]; exact Own.nil_ _ _ _, hb1⟩

set_option maxRecDepth 100000 in
set_option maxHeartbeats 2000000 in
theorem rmeet_c (hR : RBegins) (A C : Option Addr) (c d : Nat) (a b : List Od) (w : World) (ha : Sl w w.heap.size A c a) (hb : Sl w w.heap.size C d b) (hna : a.length ≤ 30000) (hnb : b.length ≤ 30000) (hla : fewLegs a) (hlb : fewLegs b) :
    Calls Try.prog 15 #[.slice A a.length c, .slice C b.length d] w fun e w' => ∃ v, e = .returned (.tuple #[v, .bool (meetOk a b)]) ∧ Own w' w.heap.size 30 v (meetR a b) ∧ Below w.heap.size w w' := by
  have hlen : (meetL a b).length ≤ 65536 := by rw [List.length_append]; have := othersL_len a b; omega
  have hsub : ∀ x ∈ othersL a b, x ∈ b := othersL_sub a b
  have holn := othersL_len a b
  have hx3 := meetL_few hla hlb
  have HR := Lib.hid hR
  have hAx : ∀ x ∈ a, Okb w w.heap.size x := ha.2.2.2
  have hCx : ∀ x ∈ b, Okb w w.heap.size x := hb.2.2.2
  have HA1 : SlS w (Oth w (.slice none 0 0)) A c a := ha.keep (fun _ _ => rfl) (fun b hb => ⟨hb, by simp [Value.ownBlock]⟩)
  have HAx := Lib.hid hAx
  have HCx := Lib.hid hCx
  have Ha1 := Lib.hid HA1
  have HX := Lib.hid hx3
  have Ha := Lib.hid ha
  have Hb := Lib.hid hb
  have Hla := Lib.hid hla
  have Hlb := Lib.hid hlb
  have hm : meetOk a b = (beginsB a (meetL a b) && beginsB b (meetL a b)) := rfl
  have Hm := Lib.hid hm
  clear hR hAx hCx HA1 ha hb hla hlb hx3 hm
  go_enter Try.func15, Try.ntmps15
  go_wp2_with (at_builtin; refine wpList_append_guarded rfl (some 8) (.const (.slice none 0 0)) (.tmp 7) 22 rfl rfl (.agg #[i64 0, i64 0, i64 0, .string ByteArray.empty, .string ByteArray.empty, i64 0, .slice none 0 0, i64 0, i64 0, .string ByteArray.empty]) 120 Try.underlying22 inf_od rfl (by decide) (by decide) rfl (Own.nil_ w w.heap.size 30) A a.length c a rfl rfl Ha1.out (by simp only [List.length_nil]; omega) (Nat.le_refl _) ?_; intro v3 w9 hO3 hg3 hat3)
  have hF9 := (Own.nil_ (α := Od) w w.heap.size 30).below hg3 (Nat.le_refl _) (Nat.le_refl _)
  have HF9 := Lib.hid hF9
  have HO3 := Lib.hid hO3
  clear hg3 hat3 hO3 hF9
  with_reducible refine (rothers_c A C c d a b _ (Ha.out.later HF9.out) (Hb.out.later HF9.out) (by omega) (by omega)).mono ?_
  rintro e w10 ⟨v4, rfl, hO4, hF4⟩
  have hO3 := HO3.out.later hF4
  have hF10 := below_on HF9.out (Nat.le_refl _) hF4
  obtain ⟨m, hmm⟩ : ∃ m, meetL a b = m := ⟨_, rfl⟩
  have Hmm := Lib.hid hmm
  have hml : a ++ othersL a b = m := hmm
  have HX := HX.out
  have Hm := Hm.out
  rw [hmm] at HX Hm hlen
  have Hml := Lib.hid hml
  have HX := Lib.hid HX
  have Hm := Lib.hid Hm
  clear hmm hml
  generalize othersL a b = R at hO4 hsub holn Hml
  obtain ⟨A4, c4, rfl, hs4⟩ := hO4.rsls (S := Oth w10 v3) (fun b h1 h2 => ⟨h2, fun e => by have := (HO3.out.1.lt b e.symm).2; omega⟩) (fun x hx => Enc.keep (HCx.out x (hsub x hx)) (fun p hp => hF10.cell hp) (hO3.oth (Nat.le_refl _) hF10.size))
  have HO3' := Lib.hid hO3
  have HF10 := Lib.hid hF10
  have Hs4 := Lib.hid hs4
  clear hO4 hF4 hO3 hF10 hs4 HO3 HF9 hsub
  go_wp2_with (at_builtin; refine wpList_append_guarded rfl (some 12) (.tmp 8) (.tmp 11) 22 rfl rfl (.agg #[i64 0, i64 0, i64 0, .string ByteArray.empty, .string ByteArray.empty, i64 0, .slice none 0 0, i64 0, i64 0, .string ByteArray.empty]) 120 Try.underlying22 inf_od rfl (by decide) (by decide) rfl HO3'.out A4 R.length c4 R rfl rfl Hs4.out (by rw [List.nil_append]; omega) HF10.out.size ?_; intro v5 w11 hO5 hg5 hat5)
  have hB : Below w.heap.size w w11 := HF10.out.trans (HO3'.out.below hg5 (Nat.le_refl _) HF10.out.size)
  rw [List.nil_append, Hml.out] at hO5
  obtain ⟨A5, c5, rfl, h5⟩ := hO5.sl
  have HO5 := Lib.hid hO5
  have H5 := Lib.hid h5
  clear hO5 hg5 hat5 HO3' HF10 Hs4 h5
  with_reducible refine (HR.out A A5 c c5 a m _ (Ha.out.later hB) H5.out (by omega) hlen Hla.out HX.out).mono ?_
  rintro e w12 ⟨rfl, hF⟩
  have hB1 := below_on hB (Nat.le_refl _) hF
  have H5 := Lib.hid (H5.out.later hF)
  have HO5 := Lib.hid (HO5.out.later hF)
  clear hF
  by_cases h1 : beginsB a m = true
  · rw [h1]
    have H1 := Lib.hid h1
    clear h1
    go_wp2_with fail
    with_reducible refine (HR.out C A5 d c5 b m _ (Hb.out.later hB1) H5.out (by omega) hlen Hlb.out HX.out).mono ?_
    rintro e w13 ⟨rfl, hF⟩
    have hB2 := below_on hB1 (Nat.le_refl _) hF
    have HO5 := Lib.hid (HO5.out.later hF)
    clear hF
    by_cases h2 : beginsB b m = true
    · rw [h2]
      have H2 : Hid (meetOk a b = true) := Lib.hid (by rw [Hm.out, H1.out, h2]; rfl)
      clear h2
      go_wp2
      go_ret2
      exact ⟨_, by rw [H2.out]; rfl, by rw [meetR, H2.out, if_pos rfl, Hmm.out]; exact HO5.out, hB2⟩
    · have h2' : beginsB b m = false := by simpa using h2
      rw [h2']
      have H2 : Hid (meetOk a b = false) := Lib.hid (by rw [Hm.out, h2', Bool.and_false])
      clear h2 h2'
      go_wp2
      go_ret2
      exact ⟨_, by rw [H2.out]; rfl, by rw [meetR, H2.out, if_neg (by simp)]; exact Own.nil_ _ _ _, hB2⟩
  · have h1' : beginsB a m = false := by simpa using h1
    rw [h1']
    have H2 : Hid (meetOk a b = false) := Lib.hid (by rw [Hm.out, h1', Bool.false_and])
    clear h1 h1'
    go_wp2
    go_ret2
    exact ⟨_, by rw [H2.out]; rfl, by rw [meetR, H2.out, if_neg (by simp)]; exact Own.nil_ _ _ _, hB1⟩
end Go.Proofs.Ytogecfddkohigaa
