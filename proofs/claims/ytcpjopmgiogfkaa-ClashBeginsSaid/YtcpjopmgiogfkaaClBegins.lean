/- ClashBegins -/
import Derived.Test.YtcpjopmgiogfkaaRows
import Derived.Test.YtcpjopmgiogfkaaLives
import Derived.Test.YtcpjopmgiogfkaaFew10
import Derived.Test.YtcpjopmgiogfkaaLaw10
import Derived.Test.YtcpjopmgiogfkaaMixed
import Derived.Test.YtcpjopmgiogfkaaOthers
import Derived.Test.YtcpjopmgiogfkaaAppendG
import Derived.WalkKit
import Derived.WalkSpells
import Derived.WalkLawsBesides
import Derived.Deep.QuietTactic
import Derived.BigQuiet
import Derived.Laws.StructEq
import Derived.Deep.DeepFit
import Derived.StillTailTactics
namespace Go.Proofs.Ytcpjopmgiogfkaa
open Go.RowKit
theorem Mix.few {l m : List Od} (h : Mix l m) (hl : fewLegs l) : fewLegs m := fun x hx => hl x (h.perm.mem_iff.2 hx)
theorem Own.sls {w : World} {base : Nat} {e : TypeId} {v : Value} {l : List Od} {S : Nat → Prop} (h : Own w base e v l) (hS : ∀ b, base ≤ b → b < w.heap.size → S b) (hx : ∀ x ∈ l, Enc.ok w S x) : ∃ A c, v = .slice A l.length c ∧ SlS w S A c l := by
  obtain ⟨A, c, rfl, hs⟩ := h.sl
  refine ⟨A, c, rfl, hs.1, hs.2.1, fun hn => ?_, hx⟩
  obtain ⟨b, o, rfl, hb, hc⟩ := hs.2.2.1 hn
  exact ⟨b, o, rfl, hS b (h.1.lt b rfl).1 hb, hc⟩
set_option maxRecDepth 100000 in
set_option maxHeartbeats 8000000 in
theorem claBegins_c (A B : Option Addr) (c d : Nat) (l : List Od) (s : List Int) (x y : Int) (w : World) (ha : Sl w w.heap.size A c l) (hb : Sl w w.heap.size B d s) :
    Calls Try.prog 7 #[.slice A l.length c, .slice B s.length d, .agg #[.int .i64 x, .int .i64 y]] w fun e w' => e = .returned (.bool true) ∧ Below w.heap.size w w' := by
  have hB0 := (Below.refl w.heap.size w).alloc (Nat.le_refl _) (.cells #[.int .i64 x, .int .i64 y] 42)
  have e0 : (w.alloc (.cells #[.int .i64 x, .int .i64 y] 42)).cell? ⟨w.heap.size, 0, none⟩ = some (.int .i64 x) := by simp
  have e1 : (w.alloc (.cells #[.int .i64 x, .int .i64 y] 42)).cell? ⟨w.heap.size, 1, none⟩ = some (.int .i64 y) := by simp
  have hgl : w.heap.size < (w.alloc (.cells #[.int .i64 x, .int .i64 y] 42)).heap.size := by simp
  go_enter Try.func7, Try.ntmps7
  go_wp2_with fail
  refine (lives_10 _).mono ?_
  rintro e w1 ⟨rfl, hB⟩
  have e0 := (hB.cell (p := ⟨w.heap.size, 0, none⟩) hgl).trans e0
  have e1 := (hB.cell (p := ⟨w.heap.size, 1, none⟩) hgl).trans e1
  have hgl := Nat.lt_of_lt_of_le hgl hB.size
  have ha := (ha.later hB0).later hB
  have hb := (hb.later hB0).later hB
  have hB := below_on hB0 (Nat.le_refl _) hB
  clear hB0
  go_wp2_with fail
  refine (few_10 A c 30 l _ ha (by decide)).mono ?_
  rintro e wfFL ⟨v, rfl, hO, hF⟩
  have hB := below_on hB (by omega) hF
  have hb := hb.later hF
  have e0 := (hF.cell (p := ⟨w.heap.size, 0, none⟩) hgl).trans e0
  have e1 := (hF.cell (p := ⟨w.heap.size, 1, none⟩) hgl).trans e1
  have hgl := Nat.lt_of_lt_of_le hgl hF.size
  have nFL := fewL_le 30 l
  have lFL : fewLegs (fewL 30 l) := fun x hx => Nat.le_trans (fewL_legs 30 l x hx) (by decide)
  clear hF
  generalize fewL 30 l = FL at hO nFL lFL
  obtain ⟨AFL, cFL, rfl, hFL⟩ := hO.sl
  clear hO
  go_wp2_with fail
  refine (own_10 AFL cFL FL _ hFL (Nat.le_trans nFL (by decide))).mono ?_
  rintro e woL ⟨v, rfl, hO, hF⟩
  have hB := below_on hB (by omega) hF
  have hb := hb.later hF
  have e0 := (hF.cell (p := ⟨w.heap.size, 0, none⟩) hgl).trans e0
  have e1 := (hF.cell (p := ⟨w.heap.size, 1, none⟩) hgl).trans e1
  have hgl := Nat.lt_of_lt_of_le hgl hF.size
  have vL := val_own FL
  have nL : (ownL FL).length ≤ 30 := Nat.le_trans (ownK_len FL FL.length) nFL
  have lL : fewLegs (ownL FL) := fun x hx => lFL x (ownK_sub FL _ x hx)
  clear hF hFL
  generalize ownL FL = L at hO vL nL lL
  obtain ⟨AL, cL, rfl, hL⟩ := hO.sl
  clear hO lFL nFL
  have VL := Lib.hid vL
  clear vL
  go_wp2_with fail
  refine (mixed_10 AL B cL d L s _ hL hb (by omega) lL).mono ?_
  rintro e wm ⟨v, rfl, ⟨M, AM, cM, rfl, hmix, hM⟩, hF⟩
  have hB := below_on hB (by omega) hF
  have hL := hL.later hF
  have e0 := (hF.cell (p := ⟨w.heap.size, 0, none⟩) hgl).trans e0
  have e1 := (hF.cell (p := ⟨w.heap.size, 1, none⟩) hgl).trans e1
  have hgl := Nat.lt_of_lt_of_le hgl hF.size
  have lM := hmix.few lL
  have nM : M.length = L.length := hmix.perm.length_eq.symm
  obtain ⟨i, hi, hil⟩ := place_mod x L.length (by omega)
  obtain ⟨k, hk, hkl⟩ := place_mod y M.length (by omega)
  have hlaw := law_begins VL.out hmix i k
  have Hlaw := Lib.hid hlaw
  have Hi := Lib.hid hi
  have Hk := Lib.hid hk
  have NM := Lib.hid nM
  have nM2 : M.length ≤ 30 := by omega
  clear hF hmix VL hlaw hi hk hb nM
  have hwL : IntKind.i64.wrap ((L.length : Int) + 1) = (L.length : Int) + 1 := by rw [IntKind.wrap_i64]; omega
  have hwM : IntKind.i64.wrap ((M.length : Int) + 1) = (M.length : Int) + 1 := by rw [IntKind.wrap_i64]; omega
  have huL : IntKind.u64.wrap ((L.length : Int) + 1) = (L.length : Int) + 1 := by rw [IntKind.wrap_u64]; omega
  have huM : IntKind.u64.wrap ((M.length : Int) + 1) = (M.length : Int) + 1 := by rw [IntKind.wrap_u64]; omega
  have hnL : (((L.length : Int) + 1) == 0) = false := by rw [beq_eq_false_iff_ne]; omega
  have hnM : (((M.length : Int) + 1) == 0) = false := by rw [beq_eq_false_iff_ne]; omega
  go_wp2_with fail
  go_quiet (fail)
  simp only [Hi.out, Hk.out]
  clear Hi Hk hwL hwM huL huM hnL hnM e0 e1 hgl
  have hlc : L.length ≤ cL := hL.1
  have hmc : M.length ≤ cM := hM.1
  have i0 : (0 : Int) ≤ (i : Int) := by omega
  have i1 : (i : Int) ≤ (L.length : Int) := by omega
  have i2 : (i : Int) ≤ (cL : Int) := by omega
  have k0 : (0 : Int) ≤ (k : Int) := by omega
  have k1 : (k : Int) ≤ (M.length : Int) := by omega
  have k2 : (k : Int) ≤ (cM : Int) := by omega
  have hL := hL.later (below_drewN (Below.refl _ _) nq)
  have hM := hM.later (below_drewN (Below.refl _ _) nq)
  have hB := below_drewN hB nq
  generalize wm.drewN nq = wq at hL hM hB ⊢
  go_wp2_with fail
  go_quiet (fail)
  have hL := hL.later (below_drewN (Below.refl _ _) nq)
  have hM := hM.later (below_drewN (Below.refl _ _) nq)
  have hB := below_drewN hB nq
  generalize wq.drewN nq = wz at hL hM hB ⊢
  have ti : (L.take i).length = i := by rw [List.length_take]; omega
  have tk : (M.take k).length = k := by rw [List.length_take]; omega
  have lTi : fewLegs (L.take i) := fun x hx => lL x (List.mem_of_mem_take hx)
  have lTk : fewLegs (M.take k) := fun x hx => lM x (List.mem_of_mem_take hx)
  have bG : ∀ (W : World) A c B d (p q : List Od) (n m : Nat), Sl W W.heap.size A c p → Sl W W.heap.size B d q → p.length ≤ 100 → q.length ≤ 100 → fewLegs p → fewLegs q → beginsB p q = true → p.length = n → q.length = m → Calls Try.prog 14 #[.slice A n c, .slice B m d] W fun e w' => e = .returned (.bool true) ∧ Below W.heap.size W w' := fun W A c B d p q n m hp hq np nq lp lq hb en em => by
    have := begins_c A B c d p q W hp hq (by omega) (by omega) lp lq
    rw [hb, en, em] at this
    exact this
  obtain ⟨q1, q2, q3, q4, q5, q6, q7, q8⟩ := Hlaw.out
  have b1 := fun W (h : Sl W W.heap.size AL cL L) (k' : Sl W W.heap.size AM cM M) => bG W AL cL AM cM (L.take i) M i M.length (h.take i) k' (by omega) (by omega) lTi lM q1 ti rfl
  have b2 := fun W (h : Sl W W.heap.size AL cL L) (k' : Sl W W.heap.size AM cM M) => bG W AM cM AL cL (M.take k) L k L.length (k'.take k) h (by omega) (by omega) lTk lL q2 tk rfl
  have rs : ∀ W, Sl W W.heap.size AL cL L → Sl W W.heap.size AM cM M → Calls Try.prog 13 #[.slice AL i cL, .slice AM M.length cM] W fun e w' => ∃ v, e = .returned v ∧ Own w' W.heap.size 26 v (restL (L.take i) M) ∧ Below W.heap.size W w' := fun W h k' => by
    have := rest_c AL AM cL cM (L.take i) M W (h.take i) k' (by omega) (by omega) lTi lM
    rw [ti] at this
    exact this
  have mt : ∀ W, Sl W W.heap.size AL cL L → Sl W W.heap.size AM cM M → Calls Try.prog 17 #[.slice AL i cL, .slice AM k cM] W fun e w' => ∃ v, e = .returned (.tuple #[v, .bool true]) ∧ Own w' W.heap.size 26 v (meetR (L.take i) (M.take k)) ∧ Below W.heap.size W w' := fun W h k' => by
    have := meet_c AL AM cL cM (L.take i) (M.take k) W (h.take i) (k'.take k) (by omega) (by omega) lTi lTk
    rw [ti, tk, q4] at this
    exact this
  have nN := meetR_len (L.take i) (M.take k)
  have lN := meetR_few lTi lTk
  rw [ti, tk] at nN
  generalize meetR (L.take i) (M.take k) = N at mt nN lN q5 q6 q7 q8
  have rL := rest_len q1
  have rsub : ∀ x ∈ restL (L.take i) M, x ∈ M := fun x hx => by
    rw [restL, if_pos q1] at hx
    exact othersL_sub _ _ x hx
  rw [ti] at rL
  generalize restL (L.take i) M = R at rs rL rsub q3
  have b3 := fun W A c (h : Sl W W.heap.size AL cL L) (k' : Sl W W.heap.size A c N) => bG W AL cL A c (L.take i) N i N.length (h.take i) k' (by omega) (by omega) lTi lN q5 ti rfl
  have b4 := fun W A c (h : Sl W W.heap.size AM cM M) (k' : Sl W W.heap.size A c N) => bG W AM cM A c (M.take k) N k N.length (h.take k) k' (by omega) (by omega) lTk lN q6 tk rfl
  have b5 := fun W A c (h : Sl W W.heap.size AL cL L) (k' : Sl W W.heap.size A c N) => bG W A c AL cL N L N.length L.length k' h (by omega) (by omega) lN lL q7 rfl rfl
  have rt : ∀ W A c, Sl W W.heap.size A c N → Calls Try.prog 21 #[.slice A N.length c] W fun e w' => e = .returned (.bool true) ∧ Below W.heap.size W w' := fun W A c h => by
    have := right_c A c N W h (by omega)
    rw [show decide ((placesN N).length = N.length) = true from q8] at this
    exact this
  have nZ : (L.take i ++ R).length = M.length := by rw [List.length_append, ti]; exact rL
  have lZ : fewLegs (L.take i ++ R) := fun x hx => by
    rcases List.mem_append.1 hx with hx | hx
    · exact lTi x hx
    · exact lM x (rsub x hx)
  have al : ∀ W A c, Sl W W.heap.size A c (L.take i ++ R) → Sl W W.heap.size AM cM M → Calls Try.prog 18 #[.slice A (L.take i ++ R).length c, .slice AM M.length cM] W fun e w' => e = .returned (.bool true) ∧ Below W.heap.size W w' := fun W A c h k' => by
    have := alike_c A AM c cM (L.take i ++ R) M W h k' (by omega) (by omega) lZ lM
    rw [q3] at this
    exact this
  clear q1 q2 q3 q4 q5 q6 q7 q8 bG lTi lTk Hlaw lL lM lN lZ
  go_wp2_with fail
  with_reducible refine (b1 _ hL hM).mono ?_
  rintro e w7 ⟨rfl, hF⟩
  have hB := below_on hB (by omega) hF
  have hL := hL.later hF
  have hM := hM.later hF
  clear hF b1
  go_wp2_with fail
  with_reducible refine (b2 _ hL hM).mono ?_
  rintro e w8 ⟨rfl, hF⟩
  have hB := below_on hB (by omega) hF
  have hL := hL.later hF
  have hM := hM.later hF
  clear hF b2
  have hbase : w.heap.size ≤ w8.heap.size := hB.size
  have hLt : SlS w8 (Oth w8 (.slice none 0 0)) AL cL (L.take i) := (hL.take i).keep (fun _ _ => rfl) (fun b hb => ⟨hb, by simp [Value.ownBlock]⟩)
  have hMx : ∀ x ∈ M, Okb w8 w8.heap.size x := hM.2.2.2
  have HMx := Lib.hid hMx
  have HLt := Lib.hid hLt
  have HTi := Lib.hid ti
  clear hMx hLt ti tk
  go_wp2_with (at_builtin; refine wpList_append_guarded rfl (some 58) (.const (.slice none 0 0)) (.tmp 57) 28 rfl rfl (.agg #[i64 0, i64 0, i64 0, .string ByteArray.empty, .string ByteArray.empty, i64 0, .slice none 0 0, i64 0, i64 0, .string ByteArray.empty]) 120 Try.underlying28 inf_od rfl (by decide) (by decide) rfl (Own.nil_ w8 w8.heap.size 26) AL i cL (L.take i) rfl HTi.out.symm HLt.out (by rw [HTi.out]; simp only [List.length_nil]; omega) (Nat.le_refl _) ?_; intro v3 w9 hO3 hg3 hat3)
  have hF9 := (Own.nil_ (α := Od) w8 w8.heap.size 26).below hg3 (Nat.le_refl _) (Nat.le_refl _)
  have HF9 := Lib.hid hF9
  have HO3 := Lib.hid hO3
  clear hg3 hat3 hO3 hF9
  with_reducible refine (rs _ (hL.later HF9.out) (hM.later HF9.out)).mono ?_
  rintro e w10 ⟨v4, rfl, hO4, hF4⟩
  have hO3 := HO3.out.later hF4
  have hF10 := below_on HF9.out (Nat.le_refl _) hF4
  obtain ⟨A4, c4, rfl, hs4⟩ := hO4.sls (S := Oth w10 v3) (fun b h1 h2 => ⟨h2, fun e => by have := (HO3.out.1.lt b e.symm).2; omega⟩) (fun x hx => Enc.keep (HMx.out x (rsub x hx)) (fun p hp => hF10.cell hp) (hO3.oth (Nat.le_refl _) hF10.size))
  have HO3' := Lib.hid hO3
  have HF10 := Lib.hid hF10
  have Hs4 := Lib.hid hs4
  have hrl : R.length ≤ 100 := by omega
  clear hO4 hF4 hO3 hF10 hs4 HO3 HF9 rs
  go_wp2_with (at_builtin; refine wpList_append_guarded rfl (some 62) (.tmp 58) (.tmp 61) 28 rfl rfl (.agg #[i64 0, i64 0, i64 0, .string ByteArray.empty, .string ByteArray.empty, i64 0, .slice none 0 0, i64 0, i64 0, .string ByteArray.empty]) 120 Try.underlying28 inf_od rfl (by decide) (by decide) rfl HO3'.out A4 R.length c4 R rfl rfl Hs4.out (by rw [List.nil_append, HTi.out]; omega) HF10.out.size ?_; intro v5 w11 hO5 hg5 hat5)
  have hF11 : Below w8.heap.size w8 w11 := HF10.out.trans (HO3'.out.below hg5 (Nat.le_refl _) HF10.out.size)
  rw [List.nil_append] at hO5
  obtain ⟨A5, c5, rfl, h5⟩ := hO5.sl
  have hL := hL.later hF11
  have hM := hM.later hF11
  have hB := below_on hB (by omega) hF11
  clear hO5 hg5 hat5 hF11 HO3' HF10 Hs4 HMx HLt hbase
  with_reducible refine (al _ _ _ h5 hM).mono ?_
  rintro e w12 ⟨rfl, hF⟩
  have hB := below_on hB (by omega) hF
  have hL := hL.later hF
  have hM := hM.later hF
  clear hF h5 al
  go_wp2_with fail
  with_reducible refine (mt _ hL hM).mono ?_
  rintro e w13 ⟨v, rfl, hO, hF⟩
  have hB := below_on hB (by omega) hF
  have hL := hL.later hF
  have hM := hM.later hF
  obtain ⟨AN, cN, rfl, hN⟩ := hO.sl
  clear hO hF mt
  go_wp2_with fail
  with_reducible refine (b3 _ _ _ hL hN).mono ?_
  rintro e w14 ⟨rfl, hF⟩
  have hB := below_on hB (by omega) hF
  have hL := hL.later hF
  have hM := hM.later hF
  have hN := hN.later hF
  clear hF
  go_wp2_with fail
  with_reducible refine (b4 _ _ _ hM hN).mono ?_
  rintro e w15 ⟨rfl, hF⟩
  have hB := below_on hB (by omega) hF
  have hL := hL.later hF
  have hM := hM.later hF
  have hN := hN.later hF
  clear hF
  go_wp2_with fail
  with_reducible refine (b5 _ _ _ hL hN).mono ?_
  rintro e w16 ⟨rfl, hF⟩
  have hB := below_on hB (by omega) hF
  have hL := hL.later hF
  have hM := hM.later hF
  have hN := hN.later hF
  clear hF
  go_wp2_with fail
  with_reducible refine (rt _ _ _ hN).mono ?_
  rintro e w17 ⟨rfl, hF⟩
  have hB := below_on hB (by omega) hF
  have hL := hL.later hF
  have hM := hM.later hF
  have hN := hN.later hF
  clear hF
  go_wp2
  go_ret
  exact ⟨rfl, hB⟩
end Go.Proofs.Ytcpjopmgiogfkaa
