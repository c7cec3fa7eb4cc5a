/- Texts of this claim, laid together: BookL0, BookL. -/
import Derived.Test.YtampniiehgimhaaGreatRows
import Derived.Test.YtampniiehgimhaaGreatBn13
import Derived.Test.YtampniiehgimhaaGreatBn12
import Derived.Test.YtampniiehgimhaaGreatBn24
import Derived.WalkKit
import Derived.WalkSpells
import Derived.WalkLawsBesides
import Derived.Deep.QuietTactic
import Derived.BigQuiet
import Derived.Laws.StructEq
import Derived.Deep.DeepFit
import Derived.StillTailTactics

/- law09: ask -/
namespace Go.Proofs.YtampniiehgimhaaGreat
open Go.RowKit
def askK (seq kind : Int) (acct : ByteArray) (sum : Int) : Od := ⟨0, seq, kind, acct, ⟨#[]⟩, sum, none, 0, [], 0, 0, ⟨#[]⟩⟩
set_option maxRecDepth 100000 in
set_option maxHeartbeats 1000000 in
theorem ask9_c (seq kind : Int) (acct : ByteArray) (sum : Int) (w : World) : Calls Tryz.prog 53 #[i64 seq, i64 kind, .string acct, i64 sum] w fun e w' => e = .returned (askK seq kind acct sum).v ∧ Below w.heap.size w w' := by
 go_enter Tryz.func53, Tryz.ntmps53
 go_wp2
 exact bodyPost_ret (results_cell_row rfl _ _ w.heap.size 37 _ (0, 0) _ rfl (heap_alloc_new w _) Tryz.underlying37 rfl (by kernel_rfl)) rfl ⟨rfl, (Below.refl _ _).alloc (Nat.le_refl _) _⟩
def lives9L : List Od := [askK 1 1 tA 3, askK 2 3 tA 5, askK 3 3 tA 3, askK 4 7 tA 0]
theorem lives9_told : toldL bk0 lives9L = [⟨0, 0, 0, 0⟩, ⟨9, 0, 0, 0⟩, ⟨0, 0, 3, 3⟩, ⟨0, 0, 3, 0⟩] := by kernel_rfl
theorem lives9_book : foldL bk0 lives9L = ⟨[⟨tA, 0, 3, 3⟩], [⟨3, tA, 3⟩], 0⟩ := by kernel_rfl
theorem askK_ok (seq kind : Int) (acct : ByteArray) (sum : Int) (h : acct.size ≤ maxLen) (w : World) (S : Nat → Prop) : Od.Ok w S (askK seq kind acct sum) := ⟨h, Nat.zero_le _, Nat.zero_le _, SlS.nil_ _ _⟩
theorem askK_odB {seq kind sum : Int} {acct : ByteArray} (h : acct.size ≤ maxLen) (h1 : R64 seq) (h2 : R64 kind) (h3 : R64 sum) : OdB (askK seq kind acct sum) := ⟨h, Nat.zero_le _, R64_0, h1, h2, h3, R64_0, R64_0, fun _ h => by cases h⟩
end Go.Proofs.YtampniiehgimhaaGreat

/- law09: lives -/
namespace Go.Proofs.YtampniiehgimhaaGreat
open Go.RowKit
set_option maxRecDepth 100000 in
set_option maxHeartbeats 8000000 in
theorem lives9_c (w : World) : Calls Tryz.prog 8 #[] w fun e w' => e = .returned (.bool true) ∧ Below w.heap.size w w' := by
 have hA := Lib.hid (fun (q k s : Int) (W : World) => ask9_c q k tA s W)
 have hCp := Lib.hid (fun (a : BA) (B : Bk) (W : World) (h : BkA W a B) => bcopy_c a B W h)
 have he : ∀ W : World, (binOp .eql 31 (.agg #[i64 0, i64 0, i64 3, i64 0]) (.agg #[i64 0, i64 0, i64 3, i64 0])).run Tryz.prog W = .ok (.bool true) W := fun W => eq_rp ⟨0, 0, 3, 0⟩ ⟨0, 0, 3, 0⟩ W
 go_enter Tryz.func8, Tryz.ntmps8
 go_wp2_with fail
 refine (hA.out 1 1 3 _).mono ?_
 rintro e w1 ⟨rfl, hF⟩
 have hb1 := hF
 clear hF
 go_wp2_with fail
 refine (hA.out 2 3 5 _).mono ?_
 rintro e w2 ⟨rfl, hF⟩
 have hb2 := below_on hb1 (Nat.le_refl _) hF
 clear hF hb1
 go_wp2_with fail
 refine (hA.out 3 3 3 _).mono ?_
 rintro e w3 ⟨rfl, hF⟩
 have hb3 := below_on hb2 (Nat.le_refl _) hF
 clear hF hb2
 go_wp2_with fail
 refine (hA.out 4 7 0 _).mono ?_
 rintro e w4 ⟨rfl, hF⟩
 have hb4 := below_on hb3 (Nat.le_refl _) hF
 clear hF hb3 hA
 simp only [Od.v, askK, List.length_nil]
 have hall : ∀ x ∈ lives9L, ∃ q k s, x = askK q k tA s ∧ R64 q ∧ R64 k ∧ R64 s := by
  intro x hx
  simp only [lives9L, List.mem_cons, List.not_mem_nil, or_false] at hx
  rcases hx with rfl | rfl | rfl | rfl
  ·exact ⟨1, 1, 3, rfl, ⟨by decide, by decide⟩, ⟨by decide, by decide⟩, ⟨by decide, by decide⟩⟩
  ·exact ⟨2, 3, 5, rfl, ⟨by decide, by decide⟩, ⟨by decide, by decide⟩, ⟨by decide, by decide⟩⟩
  ·exact ⟨3, 3, 3, rfl, ⟨by decide, by decide⟩, ⟨by decide, by decide⟩, ⟨by decide, by decide⟩⟩
  ·exact ⟨4, 7, 0, rfl, ⟨by decide, by decide⟩, ⟨by decide, by decide⟩, ⟨by decide, by decide⟩⟩
 have hsA : tA.size ≤ maxLen := by show 1 ≤ maxLen; decide
 have hS := (own_lit (w := w4) (base := w4.heap.size) 37 #[i64 0, i64 1, i64 1, .string tA, .string ⟨#[]⟩, i64 3, .slice none 0 0, i64 0, i64 0, .string ⟨#[]⟩, i64 0, i64 2, i64 3, .string tA, .string ⟨#[]⟩, i64 5, .slice none 0 0, i64 0, i64 0, .string ⟨#[]⟩, i64 0, i64 3, i64 3, .string tA, .string ⟨#[]⟩, i64 3, .slice none 0 0, i64 0, i64 0, .string ⟨#[]⟩, i64 0, i64 4, i64 7, .string tA, .string ⟨#[]⟩, i64 0, .slice none 0 0, i64 0, i64 0, .string ⟨#[]⟩] lives9L (Nat.le_refl _) rfl (by show 4 ≤ 65536; decide) (fun x hx => by
  obtain ⟨q, k, s, rfl, _⟩ := hall x hx
  exact askK_ok q k tA s hsA _ _)).sl_of
 have hFo := Lib.hid (bfold_c _ _ lives9L _ hS (fun x hx => by
  obtain ⟨q, k, s, rfl, h1, h2, h3⟩ := hall x hx
  exact askK_odB hsA h1 h2 h3) (fun x hx => by
  obtain ⟨q, k, s, rfl, _⟩ := hall x hx
  exact Nat.zero_le _) (by show 4 ≤ 60000; decide))
 have hb5 := hb4.alloc hb4.size (.cells #[i64 0, i64 1, i64 1, .string tA, .string ⟨#[]⟩, i64 3, .slice none 0 0, i64 0, i64 0, .string ⟨#[]⟩, i64 0, i64 2, i64 3, .string tA, .string ⟨#[]⟩, i64 5, .slice none 0 0, i64 0, i64 0, .string ⟨#[]⟩, i64 0, i64 3, i64 3, .string tA, .string ⟨#[]⟩, i64 3, .slice none 0 0, i64 0, i64 0, .string ⟨#[]⟩, i64 0, i64 4, i64 7, .string tA, .string ⟨#[]⟩, i64 0, .slice none 0 0, i64 0, i64 0, .string ⟨#[]⟩] 37)
 rw [lives9_told, lives9_book] at hFo
 clear hS hall hb4
 go_wp2_with fail
 generalize w4.alloc (.cells #[i64 0, i64 1, i64 1, .string tA, .string ⟨#[]⟩, i64 3, .slice none 0 0, i64 0, i64 0, .string ⟨#[]⟩, i64 0, i64 2, i64 3, .string tA, .string ⟨#[]⟩, i64 5, .slice none 0 0, i64 0, i64 0, .string ⟨#[]⟩, i64 0, i64 3, i64 3, .string tA, .string ⟨#[]⟩, i64 3, .slice none 0 0, i64 0, i64 0, .string ⟨#[]⟩, i64 0, i64 4, i64 7, .string tA, .string ⟨#[]⟩, i64 0, .slice none 0 0, i64 0, i64 0, .string ⟨#[]⟩] 37) = W5 at *
 refine hFo.out.mono ?_
 rintro e w6 ⟨a, v, B0, rfl, hB, hI, hO, h0, ha, hF⟩
 have hb6 := below_on hb5 (Nat.le_refl _) hF
 obtain ⟨A, c, rfl, hs⟩ := hO.sl
 have hc4 : 4 ≤ c := hs.1
 obtain ⟨b0, o0, rfl, _, r0, _⟩ := hs.rp (k := 0) (by decide)
 obtain ⟨b1, o1, hA1, _, r1, _⟩ := hs.rp (k := 1) (by decide)
 obtain ⟨b2, o2, hA2, _, _, _, _, r2⟩ := hs.rp (k := 2) (by decide)
 obtain ⟨b3, o3, hA3, _, s0, s1, s2, s3⟩ := hs.rp (k := 3) (by decide)
 injection hA1 with hA1
 injection hA1 with e1 e2
 subst e1 e2
 injection hA2 with hA2
 injection hA2 with e1 e2
 subst e1 e2
 injection hA3 with hA3
 injection hA3 with e1 e2
 subst e1 e2
 have r0 : w6.cell? ⟨b0, o0, none⟩ = some (i64 0) := r0
 have r1 : w6.cell? ⟨b0, o0 + 4, none⟩ = some (i64 9) := r1
 have r2 : w6.cell? ⟨b0, o0 + 8 + 3, none⟩ = some (i64 3) := r2
 have s0 : w6.cell? ⟨b0, o0 + 12, none⟩ = some (i64 0) := s0
 have s1 : w6.cell? ⟨b0, o0 + 12 + 1, none⟩ = some (i64 0) := s1
 have s2 : w6.cell? ⟨b0, o0 + 12 + 2, none⟩ = some (i64 3) := s2
 have s3 : w6.cell? ⟨b0, o0 + 12 + 3, none⟩ = some (i64 0) := s3
 have HA := Lib.hid (baccts_c a _ w6 hB hI)
 have HI := Lib.hid hI
 have HB := Lib.hid hB
 clear hF hb5 hFo hO hs hB hI h0 ha
 go_wp2_with fail
 refine HA.out.mono ?_
 rintro e w7 ⟨v7, rfl, hO, hF⟩
 obtain ⟨A7, c7, rfl, -⟩ := hO.sl
 have hb7 := below_on hb6 (Nat.le_refl _) hF
 have HB7 := Lib.hid (HB.out.later hF)
 have HH := Lib.hid (bholds_c a _ w7 HB7.out HI.out)
 clear hF hO HA HB hb6 r0 r1 r2 s0 s1 s2 s3
 go_wp2_with fail
 refine HH.out.mono ?_
 rintro e w8 ⟨v8, rfl, hO, hF⟩
 obtain ⟨A8, c8, rfl, -⟩ := hO.sl
 have hb8 := below_on hb7 (Nat.le_refl _) hF
 have HB8 := Lib.hid (HB7.out.later hF)
 have HC := Lib.hid (hCp.out a _ w8 HB8.out)
 clear hF hO HH HB7 hb7 hCp
 go_wp2_with fail
 refine HC.out.mono ?_
 rintro e w9 ⟨a9, rfl, hB9, _, hF⟩
 have hb9 := below_on hb8 (Nat.le_refl _) hF
 have HS := Lib.hid (bsame_c a a9 _ _ w9 (HB8.out.later hF) hB9 HI.out HI.out)
 rw [sameBk_refl] at HS
 clear hF hB9 HC HB8 hb8
 go_wp2_with fail
 refine HS.out.mono ?_
 rintro e w10 ⟨rfl, hF⟩
 have hb10 := below_on hb9 (Nat.le_refl _) hF
 clear hF HS hb9
 go_wp2
 go_ret
 exact ⟨rfl, hb10⟩
end Go.Proofs.YtampniiehgimhaaGreat
