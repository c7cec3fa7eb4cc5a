/- audit: sorting moves: the stable sort -/
import Derived.Test.YtgholbeehkfbiaaGreatRows
import Derived.Test.YtgholbeehkfbiaaGreatBpAuS4
import Derived.Test.YtgholbeehkfbiaaGreatBpBlP
import Derived.WalkKit
import Derived.WalkSpells
import Derived.WalkLawsBesides
import Derived.Deep.QuietTactic
import Derived.BigQuiet
import Derived.Laws.StructEq
import Derived.Deep.DeepFit
import Derived.StillTailTactics
namespace Go.Proofs.YtgholbeehkfbiaaGreat
open Go.RowKit
theorem bl_mem {d : Nat} {P M1 M : List Mv} (h : P ++ BL d M1 = BL d M) {x : Mv} (hx : x ∈ P ++ M1) : x ∈ M := by
 have h1 : (P ++ M1).Perm M := ((List.Perm.append_left P (BL_perm d M1)).symm.trans (by rw [h])).trans (BL_perm d M)
 exact h1.mem_iff.1 hx
theorem cut1 (d : Nat) (M : List Mv) (h : d ≤ M.length) : ∃ S R, M = S ++ R ∧ S.length = d := ⟨M.take d, M.drop d, (List.take_append_drop d M).symm, by rw [List.length_take]; omega⟩
theorem cut2 (d : Nat) (M : List Mv) (h : d + d ≤ M.length) : ∃ S T R, M = S ++ T ++ R ∧ S.length = d ∧ T.length = d := by
 obtain ⟨S, R, rfl, hS⟩ := cut1 d M (by omega)
 obtain ⟨T, R, rfl, hT⟩ := cut1 d R (by rw [List.length_append] at h; omega)
 exact ⟨S, T, R, by simp, hS, hT⟩
set_option maxRecDepth 100000 in
set_option maxHeartbeats 16000000 in
theorem astab_c (B g n cap : Nat) (M : List Mv) (w : World) (h : RowM w B g n cap M) (hn : n ≤ 60000) (hq : ∀ x ∈ M, okMv x) (hB : B ≤ w.heap.size) :
  Calls Tryz.prog 134 #[.slice (some ⟨g, 0, none⟩) n cap, i64 n, .func (.func 89) #[] #[]] w fun e w' => e = .returned (.tuple #[]) ∧ RowM w' B g n cap (sortB ltM M) ∧ Below B w w' := by
 have hcn := h.capn
 have Hq := Lib.hid hq
 have H := Lib.hid h
 have HB := Lib.hid hB
 have Hl := Lib.hid h.len
 clear h hq hB
 go_enter Tryz.func134, Tryz.ntmps134
 go_wp2_with fail
 go_loopw [7, 8] (fun i7 i8 wr => ∃ (a b : Nat) (P1 M1 : List Mv), i7 = i64 (a : Int) ∧ i8 = i64 (b : Int) ∧ Hid (b = a + 20) ∧ Hid (P1.length = a) ∧ Hid (P1 ++ BL 20 M1 = BL 20 M) ∧ Hid (RowM wr B g n cap (P1 ++ M1)) ∧ Hid (Below B w wr)) (fun i7 _ _ => n + 1 - (intOf i7).toNat)
 case atStart => exact ⟨0, 20, [], M, by go_num, by go_num, Lib.hid rfl, Lib.hid rfl, Lib.hid rfl, H, Lib.hid (Below.refl _ _)⟩
 case round =>
  obtain ⟨a, b, P1, M1, rfl, rfl, Hab, Hpa, He, HR, Hbw⟩ := hrel
  have hlen : P1.length + M1.length = n := by have := HR.out.len; rwa [List.length_append] at this
  have han : a ≤ n := by have := Hpa.out; omega
  by_cases hlt : b ≤ n
  ·have g1 : decide ((b : Int) ≤ (n : Int)) = true := decide_eq_true (by omega)
   have g1b : decide (b ≤ n) = true := decide_eq_true hlt
   obtain ⟨S, M2, hM, hS⟩ := cut1 20 M1 (by have := Hab.out; have := Hpa.out; omega)
   subst hM
   obtain ⟨b2, hb2⟩ : ∃ b2, b2 = b + 20 := ⟨_, rfl⟩
   have e1 : (b : Int) + 20 = (b2 : Int) := by omega
   have w1 : IntKind.i64.wrap (b2 : Int) = (b2 : Int) := by rw [IntKind.wrap_i64]; omega
   have HS := Lib.hid (ains_c B g n cap a b P1 S M2 wr (by have := HR.out; simpa using this) Hpa.out (by have := Hab.out; omega) hn (fun x hx => Hq.out x (bl_mem He.out (by simpa using hx))) (Nat.le_trans HB.out Hbw.out.size))
   have He2 := Lib.hid (show P1 ++ sortB ltM S ++ BL 20 M2 = BL 20 M by rw [List.append_assoc, ← BL_app (by omega) hS]; exact He.out)
   have Hb2 := Lib.hid hb2
   have HL2 := Lib.hid (show (P1 ++ sortB ltM S).length = b by rw [List.length_append, (sortB_perm S).length_eq, hS, Hpa.out]; exact Hab.out.symm)
   clear hb2 hS hlen HR He
   go_wp2_with fail
   refine HS.out.mono ?_
   rintro e wi ⟨rfl, hR, hF⟩
   have HR2 := Lib.hid hR
   have Hb3 := Lib.hid (Hbw.out.trans hF)
   clear hR hF HS
   go_wp2
   go_roundw
   case rel => exact ⟨b, b2, P1 ++ sortB ltM S, M2, by go_num, by go_num, Hb2, HL2, He2, HR2, Hb3⟩
   case measure => have := Hab.out; simp [intOf]; omega
  ·have g1 : decide ((b : Int) ≤ (n : Int)) = false := decide_eq_false (by omega)
   have g1b : decide (b ≤ n) = false := decide_eq_false hlt
   have HS := Lib.hid (ains_c B g n cap a n P1 M1 [] wr (by rw [List.append_nil]; exact HR.out) Hpa.out (by have := Hpa.out; omega) hn (fun x hx => Hq.out x (bl_mem He.out (by simpa using hx))) (Nat.le_trans HB.out Hbw.out.size))
   have He2 := Lib.hid (show P1 ++ sortB ltM M1 ++ [] = BL 20 M by rw [List.append_nil, ← BL_le (d := 20) (by have := Hab.out; have := Hpa.out; omega)]; exact He.out)
   clear hlen HR He
   go_wp2_with fail
   refine HS.out.mono ?_
   rintro e wi ⟨rfl, hR, hF⟩
   rw [He2.out] at hR
   have HR2 := Lib.hid hR
   have Hb3 := Lib.hid (Hbw.out.trans hF)
   clear hR hF HS He2 Hbw Hab Hpa
   go_wp2
   go_loopw [6] (fun i6 wr => ∃ (d : Nat), i6 = i64 (d : Int) ∧ 20 ≤ d ∧ d ≤ 120000 ∧ Hid (RowM wr B g n cap (BL d M)) ∧ Hid (Below B w wr)) (fun i6 _ => n - (intOf i6).toNat)
   case atStart => exact ⟨20, by go_num, by omega, by omega, HR2, Hb3⟩
   case round =>
    clear HR2 Hb3 g1 g1b hlt
    obtain ⟨d, rfl, hd1, hd2, HR, Hbw⟩ := hrel
    by_cases hlt : d < n
    ·have g1 : decide ((d : Int) < (n : Int)) = true := decide_eq_true (by omega)
     have g1b : decide (d < n) = true := decide_eq_true hlt
     obtain ⟨dd, hdd⟩ : ∃ dd, dd = 2 * d := ⟨_, rfl⟩
     have e1 : (2 : Int) * (d : Int) = (dd : Int) := by omega
     have e2 : (d : Int) * 2 = (dd : Int) := by omega
     have w1 : IntKind.i64.wrap (dd : Int) = (dd : Int) := by rw [IntKind.wrap_i64]; omega
     have Hdd := Lib.hid hdd
     clear hdd
     go_wp2_with fail
     go_loopw [7, 8] (fun i7 i8 wr => ∃ (a b : Nat) (P1 M1 : List Mv), i7 = i64 (a : Int) ∧ i8 = i64 (b : Int) ∧ Hid (b = a + dd) ∧ Hid (P1.length = a) ∧ Hid (P1 ++ BL dd M1 = BL dd M) ∧ Hid (RowM wr B g n cap (P1 ++ BL d M1)) ∧ Hid (Below B w wr)) (fun i7 _ _ => n + 1 - (intOf i7).toNat)
     case atStart => exact ⟨0, dd, [], M, by go_num, by go_num, Lib.hid (by omega), Lib.hid rfl, Lib.hid rfl, HR, Hbw⟩
     case round =>
      clear HR Hbw
      obtain ⟨a, b, P1, M1, rfl, rfl, Hab, Hpa, He, HR, Hbw⟩ := hrel
      have hlen : P1.length + M1.length = n := by have := HR.out.len; rwa [List.length_append, BL_len] at this
      have han : a ≤ n := by have := Hpa.out; omega
      obtain ⟨m, hm⟩ : ∃ m, m = a + d := ⟨_, rfl⟩
      have e3 : (a : Int) + (d : Int) = (m : Int) := by omega
      have w3 : IntKind.i64.wrap (m : Int) = (m : Int) := by rw [IntKind.wrap_i64]; omega
      by_cases hbn : b ≤ n
      ·have g3 : decide ((b : Int) ≤ (n : Int)) = true := decide_eq_true (by omega)
       have g3b : decide (b ≤ n) = true := decide_eq_true hbn
       obtain ⟨S, T, M2, hM, hS, hT⟩ := cut2 d M1 (by have := Hab.out; have := Hpa.out; have := Hdd.out; omega)
       subst hM
       obtain ⟨b2, hb2⟩ : ∃ b2, b2 = b + dd := ⟨_, rfl⟩
       have e4 : (b : Int) + (dd : Int) = (b2 : Int) := by omega
       have w4 : IntKind.i64.wrap (b2 : Int) = (b2 : Int) := by rw [IntKind.wrap_i64]; have := Hdd.out; omega
       have HB2 := BL_two (by omega) hS hT M2
       have HS := Lib.hid (asym_c B g n cap hn _ a m b P1 (sortB ltM S) (sortB ltM T) (BL d M2) wr rfl (by have := HR.out; rw [HB2.1] at this; simpa using this) Hpa.out (by rw [(sortB_perm S).length_eq]; omega) (by rw [(sortB_perm T).length_eq]; have := Hab.out; have := Hdd.out; omega) (by rw [(sortB_perm S).length_eq]; omega) (by rw [(sortB_perm T).length_eq]; omega) (Nat.le_trans HB.out Hbw.out.size) (sortB_sorted ltM_strict S) (sortB_sorted ltM_strict T) (fun x hx => Hq.out x (bl_mem He.out (by
        rcases List.mem_append.1 hx with hx | hx
        ·have := (sortB_perm S).mem_iff.1 hx; simp [this]
        ·have := (sortB_perm T).mem_iff.1 hx; simp [this]))))
       have He2 := Lib.hid (show P1 ++ mrg ltM (sortB ltM S) (sortB ltM T) ++ BL dd M2 = BL dd M by rw [← He.out, Hdd.out, HB2.2, List.append_assoc])
       have Hb2 := Lib.hid hb2
       have HL2 := Lib.hid (show (P1 ++ mrg ltM (sortB ltM S) (sortB ltM T)).length = b by rw [List.length_append, mrg_len, (sortB_perm S).length_eq, (sortB_perm T).length_eq, hS, hT, Hpa.out]; have := Hab.out; have := Hdd.out; omega)
       clear hb2 hS hT hlen HR He HB2 hm
       go_wp2_with fail
       refine HS.out.mono ?_
       rintro e wi ⟨rfl, hR, hF⟩
       have HR2 := Lib.hid hR
       have Hb3 := Lib.hid (Hbw.out.trans hF)
       clear hR hF HS
       go_wp2
       go_roundw
       case rel => exact ⟨b, b2, P1 ++ mrg ltM (sortB ltM S) (sortB ltM T), M2, by go_num, by go_num, Hb2, HL2, He2, HR2, Hb3⟩
       case measure => have := Hab.out; have := Hdd.out; simp [intOf]; omega
      ·have g3 : decide ((b : Int) ≤ (n : Int)) = false := decide_eq_false (by omega)
       have g3b : decide (b ≤ n) = false := decide_eq_false hbn
       by_cases hmn : m < n
       ·have g4 : decide ((m : Int) < (n : Int)) = true := decide_eq_true (by omega)
        have g4b : decide (m < n) = true := decide_eq_true hmn
        obtain ⟨S, T, hM, hS⟩ := cut1 d M1 (by have := Hpa.out; omega)
        subst hM
        rw [List.length_append] at hlen
        have HB2 := BL_last (by omega) hS (T := T) (by have := Hab.out; have := Hdd.out; have := Hpa.out; omega)
        have HS := Lib.hid (asym_c B g n cap hn _ a m n P1 (sortB ltM S) (sortB ltM T) [] wr rfl (by have := HR.out; rw [HB2.1] at this; simpa using this) Hpa.out (by rw [(sortB_perm S).length_eq]; omega) (by rw [(sortB_perm T).length_eq]; have := Hpa.out; omega) (by rw [(sortB_perm S).length_eq]; omega) (by rw [(sortB_perm T).length_eq]; have := Hpa.out; omega) (Nat.le_trans HB.out Hbw.out.size) (sortB_sorted ltM_strict S) (sortB_sorted ltM_strict T) (fun x hx => Hq.out x (bl_mem He.out (by
         rcases List.mem_append.1 hx with hx | hx
         ·have := (sortB_perm S).mem_iff.1 hx; simp [this]
         ·have := (sortB_perm T).mem_iff.1 hx; simp [this]))))
        have He2 := Lib.hid (show P1 ++ mrg ltM (sortB ltM S) (sortB ltM T) ++ [] = BL dd M by rw [← He.out, Hdd.out, HB2.2, List.append_nil])
        clear hS hlen HR He HB2 hm
        go_wp2_with fail
        refine HS.out.mono ?_
        rintro e wi ⟨rfl, hR, hF⟩
        rw [He2.out] at hR
        have HR2 := Lib.hid hR
        have Hb3 := Lib.hid (Hbw.out.trans hF)
        clear hR hF HS
        go_wp2
        go_roundw
        case rel => exact ⟨dd, by go_num, by have := Hdd.out; omega, by have := Hdd.out; omega, HR2, Hb3⟩
        case measure => have := Hdd.out; simp [intOf]; omega
       ·have g4 : decide ((m : Int) < (n : Int)) = false := decide_eq_false (by omega)
        have g4b : decide (m < n) = false := decide_eq_false hmn
        have HR2 := Lib.hid (show RowM wr B g n cap (BL dd M) by
         have h1 := HR.out
         rw [← He.out, BL_le (d := dd) (by have := Hdd.out; have := Hpa.out; omega)]
         rwa [BL_le (d := d) (by have := Hpa.out; omega)] at h1)
        clear hlen HR He hm
        go_wp2
        go_roundw
        case rel => exact ⟨dd, by go_num, by have := Hdd.out; omega, by have := Hdd.out; omega, HR2, Hbw⟩
        case measure => have := Hdd.out; simp [intOf]; omega
    ·have g1 : decide ((d : Int) < (n : Int)) = false := decide_eq_false (by omega)
     have g1b : decide (d < n) = false := decide_eq_false hlt
     have HR2 := Lib.hid (show RowM wr B g n cap (sortB ltM M) by rw [← BL_le (d := d) (by have := Hl.out; omega)]; exact HR.out)
     clear HR
     go_wp2
     go_end0
     exact ⟨rfl, HR2.out, Hbw.out⟩
end Go.Proofs.YtgholbeehkfbiaaGreat
