/- AuditWeighs -/
import Derived.Test.YtgholbeehkfbiaaGreatRows
import Derived.Test.YtgholbeehkfbiaaGreatBpAuParts
import Derived.Test.YtgholbeehkfbiaaGreatBm18
import Derived.Test.YtgholbeehkfbiaaGreatBm15
import Derived.WalkKit
import Derived.WalkSpells
import Derived.WalkLawsBesides
import Derived.Deep.QuietTactic
import Derived.BigQuiet
import Derived.Laws.StructEq
import Derived.Deep.DeepFit
import Derived.StillTailTactics
namespace Go.Proofs.YtgholbeehkfbiaaGreat
open Go.RowKit
/-- what the lines say that an account has -/
def havR (L : List Ln) (k : ByteArray) : Int := L.foldl (fun h x => if x.acct = k then wrap64 (x.inn - x.out) else h) 0
theorem havR_snoc (L : List Ln) (x : Ln) (k : ByteArray) : havR (L ++ [x]) k = if x.acct = k then wrap64 (x.inn - x.out) else havR L k := by unfold havR; rw [List.foldl_append]; rfl
theorem havR_no {L : List Ln} {k : ByteArray} (h : ∀ x ∈ L, x.acct ≠ k) : havR L k = 0 := by
  unfold havR
  have : ∀ (L : List Ln) (a : Int), (∀ x ∈ L, x.acct ≠ k) → L.foldl (fun h x => if x.acct = k then wrap64 (x.inn - x.out) else h) a = a := fun L => by
    induction L with
    | nil => intro _ _; rfl
    | cons x r ih =>
      intro a h
      show r.foldl _ (if x.acct = k then _ else a) = a
      rw [if_neg (h x (List.mem_cons_self ..))]
      exact ih a fun y hy => h y (List.mem_cons_of_mem _ hy)
  exact this L 0 h
theorem havR_yes {L : List Ln} {x : Ln} (hp : L.Pairwise fun a b => a.acct ≠ b.acct) (hx : x ∈ L) : havR L x.acct = wrap64 (x.inn - x.out) := by
  have : ∀ (L : List Ln) (a : Int), L.Pairwise (fun a b => a.acct ≠ b.acct) → x ∈ L → L.foldl (fun h y => if y.acct = x.acct then wrap64 (y.inn - y.out) else h) a = wrap64 (x.inn - x.out) := fun L => by
    induction L with
    | nil => intro _ _ h; cases h
    | cons y r ih =>
      intro a hp hx
      obtain ⟨p1, p2⟩ := List.pairwise_cons.1 hp
      show r.foldl _ (if y.acct = x.acct then wrap64 (y.inn - y.out) else a) = _
      rcases List.mem_cons.1 hx with rfl | hx
      · rw [if_pos rfl]
        have h2 : ∀ (M : List Ln) (a : Int), (∀ z ∈ M, x.acct ≠ z.acct) → M.foldl (fun h y => if y.acct = x.acct then wrap64 (y.inn - y.out) else h) a = a := fun M => by
          induction M with
          | nil => intro _ _; rfl
          | cons z s ih2 =>
            intro a h
            show s.foldl _ (if z.acct = x.acct then _ else a) = a
            rw [if_neg (fun e => h z (List.mem_cons_self ..) e.symm)]
            exact ih2 a fun y hy => h y (List.mem_cons_of_mem _ hy)
        exact h2 r _ p1
      · exact ih _ p2 hx
  exact this L 0 hp hx
theorem wrap_id {n : Int} (h : R64 n) : wrap64 n = n := by
  unfold R64 at h
  rw [← IntWalk.i64_left, IntKind.wrap_i64]; omega
theorem lines_apart (ls : List Leg) : ((namesL ls).map (lineOf ls)).Pairwise fun a b => a.acct ≠ b.acct := by
  rw [List.pairwise_map]
  exact (namesL_srt ls).imp fun {a b} h e => by
    have e2 : a = b := e
    rw [e2, bless_strict.irr] at h; cases h
theorem havR_law {F : List Od} (hx : ∀ x ∈ F, OdB x) (h0 : (trialL (legsR (movedL F) 0 1000)).2 = 0) : ∀ a ∈ (foldL bk0 F).L, havR (trialL (legsR (movedL F) 0 1000)).1 a.name = a.hav := fun a ha => by
  have hl := have_law hx ha
  have hI := inv_bk0.fold F hx
  have hr : R64 a.hav := (hI.inv.okA a ha).1.1
  generalize legsR (movedL F) 0 1000 = ls at *
  unfold trialL at *
  split at h0
  · rename_i hall
    rw [if_pos hall]
    rw [List.all_eq_true] at hall
    by_cases hm : a.name ∈ namesL ls
    · have h1 := havR_yes (lines_apart ls) (List.mem_map.2 ⟨a.name, hm, rfl⟩)
      have h2 := line_law (hall _ hm)
      rw [← hl] at h2
      rw [h2] at h1
      rw [wrap_id hr] at h1
      exact h1
    · rw [havR_no fun x hx => by
        obtain ⟨k, hk, rfl⟩ := List.mem_map.1 hx
        exact fun e => hm (by rw [← e]; exact hk)]
      rw [hl]
      have : allK ls a.name = [] := by
        unfold allK
        rw [List.filter_eq_nil_iff.2 fun x hx => by simpa using fun e => hm (namesL_mem.2 ⟨x, hx, e⟩)]; rfl
      rw [this]; rfl
  · cases h0
theorem inn_snoc {L : List Ln} {k : Nat} (hk : k < L.length) : sumL ((L.take (k + 1)).map Ln.inn) = sumL ((L.take k).map Ln.inn) + L[k].inn := by
  rw [List.take_succ_eq_append_getElem hk, List.map_append, sumL_app]; show _ + (L[k].inn + 0) = _; omega
theorem out_snoc {L : List Ln} {k : Nat} (hk : k < L.length) : sumL ((L.take (k + 1)).map Ln.out) = sumL ((L.take k).map Ln.out) + L[k].out := by
  rw [List.take_succ_eq_append_getElem hk, List.map_append, sumL_app]; show _ + (L[k].out + 0) = _; omega
theorem wrap_add64 (a b : Int) : wrap64 (wrap64 a + b) = wrap64 (a + b) := by
  rw [← IntWalk.i64_left, ← IntWalk.i64_left, ← IntWalk.i64_left]; exact wrap_add a b
theorem trial_nil {ls : List Leg} (h : (trialL ls).1 ≠ []) : (trialL ls).2 = 0 := by
  unfold trialL at *
  split
  · rfl
  · rename_i h1; rw [if_neg h1] at h; exact absurd rfl h
theorem trial_eq {F : List Od} (hx : ∀ x ∈ F, OdB x) (p : Int) : sumL ((trialL (legsR (movedL F) 0 p)).1.map Ln.inn) = sumL ((trialL (legsR (movedL F) 0 p)).1.map Ln.out) := by
  by_cases h : (trialL (legsR (movedL F) 0 p)).2 = 0
  · exact trial_zero hx p h
  · have : (trialL (legsR (movedL F) 0 p)).1 = [] := by
      refine Decidable.byContradiction fun hn => h (trial_nil hn)
    rw [this]
    rfl
theorem havR_take {L : List Ln} {k : Nat} (hk : k < L.length) (nm : ByteArray) : havR (L.take (k + 1)) nm = if L[k].acct = nm then wrap64 (L[k].inn - L[k].out) else havR (L.take k) nm := by
  rw [List.take_succ_eq_append_getElem hk, havR_snoc]
theorem trial_len {F : List Od} (hx : ∀ x ∈ F, OdB x) (hn : F.length ≤ 60) (p : Int) : (trialL (legsR (movedL F) 0 p)).1.length ≤ 360 := by
  unfold trialL
  split
  · show ((namesL _).map _).length ≤ 360
    rw [List.length_map]
    have h1 := namesL_len (legsR (movedL F) 0 p)
    have h2 := legsR_len hx 0 p
    omega
  · exact Nat.zero_le _
set_option maxRecDepth 100000 in
set_option maxHeartbeats 16000000 in
theorem auditWeighs_c (A : Option Addr) (c : Nat) (l : List Od) (n : Int) (w : World) (h : Sl w w.heap.size A c l) (hr : ∀ x ∈ l, InR x) (_hn : R64 n) :
    Calls Tryz.prog 10 #[.slice A l.length c, i64 n] w fun e w' => e = .returned (.bool true) ∧ Below w.heap.size w w' := by
  have hL := Lib.hid fun W => lives_22 W
  have Hod := Lib.hid (fewL_od (n := 60) h hr)
  have H := Lib.hid h
  clear h hr
  go_enter Tryz.func10, Tryz.ntmps10
  go_wp2_with fail
  refine (hL.out _).mono ?_
  rintro e w1 ⟨rfl, hF⟩
  have hb1 := hF
  have hl1 := H.out.later hF
  clear hL hF
  have HFw := Lib.hid (few_22 A c 60 l w1 hl1 (by decide))
  go_wp2_with fail
  refine HFw.out.mono ?_
  rintro e w2 ⟨v, rfl, hO, hF⟩
  have hb2 := below_on hb1 (Nat.le_refl _) hF
  have hn60 := fewL_le 60 l
  have Hleg := Lib.hid (fewL_legs65 60 l)
  obtain ⟨AF, cF, rfl, hsF⟩ := hO.sl
  clear hF hb1 hl1 HFw hO H
  generalize fewL 60 l = F at *
  have HF := Lib.hid (fun V (hV : Below w2.heap.size w2 V) => hsF.later hV)
  have HT1 := Lib.hid (fun V (hV : Below w2.heap.size w2 V) => atrial_c AF cF F n V (HF.out V hV) Hod.out Hleg.out (by omega))
  have HT2 := Lib.hid (fun V (hV : Below w2.heap.size w2 V) => atrial_c AF cF F 1000 V (HF.out V hV) Hod.out Hleg.out (by omega))
  have HFo := Lib.hid (fun V (hV : Below w2.heap.size w2 V) => bfold_c AF cF F V (HF.out V hV) Hod.out Hleg.out (by omega))
  have HEq := Lib.hid (trial_eq Hod.out n)
  have hla := trial_len Hod.out hn60 n
  have hlb := trial_len Hod.out hn60 1000
  have HnA := Lib.hid (trial_nil (ls := legsR (movedL F) 0 n))
  have HhB := Lib.hid (havR_law Hod.out)
  clear hsF Hleg HF Hod
  generalize trialL (legsR (movedL F) 0 n) = Ra at *
  generalize trialL (legsR (movedL F) 0 1000) = Rb at *
  obtain ⟨La, ea⟩ := Ra
  obtain ⟨Lb, eb⟩ := Rb
  generalize foldL bk0 F = BF at *
  dsimp only at HT1 HT2 HEq hla hlb HnA HhB
  go_wp2_with fail
  refine (HT1.out _ (Below.refl _ _)).mono ?_
  rintro e w3 ⟨va, rfl, hOa, hF⟩
  have hc := hF
  obtain ⟨A1, c1, rfl, hsa⟩ := hOa.sl
  have HSa := Lib.hid (fun V (hV : Below w3.heap.size w3 V) => hsa.later hV)
  have hca : La.length ≤ c1 := hsa.1
  have hw3 := hF.size
  clear hF hOa hsa HT1
  go_wp2_with fail
  refine (HT2.out _ hc).mono ?_
  rintro e w4 ⟨vb, rfl, hOb, hF⟩
  have hc := below_on hc (Nat.le_refl _) hF
  obtain ⟨A2, c2, rfl, hsb⟩ := hOb.sl
  have HSb := Lib.hid (fun V (hV : Below w4.heap.size w4 V) => hsb.later hV)
  have hcb : Lb.length ≤ c2 := hsb.1
  have HSa4 := Lib.hid (fun V (hV : Below w4.heap.size w4 V) => HSa.out V (hF.trans (hV.mono hF.size)))
  have hw4 := hc.size
  have Hc4 := Lib.hid hc
  clear hF hOb hsb HT2 HSa hc
  have hw0 : wrap64 0 = 0 := wrap_id ⟨by decide, by decide⟩
  go_wp2_with fail
  go_loopw [9, 10, 11] (fun i9 i10 i11 wr => ∃ k : Nat, i11 = i64 k ∧ k ≤ La.length ∧ i9 = i64 (wrap64 (sumL ((La.take k).map Ln.inn))) ∧ i10 = i64 (wrap64 (sumL ((La.take k).map Ln.out))) ∧ Below w4.heap.size w4 wr) (fun _ _ i11 _ => La.length - (intOf i11).toNat)
  case atStart => exact ⟨0, rfl, Nat.zero_le _, by rw [List.take_zero]; show i64 0 = i64 (wrap64 0); rw [hw0], by rw [List.take_zero]; show i64 0 = i64 (wrap64 0); rw [hw0], Below.refl _ _⟩
  case round =>
    obtain ⟨k, rfl, hk, h9, h10, hb⟩ := hrel
    by_cases hlt : k < La.length
    · have g1 : decide ((k : Int) < (La.length : Int)) = true := decide_eq_true (by omega)
      have g2 : decide (k < La.length) = true := decide_eq_true hlt
      have i0 : (0 : Int) ≤ (k : Int) := by omega
      have i1 : (k : Int) < (La.length : Int) := by omega
      obtain ⟨b, o, rfl, -, -, r0, r1, r2⟩ := (HSa4.out _ hb).ln hlt
      have hea : ea = 0 := HnA.out (by intro e; rw [e] at hlt; simp at hlt)
      have e1 : (ea == 0) = true := by simp [hea]
      have HI := Lib.hid (inn_snoc hlt)
      have HO := Lib.hid (out_snoc hlt)
      generalize sumL ((La.take k).map Ln.inn) = si at *
      generalize sumL ((La.take k).map Ln.out) = so at *
      obtain ⟨pi, hpi⟩ : ∃ p, wrap64 si = p := ⟨_, rfl⟩
      obtain ⟨po, hpo⟩ : ∃ p, wrap64 so = p := ⟨_, rfl⟩
      rw [hpi] at h9
      rw [hpo] at h10
      subst h9 h10
      obtain ⟨x, hxk⟩ : ∃ x, La[k] = x := ⟨_, rfl⟩
      simp only [hxk] at r0 r1 r2 HI HO
      have H9 := Lib.hid (show wrap64 (sumL ((La.take (k + 1)).map Ln.inn)) = wrap64 (pi + x.inn) by rw [HI.out, ← wrap_add64, hpi])
      have H10 := Lib.hid (show wrap64 (sumL ((La.take (k + 1)).map Ln.out)) = wrap64 (po + x.out) by rw [HO.out, ← wrap_add64, hpo])
      clear hxk hea hpi hpo HI HO
      go_wp2
      go_roundw
      case rel => exact ⟨k + 1, by go_num, by omega, by rw [H9.out], by rw [H10.out], hb⟩
      case measure => simp [intOf]; omega
    · obtain rfl : k = La.length := by omega
      have g1 : decide ((La.length : Int) < (La.length : Int)) = false := decide_eq_false (by omega)
      rw [List.take_length] at h9 h10
      rw [HEq.out] at h9
      obtain ⟨po, hpo⟩ : ∃ p, wrap64 (sumL (La.map Ln.out)) = p := ⟨_, rfl⟩
      rw [hpo] at h9 h10
      subst h9 h10
      clear hpo HEq HnA
      have hcb2 := Hc4.out.trans (hb.mono hw4)
      have HFo2 := Lib.hid (HFo.out _ hcb2)
      have hwb := hb.size
      clear HFo
      go_wp2_with fail
      refine HFo2.out.mono ?_
      rintro e w5 ⟨a, vt, B0, rfl, hB, hI, -, -, -, hF⟩
      have hb5 := below_on hb (Nat.le_refl _) hF
      have HAc := Lib.hid (baccts_c a _ w5 hB hI)
      have hX12 : BF.L.length ≤ 12 := hI.len
      clear HFo2 hB hI hF hcb2
      go_wp2_with fail
      refine HAc.out.mono ?_
      rintro e w6 ⟨vx, rfl, hOx, hF⟩
      have hb6 := below_on hb5 (Nat.le_refl _) hF
      obtain ⟨Ax, cx, rfl, hsx⟩ := hOx.sl
      have hcx : BF.L.length ≤ cx := hsx.1
      have HSx := Lib.hid (fun V (hV : Below w6.heap.size w6 V) => hsx.later hV)
      have hw6 := hb6.size
      have HSb6 := Lib.hid (fun V (hV : Below w6.heap.size w6 V) => HSb.out V (hb6.trans (hV.mono hw6)))
      have Hend := Lib.hid (fun V (hV : Below w6.heap.size w6 V) => hb2.trans ((Hc4.out.trans ((hb6.trans (hV.mono hw6)).mono hw4)).mono hb2.size))
      clear HAc hOx hsx hF hb5 hb6 hb HSb HSa4 Hc4 hb2
      generalize BF.L = X at *
      go_wp2_with fail
      go_loopw [15] (fun i wr => ∃ k : Nat, i = i64 k ∧ k ≤ X.length ∧ Below w6.heap.size w6 wr) (fun i _ => X.length - (intOf i).toNat)
      case atStart => exact ⟨0, rfl, Nat.zero_le _, Below.refl _ _⟩
      case round =>
        obtain ⟨k, rfl, hk, hb⟩ := hrel
        obtain ⟨wo, rfl⟩ : ∃ wo, wo = wr := ⟨wr, rfl⟩
        by_cases hlt : k < X.length
        · have g1 : decide ((k : Int) < (X.length : Int)) = true := decide_eq_true (by omega)
          have g2 : decide (k < X.length) = true := decide_eq_true hlt
          have i0 : (0 : Int) ≤ (k : Int) := by omega
          have i1 : (k : Int) < (X.length : Int) := by omega
          by_cases hf : eb = 0
          · have e1 : (eb == 0) = true := by simp [hf]
            obtain ⟨bx, ox, rfl, hbx, -, x0, x1, -, -⟩ := (HSx.out _ hb).acc hlt
            have Hlaw := Lib.hid (HhB.out hf X[k] (List.getElem_mem hlt))
            obtain ⟨ac, hac⟩ : ∃ ac, X[k] = ac := ⟨_, rfl⟩
            simp only [hac] at x0 x1 Hlaw
            have hwo := hb.size
            have HSbo := Lib.hid (fun V (hV : Below wo.heap.size wo V) => HSb6.out V (hb.trans (hV.mono hwo)))
            have Hx0 := Lib.hid (fun V (hV : Below wo.heap.size wo V) => (hV.cell (p := ⟨bx, ox + k * 4, none⟩) hbx).trans x0)
            have Hx1 := Lib.hid (fun V (hV : Below wo.heap.size wo V) => (hV.cell (p := ⟨bx, ox + k * 4 + 1, none⟩) hbx).trans x1)
            have Hb := Lib.hid hb
            clear hac hf x0 x1 hb
            go_wp2_with fail
            go_loopw [16, 17] (fun i16 i17 wr => ∃ j : Nat, i17 = i64 j ∧ j ≤ Lb.length ∧ i16 = i64 (havR (Lb.take j) ac.name) ∧ Below wo.heap.size wo wr) (fun _ i17 _ => Lb.length - (intOf i17).toNat)
            case atStart => exact ⟨0, rfl, Nat.zero_le _, rfl, Below.refl _ _⟩
            case round =>
              obtain ⟨j, rfl, hj, h16, hbi⟩ := hrel
              obtain ⟨wi, rfl⟩ : ∃ wi, wi = wr := ⟨wr, rfl⟩
              by_cases hjt : j < Lb.length
              · have g3 : decide ((j : Int) < (Lb.length : Int)) = true := decide_eq_true (by omega)
                have g4 : decide (j < Lb.length) = true := decide_eq_true hjt
                have j0 : (0 : Int) ≤ (j : Int) := by omega
                have j1 : (j : Int) < (Lb.length : Int) := by omega
                have hwi := hbi.size
                have hsb := HSbo.out _ hbi
                obtain ⟨bl, ol, rfl, hbl, -, r0, r1, r2⟩ := hsb.ln hjt
                have Hst := Lib.hid (havR_take hjt ac.name)
                obtain ⟨y, hyk⟩ : ∃ y, Lb[j] = y := ⟨_, rfl⟩
                simp only [hyk] at r0 r1 r2 Hst
                have y0 := Hx0.out _ hbi
                generalize havR (Lb.take j) ac.name = hv at *
                subst h16
                have HS : Hid (∀ V, Below wi.heap.size wi V → (fun V : World => Below wi.heap.size wi V ∧ V.cell? ⟨bl, ol + j * 3, none⟩ = some (.string y.acct) ∧ V.cell? ⟨bl, ol + j * 3 + 1, none⟩ = some (i64 y.inn) ∧ V.cell? ⟨bl, ol + j * 3 + 2, none⟩ = some (i64 y.out) ∧ V.cell? ⟨bx, ox + k * 4, none⟩ = some (.string ac.name)) V) := Lib.hid fun V hV => ⟨hV, (hV.cell (p := ⟨bl, ol + j * 3, none⟩) hbl).trans r0, (hV.cell (p := ⟨bl, ol + j * 3 + 1, none⟩) hbl).trans r1, (hV.cell (p := ⟨bl, ol + j * 3 + 2, none⟩) hbl).trans r2, (hV.cell (p := ⟨bx, ox + k * 4, none⟩) (Nat.lt_of_lt_of_le hbx hwi)).trans y0⟩
                have Hbi := Lib.hid hbi
                clear hyk hsb r0 r1 r2 y0 hbi hbl
                by_cases hq : y.acct = ac.name
                · have q1 : (y.acct.toList == ac.name.toList) = true := by rw [hq]; simp
                  rw [if_pos hq] at Hst
                  clear hq
                  go_upto_region 21 with fail
                  refine wp_region_noPanic ?_
                  refine wp_region_l 10 (fun V : World => Below wi.heap.size wi V ∧ V.cell? ⟨bl, ol + j * 3, none⟩ = some (.string y.acct) ∧ V.cell? ⟨bl, ol + j * 3 + 1, none⟩ = some (i64 y.inn) ∧ V.cell? ⟨bl, ol + j * 3 + 2, none⟩ = some (i64 y.out) ∧ V.cell? ⟨bx, ox + k * 4, none⟩ = some (.string ac.name)) (by kernel_rfl) (HS.out _ (Below.refl _ _).drew) (fun hH => ?_)
                  refine tkY 0 (v := ?v20001) ?y20001 ?r20001
                  case y20001 => (intro W hW; go_simp; try with_reducible rfl)
                  try simp only [List.set]
                  refine tkY 1 (v := ?v20002) ?y20002 ?r20002
                  case y20002 => (intro W hW; go_simp; try with_reducible rfl)
                  try simp only [List.set]
                  refine tkY 2 (v := ?v20003) ?y20003 ?r20003
                  case y20003 => (intro W hW; go_simp; try with_reducible rfl)
                  try simp only [List.set]
                  refine tkY 3 (v := ?v20004) ?y20004 ?r20004
                  case y20004 => (intro W hW; go_simp; try with_reducible rfl)
                  try simp only [List.set]
                  refine tkY 4 (v := ?v20005) ?y20005 ?r20005
                  case y20005 => (intro W hW; go_simp; try with_reducible rfl)
                  try simp only [List.set]
                  refine tkY 5 (v := ?v20006) ?y20006 ?r20006
                  case y20006 => (intro W hW; go_simp; try with_reducible rfl)
                  try simp only [List.set]
                  refine tkY 6 (v := ?v20007) ?y20007 ?r20007
                  case y20007 => (intro W hW; go_simp; try with_reducible rfl)
                  try simp only [List.set]
                  refine tkY 7 (v := ?v20008) ?y20008 ?r20008
                  case y20008 => (intro W hW; go_simp; try with_reducible rfl)
                  try simp only [List.set]
                  refine tkY 8 (v := ?v20009) ?y20009 ?r20009
                  case y20009 => (intro W hW; go_simp; try with_reducible rfl)
                  try simp only [List.set]
                  refine tkY 9 (v := ?v20010) ?y20010 ?r20010
                  case y20010 => (intro W hW; go_simp; try with_reducible rfl)
                  try simp only [List.set]
                  refine wpAnyL_last (by kernel_rfl) rfl (fun K hK => ?_)
                  go_simp
                  refine hK.out _ _ ?_
                  clear hK K
                  try simp only [Act.put, List.getElem_toArray, List.getElem_cons_zero, List.getElem_cons_succ, List.setIfInBounds_toArray, List.set_cons_zero, List.set_cons_succ]
                  refine wpAnyL_done (by kernel_rfl) ?_ _
                  refine NoPanic.normal ?_
                  have hba := hH.1
                  clear hH
                  go_upto_region 22 with fail
                  refine wp_region_noPanic ?_
                  refine wp_region_l 11 (fun V : World => Below wi.heap.size wi V ∧ V.cell? ⟨bl, ol + j * 3, none⟩ = some (.string y.acct) ∧ V.cell? ⟨bl, ol + j * 3 + 1, none⟩ = some (i64 y.inn) ∧ V.cell? ⟨bl, ol + j * 3 + 2, none⟩ = some (i64 y.out) ∧ V.cell? ⟨bx, ox + k * 4, none⟩ = some (.string ac.name)) (by kernel_rfl) (HS.out _ (hba.drew)) (fun hH => ?_)
                  refine tkY 0 (v := ?v20011) ?y20011 ?r20011
                  case y20011 => (intro W hW; go_simp; try with_reducible rfl)
                  try simp only [List.set]
                  refine tkY 1 (v := ?v20012) ?y20012 ?r20012
                  case y20012 => (intro W hW; go_simp; try with_reducible rfl)
                  try simp only [List.set]
                  refine tkY 2 (v := ?v20013) ?y20013 ?r20013
                  case y20013 => (intro W hW; go_simp; try with_reducible rfl)
                  try simp only [List.set]
                  refine tkY 3 (v := ?v20014) ?y20014 ?r20014
                  case y20014 => (intro W hW; go_simp; try with_reducible rfl)
                  try simp only [List.set]
                  refine tkY 4 (v := ?v20015) ?y20015 ?r20015
                  case y20015 => (intro W hW; go_simp; try with_reducible rfl)
                  try simp only [List.set]
                  refine tkY 5 (v := ?v20016) ?y20016 ?r20016
                  case y20016 => (intro W hW; go_simp; try with_reducible rfl)
                  try simp only [List.set]
                  refine tkY 6 (v := ?v20017) ?y20017 ?r20017
                  case y20017 => (intro W hW; go_simp; try with_reducible rfl)
                  try simp only [List.set]
                  refine tkY 7 (v := ?v20018) ?y20018 ?r20018
                  case y20018 => (intro W hW; go_simp; try with_reducible rfl)
                  try simp only [List.set]
                  refine tkY 8 (v := ?v20019) ?y20019 ?r20019
                  case y20019 => (intro W hW; go_simp; try with_reducible rfl)
                  try simp only [List.set]
                  refine tkY 9 (v := ?v20020) ?y20020 ?r20020
                  case y20020 => (intro W hW; go_simp; try with_reducible rfl)
                  try simp only [List.set]
                  refine tkY 10 (v := ?v20021) ?y20021 ?r20021
                  case y20021 => (intro W hW; go_simp; try with_reducible rfl)
                  try simp only [List.set]
                  refine wpAnyL_last (by kernel_rfl) rfl (fun K hK => ?_)
                  go_simp
                  refine hK.out _ _ ?_
                  clear hK K
                  try simp only [Act.put, List.getElem_toArray, List.getElem_cons_zero, List.getElem_cons_succ, List.setIfInBounds_toArray, List.set_cons_zero, List.set_cons_succ]
                  refine wpAnyL_done (by kernel_rfl) ?_ _
                  refine NoPanic.normal ?_
                  have hbf := hH.1
                  clear hH HS
                  go_wp2
                  go_roundw
                  case rel => exact ⟨j + 1, by go_num, by omega, by (rw [Hst.out] <;> (try rw [IntWalk.i64_left])), Hbi.out.trans (hbf.mono hwi)⟩
                  case measure => simp [intOf]; omega
                · have q1 : (y.acct.toList == ac.name.toList) = false := by
                    rw [beq_eq_false_iff_ne]
                    exact fun e => hq (bytes_ext e)
                  rw [if_neg hq] at Hst
                  clear hq
                  go_upto_region 21 with fail
                  refine wp_region_noPanic ?_
                  refine wp_region_l 10 (fun V : World => Below wi.heap.size wi V ∧ V.cell? ⟨bl, ol + j * 3, none⟩ = some (.string y.acct) ∧ V.cell? ⟨bl, ol + j * 3 + 1, none⟩ = some (i64 y.inn) ∧ V.cell? ⟨bl, ol + j * 3 + 2, none⟩ = some (i64 y.out) ∧ V.cell? ⟨bx, ox + k * 4, none⟩ = some (.string ac.name)) (by kernel_rfl) (HS.out _ (Below.refl _ _).drew) (fun hH => ?_)
                  refine tkY 0 (v := ?v20022) ?y20022 ?r20022
                  case y20022 => (intro W hW; go_simp; try with_reducible rfl)
                  try simp only [List.set]
                  refine tkY 1 (v := ?v20023) ?y20023 ?r20023
                  case y20023 => (intro W hW; go_simp; try with_reducible rfl)
                  try simp only [List.set]
                  refine tkY 2 (v := ?v20024) ?y20024 ?r20024
                  case y20024 => (intro W hW; go_simp; try with_reducible rfl)
                  try simp only [List.set]
                  refine tkY 3 (v := ?v20025) ?y20025 ?r20025
                  case y20025 => (intro W hW; go_simp; try with_reducible rfl)
                  try simp only [List.set]
                  refine tkY 4 (v := ?v20026) ?y20026 ?r20026
                  case y20026 => (intro W hW; go_simp; try with_reducible rfl)
                  try simp only [List.set]
                  refine tkY 5 (v := ?v20027) ?y20027 ?r20027
                  case y20027 => (intro W hW; go_simp; try with_reducible rfl)
                  try simp only [List.set]
                  refine tkY 6 (v := ?v20028) ?y20028 ?r20028
                  case y20028 => (intro W hW; go_simp; try with_reducible rfl)
                  try simp only [List.set]
                  refine tkY 7 (v := ?v20029) ?y20029 ?r20029
                  case y20029 => (intro W hW; go_simp; try with_reducible rfl)
                  try simp only [List.set]
                  refine tkY 8 (v := ?v20030) ?y20030 ?r20030
                  case y20030 => (intro W hW; go_simp; try with_reducible rfl)
                  try simp only [List.set]
                  refine tkY 9 (v := ?v20031) ?y20031 ?r20031
                  case y20031 => (intro W hW; go_simp; try with_reducible rfl)
                  try simp only [List.set]
                  refine wpAnyL_last (by kernel_rfl) rfl (fun K hK => ?_)
                  go_simp
                  refine hK.out _ _ ?_
                  clear hK K
                  try simp only [Act.put, List.getElem_toArray, List.getElem_cons_zero, List.getElem_cons_succ, List.setIfInBounds_toArray, List.set_cons_zero, List.set_cons_succ]
                  refine wpAnyL_done (by kernel_rfl) ?_ _
                  refine NoPanic.normal ?_
                  have hbf := hH.1
                  clear hH HS
                  go_wp2
                  go_roundw
                  case rel => exact ⟨j + 1, by go_num, by omega, by (rw [Hst.out] <;> (try rw [IntWalk.i64_left])), Hbi.out.trans (hbf.mono hwi)⟩
                  case measure => simp [intOf]; omega
              · obtain rfl : j = Lb.length := by omega
                have g3 : decide ((Lb.length : Int) < (Lb.length : Int)) = false := decide_eq_false (by omega)
                rw [List.take_length, Hlaw.out] at h16
                subst h16
                have y1 := Hx1.out _ hbi
                have hb2 := Hb.out.trans (hbi.mono hwo)
                clear hbi
                go_wp2
                go_roundw
                case rel => exact ⟨k + 1, by go_num, by omega, hb2⟩
                case measure => simp [intOf]; omega
          · have e1 : (eb == 0) = false := by simpa using hf
            have hend := Hend.out _ hb
            clear hf hb
            go_wp2
            go_ret
            exact ⟨rfl, hend⟩
        · obtain rfl : k = X.length := by omega
          have g1 : decide ((X.length : Int) < (X.length : Int)) = false := decide_eq_false (by omega)
          have hend := Hend.out _ hb
          clear hb
          go_wp2
          go_ret
          exact ⟨rfl, hend⟩
end Go.Proofs.YtgholbeehkfbiaaGreat
