/- Texts of this claim, laid together: Hplays. -/
import Derived.Test.YtmljlkjomjflpaaGreatRows
import Derived.Test.YtmljlkjomjflpaaGreatHp21
import Derived.Test.YtmljlkjomjflpaaGreatHp7
import Derived.WalkKit
import Derived.WalkSpells
import Derived.WalkLawsBesides
import Derived.Deep.QuietTactic
import Derived.BigQuiet
import Derived.Laws.StructEq
import Derived.Deep.DeepFit
import Derived.StillTailTactics

/- law08.HoldPlays -/
namespace Go.Proofs.YtmljlkjomjflpaaGreat
open Go.RowKit
theorem SlS.op8 {w : World} {S : Nat → Prop} {c : Nat} {A : Option Addr} {l : List Op8} (h : SlS w S A c l) {k : Nat} (hk : k < l.length) : ∃ b o, A = some ⟨b, o, none⟩ ∧ S b ∧ (l[k].acct.size ≤ maxLen ∧ l[k].peer.size ≤ maxLen ∧ R64 l[k].sum) ∧
    w.cell? ⟨b, o + k * 5, none⟩ = some (i64 l[k].kind) ∧ w.cell? ⟨b, o + k * 5 + 1, none⟩ = some (i64 l[k].num) ∧ w.cell? ⟨b, o + k * 5 + 2, none⟩ = some (.string l[k].acct) ∧ w.cell? ⟨b, o + k * 5 + 3, none⟩ = some (.string l[k].peer) ∧ w.cell? ⟨b, o + k * 5 + 4, none⟩ = some (i64 l[k].sum) := by
  obtain ⟨b, o, hA, hb, hok, hc⟩ := h.at_ hk
  exact ⟨b, o, hA, hb, hok, hc 0 _ rfl, hc 1 _ rfl, hc 2 _ rfl, hc 3 _ rfl, hc 4 _ rfl⟩
theorem RhIs.mono {w : World} {T T' : Nat → Prop} {g : Nat} {H : List Held} (h : RhIs w T g H) (ht : ∀ k, k < w.heap.size → T k → T' k) : RhIs w T' g H := by
  obtain ⟨A, c, hc, hs, hf⟩ := h
  exact ⟨A, c, hc, hs.mono fun k hk => ⟨hk.1, ht k hk.1 hk.2⟩, hf⟩
/-- blocks that no chart's or holds' own are -/
def TP (b bh r q : Nat) : Nat → Prop := fun k => k ≠ b ∧ k ≠ bh ∧ k ≠ r ∧ k ≠ q
set_option maxRecDepth 100000 in
set_option maxHeartbeats 16000000 in
theorem holdPlays_c (A : Option Addr) (c : Nat) (l : List Op8) (w : World) (h : Sl w w.heap.size A c l) :
    Calls Tryz.prog 3 #[.slice A l.length c] w fun e w' => e = .returned (.bool true) ∧ Below w.heap.size w w' := by
  have hL := Lib.hid fun W => lives8_c W
  have hBg := Lib.hid fun W => begin_c W
  have hH := Lib.hid fun W => honewA_c W
  have Hl := Lib.hid h
  clear h
  go_enter Tryz.func3, Tryz.ntmps3
  go_wp2_with fail
  refine (hL.out _).mono ?_
  rintro e w1 ⟨rfl, hF⟩
  have hb1 := hF
  clear hL hF
  go_wp2_with fail
  refine (hBg.out _).mono ?_
  rintro e w2 ⟨g, b, r, rfl, hB⟩
  have hb2 := below_on hb1 (Nat.le_refl _) hB.be
  have hc2 := hB.ch
  have hr2 := hB.rc
  have hnr := hB.ne
  have hgb : w.heap.size ≤ g ∧ w.heap.size ≤ b ∧ w.heap.size ≤ r := by have := hB.ge; have := hb1.size; omega
  clear hBg hB hb1
  go_wp2_with fail
  refine (hH.out _).mono ?_
  rintro e w3 ⟨rfl, hh3, hF⟩
  have hb3 := below_on hb2 (Nat.le_refl _) hF
  have hc3 := hc2.later hF
  have hr3 := hr2.later hF
  have hlr := hr2.lt
  have hlc := hc2.lt
  have hhl := hh3.lt
  have hz2 : w.heap.size ≤ w2.heap.size := hb2.size
  have hq3 := hh3.lt
  have hba := (Below.refl w3.heap.size w3).alloc (Nat.le_refl _) (.cells #[.slice none 0 0] 33)
  have hqg := heap_alloc_new w3 (.cells #[.slice none 0 0] 33)
  have hb4 := hb3.alloc hb3.size (.cells #[.slice none 0 0] 33)
  have hc4 := hc3.later hba
  have hh4 := hh3.later hba
  have hr4 := hr3.later hba
  have hz3 := hF.size
  have hr4' : RcIs (w3.alloc (.cells #[.slice none 0 0] 33)) (TP b w2.heap.size r w3.heap.size) r L0 := by
    obtain ⟨A0, c0, k1, k2, k3⟩ := hr2
    exact (RcIs.later (L := L0) ⟨A0, c0, k1, k2.mono (fun k hk => ⟨hk.1, hk.2.2.1, by have := hk.1; omega, hk.2.2.2, by have := hk.1; omega⟩), k3⟩ hF).later hba
  have hq4 : RhIs (w3.alloc (.cells #[.slice none 0 0] 33)) (TP b w2.heap.size r w3.heap.size) w3.heap.size [] := ⟨none, 0, hqg, SlS.nil_ _ _, .inl ⟨rfl, rfl⟩⟩
  have hE := Lib.hid (early_c A c l _ (Hl.out.later hb4))
  have hd : w2.heap.size + 1 ≠ b ∧ w2.heap.size ≠ b ∧ g ≠ w2.heap.size := by omega
  have hd2 : r ≠ b ∧ r ≠ w2.heap.size ∧ w3.heap.size ≠ b ∧ w3.heap.size ≠ w2.heap.size ∧ r ≠ w3.heap.size ∧ g ≠ r ∧ b ≠ r ∧ g ≠ w3.heap.size ∧ w2.heap.size + 1 ≠ r ∧ w2.heap.size + 1 ≠ w3.heap.size := by omega
  have hge : w.heap.size ≤ b ∧ w.heap.size ≤ w2.heap.size ∧ w.heap.size ≤ r ∧ w.heap.size ≤ w3.heap.size := by omega
  clear hH hF hc2 hb2 hr2 hqg hba hh3 hc3 hb3 hr3 hr4 hgb hnr hz3 hz2 hlc hlr hhl hq3
  go_wp2_with fail
  generalize w3.alloc (.cells #[.slice none 0 0] 33) = w5 at *
  generalize w3.heap.size = q at *
  generalize w2.heap.size + 1 = gh at *
  generalize w2.heap.size = bh at *
  have Hd := Lib.hid hd
  have Hd2 := Lib.hid hd2
  have Hge := Lib.hid hge
  clear hd hd2 hge
  refine hE.out.mono ?_
  rintro e w6 ⟨en, rfl, hm, hF⟩
  have hb6 := below_on hb4 (Nat.le_refl _) hF
  have hc6 := hc4.later hF
  have hh6 := hh4.later hF
  have hr6 := hr4'.later hF
  have hq6 := hq4.later hF
  have Hm := Lib.hid (Hl.out.take en)
  generalize l.take en = m at *
  have hmc : m.length ≤ c := Hm.out.1
  clear hE hF hc4 hh4 hb4 hr4' hq4 Hl
  go_wp2_with fail
  go_loopw [7] (fun i wr => ∃ (n : Nat) (L : List Ac) (H : List Held), i = i64 n ∧ n ≤ m.length ∧ ChA wr g b L ∧ HoA wr gh bh H ∧ RcIs wr (TP b bh r q) r L ∧ RhIs wr (TP b bh r q) q H ∧ InvH L H ∧ H.length ≤ n ∧ L.length = 3 ∧ Below w.heap.size w wr) (fun i _ => m.length - (intOf i).toNat)
  case atStart => exact ⟨0, L0, [], rfl, Nat.zero_le _, hc6, hh6, hr6, hq6, inv_L0, Nat.le_refl _, rfl, hb6⟩
  case round =>
    obtain ⟨n, L, H, rfl, hn, hc, hh, hrc, hrh, hI, hHn, hL3, hB⟩ := hrel
    clear hc6 hh6 hb6 hr6 hq6
    by_cases hlt : n < m.length
    · have g1 : decide ((n : Int) < (m.length : Int)) = true := decide_eq_true (by omega)
      have g2 : decide (n < m.length) = true := decide_eq_true hlt
      obtain ⟨sb, so, hA, hsb, hok, _, _, _, _, _⟩ := Hm.out.op8 hlt
      subst hA
      have i0 : (0 : Int) ≤ (n : Int) := by omega
      have i1 : (n : Int) < (m.length : Int) := by omega
      have HSS := Lib.hid (show ∀ V, Below w.heap.size w V → (fun V : World => V.cell? ⟨sb, so + n * 5, none⟩ = some (i64 m[n].kind) ∧ V.cell? ⟨sb, so + n * 5 + 1, none⟩ = some (i64 m[n].num) ∧ V.cell? ⟨sb, so + n * 5 + 2, none⟩ = some (.string m[n].acct) ∧ V.cell? ⟨sb, so + n * 5 + 3, none⟩ = some (.string m[n].peer) ∧ V.cell? ⟨sb, so + n * 5 + 4, none⟩ = some (i64 m[n].sum)) V from fun V hV => by
        obtain ⟨sb', so', hsb', _, _, d0, d1, d2, d3, d4⟩ := (Hm.out.below hV).op8 hlt
        injection hsb' with hsb'
        injection hsb' with e1 e2
        subst e1 e2
        exact ⟨d0, d1, d2, d3, d4⟩)
      have hI2 := hI.step m[n] hok
      have hlA := stepH_lenA hI m[n]
      have hlH := stepH_len L H m[n]
      have hHn6 : H.length ≤ 60000 := by omega
      have hT : ∀ k, w.heap.size ≤ k → True := fun _ _ => trivial
      have hB0 : Below w.heap.size w wr.drew := hB.drew
      have hc0 := hc.later (Below.refl _ _).drew
      have hh0 := hh.later (Below.refl _ _).drew
      have hrc0 := hrc.later (Below.refl _ _).drew
      have hrh0 := hrh.later (Below.refl _ _).drew
      have HD1 := Lib.hid (does_c g b gh bh L H m[n] wr.drew hc0 hh0 Hd.out hI.okA hI.okH (by omega) hok)
      have HD2 := Lib.hid (fun (W : World) (h1 : RhIs W (TP b bh r q) q H) (h2 : RcIs W (TP b bh r q) r L) (h3 : ∀ k, W.heap.size ≤ k → TP b bh r q k) => doesRef_c (TP b bh r q) q r H L m[n] W h1 h2 hI (by omega) hHn6 hok h3 (fun e => e.2.2.2 rfl) (fun e => e.2.2.1 rfl))
      have Hx := Lib.hid (show m[n].acct.size ≤ maxLen from hok.1)
      obtain ⟨R, hR⟩ : ∃ R, stepH L H m[n] = R := ⟨_, rfl⟩
      rw [hR] at HD1 HD2 hI2 hlA hlH
      obtain ⟨er, L2, H2⟩ := R
      dsimp only at HD1 HD2 hI2 hlA hlH
      have HI2 := Lib.hid hI2
      have HlA := Lib.hid (show L2.length = 3 by rw [hlA]; exact hL3)
      have HlH := Lib.hid (show H2.length ≤ n + 1 by omega)
      have Hh2 : H2.length ≤ 65536 := by omega
      have HRC := Lib.hid hrc0
      have HRH := Lib.hid hrh0
      have Hlt := Lib.hid hlt
      have Hm3 := Lib.hid hm
      have ger : (er != er) = false := by simp
      clear hR hI hI2 hlA hlH hL3 hHn hok hc hh hrc hrh hB hc0 hh0 hrc0 hrh0 hHn6 hT
      go_wp2_with fail
      refine wp_region_noPanic ?_
      refine wp_region_l 52 (fun V => V.cell? ⟨sb, so + n * 5, none⟩ = some (i64 m[n].kind) ∧ V.cell? ⟨sb, so + n * 5 + 1, none⟩ = some (i64 m[n].num) ∧ V.cell? ⟨sb, so + n * 5 + 2, none⟩ = some (.string m[n].acct) ∧ V.cell? ⟨sb, so + n * 5 + 3, none⟩ = some (.string m[n].peer) ∧ V.cell? ⟨sb, so + n * 5 + 4, none⟩ = some (i64 m[n].sum)) (by kernel_rfl) (HSS.out _ hB0) (fun hH => ?_)
      refine wpAnyL_take (i := 0) (v := ?v9001) rfl (by kernel_rfl) (by kernel_rfl) (by kernel_rfl) (by kernel_rfl) (fun _ _ _ h => h) (Or.inl ⟨by kernel_rfl, ?hy9001⟩) (by assumption) ?r9001
      case hy9001 => (intro W hSW; obtain ⟨s0, s1, s2, s3, s4⟩ := hSW; go_simp; try with_reducible rfl)
      try simp only [Act.put, List.getElem_toArray, List.getElem_cons_zero, List.setIfInBounds_toArray, List.set_cons_zero, List.set_cons_succ]
      refine wpAnyL_take (i := 1) (v := ?v9002) rfl (by kernel_rfl) (by kernel_rfl) (by kernel_rfl) (by kernel_rfl) (fun _ _ _ h => h) (Or.inl ⟨by kernel_rfl, ?hy9002⟩) (by assumption) ?r9002
      case hy9002 => (intro W hSW; obtain ⟨s0, s1, s2, s3, s4⟩ := hSW; go_simp; try with_reducible rfl)
      try simp only [Act.put, List.getElem_toArray, List.getElem_cons_zero, List.getElem_cons_succ, List.setIfInBounds_toArray, List.set_cons_zero, List.set_cons_succ]
      refine wpAnyL_take (i := 2) (v := ?v9003) rfl (by kernel_rfl) (by kernel_rfl) (by kernel_rfl) (by kernel_rfl) (fun _ _ _ h => h) (Or.inl ⟨by kernel_rfl, ?hy9003⟩) (by assumption) ?r9003
      case hy9003 => (intro W hSW; obtain ⟨s0, s1, s2, s3, s4⟩ := hSW; go_simp; try with_reducible rfl)
      try simp only [Act.put, List.getElem_toArray, List.getElem_cons_zero, List.getElem_cons_succ, List.setIfInBounds_toArray, List.set_cons_zero, List.set_cons_succ]
      refine wpAnyL_take (i := 3) (v := ?v9004) rfl (by kernel_rfl) (by kernel_rfl) (by kernel_rfl) (by kernel_rfl) (fun _ _ _ h => h) (Or.inl ⟨by kernel_rfl, ?hy9004⟩) (by assumption) ?r9004
      case hy9004 => (intro W hSW; obtain ⟨s0, s1, s2, s3, s4⟩ := hSW; go_simp; try with_reducible rfl)
      try simp only [Act.put, List.getElem_toArray, List.getElem_cons_zero, List.getElem_cons_succ, List.setIfInBounds_toArray, List.set_cons_zero, List.set_cons_succ]
      refine wpAnyL_take (i := 4) (v := ?v9005) rfl (by kernel_rfl) (by kernel_rfl) (by kernel_rfl) (by kernel_rfl) (fun _ _ _ h => h) (Or.inl ⟨by kernel_rfl, ?hy9005⟩) (by assumption) ?r9005
      case hy9005 => (intro W hSW; obtain ⟨s0, s1, s2, s3, s4⟩ := hSW; go_simp; try with_reducible rfl)
      try simp only [Act.put, List.getElem_toArray, List.getElem_cons_zero, List.getElem_cons_succ, List.setIfInBounds_toArray, List.set_cons_zero, List.set_cons_succ]
      refine wpAnyL_take (i := 5) (v := ?v9006) rfl (by kernel_rfl) (by kernel_rfl) (by kernel_rfl) (by kernel_rfl) (fun _ _ _ h => h) (Or.inl ⟨by kernel_rfl, ?hy9006⟩) (by assumption) ?r9006
      case hy9006 => (intro W hSW; obtain ⟨s0, s1, s2, s3, s4⟩ := hSW; go_simp; try with_reducible rfl)
      try simp only [Act.put, List.getElem_toArray, List.getElem_cons_zero, List.getElem_cons_succ, List.setIfInBounds_toArray, List.set_cons_zero, List.set_cons_succ]
      refine wpAnyL_take (i := 7) (v := ?v9007) rfl (by kernel_rfl) (by kernel_rfl) (by kernel_rfl) (by kernel_rfl) (fun _ _ _ h => h) (Or.inl ⟨by kernel_rfl, ?hy9007⟩) (by assumption) ?r9007
      case hy9007 => (intro W hSW; obtain ⟨s0, s1, s2, s3, s4⟩ := hSW; go_simp; try with_reducible rfl)
      try simp only [Act.put, List.getElem_toArray, List.getElem_cons_zero, List.getElem_cons_succ, List.setIfInBounds_toArray, List.set_cons_zero, List.set_cons_succ]
      refine wpAnyL_take (i := 8) (v := ?v9008) rfl (by kernel_rfl) (by kernel_rfl) (by kernel_rfl) (by kernel_rfl) (fun _ _ _ h => h) (Or.inl ⟨by kernel_rfl, ?hy9008⟩) (by assumption) ?r9008
      case hy9008 => (intro W hSW; obtain ⟨s0, s1, s2, s3, s4⟩ := hSW; go_simp; try with_reducible rfl)
      try simp only [Act.put, List.getElem_toArray, List.getElem_cons_zero, List.getElem_cons_succ, List.setIfInBounds_toArray, List.set_cons_zero, List.set_cons_succ]
      refine wpAnyL_take (i := 9) (v := ?v9009) rfl (by kernel_rfl) (by kernel_rfl) (by kernel_rfl) (by kernel_rfl) (fun _ _ _ h => h) (Or.inl ⟨by kernel_rfl, ?hy9009⟩) (by assumption) ?r9009
      case hy9009 => (intro W hSW; obtain ⟨s0, s1, s2, s3, s4⟩ := hSW; go_simp; try with_reducible rfl)
      try simp only [Act.put, List.getElem_toArray, List.getElem_cons_zero, List.getElem_cons_succ, List.setIfInBounds_toArray, List.set_cons_zero, List.set_cons_succ]
      refine wpAnyL_take (i := 10) (v := ?v9010) rfl (by kernel_rfl) (by kernel_rfl) (by kernel_rfl) (by kernel_rfl) (fun _ _ _ h => h) (Or.inl ⟨by kernel_rfl, ?hy9010⟩) (by assumption) ?r9010
      case hy9010 => (intro W hSW; obtain ⟨s0, s1, s2, s3, s4⟩ := hSW; go_simp; try with_reducible rfl)
      try simp only [Act.put, List.getElem_toArray, List.getElem_cons_zero, List.getElem_cons_succ, List.setIfInBounds_toArray, List.set_cons_zero, List.set_cons_succ]
      refine wpAnyL_take (i := 11) (v := ?v9011) rfl (by kernel_rfl) (by kernel_rfl) (by kernel_rfl) (by kernel_rfl) (fun _ _ _ h => h) (Or.inl ⟨by kernel_rfl, ?hy9011⟩) (by assumption) ?r9011
      case hy9011 => (intro W hSW; obtain ⟨s0, s1, s2, s3, s4⟩ := hSW; go_simp; try with_reducible rfl)
      try simp only [Act.put, List.getElem_toArray, List.getElem_cons_zero, List.getElem_cons_succ, List.setIfInBounds_toArray, List.set_cons_zero, List.set_cons_succ]
      refine wpAnyL_take (i := 12) (v := ?v9012) rfl (by kernel_rfl) (by kernel_rfl) (by kernel_rfl) (by kernel_rfl) (fun _ _ _ h => h) (Or.inl ⟨by kernel_rfl, ?hy9012⟩) (by assumption) ?r9012
      case hy9012 => (intro W hSW; obtain ⟨s0, s1, s2, s3, s4⟩ := hSW; go_simp; try with_reducible rfl)
      try simp only [Act.put, List.getElem_toArray, List.getElem_cons_zero, List.getElem_cons_succ, List.setIfInBounds_toArray, List.set_cons_zero, List.set_cons_succ]
      refine wpAnyL_one (i := 6) (by kernel_rfl) rfl (by decide) (fun K hK => ?_)
      go_simp
      refine HD1.out.mono ?_
      rintro e W1 ⟨rfl, hc1, hh1, hG⟩
      have hB1 := hB0.trans (hG.below hB0.size (fun k hk => by have := Hge.out; rcases hk with rfl | rfl <;> omega))
      have hrc1 := HRC.out.kept hG (fun e => by have := Hd2.out; rcases e with e | e <;> omega) (fun k hk e => by rcases e with e | e; exact hk.1 e; exact hk.2.1 e)
      have hrh1 := HRH.out.kept hG (fun e => by have := Hd2.out; rcases e with e | e <;> omega) (fun k hk e => by rcases e with e | e; exact hk.1 e; exact hk.2.1 e)
      have HD2 := Lib.hid (HD2.out W1 hrh1 hrc1 (fun k hk => by have := hc1.lt; have := hh1.lt; have := hrc1.lt; have := hrh1.lt; exact ⟨by omega, by omega, by omega, by omega⟩))
      clear HD1 hG HRC HRH hB0 hrc1 hrh1
      refine hK.out _ _ (HSS.out _ hB1) (fun hH => ?_)
      clear hK K
      try simp only [Act.put, List.getElem_toArray, List.getElem_cons_zero, List.getElem_cons_succ, List.setIfInBounds_toArray, List.set_cons_zero, List.set_cons_succ]
      refine wpAnyL_one (i := 13) (by kernel_rfl) rfl (by decide) (fun K hK => ?_)
      go_simp
      refine HD2.out.mono ?_
      rintro e W2 ⟨rfl, hrc2, hrh2, hG⟩
      have hB2 := hB1.trans (hG.below hB1.size (fun k hk => by have := Hge.out; rcases hk with rfl | rfl <;> omega))
      have hc2 := hc1.kept hG (fun e => by have := Hd2.out; rcases e with e | e <;> omega) (fun e => by have := Hd2.out; rcases e with e | e <;> omega)
      have hh2 := hh1.kept hG (fun e => by have := Hd2.out; rcases e with e | e <;> omega) (fun e => by have := Hd2.out; rcases e with e | e <;> omega)
      obtain ⟨Aq, cq, aq2, sq2, fq⟩ := hrh2
      obtain ⟨Ar, cr, ar2, sr2, fr⟩ := hrc2
      have hrh2 : RhIs W2 (TP b bh r q) q H2 := ⟨Aq, cq, aq2, sq2, fq⟩
      have hrc2 : RcIs W2 (TP b bh r q) r L2 := ⟨Ar, cr, ar2, sr2, fr⟩
      have aq2 := cell_of_row _ q 0 _ _ (0, 0) aq2
      have ar2 := cell_of_row _ r 0 _ _ (0, 0) ar2
      simp only [List.getElem?_toArray, List.getElem?_cons_zero] at aq2 ar2
      have HA1 := Lib.hid (hoall_c gh bh H2 W2 hh2 HI2.out.okH Hh2)
      clear HD2 hG hB1 hc1 hh1 fq fr
      refine hK.out _ _ (HSS.out _ hB2) (fun hH => ?_)
      clear hK K
      try simp only [Act.put, List.getElem_toArray, List.getElem_cons_zero, List.getElem_cons_succ, List.setIfInBounds_toArray, List.set_cons_zero, List.set_cons_succ]
      refine wpAnyC_mono (fun V => (V.cell? ⟨sb, so + n * 5, none⟩ = some (i64 m[n].kind) ∧ V.cell? ⟨sb, so + n * 5 + 1, none⟩ = some (i64 m[n].num) ∧ V.cell? ⟨sb, so + n * 5 + 2, none⟩ = some (.string m[n].acct) ∧ V.cell? ⟨sb, so + n * 5 + 3, none⟩ = some (.string m[n].peer) ∧ V.cell? ⟨sb, so + n * 5 + 4, none⟩ = some (i64 m[n].sum)) ∧ V.cell? ⟨q, 0, none⟩ = some (.slice Aq H2.length cq) ∧ V.cell? ⟨r, 0, none⟩ = some (.slice Ar L2.length cr)) (fun _ h => h.1) (⟨HSS.out _ hB2, aq2, ar2⟩) (fun hH => ?_)
      refine wpAnyL_take (i := 14) (v := ?v9013) rfl (by kernel_rfl) (by kernel_rfl) (by kernel_rfl) (by kernel_rfl) (fun _ _ _ h => h) (Or.inl ⟨by kernel_rfl, ?hy9013⟩) (by assumption) ?r9013
      case hy9013 => (intro W hSW; obtain ⟨⟨s0, s1, s2, s3, s4⟩, t0, t1⟩ := hSW; go_simp; try with_reducible rfl)
      try simp only [Act.put, List.getElem_toArray, List.getElem_cons_zero, List.getElem_cons_succ, List.setIfInBounds_toArray, List.set_cons_zero, List.set_cons_succ]
      refine wpAnyL_take (i := 15) (v := ?v9014) rfl (by kernel_rfl) (by kernel_rfl) (by kernel_rfl) (by kernel_rfl) (fun _ _ _ h => h) (Or.inl ⟨by kernel_rfl, ?hy9014⟩) (by assumption) ?r9014
      case hy9014 => (intro W hSW; obtain ⟨⟨s0, s1, s2, s3, s4⟩, t0, t1⟩ := hSW; go_simp; try with_reducible rfl)
      try simp only [Act.put, List.getElem_toArray, List.getElem_cons_zero, List.getElem_cons_succ, List.setIfInBounds_toArray, List.set_cons_zero, List.set_cons_succ]
      refine wpAnyL_take (i := 16) (v := ?v9015) rfl (by kernel_rfl) (by kernel_rfl) (by kernel_rfl) (by kernel_rfl) (fun _ _ _ h => h) (Or.inl ⟨by kernel_rfl, ?hy9015⟩) (by assumption) ?r9015
      case hy9015 => (intro W hSW; obtain ⟨⟨s0, s1, s2, s3, s4⟩, t0, t1⟩ := hSW; go_simp; try with_reducible rfl)
      try simp only [Act.put, List.getElem_toArray, List.getElem_cons_zero, List.getElem_cons_succ, List.setIfInBounds_toArray, List.set_cons_zero, List.set_cons_succ]
      refine wpAnyL_take (i := 18) (v := ?v9016) rfl (by kernel_rfl) (by kernel_rfl) (by kernel_rfl) (by kernel_rfl) (fun _ _ _ h => h) (Or.inl ⟨by kernel_rfl, ?hy9016⟩) (by assumption) ?r9016
      case hy9016 => (intro W hSW; obtain ⟨⟨s0, s1, s2, s3, s4⟩, t0, t1⟩ := hSW; go_simp; try with_reducible rfl)
      try simp only [Act.put, List.getElem_toArray, List.getElem_cons_zero, List.getElem_cons_succ, List.setIfInBounds_toArray, List.set_cons_zero, List.set_cons_succ]
      refine wpAnyL_take (i := 19) (v := ?v9017) rfl (by kernel_rfl) (by kernel_rfl) (by kernel_rfl) (by kernel_rfl) (fun _ _ _ h => h) (Or.inl ⟨by kernel_rfl, ?hy9017⟩) (by assumption) ?r9017
      case hy9017 => (intro W hSW; obtain ⟨⟨s0, s1, s2, s3, s4⟩, t0, t1⟩ := hSW; go_simp; try with_reducible rfl)
      try simp only [Act.put, List.getElem_toArray, List.getElem_cons_zero, List.getElem_cons_succ, List.setIfInBounds_toArray, List.set_cons_zero, List.set_cons_succ]
      refine wpAnyL_take (i := 20) (v := ?v9018) rfl (by kernel_rfl) (by kernel_rfl) (by kernel_rfl) (by kernel_rfl) (fun _ _ _ h => h) (Or.inl ⟨by kernel_rfl, ?hy9018⟩) (by assumption) ?r9018
      case hy9018 => (intro W hSW; obtain ⟨⟨s0, s1, s2, s3, s4⟩, t0, t1⟩ := hSW; go_simp; try with_reducible rfl)
      try simp only [Act.put, List.getElem_toArray, List.getElem_cons_zero, List.getElem_cons_succ, List.setIfInBounds_toArray, List.set_cons_zero, List.set_cons_succ]
      refine wpAnyL_take (i := 21) (v := ?v9019) rfl (by kernel_rfl) (by kernel_rfl) (by kernel_rfl) (by kernel_rfl) (fun _ _ _ h => h) (Or.inl ⟨by kernel_rfl, ?hy9019⟩) (by assumption) ?r9019
      case hy9019 => (intro W hSW; obtain ⟨⟨s0, s1, s2, s3, s4⟩, t0, t1⟩ := hSW; go_simp; try with_reducible rfl)
      try simp only [Act.put, List.getElem_toArray, List.getElem_cons_zero, List.getElem_cons_succ, List.setIfInBounds_toArray, List.set_cons_zero, List.set_cons_succ]
      refine wpAnyL_one (i := 17) (by kernel_rfl) rfl (by decide) (fun K hK => ?_)
      go_simp
      refine HA1.out.mono ?_
      rintro e W3 ⟨v3, rfl, hO, hF⟩
      obtain ⟨A3, c3, rfl, s33, -⟩ := hO.slT (T := fun _ => True) (fun _ _ => trivial) (fun y hy => hO.2 y hy)
      have hB3 := hB2.trans (hF.mono hB2.size)
      have hc3 := hc2.later hF
      have hh3 := hh2.later hF
      have hrc3 := hrc2.later hF
      have hrh3 := hrh2.later hF
      have aq3 := (hF.cell (p := ⟨q, 0, none⟩) hrh2.lt).trans aq2
      have ar3 := (hF.cell (p := ⟨r, 0, none⟩) hrc2.lt).trans ar2
      have sq3 := sq2.below_ hF
      have sr3 := sr2.below_ hF
      clear hF hB2 hc2 hh2 hrc2 hrh2 aq2 ar2 sq2 sr2 
      have HA1 := Lib.hid (same8_c _ _ A3 Aq c3 cq H2 W3 s33 sq3 Hh2)
      clear hO s33
      refine hK.out _ _ (⟨HSS.out _ hB3, aq3, ar3⟩) (fun hH => ?_)
      clear hK K
      try simp only [Act.put, List.getElem_toArray, List.getElem_cons_zero, List.getElem_cons_succ, List.setIfInBounds_toArray, List.set_cons_zero, List.set_cons_succ]
      refine wpAnyL_one (i := 22) (by kernel_rfl) rfl (by decide) (fun K hK => ?_)
      go_simp
      refine HA1.out.mono ?_
      rintro e W4 ⟨rfl, hF⟩
      have hB4 := hB3.trans (hF.mono hB3.size)
      have hc4 := hc3.later hF
      have hh4 := hh3.later hF
      have hrc4 := hrc3.later hF
      have hrh4 := hrh3.later hF
      have aq4 := (hF.cell (p := ⟨q, 0, none⟩) hrh3.lt).trans aq3
      have ar4 := (hF.cell (p := ⟨r, 0, none⟩) hrc3.lt).trans ar3
      have sq4 := sq3.below_ hF
      have sr4 := sr3.below_ hF
      clear hF hB3 hc3 hh3 hrc3 hrh3 aq3 ar3 sq3 sr3 
      have HA1 := Lib.hid (hoof_c gh bh H2 m[n].acct W4 hh4 HI2.out.okH Hh2)
      refine hK.out _ _ (⟨HSS.out _ hB4, aq4, ar4⟩) (fun hH => ?_)
      clear hK K
      try simp only [Act.put, List.getElem_toArray, List.getElem_cons_zero, List.getElem_cons_succ, List.setIfInBounds_toArray, List.set_cons_zero, List.set_cons_succ]
      refine wpAnyL_take (i := 23) (v := ?v9020) rfl (by kernel_rfl) (by kernel_rfl) (by kernel_rfl) (by kernel_rfl) (fun _ _ _ h => h) (Or.inl ⟨by kernel_rfl, ?hy9020⟩) (by assumption) ?r9020
      case hy9020 => (intro W hSW; obtain ⟨⟨s0, s1, s2, s3, s4⟩, t0, t1⟩ := hSW; go_simp; try with_reducible rfl)
      try simp only [Act.put, List.getElem_toArray, List.getElem_cons_zero, List.getElem_cons_succ, List.setIfInBounds_toArray, List.set_cons_zero, List.set_cons_succ]
      refine wpAnyL_take (i := 24) (v := ?v9021) rfl (by kernel_rfl) (by kernel_rfl) (by kernel_rfl) (by kernel_rfl) (fun _ _ _ h => h) (Or.inl ⟨by kernel_rfl, ?hy9021⟩) (by assumption) ?r9021
      case hy9021 => (intro W hSW; obtain ⟨⟨s0, s1, s2, s3, s4⟩, t0, t1⟩ := hSW; go_simp; try with_reducible rfl)
      try simp only [Act.put, List.getElem_toArray, List.getElem_cons_zero, List.getElem_cons_succ, List.setIfInBounds_toArray, List.set_cons_zero, List.set_cons_succ]
      refine wpAnyL_take (i := 25) (v := ?v9022) rfl (by kernel_rfl) (by kernel_rfl) (by kernel_rfl) (by kernel_rfl) (fun _ _ _ h => h) (Or.inl ⟨by kernel_rfl, ?hy9022⟩) (by assumption) ?r9022
      case hy9022 => (intro W hSW; obtain ⟨⟨s0, s1, s2, s3, s4⟩, t0, t1⟩ := hSW; go_simp; try with_reducible rfl)
      try simp only [Act.put, List.getElem_toArray, List.getElem_cons_zero, List.getElem_cons_succ, List.setIfInBounds_toArray, List.set_cons_zero, List.set_cons_succ]
      refine wpAnyL_take (i := 26) (v := ?v9023) rfl (by kernel_rfl) (by kernel_rfl) (by kernel_rfl) (by kernel_rfl) (fun _ _ _ h => h) (Or.inl ⟨by kernel_rfl, ?hy9023⟩) (by assumption) ?r9023
      case hy9023 => (intro W hSW; obtain ⟨⟨s0, s1, s2, s3, s4⟩, t0, t1⟩ := hSW; go_simp; try with_reducible rfl)
      try simp only [Act.put, List.getElem_toArray, List.getElem_cons_zero, List.getElem_cons_succ, List.setIfInBounds_toArray, List.set_cons_zero, List.set_cons_succ]
      refine wpAnyL_take (i := 27) (v := ?v9024) rfl (by kernel_rfl) (by kernel_rfl) (by kernel_rfl) (by kernel_rfl) (fun _ _ _ h => h) (Or.inl ⟨by kernel_rfl, ?hy9024⟩) (by assumption) ?r9024
      case hy9024 => (intro W hSW; obtain ⟨⟨s0, s1, s2, s3, s4⟩, t0, t1⟩ := hSW; go_simp; try with_reducible rfl)
      try simp only [Act.put, List.getElem_toArray, List.getElem_cons_zero, List.getElem_cons_succ, List.setIfInBounds_toArray, List.set_cons_zero, List.set_cons_succ]
      refine wpAnyL_take (i := 28) (v := ?v9025) rfl (by kernel_rfl) (by kernel_rfl) (by kernel_rfl) (by kernel_rfl) (fun _ _ _ h => h) (Or.inl ⟨by kernel_rfl, ?hy9025⟩) (by assumption) ?r9025
      case hy9025 => (intro W hSW; obtain ⟨⟨s0, s1, s2, s3, s4⟩, t0, t1⟩ := hSW; go_simp; try with_reducible rfl)
      try simp only [Act.put, List.getElem_toArray, List.getElem_cons_zero, List.getElem_cons_succ, List.setIfInBounds_toArray, List.set_cons_zero, List.set_cons_succ]
      refine wpAnyL_take (i := 29) (v := ?v9026) rfl (by kernel_rfl) (by kernel_rfl) (by kernel_rfl) (by kernel_rfl) (fun _ _ _ h => h) (Or.inl ⟨by kernel_rfl, ?hy9026⟩) (by assumption) ?r9026
      case hy9026 => (intro W hSW; obtain ⟨⟨s0, s1, s2, s3, s4⟩, t0, t1⟩ := hSW; go_simp; try with_reducible rfl)
      try simp only [Act.put, List.getElem_toArray, List.getElem_cons_zero, List.getElem_cons_succ, List.setIfInBounds_toArray, List.set_cons_zero, List.set_cons_succ]
      refine wpAnyL_take (i := 30) (v := ?v9027) rfl (by kernel_rfl) (by kernel_rfl) (by kernel_rfl) (by kernel_rfl) (fun _ _ _ h => h) (Or.inl ⟨by kernel_rfl, ?hy9027⟩) (by assumption) ?r9027
      case hy9027 => (intro W hSW; obtain ⟨⟨s0, s1, s2, s3, s4⟩, t0, t1⟩ := hSW; go_simp; try with_reducible rfl)
      try simp only [Act.put, List.getElem_toArray, List.getElem_cons_zero, List.getElem_cons_succ, List.setIfInBounds_toArray, List.set_cons_zero, List.set_cons_succ]
      refine wpAnyL_take (i := 31) (v := ?v9028) rfl (by kernel_rfl) (by kernel_rfl) (by kernel_rfl) (by kernel_rfl) (fun _ _ _ h => h) (Or.inl ⟨by kernel_rfl, ?hy9028⟩) (by assumption) ?r9028
      case hy9028 => (intro W hSW; obtain ⟨⟨s0, s1, s2, s3, s4⟩, t0, t1⟩ := hSW; go_simp; try with_reducible rfl)
      try simp only [Act.put, List.getElem_toArray, List.getElem_cons_zero, List.getElem_cons_succ, List.setIfInBounds_toArray, List.set_cons_zero, List.set_cons_succ]
      refine wpAnyL_take (i := 33) (v := ?v9029) rfl (by kernel_rfl) (by kernel_rfl) (by kernel_rfl) (by kernel_rfl) (fun _ _ _ h => h) (Or.inl ⟨by kernel_rfl, ?hy9029⟩) (by assumption) ?r9029
      case hy9029 => (intro W hSW; obtain ⟨⟨s0, s1, s2, s3, s4⟩, t0, t1⟩ := hSW; go_simp; try with_reducible rfl)
      try simp only [Act.put, List.getElem_toArray, List.getElem_cons_zero, List.getElem_cons_succ, List.setIfInBounds_toArray, List.set_cons_zero, List.set_cons_succ]
      refine wpAnyL_take (i := 34) (v := ?v9030) rfl (by kernel_rfl) (by kernel_rfl) (by kernel_rfl) (by kernel_rfl) (fun _ _ _ h => h) (Or.inl ⟨by kernel_rfl, ?hy9030⟩) (by assumption) ?r9030
      case hy9030 => (intro W hSW; obtain ⟨⟨s0, s1, s2, s3, s4⟩, t0, t1⟩ := hSW; go_simp; try with_reducible rfl)
      try simp only [Act.put, List.getElem_toArray, List.getElem_cons_zero, List.getElem_cons_succ, List.setIfInBounds_toArray, List.set_cons_zero, List.set_cons_succ]
      refine wpAnyL_take (i := 35) (v := ?v9031) rfl (by kernel_rfl) (by kernel_rfl) (by kernel_rfl) (by kernel_rfl) (fun _ _ _ h => h) (Or.inl ⟨by kernel_rfl, ?hy9031⟩) (by assumption) ?r9031
      case hy9031 => (intro W hSW; obtain ⟨⟨s0, s1, s2, s3, s4⟩, t0, t1⟩ := hSW; go_simp; try with_reducible rfl)
      try simp only [Act.put, List.getElem_toArray, List.getElem_cons_zero, List.getElem_cons_succ, List.setIfInBounds_toArray, List.set_cons_zero, List.set_cons_succ]
      refine wpAnyL_take (i := 36) (v := ?v9032) rfl (by kernel_rfl) (by kernel_rfl) (by kernel_rfl) (by kernel_rfl) (fun _ _ _ h => h) (Or.inl ⟨by kernel_rfl, ?hy9032⟩) (by assumption) ?r9032
      case hy9032 => (intro W hSW; obtain ⟨⟨s0, s1, s2, s3, s4⟩, t0, t1⟩ := hSW; go_simp; try with_reducible rfl)
      try simp only [Act.put, List.getElem_toArray, List.getElem_cons_zero, List.getElem_cons_succ, List.setIfInBounds_toArray, List.set_cons_zero, List.set_cons_succ]
      refine wpAnyL_take (i := 37) (v := ?v9033) rfl (by kernel_rfl) (by kernel_rfl) (by kernel_rfl) (by kernel_rfl) (fun _ _ _ h => h) (Or.inl ⟨by kernel_rfl, ?hy9033⟩) (by assumption) ?r9033
      case hy9033 => (intro W hSW; obtain ⟨⟨s0, s1, s2, s3, s4⟩, t0, t1⟩ := hSW; go_simp; try with_reducible rfl)
      try simp only [Act.put, List.getElem_toArray, List.getElem_cons_zero, List.getElem_cons_succ, List.setIfInBounds_toArray, List.set_cons_zero, List.set_cons_succ]
      refine wpAnyL_take (i := 38) (v := ?v9034) rfl (by kernel_rfl) (by kernel_rfl) (by kernel_rfl) (by kernel_rfl) (fun _ _ _ h => h) (Or.inl ⟨by kernel_rfl, ?hy9034⟩) (by assumption) ?r9034
      case hy9034 => (intro W hSW; obtain ⟨⟨s0, s1, s2, s3, s4⟩, t0, t1⟩ := hSW; go_simp; try with_reducible rfl)
      try simp only [Act.put, List.getElem_toArray, List.getElem_cons_zero, List.getElem_cons_succ, List.setIfInBounds_toArray, List.set_cons_zero, List.set_cons_succ]
      refine wpAnyL_one (i := 32) (by kernel_rfl) rfl (by decide) (fun K hK => ?_)
      go_simp
      refine HA1.out.mono ?_
      rintro e W5 ⟨v5, rfl, hO, hF⟩
      obtain ⟨A5, c5, rfl, so5, -⟩ := hO.slT (T := fun _ => True) (fun _ _ => trivial) (fun y hy => hO.2 y hy)
      have hB5 := hB4.trans (hF.mono hB4.size)
      have hc5 := hc4.later hF
      have hh5 := hh4.later hF
      have hrc5 := hrc4.later hF
      have hrh5 := hrh4.later hF
      have aq5 := (hF.cell (p := ⟨q, 0, none⟩) hrh4.lt).trans aq4
      have ar5 := (hF.cell (p := ⟨r, 0, none⟩) hrc4.lt).trans ar4
      have sq5 := sq4.below_ hF
      have sr5 := sr4.below_ hF
      clear hF hB4 hc4 hh4 hrc4 hrh4 aq4 ar4 sq4 sr4 
      have HA1 := Lib.hid (rhof_c (TP b bh r q) q H2 m[n].acct W5 hrh5 Hh2)
      clear hO
      refine hK.out _ _ (⟨HSS.out _ hB5, aq5, ar5⟩) (fun hH => ?_)
      clear hK K
      try simp only [Act.put, List.getElem_toArray, List.getElem_cons_zero, List.getElem_cons_succ, List.setIfInBounds_toArray, List.set_cons_zero, List.set_cons_succ]
      refine wpAnyL_one (i := 39) (by kernel_rfl) rfl (by decide) (fun K hK => ?_)
      go_simp
      refine HA1.out.mono ?_
      rintro e W6 ⟨v6, rfl, hO, hF⟩
      obtain ⟨A6, c6, rfl, sx6, -⟩ := hO.slT (T := fun _ => True) (fun _ _ => trivial) (fun y hy => hO.2 y hy)
      have hB6 := hB5.trans (hF.mono hB5.size)
      have hc6 := hc5.later hF
      have hh6 := hh5.later hF
      have hrc6 := hrc5.later hF
      have hrh6 := hrh5.later hF
      have aq6 := (hF.cell (p := ⟨q, 0, none⟩) hrh5.lt).trans aq5
      have ar6 := (hF.cell (p := ⟨r, 0, none⟩) hrc5.lt).trans ar5
      have sq6 := sq5.below_ hF
      have sr6 := sr5.below_ hF
      have so6 := so5.below_ hF
      clear hF hB5 hc5 hh5 hrc5 hrh5 aq5 ar5 sq5 sr5 so5
      have HA1 := Lib.hid (same8_c _ _ A5 A6 c5 c6 (ofL H2 m[n].acct) W6 so6 sx6 (Nat.le_trans (HI2.out.few _) (by decide)))
      clear hO so6 sx6
      refine hK.out _ _ (⟨HSS.out _ hB6, aq6, ar6⟩) (fun hH => ?_)
      clear hK K
      try simp only [Act.put, List.getElem_toArray, List.getElem_cons_zero, List.getElem_cons_succ, List.setIfInBounds_toArray, List.set_cons_zero, List.set_cons_succ]
      refine wpAnyL_one (i := 40) (by kernel_rfl) rfl (by decide) (fun K hK => ?_)
      go_simp
      refine HA1.out.mono ?_
      rintro e W7 ⟨rfl, hF⟩
      have hB7 := hB6.trans (hF.mono hB6.size)
      have hc7 := hc6.later hF
      have hh7 := hh6.later hF
      have hrc7 := hrc6.later hF
      have hrh7 := hrh6.later hF
      have aq7 := (hF.cell (p := ⟨q, 0, none⟩) hrh6.lt).trans aq6
      have ar7 := (hF.cell (p := ⟨r, 0, none⟩) hrc6.lt).trans ar6
      have sq7 := sq6.below_ hF
      have sr7 := sr6.below_ hF
      clear hF hB6 hc6 hh6 hrc6 hrh6 aq6 ar6 sq6 sr6 
      have HA1 := Lib.hid (challA_c g b L2 W7 hc7 HI2.out.okA (by have := HlA.out; omega))
      refine hK.out _ _ (⟨HSS.out _ hB7, aq7, ar7⟩) (fun hH => ?_)
      clear hK K
      try simp only [Act.put, List.getElem_toArray, List.getElem_cons_zero, List.getElem_cons_succ, List.setIfInBounds_toArray, List.set_cons_zero, List.set_cons_succ]
      refine wpAnyL_take (i := 41) (v := ?v9035) rfl (by kernel_rfl) (by kernel_rfl) (by kernel_rfl) (by kernel_rfl) (fun _ _ _ h => h) (Or.inl ⟨by kernel_rfl, ?hy9035⟩) (by assumption) ?r9035
      case hy9035 => (intro W hSW; obtain ⟨⟨s0, s1, s2, s3, s4⟩, t0, t1⟩ := hSW; go_simp; try with_reducible rfl)
      try simp only [Act.put, List.getElem_toArray, List.getElem_cons_zero, List.getElem_cons_succ, List.setIfInBounds_toArray, List.set_cons_zero, List.set_cons_succ]
      refine wpAnyL_take (i := 42) (v := ?v9036) rfl (by kernel_rfl) (by kernel_rfl) (by kernel_rfl) (by kernel_rfl) (fun _ _ _ h => h) (Or.inl ⟨by kernel_rfl, ?hy9036⟩) (by assumption) ?r9036
      case hy9036 => (intro W hSW; obtain ⟨⟨s0, s1, s2, s3, s4⟩, t0, t1⟩ := hSW; go_simp; try with_reducible rfl)
      try simp only [Act.put, List.getElem_toArray, List.getElem_cons_zero, List.getElem_cons_succ, List.setIfInBounds_toArray, List.set_cons_zero, List.set_cons_succ]
      refine wpAnyL_take (i := 43) (v := ?v9037) rfl (by kernel_rfl) (by kernel_rfl) (by kernel_rfl) (by kernel_rfl) (fun _ _ _ h => h) (Or.inl ⟨by kernel_rfl, ?hy9037⟩) (by assumption) ?r9037
      case hy9037 => (intro W hSW; obtain ⟨⟨s0, s1, s2, s3, s4⟩, t0, t1⟩ := hSW; go_simp; try with_reducible rfl)
      try simp only [Act.put, List.getElem_toArray, List.getElem_cons_zero, List.getElem_cons_succ, List.setIfInBounds_toArray, List.set_cons_zero, List.set_cons_succ]
      refine wpAnyL_take (i := 44) (v := ?v9038) rfl (by kernel_rfl) (by kernel_rfl) (by kernel_rfl) (by kernel_rfl) (fun _ _ _ h => h) (Or.inl ⟨by kernel_rfl, ?hy9038⟩) (by assumption) ?r9038
      case hy9038 => (intro W hSW; obtain ⟨⟨s0, s1, s2, s3, s4⟩, t0, t1⟩ := hSW; go_simp; try with_reducible rfl)
      try simp only [Act.put, List.getElem_toArray, List.getElem_cons_zero, List.getElem_cons_succ, List.setIfInBounds_toArray, List.set_cons_zero, List.set_cons_succ]
      refine wpAnyL_take (i := 46) (v := ?v9039) rfl (by kernel_rfl) (by kernel_rfl) (by kernel_rfl) (by kernel_rfl) (fun _ _ _ h => h) (Or.inl ⟨by kernel_rfl, ?hy9039⟩) (by assumption) ?r9039
      case hy9039 => (intro W hSW; obtain ⟨⟨s0, s1, s2, s3, s4⟩, t0, t1⟩ := hSW; go_simp; try with_reducible rfl)
      try simp only [Act.put, List.getElem_toArray, List.getElem_cons_zero, List.getElem_cons_succ, List.setIfInBounds_toArray, List.set_cons_zero, List.set_cons_succ]
      refine wpAnyL_take (i := 47) (v := ?v9040) rfl (by kernel_rfl) (by kernel_rfl) (by kernel_rfl) (by kernel_rfl) (fun _ _ _ h => h) (Or.inl ⟨by kernel_rfl, ?hy9040⟩) (by assumption) ?r9040
      case hy9040 => (intro W hSW; obtain ⟨⟨s0, s1, s2, s3, s4⟩, t0, t1⟩ := hSW; go_simp; try with_reducible rfl)
      try simp only [Act.put, List.getElem_toArray, List.getElem_cons_zero, List.getElem_cons_succ, List.setIfInBounds_toArray, List.set_cons_zero, List.set_cons_succ]
      refine wpAnyL_take (i := 48) (v := ?v9041) rfl (by kernel_rfl) (by kernel_rfl) (by kernel_rfl) (by kernel_rfl) (fun _ _ _ h => h) (Or.inl ⟨by kernel_rfl, ?hy9041⟩) (by assumption) ?r9041
      case hy9041 => (intro W hSW; obtain ⟨⟨s0, s1, s2, s3, s4⟩, t0, t1⟩ := hSW; go_simp; try with_reducible rfl)
      try simp only [Act.put, List.getElem_toArray, List.getElem_cons_zero, List.getElem_cons_succ, List.setIfInBounds_toArray, List.set_cons_zero, List.set_cons_succ]
      refine wpAnyL_take (i := 49) (v := ?v9042) rfl (by kernel_rfl) (by kernel_rfl) (by kernel_rfl) (by kernel_rfl) (fun _ _ _ h => h) (Or.inl ⟨by kernel_rfl, ?hy9042⟩) (by assumption) ?r9042
      case hy9042 => (intro W hSW; obtain ⟨⟨s0, s1, s2, s3, s4⟩, t0, t1⟩ := hSW; go_simp; try with_reducible rfl)
      try simp only [Act.put, List.getElem_toArray, List.getElem_cons_zero, List.getElem_cons_succ, List.setIfInBounds_toArray, List.set_cons_zero, List.set_cons_succ]
      refine wpAnyL_one (i := 45) (by kernel_rfl) rfl (by decide) (fun K hK => ?_)
      go_simp
      refine HA1.out.mono ?_
      rintro e W8 ⟨v8, rfl, hO, hF⟩
      obtain ⟨A8, c8, rfl, sx8, -⟩ := hO.slT (T := fun _ => True) (fun _ _ => trivial) (fun y hy => hO.2 y hy)
      have hB8 := hB7.trans (hF.mono hB7.size)
      have hc8 := hc7.later hF
      have hh8 := hh7.later hF
      have hrc8 := hrc7.later hF
      have hrh8 := hrh7.later hF
      have aq8 := (hF.cell (p := ⟨q, 0, none⟩) hrh7.lt).trans aq7
      have ar8 := (hF.cell (p := ⟨r, 0, none⟩) hrc7.lt).trans ar7
      have sq8 := sq7.below_ hF
      have sr8 := sr7.below_ hF
      clear hF hB7 hc7 hh7 hrc7 hrh7 aq7 ar7 sq7 sr7 
      have HA1 := Lib.hid (rsame5_c _ _ A8 Ar c8 cr L2 L2 W8 sx8 sr8 (by have := HlA.out; omega) (by have := HlA.out; omega))
      rw [show decide (L2 = L2) = true from decide_eq_true rfl] at HA1
      clear hO sx8
      refine hK.out _ _ (⟨HSS.out _ hB8, aq8, ar8⟩) (fun hH => ?_)
      clear hK K
      try simp only [Act.put, List.getElem_toArray, List.getElem_cons_zero, List.getElem_cons_succ, List.setIfInBounds_toArray, List.set_cons_zero, List.set_cons_succ]
      refine wpAnyL_one (i := 50) (by kernel_rfl) rfl (by decide) (fun K hK => ?_)
      go_simp
      refine HA1.out.mono ?_
      rintro e W9 ⟨rfl, hF⟩
      have hB9 := hB8.trans (hF.mono hB8.size)
      have hc9 := hc8.later hF
      have hh9 := hh8.later hF
      have hrc9 := hrc8.later hF
      have hrh9 := hrh8.later hF
      have aq9 := (hF.cell (p := ⟨q, 0, none⟩) hrh8.lt).trans aq8
      have ar9 := (hF.cell (p := ⟨r, 0, none⟩) hrc8.lt).trans ar8
      have sq9 := sq8.below_ hF
      have sr9 := sr8.below_ hF
      clear hF hB8 hc8 hh8 hrc8 hrh8 aq8 ar8 sq8 sr8 
      clear HA1
      refine hK.out _ _ (⟨HSS.out _ hB9, aq9, ar9⟩) (fun hH => ?_)
      clear hK K
      try simp only [Act.put, List.getElem_toArray, List.getElem_cons_zero, List.getElem_cons_succ, List.setIfInBounds_toArray, List.set_cons_zero, List.set_cons_succ]
      refine wpAnyL_take (i := 51) (v := ?v9043) rfl (by kernel_rfl) (by kernel_rfl) (by kernel_rfl) (by kernel_rfl) (fun _ _ _ h => h) (Or.inl ⟨by kernel_rfl, ?hy9043⟩) (by assumption) ?r9043
      case hy9043 => (intro W hSW; obtain ⟨⟨s0, s1, s2, s3, s4⟩, t0, t1⟩ := hSW; go_simp; try with_reducible rfl)
      try simp only [Act.put, List.getElem_toArray, List.getElem_cons_zero, List.getElem_cons_succ, List.setIfInBounds_toArray, List.set_cons_zero, List.set_cons_succ]
      refine wpAnyL_last (by kernel_rfl) rfl (fun K hK => ?_)
      go_simp
      refine hK.out _ _ ?_
      clear hK K
      try simp only [Act.put, List.getElem_toArray, List.getElem_cons_zero, List.getElem_cons_succ, List.setIfInBounds_toArray, List.set_cons_zero, List.set_cons_succ]
      refine wpAnyL_done (by kernel_rfl) ?_ _
      refine NoPanic.normal ?_
      go_wp2
      go_roundw
      case rel => exact ⟨n + 1, L2, H2, by go_num, by have := Hlt.out; omega, hc9, hh9, hrc9, hrh9, HI2.out, HlH.out, HlA.out, hB9⟩
      case measure => simp [intOf]; have := Hlt.out; omega
    · have g1 : decide ((n : Int) < (m.length : Int)) = false := decide_eq_false (by omega)
      have g2 : decide (n < m.length) = false := decide_eq_false hlt
      go_wp2
      go_ret
      exact ⟨rfl, hB⟩
end Go.Proofs.YtmljlkjomjflpaaGreat
