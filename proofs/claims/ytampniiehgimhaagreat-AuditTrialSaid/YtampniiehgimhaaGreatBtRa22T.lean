/- ref22.Trial -/
import Derived.Test.YtampniiehgimhaaGreatRows
import Derived.Test.YtampniiehgimhaaGreatBtRa22B
import Derived.Test.YtampniiehgimhaaGreatBs13
import Derived.Test.YtampniiehgimhaaGreatBs4
import Derived.Test.YtampniiehgimhaaGreatBs5
import Derived.Test.YtampniiehgimhaaGreatBt32
import Derived.Deep.Cut
import Derived.Deep.CutBlock
import Derived.WalkKit
import Derived.WalkSpells
import Derived.WalkLawsBesides
import Derived.Deep.QuietTactic
import Derived.BigQuiet
import Derived.Laws.StructEq
import Derived.Deep.DeepFit
import Derived.StillTailTactics
import Derived.Test.YtampniiehgimhaaGreatBtX

namespace Go.Proofs.YtampniiehgimhaaGreat
open Go.RowKit
theorem nosrt {N : List ByteArray} (hs : SrtL bless N) {a : ByteArray} {j : Nat} (hj : j < N.length) (h : bless a N[j] = true) : ∀ i (hi : i < N.length), j ≤ i → bless a N[i] = true := fun i hi hji => by
  rcases Nat.lt_or_eq_of_le hji with h1 | h1
  · exact bless_strict.trans _ _ _ h (List.pairwise_iff_getElem.1 hs j i hj hi h1)
  · subst h1; exact h
/-- the place where a name goes in -/
theorem addN_ins {N : List ByteArray} (hs : SrtL bless N) {a : ByteArray} {i : Nat} (hi : i ≤ N.length) (hup : ∀ j (h : j < N.length), i ≤ j → bless a N[j] = true) (hlo : ∀ (_ : 0 < i) (h : i - 1 < N.length), bless a N[i - 1] = false ∧ N[i - 1] ≠ a) : addN N a = N.take i ++ [a] ++ N.drop i := by
  have hlow : ∀ j (h : j < N.length), j < i → bless N[j] a = true := fun j h hj => by
    have h1 : i - 1 < N.length := by omega
    obtain ⟨p1, p2⟩ := hlo (by omega) h1
    have h2 : bless N[i - 1] a = true := by
      cases hb : bless N[i - 1] a with
      | true => rfl
      | false => exact absurd (bless_tri hb p1) p2
    rcases Nat.lt_or_ge j (i - 1) with h3 | h3
    · exact bless_strict.trans _ _ _ (List.pairwise_iff_getElem.1 hs j (i - 1) h h1 h3) h2
    · obtain rfl : j = i - 1 := by omega
      exact h2
  have hno : a ∉ N := fun hm => by
    obtain ⟨j, hj, e⟩ := List.getElem_of_mem hm
    rcases Nat.lt_or_ge j i with h1 | h1
    · have := hlow j hj h1; rw [e, bless_strict.irr] at this; cases this
    · have := hup j hj h1; rw [e, bless_strict.irr] at this; cases this
  have hh : hasN N a = false := by
    cases hb : hasN N a with
    | false => rfl
    | true => exact absurd (hasN_iff.1 hb) hno
  unfold addN
  rw [if_neg (by rw [hh]; decide), insB_at bless_strict a N i hs hi hlow (fun j h hj => bless_asymm (hup j h hj)), List.append_assoc]
  rfl
theorem addN_skip {N : List ByteArray} {a : ByteArray} {i : Nat} (h : i < N.length) (e : N[i] = a) : addN N a = N := if_pos (hasN_iff.2 (e ▸ List.getElem_mem h))
/-- the legs of moves up to a period -/
def legsP (M : List Rv) (p : Int) : List Leg := M.flatMap fun x => if x.period ≤ p then x.legs else []
def legP (x : Rv) (p : Int) (q : Nat) : List Leg := if x.period ≤ p then x.legs.take q else []
theorem legsP_snoc {M : List Rv} {j : Nat} (hj : j < M.length) (p : Int) : legsP (M.take (j + 1)) p = legsP (M.take j) p ++ legP M[j] p M[j].legs.length := by
  unfold legsP legP
  rw [List.take_succ_eq_append_getElem hj, List.flatMap_append, List.take_length]
  simp
theorem legsP_eq (p : Int) : ∀ M : List Rv, (∀ x ∈ M, 0 ≤ x.period) → legsP M p = legsN M 0 p
  | [], _ => rfl
  | x :: M, h => by
    show (if x.period ≤ p then x.legs else []) ++ legsP M p = (if 0 ≤ x.period ∧ x.period ≤ p then x.legs else []) ++ legsN M 0 p
    rw [legsP_eq p M (fun y hy => h y (List.mem_cons_of_mem _ hy))]
    by_cases h1 : x.period ≤ p
    · rw [if_pos h1, if_pos ⟨h x (List.mem_cons_self ..), h1⟩]
    · rw [if_neg h1, if_neg (fun e => h1 e.2)]
theorem legP_len (x : Rv) (p : Int) (q : Nat) (h : x.legs.length ≤ 1000) : (legP x p q).length ≤ 1000 := by
  unfold legP
  split
  · rw [List.length_take]; omega
  · exact Nat.zero_le _
theorem legsP_len {n : Nat} (p : Int) (M : List Rv) (h : ∀ x ∈ M, x.legs.length ≤ n) : (legsP M p).length ≤ M.length * n :=
  flat_le _ n M fun x hx => by
    split
    · exact h x hx
    · exact Nat.zero_le _
theorem legP_snoc {x : Rv} {p : Int} (h : x.period ≤ p) {q : Nat} (hq : q < x.legs.length) : legP x p (q + 1) = legP x p q ++ [x.legs[q]] := by
  unfold legP
  rw [if_pos h, if_pos h, List.take_succ_eq_append_getElem hq]
theorem rlnInfo : (Tryz.prog.info? 105).map (fun i => (i.zero, i.size, i.bytes)) = some (some (.agg #[.string ByteArray.empty, i64 0, i64 0]), Enc.size Ln, 32) := by kernel_rfl
set_option maxRecDepth 100000 in
set_option maxHeartbeats 16000000 in
theorem rtrial_c (A : Option Addr) (c : Nat) (l : List Od) (p : Int) (w : World) (h : Sl w w.heap.size A c l) (hx : ∀ x ∈ l, OdB x) (hl : ∀ x ∈ l, x.legs.length ≤ 65536) (hn : l.length ≤ 80) :
    Calls Tryz.prog 50 #[.slice A l.length c, i64 p] w fun e w' => ∃ v, e = .returned (.tuple #[v, i64 (trialL (legsR (movedL l) 0 p)).2]) ∧ Own w' w.heap.size 105 v (trialL (legsR (movedL l) 0 p)).1 ∧ Below w.heap.size w w' := by
  have hN := Lib.hid (rmoves_c A c l w h hx hl (by omega))
  have HM := Lib.hid (fun (M : List Rv) (hM : M.map Rv.core = (movedL l).map coreN) => And.intro (moves_legs hx hM) (And.intro (moves_len hM) (And.intro (fun k up => part_sums hx hM k 0 p up) (And.intro (fun k up => part_len hx hM k 0 p up) (And.intro (legsN_eq M _ hM 0 p) (show legsP M p = legsR (movedL l) 0 p from by
    rw [legsP_eq p M (fun x hxm => by
      obtain ⟨y, hy, _, e⟩ := core_mem hM hxm
      have := (movedL_mem hx hy).2.fits.2.2.1
      omega), legsN_eq M _ hM]))))))
  clear h hx hl
  generalize legsR (movedL l) 0 p = Z at *
  have Hbad := Lib.hid (fun k (hk : k ∈ namesL Z) => trial_bad hk)
  have Hgood := Lib.hid (trial_good (ls := Z))
  generalize trialL Z = R at *
  go_enter Tryz.func50, Tryz.ntmps50
  go_wp2_with fail
  refine hN.out.mono ?_
  rintro e w1 ⟨v, M, rfl, hM, hO, hF⟩
  obtain ⟨AM, cM, rfl, sM⟩ := hO.sl
  obtain ⟨Hl0, q2, q3, q4, q6, q5⟩ := HM.out M hM
  have hM1 : M.length ≤ 1000 := by omega
  have hMc : M.length ≤ cM := sM.1
  have hw1 := hF
  have Hl := Lib.hid Hl0
  have H := Lib.hid sM
  have HZ := Lib.hid q5
  have he1 : ∀ k, partL M k 0 p true = inK Z k := fun k => by rw [partL_eq, pK_true, q6]
  have he2 : ∀ k, partL M k 0 p false = outK Z k := fun k => by rw [partL_eq, pK_false, q6]
  have HPi0 := fun k W (hW : Sl W W.heap.size AM cM M) => rpart_c AM cM M k 0 p true W hW hM1 Hl0
  have HPo0 := fun k W (hW : Sl W W.heap.size AM cM M) => rpart_c AM cM M k 0 p false W hW hM1 Hl0
  simp only [he1] at HPi0
  simp only [he2] at HPo0
  have HPi := Lib.hid HPi0
  have HPo := Lib.hid HPo0
  have Hil := Lib.hid (show ∀ k, (inK Z k).length ≤ 6 * l.length from fun k => he1 k ▸ q4 k true)
  have Hol := Lib.hid (show ∀ k, (outK Z k).length ≤ 6 * l.length from fun k => he2 k ▸ q4 k false)
  have Hir := Lib.hid (show ∀ k, ∀ n ∈ inK Z k, R64 n from fun k => he1 k ▸ q3 k true)
  have Hor := Lib.hid (show ∀ k, ∀ n ∈ outK Z k, R64 n from fun k => he2 k ▸ q3 k false)
  have hZl : Z.length ≤ 1000000 := by
    rw [← q5]
    have h1 := legsP_len (n := 1000) p M Hl0
    have h2 : M.length * 1000 ≤ 1000 * 1000 := Nat.mul_le_mul_right _ hM1
    omega
  clear hN HM hO hF hM q3 q4 q5 q6 sM Hl0 he1 he2 HPi0 HPo0
  go_upto_block 0 with fail
  go_cut [7, 8] from 22 to 106 (fun s7 _ wx => Own wx w1.heap.size 9 s7 (namesL Z) ∧ Below w1.heap.size w1 wx)
  case first =>
   go_wp2_with fail
   go_loopw [7, 8] (fun v i wr => ∃ j : Nat, i = i64 j ∧ j ≤ M.length ∧ Own wr w1.heap.size 9 v (namesL (legsP (M.take j) p)) ∧ Below w1.heap.size w1 wr) (fun _ i _ => M.length - (intOf i).toNat)
   case atStart => exact ⟨0, rfl, Nat.zero_le _, Own.nil_ _ _ _, Below.refl _ _⟩
   case round =>
    obtain ⟨j, rfl, hj, hO, hb⟩ := hrel
    by_cases hlt : j < M.length
    · have g1 : decide ((j : Int) < (M.length : Int)) = true := decide_eq_true (by omega)
      have g2 : decide (j < M.length) = true := decide_eq_true hlt
      have i0 : (0 : Int) ≤ (j : Int) := by omega
      have i1 : (j : Int) < (M.length : Int) := by omega
      have Hrv := Lib.hid (fun V (hV : Below w1.heap.size w1 V) => (H.out.below hV).rv hlt)
      obtain ⟨b, o, hAM, -, -, -⟩ := Hrv.out wr hb
      subst hAM
      have Hj := Lib.hid (legsP_snoc hlt p)
      have hxl := Hl.out M[j] (List.getElem_mem hlt)
      have HBl := Lib.hid (show (legsP (M.take j) p).length ≤ 1000000 by
        have h1 := legsP_len (n := 1000) p (M.take j) (fun x hx => Hl.out x (List.mem_of_mem_take hx))
        rw [List.length_take] at h1
        have h2 : min j M.length * 1000 ≤ 1000 * 1000 := Nat.mul_le_mul_right _ (by omega)
        omega)
      generalize legsP (M.take j) p = base at *
      obtain ⟨x, hxk⟩ : ∃ x, M[j] = x := ⟨_, rfl⟩
      simp only [hxk] at Hj hxl
      have HC := Lib.hid (show ∀ V, Below w1.heap.size w1 V → V.cell? ⟨b, o + j * 5 + 2, none⟩ = some (i64 x.period) ∧ V.cell? ⟨b, o + j * 5 + 3, none⟩ = some (.slice x.la x.legs.length x.lc) ∧ SlS V (fun p => p < w1.heap.size) x.la x.lc x.legs from fun V hV => by
        obtain ⟨b', o', hA, -, hok, -, -, c2, c3, -⟩ := Hrv.out V hV
        injection hA with hA
        injection hA with hA1 hA2
        subst hA1 hA2
        rw [hxk] at c2 c3 hok
        exact ⟨c2, c3, hok.legs⟩)
      have HP0 := Lib.hid (show legP x p 0 = [] by unfold legP; rw [List.take_zero]; split <;> rfl)
      have hO0 : Own wr w1.heap.size 9 _ (namesL (base ++ legP x p 0)) := (by rw [HP0.out, List.append_nil]; exact hO)
      clear hxk hO Hrv
      go_wp2_with fail
      go_loopw [7, 9] (fun v i wl => ∃ q : Nat, i = i64 q ∧ q ≤ x.legs.length ∧ Own wl w1.heap.size 9 v (namesL (base ++ legP x p q)) ∧ Below w1.heap.size w1 wl) (fun _ i _ => x.legs.length - (intOf i).toNat)
      case atStart => exact ⟨0, rfl, Nat.zero_le _, hO0, hb⟩
      case round =>
        clear hO0 hb
        obtain ⟨wl, rfl⟩ : ∃ wl, wl = wr := ⟨wr, rfl⟩
        obtain ⟨q, rfl, hq, hO, hb⟩ := hrel
        obtain ⟨d2, d3, hlg⟩ := HC.out wl hb
        have hlgc : x.legs.length ≤ x.lc := hlg.1
        by_cases hqt : q < x.legs.length
        · have g3 : decide ((q : Int) < (x.legs.length : Int)) = true := decide_eq_true (by omega)
          have g4 : decide (q < x.legs.length) = true := decide_eq_true hqt
          have j0 : (0 : Int) ≤ (q : Int) := by omega
          have j1 : (q : Int) < (x.legs.length : Int) := by omega
          by_cases h2 : x.period ≤ p
          · have e2 : decide (x.period ≤ p) = true := decide_eq_true h2
            obtain ⟨b2, o2, hA2, -, hyk, l0, -⟩ := hlg.leg hqt
            have Hnx := Lib.hid (show namesL (base ++ legP x p (q + 1)) = addN (namesL (base ++ legP x p q)) x.legs[q].acct by rw [legP_snoc h2 hqt, ← List.append_assoc, namesL_snoc])
            have hNl : (namesL (base ++ legP x p q)).length ≤ 1001000 := by
              have h3 := namesL_len (base ++ legP x p q)
              rw [List.length_append] at h3
              have h4 := legP_len x p q hxl
              have := HBl.out
              omega
            have HNs := Lib.hid (namesL_srt (base ++ legP x p q))
            have HLg := Lib.hid (show ∀ V, Below wl.heap.size wl V → V.cell? ⟨b, o + j * 5 + 3, none⟩ = some (.slice (some ⟨b2, o2, none⟩) x.legs.length x.lc) ∧ V.cell? ⟨b2, o2 + q * 2, none⟩ = some (.string x.legs[q].acct) from fun V hV => by
              obtain ⟨-, k3, kg⟩ := HC.out V (hb.trans (hV.mono hb.size))
              obtain ⟨b2', o2', hA', -, -, m0, -⟩ := kg.leg hqt
              rw [hA2] at hA' k3
              injection hA' with hA'
              injection hA' with hA1 hA3
              subst hA1 hA3
              exact ⟨k3, m0⟩)
            rw [hA2] at d3
            obtain ⟨AN, cN, rfl, sN⟩ := hO.sl
            have hNc : (namesL (base ++ legP x p q)).length ≤ cN := sN.1
            have hNk : ∀ z ∈ namesL (base ++ legP x p q), z.size ≤ maxLen := sN.2.2.2
            generalize namesL (base ++ legP x p q) = N at *
            generalize x.legs[q] = y at *
            have Hya := Lib.hid (show y.acct.size ≤ maxLen from hyk)
            have HNk := Lib.hid hNk
            have HsN := Lib.hid sN
            have Hwl := Lib.hid hb
            have HON := Lib.hid hO
            clear h2 hlg hyk hNk sN hO
            go_upto_block 4 with fail
            go_cut [10] from 48 to 69 (fun s10 wx => ∃ i : Nat, s10 = i64 i ∧ i ≤ N.length ∧ Hid (∀ j (h : j < N.length), i ≤ j → bless y.acct N[j] = true) ∧ Hid (∀ (_ : 0 < i) (h : i - 1 < N.length), bless y.acct N[i - 1] = false) ∧ Below wl.heap.size wl wx)
            case first =>
              go_wp2_with fail
              go_loopw [10] (fun iv wi => ∃ i : Nat, iv = i64 i ∧ i ≤ N.length ∧ Hid (∀ j (h : j < N.length), i ≤ j → bless y.acct N[j] = true) ∧ Below wl.heap.size wl wi) (fun iv _ => (intOf iv).toNat)
              case atStart => exact ⟨N.length, rfl, Nat.le_refl _, Lib.hid (fun j h hj => absurd h (by omega)), Below.refl _ _⟩
              case round =>
                obtain ⟨i, rfl, hi, Hup, hbi⟩ := hrel
                by_cases h0 : i = 0
                · subst h0
                  have g8 : decide (((0 : Nat) : Int) > 0) = false := rfl
                  as_aux_lemma =>
                  go_upto_region 10 with fail
                  refine wp_region_noPanic ?_
                  refine wp_region_l 18 (fun _ => True) (by kernel_rfl) (trivial) (fun hH => ?_)
                  refine tkZ 0 ?_; refine tkZ 1 ?_; refine tkZ 2 ?_; refine tkM 3 ?_; refine tkM 4 ?_; refine tkM 5 ?_; refine tkM 6 ?_; refine tkM 7 ?_; refine tkM 8 ?_; refine tkM 9 ?_; refine tkM 10 ?_; refine tkM 11 ?_; refine tkM 12 ?_; refine tkM 13 ?_; refine tkM 14 ?_; refine tkM 15 ?_; refine tkM 16 ?_; refine tkM 17 ?_
                  refine tkL (fun K hK => ?_)
                  go_simp
                  refine hK.out _ _ ?_
                  clear hK K
                  try simp only [Act.put, uA, uZ, uS, vA, vZ, vS]
                  refine tkD ?_
                  clear hH
                  go_wp2
                  go_meet
                  exact ⟨0, rfl, by omega, Hup, Lib.hid (fun h => absurd h (by omega)), hbi.drew⟩
                · obtain ⟨m, hm⟩ : ∃ m, i = m + 1 := ⟨i - 1, by omega⟩
                  have hmN : m < N.length := by omega
                  have g8 : decide ((i : Int) > 0) = true := decide_eq_true (by omega)
                  have g9 : decide (0 < i) = true := decide_eq_true (by omega)
                  have g10 : decide (0 < (i : Int)) = true := decide_eq_true (by omega)
                  have p0 : (0 : Int) ≤ (m : Int) := by omega
                  have p1 : (m : Int) < (N.length : Int) := by omega
                  have ew : IntKind.i64.wrap ((i : Int) - 1) = (m : Int) := by rw [IntKind.wrap_i64]; omega
                  have ew2 : wrap64 ((i : Int) - 1) = (m : Int) := by rw [← IntWalk.i64_left]; exact ew
                  have Hm := Lib.hid hm
                  obtain ⟨bn, on, hAN, -, -⟩ := HsN.out.2.2.1 (by omega)
                  subst hAN
                  have Hlast := Lib.hid (show bless y.acct N[m] = false → ∀ (_ : 0 < i) (h : i - 1 < N.length), bless y.acct N[i - 1] = false from fun h _ h1 => by
                    have e : i - 1 = m := by omega
                    simp only [e]; exact h)
                  have Hgo := Lib.hid (show bless y.acct N[m] = true → ∀ j (h : j < N.length), m ≤ j → bless y.acct N[j] = true from fun h => nosrt HNs.out hmN h)
                  have hRa0 := fun W => rahead_c y.acct N[m] Hya.out (HNk.out _ (List.getElem_mem hmN)) W
                  have HSn := Lib.hid (show ∀ V, Below wl.heap.size wl V → V.cell? ⟨bn, on + m, none⟩ = some (.string N[m]) from fun V hV => by
                    obtain ⟨bn', on', hA, -, -, hc⟩ := (HsN.out.later hV).at_ hmN
                    injection hA with hA
                    injection hA with hA1 hA2
                    subst hA1 hA2
                    have := hc 0 _ rfl
                    rw [show Enc.size ByteArray = 1 from rfl] at this
                    simpa using this)
                  generalize N[m] = z at *
                  have HS := Lib.hid (show ∀ V, Below wl.heap.size wl V → (fun V : World => V.cell? ⟨b, o + j * 5 + 3, none⟩ = some (.slice (some ⟨b2, o2, none⟩) x.legs.length x.lc) ∧ V.cell? ⟨b2, o2 + q * 2, none⟩ = some (.string y.acct) ∧ V.cell? ⟨bn, on + m, none⟩ = some (.string z)) V from fun V hV => ⟨(HLg.out V hV).1, (HLg.out V hV).2, HSn.out V hV⟩)
                  clear hm h0 HSn
                  cases hbz : bless y.acct z
                  · rw [hbz] at hRa0
                    have hRa := Lib.hid hRa0
                    have HL2 := Lib.hid (Hlast.out hbz)
                    clear hRa0 Hlast Hgo hbz
                    as_aux_lemma =>
                    go_upto_region 10 with fail
                    refine wp_region_noPanic ?_
                    refine wp_region_l 18 (fun V : World => V.cell? ⟨b, o + j * 5 + 3, none⟩ = some (.slice (some ⟨b2, o2, none⟩) x.legs.length x.lc) ∧ V.cell? ⟨b2, o2 + q * 2, none⟩ = some (.string y.acct) ∧ V.cell? ⟨bn, on + m, none⟩ = some (.string z)) (by kernel_rfl) (HS.out _ hbi.drew) (fun hH => ?_)
                    refine tkZ 0 ?_; refine tkZ 1 ?_; refine tkZ 2 ?_; refine tkZ 3 ?_; refine tkZ 4 ?_; refine tkZ 5 ?_; refine tkZ 6 ?_; refine tkZ 7 ?_; refine tkZ 8 ?_; refine tkZ 9 ?_; refine tkZ 10 ?_; refine tkZ 11 ?_; refine tkZ 12 ?_; refine tkZ 13 ?_; refine tkZ 14 ?_; refine tkZ 15 ?_; refine tkZ 16 ?_
                    refine tkO 17 (fun K hK => ?_)
                    refine oper_call2 93 59 64 _ rfl _ _ rfl rfl (enters_of Tryz.func93 (by kernel_rfl) rfl) ?_
                    refine (hRa.out _).mono ?_
                    rintro e w5 ⟨rfl, hF⟩
                    refine ⟨_, rfl, ?_⟩
                    have hb5 := below_on hbi.drew (Nat.le_refl _) hF
                    clear hF
                    refine hK.out _ _ (HS.out _ hb5) (fun hH => ?_)
                    clear hK K
                    try simp only [Act.put, uA, uZ, uS, vA, vZ, vS]
                    refine tkL (fun K hK => ?_)
                    go_simp
                    refine hK.out _ _ ?_
                    clear hK K
                    try simp only [Act.put, uA, uZ, uS, vA, vZ, vS]
                    refine tkD ?_
                    clear hH HS
                    go_wp2
                    go_meet
                    exact ⟨i, rfl, by omega, Hup, HL2, hb5⟩
                  · rw [hbz] at hRa0
                    have hRa := Lib.hid hRa0
                    have HG2 := Lib.hid (Hgo.out hbz)
                    clear hRa0 Hlast Hgo hbz
                    as_aux_lemma =>
                    go_upto_region 10 with fail
                    refine wp_region_noPanic ?_
                    refine wp_region_l 18 (fun V : World => V.cell? ⟨b, o + j * 5 + 3, none⟩ = some (.slice (some ⟨b2, o2, none⟩) x.legs.length x.lc) ∧ V.cell? ⟨b2, o2 + q * 2, none⟩ = some (.string y.acct) ∧ V.cell? ⟨bn, on + m, none⟩ = some (.string z)) (by kernel_rfl) (HS.out _ hbi.drew) (fun hH => ?_)
                    refine tkZ 0 ?_; refine tkZ 1 ?_; refine tkZ 2 ?_; refine tkZ 3 ?_; refine tkZ 4 ?_; refine tkZ 5 ?_; refine tkZ 6 ?_; refine tkZ 7 ?_; refine tkZ 8 ?_; refine tkZ 9 ?_; refine tkZ 10 ?_; refine tkZ 11 ?_; refine tkZ 12 ?_; refine tkZ 13 ?_; refine tkZ 14 ?_; refine tkZ 15 ?_; refine tkZ 16 ?_
                    refine tkO 17 (fun K hK => ?_)
                    refine oper_call2 93 59 64 _ rfl _ _ rfl rfl (enters_of Tryz.func93 (by kernel_rfl) rfl) ?_
                    refine (hRa.out _).mono ?_
                    rintro e w5 ⟨rfl, hF⟩
                    refine ⟨_, rfl, ?_⟩
                    have hb5 := below_on hbi.drew (Nat.le_refl _) hF
                    clear hF
                    refine hK.out _ _ (HS.out _ hb5) (fun hH => ?_)
                    clear hK K
                    try simp only [Act.put, uA, uZ, uS, vA, vZ, vS]
                    refine tkL (fun K hK => ?_)
                    go_simp
                    refine hK.out _ _ ?_
                    clear hK K
                    try simp only [Act.put, uA, uZ, uS, vA, vZ, vS]
                    refine tkD ?_
                    clear hH HS
                    go_wp2
                    go_roundw
                    case rel => exact ⟨m, by go_num, by omega, HG2, hb5⟩
                    case measure => have := Hm.out; simp [intOf]; omega
            case rest =>
              obtain ⟨i, rfl, hi, Hup, Hlo, hbc⟩ := hcut
              clear d2 d3
              have Hql := Lib.hid (show i = (N.take i).length by rw [List.length_take]; omega)
              have hic : i ≤ cN := by omega
              have ii0 : (0 : Int) ≤ (i : Int) := by omega
              have ii1 : (i : Int) ≤ (cN : Int) := by omega
              have ii2 : (i : Int) ≤ (N.length : Int) := by omega
              have HTk := Lib.hid (show ∀ wq, Below wl.heap.size wl wq → ∀ V, Below wq.heap.size wq V → SlS V (Oth V (.slice none 0 0)) AN cN (N.take i) from fun wq hq V hV => ((((HsN.out.later hq).later hV)).take i).mono (fun b hb => ⟨hb, fun e => by simp [Value.ownBlock] at e⟩))
              have HDr := Lib.hid (show ∀ wq, Below wl.heap.size wl wq → ∀ V, Below wq.heap.size wq V → SlS V (fun b => b < wq.heap.size) (if cN = i then AN else AN.map (·.add i)) (cN - i) (N.drop i) from fun wq hq V hV => by
                have h9 := ((HsN.out.later hq).below hV).drop hi
                rw [show i * Enc.size ByteArray = i from Nat.mul_one i] at h9
                exact h9)
              by_cases h0 : i = 0
              · have g11 : ((i : Int) == 0) = true := by simp [h0]
                have HIn := Lib.hid (show addN N y.acct = N.take i ++ [y.acct] ++ N.drop i from addN_ins HNs.out hi Hup.out (fun h => absurd h (by omega)))
                clear h0 Hup Hlo
                as_aux_lemma =>
                go_upto_region 12 with fail
                refine wp_region_noPanic ?_
                refine wp_region_l 18 (fun _ => True) (by kernel_rfl) (trivial) (fun hH => ?_)
                refine tkZ 0 ?_; refine tkZ 1 ?_; refine tkZ 2 ?_; refine tkM 3 ?_; refine tkM 4 ?_; refine tkM 5 ?_; refine tkM 6 ?_; refine tkM 7 ?_; refine tkM 8 ?_; refine tkM 9 ?_; refine tkM 10 ?_; refine tkM 11 ?_; refine tkM 12 ?_; refine tkM 13 ?_; refine tkM 14 ?_; refine tkM 15 ?_; refine tkM 16 ?_; refine tkM 17 ?_
                refine tkL (fun K hK => ?_)
                go_simp
                refine hK.out _ _ ?_
                clear hK K
                try simp only [Act.put, uA, uZ, uS, vA, vZ, vS]
                refine tkD ?_
                clear hH
                go_upto_region 13 with fail
                have hbq := hbc.drew
                generalize wc.drew = wq at *
                have hTk := Lib.hid (HTk.out wq hbq)
                have hDr := Lib.hid (HDr.out wq hbq)
                have HSS := Lib.hid (show ∀ V, Below wq.heap.size wq V → (fun V : World => V.cell? ⟨b, o + j * 5 + 3, none⟩ = some (.slice (some ⟨b2, o2, none⟩) x.legs.length x.lc) ∧ V.cell? ⟨b2, o2 + q * 2, none⟩ = some (.string y.acct)) V from fun V hV => HLg.out V (hbq.trans (hV.mono hbq.size)))
                have Hwq := Lib.hid (Hwl.out.trans (hbq.mono Hwl.out.size))
                clear HTk HDr HLg hbc hbq
                refine wp_region_noPanic ?_
                refine wp_region_l 19 (fun V : World => V.cell? ⟨b, o + j * 5 + 3, none⟩ = some (.slice (some ⟨b2, o2, none⟩) x.legs.length x.lc) ∧ V.cell? ⟨b2, o2 + q * 2, none⟩ = some (.string y.acct)) (by kernel_rfl) (HSS.out _ (Below.refl _ _).drew) (fun hH => ?_)
                have hb := (Below.refl wq.heap.size wq).drew
                refine tkZ 0 ?_; refine tkZ 1 ?_; refine tkZ 2 ?_; refine tkZ 4 ?_; refine tkZ 5 ?_; refine tkZ 6 ?_; refine tkZ 7 ?_; refine tkZ 8 ?_; refine tkZ 9 ?_; refine tkZ 10 ?_; refine tkZ 11 ?_; refine tkZ 12 ?_; refine tkZ 15 ?_; refine tkZ 16 ?_; refine tkZ 17 ?_
                refine wpAnyL_ready (rs := [3, 13]) (by kernel_rfl) (by simp) ?_
                refine AllReadyL.cons rfl (fun K hK => ?_) ?_
                · skip
                  rw [if_pos (by rfl)]
                  refine oper_append (.const (.slice none 0 0)) (.tmp 90) 73 rfl (.string ByteArray.empty) 16 Tryz.underlying73 strInfo rfl (by decide) (by decide) rfl (Own.nil_ _ wq.heap.size 9) _ _ _ (N.take i) rfl Hql.out (hTk.out _ hb) (by simp <;> omega) hb.size ?_
                  intro v1 u1 hO1 hg1 hat1
                  rw [List.nil_append] at hO1
                  have hF := (Own.nil_ (α := ByteArray) _ _ 9).below hg1 (Nat.le_refl _) (Nat.le_refl _)
                  have hb := below_on hb (Nat.le_refl _) hF
                  have HO1 := Lib.hid hO1
                  clear hF hg1 hat1 hO1
                  refine hK.out _ _ (HSS.out _ hb) (fun hH => ?_)
                  clear hK K
                  try simp only [Act.put, uA, uZ, uS, vA, vZ, vS]
                  refine tkO 13 (fun K hK => ?_)
                  go_simp
                  have hgl : (u1.alloc (.cells #[.string y.acct] 9)).heap[u1.heap.size]? = some (.cells #[.string y.acct] 9 (0, 0)) := heap_alloc_new u1 _
                  have hne1 := HO1.out.new_ne (Nat.le_refl u1.heap.size)
                  have HO1 := Lib.hid (HO1.out.later ((Below.refl _ _).alloc (Nat.le_refl _) (.cells #[.string y.acct] 9)))
                  have hb := hb.alloc hb.size (.cells #[.string y.acct] 9)
                  refine hK.out _ _ (HSS.out _ hb) (fun hH => ?_)
                  clear hK K
                  try simp only [Act.put, uA, uZ, uS, vA, vZ, vS]
                  refine tkO 14 (fun K hK => ?_)
                  rw [if_pos (by rfl)]
                  refine oper_append_one (.tmp 91) (.tmp 101) 73 rfl (.string ByteArray.empty) 16 Tryz.underlying73 strInfo rfl (by decide) (by decide) rfl HO1.out u1.heap.size y.acct (by rfl) _ 9 hgl rfl hne1 Hya.out (by rw [← Hql.out]; omega) hb.size ?_
                  intro v2 u2 hO2 hg2 hat2
                  have hb := hb.trans (HO1.out.below hg2 (Nat.le_refl _) hb.size)
                  have HO2 := Lib.hid hO2
                  clear hg2 hat2 hO2 HO1 hgl hne1
                  refine hK.out _ _ (HSS.out _ hb) (fun hH => ?_)
                  clear hK K
                  try simp only [Act.put, uA, uZ, uS, vA, vZ, vS]
                  refine tkO 18 (fun K hK => ?_)
                  rw [if_pos (by rfl)]
                  refine oper_append (.tmp 102) (.tmp 105) 73 rfl (.string ByteArray.empty) 16 Tryz.underlying73 strInfo rfl (by decide) (by decide) rfl HO2.out _ _ _ (N.drop i) rfl (by simp) ((hDr.out _ hb).mono (HO2.out.oth (Nat.le_refl _) hb.size)) (by simp <;> omega) hb.size ?_
                  intro v3 u3 hO3 hg3 hat3
                  have hb := hb.trans (HO2.out.below hg3 (Nat.le_refl _) hb.size)
                  have HO3 := Lib.hid hO3
                  clear hg3 hat3 hO3 HO2
                  refine hK.out _ _ (HSS.out _ hb) (fun hH => ?_)
                  clear hK K
                  try simp only [Act.put, uA, uZ, uS, vA, vZ, vS]
                  refine tkL (fun K hK => ?_)
                  go_simp
                  refine hK.out _ _ ?_
                  clear hK K
                  try simp only [Act.put, uA, uZ, uS, vA, vZ, vS]
                  refine tkD ?_
                  have HX := Lib.hid (HO3.out.mono (Nat.le_trans Hwq.out.size (Nat.le_refl _)))
                  have HBX := Lib.hid (Hwq.out.trans (hb.mono Hwq.out.size))
                  clear hb HO3
                  go_wp2
                  go_roundw
                  case rel => exact ⟨q + 1, by go_num, by omega, by rw [Hnx.out, HIn.out]; exact HX.out, HBX.out⟩
                  case measure => simp [intOf]; omega
                refine AllReadyL.cons rfl (fun K hK => ?_) ?_
                · skip
                  go_simp
                  obtain ⟨gl, hgl, hgl2⟩ : ∃ gl, gl = wq.heap.size ∧ (wq.drew.alloc (.cells #[.string y.acct] 9)).heap[gl]? = some (.cells #[.string y.acct] 9 (0, 0)) := ⟨_, rfl, heap_alloc_new wq.drew _⟩
                  have Hgl := Lib.hid hgl
                  clear hgl
                  have hgl := hgl2
                  clear hgl2
                  have hb := hb.alloc hb.size (.cells #[.string y.acct] 9)
                  refine hK.out _ _ (HSS.out _ hb) (fun hH => ?_)
                  clear hK K
                  try simp only [Act.put, uA, uZ, uS, vA, vZ, vS]
                  refine tkO 3 (fun K hK => ?_)
                  rw [if_pos (by rfl)]
                  refine oper_append (.const (.slice none 0 0)) (.tmp 90) 73 rfl (.string ByteArray.empty) 16 Tryz.underlying73 strInfo rfl (by decide) (by decide) rfl (Own.nil_ _ wq.heap.size 9) _ _ _ (N.take i) rfl Hql.out (hTk.out _ hb) (by simp <;> omega) hb.size ?_
                  intro v1 u1 hO1 hg1 hat1
                  rw [List.nil_append] at hO1
                  have hF := (Own.nil_ (α := ByteArray) _ _ 9).below hg1 (Nat.le_refl _) (Nat.le_refl _)
                  have hne1 : some gl ≠ v1.ownBlock := fun e => by
                    have h3 : v1.ownBlock = none ∨ v1.ownBlock = some (wq.heap.size + 1) := hat1.imp (fun h => h) (fun h => by rw [h]; simp)
                    rw [Hgl.out] at e
                    rcases h3 with h3 | h3
                    · rw [h3] at e; cases e
                    · rw [h3] at e; injection e with e; omega
                  have hgl := (hF.block _ (Array.getElem?_eq_some_iff.1 hgl).1).trans hgl
                  have hb := below_on hb (Nat.le_refl _) hF
                  have HO1 := Lib.hid hO1
                  clear hF hg1 hat1 hO1
                  refine hK.out _ _ (HSS.out _ hb) (fun hH => ?_)
                  clear hK K
                  try simp only [Act.put, uA, uZ, uS, vA, vZ, vS]
                  refine tkO 14 (fun K hK => ?_)
                  rw [if_pos (by rfl)]
                  refine oper_append_one (.tmp 91) (.tmp 101) 73 rfl (.string ByteArray.empty) 16 Tryz.underlying73 strInfo rfl (by decide) (by decide) rfl HO1.out gl y.acct (by rw [Hgl.out]; rfl) _ 9 hgl rfl hne1 Hya.out (by rw [← Hql.out]; omega) hb.size ?_
                  intro v2 u2 hO2 hg2 hat2
                  have hb := hb.trans (HO1.out.below hg2 (Nat.le_refl _) hb.size)
                  have HO2 := Lib.hid hO2
                  clear hg2 hat2 hO2 HO1 hgl hne1
                  refine hK.out _ _ (HSS.out _ hb) (fun hH => ?_)
                  clear hK K
                  try simp only [Act.put, uA, uZ, uS, vA, vZ, vS]
                  refine tkO 18 (fun K hK => ?_)
                  rw [if_pos (by rfl)]
                  refine oper_append (.tmp 102) (.tmp 105) 73 rfl (.string ByteArray.empty) 16 Tryz.underlying73 strInfo rfl (by decide) (by decide) rfl HO2.out _ _ _ (N.drop i) rfl (by simp) ((hDr.out _ hb).mono (HO2.out.oth (Nat.le_refl _) hb.size)) (by simp <;> omega) hb.size ?_
                  intro v3 u3 hO3 hg3 hat3
                  have hb := hb.trans (HO2.out.below hg3 (Nat.le_refl _) hb.size)
                  have HO3 := Lib.hid hO3
                  clear hg3 hat3 hO3 HO2
                  refine hK.out _ _ (HSS.out _ hb) (fun hH => ?_)
                  clear hK K
                  try simp only [Act.put, uA, uZ, uS, vA, vZ, vS]
                  refine tkL (fun K hK => ?_)
                  go_simp
                  refine hK.out _ _ ?_
                  clear hK K
                  try simp only [Act.put, uA, uZ, uS, vA, vZ, vS]
                  refine tkD ?_
                  have HX := Lib.hid (HO3.out.mono (Nat.le_trans Hwq.out.size (Nat.le_refl _)))
                  have HBX := Lib.hid (Hwq.out.trans (hb.mono Hwq.out.size))
                  clear hb HO3
                  go_wp2
                  go_roundw
                  case rel => exact ⟨q + 1, by go_num, by omega, by rw [Hnx.out, HIn.out]; exact HX.out, HBX.out⟩
                  case measure => simp [intOf]; omega
                exact AllReadyL.nil
              · obtain ⟨m, hm⟩ : ∃ m, i = m + 1 := ⟨i - 1, by omega⟩
                have hmN : m < N.length := by omega
                have g11 : ((i : Int) == 0) = false := by simp; omega
                have p0 : (0 : Int) ≤ (m : Int) := by omega
                have p1 : (m : Int) < (N.length : Int) := by omega
                have ew : IntKind.i64.wrap ((i : Int) - 1) = (m : Int) := by rw [IntKind.wrap_i64]; omega
                have ew2 : wrap64 ((i : Int) - 1) = (m : Int) := by rw [← IntWalk.i64_left]; exact ew
                obtain ⟨bn, on, hAN, -, -⟩ := HsN.out.2.2.1 (by omega)
                subst hAN
                have HSn := Lib.hid (show ∀ V, Below wl.heap.size wl V → V.cell? ⟨bn, on + m, none⟩ = some (.string N[m]) from fun V hV => by
                  obtain ⟨bn', on', hA, -, -, hc⟩ := (HsN.out.later hV).at_ hmN
                  injection hA with hA
                  injection hA with hA1 hA2
                  subst hA1 hA2
                  have := hc 0 _ rfl
                  rw [show Enc.size ByteArray = 1 from rfl] at this
                  simpa using this)
                have HSk := Lib.hid (show N[m] = y.acct → addN N y.acct = N from fun h => addN_skip hmN h)
                have HIk := Lib.hid (show N[m] ≠ y.acct → addN N y.acct = N.take i ++ [y.acct] ++ N.drop i from fun h => addN_ins HNs.out hi Hup.out (fun hz h1 => ⟨Hlo.out hz h1, fun e => h (by
                  have e1 : i - 1 = m := by omega
                  simp only [e1] at e; exact e)⟩))
                generalize N[m] = z at *
                have HS := Lib.hid (show ∀ V, Below wl.heap.size wl V → (fun V : World => V.cell? ⟨b, o + j * 5 + 3, none⟩ = some (.slice (some ⟨b2, o2, none⟩) x.legs.length x.lc) ∧ V.cell? ⟨b2, o2 + q * 2, none⟩ = some (.string y.acct) ∧ V.cell? ⟨bn, on + m, none⟩ = some (.string z)) V from fun V hV => ⟨(HLg.out V hV).1, (HLg.out V hV).2, HSn.out V hV⟩)
                clear hm h0 HSn Hup Hlo
                by_cases hz : z = y.acct
                · have e3 := beqS_of_eq hz
                  have HSk2 := Lib.hid (HSk.out hz)
                  clear hz HIk HSk HTk HDr
                  as_aux_lemma =>
                  go_upto_region 12 with fail
                  refine wp_region_noPanic ?_
                  refine wp_region_l 18 (fun V : World => V.cell? ⟨b, o + j * 5 + 3, none⟩ = some (.slice (some ⟨b2, o2, none⟩) x.legs.length x.lc) ∧ V.cell? ⟨b2, o2 + q * 2, none⟩ = some (.string y.acct) ∧ V.cell? ⟨bn, on + m, none⟩ = some (.string z)) (by kernel_rfl) (HS.out _ hbc.drew) (fun hH => ?_)
                  refine tkZ 0 ?_; refine tkZ 1 ?_; refine tkZ 2 ?_; refine tkZ 3 ?_; refine tkZ 4 ?_; refine tkZ 5 ?_; refine tkZ 6 ?_; refine tkZ 7 ?_; refine tkZ 8 ?_; refine tkZ 9 ?_; refine tkZ 10 ?_; refine tkZ 11 ?_; refine tkZ 12 ?_; refine tkZ 13 ?_; refine tkZ 14 ?_; refine tkZ 15 ?_; refine tkZ 16 ?_; refine tkZ 17 ?_
                  refine tkL (fun K hK => ?_)
                  go_simp
                  refine hK.out _ _ ?_
                  clear hK K
                  try simp only [Act.put, uA, uZ, uS, vA, vZ, vS]
                  refine tkD ?_
                  clear hH HS
                  go_wp2
                  go_roundw
                  case rel => exact ⟨q + 1, by go_num, by omega, by rw [Hnx.out, HSk2.out]; exact HON.out.later hbc.drew, Hwl.out.trans (hbc.drew.mono Hwl.out.size)⟩
                  case measure => simp [intOf]; omega
                · have e3 := beqS_of_ne hz
                  have HIn := Lib.hid (HIk.out hz)
                  clear hz HIk HSk
                  as_aux_lemma =>
                  go_upto_region 12 with fail
                  refine wp_region_noPanic ?_
                  refine wp_region_l 18 (fun V : World => V.cell? ⟨b, o + j * 5 + 3, none⟩ = some (.slice (some ⟨b2, o2, none⟩) x.legs.length x.lc) ∧ V.cell? ⟨b2, o2 + q * 2, none⟩ = some (.string y.acct) ∧ V.cell? ⟨bn, on + m, none⟩ = some (.string z)) (by kernel_rfl) (HS.out _ hbc.drew) (fun hH => ?_)
                  refine tkZ 0 ?_; refine tkZ 1 ?_; refine tkZ 2 ?_; refine tkZ 3 ?_; refine tkZ 4 ?_; refine tkZ 5 ?_; refine tkZ 6 ?_; refine tkZ 7 ?_; refine tkZ 8 ?_; refine tkZ 9 ?_; refine tkZ 10 ?_; refine tkZ 11 ?_; refine tkZ 12 ?_; refine tkZ 13 ?_; refine tkZ 14 ?_; refine tkZ 15 ?_; refine tkZ 16 ?_; refine tkZ 17 ?_
                  refine tkL (fun K hK => ?_)
                  go_simp
                  refine hK.out _ _ ?_
                  clear hK K
                  try simp only [Act.put, uA, uZ, uS, vA, vZ, vS]
                  refine tkD ?_
                  clear hH HS
                  generalize (some (⟨bn, on, none⟩ : Addr)) = AN at *
                  go_upto_region 13 with fail
                  have hbq := hbc.drew
                  generalize wc.drew = wq at *
                  have hTk := Lib.hid (HTk.out wq hbq)
                  have hDr := Lib.hid (HDr.out wq hbq)
                  have HSS := Lib.hid (show ∀ V, Below wq.heap.size wq V → (fun V : World => V.cell? ⟨b, o + j * 5 + 3, none⟩ = some (.slice (some ⟨b2, o2, none⟩) x.legs.length x.lc) ∧ V.cell? ⟨b2, o2 + q * 2, none⟩ = some (.string y.acct)) V from fun V hV => HLg.out V (hbq.trans (hV.mono hbq.size)))
                  have Hwq := Lib.hid (Hwl.out.trans (hbq.mono Hwl.out.size))
                  clear HTk HDr HLg hbc hbq
                  refine wp_region_noPanic ?_
                  refine wp_region_l 19 (fun V : World => V.cell? ⟨b, o + j * 5 + 3, none⟩ = some (.slice (some ⟨b2, o2, none⟩) x.legs.length x.lc) ∧ V.cell? ⟨b2, o2 + q * 2, none⟩ = some (.string y.acct)) (by kernel_rfl) (HSS.out _ (Below.refl _ _).drew) (fun hH => ?_)
                  have hb := (Below.refl wq.heap.size wq).drew
                  refine tkZ 0 ?_; refine tkZ 1 ?_; refine tkZ 2 ?_; refine tkZ 4 ?_; refine tkZ 5 ?_; refine tkZ 6 ?_; refine tkZ 7 ?_; refine tkZ 8 ?_; refine tkZ 9 ?_; refine tkZ 10 ?_; refine tkZ 11 ?_; refine tkZ 12 ?_; refine tkZ 15 ?_; refine tkZ 16 ?_; refine tkZ 17 ?_
                  refine wpAnyL_ready (rs := [3, 13]) (by kernel_rfl) (by simp) ?_
                  refine AllReadyL.cons rfl (fun K hK => ?_) ?_
                  · skip
                    rw [if_pos (by rfl)]
                    refine oper_append (.const (.slice none 0 0)) (.tmp 90) 73 rfl (.string ByteArray.empty) 16 Tryz.underlying73 strInfo rfl (by decide) (by decide) rfl (Own.nil_ _ wq.heap.size 9) _ _ _ (N.take i) rfl Hql.out (hTk.out _ hb) (by simp <;> omega) hb.size ?_
                    intro v1 u1 hO1 hg1 hat1
                    rw [List.nil_append] at hO1
                    have hF := (Own.nil_ (α := ByteArray) _ _ 9).below hg1 (Nat.le_refl _) (Nat.le_refl _)
                    have hb := below_on hb (Nat.le_refl _) hF
                    have HO1 := Lib.hid hO1
                    clear hF hg1 hat1 hO1
                    refine hK.out _ _ (HSS.out _ hb) (fun hH => ?_)
                    clear hK K
                    try simp only [Act.put, uA, uZ, uS, vA, vZ, vS]
                    refine tkO 13 (fun K hK => ?_)
                    go_simp
                    have hgl : (u1.alloc (.cells #[.string y.acct] 9)).heap[u1.heap.size]? = some (.cells #[.string y.acct] 9 (0, 0)) := heap_alloc_new u1 _
                    have hne1 := HO1.out.new_ne (Nat.le_refl u1.heap.size)
                    have HO1 := Lib.hid (HO1.out.later ((Below.refl _ _).alloc (Nat.le_refl _) (.cells #[.string y.acct] 9)))
                    have hb := hb.alloc hb.size (.cells #[.string y.acct] 9)
                    refine hK.out _ _ (HSS.out _ hb) (fun hH => ?_)
                    clear hK K
                    try simp only [Act.put, uA, uZ, uS, vA, vZ, vS]
                    refine tkO 14 (fun K hK => ?_)
                    rw [if_pos (by rfl)]
                    refine oper_append_one (.tmp 91) (.tmp 101) 73 rfl (.string ByteArray.empty) 16 Tryz.underlying73 strInfo rfl (by decide) (by decide) rfl HO1.out u1.heap.size y.acct (by rfl) _ 9 hgl rfl hne1 Hya.out (by rw [← Hql.out]; omega) hb.size ?_
                    intro v2 u2 hO2 hg2 hat2
                    have hb := hb.trans (HO1.out.below hg2 (Nat.le_refl _) hb.size)
                    have HO2 := Lib.hid hO2
                    clear hg2 hat2 hO2 HO1 hgl hne1
                    refine hK.out _ _ (HSS.out _ hb) (fun hH => ?_)
                    clear hK K
                    try simp only [Act.put, uA, uZ, uS, vA, vZ, vS]
                    refine tkO 18 (fun K hK => ?_)
                    rw [if_pos (by rfl)]
                    refine oper_append (.tmp 102) (.tmp 105) 73 rfl (.string ByteArray.empty) 16 Tryz.underlying73 strInfo rfl (by decide) (by decide) rfl HO2.out _ _ _ (N.drop i) rfl (by simp) ((hDr.out _ hb).mono (HO2.out.oth (Nat.le_refl _) hb.size)) (by simp <;> omega) hb.size ?_
                    intro v3 u3 hO3 hg3 hat3
                    have hb := hb.trans (HO2.out.below hg3 (Nat.le_refl _) hb.size)
                    have HO3 := Lib.hid hO3
                    clear hg3 hat3 hO3 HO2
                    refine hK.out _ _ (HSS.out _ hb) (fun hH => ?_)
                    clear hK K
                    try simp only [Act.put, uA, uZ, uS, vA, vZ, vS]
                    refine tkL (fun K hK => ?_)
                    go_simp
                    refine hK.out _ _ ?_
                    clear hK K
                    try simp only [Act.put, uA, uZ, uS, vA, vZ, vS]
                    refine tkD ?_
                    have HX := Lib.hid (HO3.out.mono (Nat.le_trans Hwq.out.size (Nat.le_refl _)))
                    have HBX := Lib.hid (Hwq.out.trans (hb.mono Hwq.out.size))
                    clear hb HO3
                    go_wp2
                    go_roundw
                    case rel => exact ⟨q + 1, by go_num, by omega, by rw [Hnx.out, HIn.out]; exact HX.out, HBX.out⟩
                    case measure => simp [intOf]; omega
                  refine AllReadyL.cons rfl (fun K hK => ?_) ?_
                  · skip
                    go_simp
                    obtain ⟨gl, hgl, hgl2⟩ : ∃ gl, gl = wq.heap.size ∧ (wq.drew.alloc (.cells #[.string y.acct] 9)).heap[gl]? = some (.cells #[.string y.acct] 9 (0, 0)) := ⟨_, rfl, heap_alloc_new wq.drew _⟩
                    have Hgl := Lib.hid hgl
                    clear hgl
                    have hgl := hgl2
                    clear hgl2
                    have hb := hb.alloc hb.size (.cells #[.string y.acct] 9)
                    refine hK.out _ _ (HSS.out _ hb) (fun hH => ?_)
                    clear hK K
                    try simp only [Act.put, uA, uZ, uS, vA, vZ, vS]
                    refine tkO 3 (fun K hK => ?_)
                    rw [if_pos (by rfl)]
                    refine oper_append (.const (.slice none 0 0)) (.tmp 90) 73 rfl (.string ByteArray.empty) 16 Tryz.underlying73 strInfo rfl (by decide) (by decide) rfl (Own.nil_ _ wq.heap.size 9) _ _ _ (N.take i) rfl Hql.out (hTk.out _ hb) (by simp <;> omega) hb.size ?_
                    intro v1 u1 hO1 hg1 hat1
                    rw [List.nil_append] at hO1
                    have hF := (Own.nil_ (α := ByteArray) _ _ 9).below hg1 (Nat.le_refl _) (Nat.le_refl _)
                    have hne1 : some gl ≠ v1.ownBlock := fun e => by
                      have h3 : v1.ownBlock = none ∨ v1.ownBlock = some (wq.heap.size + 1) := hat1.imp (fun h => h) (fun h => by rw [h]; simp)
                      rw [Hgl.out] at e
                      rcases h3 with h3 | h3
                      · rw [h3] at e; cases e
                      · rw [h3] at e; injection e with e; omega
                    have hgl := (hF.block _ (Array.getElem?_eq_some_iff.1 hgl).1).trans hgl
                    have hb := below_on hb (Nat.le_refl _) hF
                    have HO1 := Lib.hid hO1
                    clear hF hg1 hat1 hO1
                    refine hK.out _ _ (HSS.out _ hb) (fun hH => ?_)
                    clear hK K
                    try simp only [Act.put, uA, uZ, uS, vA, vZ, vS]
                    refine tkO 14 (fun K hK => ?_)
                    rw [if_pos (by rfl)]
                    refine oper_append_one (.tmp 91) (.tmp 101) 73 rfl (.string ByteArray.empty) 16 Tryz.underlying73 strInfo rfl (by decide) (by decide) rfl HO1.out gl y.acct (by rw [Hgl.out]; rfl) _ 9 hgl rfl hne1 Hya.out (by rw [← Hql.out]; omega) hb.size ?_
                    intro v2 u2 hO2 hg2 hat2
                    have hb := hb.trans (HO1.out.below hg2 (Nat.le_refl _) hb.size)
                    have HO2 := Lib.hid hO2
                    clear hg2 hat2 hO2 HO1 hgl hne1
                    refine hK.out _ _ (HSS.out _ hb) (fun hH => ?_)
                    clear hK K
                    try simp only [Act.put, uA, uZ, uS, vA, vZ, vS]
                    refine tkO 18 (fun K hK => ?_)
                    rw [if_pos (by rfl)]
                    refine oper_append (.tmp 102) (.tmp 105) 73 rfl (.string ByteArray.empty) 16 Tryz.underlying73 strInfo rfl (by decide) (by decide) rfl HO2.out _ _ _ (N.drop i) rfl (by simp) ((hDr.out _ hb).mono (HO2.out.oth (Nat.le_refl _) hb.size)) (by simp <;> omega) hb.size ?_
                    intro v3 u3 hO3 hg3 hat3
                    have hb := hb.trans (HO2.out.below hg3 (Nat.le_refl _) hb.size)
                    have HO3 := Lib.hid hO3
                    clear hg3 hat3 hO3 HO2
                    refine hK.out _ _ (HSS.out _ hb) (fun hH => ?_)
                    clear hK K
                    try simp only [Act.put, uA, uZ, uS, vA, vZ, vS]
                    refine tkL (fun K hK => ?_)
                    go_simp
                    refine hK.out _ _ ?_
                    clear hK K
                    try simp only [Act.put, uA, uZ, uS, vA, vZ, vS]
                    refine tkD ?_
                    have HX := Lib.hid (HO3.out.mono (Nat.le_trans Hwq.out.size (Nat.le_refl _)))
                    have HBX := Lib.hid (Hwq.out.trans (hb.mono Hwq.out.size))
                    clear hb HO3
                    go_wp2
                    go_roundw
                    case rel => exact ⟨q + 1, by go_num, by omega, by rw [Hnx.out, HIn.out]; exact HX.out, HBX.out⟩
                    case measure => simp [intOf]; omega
                  exact AllReadyL.nil
          · have e2 : decide (x.period ≤ p) = false := decide_eq_false h2
            clear hlg
            have HPx := Lib.hid (show namesL (base ++ legP x p q) = namesL (legsP (M.take (j + 1)) p) by rw [Hj.out]; unfold legP; rw [if_neg h2, if_neg h2])
            rw [HPx.out] at hO
            have HO := Lib.hid hO
            clear hO
            go_wp2
            go_roundw
            case rel => exact ⟨j + 1, by go_num, by omega, HO.out, hb⟩
            case measure => simp [intOf]; omega
        · have g3 : decide ((q : Int) < (x.legs.length : Int)) = false := decide_eq_false (by omega)
          have g4 : decide (q < x.legs.length) = false := decide_eq_false hqt
          have hqe : q = x.legs.length := by omega
          clear hlg
          have HPx := Lib.hid (show namesL (base ++ legP x p q) = namesL (legsP (M.take (j + 1)) p) by rw [Hj.out, hqe])
          rw [HPx.out] at hO
          have HO := Lib.hid hO
          clear hO
          go_wp2
          go_roundw
          case rel => exact ⟨j + 1, by go_num, by omega, HO.out, hb⟩
          case measure => simp [intOf]; omega
    · obtain rfl : j = M.length := by omega
      have g1 : decide ((M.length : Int) < (M.length : Int)) = false := decide_eq_false (by omega)
      rw [List.take_length, HZ.out] at hO
      have HO := Lib.hid hO
      clear hO
      go_wp2
      go_meet
      exact ⟨HO.out, hb⟩
  case rest =>
    obtain ⟨hO, hbc⟩ := hcut
    obtain ⟨w2, rfl⟩ : ∃ w2, w2 = wc := ⟨wc, rfl⟩
    obtain ⟨AN, cN, rfl, hsn⟩ := hO.sl
    have hcn : (namesL Z).length ≤ cN := hsn.1
    have hNl := namesL_len Z
    have Hsn := Lib.hid (fun V (hV : Below w2.heap.size w2 V) => hsn.later hV)
    have HsM := Lib.hid (show ∀ V, Below w2.heap.size w2 V → Sl V V.heap.size AM cM M from fun V hV => H.out.later (hbc.trans (hV.mono hbc.size)))
    have hw2 := Nat.le_trans hw1.size hbc.size
    have Hb2 := Lib.hid (hw1.trans (hbc.mono hw1.size))
    generalize namesL Z = N at *
    clear hO hsn H hbc hw1 Hl HZ
    go_wp2_with fail
    go_loopw [11, 12] (fun v i wr => ∃ k : Nat, i = i64 k ∧ k ≤ N.length ∧ Own wr w2.heap.size 105 v ((N.take k).map (lineOf Z)) ∧ (∀ n ∈ N.take k, okLn Z n = true) ∧ Below w2.heap.size w2 wr) (fun _ i _ => N.length - (intOf i).toNat)
    case atStart => exact ⟨0, rfl, Nat.zero_le _, Own.nil_ _ _ _, fun n hn => (by rw [List.take_zero] at hn; cases hn), Below.refl _ _⟩
    case round =>
      obtain ⟨k, rfl, hk, hO, hok, hb⟩ := hrel
      obtain ⟨wo, rfl⟩ : ∃ wo, wo = wr := ⟨wr, rfl⟩
      by_cases hlt : k < N.length
      · have g1 : decide ((k : Int) < (N.length : Int)) = true := decide_eq_true (by omega)
        have g2 : decide (k < N.length) = true := decide_eq_true hlt
        have i0 : (0 : Int) ≤ (k : Int) := by omega
        have i1 : (k : Int) < (N.length : Int) := by omega
        obtain ⟨bn, on, hAN, -, hsz, n0⟩ := (Hsn.out _ hb).str hlt
        subst hAN
        have HMem := Lib.hid (show N[k] ∈ N from List.getElem_mem hlt)
        have Hstep := Lib.hid (fun h2 => trial_step (ls := Z) hlt hok h2)
        have Htk := Lib.hid (show (N.take (k + 1)).map (lineOf Z) = (N.take k).map (lineOf Z) ++ [lineOf Z N[k]] by rw [List.take_succ_eq_append_getElem hlt, List.map_append]; rfl)
        have Hlen := Lib.hid (show ((N.take k).map (lineOf Z)).length + 1 ≤ 4294967296 by rw [List.length_map, List.length_take]; omega)
        have HN0 := Lib.hid (show ∀ V, Below w2.heap.size w2 V → V.cell? ⟨bn, on + k, none⟩ = some (.string N[k]) from fun V hV => by
          obtain ⟨bn', on', hA, -, -, n0'⟩ := (Hsn.out _ hV).str hlt
          injection hA with hA
          injection hA with hA1 hA2
          subst hA1 hA2
          exact n0')
        generalize (N.take k).map (lineOf Z) = out at *
        obtain ⟨nm, hnm⟩ : ∃ nm, N[k] = nm := ⟨_, rfl⟩
        simp only [hnm] at n0 hsz HMem Hstep Htk HN0
        have Hln := Lib.hid (show lineOf Z nm = ⟨nm, (sumR (sumL (inK Z nm))).1, (sumR (0 - (sumR (sumL (outK Z nm))).1)).1⟩ from rfl)
        have HLess := Lib.hid (fun V => rless_c 0 (sumR (sumL (outK Z nm))).1 V R64_0 (sumR_R64 (sumL (outK Z nm))))
        have Hokn := Lib.hid (show okLn Z nm = (decide ((sumR (sumL (inK Z nm))).2 = 0) && (decide ((sumR (sumL (outK Z nm))).2 = 0) && decide ((sumR (0 - (sumR (sumL (outK Z nm))).1)).2 = 0))) from rfl)
        have HT1 := Lib.hid (fun Ai ci V (hV : Sl V V.heap.size Ai ci (inK Z nm)) => rtotal_c Ai ci (inK Z nm) V hV (by have := Hil.out nm; omega) (Hir.out nm))
        have HT2 := Lib.hid (fun Ai ci V (hV : Sl V V.heap.size Ai ci (outK Z nm)) => rtotal_c Ai ci (outK Z nm) V hV (by have := Hol.out nm; omega) (Hor.out nm))
        have HP1 := Lib.hid (fun V hV => HPi.out nm V hV)
        have HP2 := Lib.hid (fun V hV => HPo.out nm V hV)
        have HO := Lib.hid hO
        have Hb := Lib.hid hb
        have sM1 := HsM.out _ hb
        clear hnm hO hok
        generalize inK Z nm = Li at *
        generalize outK Z nm = Lo at *
        generalize sumR (sumL Li) = S1 at *
        generalize sumR (sumL Lo) = S2 at *
        generalize sumR (0 - S2.1) = S3 at *
        go_wp2_with fail
        refine (HP1.out _ sM1).mono ?_
        rintro e w3 ⟨v3, rfl, hO3, hF3⟩
        obtain ⟨A3, c3, rfl, s3⟩ := hO3.sl
        have hb3 := hF3
        clear n0 hF3 hO3 sM1
        go_wp2_with fail
        refine (HT1.out _ _ _ s3).mono ?_
        rintro e w4 ⟨rfl, hF4⟩
        have hb4 := below_on hb3 (Nat.le_refl _) hF4
        have hbb4 := hb.trans (hb4.mono hb.size)
        have sM1 := HsM.out _ hbb4
        have n0 := HN0.out _ hbb4
        clear hF4 s3 hb3
        go_wp2_with fail
        refine (HP2.out _ sM1).mono ?_
        rintro e w5 ⟨v5, rfl, hO5, hF5⟩
        obtain ⟨A5, c5, rfl, s5⟩ := hO5.sl
        have hb5 := below_on hb4 (Nat.le_refl _) hF5
        clear n0 hF5 hO5 sM1 hbb4
        go_wp2_with fail
        refine (HT2.out _ _ _ s5).mono ?_
        rintro e w6 ⟨rfl, hF6⟩
        have hb6 := below_on hb5 (Nat.le_refl _) hF6
        clear hF6 s5 hb4 hb5
        go_wp2_with fail
        refine (HLess.out _).mono ?_
        rintro e w7 ⟨rfl, hF7⟩
        have hb7 := below_on hb6 (Nat.le_refl _) hF7
        have hbb7 := hb.trans (hb7.mono hb.size)
        have n0 := HN0.out _ hbb7
        clear hF7 hb6 HP1 HP2 HT1 HT2 HLess HN0 HsM Hsn HPi HPo
        have Hend := Lib.hid (show ¬ (S1.2 = 0 ∧ S2.2 = 0 ∧ S3.2 = 0) → R = ([], 2) from fun hno => Hbad.out nm HMem.out (by
          rw [Hokn.out]
          cases hq : (decide (S1.2 = 0) && (decide (S2.2 = 0) && decide (S3.2 = 0))) with
          | false => rfl
          | true => exact absurd (by simpa using hq) hno))
        have Hbw := Lib.hid (Hb2.out.trans (hbb7.mono hw2))
        by_cases h1 : S1.2 = 0
        · have e1 : (S1.2 != 0) = false := by simp [h1]
          by_cases h2 : S2.2 = 0
          · have e2 : (S2.2 != 0) = false := by simp [h2]
            by_cases h3 : S3.2 = 0
            · have e3 : (S3.2 != 0) = false := by simp [h3]
              have HO2 := Lib.hid (HO.out.later hb7)
              have HO3 := Lib.hid (HO2.out.later ((Below.refl _ w7).alloc (Nat.le_refl _) (.cells #[.string nm, i64 S1.1, i64 S3.1] 105)))
              have Hne := Lib.hid (HO2.out.new_ne (Nat.le_refl _))
              have HH := Lib.hid (heap_alloc_new w7 (.cells #[.string nm, i64 S1.1, i64 S3.1] 105))
              have Hb8 := Lib.hid (hbb7.alloc hbb7.size (.cells #[.string nm, i64 S1.1, i64 S3.1] 105))
              have HokT := Lib.hid (Hstep.out (by rw [Hokn.out, h1, h2, h3]; rfl))
              have Hsz8 := Lib.hid hsz
              clear h1 h2 h3 hb7 hbb7 hb HO HO2 Hb Hokn Hstep Hend hsz Hbw
              go_wp2_with (at_builtin; refine wpList_append_one rfl (some 159) (.tmp 150) (.tmp 158) 98 rfl rfl _ 32 Tryz.underlying98 rlnInfo rfl (by decide) (by decide) rfl HO3.out w7.heap.size (⟨nm, S1.1, S3.1⟩ : Ln) rfl _ 105 HH.out rfl Hne.out Hsz8.out Hlen.out Hb8.out.size ?_; intro v9 w9 hO9 hg9 hat9)
              go_roundw
              case rel => exact ⟨k + 1, by go_num, by omega, by rw [Htk.out, Hln.out]; exact hO9, HokT.out, Hb8.out.trans (HO3.out.below hg9 (Nat.le_refl _) Hb8.out.size)⟩
              case measure => simp [intOf]; omega
            · have e3 : (S3.2 != 0) = true := by simpa using h3
              have HRb := Lib.hid (Hend.out (fun e => h3 e.2.2))
              clear h1 h2 h3 hb7 hbb7 hb HO Hb Hokn Hstep Hbad Hgood Hend
              go_wp2
              go_ret2
              exact ⟨.slice none 0 0, by rw [HRb.out]; rfl, by rw [HRb.out]; exact Own.nil_ _ _ _, Hbw.out⟩
          · have e2 : (S2.2 != 0) = true := by simpa using h2
            have HRb := Lib.hid (Hend.out (fun e => h2 e.2.1))
            clear h1 h2 hb7 hbb7 hb HO Hb Hokn Hstep Hbad Hgood Hend
            go_wp2
            go_ret2
            exact ⟨.slice none 0 0, by rw [HRb.out]; rfl, by rw [HRb.out]; exact Own.nil_ _ _ _, Hbw.out⟩
        · have e1 : (S1.2 != 0) = true := by simpa using h1
          have HRb := Lib.hid (Hend.out (fun e => h1 e.1))
          clear h1 hb7 hbb7 hb HO Hb Hokn Hstep Hbad Hgood Hend
          go_wp2
          go_ret2
          exact ⟨.slice none 0 0, by rw [HRb.out]; rfl, by rw [HRb.out]; exact Own.nil_ _ _ _, Hbw.out⟩
      · obtain rfl : k = N.length := by omega
        have g1 : decide ((N.length : Int) < (N.length : Int)) = false := decide_eq_false (by omega)
        rw [List.take_length] at hO hok
        have HRg := Lib.hid (Hgood.out hok)
        have HO := Lib.hid hO
        clear hO hok
        go_wp2
        go_ret2
        exact ⟨_, by rw [HRg.out]; rfl, by rw [HRg.out]; exact HO.out.mono hw2, Hb2.out.trans (hb.mono hw2)⟩
end Go.Proofs.YtampniiehgimhaaGreat
