/- law09.BookClosed -/
import Derived.Test.YtmljlkjomjflpaaGreatRows
import Derived.Test.YtmljlkjomjflpaaGreatBaBkAsks
import Derived.WalkKit
import Derived.WalkSpells
import Derived.WalkLawsBesides
import Derived.Deep.QuietTactic
import Derived.BigQuiet
import Derived.Laws.StructEq
import Derived.Deep.DeepFit
import Derived.StillTailTactics
namespace Go.Proofs.YtmljlkjomjflpaaGreat
open Go.RowKit
theorem sumR_ne (n : Int) : (sumR n).2 ≠ 10 := by
  unfold sumR
  split
  · show (2 : Int) ≠ 10; decide
  · show (0 : Int) ≠ 10; decide
theorem turnL_ne {D : Ac → Ac × Int} (hD : ∀ a, (D a).2 ≠ 10) (L : List Ac) (k : ByteArray) (x : Int) : (turnL D L k x).1 ≠ 10 := by
  unfold turnL
  cases getK Ac.name L k with
  | none => show (6 : Int) ≠ 10; decide
  | some a =>
    dsimp only
    split
    · exact hD a
    · split
      · show (9 : Int) ≠ 10; decide
      · split
        · show (13 : Int) ≠ 10; decide
        · show (0 : Int) ≠ 10; decide
theorem getLR_ne (L : List Ac) (k : ByteArray) : (getLR L k).2 ≠ 10 := by
  unfold getLR
  cases getK Ac.name L k with
  | none => show (6 : Int) ≠ 10; decide
  | some a => show (0 : Int) ≠ 10; decide
theorem postL_ne (L : List Ac) (x : Leg) : (postL L x).1 ≠ 10 := by
  unfold postL
  split
  · exact getLR_ne _ _
  · split
    · exact sumR_ne _
    · exact turnL_ne (fun a => sumR_ne _) _ _ _
theorem allL_ne : ∀ (l : List Leg) (L : List Ac), (allL L l).1 ≠ 10
  | [], _ => by show (0 : Int) ≠ 10; decide
  | x :: r, L => by
    unfold allL
    split
    · exact postL_ne L x
    · exact allL_ne r _
theorem checkL_ne (L : List Ac) (l : List Leg) : checkL L l ≠ 10 := by
  unfold checkL
  split
  · decide
  · split
    · decide
    · exact allL_ne _ _
theorem makeL_ne (L : List Ac) (l : List Leg) : (makeL L l).1 ≠ 10 := by
  unfold makeL
  split
  · exact checkL_ne _ _
  · exact allL_ne _ _
theorem freeHL_ne (L : List Ac) (H : List Held) (k : ByteArray) (n : Int) : (freeHL L H k n).1 ≠ 10 := by
  unfold freeHL
  cases getK Held.key H ⟨k, n⟩ with
  | none => show (6 : Int) ≠ 10; decide
  | some y => exact turnL_ne (fun a => sumR_ne _) _ _ _
theorem putH_ne (L : List Ac) (H : List Held) (x : Held) : (putH L H x).1 ≠ 10 := by
  unfold putH
  split
  · show (1 : Int) ≠ 10; decide
  · split
    · show (7 : Int) ≠ 10; decide
    · split
      · show (5 : Int) ≠ 10; decide
      · exact turnL_ne (fun a => sumR_ne _) _ _ _
theorem takeH_ne (L : List Ac) (H : List Held) (k : ByteArray) (n : Int) (p : ByteArray) (s : Int) : (takeH L H k n p s).1 ≠ 10 := by
  unfold takeH
  cases getK Held.key H ⟨k, n⟩ with
  | none => show (6 : Int) ≠ 10; decide
  | some y =>
    dsimp only
    split
    · show (13 : Int) ≠ 10; decide
    · split
      · exact turnL_ne (fun a => sumR_ne _) _ _ _
      · split
        · exact checkL_ne _ _
        · exact makeL_ne _ _
theorem openL_ne (L : List Ac) (k : ByteArray) (lim : Int) : (openL L k lim).1 ≠ 10 := by
  unfold openL
  split
  · show (1 : Int) ≠ 10; decide
  · split
    · show (7 : Int) ≠ 10; decide
    · split
      · show (5 : Int) ≠ 10; decide
      · show (0 : Int) ≠ 10; decide
theorem tells_ne (L : List Ac) (k : ByteArray) {e : Int} (h : e ≠ 10) : (tellsL L k e).err ≠ 10 := by
  unfold tellsL
  split
  · exact h
  · split
    · exact getLR_ne _ _
    · show (0 : Int) ≠ 10; decide
/-- an order of a closed period -/
def oldB (B : Bk) (x : Od) : Bool := (decide (x.kind = 2) || decide (x.kind = 4) || decide (x.kind = 6)) && decide (x.period ≤ B.cl)
theorem old_told {B : Bk} (hI : InvB B) {x : Od} (h : oldB B x = true) : ((doL B x).1.err = 10 ∨ (doL B x).1.err = 1) ∧ (doL B x).2 = B := by
  unfold oldB at h
  simp only [Bool.and_eq_true, Bool.or_eq_true, decide_eq_true_eq] at h
  have key : (doL B x).1.err = 10 ∨ (doL B x).1.err = 1 := by
    unfold doL
    by_cases hr : rightB x = false
    · rw [if_pos hr]; exact .inr rfl
    rw [if_neg hr]
    left
    unfold kindD
    rcases h.1 with (k2 | k4) | k6
    · rw [if_neg (by omega), if_pos k2]; unfold postD; rw [if_pos h.2]; rfl
    · rw [if_neg (by omega), if_neg (by omega), if_neg (by omega), if_pos k4]; unfold capD; rw [if_pos h.2]; rfl
    · rw [if_neg (by omega), if_neg (by omega), if_neg (by omega), if_neg (by omega), if_neg (by omega), if_pos k6]; unfold shutD; rw [if_pos h.2]; rfl
  exact ⟨key, (doL_err hI (by rcases key with e | e <;> rw [e] <;> decide)).1⟩
theorem new_told {B : Bk} {x : Od} (h : oldB B x = false) : (doL B x).1.err ≠ 10 := by
  unfold doL
  by_cases hr : rightB x = false
  · rw [if_pos hr]; show (1 : Int) ≠ 10; decide
  rw [if_neg hr]
  have hp : x.kind = 2 ∨ x.kind = 4 ∨ x.kind = 6 → ¬ x.period ≤ B.cl := fun hk hle => by
    unfold oldB at h
    rw [decide_eq_true hle, Bool.and_true] at h
    simp only [Bool.or_eq_false_iff, decide_eq_false_iff_not] at h
    rcases hk with e | e | e
    · exact h.1.1 e
    · exact h.1.2 e
    · exact h.2 e
  unfold kindD
  by_cases k1 : x.kind = 1
  · rw [if_pos k1]; exact tells_ne _ _ (openL_ne _ _ _)
  rw [if_neg k1]
  by_cases k2 : x.kind = 2
  · rw [if_pos k2]; unfold postD; rw [if_neg (hp (.inl k2))]; exact makeL_ne _ _
  rw [if_neg k2]
  by_cases k3 : x.kind = 3
  · rw [if_pos k3]
    unfold holdD withN
    dsimp only
    have := tells_ne (putH B.L B.H ⟨numO x, x.acct, x.sum⟩).2.1 x.acct (putH_ne B.L B.H ⟨numO x, x.acct, x.sum⟩)
    split
    · exact this
    · exact this
  rw [if_neg k3]
  by_cases k4 : x.kind = 4
  · rw [if_pos k4]; unfold capD; rw [if_neg (hp (.inr (.inl k4)))]; exact tells_ne _ _ (takeH_ne _ _ _ _ _ _)
  rw [if_neg k4]
  by_cases k5 : x.kind = 5
  · rw [if_pos k5]; exact tells_ne _ _ (freeHL_ne _ _ _ _)
  rw [if_neg k5]
  by_cases k6 : x.kind = 6
  · rw [if_pos k6]; unfold shutD; rw [if_neg (hp (.inr (.inr k6)))]; show (0 : Int) ≠ 10; decide
  rw [if_neg k6]
  exact tells_ne _ _ (by decide)
def closeO (p : Int) : Od := ⟨0, 1, 6, ⟨#[]⟩, ⟨#[]⟩, 0, none, 0, [], p, 0, ⟨#[]⟩⟩
theorem right_close {p : Int} (h : 1 ≤ p ∧ p ≤ 1000) : rightB (closeO p) = true := by
  unfold rightB
  have hb : sameB (closeO p) (dress (closeO p) (bareO (closeO p))) = true := decide_eq_true ⟨rfl, rfl, rfl, rfl, rfl, rfl, rfl, rfl, rfl⟩
  have hf : fitsO (closeO p) = (decide (1 ≤ p) && decide (p ≤ 1000)) := rfl
  rw [hb, hf, decide_eq_true h.1, decide_eq_true h.2]
  rfl
theorem close_told {B : Bk} {p : Int} (h : 1 ≤ p ∧ p ≤ 1000) : (doL B (closeO p) = (rpE 10, B) ∧ p ≤ B.cl) ∨ (doL B (closeO p) = (⟨0, 0, 0, p⟩, ⟨B.L, B.H, p⟩) ∧ B.cl < p) := by
  have hd : doL B (closeO p) = shutD B (closeO p) := by
    unfold doL
    rw [if_neg (by rw [right_close h]; decide)]
    rfl
  rw [hd]
  unfold shutD
  by_cases hp : (closeO p).period ≤ B.cl
  · rw [if_pos hp]; exact .inl ⟨rfl, hp⟩
  · rw [if_neg hp]; exact .inr ⟨rfl, Int.not_le.1 hp⟩
-- walk
theorem own_notC {a c : BA} {n : Nat} (ha : ∀ k, a.all k → k < n) (hc : ∀ k, c.all k → n ≤ k) : ∀ k, c.all k → ¬ a.own k := fun k h1 h2 => by have := ha k (BA.own_all h2); have := hc k h1; omega
theorem modC {x : Int} (k : Int) (hk : 0 < k) : ∃ u m : Int, IntKind.u64.wrap x = u ∧ u % k = m ∧ 0 ≤ u ∧ u < 18446744073709551616 ∧ 0 ≤ m ∧ m < k :=
  ⟨_, _, rfl, rfl, by rw [IntKind.wrap_u64]; omega, by rw [IntKind.wrap_u64]; omega, Int.emod_nonneg _ (by omega), Int.emod_lt_of_pos _ hk⟩
set_option maxRecDepth 100000 in
set_option maxHeartbeats 16000000 in
theorem bookClosed_c (A : Option Addr) (c : Nat) (l : List Od) (p : Int) (o : Od) (w : World) (h : Sl w w.heap.size A c l) (hr : ∀ x ∈ l, InR x) (_hp : (Lit.int .i64 p).wf = true) (ho : Okb w w.heap.size o) (hro : InR o) :
    Calls Tryz.prog 9 #[.slice A l.length c, i64 p, o.v] w fun e w' => e = .returned (.bool true) ∧ Below w.heap.size w w' := by
  have hL := Lib.hid fun W => lives9_c W
  have Hod := Lib.hid (fewN_odB (m := 10) (n := 60) h hr)
  have H := Lib.hid h
  have Ho := Lib.hid ho
  have Hro := Lib.hid hro
  obtain ⟨u1, m1, e1, e2, p1, p2, p3, p4⟩ := modC (x := p) 1000 (by decide)
  obtain ⟨n, en⟩ : ∃ n, 1 + m1 = n := ⟨_, rfl⟩
  have hn := Lib.hid (show 1 ≤ n ∧ n ≤ 1000 by omega)
  have hb0 := (Below.refl w.heap.size w).alloc (Nat.le_refl _) (.cells #[i64 o.client, i64 o.seq, i64 o.kind, .string o.acct, .string o.peer, i64 o.sum, .slice o.la o.legs.length o.lc, i64 o.period, i64 o.hold, .string o.note] 65)
  have hg0 := heap_alloc_new w (.cells #[i64 o.client, i64 o.seq, i64 o.kind, .string o.acct, .string o.peer, i64 o.sum, .slice o.la o.legs.length o.lc, i64 o.period, i64 o.hold, .string o.note] 65)
  have hlw : w.heap.size < (w.alloc (.cells #[i64 o.client, i64 o.seq, i64 o.kind, .string o.acct, .string o.peer, i64 o.sum, .slice o.la o.legs.length o.lc, i64 o.period, i64 o.hold, .string o.note] 65)).heap.size := by simp
  clear h hr ho hro
  unfold Od.v
  go_enter Tryz.func9, Tryz.ntmps9
  go_wp2_with fail
  generalize w.alloc (.cells #[i64 o.client, i64 o.seq, i64 o.kind, .string o.acct, .string o.peer, i64 o.sum, .slice o.la o.legs.length o.lc, i64 o.period, i64 o.hold, .string o.note] 65) = w0 at *
  refine (hL.out _).mono ?_
  rintro e w1 ⟨rfl, hF⟩
  have hb1 := hb0.trans (hF.mono hb0.size)
  have hg1 := row_later hg0 hF
  have hlo : w.heap.size < w1.heap.size := Nat.lt_of_lt_of_le hlw hF.size
  have HFw := Lib.hid (few_09 A c 60 l w1 (H.out.later hb1) (by decide))
  clear hL hF hb0 hg0 hlw
  go_wp2_with fail
  refine HFw.out.mono ?_
  rintro e w2 ⟨v, rfl, hO, hF⟩
  obtain ⟨A2, c2, rfl, s2⟩ := hO.sl
  have hb2 := hb1.trans (hF.mono hb1.size)
  have hg2 := row_later hg1 hF
  have hlo := Nat.lt_of_lt_of_le hlo hF.size
  have HFo := Lib.hid (bfold_c A2 c2 (fewN 10 60 l) w2 s2 Hod.out (fun x hx => Nat.le_trans (fewN_legs 10 60 l x hx) (by decide)) (Nat.le_trans (fewN_le 10 60 l) (by decide)))
  clear HFw hO hF s2 hb1 H Hod hg1
  generalize fewN 10 60 l = m at *
  go_wp2_with fail
  refine HFo.out.mono ?_
  rintro e w3 ⟨a, v3, B0, rfl, hB, hI, -, h0, ha, hF⟩
  generalize foldL bk0 m = B at *
  have hb3 := hb2.trans (hF.mono hb2.size)
  have hg3 := row_later hg2 hF
  have Hge := Lib.hid (show ∀ k, a.all k → w.heap.size < k from fun k hk => Nat.lt_of_lt_of_le hlo (ha k hk).1)
  have Hlt := Lib.hid hB.lt
  have HI := Lib.hid hI
  have Hn0 := Lib.hid (show ∀ k, a.all k → k ≠ w.heap.size from fun k hk e => by have := hlo; have := (ha k hk).1; omega)
  clear HFo hF hb2 h0 ha hI hlo hg2
  have hx1 : OdB (closeO n) := ⟨Nat.zero_le _, Nat.zero_le _, R64_0, (show R64 1 from ⟨by decide, by decide⟩), (show R64 6 from ⟨by decide, by decide⟩), R64_0, (show R64 n from ⟨by have := hn.out; omega, by have := hn.out; omega⟩), R64_0, fun _ h => by cases h⟩
  have HDo := Lib.hid (fun (W : World) (hW : BkA W a B) => bdo_c a B (closeO n) W hW HI.out hx1 ⟨⟨Nat.zero_le _, Nat.zero_le _, Nat.zero_le _, SlS.nil_ _ _⟩, Nat.zero_le _⟩)
  have HI2 := Lib.hid (HI.out.do_ hx1)
  have hct := close_told (B := B) hn.out
  generalize doL B (closeO n) = d at *
  obtain ⟨R, B2⟩ := d
  dsimp only at *
  have Hct := Lib.hid hct
  clear hct hx1
  go_wp2_with fail
  refine (HDo.out _ hB).mono ?_
  rintro e w4 ⟨rfl, hB4, hG⟩
  have hb4 := hb3.trans (BkA.own_below hG hb3.size (fun k hk => Nat.le_of_lt (Hge.out k hk)))
  have hg4 := row_kept hg3 hG Hn0.out
  have hba := (Below.refl w4.heap.size w4).alloc (Nat.le_refl _) (.cells #[i64 R.err, i64 R.hav, i64 R.set_, i64 R.num] 59)
  have hr4 := heap_alloc_new w4 (.cells #[i64 R.err, i64 R.hav, i64 R.set_, i64 R.num] 59)
  have hb5 := hb4.alloc hb4.size (.cells #[i64 R.err, i64 R.hav, i64 R.set_, i64 R.num] 59)
  have hB5 := hB4.later hba
  have hg5 := row_later hg4 hba
  have hz4 := hG.size
  have Hn4 := Lib.hid (show ∀ k, a.all k → k ≠ w4.heap.size from fun k hk e => by have := Hlt.out k hk; omega)
  have hl4 : w4.heap.size < (w4.alloc (.cells #[i64 R.err, i64 R.hav, i64 R.set_, i64 R.num] 59)).heap.size := by simp
  have hl5 := Nat.lt_of_le_of_lt hb4.size hl4
  have HCp := Lib.hid (bcopy_c a B2 _ hB5)
  have hlt5 := hB5.lt
  clear hG hB hb3 hg3 hB4 hb4 hg4 hba HDo e1 e2 p1 p2 p3 p4 en hz4
  go_wp2_with fail
  generalize w4.alloc (.cells #[i64 R.err, i64 R.hav, i64 R.set_, i64 R.num] 59) = w5 at *
  generalize w4.heap.size = g4 at *
  refine HCp.out.mono ?_
  rintro e w6 ⟨c6, rfl, hC, hca, hF⟩
  have Hnc := Lib.hid (own_notC hlt5 hca)
  have hlw5 : w.heap.size < w5.heap.size := hl5
  have hb6 := hb5.trans (hF.mono hb5.size)
  have hg6 := row_later hg5 hF
  have hr6 := row_later hr4 hF
  have hB6 := hB5.later hF
  have q0 := cell_of_row _ g4 0 _ _ (0, 0) hr6
  have q3 := cell_of_row _ g4 3 _ _ (0, 0) hr6
  simp only [List.getElem?_toArray, List.getElem?_cons_zero, List.getElem?_cons_succ] at q0 q3
  have hcl := bclosed_c a B2 w6 hB6
  have ht : ((R.err == 0) == (R.num == n)) = true ∧ decide (B2.cl < n) = false := by
    have := hn.out
    rcases Hct.out with ⟨e, hle⟩ | ⟨e, hlt⟩
    · injection e with e1 e2
      subst e1 e2
      have h1 : ((rpE 10).err == 0) = false := rfl
      have h2 : ((rpE 10).num == n) = false := by show ((0 : Int) == n) = false; rw [beq_eq_false_iff_ne]; omega
      exact ⟨by rw [h1, h2]; rfl, decide_eq_false (by omega)⟩
    · injection e with e1 e2
      subst e1 e2
      exact ⟨by show (((0 : Int) == 0) == (n == n)) = true; simp, decide_eq_false (by show ¬ n < n; omega)⟩
  obtain ⟨t1, t2⟩ := ht
  have Hcl := Lib.hid hcl
  have h0c := (Below.refl w6.heap.size w6).alloc (Nat.le_refl _) (.cells #[i64 o.client, i64 o.seq, i64 o.kind, .string o.acct, .string o.peer, i64 o.sum, .slice o.la o.legs.length o.lc, i64 o.period, i64 o.hold, .string o.note] 65)
  have hlit := (own_lit (w := w6) (base := w6.heap.size) 65 #[i64 o.client, i64 o.seq, i64 o.kind, .string o.acct, .string o.peer, i64 o.sum, .slice o.la o.legs.length o.lc, i64 o.period, i64 o.hold, .string o.note] [o] (Nat.le_refl _) rfl (by simp) (fun x hx => by
    simp only [List.mem_singleton] at hx
    subst hx
    exact Enc.keep (α := Od) Ho.out (fun p hp => hb6.cell hp) (fun k hk => Nat.lt_of_lt_of_le hk hb6.size))).sl_of
  have HFw := Lib.hid (few_09 _ _ 1 [o] _ hlit (by decide))
  have Hxo := Lib.hid (fewN_odB (m := 10) (n := 1) hlit (fun y hy => by simp only [List.mem_singleton] at hy; subst hy; exact Hro.out) (cutN 10 o) (List.mem_singleton.2 rfl))
  have Hnw := Lib.hid (show ∀ k, c6.all k → k ≠ w.heap.size from fun k hk e => by have := hca k hk; have := hlw5; omega)
  have hb7 := hb6.alloc hb6.size (.cells #[i64 o.client, i64 o.seq, i64 o.kind, .string o.acct, .string o.peer, i64 o.sum, .slice o.la o.legs.length o.lc, i64 o.period, i64 o.hold, .string o.note] 65)
  have hg7 := row_later hg6 h0c
  have hB7 := hB6.later h0c
  have hC7 := hC.later h0c
  have k0 := cell_of_row _ w.heap.size 0 _ _ (0, 0) hg6
  have k1 := cell_of_row _ w.heap.size 1 _ _ (0, 0) hg6
  have k2 := cell_of_row _ w.heap.size 2 _ _ (0, 0) hg6
  have k3 := cell_of_row _ w.heap.size 3 _ _ (0, 0) hg6
  have k4 := cell_of_row _ w.heap.size 4 _ _ (0, 0) hg6
  have k5 := cell_of_row _ w.heap.size 5 _ _ (0, 0) hg6
  have k6 := cell_of_row _ w.heap.size 6 _ _ (0, 0) hg6
  have k7 := cell_of_row _ w.heap.size 7 _ _ (0, 0) hg6
  have k8 := cell_of_row _ w.heap.size 8 _ _ (0, 0) hg6
  have k9 := cell_of_row _ w.heap.size 9 _ _ (0, 0) hg6
  simp only [List.getElem?_toArray, List.getElem?_cons_zero, List.getElem?_cons_succ] at k0 k1 k2 k3 k4 k5 k6 k7 k8 k9
  clear hF hb5 hg5 hr4 hB5 hr6 hcl hca hlit hb6 hg6 hC h0c HCp hlt5
  go_wp2_with fail
  refine Hcl.out.mono ?_
  rintro e w7 ⟨rfl, rfl⟩
  clear Hcl hB6
  go_wp2_with fail
  generalize w6.alloc (.cells #[i64 o.client, i64 o.seq, i64 o.kind, .string o.acct, .string o.peer, i64 o.sum, .slice o.la o.legs.length o.lc, i64 o.period, i64 o.hold, .string o.note] 65) = w8 at *
  refine HFw.out.mono ?_
  rintro e w9 ⟨v9, rfl, hO, hF⟩
  have hfo : fewN 10 1 [o] = [cutN 10 o] := rfl
  rw [hfo] at hO
  obtain ⟨A9, c9, rfl, s9⟩ := hO.sl
  obtain ⟨b9, o9, rfl, _, _, d0, d1, d2, d3, d4, d5, d6, d7, d8, d9⟩ := s9.od (k := 0) (by simp)
  simp only [Nat.zero_mul, Nat.add_zero, List.getElem_cons_zero] at d0 d1 d2 d3 d4 d5 d6 d7 d8 d9
  have hb9 := hb7.trans (hF.mono hb7.size)
  have hg9 := row_later hg7 hF
  have hB9 := hB7.later hF
  have hC9 := hC7.later hF
  clear hF hb7 hg7 hB7 hC7 HFw hO s9
  have hxo := Hxo.out
  have hin : ∀ W, Below w.heap.size w W → OdIn W a (cutN 10 o) := fun W hW => ⟨cutN_ok (Enc.keep (α := Od) Ho.out (fun p hp => hW.cell hp) (fun k hk => ⟨Nat.lt_of_lt_of_le hk hW.size, fun e => absurd (Hge.out k e) (by omega)⟩)), by show (o.legs.take 10).length ≤ 65536; rw [List.length_take]; omega⟩
  have hb9 := Lib.hid hb9
  generalize hX : cutN 10 o = x at *
  have hb9 := hb9.out
  have hgx := setRow_heap _ w.heap.size _ #[i64 x.client, i64 x.seq, i64 x.kind, .string x.acct, .string x.peer, i64 x.sum, .slice x.la x.legs.length x.lc, i64 x.period, i64 x.hold, .string x.note] _ _ hg9
  have hBx := hB9.row (g := w.heap.size) Hn0.out #[i64 x.client, i64 x.seq, i64 x.kind, .string x.acct, .string x.peer, i64 x.sum, .slice x.la x.legs.length x.lc, i64 x.period, i64 x.hold, .string x.note]
  have hCx := hC9.row (g := w.heap.size) Hnw.out #[i64 x.client, i64 x.seq, i64 x.kind, .string x.acct, .string x.peer, i64 x.sum, .slice x.la x.legs.length x.lc, i64 x.period, i64 x.hold, .string x.note]
  have hbx := below_setRow hb9 (Nat.le_refl w.heap.size) #[i64 x.client, i64 x.seq, i64 x.kind, .string x.acct, .string x.peer, i64 x.sum, .slice x.la x.legs.length x.lc, i64 x.period, i64 x.hold, .string x.note]
  have x0 := cell_of_row _ w.heap.size 0 _ _ (0, 0) hgx
  have x1 := cell_of_row _ w.heap.size 1 _ _ (0, 0) hgx
  have x2 := cell_of_row _ w.heap.size 2 _ _ (0, 0) hgx
  have x3 := cell_of_row _ w.heap.size 3 _ _ (0, 0) hgx
  have x4 := cell_of_row _ w.heap.size 4 _ _ (0, 0) hgx
  have x5 := cell_of_row _ w.heap.size 5 _ _ (0, 0) hgx
  have x6 := cell_of_row _ w.heap.size 6 _ _ (0, 0) hgx
  have x7 := cell_of_row _ w.heap.size 7 _ _ (0, 0) hgx
  have x8 := cell_of_row _ w.heap.size 8 _ _ (0, 0) hgx
  have x9 := cell_of_row _ w.heap.size 9 _ _ (0, 0) hgx
  simp only [List.getElem?_toArray, List.getElem?_cons_zero, List.getElem?_cons_succ] at x0 x1 x2 x3 x4 x5 x6 x7 x8 x9
  have HD := Lib.hid (bdo_c a B2 x _ hBx HI2.out hxo (hin _ hbx))
  have hO1 := Lib.hid (fun h => old_told HI2.out (x := x) h)
  have hO2 := Lib.hid (fun h => new_told (B := B2) (x := x) h)
  clear hin hxo hX hB9 hC9 hb9
  go_wp2_with (refine wpList_store_row rfl 65 (.tmp 5) (.tmp 51) rfl w.heap.size #[i64 x.client, i64 x.seq, i64 x.kind, .string x.acct, .string x.peer, i64 x.sum, .slice x.la x.legs.length x.lc, i64 x.period, i64 x.hold, .string x.note] rfl rfl 65 #[i64 o.client, i64 o.seq, i64 o.kind, .string o.acct, .string o.peer, i64 o.sum, .slice o.la o.legs.length o.lc, i64 o.period, i64 o.hold, .string o.note] hg9 (by kernel_rfl) rfl (by simp [Value.oneCell']) ?_)
  generalize w9.setRow w.heap.size #[i64 x.client, i64 x.seq, i64 x.kind, .string x.acct, .string x.peer, i64 x.sum, .slice x.la x.legs.length x.lc, i64 x.period, i64 x.hold, .string x.note] = wx at *
  generalize doL B2 x = d at *
  obtain ⟨Y, B3⟩ := d
  dsimp only at *
  refine HD.out.mono ?_
  rintro e w10 ⟨rfl, hB, hG⟩
  have hb := hbx.trans (BkA.own_below hG hbx.size (fun k hk => Nat.le_of_lt (Hge.out k hk)))
  have hg := row_kept hgx hG Hn0.out
  have hC := hCx.kept hG Hnc.out
  have hba := (Below.refl w10.heap.size w10).alloc (Nat.le_refl _) (.cells #[i64 Y.err, i64 Y.hav, i64 Y.set_, i64 Y.num] 59)
  have hr := heap_alloc_new w10 (.cells #[i64 Y.err, i64 Y.hav, i64 Y.set_, i64 Y.num] 59)
  have hb := hb.alloc hb.size (.cells #[i64 Y.err, i64 Y.hav, i64 Y.set_, i64 Y.num] 59)
  have hg := row_later hg hba
  have hC := hC.later hba
  have hB := hB.later hba
  clear hG HD hba hbx hgx hBx hCx hg9 x0 x1 x2 x3 x4 x5 x6 x7 x8 x9 k0 k1 k2 k3 k4 k5 k6 k7 k8 k9 d0 d1 d2 d3 d4 d5 d6 d7 d8 d9
  go_upto_region 11 with fail
  generalize w10.alloc (.cells #[i64 Y.err, i64 Y.hav, i64 Y.set_, i64 Y.num] 59) = w11 at *
  generalize w10.heap.size = g11 at *
  have Hgl := Lib.hid ((Array.getElem?_eq_some_iff.1 hr).1)
  have y0 := cell_of_row _ w.heap.size 2 _ _ (0, 0) hg
  have y1 := cell_of_row _ w.heap.size 7 _ _ (0, 0) hg
  simp only [List.getElem?_toArray, List.getElem?_cons_zero, List.getElem?_cons_succ] at y0 y1
  have HCl := Lib.hid (bclosed_c c6 B2 w11.drew (hC.later (Below.refl _ _).drew))
  clear hg
  go_cut [12] from 13 (fun s12 wx => s12 = .bool (oldB B2 x) ∧ wx = w11.drew)
  case first =>
    by_cases k2 : x.kind = 2
    · have hk : oldB B2 x = decide (x.period ≤ B2.cl) := by unfold oldB; rw [decide_eq_true k2]; rfl
      have e2 : (x.kind == 2) = true := by rw [k2]; rfl
      clear k2
      refine wp_region_noPanic ?_
      refine wp_region_l 20 (fun V : World => V.cell? ⟨w.heap.size, 2, none⟩ = some (i64 x.kind) ∧ V.cell? ⟨w.heap.size, 7, none⟩ = some (i64 x.period)) (by kernel_rfl) (⟨y0, y1⟩) (fun hH => ?_)
      refine wpAnyL_take (i := 0) (v := ?v20001) rfl (by kernel_rfl) (by kernel_rfl) (by kernel_rfl) (by kernel_rfl) (fun _ _ _ h => h) (Or.inl ⟨by kernel_rfl, ?hy20001⟩) (by assumption) ?r20001
      case hy20001 => (intro W hSW; obtain ⟨o0, o1⟩ := hSW; go_simp; try with_reducible rfl)
      try simp only [Act.put, List.getElem_toArray, List.getElem_cons_zero, List.setIfInBounds_toArray, List.set_cons_zero, List.set_cons_succ]
      refine wpAnyL_take (i := 1) (v := ?v20002) rfl (by kernel_rfl) (by kernel_rfl) (by kernel_rfl) (by kernel_rfl) (fun _ _ _ h => h) (Or.inl ⟨by kernel_rfl, ?hy20002⟩) (by assumption) ?r20002
      case hy20002 => (intro W hSW; obtain ⟨o0, o1⟩ := hSW; go_simp; try with_reducible rfl)
      try simp only [Act.put, List.getElem_toArray, List.getElem_cons_zero, List.getElem_cons_succ, List.setIfInBounds_toArray, List.set_cons_zero, List.set_cons_succ]
      refine wpAnyL_take (i := 2) (v := ?v20003) rfl (by kernel_rfl) (by kernel_rfl) (by kernel_rfl) (by kernel_rfl) (fun _ _ _ h => h) (Or.inl ⟨by kernel_rfl, ?hy20003⟩) (by assumption) ?r20003
      case hy20003 => (intro W hSW; obtain ⟨o0, o1⟩ := hSW; go_simp; try with_reducible rfl)
      try simp only [Act.put, List.getElem_toArray, List.getElem_cons_zero, List.getElem_cons_succ, List.setIfInBounds_toArray, List.set_cons_zero, List.set_cons_succ]
      refine wpAnyL_take (i := 3) (v := ?v20004) rfl (by kernel_rfl) (by kernel_rfl) (by kernel_rfl) (by kernel_rfl) (fun _ _ _ h => h) (Or.inl ⟨by kernel_rfl, ?hy20004⟩) (by assumption) ?r20004
      case hy20004 => (intro W hSW; obtain ⟨o0, o1⟩ := hSW; go_simp; try with_reducible rfl)
      try simp only [Act.put, List.getElem_toArray, List.getElem_cons_zero, List.getElem_cons_succ, List.setIfInBounds_toArray, List.set_cons_zero, List.set_cons_succ]
      refine wpAnyL_take (i := 4) (v := undef) rfl (by kernel_rfl) (by kernel_rfl) (by kernel_rfl) (by kernel_rfl) (fun _ _ _ h => h) (Or.inr ⟨by kernel_rfl, rfl⟩) (by assumption) ?r20005
      try simp only [Act.put, List.getElem_toArray, List.getElem_cons_zero, List.getElem_cons_succ, List.setIfInBounds_toArray, List.set_cons_zero, List.set_cons_succ]
      refine wpAnyL_take (i := 5) (v := undef) rfl (by kernel_rfl) (by kernel_rfl) (by kernel_rfl) (by kernel_rfl) (fun _ _ _ h => h) (Or.inr ⟨by kernel_rfl, rfl⟩) (by assumption) ?r20006
      try simp only [Act.put, List.getElem_toArray, List.getElem_cons_zero, List.getElem_cons_succ, List.setIfInBounds_toArray, List.set_cons_zero, List.set_cons_succ]
      refine wpAnyL_take (i := 6) (v := undef) rfl (by kernel_rfl) (by kernel_rfl) (by kernel_rfl) (by kernel_rfl) (fun _ _ _ h => h) (Or.inr ⟨by kernel_rfl, rfl⟩) (by assumption) ?r20007
      try simp only [Act.put, List.getElem_toArray, List.getElem_cons_zero, List.getElem_cons_succ, List.setIfInBounds_toArray, List.set_cons_zero, List.set_cons_succ]
      refine wpAnyL_take (i := 7) (v := ?v20008) rfl (by kernel_rfl) (by kernel_rfl) (by kernel_rfl) (by kernel_rfl) (fun _ _ _ h => h) (Or.inl ⟨by kernel_rfl, ?hy20008⟩) (by assumption) ?r20008
      case hy20008 => (intro W hSW; obtain ⟨o0, o1⟩ := hSW; go_simp; try with_reducible rfl)
      try simp only [Act.put, List.getElem_toArray, List.getElem_cons_zero, List.getElem_cons_succ, List.setIfInBounds_toArray, List.set_cons_zero, List.set_cons_succ]
      refine wpAnyL_take (i := 8) (v := ?v20009) rfl (by kernel_rfl) (by kernel_rfl) (by kernel_rfl) (by kernel_rfl) (fun _ _ _ h => h) (Or.inl ⟨by kernel_rfl, ?hy20009⟩) (by assumption) ?r20009
      case hy20009 => (intro W hSW; obtain ⟨o0, o1⟩ := hSW; go_simp; try with_reducible rfl)
      try simp only [Act.put, List.getElem_toArray, List.getElem_cons_zero, List.getElem_cons_succ, List.setIfInBounds_toArray, List.set_cons_zero, List.set_cons_succ]
      refine wpAnyL_take (i := 9) (v := undef) rfl (by kernel_rfl) (by kernel_rfl) (by kernel_rfl) (by kernel_rfl) (fun _ _ _ h => h) (Or.inr ⟨by kernel_rfl, rfl⟩) (by assumption) ?r20010
      try simp only [Act.put, List.getElem_toArray, List.getElem_cons_zero, List.getElem_cons_succ, List.setIfInBounds_toArray, List.set_cons_zero, List.set_cons_succ]
      refine wpAnyL_take (i := 10) (v := undef) rfl (by kernel_rfl) (by kernel_rfl) (by kernel_rfl) (by kernel_rfl) (fun _ _ _ h => h) (Or.inr ⟨by kernel_rfl, rfl⟩) (by assumption) ?r20011
      try simp only [Act.put, List.getElem_toArray, List.getElem_cons_zero, List.getElem_cons_succ, List.setIfInBounds_toArray, List.set_cons_zero, List.set_cons_succ]
      refine wpAnyL_take (i := 11) (v := undef) rfl (by kernel_rfl) (by kernel_rfl) (by kernel_rfl) (by kernel_rfl) (fun _ _ _ h => h) (Or.inr ⟨by kernel_rfl, rfl⟩) (by assumption) ?r20012
      try simp only [Act.put, List.getElem_toArray, List.getElem_cons_zero, List.getElem_cons_succ, List.setIfInBounds_toArray, List.set_cons_zero, List.set_cons_succ]
      refine wpAnyL_take (i := 12) (v := ?v20013) rfl (by kernel_rfl) (by kernel_rfl) (by kernel_rfl) (by kernel_rfl) (fun _ _ _ h => h) (Or.inl ⟨by kernel_rfl, ?hy20013⟩) (by assumption) ?r20013
      case hy20013 => (intro W hSW; obtain ⟨o0, o1⟩ := hSW; go_simp; try with_reducible rfl)
      try simp only [Act.put, List.getElem_toArray, List.getElem_cons_zero, List.getElem_cons_succ, List.setIfInBounds_toArray, List.set_cons_zero, List.set_cons_succ]
      refine wpAnyL_take (i := 13) (v := ?v20014) rfl (by kernel_rfl) (by kernel_rfl) (by kernel_rfl) (by kernel_rfl) (fun _ _ _ h => h) (Or.inl ⟨by kernel_rfl, ?hy20014⟩) (by assumption) ?r20014
      case hy20014 => (intro W hSW; obtain ⟨o0, o1⟩ := hSW; go_simp; try with_reducible rfl)
      try simp only [Act.put, List.getElem_toArray, List.getElem_cons_zero, List.getElem_cons_succ, List.setIfInBounds_toArray, List.set_cons_zero, List.set_cons_succ]
      refine wpAnyL_take (i := 14) (v := ?v20015) rfl (by kernel_rfl) (by kernel_rfl) (by kernel_rfl) (by kernel_rfl) (fun _ _ _ h => h) (Or.inl ⟨by kernel_rfl, ?hy20015⟩) (by assumption) ?r20015
      case hy20015 => (intro W hSW; obtain ⟨o0, o1⟩ := hSW; go_simp; try with_reducible rfl)
      try simp only [Act.put, List.getElem_toArray, List.getElem_cons_zero, List.getElem_cons_succ, List.setIfInBounds_toArray, List.set_cons_zero, List.set_cons_succ]
      refine wpAnyL_take (i := 15) (v := ?v20016) rfl (by kernel_rfl) (by kernel_rfl) (by kernel_rfl) (by kernel_rfl) (fun _ _ _ h => h) (Or.inl ⟨by kernel_rfl, ?hy20016⟩) (by assumption) ?r20016
      case hy20016 => (intro W hSW; obtain ⟨o0, o1⟩ := hSW; go_simp; try with_reducible rfl)
      try simp only [Act.put, List.getElem_toArray, List.getElem_cons_zero, List.getElem_cons_succ, List.setIfInBounds_toArray, List.set_cons_zero, List.set_cons_succ]
      refine wpAnyL_take (i := 16) (v := ?v20017) rfl (by kernel_rfl) (by kernel_rfl) (by kernel_rfl) (by kernel_rfl) (fun _ _ _ h => h) (Or.inl ⟨by kernel_rfl, ?hy20017⟩) (by assumption) ?r20017
      case hy20017 => (intro W hSW; obtain ⟨o0, o1⟩ := hSW; go_simp; try with_reducible rfl)
      try simp only [Act.put, List.getElem_toArray, List.getElem_cons_zero, List.getElem_cons_succ, List.setIfInBounds_toArray, List.set_cons_zero, List.set_cons_succ]
      refine wpAnyL_one (i := 17) (by kernel_rfl) rfl (by decide) (fun K hK => ?_)
      go_simp
      refine HCl.out.mono ?_
      rintro e u1 ⟨rfl, rfl⟩
      refine hK.out _ _ (⟨y0, y1⟩) (fun hH => ?_)
      clear hK K
      try simp only [Act.put, List.getElem_toArray, List.getElem_cons_zero, List.getElem_cons_succ, List.setIfInBounds_toArray, List.set_cons_zero, List.set_cons_succ]
      refine wpAnyL_take (i := 18) (v := ?v20018) rfl (by kernel_rfl) (by kernel_rfl) (by kernel_rfl) (by kernel_rfl) (fun _ _ _ h => h) (Or.inl ⟨by kernel_rfl, ?hy20018⟩) (by assumption) ?r20018
      case hy20018 => (intro W hSW; obtain ⟨o0, o1⟩ := hSW; go_simp; try with_reducible rfl)
      try simp only [Act.put, List.getElem_toArray, List.getElem_cons_zero, List.getElem_cons_succ, List.setIfInBounds_toArray, List.set_cons_zero, List.set_cons_succ]
      refine wpAnyL_take (i := 19) (v := ?v20019) rfl (by kernel_rfl) (by kernel_rfl) (by kernel_rfl) (by kernel_rfl) (fun _ _ _ h => h) (Or.inl ⟨by kernel_rfl, ?hy20019⟩) (by assumption) ?r20019
      case hy20019 => (intro W hSW; obtain ⟨o0, o1⟩ := hSW; go_simp; try with_reducible rfl)
      try simp only [Act.put, List.getElem_toArray, List.getElem_cons_zero, List.getElem_cons_succ, List.setIfInBounds_toArray, List.set_cons_zero, List.set_cons_succ]
      refine wpAnyL_last (by kernel_rfl) rfl (fun K hK => ?_)
      go_simp
      refine hK.out _ _ ?_
      clear hK K
      try simp only [Act.put, List.getElem_toArray, List.getElem_cons_zero, List.getElem_cons_succ, List.setIfInBounds_toArray, List.set_cons_zero, List.set_cons_succ]
      refine wpAnyL_done (by kernel_rfl) ?_ _
      refine NoPanic.normal ?_
      repeat go_step
      go_meet
      exact ⟨by rw [hk], rfl⟩
    by_cases k4 : x.kind = 4
    · have hk : oldB B2 x = decide (x.period ≤ B2.cl) := by unfold oldB; rw [decide_eq_true k4, Bool.or_true]; rfl
      have e2 : (x.kind == 2) = false := by rw [k4]; rfl
      have e4 : (x.kind == 4) = true := by rw [k4]; rfl
      clear k2 k4
      refine wp_region_noPanic ?_
      refine wp_region_l 20 (fun V : World => V.cell? ⟨w.heap.size, 2, none⟩ = some (i64 x.kind) ∧ V.cell? ⟨w.heap.size, 7, none⟩ = some (i64 x.period)) (by kernel_rfl) (⟨y0, y1⟩) (fun hH => ?_)
      refine wpAnyL_take (i := 0) (v := ?v20020) rfl (by kernel_rfl) (by kernel_rfl) (by kernel_rfl) (by kernel_rfl) (fun _ _ _ h => h) (Or.inl ⟨by kernel_rfl, ?hy20020⟩) (by assumption) ?r20020
      case hy20020 => (intro W hSW; obtain ⟨o0, o1⟩ := hSW; go_simp; try with_reducible rfl)
      try simp only [Act.put, List.getElem_toArray, List.getElem_cons_zero, List.setIfInBounds_toArray, List.set_cons_zero, List.set_cons_succ]
      refine wpAnyL_take (i := 1) (v := ?v20021) rfl (by kernel_rfl) (by kernel_rfl) (by kernel_rfl) (by kernel_rfl) (fun _ _ _ h => h) (Or.inl ⟨by kernel_rfl, ?hy20021⟩) (by assumption) ?r20021
      case hy20021 => (intro W hSW; obtain ⟨o0, o1⟩ := hSW; go_simp; try with_reducible rfl)
      try simp only [Act.put, List.getElem_toArray, List.getElem_cons_zero, List.getElem_cons_succ, List.setIfInBounds_toArray, List.set_cons_zero, List.set_cons_succ]
      refine wpAnyL_take (i := 2) (v := ?v20022) rfl (by kernel_rfl) (by kernel_rfl) (by kernel_rfl) (by kernel_rfl) (fun _ _ _ h => h) (Or.inl ⟨by kernel_rfl, ?hy20022⟩) (by assumption) ?r20022
      case hy20022 => (intro W hSW; obtain ⟨o0, o1⟩ := hSW; go_simp; try with_reducible rfl)
      try simp only [Act.put, List.getElem_toArray, List.getElem_cons_zero, List.getElem_cons_succ, List.setIfInBounds_toArray, List.set_cons_zero, List.set_cons_succ]
      refine wpAnyL_take (i := 3) (v := ?v20023) rfl (by kernel_rfl) (by kernel_rfl) (by kernel_rfl) (by kernel_rfl) (fun _ _ _ h => h) (Or.inl ⟨by kernel_rfl, ?hy20023⟩) (by assumption) ?r20023
      case hy20023 => (intro W hSW; obtain ⟨o0, o1⟩ := hSW; go_simp; try with_reducible rfl)
      try simp only [Act.put, List.getElem_toArray, List.getElem_cons_zero, List.getElem_cons_succ, List.setIfInBounds_toArray, List.set_cons_zero, List.set_cons_succ]
      refine wpAnyL_take (i := 4) (v := ?v20024) rfl (by kernel_rfl) (by kernel_rfl) (by kernel_rfl) (by kernel_rfl) (fun _ _ _ h => h) (Or.inl ⟨by kernel_rfl, ?hy20024⟩) (by assumption) ?r20024
      case hy20024 => (intro W hSW; obtain ⟨o0, o1⟩ := hSW; go_simp; try with_reducible rfl)
      try simp only [Act.put, List.getElem_toArray, List.getElem_cons_zero, List.getElem_cons_succ, List.setIfInBounds_toArray, List.set_cons_zero, List.set_cons_succ]
      refine wpAnyL_take (i := 5) (v := ?v20025) rfl (by kernel_rfl) (by kernel_rfl) (by kernel_rfl) (by kernel_rfl) (fun _ _ _ h => h) (Or.inl ⟨by kernel_rfl, ?hy20025⟩) (by assumption) ?r20025
      case hy20025 => (intro W hSW; obtain ⟨o0, o1⟩ := hSW; go_simp; try with_reducible rfl)
      try simp only [Act.put, List.getElem_toArray, List.getElem_cons_zero, List.getElem_cons_succ, List.setIfInBounds_toArray, List.set_cons_zero, List.set_cons_succ]
      refine wpAnyL_take (i := 6) (v := ?v20026) rfl (by kernel_rfl) (by kernel_rfl) (by kernel_rfl) (by kernel_rfl) (fun _ _ _ h => h) (Or.inl ⟨by kernel_rfl, ?hy20026⟩) (by assumption) ?r20026
      case hy20026 => (intro W hSW; obtain ⟨o0, o1⟩ := hSW; go_simp; try with_reducible rfl)
      try simp only [Act.put, List.getElem_toArray, List.getElem_cons_zero, List.getElem_cons_succ, List.setIfInBounds_toArray, List.set_cons_zero, List.set_cons_succ]
      refine wpAnyL_take (i := 7) (v := ?v20027) rfl (by kernel_rfl) (by kernel_rfl) (by kernel_rfl) (by kernel_rfl) (fun _ _ _ h => h) (Or.inl ⟨by kernel_rfl, ?hy20027⟩) (by assumption) ?r20027
      case hy20027 => (intro W hSW; obtain ⟨o0, o1⟩ := hSW; go_simp; try with_reducible rfl)
      try simp only [Act.put, List.getElem_toArray, List.getElem_cons_zero, List.getElem_cons_succ, List.setIfInBounds_toArray, List.set_cons_zero, List.set_cons_succ]
      refine wpAnyL_take (i := 8) (v := ?v20028) rfl (by kernel_rfl) (by kernel_rfl) (by kernel_rfl) (by kernel_rfl) (fun _ _ _ h => h) (Or.inl ⟨by kernel_rfl, ?hy20028⟩) (by assumption) ?r20028
      case hy20028 => (intro W hSW; obtain ⟨o0, o1⟩ := hSW; go_simp; try with_reducible rfl)
      try simp only [Act.put, List.getElem_toArray, List.getElem_cons_zero, List.getElem_cons_succ, List.setIfInBounds_toArray, List.set_cons_zero, List.set_cons_succ]
      refine wpAnyL_take (i := 9) (v := undef) rfl (by kernel_rfl) (by kernel_rfl) (by kernel_rfl) (by kernel_rfl) (fun _ _ _ h => h) (Or.inr ⟨by kernel_rfl, rfl⟩) (by assumption) ?r20029
      try simp only [Act.put, List.getElem_toArray, List.getElem_cons_zero, List.getElem_cons_succ, List.setIfInBounds_toArray, List.set_cons_zero, List.set_cons_succ]
      refine wpAnyL_take (i := 10) (v := undef) rfl (by kernel_rfl) (by kernel_rfl) (by kernel_rfl) (by kernel_rfl) (fun _ _ _ h => h) (Or.inr ⟨by kernel_rfl, rfl⟩) (by assumption) ?r20030
      try simp only [Act.put, List.getElem_toArray, List.getElem_cons_zero, List.getElem_cons_succ, List.setIfInBounds_toArray, List.set_cons_zero, List.set_cons_succ]
      refine wpAnyL_take (i := 11) (v := undef) rfl (by kernel_rfl) (by kernel_rfl) (by kernel_rfl) (by kernel_rfl) (fun _ _ _ h => h) (Or.inr ⟨by kernel_rfl, rfl⟩) (by assumption) ?r20031
      try simp only [Act.put, List.getElem_toArray, List.getElem_cons_zero, List.getElem_cons_succ, List.setIfInBounds_toArray, List.set_cons_zero, List.set_cons_succ]
      refine wpAnyL_take (i := 12) (v := ?v20032) rfl (by kernel_rfl) (by kernel_rfl) (by kernel_rfl) (by kernel_rfl) (fun _ _ _ h => h) (Or.inl ⟨by kernel_rfl, ?hy20032⟩) (by assumption) ?r20032
      case hy20032 => (intro W hSW; obtain ⟨o0, o1⟩ := hSW; go_simp; try with_reducible rfl)
      try simp only [Act.put, List.getElem_toArray, List.getElem_cons_zero, List.getElem_cons_succ, List.setIfInBounds_toArray, List.set_cons_zero, List.set_cons_succ]
      refine wpAnyL_take (i := 13) (v := ?v20033) rfl (by kernel_rfl) (by kernel_rfl) (by kernel_rfl) (by kernel_rfl) (fun _ _ _ h => h) (Or.inl ⟨by kernel_rfl, ?hy20033⟩) (by assumption) ?r20033
      case hy20033 => (intro W hSW; obtain ⟨o0, o1⟩ := hSW; go_simp; try with_reducible rfl)
      try simp only [Act.put, List.getElem_toArray, List.getElem_cons_zero, List.getElem_cons_succ, List.setIfInBounds_toArray, List.set_cons_zero, List.set_cons_succ]
      refine wpAnyL_take (i := 14) (v := ?v20034) rfl (by kernel_rfl) (by kernel_rfl) (by kernel_rfl) (by kernel_rfl) (fun _ _ _ h => h) (Or.inl ⟨by kernel_rfl, ?hy20034⟩) (by assumption) ?r20034
      case hy20034 => (intro W hSW; obtain ⟨o0, o1⟩ := hSW; go_simp; try with_reducible rfl)
      try simp only [Act.put, List.getElem_toArray, List.getElem_cons_zero, List.getElem_cons_succ, List.setIfInBounds_toArray, List.set_cons_zero, List.set_cons_succ]
      refine wpAnyL_take (i := 15) (v := ?v20035) rfl (by kernel_rfl) (by kernel_rfl) (by kernel_rfl) (by kernel_rfl) (fun _ _ _ h => h) (Or.inl ⟨by kernel_rfl, ?hy20035⟩) (by assumption) ?r20035
      case hy20035 => (intro W hSW; obtain ⟨o0, o1⟩ := hSW; go_simp; try with_reducible rfl)
      try simp only [Act.put, List.getElem_toArray, List.getElem_cons_zero, List.getElem_cons_succ, List.setIfInBounds_toArray, List.set_cons_zero, List.set_cons_succ]
      refine wpAnyL_take (i := 16) (v := ?v20036) rfl (by kernel_rfl) (by kernel_rfl) (by kernel_rfl) (by kernel_rfl) (fun _ _ _ h => h) (Or.inl ⟨by kernel_rfl, ?hy20036⟩) (by assumption) ?r20036
      case hy20036 => (intro W hSW; obtain ⟨o0, o1⟩ := hSW; go_simp; try with_reducible rfl)
      try simp only [Act.put, List.getElem_toArray, List.getElem_cons_zero, List.getElem_cons_succ, List.setIfInBounds_toArray, List.set_cons_zero, List.set_cons_succ]
      refine wpAnyL_one (i := 17) (by kernel_rfl) rfl (by decide) (fun K hK => ?_)
      go_simp
      refine HCl.out.mono ?_
      rintro e u1 ⟨rfl, rfl⟩
      refine hK.out _ _ (⟨y0, y1⟩) (fun hH => ?_)
      clear hK K
      try simp only [Act.put, List.getElem_toArray, List.getElem_cons_zero, List.getElem_cons_succ, List.setIfInBounds_toArray, List.set_cons_zero, List.set_cons_succ]
      refine wpAnyL_take (i := 18) (v := ?v20037) rfl (by kernel_rfl) (by kernel_rfl) (by kernel_rfl) (by kernel_rfl) (fun _ _ _ h => h) (Or.inl ⟨by kernel_rfl, ?hy20037⟩) (by assumption) ?r20037
      case hy20037 => (intro W hSW; obtain ⟨o0, o1⟩ := hSW; go_simp; try with_reducible rfl)
      try simp only [Act.put, List.getElem_toArray, List.getElem_cons_zero, List.getElem_cons_succ, List.setIfInBounds_toArray, List.set_cons_zero, List.set_cons_succ]
      refine wpAnyL_take (i := 19) (v := ?v20038) rfl (by kernel_rfl) (by kernel_rfl) (by kernel_rfl) (by kernel_rfl) (fun _ _ _ h => h) (Or.inl ⟨by kernel_rfl, ?hy20038⟩) (by assumption) ?r20038
      case hy20038 => (intro W hSW; obtain ⟨o0, o1⟩ := hSW; go_simp; try with_reducible rfl)
      try simp only [Act.put, List.getElem_toArray, List.getElem_cons_zero, List.getElem_cons_succ, List.setIfInBounds_toArray, List.set_cons_zero, List.set_cons_succ]
      refine wpAnyL_last (by kernel_rfl) rfl (fun K hK => ?_)
      go_simp
      refine hK.out _ _ ?_
      clear hK K
      try simp only [Act.put, List.getElem_toArray, List.getElem_cons_zero, List.getElem_cons_succ, List.setIfInBounds_toArray, List.set_cons_zero, List.set_cons_succ]
      refine wpAnyL_done (by kernel_rfl) ?_ _
      refine NoPanic.normal ?_
      repeat go_step
      go_meet
      exact ⟨by rw [hk], rfl⟩
    by_cases k6 : x.kind = 6
    · have hk : oldB B2 x = decide (x.period ≤ B2.cl) := by unfold oldB; rw [decide_eq_true k6, Bool.or_true]; rfl
      have e2 : (x.kind == 2) = false := by rw [k6]; rfl
      have e4 : (x.kind == 4) = false := by rw [k6]; rfl
      have e6 : (x.kind == 6) = true := by rw [k6]; rfl
      clear k2 k4 k6
      refine wp_region_noPanic ?_
      refine wp_region_l 20 (fun V : World => V.cell? ⟨w.heap.size, 2, none⟩ = some (i64 x.kind) ∧ V.cell? ⟨w.heap.size, 7, none⟩ = some (i64 x.period)) (by kernel_rfl) (⟨y0, y1⟩) (fun hH => ?_)
      refine wpAnyL_take (i := 0) (v := ?v20039) rfl (by kernel_rfl) (by kernel_rfl) (by kernel_rfl) (by kernel_rfl) (fun _ _ _ h => h) (Or.inl ⟨by kernel_rfl, ?hy20039⟩) (by assumption) ?r20039
      case hy20039 => (intro W hSW; obtain ⟨o0, o1⟩ := hSW; go_simp; try with_reducible rfl)
      try simp only [Act.put, List.getElem_toArray, List.getElem_cons_zero, List.setIfInBounds_toArray, List.set_cons_zero, List.set_cons_succ]
      refine wpAnyL_take (i := 1) (v := ?v20040) rfl (by kernel_rfl) (by kernel_rfl) (by kernel_rfl) (by kernel_rfl) (fun _ _ _ h => h) (Or.inl ⟨by kernel_rfl, ?hy20040⟩) (by assumption) ?r20040
      case hy20040 => (intro W hSW; obtain ⟨o0, o1⟩ := hSW; go_simp; try with_reducible rfl)
      try simp only [Act.put, List.getElem_toArray, List.getElem_cons_zero, List.getElem_cons_succ, List.setIfInBounds_toArray, List.set_cons_zero, List.set_cons_succ]
      refine wpAnyL_take (i := 2) (v := ?v20041) rfl (by kernel_rfl) (by kernel_rfl) (by kernel_rfl) (by kernel_rfl) (fun _ _ _ h => h) (Or.inl ⟨by kernel_rfl, ?hy20041⟩) (by assumption) ?r20041
      case hy20041 => (intro W hSW; obtain ⟨o0, o1⟩ := hSW; go_simp; try with_reducible rfl)
      try simp only [Act.put, List.getElem_toArray, List.getElem_cons_zero, List.getElem_cons_succ, List.setIfInBounds_toArray, List.set_cons_zero, List.set_cons_succ]
      refine wpAnyL_take (i := 3) (v := ?v20042) rfl (by kernel_rfl) (by kernel_rfl) (by kernel_rfl) (by kernel_rfl) (fun _ _ _ h => h) (Or.inl ⟨by kernel_rfl, ?hy20042⟩) (by assumption) ?r20042
      case hy20042 => (intro W hSW; obtain ⟨o0, o1⟩ := hSW; go_simp; try with_reducible rfl)
      try simp only [Act.put, List.getElem_toArray, List.getElem_cons_zero, List.getElem_cons_succ, List.setIfInBounds_toArray, List.set_cons_zero, List.set_cons_succ]
      refine wpAnyL_take (i := 4) (v := ?v20043) rfl (by kernel_rfl) (by kernel_rfl) (by kernel_rfl) (by kernel_rfl) (fun _ _ _ h => h) (Or.inl ⟨by kernel_rfl, ?hy20043⟩) (by assumption) ?r20043
      case hy20043 => (intro W hSW; obtain ⟨o0, o1⟩ := hSW; go_simp; try with_reducible rfl)
      try simp only [Act.put, List.getElem_toArray, List.getElem_cons_zero, List.getElem_cons_succ, List.setIfInBounds_toArray, List.set_cons_zero, List.set_cons_succ]
      refine wpAnyL_take (i := 5) (v := ?v20044) rfl (by kernel_rfl) (by kernel_rfl) (by kernel_rfl) (by kernel_rfl) (fun _ _ _ h => h) (Or.inl ⟨by kernel_rfl, ?hy20044⟩) (by assumption) ?r20044
      case hy20044 => (intro W hSW; obtain ⟨o0, o1⟩ := hSW; go_simp; try with_reducible rfl)
      try simp only [Act.put, List.getElem_toArray, List.getElem_cons_zero, List.getElem_cons_succ, List.setIfInBounds_toArray, List.set_cons_zero, List.set_cons_succ]
      refine wpAnyL_take (i := 6) (v := ?v20045) rfl (by kernel_rfl) (by kernel_rfl) (by kernel_rfl) (by kernel_rfl) (fun _ _ _ h => h) (Or.inl ⟨by kernel_rfl, ?hy20045⟩) (by assumption) ?r20045
      case hy20045 => (intro W hSW; obtain ⟨o0, o1⟩ := hSW; go_simp; try with_reducible rfl)
      try simp only [Act.put, List.getElem_toArray, List.getElem_cons_zero, List.getElem_cons_succ, List.setIfInBounds_toArray, List.set_cons_zero, List.set_cons_succ]
      refine wpAnyL_take (i := 7) (v := ?v20046) rfl (by kernel_rfl) (by kernel_rfl) (by kernel_rfl) (by kernel_rfl) (fun _ _ _ h => h) (Or.inl ⟨by kernel_rfl, ?hy20046⟩) (by assumption) ?r20046
      case hy20046 => (intro W hSW; obtain ⟨o0, o1⟩ := hSW; go_simp; try with_reducible rfl)
      try simp only [Act.put, List.getElem_toArray, List.getElem_cons_zero, List.getElem_cons_succ, List.setIfInBounds_toArray, List.set_cons_zero, List.set_cons_succ]
      refine wpAnyL_take (i := 8) (v := ?v20047) rfl (by kernel_rfl) (by kernel_rfl) (by kernel_rfl) (by kernel_rfl) (fun _ _ _ h => h) (Or.inl ⟨by kernel_rfl, ?hy20047⟩) (by assumption) ?r20047
      case hy20047 => (intro W hSW; obtain ⟨o0, o1⟩ := hSW; go_simp; try with_reducible rfl)
      try simp only [Act.put, List.getElem_toArray, List.getElem_cons_zero, List.getElem_cons_succ, List.setIfInBounds_toArray, List.set_cons_zero, List.set_cons_succ]
      refine wpAnyL_take (i := 9) (v := ?v20048) rfl (by kernel_rfl) (by kernel_rfl) (by kernel_rfl) (by kernel_rfl) (fun _ _ _ h => h) (Or.inl ⟨by kernel_rfl, ?hy20048⟩) (by assumption) ?r20048
      case hy20048 => (intro W hSW; obtain ⟨o0, o1⟩ := hSW; go_simp; try with_reducible rfl)
      try simp only [Act.put, List.getElem_toArray, List.getElem_cons_zero, List.getElem_cons_succ, List.setIfInBounds_toArray, List.set_cons_zero, List.set_cons_succ]
      refine wpAnyL_take (i := 10) (v := ?v20049) rfl (by kernel_rfl) (by kernel_rfl) (by kernel_rfl) (by kernel_rfl) (fun _ _ _ h => h) (Or.inl ⟨by kernel_rfl, ?hy20049⟩) (by assumption) ?r20049
      case hy20049 => (intro W hSW; obtain ⟨o0, o1⟩ := hSW; go_simp; try with_reducible rfl)
      try simp only [Act.put, List.getElem_toArray, List.getElem_cons_zero, List.getElem_cons_succ, List.setIfInBounds_toArray, List.set_cons_zero, List.set_cons_succ]
      refine wpAnyL_take (i := 11) (v := ?v20050) rfl (by kernel_rfl) (by kernel_rfl) (by kernel_rfl) (by kernel_rfl) (fun _ _ _ h => h) (Or.inl ⟨by kernel_rfl, ?hy20050⟩) (by assumption) ?r20050
      case hy20050 => (intro W hSW; obtain ⟨o0, o1⟩ := hSW; go_simp; try with_reducible rfl)
      try simp only [Act.put, List.getElem_toArray, List.getElem_cons_zero, List.getElem_cons_succ, List.setIfInBounds_toArray, List.set_cons_zero, List.set_cons_succ]
      refine wpAnyL_take (i := 12) (v := ?v20051) rfl (by kernel_rfl) (by kernel_rfl) (by kernel_rfl) (by kernel_rfl) (fun _ _ _ h => h) (Or.inl ⟨by kernel_rfl, ?hy20051⟩) (by assumption) ?r20051
      case hy20051 => (intro W hSW; obtain ⟨o0, o1⟩ := hSW; go_simp; try with_reducible rfl)
      try simp only [Act.put, List.getElem_toArray, List.getElem_cons_zero, List.getElem_cons_succ, List.setIfInBounds_toArray, List.set_cons_zero, List.set_cons_succ]
      refine wpAnyL_take (i := 13) (v := ?v20052) rfl (by kernel_rfl) (by kernel_rfl) (by kernel_rfl) (by kernel_rfl) (fun _ _ _ h => h) (Or.inl ⟨by kernel_rfl, ?hy20052⟩) (by assumption) ?r20052
      case hy20052 => (intro W hSW; obtain ⟨o0, o1⟩ := hSW; go_simp; try with_reducible rfl)
      try simp only [Act.put, List.getElem_toArray, List.getElem_cons_zero, List.getElem_cons_succ, List.setIfInBounds_toArray, List.set_cons_zero, List.set_cons_succ]
      refine wpAnyL_take (i := 14) (v := ?v20053) rfl (by kernel_rfl) (by kernel_rfl) (by kernel_rfl) (by kernel_rfl) (fun _ _ _ h => h) (Or.inl ⟨by kernel_rfl, ?hy20053⟩) (by assumption) ?r20053
      case hy20053 => (intro W hSW; obtain ⟨o0, o1⟩ := hSW; go_simp; try with_reducible rfl)
      try simp only [Act.put, List.getElem_toArray, List.getElem_cons_zero, List.getElem_cons_succ, List.setIfInBounds_toArray, List.set_cons_zero, List.set_cons_succ]
      refine wpAnyL_take (i := 15) (v := ?v20054) rfl (by kernel_rfl) (by kernel_rfl) (by kernel_rfl) (by kernel_rfl) (fun _ _ _ h => h) (Or.inl ⟨by kernel_rfl, ?hy20054⟩) (by assumption) ?r20054
      case hy20054 => (intro W hSW; obtain ⟨o0, o1⟩ := hSW; go_simp; try with_reducible rfl)
      try simp only [Act.put, List.getElem_toArray, List.getElem_cons_zero, List.getElem_cons_succ, List.setIfInBounds_toArray, List.set_cons_zero, List.set_cons_succ]
      refine wpAnyL_take (i := 16) (v := ?v20055) rfl (by kernel_rfl) (by kernel_rfl) (by kernel_rfl) (by kernel_rfl) (fun _ _ _ h => h) (Or.inl ⟨by kernel_rfl, ?hy20055⟩) (by assumption) ?r20055
      case hy20055 => (intro W hSW; obtain ⟨o0, o1⟩ := hSW; go_simp; try with_reducible rfl)
      try simp only [Act.put, List.getElem_toArray, List.getElem_cons_zero, List.getElem_cons_succ, List.setIfInBounds_toArray, List.set_cons_zero, List.set_cons_succ]
      refine wpAnyL_one (i := 17) (by kernel_rfl) rfl (by decide) (fun K hK => ?_)
      go_simp
      refine HCl.out.mono ?_
      rintro e u1 ⟨rfl, rfl⟩
      refine hK.out _ _ (⟨y0, y1⟩) (fun hH => ?_)
      clear hK K
      try simp only [Act.put, List.getElem_toArray, List.getElem_cons_zero, List.getElem_cons_succ, List.setIfInBounds_toArray, List.set_cons_zero, List.set_cons_succ]
      refine wpAnyL_take (i := 18) (v := ?v20056) rfl (by kernel_rfl) (by kernel_rfl) (by kernel_rfl) (by kernel_rfl) (fun _ _ _ h => h) (Or.inl ⟨by kernel_rfl, ?hy20056⟩) (by assumption) ?r20056
      case hy20056 => (intro W hSW; obtain ⟨o0, o1⟩ := hSW; go_simp; try with_reducible rfl)
      try simp only [Act.put, List.getElem_toArray, List.getElem_cons_zero, List.getElem_cons_succ, List.setIfInBounds_toArray, List.set_cons_zero, List.set_cons_succ]
      refine wpAnyL_take (i := 19) (v := ?v20057) rfl (by kernel_rfl) (by kernel_rfl) (by kernel_rfl) (by kernel_rfl) (fun _ _ _ h => h) (Or.inl ⟨by kernel_rfl, ?hy20057⟩) (by assumption) ?r20057
      case hy20057 => (intro W hSW; obtain ⟨o0, o1⟩ := hSW; go_simp; try with_reducible rfl)
      try simp only [Act.put, List.getElem_toArray, List.getElem_cons_zero, List.getElem_cons_succ, List.setIfInBounds_toArray, List.set_cons_zero, List.set_cons_succ]
      refine wpAnyL_last (by kernel_rfl) rfl (fun K hK => ?_)
      go_simp
      refine hK.out _ _ ?_
      clear hK K
      try simp only [Act.put, List.getElem_toArray, List.getElem_cons_zero, List.getElem_cons_succ, List.setIfInBounds_toArray, List.set_cons_zero, List.set_cons_succ]
      refine wpAnyL_done (by kernel_rfl) ?_ _
      refine NoPanic.normal ?_
      repeat go_step
      go_meet
      exact ⟨by rw [hk], rfl⟩
    have hk : oldB B2 x = false := by unfold oldB; rw [decide_eq_false k2, decide_eq_false k4, decide_eq_false k6]; rfl
    have e2 : (x.kind == 2) = false := by rw [beq_eq_false_iff_ne]; exact k2
    have e4 : (x.kind == 4) = false := by rw [beq_eq_false_iff_ne]; exact k4
    have e6 : (x.kind == 6) = false := by rw [beq_eq_false_iff_ne]; exact k6
    clear k2 k4 k6
    refine wp_region_noPanic ?_
    refine wp_region_l 20 (fun V : World => V.cell? ⟨w.heap.size, 2, none⟩ = some (i64 x.kind) ∧ V.cell? ⟨w.heap.size, 7, none⟩ = some (i64 x.period)) (by kernel_rfl) (⟨y0, y1⟩) (fun hH => ?_)
    refine wpAnyL_take (i := 0) (v := ?v20058) rfl (by kernel_rfl) (by kernel_rfl) (by kernel_rfl) (by kernel_rfl) (fun _ _ _ h => h) (Or.inl ⟨by kernel_rfl, ?hy20058⟩) (by assumption) ?r20058
    case hy20058 => (intro W hSW; obtain ⟨o0, o1⟩ := hSW; go_simp; try with_reducible rfl)
    try simp only [Act.put, List.getElem_toArray, List.getElem_cons_zero, List.setIfInBounds_toArray, List.set_cons_zero, List.set_cons_succ]
    refine wpAnyL_take (i := 1) (v := ?v20059) rfl (by kernel_rfl) (by kernel_rfl) (by kernel_rfl) (by kernel_rfl) (fun _ _ _ h => h) (Or.inl ⟨by kernel_rfl, ?hy20059⟩) (by assumption) ?r20059
    case hy20059 => (intro W hSW; obtain ⟨o0, o1⟩ := hSW; go_simp; try with_reducible rfl)
    try simp only [Act.put, List.getElem_toArray, List.getElem_cons_zero, List.getElem_cons_succ, List.setIfInBounds_toArray, List.set_cons_zero, List.set_cons_succ]
    refine wpAnyL_take (i := 2) (v := ?v20060) rfl (by kernel_rfl) (by kernel_rfl) (by kernel_rfl) (by kernel_rfl) (fun _ _ _ h => h) (Or.inl ⟨by kernel_rfl, ?hy20060⟩) (by assumption) ?r20060
    case hy20060 => (intro W hSW; obtain ⟨o0, o1⟩ := hSW; go_simp; try with_reducible rfl)
    try simp only [Act.put, List.getElem_toArray, List.getElem_cons_zero, List.getElem_cons_succ, List.setIfInBounds_toArray, List.set_cons_zero, List.set_cons_succ]
    refine wpAnyL_take (i := 3) (v := ?v20061) rfl (by kernel_rfl) (by kernel_rfl) (by kernel_rfl) (by kernel_rfl) (fun _ _ _ h => h) (Or.inl ⟨by kernel_rfl, ?hy20061⟩) (by assumption) ?r20061
    case hy20061 => (intro W hSW; obtain ⟨o0, o1⟩ := hSW; go_simp; try with_reducible rfl)
    try simp only [Act.put, List.getElem_toArray, List.getElem_cons_zero, List.getElem_cons_succ, List.setIfInBounds_toArray, List.set_cons_zero, List.set_cons_succ]
    refine wpAnyL_take (i := 4) (v := ?v20062) rfl (by kernel_rfl) (by kernel_rfl) (by kernel_rfl) (by kernel_rfl) (fun _ _ _ h => h) (Or.inl ⟨by kernel_rfl, ?hy20062⟩) (by assumption) ?r20062
    case hy20062 => (intro W hSW; obtain ⟨o0, o1⟩ := hSW; go_simp; try with_reducible rfl)
    try simp only [Act.put, List.getElem_toArray, List.getElem_cons_zero, List.getElem_cons_succ, List.setIfInBounds_toArray, List.set_cons_zero, List.set_cons_succ]
    refine wpAnyL_take (i := 5) (v := ?v20063) rfl (by kernel_rfl) (by kernel_rfl) (by kernel_rfl) (by kernel_rfl) (fun _ _ _ h => h) (Or.inl ⟨by kernel_rfl, ?hy20063⟩) (by assumption) ?r20063
    case hy20063 => (intro W hSW; obtain ⟨o0, o1⟩ := hSW; go_simp; try with_reducible rfl)
    try simp only [Act.put, List.getElem_toArray, List.getElem_cons_zero, List.getElem_cons_succ, List.setIfInBounds_toArray, List.set_cons_zero, List.set_cons_succ]
    refine wpAnyL_take (i := 6) (v := ?v20064) rfl (by kernel_rfl) (by kernel_rfl) (by kernel_rfl) (by kernel_rfl) (fun _ _ _ h => h) (Or.inl ⟨by kernel_rfl, ?hy20064⟩) (by assumption) ?r20064
    case hy20064 => (intro W hSW; obtain ⟨o0, o1⟩ := hSW; go_simp; try with_reducible rfl)
    try simp only [Act.put, List.getElem_toArray, List.getElem_cons_zero, List.getElem_cons_succ, List.setIfInBounds_toArray, List.set_cons_zero, List.set_cons_succ]
    refine wpAnyL_take (i := 7) (v := ?v20065) rfl (by kernel_rfl) (by kernel_rfl) (by kernel_rfl) (by kernel_rfl) (fun _ _ _ h => h) (Or.inl ⟨by kernel_rfl, ?hy20065⟩) (by assumption) ?r20065
    case hy20065 => (intro W hSW; obtain ⟨o0, o1⟩ := hSW; go_simp; try with_reducible rfl)
    try simp only [Act.put, List.getElem_toArray, List.getElem_cons_zero, List.getElem_cons_succ, List.setIfInBounds_toArray, List.set_cons_zero, List.set_cons_succ]
    refine wpAnyL_take (i := 8) (v := ?v20066) rfl (by kernel_rfl) (by kernel_rfl) (by kernel_rfl) (by kernel_rfl) (fun _ _ _ h => h) (Or.inl ⟨by kernel_rfl, ?hy20066⟩) (by assumption) ?r20066
    case hy20066 => (intro W hSW; obtain ⟨o0, o1⟩ := hSW; go_simp; try with_reducible rfl)
    try simp only [Act.put, List.getElem_toArray, List.getElem_cons_zero, List.getElem_cons_succ, List.setIfInBounds_toArray, List.set_cons_zero, List.set_cons_succ]
    refine wpAnyL_take (i := 9) (v := ?v20067) rfl (by kernel_rfl) (by kernel_rfl) (by kernel_rfl) (by kernel_rfl) (fun _ _ _ h => h) (Or.inl ⟨by kernel_rfl, ?hy20067⟩) (by assumption) ?r20067
    case hy20067 => (intro W hSW; obtain ⟨o0, o1⟩ := hSW; go_simp; try with_reducible rfl)
    try simp only [Act.put, List.getElem_toArray, List.getElem_cons_zero, List.getElem_cons_succ, List.setIfInBounds_toArray, List.set_cons_zero, List.set_cons_succ]
    refine wpAnyL_take (i := 10) (v := ?v20068) rfl (by kernel_rfl) (by kernel_rfl) (by kernel_rfl) (by kernel_rfl) (fun _ _ _ h => h) (Or.inl ⟨by kernel_rfl, ?hy20068⟩) (by assumption) ?r20068
    case hy20068 => (intro W hSW; obtain ⟨o0, o1⟩ := hSW; go_simp; try with_reducible rfl)
    try simp only [Act.put, List.getElem_toArray, List.getElem_cons_zero, List.getElem_cons_succ, List.setIfInBounds_toArray, List.set_cons_zero, List.set_cons_succ]
    refine wpAnyL_take (i := 11) (v := ?v20069) rfl (by kernel_rfl) (by kernel_rfl) (by kernel_rfl) (by kernel_rfl) (fun _ _ _ h => h) (Or.inl ⟨by kernel_rfl, ?hy20069⟩) (by assumption) ?r20069
    case hy20069 => (intro W hSW; obtain ⟨o0, o1⟩ := hSW; go_simp; try with_reducible rfl)
    try simp only [Act.put, List.getElem_toArray, List.getElem_cons_zero, List.getElem_cons_succ, List.setIfInBounds_toArray, List.set_cons_zero, List.set_cons_succ]
    refine wpAnyL_take (i := 12) (v := ?v20070) rfl (by kernel_rfl) (by kernel_rfl) (by kernel_rfl) (by kernel_rfl) (fun _ _ _ h => h) (Or.inl ⟨by kernel_rfl, ?hy20070⟩) (by assumption) ?r20070
    case hy20070 => (intro W hSW; obtain ⟨o0, o1⟩ := hSW; go_simp; try with_reducible rfl)
    try simp only [Act.put, List.getElem_toArray, List.getElem_cons_zero, List.getElem_cons_succ, List.setIfInBounds_toArray, List.set_cons_zero, List.set_cons_succ]
    refine wpAnyL_take (i := 13) (v := ?v20071) rfl (by kernel_rfl) (by kernel_rfl) (by kernel_rfl) (by kernel_rfl) (fun _ _ _ h => h) (Or.inl ⟨by kernel_rfl, ?hy20071⟩) (by assumption) ?r20071
    case hy20071 => (intro W hSW; obtain ⟨o0, o1⟩ := hSW; go_simp; try with_reducible rfl)
    try simp only [Act.put, List.getElem_toArray, List.getElem_cons_zero, List.getElem_cons_succ, List.setIfInBounds_toArray, List.set_cons_zero, List.set_cons_succ]
    refine wpAnyL_take (i := 14) (v := undef) rfl (by kernel_rfl) (by kernel_rfl) (by kernel_rfl) (by kernel_rfl) (fun _ _ _ h => h) (Or.inr ⟨by kernel_rfl, rfl⟩) (by assumption) ?r20072
    try simp only [Act.put, List.getElem_toArray, List.getElem_cons_zero, List.getElem_cons_succ, List.setIfInBounds_toArray, List.set_cons_zero, List.set_cons_succ]
    refine wpAnyL_take (i := 15) (v := undef) rfl (by kernel_rfl) (by kernel_rfl) (by kernel_rfl) (by kernel_rfl) (fun _ _ _ h => h) (Or.inr ⟨by kernel_rfl, rfl⟩) (by assumption) ?r20073
    try simp only [Act.put, List.getElem_toArray, List.getElem_cons_zero, List.getElem_cons_succ, List.setIfInBounds_toArray, List.set_cons_zero, List.set_cons_succ]
    refine wpAnyL_take (i := 16) (v := undef) rfl (by kernel_rfl) (by kernel_rfl) (by kernel_rfl) (by kernel_rfl) (fun _ _ _ h => h) (Or.inr ⟨by kernel_rfl, rfl⟩) (by assumption) ?r20074
    try simp only [Act.put, List.getElem_toArray, List.getElem_cons_zero, List.getElem_cons_succ, List.setIfInBounds_toArray, List.set_cons_zero, List.set_cons_succ]
    refine wpAnyL_take (i := 17) (v := undef) rfl (by kernel_rfl) (by kernel_rfl) (by kernel_rfl) (by kernel_rfl) (fun _ _ _ h => h) (Or.inr ⟨by kernel_rfl, rfl⟩) (by assumption) ?r20075
    try simp only [Act.put, List.getElem_toArray, List.getElem_cons_zero, List.getElem_cons_succ, List.setIfInBounds_toArray, List.set_cons_zero, List.set_cons_succ]
    refine wpAnyL_take (i := 18) (v := undef) rfl (by kernel_rfl) (by kernel_rfl) (by kernel_rfl) (by kernel_rfl) (fun _ _ _ h => h) (Or.inr ⟨by kernel_rfl, rfl⟩) (by assumption) ?r20076
    try simp only [Act.put, List.getElem_toArray, List.getElem_cons_zero, List.getElem_cons_succ, List.setIfInBounds_toArray, List.set_cons_zero, List.set_cons_succ]
    refine wpAnyL_take (i := 19) (v := ?v20077) rfl (by kernel_rfl) (by kernel_rfl) (by kernel_rfl) (by kernel_rfl) (fun _ _ _ h => h) (Or.inl ⟨by kernel_rfl, ?hy20077⟩) (by assumption) ?r20077
    case hy20077 => (intro W hSW; obtain ⟨o0, o1⟩ := hSW; go_simp; try with_reducible rfl)
    try simp only [Act.put, List.getElem_toArray, List.getElem_cons_zero, List.getElem_cons_succ, List.setIfInBounds_toArray, List.set_cons_zero, List.set_cons_succ]
    refine wpAnyL_last (by kernel_rfl) rfl (fun K hK => ?_)
    go_simp
    refine hK.out _ _ ?_
    clear hK K
    try simp only [Act.put, List.getElem_toArray, List.getElem_cons_zero, List.getElem_cons_succ, List.setIfInBounds_toArray, List.set_cons_zero, List.set_cons_succ]
    refine wpAnyL_done (by kernel_rfl) ?_ _
    refine NoPanic.normal ?_
    repeat go_step
    go_meet
    exact ⟨by rw [hk], rfl⟩
  case rest =>
  obtain ⟨rfl, rfl⟩ := hcut
  have hB := hB.later (Below.refl _ _).drew
  have hC := hC.later (Below.refl _ _).drew
  have hr := row_later hr (Below.refl _ _).drew
  have hb := hb.drew
  have z0 := cell_of_row _ g11 0 _ _ (0, 0) hr
  simp only [List.getElem?_toArray, List.getElem?_cons_zero] at z0
  clear y0 y1 HCl
  generalize w11.drew = wx at *
  cases hold : oldB B2 x
  · have hne := hO2.out hold
    have e10 : (Y.err != 10) = true := by simpa using hne
    clear hne hold hB hC
    go_wp2
    go_ret
    exact ⟨rfl, hb⟩
  · obtain ⟨hy, rfl⟩ := hO1.out hold
    clear hold
    have HS := Lib.hid (bsame_c c6 a B3 B3 wx hC hB HI2.out HI2.out)
    rw [sameBk_refl] at HS
    clear hB hC
    rcases hy with hy | hy
    · have e10 : (Y.err == 10) = true := by rw [hy]; rfl
      clear hy
      go_wp2_with fail
      refine HS.out.mono ?_
      rintro e u1 ⟨rfl, hF⟩
      have hb1 := below_on hb (Nat.le_refl _) hF
      clear hF HS hb
      go_wp2
      go_ret
      exact ⟨rfl, hb1⟩
    · have e10 : (Y.err == 10) = false := by rw [hy]; rfl
      have e1 : (Y.err == 1) = true := by rw [hy]; rfl
      clear hy
      go_wp2_with fail
      refine HS.out.mono ?_
      rintro e u1 ⟨rfl, hF⟩
      have hb1 := below_on hb (Nat.le_refl _) hF
      clear hF HS hb
      go_wp2
      go_ret
      exact ⟨rfl, hb1⟩
end Go.Proofs.YtmljlkjomjflpaaGreat
