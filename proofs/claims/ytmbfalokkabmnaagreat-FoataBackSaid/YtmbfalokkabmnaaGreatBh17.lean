/- Texts of this claim, laid together: FoEx, FoAlP, FoMoreP, FoAlQ, Ask10, Lives, OrdC, FoLives, Few11, RDefs. -/
import Derived.Test.YtmbfalokkabmnaaGreatRows
import Derived.Test.YtmbfalokkabmnaaGreatBh16
import Derived.WalkKit
import Derived.WalkSpells
import Derived.WalkLawsBesides
import Derived.Deep.QuietTactic
import Derived.BigQuiet
import Derived.Laws.StructEq
import Derived.Deep.DeepFit
import Derived.StillTailTactics
import Derived.Test.YtmbfalokkabmnaaGreatBh15
import Derived.Test.YtmbfalokkabmnaaGreatBh12
import Derived.Test.YtmbfalokkabmnaaGreatBh5
import Derived.Test.YtmbfalokkabmnaaGreatBh1
import Derived.Test.YtmbfalokkabmnaaGreatBh4
import Derived.Deep.RegionHeld3
import Derived.Test.YtmbfalokkabmnaaGreatBh11
import Derived.Test.YtmbfalokkabmnaaGreatBh10
import Derived.Test.YtmbfalokkabmnaaGreatBh6
import Derived.Test.YtmbfalokkabmnaaGreatBh2

/- foata.Export -/
namespace Go.Proofs.YtmbfalokkabmnaaGreat
open Go.RowKit
theorem stepsL_in {l : List Od} {L : List (SV Od)} (h : L.map SV.l = stepsL l) : L.length ≤ l.length ∧ ∀ x ∈ L, x.l.length ≤ l.length ∧ ∀ y ∈ x.l, y ∈ l := by
  by_cases hv : validL l = true
  · rw [stepsL, if_pos hv] at h
    have hlen : L.length = (stepsV l).length := by rw [← h, List.length_map]
    refine ⟨?_, fun x hx => ?_⟩
    · rw [hlen, stepsV_len]
      have := (most_small l).2
      omega
    · have hm : x.l ∈ stepsV l := by rw [← h]; exact List.mem_map.2 ⟨x, hx, rfl⟩
      obtain ⟨s, hs, e⟩ := List.getElem_of_mem hm
      rw [stepsV_get hs] at e
      have hp : x.l.Perm (partP (levP l) s) := by rw [← e]; exact sortB_perm _
      refine ⟨?_, fun y hy => ?_⟩
      · rw [hp.length_eq]
        unfold partP
        rw [List.length_map]
        have := List.length_filter_le (fun p : Od × Int => decide (p.2 = (s : Int) + 1)) (levP l)
        rw [levP_len] at this
        omega
      · have := hp.mem_iff.1 hy
        obtain ⟨p, hp, rfl⟩ := List.mem_map.1 this
        have h2 : p.1 ∈ (levP l).map (·.1) := List.mem_map.2 ⟨p, (List.mem_filter.1 hp).1, rfl⟩
        rwa [levP_fst] at h2
  · rw [stepsL, if_neg hv] at h
    have : L = [] := List.map_eq_nil_iff.1 h
    subst this
    exact ⟨by simp, by simp⟩
def okX (l : List Od) : Bool := decide (l.length ≤ 200) && validL l
def errX (l : List Od) : Int := if okX l then errW (stepsL l) else 1
def outX (l : List Od) : List UInt8 := if okX l then outW (stepsL l) else []
theorem errX_ok {l : List Od} (h : okX l = true) : errX l = errW (stepsL l) := by unfold errX; rw [if_pos h]
theorem errX_no {l : List Od} (h : okX l = false) : errX l = 1 := by unfold errX; rw [h]; rfl
theorem outX_ok {l : List Od} (h : okX l = true) : outX l = outW (stepsL l) := by unfold outX; rw [if_pos h]
theorem outX_no {l : List Od} (h : okX l = false) : outX l = [] := by unfold outX; rw [h]; rfl
set_option maxRecDepth 100000 in
set_option maxHeartbeats 4000000 in
theorem export_c (A : Option Addr) (c : Nat) (l : List Od) (w : World) (h : Sl w w.heap.size A c l) (hn : l.length ≤ 60000) (hl : ∀ x ∈ l, x.legs.length ≤ 10) (hr : ∀ x ∈ l, InR x) :
    Calls Tryz.prog 10 #[.slice A l.length c] w fun e w' => ∃ v, e = .returned (.tuple #[v, i64 (errX l)]) ∧ Own w' w.heap.size 5 v (outX l) ∧ Below w.heap.size w w' := by
  have hR0 : Calls Tryz.prog 37 #[.slice A l.length c] w fun e w' => e = .returned (.bool (validL l)) ∧ Below w.heap.size w w' := right_c A c l w h (by omega)
  have HR := Lib.hid hR0
  have HS := Lib.hid (fun W (h : Sl W W.heap.size A c l) => steps_c A c l W h hn hl)
  have Hs := Lib.hid h
  have Hr := Lib.hid hr
  have Hl := Lib.hid hl
  have hcap : l.length ≤ c := h.1
  obtain ⟨E, hE⟩ : ∃ E, errX l = E := ⟨_, rfl⟩
  obtain ⟨U, hU⟩ : ∃ U, outX l = U := ⟨_, rfl⟩
  rw [hE, hU]
  have HE := Lib.hid hE
  have HU := Lib.hid hU
  clear h hr hl hE hU hR0
  go_enter Tryz.func10, Tryz.ntmps10
  by_cases hbig : l.length > 200
  · have g1 : decide ((l.length : Int) > 200) = true := decide_eq_true (by omega)
    have g2 : decide (l.length > 200) = true := decide_eq_true hbig
    have g3 : decide (200 < (l.length : Int)) = true := decide_eq_true (by omega)
    have g4 : decide (200 < l.length) = true := decide_eq_true hbig
    have Hno := Lib.hid (show okX l = false by unfold okX; rw [decide_eq_false (by omega)]; rfl)
    clear hbig
    go_wp2
    go_ret2
    obtain rfl : E = 1 := HE.out.symm.trans (errX_no Hno.out)
    obtain rfl : U = [] := HU.out.symm.trans (outX_no Hno.out)
    exact ⟨_, rfl, Own.nil_ _ _ _, by first | exact Below.refl _ _ | exact (Below.refl _ _).drew⟩
  · have g1 : decide ((l.length : Int) > 200) = false := decide_eq_false (by omega)
    have g2 : decide (l.length > 200) = false := decide_eq_false hbig
    have g3 : decide (200 < (l.length : Int)) = false := decide_eq_false (by omega)
    have g4 : decide (200 < l.length) = false := decide_eq_false hbig
    have hsm : l.length ≤ 200 := by omega
    clear hbig
    cases hv : validL l
    · have Hno := Lib.hid (show okX l = false by unfold okX; rw [hv, Bool.and_false])
      have hR := HR.out
      rw [hv] at hR
      have HR := Lib.hid hR
      clear hv hR
      go_wp2_with fail
      refine HR.out.mono ?_
      rintro e w1 ⟨rfl, hb1⟩
      go_wp2
      go_ret2
      obtain rfl : E = 1 := HE.out.symm.trans (errX_no Hno.out)
      obtain rfl : U = [] := HU.out.symm.trans (outX_no Hno.out)
      exact ⟨_, rfl, Own.nil_ _ _ _, hb1⟩
    · have Hok := Lib.hid (show okX l = true by unfold okX; rw [hv, decide_eq_true hsm]; rfl)
      have hR := HR.out
      rw [hv] at hR
      have HR := Lib.hid hR
      clear hv hR
      go_wp2_with fail
      refine HR.out.mono ?_
      rintro e w1 ⟨rfl, hb1⟩
      clear HR
      go_wp2_with fail
      refine (HS.out _ (Hs.out.later hb1)).mono ?_
      rintro e w2 ⟨v, L, rfl, hO, hm, hF⟩
      obtain ⟨A2, c2, rfl, s2⟩ := hO.sl
      have hin := stepsL_in hm
      have HW := Lib.hid (write_c A2 c2 L w2 s2 (by omega) (fun x hx => ⟨by have := (hin.2 x hx).1; omega, fun y hy => ⟨Hl.out y ((hin.2 x hx).2 y hy), Hr.out y ((hin.2 x hx).2 y hy)⟩⟩))
      rw [hm] at HW
      have hb2 := below_on hb1 (Nat.le_refl _) hF
      clear hO hF hm HS hin s2
      go_wp2_with fail
      refine HW.out.mono ?_
      rintro e w3 ⟨v, rfl, hO, hF⟩
      have hb3 := hb2.trans (hF.mono hb2.size)
      have HO := Lib.hid (hO.mono hb2.size)
      clear hO hF
      go_wp2
      go_ret2
      obtain rfl : E = errW (stepsL l) := HE.out.symm.trans (errX_ok Hok.out)
      obtain rfl : U = outW (stepsL l) := HU.out.symm.trans (outX_ok Hok.out)
      exact ⟨v, rfl, HO.out, hb3⟩
end Go.Proofs.YtmbfalokkabmnaaGreat

/- FoataAlike: the plain law -/
namespace Go.Proofs.YtmbfalokkabmnaaGreat
open Go.RowKit
theorem numB_inj {n m : Int} {t u : List UInt8} (hn : R64 n) (hm : R64 m) (h : numB n ++ t = numB m ++ u) : n = m ∧ t = u := by
  have h1 := nuR_enc hn t
  have h2 := nuR_enc hm u
  rw [h, h2] at h1
  injection h1 with a b
  injection a with a _
  injection b with _ b
  exact ⟨a.symm, b.symm⟩
theorem textB_inj {s r : ByteArray} {t u : List UInt8} (hs : s.size ≤ 60000) (hr : r.size ≤ 60000) (h : textB s ++ t = textB r ++ u) : s.data.toList = r.data.toList ∧ t = u := by
  unfold textB at h
  rw [List.append_assoc, List.append_assoc] at h
  obtain ⟨h1, h2⟩ := numB_inj (n := s.size) (m := r.size) ⟨by omega, by omega⟩ ⟨by omega, by omega⟩ h
  have hl : s.data.toList.length = r.data.toList.length := by
    have e1 : s.data.toList.length = s.size := rfl
    have e2 : r.data.toList.length = r.size := rfl
    omega
  exact List.append_inj h2 hl
theorem wrO_inj {x y : Od} {t u : List UInt8} (hx : (bytesB x).length ≤ 60000) (hy : (bytesB y).length ≤ 60000) (h : wrO x ++ t = wrO y ++ u) : bytesB x = bytesB y ∧ t = u := by
  obtain ⟨h1, h2⟩ := textB_inj (s := ⟨(bytesB x).toArray⟩) (r := ⟨(bytesB y).toArray⟩) hx hy h
  exact ⟨by simpa using h1, h2⟩
theorem wrO_K (x : Od) : wrO x.core = wrO x := rfl
theorem wrS_K (s : List Od) : wrS (K s) = wrS s := by
  unfold wrS K
  rw [List.length_map, List.flatMap_map]
  rfl
theorem wrL_K (S : List (List Od)) : wrL (S.map K) = wrL S := by
  unfold wrL
  rw [List.length_map, List.flatMap_map]
  congr 1
  induction S with
  | nil => rfl
  | cons s r ih => rw [List.flatMap_cons, List.flatMap_cons, ih, wrS_K]
theorem flatO_inj : ∀ {a b : List Od} {t u : List UInt8}, a.length = b.length → (∀ x ∈ a, (bytesB x).length ≤ 60000) → (∀ x ∈ b, (bytesB x).length ≤ 60000) → a.flatMap wrO ++ t = b.flatMap wrO ++ u → a.map bytesB = b.map bytesB ∧ t = u
  | [], [], _, _, _, _, _, h => ⟨rfl, by simpa using h⟩
  | [], _ :: _, _, _, hl, _, _, _ => by simp at hl
  | _ :: _, [], _, _, hl, _, _, _ => by simp at hl
  | x :: a, y :: b, t, u, hl, ha, hb, h => by
    rw [List.flatMap_cons, List.flatMap_cons, List.append_assoc, List.append_assoc] at h
    obtain ⟨h1, h2⟩ := wrO_inj (ha x (List.mem_cons_self ..)) (hb y (List.mem_cons_self ..)) h
    obtain ⟨h3, h4⟩ := flatO_inj (by simpa using hl) (fun z hz => ha z (List.mem_cons_of_mem _ hz)) (fun z hz => hb z (List.mem_cons_of_mem _ hz)) h2
    exact ⟨by rw [List.map_cons, List.map_cons, h1, h3], h4⟩
theorem wrS_inj {a b : List Od} {t u : List UInt8} (hla : a.length ≤ 60000) (hlb : b.length ≤ 60000) (ha : ∀ x ∈ a, (bytesB x).length ≤ 60000) (hb : ∀ x ∈ b, (bytesB x).length ≤ 60000) (h : wrS a ++ t = wrS b ++ u) : a.map bytesB = b.map bytesB ∧ t = u := by
  unfold wrS at h
  rw [List.append_assoc, List.append_assoc] at h
  obtain ⟨h1, h2⟩ := numB_inj (n := a.length) (m := b.length) ⟨by omega, by omega⟩ ⟨by omega, by omega⟩ h
  exact flatO_inj (by omega) ha hb h2
def smB (S : List (List Od)) : Prop := ∀ s ∈ S, s.length ≤ 60000 ∧ ∀ x ∈ s, (bytesB x).length ≤ 60000
theorem flatS_inj : ∀ {S T : List (List Od)} {t u : List UInt8}, S.length = T.length → smB S → smB T → S.flatMap wrS ++ t = T.flatMap wrS ++ u → S.map (fun s => s.map bytesB) = T.map (fun s => s.map bytesB) ∧ t = u
  | [], [], _, _, _, _, _, h => ⟨rfl, by simpa using h⟩
  | [], _ :: _, _, _, hl, _, _, _ => by simp at hl
  | _ :: _, [], _, _, hl, _, _, _ => by simp at hl
  | x :: a, y :: b, t, u, hl, ha, hb, h => by
    rw [List.flatMap_cons, List.flatMap_cons, List.append_assoc, List.append_assoc] at h
    have hx := ha x (List.mem_cons_self ..)
    have hy := hb y (List.mem_cons_self ..)
    obtain ⟨h1, h2⟩ := wrS_inj hx.1 hy.1 hx.2 hy.2 h
    obtain ⟨h3, h4⟩ := flatS_inj (by simpa using hl) (fun z hz => ha z (List.mem_cons_of_mem _ hz)) (fun z hz => hb z (List.mem_cons_of_mem _ hz)) h2
    exact ⟨by rw [List.map_cons, List.map_cons, h1, h3], h4⟩
/-- what is written says what was written -/
theorem wrL_inj {S T : List (List Od)} (hS : S.length ≤ 60000) (hT : T.length ≤ 60000) (hs : smB S) (ht : smB T) (h : wrL S = wrL T) : S.map (fun s => s.map bytesB) = T.map (fun s => s.map bytesB) := by
  unfold wrL at h
  have h' : numB S.length ++ (S.flatMap wrS ++ []) = numB T.length ++ (T.flatMap wrS ++ []) := by rw [List.append_nil, List.append_nil]; exact h
  obtain ⟨h1, h2⟩ := numB_inj (n := S.length) (m := T.length) ⟨by omega, by omega⟩ ⟨by omega, by omega⟩ h'
  exact (flatS_inj (by omega) hs ht h2).1
end Go.Proofs.YtmbfalokkabmnaaGreat

/- FoataMore: the plain law -/
namespace Go.Proofs.YtmbfalokkabmnaaGreat
open Go.RowKit
theorem sort_unique_val {l m : List Od} (hp : l.Perm m) (hv : Val l) (hl : SortedB ltO l) (hm : SortedB ltO m) : l = m :=
  sorted_unique hp hl hm fun _a ha _b hb h1 h2 => hv.inj ha hb (ltO_tri h1 h2)
/-- one order more: its step, and the others -/
theorem step_more {M : List Od} {o : Od} (hv : Val (M ++ [o])) (i : Nat) :
    (stepP (levP (M ++ [o])) i).filter (fun x => !decide (x.id = o.id)) = stepP (levP M) i ∧ ((o ∈ stepP (levP (M ++ [o])) i) ↔ (i : Int) + 1 = lvAt (levP M) o) := by
  have hM : Val M := hv.sub (List.sublist_append_left _ _)
  have hno : ∀ y ∈ M, y.id ≠ o.id := fun y hy => by
    have := (List.pairwise_append.1 hv).2.2 y hy o (List.mem_singleton.2 rfl)
    exact this
  have hmem : ∀ y, y ∈ stepP (levP M) i → y ∈ M := fun y hy => by
    rw [mem_step] at hy
    have : y ∈ (levP M).map (·.1) := List.mem_map.2 ⟨_, hy, rfl⟩
    rwa [levP_fst] at this
  have hoM : o ∉ M := fun h => hno o h rfl
  refine ⟨?_, ?_⟩
  · refine sort_unique_val ?_ ?_ ?_ (sortB_sorted strictO _)
    · unfold stepP
      have h1 : (sortB ltO (((levP (M ++ [o])).filter fun p => decide (p.2 = (i : Int) + 1)).map (·.1))).Perm (((levP (M ++ [o])).filter fun p => decide (p.2 = (i : Int) + 1)).map (·.1)) := sortB_perm _
      refine (h1.filter _).trans (List.Perm.trans ?_ (sortB_perm _).symm)
      rw [levP_snoc, List.filter_append, List.map_append, List.filter_append]
      have e1 : (((levP M).filter fun p => decide (p.2 = (i : Int) + 1)).map (·.1)).filter (fun x => !decide (x.id = o.id)) = ((levP M).filter fun p => decide (p.2 = (i : Int) + 1)).map (·.1) := by
        rw [List.filter_eq_self]
        intro y hy
        have : y ∈ M := hmem y ((sortB_perm _).mem_iff.2 hy)
        simpa using hno y this
      rw [e1]
      have e2 : ((([(o, lvAt (levP M) o)] : List (Od × Int)).filter fun p => decide (p.2 = (i : Int) + 1)).map (·.1)).filter (fun x => !decide (x.id = o.id)) = [] := by
        rw [List.filter_eq_nil_iff]
        intro y hy
        obtain ⟨p, hp, rfl⟩ := List.mem_map.1 hy
        have := List.mem_singleton.1 (List.mem_filter.1 hp).1
        subst this
        simp
      rw [e2, List.append_nil]
    · exact (show Val (stepP (levP (M ++ [o])) i) from by
        have := step_srt (P := levP (M ++ [o])) (by rw [levP_fst]; exact hv) i
        exact this.imp fun h => ltO_irr_id h).sub List.filter_sublist
    · exact List.Pairwise.sublist List.filter_sublist (sortB_sorted strictO _)
  · rw [mem_step, levP_snoc, List.mem_append]
    constructor
    · rintro (h | h)
      · have : o ∈ (levP M).map (·.1) := List.mem_map.2 ⟨_, h, rfl⟩
        rw [levP_fst] at this
        exact absurd this hoM
      · have := List.mem_singleton.1 h
        injection this
    · intro h
      right
      rw [h]
      exact List.mem_singleton.2 rfl
/-- the first step behind all that clash: as the statement finds it -/
def wantF (o : Od) : List (List Od) → Nat → Nat → Nat
  | [], _, w => w
  | s :: r, i, w => wantF o r (i + 1) (if s.any (fun x => clashB x o) then i + 1 else w)
theorem wantF_spec (o : Od) : ∀ (S : List (List Od)) (i w : Nat), w ≤ i → (∀ k (hk : k < S.length), (S[k].any (fun x => clashB x o)) = true → i + k + 1 ≤ wantF o S i w) ∧ w ≤ wantF o S i w ∧ (wantF o S i w = w ∨ ∃ k, ∃ hk : k < S.length, (S[k].any (fun x => clashB x o)) = true ∧ wantF o S i w = i + k + 1)
  | [], i, w, _ => ⟨fun k hk => absurd hk (by simp), Nat.le_refl _, .inl rfl⟩
  | s :: r, i, w, hw => by
    unfold wantF
    by_cases hs : s.any (fun x => clashB x o) = true
    · rw [if_pos hs]
      obtain ⟨h1, h2, h3⟩ := wantF_spec o r (i + 1) (i + 1) (Nat.le_refl _)
      refine ⟨fun k hk hc => ?_, by omega, ?_⟩
      · cases k with
        | zero => omega
        | succ k =>
          rw [List.getElem_cons_succ] at hc
          have := h1 k (by simpa using hk) hc
          omega
      · rcases h3 with h3 | ⟨k, hk, hc, e⟩
        · exact .inr ⟨0, by simp, hs, h3⟩
        · exact .inr ⟨k + 1, by simpa using hk, by rw [List.getElem_cons_succ]; exact hc, by omega⟩
    · rw [if_neg hs]
      obtain ⟨h1, h2, h3⟩ := wantF_spec o r (i + 1) w (by omega)
      refine ⟨fun k hk hc => ?_, h2, ?_⟩
      · cases k with
        | zero => exact absurd hc (by simpa using hs)
        | succ k =>
          rw [List.getElem_cons_succ] at hc
          have := h1 k (by simpa using hk) hc
          omega
      · rcases h3 with h3 | ⟨k, hk, hc, e⟩
        · exact .inl h3
        · exact .inr ⟨k + 1, by simpa using hk, by rw [List.getElem_cons_succ]; exact hc, by omega⟩
theorem want_lv {M : List Od} {o : Od} : ((wantF o (stepsV M) 0 0 : Nat) : Int) + 1 = lvAt (levP M) o := by
  obtain ⟨h1, _, h3⟩ := wantF_spec o (stepsV M) 0 0 (Nat.le_refl _)
  have up : ∀ p ∈ levP M, clashB p.1 o = true → p.2 ≤ (wantF o (stepsV M) 0 0 : Int) := fun p hp hc => by
    have hs := levP_small hp
    have hm := most_le hp
    have hk : (p.2 - 1).toNat < (stepsV M).length := by rw [stepsV_len]; omega
    have := h1 (p.2 - 1).toNat hk (by
      rw [stepsV_get hk, List.any_eq_true]
      exact ⟨p.1, mem_step.2 (by rw [show (((p.2 - 1).toNat : Nat) : Int) + 1 = p.2 from by omega]; exact hp), hc⟩)
    omega
  rcases h3 with h3 | ⟨k, hk, hc, e⟩
  · rw [h3]
    rcases lvAt_ex (levP M) o with e | ⟨p, hp, hc, e⟩
    · rw [e]; rfl
    · have := up p hp hc
      have h5 := (levP_small hp).1
      rw [h3] at this
      omega
  · rw [stepsV_get hk, List.any_eq_true] at hc
    obtain ⟨x, hx, hc⟩ := hc
    rw [mem_step] at hx
    have h4 := lvAt_lt hx hc
    have h4 : (k : Int) + 1 < lvAt (levP M) o := h4
    rcases lvAt_ex (levP M) o with e2 | ⟨p, hp, hc, e2⟩
    · omega
    · have := up p hp hc
      omega
/-- what the statement finds: the step behind all that clash -/
def wantU (o : Od) (S : List (List Od)) : Nat := wantF o S 0 0
theorem wantF_app (o : Od) : ∀ (S T : List (List Od)) (i w : Nat), wantF o (S ++ T) i w = wantF o T (i + S.length) (wantF o S i w)
  | [], T, i, w => by rw [List.nil_append, List.length_nil, Nat.add_zero]; rfl
  | s :: S, T, i, w => by
    rw [List.cons_append, List.length_cons]
    unfold wantF
    rw [wantF_app o S T, show i + 1 + S.length = i + (S.length + 1) by omega]
    cases T <;> rfl
theorem wantU_next (o : Od) {S : List (List Od)} {k : Nat} (hk : k < S.length) : wantU o (S.take (k + 1)) = if S[k].any (fun x => clashB x o) then k + 1 else wantU o (S.take k) := by
  unfold wantU
  rw [List.take_succ_eq_append_getElem hk, wantF_app, List.length_take, Nat.min_eq_left (Nat.le_of_lt hk), Nat.zero_add]
  rfl
theorem wantU_le (o : Od) (S : List (List Od)) : wantU o S ≤ S.length := by
  obtain ⟨_, _, h⟩ := wantF_spec o S 0 0 (Nat.le_refl _)
  unfold wantU
  rcases h with h | ⟨k, hk, _, e⟩ <;> omega
theorem most_snoc (P : List (Od × Int)) (p : Od × Int) : mostP (P ++ [p]) = max (mostP P) p.2 := by
  unfold mostP
  rw [List.foldl_append]
  show (if _ < p.2 then p.2 else _) = _
  split <;> omega
theorem more_plain {M : List Od} {o : Od} (hv : Val (M ++ [o])) {S1 S2 : List (SV Od)} (h1 : S1.map SV.l = stepsL M) (h2 : S2.map SV.l = stepsL (M ++ [o])) :
    S2.length = max S1.length (wantU o (S1.map SV.l) + 1) ∧ ∀ i (hi : i < S2.length), (∀ h : i < S1.length, (S2[i].l.filter (fun x => !decide (x.id = o.id))) = S1[i].l) ∧ (((S2[i].l.filter (fun x => !decide (x.id = o.id))).length < S2[i].l.length) ↔ i = wantU o (S1.map SV.l)) := by
  have hM : Val M := hv.sub (List.sublist_append_left _ _)
  have e1 : stepsL M = stepsV M := by unfold stepsL; rw [if_pos (validL_iff.2 hM)]
  have e2 : stepsL (M ++ [o]) = stepsV (M ++ [o]) := by unfold stepsL; rw [if_pos (validL_iff.2 hv)]
  rw [e1] at h1
  rw [e2] at h2
  have l1 : S1.length = (stepsV M).length := by rw [← h1, List.length_map]
  have l2 : S2.length = (stepsV (M ++ [o])).length := by rw [← h2, List.length_map]
  have hw : ((wantU o (S1.map SV.l) : Nat) : Int) + 1 = lvAt (levP M) o := by rw [h1]; exact want_lv
  have hg1 : ∀ i (h : i < S1.length), S1[i].l = stepP (levP M) i := fun i h => by
    have e : (S1.map SV.l)[i]? = (stepsV M)[i]? := by rw [h1]
    rw [List.getElem?_eq_getElem (by rw [List.length_map]; exact h), List.getElem?_eq_getElem (by omega), List.getElem_map, stepsV_get] at e
    exact Option.some.inj e
  have hg2 : ∀ i (h : i < S2.length), S2[i].l = stepP (levP (M ++ [o])) i := fun i h => by
    have e : (S2.map SV.l)[i]? = (stepsV (M ++ [o]))[i]? := by rw [h2]
    rw [List.getElem?_eq_getElem (by rw [List.length_map]; exact h), List.getElem?_eq_getElem (by omega), List.getElem_map, stepsV_get] at e
    exact Option.some.inj e
  refine ⟨?_, fun i hi => ?_⟩
  · rw [l1, l2, stepsV_len, stepsV_len, levP_snoc, most_snoc]
    show (max (mostP (levP M)) (lvAt (levP M) o)).toNat = _
    omega
  · obtain ⟨a, b⟩ := step_more hv i
    rw [hg2 i hi]
    refine ⟨fun h => by rw [a, hg1 i h], ?_⟩
    constructor
    · intro hlt
      have : o ∈ stepP (levP (M ++ [o])) i := by
        obtain ⟨x, hx, hxo⟩ := List.length_filter_lt_length_iff_exists.1 hlt
        have hid : x.id = o.id := by simpa using hxo
        have hxm : x ∈ M ++ [o] := by
          rw [mem_step] at hx
          have : x ∈ (levP (M ++ [o])).map (·.1) := List.mem_map.2 ⟨_, hx, rfl⟩
          rwa [levP_fst] at this
        have : x = o := hv.inj hxm (by simp) hid
        rw [this] at hx; exact hx
      have := b.1 this
      omega
    · intro e
      exact List.length_filter_lt_length_iff_exists.2 ⟨o, b.2 (by omega), by simp⟩
theorem more_at {L : List Od} {k : Nat} (hk : L.length = k + 1) (hv : Val L) {S1 S2 : List (SV Od)} (h1 : S1.map SV.l = stepsL (L.take k)) (h2 : S2.map SV.l = stepsL L) :
    S2.length = max S1.length (wantU (L[k]'(by omega)) (S1.map SV.l) + 1) ∧ ∀ i (hi : i < S2.length), (∀ h : i < S1.length, (S2[i].l.filter (fun x => !decide (x.id = (L[k]'(by omega)).id))) = S1[i].l) ∧ (((S2[i].l.filter (fun x => !decide (x.id = (L[k]'(by omega)).id))).length < S2[i].l.length) ↔ i = wantU (L[k]'(by omega)) (S1.map SV.l)) := by
  have hkl : k < L.length := by omega
  have e : L.take k ++ [L[k]] = L := by rw [← List.take_succ_eq_append_getElem hkl, ← hk, List.take_length]
  exact more_plain (M := L.take k) (o := L[k]) (by rw [e]; exact hv) h1 (by rw [e]; exact h2)
/-- the step behind all that clash, of the first steps alone -/
def wantS (o : Od) (S : List (SV Od)) (n : Nat) : Nat := wantU o ((S.take n).map SV.l)
theorem wantS_zero (o : Od) (S : List (SV Od)) : wantS o S 0 = 0 := rfl
theorem wantS_all (o : Od) (S : List (SV Od)) : wantS o S S.length = wantU o (S.map SV.l) := by unfold wantS; rw [List.take_length]
theorem wantS_next (o : Od) {S : List (SV Od)} {k : Nat} (hk : k < S.length) : wantS o S (k + 1) = if S[k].l.any (fun x => clashB x o) then k + 1 else wantS o S k := by
  unfold wantS
  rw [List.map_take, List.map_take, wantU_next o (by rw [List.length_map]; exact hk), List.getElem_map]
theorem wantS_le (o : Od) (S : List (SV Od)) (n : Nat) : wantS o S n ≤ S.length := by
  have := wantU_le o ((S.take n).map SV.l)
  unfold wantS
  rw [List.length_map, List.length_take] at this
  omega
theorem filter_next {l : List Od} {f : Od → Bool} {p : Nat} (hp : p < l.length) : (l.take (p + 1)).filter f = (l.take p).filter f ++ (if f l[p] then [l[p]] else []) := by
  rw [List.take_succ_eq_append_getElem hp, List.filter_append]
  cases h : f l[p] <;> simp [h]
theorem filter_len_le (l : List Od) (f : Od → Bool) (p : Nat) : ((l.take p).filter f).length ≤ l.length :=
  Nat.le_trans (List.length_filter_le _ _) (by rw [List.length_take]; omega)
theorem row_on {w w' : World} {g : Nat} {o : Obj} (h : w.heap[g]? = some o) (hb : Below w.heap.size w w') : w'.heap[g]? = some o := (hb.block g (Array.getElem?_eq_some_iff.1 h).1).trans h
end Go.Proofs.YtmbfalokkabmnaaGreat

/- FoataAlike: the plain law, joined -/
namespace Go.Proofs.YtmbfalokkabmnaaGreat
open Go.RowKit
theorem alike_len2 {a b : List Od} (h : alikeB a b = true) : a.length = b.length ∧ Beg (K a) (K b) := by
  unfold alikeB at h
  simp only [Bool.and_eq_true, decide_eq_true_eq] at h
  exact ⟨h.1, beginsB_K.1 h.2⟩
theorem lvAt_K (P : List (Od × Int)) (o : Od) : lvAt (P.map fun p => (p.1.core, p.2)) o.core = lvAt P o := by
  unfold lvAt
  rw [List.foldl_map]
  rfl
theorem levP_K (l : List Od) : levP (K l) = (levP l).map fun p => (p.1.core, p.2) := by
  rw [show l = l.reverse.reverse by rw [List.reverse_reverse]]
  induction l.reverse with
  | nil => rfl
  | cons o r ih =>
    have e : (o :: r).reverse = r.reverse ++ [o] := by rw [List.reverse_cons]
    rw [e, show K (r.reverse ++ [o]) = K r.reverse ++ [o.core] by unfold K; rw [List.map_append]; rfl, levP_snoc, levP_snoc, ih, List.map_append, lvAt_K]
    rfl
theorem mostP_K (P : List (Od × Int)) : mostP (P.map fun p => (p.1.core, p.2)) = mostP P := by
  unfold mostP
  rw [List.foldl_map]
theorem stepP_K {l : List Od} (hv : Val l) (s : Nat) : stepP (levP (K l)) s = K (stepP (levP l) s) := by
  have hm : ((levP (K l)).filter fun p => decide (p.2 = (s : Int) + 1)).map (·.1) = K (((levP l).filter fun p => decide (p.2 = (s : Int) + 1)).map (·.1)) := by
    rw [levP_K, List.filter_map, List.map_map]
    unfold K
    rw [List.map_map]
    rfl
  have hvk : Val (K (stepP (levP l) s)) := valK (by
    have h := step_srt (P := levP l) (by rw [levP_fst]; exact hv) s
    exact h.imp fun h => ltO_irr_id h)
  have hp : (stepP (levP (K l)) s).Perm (K (stepP (levP l) s)) := by
    unfold stepP
    rw [hm]
    exact (sortB_perm _).trans ((sortB_perm _).symm.map _)
  refine (sort_unique_val hp.symm hvk ?_ ?_).symm
  · have : SortedB ltO (stepP (levP l) s) := sortB_sorted strictO _
    exact List.pairwise_map.2 (this.imp fun h => h)
  · exact sortB_sorted strictO _
theorem stepsV_K {l : List Od} (hv : Val l) : stepsV (K l) = (stepsV l).map K := by
  refine List.ext_getElem (by rw [List.length_map, stepsV_len, stepsV_len, levP_K, mostP_K]) fun i h1 h2 => ?_
  rw [stepsV_get h1, List.getElem_map, stepsV_get, stepP_K hv]
theorem alike_writes {a b : List Od} (hva : Val a) (hvb : Val b) (h : alikeB a b = true) : wrL (stepsV a) = wrL (stepsV b) := by
  obtain ⟨hl, hb⟩ := alike_len2 h
  obtain ⟨m, hm, hk⟩ := alike_mix hb hl hva hvb
  have hvm : Val m := validL_iff.1 (by rw [← validL_core, hk, validL_core]; exact validL_iff.2 hvb)
  rw [stepsV_mix hm hva, ← wrL_K, ← stepsV_K hvm, hk, stepsV_K hvb, wrL_K]
theorem core_of_bytes {x y : Od} (hx : rightB x = true) (hy : rightB y = true) (rx : InR x) (ry : InR y) (h : bytesB x = bytesB y) : x.core = y.core := by
  have h1 := (back_law1 hx rx).2
  have h2 := (back_law1 hy ry).2
  rw [← h1, ← h2, h]
theorem K_of_bytes {s : List Od} (h : ∀ x ∈ s, rightB x = true ∧ InR x) : K s = (s.map bytesB).map rawO := by
  rw [List.map_map]
  exact (List.map_congr_left fun x hx => (back_law1 (h x hx).1 (h x hx).2).2).symm
theorem writes_alike {a b : List Od} (hva : Val a) (hvb : Val b) (ha : ∀ x ∈ a, rightB x = true ∧ InR x) (hb : ∀ x ∈ b, rightB x = true ∧ InR x) (hna : a.length ≤ 60000) (hnb : b.length ≤ 60000) (h : wrL (stepsV a) = wrL (stepsV b)) : alikeB a b = true := by
  have mem : ∀ {l : List Od} {s : List Od}, s ∈ stepsV l → ∀ y ∈ s, y ∈ l := fun {l} {s} hs y hy => by
    have : y ∈ layL (stepsV l) := by unfold layL; exact List.mem_flatten.2 ⟨s, hs, hy⟩
    exact (lay_perm l).mem_iff.1 this
  have len : ∀ {l : List Od}, l.length ≤ 60000 → (stepsV l).length ≤ 60000 := fun {l} hn => by
    rw [stepsV_len]
    have := (most_small l).2
    omega
  have slen : ∀ {l : List Od} {s : List Od}, s ∈ stepsV l → s.length ≤ l.length := fun {l} {s} hs => by
    have h1 : s.length ≤ (layL (stepsV l)).length := by
      unfold layL
      exact (List.sublist_flatten_of_mem hs).length_le
    rwa [(lay_perm l).length_eq] at h1
  have sm : ∀ {l : List Od}, (∀ x ∈ l, rightB x = true ∧ InR x) → l.length ≤ 60000 → smB (stepsV l) := fun {l} hr hn s hs =>
    ⟨Nat.le_trans (slen hs) hn, fun x hx => bytesB_le (hr x (mem hs x hx)).1 (hr x (mem hs x hx)).2⟩
  have hi := wrL_inj (len hna) (len hnb) (sm ha hna) (sm hb hnb) h
  have hk : ∀ {l : List Od}, (∀ x ∈ l, rightB x = true ∧ InR x) → (stepsV l).map K = ((stepsV l).map fun s => s.map bytesB).map fun s => s.map rawO := fun {l} hr => by
    rw [List.map_map]
    exact List.map_congr_left fun s hs => K_of_bytes fun x hx => hr x (mem hs x hx)
  have he : stepsV (K a) = stepsV (K b) := by rw [stepsV_K hva, stepsV_K hvb, hk ha, hk hb, hi]
  have b1 := lay_beg (valK hva)
  have b2 := lay_beg (valK hvb)
  have l1 := (lay_perm (K a)).length_eq
  have l2 := (lay_perm (K b)).length_eq
  rw [he] at b1 l1
  have hl : a.length = b.length := by
    rw [l1] at l2
    simpa using l2
  have hbg : Beg (K a) (K b) := b1.trans (b2.symm (by rw [l2]; exact Nat.le_refl _))
  unfold alikeB
  simp only [Bool.and_eq_true, decide_eq_true_eq]
  exact ⟨hl, beginsB_K.2 hbg⟩
theorem okW_all {l : List Od} (h : okW (stepsV l) = true) : ∀ x ∈ l, rightB x = true := fun x hx => by
  have hm : x ∈ layL (stepsV l) := (lay_perm l).mem_iff.2 hx
  unfold layL at hm
  obtain ⟨s, hs, hxs⟩ := List.mem_flatten.1 hm
  unfold okW at h
  exact List.all_eq_true.1 (List.all_eq_true.1 h s hs) x hxs
end Go.Proofs.YtmbfalokkabmnaaGreat

/- ask -/
namespace Go.Proofs.YtmbfalokkabmnaaGreat
open Go.RowKit
/-- an Ask of an account -/
def askOd (seq : Int) (acct : ByteArray) : Od := ⟨0, seq, 7, acct, ⟨#[]⟩, 0, none, 0, [], 0, 0, ⟨#[]⟩⟩
end Go.Proofs.YtmbfalokkabmnaaGreat

/- lives -/
namespace Go.Proofs.YtmbfalokkabmnaaGreat
open Go.RowKit
/-- the list of lives, and what clash.Swap makes of it -/
def livesL : List Od := [askOd 1 ⟨#[97]⟩, askOd 2 ⟨#[98]⟩, askOd 3 ⟨#[98]⟩]
def livesM : List Od := [askOd 2 ⟨#[98]⟩, askOd 1 ⟨#[97]⟩, askOd 3 ⟨#[98]⟩]
theorem lives_ok : swapOk livesL 0 = true := by kernel_rfl
theorem lives_r : swapR livesL 0 = livesM := by kernel_rfl
theorem lives_no : swapOk livesL 1 = false := by kernel_rfl
theorem lives_alike : alikeB livesL livesM = true := by kernel_rfl
theorem lives_begins : beginsB (livesL.take 1) livesM = true := by kernel_rfl
theorem lives_clash : clashB (askOd 2 ⟨#[98]⟩) (askOd 3 ⟨#[98]⟩) = true := by kernel_rfl
theorem lives_not : beginsB (livesL.drop 2) livesM = false := by kernel_rfl
theorem lives_few {l : List Od} (h : l.all (fun x => decide (x.legs.length ≤ 10)) = true) : fewLegs l := fun x hx => of_decide_eq_true (List.all_eq_true.1 h x hx)
theorem askOd_okb (s : Int) (c : UInt8) (w : World) (n : Nat) : Okb w n (askOd s ⟨#[c]⟩) := ⟨by simp [askOd, ByteArray.size, maxLen], by simp [askOd, ByteArray.size, maxLen], by simp [askOd, ByteArray.size, maxLen], SlS.nil_ _ _⟩

end Go.Proofs.YtmbfalokkabmnaaGreat

/- law06.ask, ref02.Same, order.Number, order.Ahead: small ones; concrete facts; law06.lives -/
namespace Go.Proofs.YtmbfalokkabmnaaGreat
open Go.RowKit
set_option maxRecDepth 100000 in
set_option maxHeartbeats 1000000 in
theorem same2_c (A B : Option Addr) (c d : Nat) (l m : List UInt8) (w : World) (h : Sl w w.heap.size A c l) (k : Sl w w.heap.size B d m) :
    Calls Tryz.prog 15 #[.slice A l.length c, .slice B m.length d] w fun e w' => e = .returned (.bool (l == m)) ∧ Below w.heap.size w w' := by
  have c1 := conv_bytes h
  have c2 := conv_bytes k
  clear h k
  go_enter Tryz.func15, Tryz.ntmps15
  go_wp2
  go_ret
  exact ⟨rfl, Below.refl _ _⟩
abbrev askO : Od := askOd 1 ⟨#[97]⟩
abbrev askBs : List UInt8 := [0, 2, 14, 2, 97, 0, 0, 0, 0, 0, 0]
theorem ask_right : rightB askO = true := by kernel_rfl
theorem ask_bytes : bytesB askO = askBs := by kernel_rfl
theorem ask_ok : readOk askBs = true := by kernel_rfl
theorem ask_read : readO askBs = askO := by kernel_rfl
theorem ask_okb (W : World) (n : Nat) : Okb W n askO := ⟨by decide, by decide, by decide, SlS.nil_ _ _⟩
theorem sameB_la (a : Option Addr) (c : Nat) : sameB ({ askO with la := a, lc := c } : Od) askO = true := sameB_core.2 rfl
theorem ask_inr : InR askO := ⟨by unfold R64; decide, by unfold R64; decide, by unfold R64; decide, by unfold R64; decide, by unfold R64; decide, by unfold R64; decide, fun l hl => by simp [askOd] at hl⟩
end Go.Proofs.YtmbfalokkabmnaaGreat

/- law11: ask, lives -/
namespace Go.Proofs.YtmbfalokkabmnaaGreat
open Go.RowKit
set_option maxRecDepth 100000 in
set_option maxHeartbeats 400000 in
theorem ask_11 (seq : Int) (acct : ByteArray) (w : World) :
    Calls Tryz.prog 36 #[i64 seq, .string acct] w fun e w' => e = .returned (askOd seq acct).v ∧ Below w.heap.size w w' := by
  go_enter Tryz.func36, Tryz.ntmps36
  go_wp2
  refine bodyPost_ret (v := (askOd seq acct).v) (by simp [results, Tryz.results36, go_sem, askOd, Od.v]) rfl ⟨rfl, ?_⟩
  exact (Below.refl _ _).alloc (Nat.le_refl _) _
theorem steps_none : stepsL [] = [] := by kernel_rfl
theorem num_zero : numB 0 = [0] := by kernel_rfl
set_option maxRecDepth 100000 in
set_option maxHeartbeats 2000000 in
theorem write_none (A : Option Addr) (c : Nat) (w : World) :
    Calls Tryz.prog 38 #[.slice A 0 c] w fun e w' => ∃ v, e = .returned (.tuple #[v, i64 0]) ∧ Own w' w.heap.size 5 v [(0 : UInt8)] ∧ Below w.heap.size w w' := by
  have HN := Lib.hid (num_c 0 w (by decide) (by decide))
  rw [num_zero] at HN
  go_enter Tryz.func38, Tryz.ntmps38
  go_wp2_with fail
  refine HN.out.mono ?_
  rintro e w1 ⟨v, rfl, hO, hF⟩
  have HO := Lib.hid hO
  clear hO HN
  go_wp2_with fail
  go_loopw [4, 16] (fun b i wr => b = v ∧ i = i64 0 ∧ wr = w1) (fun _ _ _ => 0)
  case atStart => exact ⟨rfl, rfl, rfl⟩
  case round =>
    obtain ⟨rfl, rfl, rfl⟩ := hrel
    go_wp2
    go_ret2
    exact ⟨_, rfl, HO.out, hF⟩
set_option maxRecDepth 100000 in
set_option maxHeartbeats 2000000 in
theorem export_none (w : World) :
    Calls Tryz.prog 10 #[.slice none 0 0] w fun e w' => ∃ v, e = .returned (.tuple #[v, i64 0]) ∧ Own w' w.heap.size 5 v [(0 : UInt8)] ∧ Below w.heap.size w w' := by
  have HR := Lib.hid (right_c none 0 [] w (SlS.nil_ _ _) (by decide))
  change Hid (Calls Tryz.prog 37 #[.slice none 0 0] w fun e w' => e = .returned (.bool true) ∧ Below w.heap.size w w') at HR
  have HS := Lib.hid (fun W => steps_c none 0 [] W (SlS.nil_ _ _) (by decide) (fun _ h => by cases h))
  rw [steps_none] at HS
  have HW := Lib.hid (fun A c W => write_none A c W)
  go_enter Tryz.func10, Tryz.ntmps10
  go_wp2_with fail
  refine HR.out.mono ?_
  rintro e w1 ⟨rfl, hb1⟩
  clear HR
  go_wp2_with fail
  refine (HS.out _).mono ?_
  rintro e w2 ⟨v, L, rfl, hO, hm, hF⟩
  obtain rfl : L = [] := List.map_eq_nil_iff.1 hm
  obtain ⟨A2, c2, rfl, _⟩ := hO.sl
  have hb2 := below_on hb1 (Nat.le_refl _) hF
  clear hO hF hm HS
  go_wp2_with fail
  refine (HW.out _ _ _).mono ?_
  rintro e w3 ⟨v, rfl, hO, hF⟩
  have hb3 := below_on hb2 (Nat.le_refl _) hF
  have HO := Lib.hid (hO.mono hb2.size)
  clear hO hF
  go_wp2
  go_ret2
  exact ⟨v, rfl, HO.out, hb3⟩
theorem range_zero : rangeRd 0 200 0 [(0 : UInt8)] = ((0, 0), (0, [])) := by kernel_rfl
set_option maxRecDepth 100000 in
set_option maxHeartbeats 4000000 in
theorem read_zero (A : Option Addr) (c : Nat) (w : World) (h : Sl w w.heap.size A c [(0 : UInt8)]) :
    Calls Tryz.prog 52 #[.slice A 1 c] w fun e w' => e = .returned (.tuple #[.slice none 0 0, .bool true]) ∧ Below w.heap.size w w' := by
  have HN := Lib.hid (rnew_c A c [(0 : UInt8)] w h (by decide))
  clear h
  go_enter Tryz.func52, Tryz.ntmps52
  go_wp2_with fail
  refine HN.out.mono ?_
  rintro e w1 ⟨rfl, hR, hz, hF⟩
  have hb1 := hF
  have HRg := Lib.hid (range_c (w.heap.size + 1) w.heap.size 0 200 0 [(0 : UInt8)] w1 hR (by omega) (by decide))
  rw [range_zero] at HRg
  have Hz := Lib.hid hz
  clear HN hF hR hz
  go_wp2_with fail
  refine HRg.out.mono ?_
  rintro e w2 ⟨rfl, hR, hg⟩
  have hb2 := hb1.trans (below_of_grown hg hb1.size (fun g e => by injection e with e; omega))
  have hz2 := Nat.le_trans (Nat.le_of_eq Hz.out.symm) hg.size
  have HD := Lib.hid (done_c (w.heap.size + 1) w.heap.size 0 [] w2 hR (by omega) (by decide))
  have hd : doneRd 0 [] = (0, (0, [])) := rfl
  rw [hd] at HD
  clear HRg hg hR hd hb1 Hz hz2
  go_wp2_with fail
  go_loopw [7, 23] (fun o i wr => o = .slice none 0 0 ∧ i = i64 0 ∧ wr = w2) (fun _ _ _ => 0)
  case atStart => exact ⟨rfl, rfl, rfl⟩
  case round =>
    obtain ⟨rfl, rfl, rfl⟩ := hrel
    go_wp2_with fail
    refine HD.out.mono ?_
    rintro e w3 ⟨rfl, _, hg⟩
    have hb3 := hb2.trans (below_of_grown hg hb2.size (fun g e => by injection e with e; omega))
    clear HD hg hb2
    go_wp2
    go_ret2
    exact ⟨rfl, hb3⟩
theorem normal_none : normalB [] = true := by kernel_rfl
set_option maxRecDepth 100000 in
set_option maxHeartbeats 4000000 in
theorem import_zero (A : Option Addr) (c : Nat) (w : World) (h : Sl w w.heap.size A c [(0 : UInt8)]) :
    Calls Tryz.prog 19 #[.slice A 1 c] w fun e w' => e = .returned (.tuple #[.slice none 0 0, i64 0]) ∧ Below w.heap.size w w' := by
  have HR := Lib.hid (read_zero A c w h)
  have HL := Lib.hid (fun W => lay_c none 0 [] W (SlS.nil_ _ _) (by decide) (by decide))
  have HN := Lib.hid (fun W => normal_c none 0 [] W (SlS.nil_ _ _) ⟨by decide, by simp⟩ (by decide))
  change Hid (∀ W, Calls Tryz.prog 23 #[.slice none 0 0] W fun e w' => e = .returned (.bool (normalB [])) ∧ Below W.heap.size W w') at HN
  rw [normal_none] at HN
  change Hid (∀ W, Calls Tryz.prog 17 #[.slice none 0 0] W fun e w' => ∃ v, e = .returned v ∧ Own w' W.heap.size 55 v [] ∧ Below W.heap.size W w') at HL
  clear h
  go_enter Tryz.func19, Tryz.ntmps19
  go_wp2_with fail
  refine HR.out.mono ?_
  rintro e w1 ⟨rfl, hb1⟩
  go_wp2_with fail
  refine (HL.out _).mono ?_
  rintro e w2 ⟨v, rfl, hO, hF⟩
  obtain ⟨A2, c2, rfl, _⟩ := hO.sl
  have hb2 := below_on hb1 (Nat.le_refl _) hF
  clear hO hF
  go_wp2_with fail
  refine (HN.out _).mono ?_
  rintro e w3 ⟨rfl, hF⟩
  have hb3 := below_on hb2 (Nat.le_refl _) hF
  go_wp2
  go_ret2
  exact ⟨rfl, hb3⟩
/-- the list of lives, and its steps -/
def fvL : List Od := [askOd 2 ⟨#[97]⟩, askOd 1 ⟨#[98]⟩, askOd 3 ⟨#[97]⟩]
def fvS : List (List Od) := [[askOd 1 ⟨#[98]⟩, askOd 2 ⟨#[97]⟩], [askOd 3 ⟨#[97]⟩]]
theorem fv_steps : stepsL fvL = fvS := by kernel_rfl
theorem fv_normal : normalB fvS = true := by kernel_rfl
theorem sv_two {L : List (SV Od)} (h : L.map SV.l = fvS) : ∃ x y : SV Od, L = [x, y] ∧ x.l = [askOd 1 ⟨#[98]⟩, askOd 2 ⟨#[97]⟩] ∧ y.l = [askOd 3 ⟨#[97]⟩] := by
  match L, h with
  | [x, y], h =>
    have h : [x.l, y.l] = fvS := h
    injection h with h1 h2
    injection h2 with h2 _
    exact ⟨x, y, rfl, h1, h2⟩
  | [], h => cases h
  | [x], h => have h : [x.l] = fvS := h; injection h with _ h; cases h
  | x :: y :: z :: r, h => have h : x.l :: y.l :: z.l :: r.map SV.l = fvS := h; injection h with _ h; injection h with _ h; cases h
set_option maxRecDepth 100000 in
set_option maxHeartbeats 16000000 in
theorem lives_11 (w : World) :
    Calls Tryz.prog 8 #[] w fun e w' => e = .returned (.bool true) ∧ Below w.heap.size w w' := by
  have a1 : ∀ W : World, Calls Tryz.prog 36 #[i64 2, .string ⟨#[97]⟩] W fun e w' => e = .returned (.agg #[i64 0, i64 2, i64 7, .string ⟨#[97]⟩, .string ⟨#[]⟩, i64 0, .slice none 0 0, i64 0, i64 0, .string ⟨#[]⟩]) ∧ Below W.heap.size W w' := fun W => ask_11 2 ⟨#[97]⟩ W
  have a2 : ∀ W : World, Calls Tryz.prog 36 #[i64 1, .string ⟨#[98]⟩] W fun e w' => e = .returned (.agg #[i64 0, i64 1, i64 7, .string ⟨#[98]⟩, .string ⟨#[]⟩, i64 0, .slice none 0 0, i64 0, i64 0, .string ⟨#[]⟩]) ∧ Below W.heap.size W w' := fun W => ask_11 1 ⟨#[98]⟩ W
  have a3 : ∀ W : World, Calls Tryz.prog 36 #[i64 3, .string ⟨#[97]⟩] W fun e w' => e = .returned (.agg #[i64 0, i64 3, i64 7, .string ⟨#[97]⟩, .string ⟨#[]⟩, i64 0, .slice none 0 0, i64 0, i64 0, .string ⟨#[]⟩]) ∧ Below W.heap.size W w' := fun W => ask_11 3 ⟨#[97]⟩ W
  have hfl : ∀ x ∈ fvL, x.legs.length ≤ 10 := lives_few (l := fvL) (by kernel_rfl)
  go_enter Tryz.func8, Tryz.ntmps8
  go_wp2_with fail
  refine (a1 _).mono ?_
  rintro e w1 ⟨rfl, hb1⟩
  go_wp2_with fail
  refine (a2 _).mono ?_
  rintro e w2 ⟨rfl, hb2⟩
  go_wp2_with fail
  refine (a3 _).mono ?_
  rintro e w3 ⟨rfl, hb3⟩
  have hb4 := below_on (below_on hb1 (Nat.le_refl _) hb2) (Nat.le_refl _) hb3
  have hO := own_lit (w := w3) (base := w3.heap.size) 55 #[i64 0, i64 2, i64 7, .string ⟨#[97]⟩, .string ⟨#[]⟩, i64 0, .slice none 0 0, i64 0, i64 0, .string ⟨#[]⟩, i64 0, i64 1, i64 7, .string ⟨#[98]⟩, .string ⟨#[]⟩, i64 0, .slice none 0 0, i64 0, i64 0, .string ⟨#[]⟩, i64 0, i64 3, i64 7, .string ⟨#[97]⟩, .string ⟨#[]⟩, i64 0, .slice none 0 0, i64 0, i64 0, .string ⟨#[]⟩] fvL (Nat.le_refl _) rfl (by decide) (fun x hx => by
    simp only [fvL, List.mem_cons, List.not_mem_nil, or_false] at hx
    rcases hx with rfl | rfl | rfl <;> exact askOd_okb _ _ _ _)
  have hb5 := hb4.alloc hb4.size (.cells #[i64 0, i64 2, i64 7, .string ⟨#[97]⟩, .string ⟨#[]⟩, i64 0, .slice none 0 0, i64 0, i64 0, .string ⟨#[]⟩, i64 0, i64 1, i64 7, .string ⟨#[98]⟩, .string ⟨#[]⟩, i64 0, .slice none 0 0, i64 0, i64 0, .string ⟨#[]⟩, i64 0, i64 3, i64 7, .string ⟨#[97]⟩, .string ⟨#[]⟩, i64 0, .slice none 0 0, i64 0, i64 0, .string ⟨#[]⟩] 55)
  have HS := Lib.hid (steps_c _ _ fvL (w3.alloc (.cells #[i64 0, i64 2, i64 7, .string ⟨#[97]⟩, .string ⟨#[]⟩, i64 0, .slice none 0 0, i64 0, i64 0, .string ⟨#[]⟩, i64 0, i64 1, i64 7, .string ⟨#[98]⟩, .string ⟨#[]⟩, i64 0, .slice none 0 0, i64 0, i64 0, .string ⟨#[]⟩, i64 0, i64 3, i64 7, .string ⟨#[97]⟩, .string ⟨#[]⟩, i64 0, .slice none 0 0, i64 0, i64 0, .string ⟨#[]⟩] 55)) hO.sl_of (by decide) hfl)
  rw [fv_steps] at HS
  clear hO hb1 hb2 hb3 hb4 a1 a2 a3 hfl
  go_wp2_with fail
  generalize w3.alloc (.cells #[i64 0, i64 2, i64 7, .string ⟨#[97]⟩, .string ⟨#[]⟩, i64 0, .slice none 0 0, i64 0, i64 0, .string ⟨#[]⟩, i64 0, i64 1, i64 7, .string ⟨#[98]⟩, .string ⟨#[]⟩, i64 0, .slice none 0 0, i64 0, i64 0, .string ⟨#[]⟩, i64 0, i64 3, i64 7, .string ⟨#[97]⟩, .string ⟨#[]⟩, i64 0, .slice none 0 0, i64 0, i64 0, .string ⟨#[]⟩] 55) = w4 at *
  refine HS.out.mono ?_
  rintro e w5 ⟨v, L, rfl, hO, hm, hF⟩
  obtain ⟨A5, c5, rfl, s5⟩ := hO.sl
  have hb6 := below_on hb5 (Nat.le_refl _) hF
  obtain ⟨x, y, rfl, hx, hy⟩ := sv_two hm
  have HN := Lib.hid (fun W (hW : Sl W W.heap.size A5 c5 [x, y]) => normal_c A5 c5 [x, y] W hW ⟨by simp, fun z hz => by
    simp only [List.mem_cons, List.not_mem_nil, or_false] at hz
    rcases hz with rfl | rfl
    · rw [hx]; exact ⟨by decide, fun u hu => by simp only [List.mem_cons, List.not_mem_nil, or_false] at hu; rcases hu with rfl | rfl <;> decide⟩
    · rw [hy]; exact ⟨by decide, fun u hu => by simp only [List.mem_cons, List.not_mem_nil, or_false] at hu; rcases hu with rfl; decide⟩⟩ (by rw [hm]; decide))
  rw [hm, fv_normal] at HN
  clear HS hO hF hm hb5
  go_wp2_with fail
  refine (export_none _).mono ?_
  rintro e w6 ⟨v6, rfl, hO, hF⟩
  obtain ⟨A6, c6, rfl, s6⟩ := hO.sl
  have hb7 := below_on hb6 (Nat.le_refl _) hF
  have s5 := s5.later hF
  clear hO hF hb6
  have hO2 := own_lit (w := w6) (base := w6.heap.size) 5 #[.int .u8 0] [(0 : UInt8)] (Nat.le_refl _) rfl (by decide) (fun _ _ => trivial)
  have h0 := (Below.refl w6.heap.size w6).alloc (Nat.le_refl _) (.cells #[.int .u8 0] 5)
  have hb8 := hb7.alloc hb7.size (.cells #[.int .u8 0] 5)
  have s5 := s5.later h0
  have s6 := s6.later h0
  have HI := Lib.hid (import_zero _ _ (w6.alloc (.cells #[.int .u8 0] 5)) hO2.sl_of)
  clear hO2 h0 hb7
  go_wp2_with fail
  generalize w6.alloc (.cells #[.int .u8 0] 5) = w7 at *
  refine HI.out.mono ?_
  rintro e w8 ⟨rfl, hF⟩
  have hb9 := below_on hb8 (Nat.le_refl _) hF
  have s5 := s5.later hF
  have s6 := s6.later hF
  clear HI hF hb8
  have hO2 := own_lit (w := w8) (base := w8.heap.size) 5 #[.int .u8 0] [(0 : UInt8)] (Nat.le_refl _) rfl (by decide) (fun _ _ => trivial)
  have h0 := (Below.refl w8.heap.size w8).alloc (Nat.le_refl _) (.cells #[.int .u8 0] 5)
  have hb10 := hb9.alloc hb9.size (.cells #[.int .u8 0] 5)
  have t5 := Lib.hid (s5.later h0)
  have HE := Lib.hid (same2_c _ _ _ _ _ _ (w8.alloc (.cells #[.int .u8 0] 5)) (s6.later h0) hO2.sl_of)
  have heq : (([(0 : UInt8)] : List UInt8) == [0]) = true := rfl
  rw [heq] at HE
  obtain ⟨b0, o0, rfl, _, k0, p0⟩ := s5.sv (k := 0) (by simp)
  obtain ⟨b1, o1, hA, _, k1, p1⟩ := s5.sv (k := 1) (by simp)
  injection hA with hA
  injection hA with hA1 hA2
  subst hA1 hA2
  simp only [List.getElem_cons_zero, List.getElem_cons_succ, hx, hy, List.length_cons, List.length_nil, Nat.zero_add, Nat.add_zero] at k0 k1 p0 p1
  obtain ⟨d0, u0, hz0, _, _, _, q0, _⟩ := k0.od (k := 0) (by simp)
  obtain ⟨d1, u1, hz1, _, _, _, q1, _⟩ := k1.od (k := 0) (by simp)
  rw [hz0] at p0
  rw [hz1] at p1
  simp only [Nat.zero_mul, Nat.add_zero, List.getElem_cons_zero] at q0 q1
  have q0 : w8.cell? ⟨d0, u0 + 1, none⟩ = some (i64 1) := q0
  have q1 : w8.cell? ⟨d1, u1 + 1, none⟩ = some (i64 3) := q1
  clear hO2 h0 s5 s6 heq k0 k1 hz0 hz1
  go_wp2_with fail
  refine HE.out.mono ?_
  rintro e w9 ⟨rfl, hF⟩
  have t9 := t5.out.later hF
  have hb11 := below_on hb10 (Nat.le_refl _) hF
  clear HE hF t5
  go_wp2_with fail
  refine (HN.out _ t9).mono ?_
  rintro e w10 ⟨rfl, hF⟩
  have hb12 := below_on hb11 (Nat.le_refl _) hF
  go_wp2
  go_ret
  exact ⟨rfl, hb12⟩
end Go.Proofs.YtmbfalokkabmnaaGreat

/- few, own of countinghouselaw11 -/
namespace Go.Proofs.YtmbfalokkabmnaaGreat
open Go.RowKit
set_option maxRecDepth 100000 in
set_option maxHeartbeats 1000000 in
theorem few_11 (A : Option Addr) (c n : Nat) (l : List Od) (w : World) (h : Sl w w.heap.size A c l) (hn : n ≤ 65536) :
    Calls Tryz.prog 9 #[.slice A l.length c, i64 n] w fun e w' => ∃ v, e = .returned v ∧ Own w' w.heap.size 55 v (fewL n l) ∧ Below w.heap.size w w' := by
  have hlm : l.length ≤ 9223372036854775807 := h.len_le
  go_enter Tryz.func9, Tryz.ntmps9
  go_wp2
  go_loopw [5, 6] (fun v i wr => ∃ k : Nat, i = i64 k ∧ k ≤ l.length ∧ k ≤ n ∧ Own wr w.heap.size 55 v (fewL k l) ∧ Below w.heap.size w wr) (fun _ i _ => l.length - (intOf i).toNat)
  case atStart => exact ⟨0, rfl, by omega, by omega, Own.nil_ _ _ _, Below.refl _ _⟩
  case round =>
    obtain ⟨k, rfl, hk, hkn, hO, hb⟩ := hrel
    by_cases hlt : k < l.length ∧ k < n
    · obtain ⟨h1, h2⟩ := hlt
      obtain ⟨b, o, rfl, hbb, hok, c0, c1, c2, c3, c4, c5, c6, c7, c8, c9⟩ := (h.below hb).od h1
      have hlc : l[k].legs.length ≤ l[k].lc := hok.legs.1
      have Hok := Lib.hid hok
      clear hok
      have HO := Lib.hid hO
      have hne := hO.new_ne (Nat.le_succ wr.heap.size)
      have Hne := Lib.hid hne
      clear hO hne
      have hlen : (fewL k l).length = k := fewL_len h1
      have HL := Lib.hid hlen
      clear hlen
      by_cases h8 : l[k].legs.length ≤ 8
      all_goals
        have hB2 := ((Below.refl wr.heap.size wr).alloc (Nat.le_refl _) (.cells (cut8 l[k]).cells.toArray 55)).alloc (by simp) (.cells (cut8 l[k]).cells.toArray 55)
        have hb2 := hb.trans (hB2.mono hb.size)
        have hHeap := heap_alloc2_new wr (.cells (cut8 l[k]).cells.toArray 55) (.cells (cut8 l[k]).cells.toArray 55)
        have hO2 := HO.out.later hB2
        have hok2 : Enc.ok ((wr.alloc (.cells (cut8 l[k]).cells.toArray 55)).alloc (.cells (cut8 l[k]).cells.toArray 55)) (Oth ((wr.alloc (.cells (cut8 l[k]).cells.toArray 55)).alloc (.cells (cut8 l[k]).cells.toArray 55)) _) (cut8 l[k]) := Enc.keep (cut8_ok Hok.out) (fun _ hp => hB2.cell (Nat.lt_of_lt_of_le hp hb.size)) (hO2.oth (Nat.le_refl _) hb2.size)
        have HO2 := Lib.hid hO2
        have Hok2 := Lib.hid hok2
        have HH := Lib.hid hHeap
        have Hb2 := Lib.hid hb2
        clear hO2 hok2 hHeap hb2 hB2
        have hcs : (cut8 l[k]).cells = [i64 l[k].client, i64 l[k].seq, i64 l[k].kind, .string l[k].acct, .string l[k].peer, i64 l[k].sum, .slice l[k].la (cut8 l[k]).legs.length l[k].lc, i64 l[k].period, i64 l[k].hold, .string l[k].note] := rfl
        first
          | (first
               | (have h88 : (cut8 l[k]).legs.length = l[k].legs.length := by rw [cut8_small h8]
                  rw [h88] at hcs
                  clear h88)
               | (have h88 : (cut8 l[k]).legs.length = 8 := by show (l[k].legs.take 8).length = 8; rw [List.length_take]; omega
                  rw [h88] at hcs
                  clear h88)
             have Hcs := Lib.hid hcs
             rw [hcs] at HO2 Hok2 HH Hb2
             clear hcs
             go_wp2_with (at_builtin; refine wpList_append_one rfl (some 34) (.tmp 31) (.tmp 33) 22 rfl rfl _ 120 Tryz.underlying22 inf_od rfl (by decide) (by decide) rfl HO2.out (wr.heap.size + 1) (cut8 l[k]) rfl _ 55 HH.out Hcs.out.symm Hne.out Hok2.out (by rw [HL.out]; omega) Hb2.out.size ?_; intro v3 w3 hO3 hg3 hat3)
             go_roundw
             case rel => exact ⟨k + 1, by go_num, by omega, by omega, by rw [fewL_succ h1]; exact hO3, Hb2.out.trans (HO2.out.below hg3 (Nat.le_refl _) Hb2.out.size)⟩
             case measure => simp [intOf]; omega)
          | (have h88 : (cut8 l[k]).legs.length = (min (l[k].legs.length : Int) 8).toNat := by show (l[k].legs.take 8).length = _; rw [List.length_take]; omega
             rw [h88] at hcs
             clear h88
             have Hcs := Lib.hid hcs
             rw [hcs] at HO2 Hok2 HH Hb2
             clear hcs
             go_wp2_with (at_builtin; refine wpList_append_one rfl (some 34) (.tmp 31) (.tmp 33) 22 rfl rfl _ 120 Tryz.underlying22 inf_od rfl (by decide) (by decide) rfl HO2.out (wr.heap.size + 1) (cut8 l[k]) rfl _ 55 HH.out Hcs.out.symm Hne.out Hok2.out (by rw [HL.out]; omega) Hb2.out.size ?_; intro v3 w3 hO3 hg3 hat3)
             go_roundw
             case rel => exact ⟨k + 1, by go_num, by omega, by omega, by rw [fewL_succ h1]; exact hO3, Hb2.out.trans (HO2.out.below hg3 (Nat.le_refl _) Hb2.out.size)⟩
             case measure => simp [intOf]; omega)
    · have hf : fewL n l = fewL k l := by
        unfold fewL
        rcases Nat.lt_or_ge k l.length with h1 | h1
        · rw [show n = k by omega]
        · rw [List.take_of_length_le (by omega), List.take_of_length_le h1]
      have Hf := Lib.hid hf
      clear hf
      by_cases hkl : k < l.length
      · have hkn2 : ¬ k < n := fun h => hlt ⟨hkl, h⟩
        clear hlt
        go_wp2
        go_ret
        exact ⟨_, rfl, by rw [Hf.out]; exact hO, hb⟩
      · clear hlt
        go_wp2
        go_ret
        exact ⟨_, rfl, by rw [Hf.out]; exact hO, hb⟩
set_option maxRecDepth 100000 in
set_option maxHeartbeats 1000000 in
theorem own_11 (A : Option Addr) (c : Nat) (l : List Od) (w : World) (h : Sl w w.heap.size A c l) (hn : l.length ≤ 65536) :
    Calls Tryz.prog 21 #[.slice A l.length c] w fun e w' => ∃ v, e = .returned v ∧ Own w' w.heap.size 55 v (ownL l) ∧ Below w.heap.size w w' := by
  go_enter Tryz.func21, Tryz.ntmps21
  go_wp2_with fail
  go_loopw [3, 4] (fun v i wr => ∃ k : Nat, i = i64 k ∧ k ≤ l.length ∧ Own wr w.heap.size 55 v (ownK l k) ∧ Below w.heap.size w wr) (fun _ i _ => l.length - (intOf i).toNat)
  case atStart => exact ⟨0, rfl, by omega, Own.nil_ _ _ _, Below.refl _ _⟩
  case round =>
    obtain ⟨k, rfl, hk, hO, hb⟩ := hrel
    by_cases hlt : k < l.length
    · obtain ⟨b, o, rfl, hbb, hok, c0, c1, c2, c3, c4, c5, c6, c7, c8, c9⟩ := (h.below hb).od hlt
      have Hok := Lib.hid hok
      have HO := Lib.hid hO
      have HB := Lib.hid hb
      clear hok hO
      go_wp2_with fail
      refine (at_any _ c l l[k].id _ (h.keep (fun _ hp => HB.out.cell hp) (fun _ hp => Nat.lt_of_lt_of_le hp HB.out.size)) hn).mono ?_
      rintro e w1 ⟨rfl, hb1⟩
      have hbw := HB.out.trans (hb1.mono HB.out.size)
      have hO1 := HO.out.later hb1
      obtain ⟨_, _, hA1, _, hok1, d0, d1, d2, d3, d4, d5, d6, d7, d8, d9⟩ := (h.below hbw).od hlt
      injection hA1 with hA1
      injection hA1 with hA2 hA3
      subst hA2 hA3
      have Hok1 := Lib.hid hok1
      have HO1 := Lib.hid hO1
      clear hok1 hO1 hb1 c0 c1 c2 c3 c4 c5 c6 c7 c8 c9
      by_cases hat : atIdx l l[k].id = (k : Int)
      · have hq : (atIdx l l[k].id == (k : Int)) = true := beq_iff_eq.2 hat
        have Hs := Lib.hid (show ownK l (k + 1) = ownK l k ++ [l[k]] by rw [ownK_succ hlt, if_pos hat])
        have Hk := Lib.hid (ownK_len l k)
        have hB2 := (Below.refl w1.heap.size w1).alloc (Nat.le_refl _) (.cells l[k].cells.toArray 55)
        have hb2 := hbw.trans (hB2.mono hbw.size)
        have hO2 := HO1.out.later hB2
        have HO2 := Lib.hid hO2
        have Hok2 := Lib.hid (Enc.keep (x := l[k]) Hok1.out (fun _ hp => hB2.cell (Nat.lt_of_lt_of_le hp hbw.size)) (hO2.oth (Nat.le_refl _) hb2.size))
        have HH := Lib.hid (heap_alloc_new w1 (.cells l[k].cells.toArray 55))
        have Hne := Lib.hid (HO1.out.new_ne (Nat.le_refl w1.heap.size))
        have Hb2 := Lib.hid hb2
        clear hO2 hb2 hB2 hat
        simp only [Od.cells] at HO2 HH Hb2 Hok2
        generalize atIdx l l[k].id = r at *
        go_wp2_with (at_builtin; refine wpList_append_one rfl (some 26) (.tmp 20) (.tmp 25) 22 rfl rfl _ 120 Tryz.underlying22 inf_od rfl (by decide) (by decide) rfl HO2.out w1.heap.size l[k] rfl _ 55 HH.out rfl Hne.out Hok2.out (by have := Hk.out; omega) Hb2.out.size ?_; intro v3 w3 hO3 hg3 hat3)
        go_roundw
        case rel => exact ⟨k + 1, by go_num, by omega, by rw [Hs.out]; exact hO3, Hb2.out.trans (HO2.out.below hg3 (Nat.le_refl _) Hb2.out.size)⟩
        case measure => simp [intOf]; omega
      · have hq : (atIdx l l[k].id == (k : Int)) = false := beq_eq_false_iff_ne.2 hat
        have Hs := Lib.hid (show ownK l (k + 1) = ownK l k by rw [ownK_succ hlt, if_neg hat])
        clear hat
        generalize atIdx l l[k].id = r at *
        go_wp2
        go_roundw
        case rel => exact ⟨k + 1, by go_num, by omega, by rw [Hs.out]; exact HO1.out, hbw⟩
        case measure => simp [intOf]; omega
    · obtain rfl : k = l.length := by omega
      go_wp2
      go_ret
      exact ⟨_, rfl, hO, hb⟩
end Go.Proofs.YtmbfalokkabmnaaGreat

/- what the reference's inner functions are to answer -/
namespace Go.Proofs.YtmbfalokkabmnaaGreat
open Go.RowKit
/-- what ref06.Touches is to answer -/
abbrev RTouch : Prop := ∀ (x : Od) (w : World), Okb w w.heap.size x → x.legs.length ≤ 10 →
  Calls Tryz.prog 79 #[x.v] w fun e w' => ∃ v, e = .returned v ∧ Own w' w.heap.size 9 v (touches x) ∧ Below w.heap.size w w'
/-- what ref10.Clash is to answer -/
abbrev RClash : Prop := ∀ (x y : Od) (w : World), Okb w w.heap.size x → Okb w w.heap.size y → x.legs.length ≤ 10 → y.legs.length ≤ 10 →
  Calls Tryz.prog 48 #[x.v, y.v] w fun e w' => e = .returned (.bool (clashB x y)) ∧ Below w.heap.size w w'
end Go.Proofs.YtmbfalokkabmnaaGreat
