/- foata.read: what is read, and that it is what is written -/
import Derived.Test.YtdkkblhfjblpkaaGreatRows
import Derived.Test.YtdkkblhfjblpkaaGreatBfFoAlike
import Derived.WalkKit
import Derived.WalkSpells
import Derived.WalkLawsBesides
import Derived.Deep.QuietTactic
import Derived.BigQuiet
import Derived.Laws.StructEq
import Derived.Deep.DeepFit
import Derived.StillTailTactics
namespace Go.Proofs.YtdkkblhfjblpkaaGreat
open Go.RowKit
def addX {α : Type} (l : List α) : Option (List α × St) → Option (List α × St)
  | none => none
  | some (m, s) => some (l ++ m, s)
theorem addX_nil {α : Type} (x : Option (List α × St)) : addX [] x = x := by cases x <;> rfl
theorem addX_add {α : Type} (l m : List α) (x : Option (List α × St)) : addX l (addX m x) = addX (l ++ m) x := by
  cases x with
  | none => rfl
  | some p => simp only [addX, List.append_assoc]
/-- the text at the front -/
abbrev tx (s : St) : List UInt8 := (txR 1000 s).1.1.data.toList
abbrev rg11 (s : St) : (Int × Int) × St := rangeRd 1 200 s.1 s.2
def rdO : Nat → St → Option (List Od × St)
  | 0, s => some ([], s)
  | n + 1, s => if readOk (tx s) then addX [rawO (tx s)] (rdO n (txR 1000 s).2) else none
def rdS : Nat → St → Option (List (List Od) × St)
  | 0, s => some ([], s)
  | n + 1, s => if (rg11 s).1.2 = 0 then
      match rdO (rg11 s).1.1.toNat (rg11 s).2 with
      | none => none
      | some (l, t) => addX [l] (rdS n t)
    else none
def fin (x : Option (List (List Od) × St)) : Option (List (List Od)) :=
  match x with
  | none => none
  | some (S, s) => if (doneRd s.1 s.2).1 = 0 then some S else none
def rdF (b : List UInt8) : Option (List (List Od)) := fin (rdS (smR 200 (0, b)).1.1.toNat (smR 200 (0, b)).2)
theorem rdO_step {n k : Nat} {s0 s : St} {L : List Od} (hk : k < n) (h : rdO n s0 = addX L (rdO (n - k) s)) :
    (readOk (tx s) = true → rdO n s0 = addX (L ++ [rawO (tx s)]) (rdO (n - (k + 1)) (txR 1000 s).2)) ∧ (readOk (tx s) = false → rdO n s0 = none) := by
  obtain ⟨m, hm⟩ : ∃ m, n - k = m + 1 := ⟨n - k - 1, by omega⟩
  rw [hm, rdO] at h
  rw [show n - (k + 1) = m by omega]
  exact ⟨fun e => by rw [h, if_pos e, addX_add], fun e => by rw [h, if_neg (by rw [e]; decide)]; rfl⟩
theorem rdS_step {n k : Nat} {s0 s : St} {L : List (List Od)} (hk : k < n) (h : rdS n s0 = addX L (rdS (n - k) s)) :
    ((rg11 s).1.2 ≠ 0 → rdS n s0 = none) ∧ ((rg11 s).1.2 = 0 → rdO (rg11 s).1.1.toNat (rg11 s).2 = none → rdS n s0 = none) ∧
      (∀ l t, (rg11 s).1.2 = 0 → rdO (rg11 s).1.1.toNat (rg11 s).2 = some (l, t) → rdS n s0 = addX (L ++ [l]) (rdS (n - (k + 1)) t)) := by
  obtain ⟨m, hm⟩ : ∃ m, n - k = m + 1 := ⟨n - k - 1, by omega⟩
  rw [hm, rdS] at h
  rw [show n - (k + 1) = m by omega]
  refine ⟨fun e => by rw [h, if_neg e]; rfl, fun e e2 => by rw [h, if_pos e, e2]; rfl, fun l t e e2 => by rw [h, if_pos e, e2]; exact addX_add _ _ _⟩
theorem readOk_nil : readOk [] = false := by kernel_rfl
theorem txR_bad {m : Int} {s : St} (h : s.1 ≠ 0) : txR m s = ((⟨#[]⟩, s.1), s) := by
  unfold txR textRd
  have h1 : rangeRd 0 m s.1 s.2 = ((0, s.1), s) := by
    unfold rangeRd
    rw [show numRd s.1 s.2 = ((0, s.1), s) from nuR_stay h s.2]
    rw [if_pos h]
  rw [h1]
  exact if_pos h
theorem tx_fail {s : St} (h : (txR 1000 s).1.2 ≠ 0) : readOk (tx s) = false := by
  have h1 : (txR 1000 s).1.1 = ⟨#[]⟩ := by
    unfold txR textRd at h ⊢
    split
    · rfl
    · rename_i h1
      rw [if_neg h1] at h
      split
      · rfl
      · rename_i h2
        rw [if_neg h2] at h
        exact absurd rfl h
  unfold tx
  rw [h1]
  exact readOk_nil
/-- a text that reads as an order leaves the reader well -/
theorem tx_ok {s : St} (h : readOk (tx s) = true) : (txR 1000 s).1.2 = 0 ∧ (txR 1000 s).2.1 = 0 ∧ s.1 = 0 := by
  have h1 : (txR 1000 s).1.2 = 0 := by
    refine Classical.byContradiction fun e => ?_
    rw [tx_fail e] at h
    cases h
  have h2 : (txR 1000 s).2.1 = 0 := by rw [← h1]; exact (textRd_left 1000 s.1 s.2).2.1
  exact ⟨h1, h2, (txR_dec h2).1⟩
theorem wrO_raw {t : ByteArray} (h : readOk t.data.toList = true) : wrO (rawO t.data.toList) = textB t := by
  unfold wrO
  rw [(back_law2 h).1]
def goodO (x : Od) : Prop := rightB x = true ∧ InR x ∧ x.legs.length ≤ 6 ∧ x.core = x
theorem goodO_raw {l : List UInt8} (h : readOk l = true) : goodO (rawO l) := by
  obtain ⟨h1, h2, h3⟩ := back_law2 h
  refine ⟨h3, h2, ?_, rfl⟩
  have h4 := (legsR_len (nLegs l) (s7 l)).2.1
  have h5 : (rawO l).legs = (legsR (nLegs l) (s7 l)).1 := rfl
  rw [h5, h4]
  unfold nLegs
  have := smR_in (m := 6) (by decide) (s6 l)
  omega
theorem rdO_dec : ∀ {n : Nat} {s t : St} {l : List Od}, s.1 = 0 → rdO n s = some (l, t) → t.1 = 0 ∧ s.2 = l.flatMap wrO ++ t.2 ∧ l.length = n ∧ ∀ x ∈ l, goodO x
  | 0, s, t, l, hs, h => by
    rw [rdO] at h
    injection h with h
    injection h with h1 h2
    subst h1 h2
    exact ⟨hs, by simp, rfl, by simp⟩
  | n + 1, s, t, l, hs, h => by
    rw [rdO] at h
    split at h
    · rename_i hr
      cases hq : rdO n (txR 1000 s).2 with
      | none => rw [hq] at h; cases h
      | some p =>
        obtain ⟨m, u⟩ := p
        rw [hq] at h
        injection h with h
        injection h with h1 h2
        subst h1 h2
        obtain ⟨h3, h4, _⟩ := tx_ok hr
        obtain ⟨a, b, c, d⟩ := rdO_dec h4 hq
        obtain ⟨_, e, _⟩ := txR_dec h4
        refine ⟨a, ?_, by simp [c], fun x hx => ?_⟩
        · rw [e, b, List.cons_append, List.nil_append, List.flatMap_cons, wrO_raw hr]
          exact (List.append_assoc _ _ _).symm
        · rcases List.mem_cons.1 hx with rfl | hx
          · exact goodO_raw hr
          · exact d x hx
    · cases h
theorem rg_dec {s : St} (h : (rg11 s).1.2 = 0) : s.1 = 0 ∧ (rg11 s).2.1 = 0 ∧ s.2 = numB (rg11 s).1.1 ++ (rg11 s).2.2 ∧ 1 ≤ (rg11 s).1.1 ∧ (rg11 s).1.1 ≤ 200 := by
  obtain ⟨e, l⟩ := s
  have hin := rangeRd_in h
  have h2 := (rangeRd_left 1 200 e l).2
  have hq : rangeRd 1 200 e l = (((numRd e l).1.1, 0), (numRd e l).2) := by
    unfold rg11 rangeRd at h
    unfold rangeRd
    split
    · rename_i h4; rw [if_pos h4] at h; exact absurd h h4
    · rename_i h4
      rw [if_neg h4] at h
      split
      · rename_i h5; rw [if_pos h5] at h; exact absurd h (by decide)
      · rfl
  unfold rg11 at *
  have h3 : (rangeRd 1 200 e l).2.1 = 0 := by rw [h2]; exact h
  refine ⟨?_, h3, ?_, hin.1, hin.2⟩
  · rw [hq] at h3; exact (nuR_dec (s := (e, l)) h3).1
  · rw [hq] at h3 ⊢; exact (nuR_dec (s := (e, l)) h3).2.1
def goodS (s : List Od) : Prop := 1 ≤ s.length ∧ s.length ≤ 200 ∧ ∀ x ∈ s, goodO x
theorem rdS_dec : ∀ {n : Nat} {s t : St} {S : List (List Od)}, s.1 = 0 → rdS n s = some (S, t) → t.1 = 0 ∧ s.2 = S.flatMap wrS ++ t.2 ∧ S.length = n ∧ ∀ x ∈ S, goodS x
  | 0, s, t, l, hs, h => by
    rw [rdS] at h
    injection h with h
    injection h with h1 h2
    subst h1 h2
    exact ⟨hs, by simp, rfl, by simp⟩
  | n + 1, s, t, l, hs, h => by
    rw [rdS] at h
    split at h
    · rename_i hr
      obtain ⟨_, h3, h4, h5, h6⟩ := rg_dec hr
      cases hq : rdO (rg11 s).1.1.toNat (rg11 s).2 with
      | none => rw [hq] at h; cases h
      | some p =>
        obtain ⟨m, u⟩ := p
        rw [hq] at h
        simp only at h
        obtain ⟨a, b, c, d⟩ := rdO_dec h3 hq
        cases hw : rdS n u with
        | none => rw [hw] at h; cases h
        | some p =>
          obtain ⟨M, v⟩ := p
          rw [hw] at h
          injection h with h
          injection h with h1 h2
          subst h1 h2
          obtain ⟨a', b', c', d'⟩ := rdS_dec a hw
          refine ⟨a', ?_, by simp [c'], fun x hx => ?_⟩
          · rw [h4, b, b', List.cons_append, List.nil_append, List.flatMap_cons]
            unfold wrS
            rw [c, Int.toNat_of_nonneg (by omega)]
            simp only [List.append_assoc]
          · rcases List.mem_cons.1 hx with rfl | hx
            · exact ⟨by omega, by omega, d⟩
            · exact d' x hx
    · cases h
/-- what is read is written as just these bytes -/
theorem rdF_dec {b : List UInt8} {S : List (List Od)} (h : rdF b = some S) : S.length ≤ 200 ∧ (∀ x ∈ S, goodS x) ∧ wrL S = b := by
  unfold rdF fin at h
  cases hq : rdS (smR 200 (0, b)).1.1.toNat (smR 200 (0, b)).2 with
  | none => rw [hq] at h; cases h
  | some p =>
    obtain ⟨T, u⟩ := p
    rw [hq] at h
    simp only at h
    split at h
    · rename_i hd
      injection h with h
      subst h
      have hu := doneRd_nil hd
      by_cases he : (smR 200 (0, b)).2.1 = 0
      · obtain ⟨_, h2, h3, h4, _⟩ := smR_dec he
        obtain ⟨_, b', c', d'⟩ := rdS_dec he hq
        refine ⟨by omega, d', ?_⟩
        unfold wrL
        simp only at h2
        rw [c', Int.toNat_of_nonneg h3]
        conv => rhs; rw [h2, b', hu.2, List.append_nil]
      · have hz : (smR 200 (0, b)).1.1 = 0 := by
          have h2 := (rangeRd_left 0 200 0 b).2
          have h3 : (rangeRd 0 200 0 b).1.2 ≠ 0 := by rw [← h2]; exact he
          unfold smR
          unfold rangeRd at h3 ⊢
          split
          · rename_i h4
            cases hu : uvR 0 0 b with
            | error e => rw [numRd_bad hu]
            | ok p => obtain ⟨M, t⟩ := p; exact absurd (by rw [numRd_ok hu]) h4
          · rename_i h4
            rw [if_neg h4] at h3
            split
            · rfl
            · rename_i h5; rw [if_neg h5] at h3; exact absurd rfl h3
        rw [hz] at hq
        change rdS 0 _ = _ at hq
        rw [rdS] at hq
        injection hq with hq
        injection hq with hq1 hq2
        rw [hq2] at he
        exact absurd hu.1 he
    · cases h
theorem txR_encL {s : ByteArray} {m : Int} (h : (s.size : Int) ≤ m) (hs : s.size ≤ 60000) (t : List UInt8) : txR m (0, textB s ++ t) = ((s, 0), (0, t)) := by
  have h1 := smR_enc (n := s.size) (m := m) (by omega) h ⟨by omega, by omega⟩ (s.data.toList ++ t)
  unfold smR at h1
  unfold txR textRd
  have e : textB s ++ t = numB s.size ++ (s.data.toList ++ t) := by unfold textB; rw [List.append_assoc]
  have hl : s.data.toList.length = s.size := by simp
  rw [e]
  simp only [h1]
  rw [if_neg (by simp), if_neg (by rw [List.length_append, hl]; omega)]
  simp only [Int.toNat_natCast]
  rw [← hl, List.take_left', List.drop_left']
  · rfl
  · rfl
theorem textB_le2 {s : ByteArray} {n : Nat} (h : s.size ≤ n) (hn : n ≤ 60000) : (textB s).length ≤ n + 10 := by
  unfold textB
  rw [List.length_append]
  have := numB_le (n := (s.size : Int)) ⟨by omega, by omega⟩
  have h3 : s.data.toList.length = s.size := rfl
  omega
theorem bytesB_400 {x : Od} (h : rightB x = true) (hr : InR x) : (bytesB x).length ≤ 400 := by
  have F := fit_of h
  have hl : ∀ L : List Leg, (∀ l ∈ L, l.acct.size ≤ 8 ∧ R64 l.sum) → (L.flatMap legBs).length ≤ L.length * 28 := fun L => by
    induction L with
    | nil => intro _; simp
    | cons y r ih =>
      intro hy
      rw [List.flatMap_cons, List.length_append, List.length_cons]
      have h1 := ih fun l hl => hy l (List.mem_cons_of_mem _ hl)
      have h2 := textB_le2 (hy y (List.mem_cons_self ..)).1 (by decide)
      have h3 := numB_le (hy y (List.mem_cons_self ..)).2
      have h4 : (legBs y).length = (textB y.acct).length + (numB y.sum).length := by unfold legBs; rw [List.length_append]
      omega
  have h1 := hl x.legs fun l hl => ⟨F.legs.2 l hl, hr.2.2.2.2.2.2 l hl⟩
  have h2 := numB_le hr.1
  have h3 := numB_le hr.2.1
  have h4 := numB_le hr.2.2.1
  have h5 := numB_le hr.2.2.2.1
  have h6 := numB_le hr.2.2.2.2.1
  have h7 := numB_le hr.2.2.2.2.2.1
  have h8 := textB_le2 F.acct (by decide)
  have h9 := textB_le2 F.peer (by decide)
  have h10 := textB_le2 F.note (by decide)
  have h11 := F.legs.1
  have h12 := numB_le (n := (x.legs.length : Int)) ⟨by omega, by omega⟩
  unfold bytesB headBs
  simp only [List.length_append] at h8 h9 h10 ⊢
  omega
theorem bytesB_1000 {x : Od} (h : rightB x = true) (hr : InR x) : (bytesB x).length ≤ 1000 := Nat.le_trans (bytesB_400 h hr) (by decide)
theorem rdO_enc : ∀ {l : List Od} {t : List UInt8}, (∀ x ∈ l, rightB x = true ∧ InR x) → rdO l.length (0, l.flatMap wrO ++ t) = some (K l, (0, t))
  | [], t, _ => rfl
  | x :: l, t, h => by
    obtain ⟨h1, h2⟩ := h x (List.mem_cons_self ..)
    have hb := bytesB_1000 h1 h2
    have e : txR 1000 (0, (x :: l).flatMap wrO ++ t) = ((⟨(bytesB x).toArray⟩, 0), (0, l.flatMap wrO ++ t)) := by
      rw [List.flatMap_cons, List.append_assoc]
      unfold wrO
      exact txR_encL (s := ⟨(bytesB x).toArray⟩) (by show (((bytesB x).toArray.size : Nat) : Int) ≤ 1000; rw [List.size_toArray]; omega) (by show (bytesB x).toArray.size ≤ 60000; rw [List.size_toArray]; omega) _
    obtain ⟨k1, k2⟩ := back_law1 h1 h2
    rw [List.length_cons, rdO]
    unfold tx
    rw [e]
    simp only
    rw [if_pos k1, k2, rdO_enc fun y hy => h y (List.mem_cons_of_mem _ hy)]
    rfl
theorem rg_enc {n : Int} (h0 : 1 ≤ n) (h1 : n ≤ 200) (t : List UInt8) : rg11 (0, numB n ++ t) = ((n, 0), (0, t)) := by
  unfold rg11 rangeRd
  simp only [numRd_enc (n := n) (by omega) (by omega) t]
  rw [if_neg (by simp), if_neg (by omega)]
theorem rdS_enc : ∀ {S : List (List Od)} {t : List UInt8}, (∀ s ∈ S, 1 ≤ s.length ∧ s.length ≤ 200 ∧ ∀ x ∈ s, rightB x = true ∧ InR x) → rdS S.length (0, S.flatMap wrS ++ t) = some (S.map K, (0, t))
  | [], t, _ => rfl
  | s :: S, t, h => by
    obtain ⟨h1, h2, h3⟩ := h s (List.mem_cons_self ..)
    have e : rg11 (0, (s :: S).flatMap wrS ++ t) = (((s.length : Int), (0 : Int)), ((0 : Int), s.flatMap wrO ++ (S.flatMap wrS ++ t))) := by
      rw [List.flatMap_cons]
      unfold wrS
      rw [List.append_assoc, List.append_assoc]
      exact rg_enc (by omega) (by omega) _
    rw [List.length_cons, rdS, e]
    simp only [if_true]
    rw [Int.toNat_natCast, rdO_enc h3]
    simp only
    rw [rdS_enc fun y hy => h y (List.mem_cons_of_mem _ hy)]
    rfl
/-- what is written is read again -/
theorem rdF_enc {S : List (List Od)} (hn : S.length ≤ 200) (h : ∀ s ∈ S, 1 ≤ s.length ∧ s.length ≤ 200 ∧ ∀ x ∈ s, rightB x = true ∧ InR x) : rdF (wrL S) = some (S.map K) := by
  have e : smR 200 (0, wrL S) = (((S.length : Int), (0 : Int)), ((0 : Int), S.flatMap wrS ++ [])) := by
    rw [List.append_nil]
    unfold wrL
    exact smR_enc (by omega) (by omega) ⟨by omega, by omega⟩ _
  unfold rdF fin
  rw [e]
  simp only [Int.toNat_natCast]
  rw [rdS_enc h]
  rfl
/-- foata.Import -/
def okI (S : List (List Od)) : Bool := decide ((layL S).length ≤ 200) && normalB S
def importB (b : List UInt8) : Option (List (List Od)) :=
  match rdF b with
  | none => none
  | some S => if okI S then some S else none
theorem sameS_K {S T : List (List Od)} : sameS S T = true ↔ S.map K = T.map K := by
  unfold sameS
  rw [Bool.and_eq_true, decide_eq_true_eq, List.all_eq_true]
  constructor
  · rintro ⟨h1, h2⟩
    refine List.ext_getElem (by simp [h1]) fun i h3 h4 => ?_
    simp only [List.length_map] at h3 h4
    rw [List.getElem_map, List.getElem_map]
    refine sameL_core.1 (h2 (S[i], T[i]) ?_)
    rw [List.mem_iff_getElem]
    exact ⟨i, by simp; omega, by simp⟩
  · intro h
    have h1 : S.length = T.length := by have := congrArg List.length h; simpa using this
    refine ⟨h1, fun p hp => ?_⟩
    obtain ⟨i, hi, rfl⟩ := List.getElem_of_mem hp
    simp only [List.length_zip] at hi
    rw [List.getElem_zip]
    refine sameL_core.2 ?_
    have h2 : (S.map K)[i]? = (T.map K)[i]? := by rw [h]
    rw [List.getElem?_eq_getElem (by simp; omega), List.getElem?_eq_getElem (by simp; omega), List.getElem_map, List.getElem_map] at h2
    exact Option.some.inj h2
theorem lay_K (S : List (List Od)) : layL (S.map K) = K (layL S) := by
  unfold layL K
  rw [List.map_flatten]
theorem normalB_iff {S : List (List Od)} : normalB S = true ↔ Val (layL S) ∧ S.map K = (stepsV (layL S)).map K := by
  unfold normalB
  rw [Bool.and_eq_true, validL_iff]
  constructor
  · rintro ⟨h1, h2⟩
    rw [stepsL_val h1] at h2
    exact ⟨h1, sameS_K.1 h2⟩
  · rintro ⟨h1, h2⟩
    exact ⟨h1, by rw [stepsL_val h1]; exact sameS_K.2 h2⟩
theorem normalB_K (S : List (List Od)) : normalB (S.map K) = normalB S := by
  rw [Bool.eq_iff_iff, normalB_iff, normalB_iff, lay_K, ← validL_iff, validL_core, validL_iff]
  refine and_congr_right fun hv => ?_
  rw [stepsV_K hv, List.map_map, List.map_map]
  have hk : (K ∘ K) = K := funext fun l => by show K (K l) = K l; unfold K; rw [List.map_map]; rfl
  rw [hk]
theorem okI_K (S : List (List Od)) : okI (S.map K) = okI S := by
  unfold okI
  rw [normalB_K, lay_K]
  unfold K
  rw [List.length_map]
theorem K_id {l : List Od} (h : ∀ x ∈ l, x.core = x) : K l = l := by
  unfold K
  conv => rhs; rw [← List.map_id l]
  exact List.map_congr_left h
theorem KK (l : List Od) : K (K l) = K l := by unfold K; rw [List.map_map]; rfl
/-- the steps of a list laid out are its steps -/
theorem steps_lay {l : List Od} (hv : Val l) : (stepsV (layL (stepsV l))).map K = (stepsV l).map K := by
  have hb := lay_beg (valK hv)
  have hl : (K l).length = (layL (stepsV (K l))).length := (lay_perm (K l)).length_eq.symm
  have e : layL (stepsV (K l)) = K (layL (stepsV l)) := by rw [stepsV_K hv, lay_K]
  rw [e] at hb hl
  have hvl : Val (layL (stepsV l)) := (lay_beg hv).2.1
  obtain ⟨m, hm, hk⟩ := alike_mix (a := l) (b := layL (stepsV l)) hb (by simpa [K] using hl) hv hvl
  have hvm : Val m := validL_iff.1 (by rw [← validL_core, hk, validL_core]; exact validL_iff.2 hvl)
  have e1 : (stepsV l).map K = stepsV (K m) := by rw [stepsV_mix hm hv, stepsV_K hvm]
  rw [e1, hk, stepsV_K hvl]
theorem import_dec {b : List UInt8} {S : List (List Od)} (h : importB b = some S) : rdF b = some S ∧ (layL S).length ≤ 200 ∧ normalB S = true := by
  unfold importB at h
  split at h
  · cases h
  · rename_i T hT
    split at h
    · rename_i ho
      injection h with h
      subst h
      unfold okI at ho
      rw [Bool.and_eq_true, decide_eq_true_eq] at ho
      exact ⟨hT, ho.1, ho.2⟩
    · cases h
theorem good_lay {S : List (List Od)} (h : ∀ s ∈ S, goodS s) : ∀ x ∈ layL S, goodO x := fun x hx => by
  unfold layL at hx
  obtain ⟨s, hs, hx⟩ := List.mem_flatten.1 hx
  exact (h s hs).2.2 x hx
theorem okW_of {l : List Od} (h : ∀ x ∈ l, rightB x = true) : okW (stepsV l) = true := by
  unfold okW
  rw [List.all_eq_true]
  intro s hs
  rw [List.all_eq_true]
  intro x hx
  refine h x ((lay_perm l).mem_iff.1 ?_)
  unfold layL
  exact List.mem_flatten.2 ⟨s, hs, hx⟩
theorem out_of {l : List Od} (hv : Val l) (hn : l.length ≤ 200) (hr : ∀ x ∈ l, rightB x = true) : errX l = 0 ∧ outX l = wrL (stepsV l) := by
  have hx : okX l = true := by unfold okX; rw [validL_iff.2 hv, decide_eq_true hn]; rfl
  have hw : okW (stepsL l) = true := by rw [stepsL_val hv]; exact okW_of hr
  exact ⟨errX_iff.2 ⟨hx, hw⟩, by rw [outX_ok hx, outW_ok hw, stepsL_val hv]⟩
/-- what is imported is exported as just these bytes -/
theorem back_b {b : List UInt8} {S : List (List Od)} (h : importB b = some S) : errX (layL S) = 0 ∧ outX (layL S) = b := by
  obtain ⟨h1, h2, h3⟩ := import_dec h
  obtain ⟨_, h5, h6⟩ := rdF_dec h1
  obtain ⟨hv, hk⟩ := normalB_iff.1 h3
  obtain ⟨e1, e2⟩ := out_of hv h2 fun x hx => (good_lay h5 x hx).1
  exact ⟨e1, by rw [e2, ← wrL_K, ← hk, wrL_K, h6]⟩
theorem lev_some (l : List Od) : ∀ {n i : Nat}, ((i + n + 1 : Nat) : Int) = mostP (levP l) → ∃ o, (o, (i : Int) + 1) ∈ levP l
  | 0, i, h => by
    rcases most_ex (levP l) with e | ⟨p, hp, e⟩
    · omega
    · exact ⟨p.1, by rw [show (i : Int) + 1 = p.2 by omega]; exact hp⟩
  | n + 1, i, h => by
    obtain ⟨o, ho⟩ := lev_some l (n := n) (i := i + 1) (by rw [← h]; congr 1; omega)
    obtain ⟨q, hq, _, e⟩ := levP_step ho (by show (1 : Int) < ((i + 1 : Nat) : Int) + 1; omega)
    exact ⟨q.1, by rw [show (i : Int) + 1 = q.2 by simp only at e; omega]; exact hq⟩
/-- what is exported is imported -/
theorem back_l {l : List Od} (hr : ∀ x ∈ l, InR x) (h : errX l = 0) :
    importB (outX l) = some ((stepsV l).map K) ∧ errX (layL ((stepsV l).map K)) = 0 ∧ outX (layL ((stepsV l).map K)) = outX l ∧ alikeB l (layL ((stepsV l).map K)) = true ∧ normalB ((stepsV l).map K) = true := by
  obtain ⟨hx, hw⟩ := errX_iff.1 h
  have hv := okX_val hx
  have hn : l.length ≤ 200 := by unfold okX at hx; rw [Bool.and_eq_true, decide_eq_true_eq] at hx; exact hx.1
  rw [stepsL_val hv] at hw
  have hright := okW_all hw
  have hp := lay_perm l
  have hvl : Val (layL (stepsV l)) := (lay_beg hv).2.1
  have hnorm : normalB ((stepsV l).map K) = true := by
    rw [normalB_K, normalB_iff]
    exact ⟨hvl, (steps_lay hv).symm⟩
  have mem : ∀ {s : List Od}, s ∈ stepsV l → ∀ y ∈ s, y ∈ l := fun {s} hs y hy => hp.mem_iff.1 (by unfold layL; exact List.mem_flatten.2 ⟨s, hs, hy⟩)
  have hlen : (stepsV l).length ≤ 200 := by
    rw [stepsV_len]
    have := (most_small l).2
    omega
  have hs : ∀ s ∈ stepsV l, 1 ≤ s.length ∧ s.length ≤ 200 ∧ ∀ x ∈ s, rightB x = true ∧ InR x := fun s hs => by
    refine ⟨?_, ?_, fun x hx => ⟨hright x (mem hs x hx), hr x (mem hs x hx)⟩⟩
    · obtain ⟨i, hi, rfl⟩ := List.getElem_of_mem hs
      rw [stepsV_get hi]
      have hpos : 0 < (stepP (levP l) i).length := by
        rw [stepsV_len] at hi
        obtain ⟨o, ho⟩ := lev_some l (n := (mostP (levP l)).toNat - i - 1) (i := i) (by omega)
        exact List.length_pos_of_mem (mem_step.2 ho)
      omega
    · have h1 : s.length ≤ (layL (stepsV l)).length := by
        unfold layL
        exact (List.sublist_flatten_of_mem hs).length_le
      rw [hp.length_eq] at h1
      omega
  have hout : outX l = wrL (stepsV l) := (out_of hv hn hright).2
  have hlk : layL ((stepsV l).map K) = K (layL (stepsV l)) := lay_K _
  have hvk : Val (layL ((stepsV l).map K)) := by rw [hlk]; exact valK hvl
  have hnk : (layL ((stepsV l).map K)).length ≤ 200 := by
    rw [hlk]
    unfold K
    rw [List.length_map, hp.length_eq]
    exact hn
  have himp : importB (outX l) = some ((stepsV l).map K) := by
    rw [hout]
    unfold importB
    rw [rdF_enc hlen hs]
    simp only
    rw [if_pos]
    unfold okI
    rw [hnorm, decide_eq_true hnk]
    rfl
  obtain ⟨e1, e2⟩ := back_b himp
  refine ⟨himp, e1, e2, ?_, hnorm⟩
  unfold alikeB
  rw [Bool.and_eq_true, decide_eq_true_eq]
  refine ⟨by rw [hlk]; unfold K; rw [List.length_map, hp.length_eq], beginsB_K.2 ?_⟩
  rw [hlk, KK, ← lay_K, ← stepsV_K hv]
  exact lay_beg (valK hv)
end Go.Proofs.YtdkkblhfjblpkaaGreat
