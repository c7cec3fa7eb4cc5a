/- Texts of this claim, laid together. -/
import Derived.Test.YtampniiehgimhaaGreatRows
import Derived.Test.YtampniiehgimhaaGreatBs23
import Derived.Test.YtampniiehgimhaaGreatBs9
import Derived.WalkKit
import Derived.WalkSpells
import Derived.WalkLawsBesides
import Derived.Deep.QuietTactic
import Derived.BigQuiet
import Derived.Laws.StructEq
import Derived.Deep.DeepFit
import Derived.StillTailTactics
import Derived.Test.YtampniiehgimhaaGreatBs24
import Derived.Test.YtampniiehgimhaaGreatBs1
import Derived.Test.YtampniiehgimhaaGreatBs13
import Derived.Test.YtampniiehgimhaaGreatBs25

/- few's orders and their numbers -/
namespace Go.Proofs.YtampniiehgimhaaGreat
open Go.RowKit
theorem cut8_rng {x : Od} (h : InR x) : InR (cut8 x) := ⟨h.1, h.2.1, h.2.2.1, h.2.2.2.1, h.2.2.2.2.1, h.2.2.2.2.2.1, fun l hl => h.2.2.2.2.2.2 l (List.mem_of_mem_take hl)⟩
end Go.Proofs.YtampniiehgimhaaGreat
/- The plain laws of clash's statements -/
namespace Go.Proofs.YtampniiehgimhaaGreat
open Go.RowKit
theorem ownK_at {l : List Od} : ∀ {k : Nat}, k ≤ l.length → ∀ {y : Od}, y ∈ ownK l k → ∃ j, j < k ∧ l[j]? = some y
 | 0, _, _, h => by simp [ownK] at h
 | k + 1, hk, y, h => by
  rw [ownK_succ (by omega)] at h
  split at h
  ·rcases List.mem_append.1 h with h | h
   ·obtain ⟨j, hj, e⟩ := ownK_at (by omega) h
    exact ⟨j, by omega, e⟩
   ·rw [List.mem_singleton.1 h]
    exact ⟨k, by omega, List.getElem?_eq_getElem (by omega)⟩
  ·obtain ⟨j, hj, e⟩ := ownK_at (by omega) h
   exact ⟨j, by omega, e⟩
theorem val_ownK {l : List Od} : ∀ {k : Nat}, k ≤ l.length → Val (ownK l k)
 | 0, _ => by simp [ownK]; exact val_nil
 | k + 1, hk => by
  rw [ownK_succ (by omega)]
  split
  ·rename_i h
   refine val_snoc.2 ⟨val_ownK (by omega), fun y hy e => ?_⟩
   obtain ⟨j, hj, ej⟩ := ownK_at (by omega) hy
   obtain ⟨hjl, ej⟩ := List.getElem?_eq_some_iff.1 ej
   unfold atIdx idxP at h
   split at h
   ·rename_i k' hk'
    have : k' = k := by omega
    subst this
    have h2 := (List.findIdx?_eq_some_iff_getElem.1 hk').2.2 j hj
    rw [ej] at h2
    simp [e] at h2
   ·omega
  ·exact val_ownK (by omega)
theorem val_own (l : List Od) : Val (ownL l) := val_ownK (Nat.le_refl _)
end Go.Proofs.YtampniiehgimhaaGreat
/- Events as Lean has them. No program. -/
namespace Go.Proofs.YtampniiehgimhaaGreat
open Go.RowKit
/-- an event -/
structure Ev where
 client : Int
 seq : Int
 kind : Int
 hav : Int
 set_ : Int
deriving DecidableEq
instance encEv : Enc Ev where
 size := 5
 cells x := [i64 x.client, i64 x.seq, i64 x.kind, i64 x.hav, i64 x.set_]
 val x := .agg #[i64 x.client, i64 x.seq, i64 x.kind, i64 x.hav, i64 x.set_]
 ok _ _ _ := True
 len _ := rfl
 one _ v hv := by simp only [List.mem_cons, List.not_mem_nil, or_false] at hv; rcases hv with rfl | rfl | rfl | rfl | rfl <;> rfl
 keep h _ _ := h
end Go.Proofs.YtampniiehgimhaaGreat
/- Clone, Grow, Concat at stream.Event -/
namespace Go.Proofs.YtampniiehgimhaaGreat
open Go.RowKit
theorem inf_ev : (Tryz.prog.info? 148).map (fun i => (i.zero, i.size, i.bytes)) = some (some (.agg #[i64 0, i64 0, i64 0, i64 0, i64 0]), Enc.size Ev, 40) := by kernel_rfl
set_option maxRecDepth 100000 in
set_option maxHeartbeats 400000 in
theorem clone_ev (A : Option Addr) (c : Nat) (l : List Ev) (w : World) (h : Sl w w.heap.size A c l) (hn : l.length ≤ 65536) :
  Calls Tryz.prog 77 #[.slice A l.length c] w fun e w' => ∃ v, e = .returned v ∧ Own w' w.heap.size 148 v l ∧ Below w.heap.size w w' := by
 have hnil := fun W : World => Lib.run_eql_slice_nil (P := Tryz.prog) W 58 148 A l.length c 0 0 Tryz.underlying58
 cases A with
 | none =>
  have hl : l = [] := by
   rcases l with _ | ⟨x, r⟩
   ·rfl
   ·obtain ⟨_, _, h1, _⟩ := h.2.2.1 (by simp); cases h1
  subst hl
  simp only [Option.isNone_none, List.length_nil] at hnil
  go_enter Tryz.func77, Tryz.ntmps77
  go_wp2
  go_ret
  exact ⟨_, rfl, Own.nil_ _ _ _, Below.refl _ _⟩
 | some ad =>
  simp only [Option.isNone_some] at hnil
  have hO0 := own_lit (w := w) (base := w.heap.size) 148 #[] ([] : List Ev) (Nat.le_refl _) rfl (by simp) (by simp)
  have hbx := (Below.refl w.heap.size w).alloc (Nat.le_refl _) (.cells #[] 148)
  have hs := (h.below hbx).mono (hO0.oth (Nat.le_refl _) hbx.size)
  go_enter Tryz.func77, Tryz.ntmps77
  go_wp2_with (at_builtin; refine wpList_append_slice rfl (some 7) (.tmp 5) (.tmp 6) 58 rfl rfl (.agg #[i64 0, i64 0, i64 0, i64 0, i64 0]) 40 Tryz.underlying58 inf_ev rfl (by decide) (by decide) rfl hO0 (some ad) l.length c l rfl rfl hs (by simp; omega) hbx.size ?_; intro v3 w3 hO3 hg3 hat3)
  go_ret
  exact ⟨_, rfl, by simpa using hO3, hbx.trans (hO0.below hg3 (Nat.le_refl _) hbx.size)⟩
end Go.Proofs.YtampniiehgimhaaGreat
/- stream: which events an account has (plain) -/
namespace Go.Proofs.YtampniiehgimhaaGreat
open Go.RowKit
def evA (x : Od) (a : Ac) : Ev := ⟨x.client, x.seq, x.kind, a.hav, a.set_⟩
/-- is an account named? -/
def nmB (x : Od) (k : ByteArray) : Bool := (touches x).any fun s => decide (k = s)
theorem nmB_iff {x : Od} {k : ByteArray} : nmB x k = true ↔ Nm x k := by
 unfold nmB Nm
 rw [List.any_eq_true]
 constructor
 ·rintro ⟨s, hs, e⟩
  have e : k = s := by simpa using e
  exact e ▸ hs
 ·intro h
  exact ⟨k, h, by simp⟩
/-- the events that an order brings to an account: none, or one -/
def evD (B : Bk) (x : Od) (k : ByteArray) : List Ev := if (doL B x).1.err = 0 ∧ nmB x k = true then ((getK Ac.name (doL B x).2.L k).map (evA x)).toList else []
/-- the events of an account of orders -/
def evL (B : Bk) : List Od → ByteArray → List Ev
 | [], _ => []
 | x :: l, k => evD B x k ++ evL (doL B x).2 l k
theorem evL_app (l m : List Od) (k : ByteArray) : ∀ B : Bk, evL B (l ++ m) k = evL B l k ++ evL (foldL B l) m k := by
 induction l with
 | nil => intro B; rfl
 | cons x l ih =>
  intro B
  show evD B x k ++ evL (doL B x).2 (l ++ m) k = (evD B x k ++ evL (doL B x).2 l k) ++ evL (foldL (doL B x).2 l) m k
  rw [ih, List.append_assoc]
theorem evL_snoc (B : Bk) (l : List Od) (x : Od) (k : ByteArray) : evL B (l ++ [x]) k = evL B l k ++ evD (foldL B l) x k := by
 rw [evL_app]
 show _ ++ (evD (foldL B l) x k ++ []) = _
 rw [List.append_nil]
theorem rightB_touch {x : Od} (h : rightB x = true) {k : ByteArray} (hk : Nm x k) : x.kind ≠ 6 ∧ (x.kind = 2 → ∃ y ∈ x.legs, y.acct = k) ∧ (x.kind ≠ 2 → k = x.acct ∨ (x.kind = 4 ∧ k = x.peer)) := by
 have hs : x.core = (dress x (bareO x)).core := by
  unfold rightB at h
  simp only [Bool.and_eq_true] at h
  exact sameB_core.1 h.2.2.1
 obtain ⟨hm, hne⟩ := mem_touches.1 hk
 have ha : x.acct = (bareO x).acct := by have h1 := congrArg Od.acct hs; exact h1
 have hp : x.peer = (bareO x).peer := by have h1 := congrArg Od.peer hs; exact h1
 have hl : x.legs = (bareO x).legs := by have h1 := congrArg Od.legs hs; exact h1
 have hemp : ∀ s : ByteArray, s.toList ≠ [] → s ≠ ByteArray.empty := fun s h e => h (by rw [e]; kernel_rfl)
 unfold bareO at ha hp hl
 obtain ⟨hr, -⟩ := rightB_ids h
 by_cases k1 : x.kind = 1
 ·rw [if_pos k1] at ha hp hl
  refine ⟨by omega, fun e => by omega, fun _ => .inl ?_⟩
  rcases hm with e | e | e
  ·exact e
  ·exact absurd (e.trans hp) (hemp _ hne)
  ·rw [hl] at e; simp [od0] at e
 rw [if_neg k1] at ha hp hl
 by_cases k2 : x.kind = 2
 ·rw [if_pos k2] at ha hp hl
  refine ⟨by omega, fun _ => ?_, fun e => absurd k2 e⟩
  rcases hm with e | e | e
  ·exact absurd (e.trans ha) (hemp _ hne)
  ·exact absurd (e.trans hp) (hemp _ hne)
  ·obtain ⟨y, hy, e⟩ := List.mem_map.1 e
   exact ⟨y, hy, e⟩
 rw [if_neg k2] at ha hp hl
 by_cases k3 : x.kind = 3
 ·rw [if_pos k3] at ha hp hl
  refine ⟨by omega, fun e => by omega, fun _ => .inl ?_⟩
  rcases hm with e | e | e
  ·exact e
  ·exact absurd (e.trans hp) (hemp _ hne)
  ·rw [hl] at e; simp [od0] at e
 rw [if_neg k3] at ha hp hl
 by_cases k4 : x.kind = 4
 ·rw [if_pos k4] at ha hp hl
  refine ⟨by omega, fun e => by omega, fun _ => ?_⟩
  rcases hm with e | e | e
  ·exact .inl e
  ·exact .inr ⟨k4, e⟩
  ·rw [hl] at e; simp [od0] at e
 rw [if_neg k4] at ha hp hl
 by_cases k5 : x.kind = 5
 ·rw [if_pos k5] at ha hp hl
  refine ⟨by omega, fun e => by omega, fun _ => .inl ?_⟩
  rcases hm with e | e | e
  ·exact e
  ·exact absurd (e.trans hp) (hemp _ hne)
  ·rw [hl] at e; simp [od0] at e
 rw [if_neg k5] at ha hp hl
 by_cases k6 : x.kind = 6
 ·rw [if_pos k6] at ha hp hl
  exfalso
  rcases hm with e | e | e
  ·exact absurd (e.trans ha) (hemp _ hne)
  ·exact absurd (e.trans hp) (hemp _ hne)
  ·rw [hl] at e; simp [od0] at e
 rw [if_neg k6] at ha hp hl
 refine ⟨k6, fun e => by omega, fun _ => .inl ?_⟩
 rcases hm with e | e | e
 ·exact e
 ·exact absurd (e.trans hp) (hemp _ hne)
 ·rw [hl] at e; simp [od0] at e
/-- the same names, set sums and limits -/
theorem SS.get {L L' : List Ac} (h : SS L L') (k : ByteArray) : (getK Ac.name L k).map nsl = (getK Ac.name L' k).map nsl := by
 have one : ∀ M : List Ac, (getK Ac.name M k).map nsl = (M.map nsl).find? fun p => decide (p.1 = k) := fun M => by
  unfold getK
  rw [List.find?_map]
  rfl
 rw [one, one, h]
theorem all_there : ∀ (l : List Leg) {L : List Ac}, SrtL ltA L → (allL L l).1 = 0 → ∀ x ∈ l, ∃ a, getK Ac.name L x.acct = some a
 | [], _, _, _ => fun _ h => by cases h
 | y :: r, L, hs, h => by
  unfold allL at h
  have hp : (postL L y).1 = 0 := by
   by_cases e : (postL L y).1 ≠ 0
   ·rw [if_pos e] at h; exact h
   ·simpa using e
  rw [if_neg (by rw [hp]; simp)] at h
  obtain ⟨s1, s2⟩ := postL_ss hs y
  intro x hx
  rcases List.mem_cons.1 hx with rfl | hx
  ·unfold postL at hp
   cases hg : getK Ac.name L x.acct with
   | some a => exact ⟨a, rfl⟩
   | none =>
    rw [if_pos (by unfold getLR; rw [hg]; show (6 : Int) ≠ 0; decide)] at hp
    unfold getLR at hp
    rw [hg] at hp
    cases hp
  ·obtain ⟨a, ha⟩ := all_there r s2 h x hx
   have e := s1.get x.acct
   rw [ha] at e
   cases hg : getK Ac.name L x.acct with
   | some b => exact ⟨b, rfl⟩
   | none => rw [hg] at e; cases e
theorem make_there {l : List Leg} {L : List Ac} (hs : SrtL ltA L) (h : (makeL L l).1 = 0) : ∀ x ∈ l, ∃ a, getK Ac.name L x.acct = some a := by
 unfold makeL at h
 split at h
 ·rename_i e; exact absurd h e
 ·exact all_there l hs h
theorem SS.some {L L' : List Ac} (h : SS L L') {k : ByteArray} {a : Ac} (ha : getK Ac.name L k = some a) : ∃ b, getK Ac.name L' k = some b ∧ b.set_ = a.set_ := by
 have e := h.get k
 rw [ha] at e
 cases hg : getK Ac.name L' k with
 | none => rw [hg] at e; cases e
 | some b =>
  rw [hg] at e
  refine ⟨b, rfl, ?_⟩
  have e2 : nsl a = nsl b := by simpa using e
  exact (congrArg (fun p => p.2.1) e2).symm
theorem tells_zero {L : List Ac} {k : ByteArray} {e : Int} (h : (tellsL L k e).err = 0) : e = 0 ∧ ∃ a, getK Ac.name L k = some a := by
 unfold tellsL at h
 by_cases h1 : e ≠ 0
 ·rw [if_pos h1] at h; exact absurd h h1
 rw [if_neg h1] at h
 refine ⟨by simpa using h1, ?_⟩
 cases hg : getK Ac.name L k with
 | some a => exact ⟨a, rfl⟩
 | none =>
  have e2 : (getLR L k).2 = 6 := by unfold getLR; rw [hg]
  rw [e2, if_pos (by decide)] at h
  exact absurd h (by show ¬ (6 : Int) = 0; decide)
/-- the effect on one account that is named -/
structure Moved (x : Od) (o : Option Ac) (a' : Ac) : Prop where
 new : o = none → x.kind = 1
 k1 : ∀ a, o = some a → x.kind ≠ 1
 hav : ∀ a, o = some a → x.kind ≠ 2 → x.kind ≠ 4 → a'.hav = a.hav
 set_ : ∀ a, o = some a → x.kind ≠ 3 → a'.set_ ≤ a.set_
theorem turn_get {D : Ac → Ac × Int} (hD : ∀ a, (D a).1.name = a.name) {L : List Ac} {k : ByteArray} {x : Int} (h : (turnL D L k x).1 = 0) : ∃ a, getK Ac.name L k = some a ∧ (D a).2 = 0 ∧ getK Ac.name (turnL D L k x).2 k = some (D a).1 := by
 rcases turnL_cases D L k x with ⟨e, _⟩ | ⟨_, a, hg, h0, _, _, e⟩
 ·exact absurd h e
 ·refine ⟨a, hg, h0, ?_⟩
  rw [e, get_setK, if_pos (by rw [hD]; exact (getK_mem hg).2), hg]
  rfl
theorem free_get {L : List Ac} {H : List Held} (hH : OkH H) {k : ByteArray} {n : Int} (h : (freeHL L H k n).1 = 0) : ∃ a b, getK Ac.name L k = some a ∧ getK Ac.name (freeHL L H k n).2.1 k = some b ∧ b.hav = a.hav ∧ b.set_ ≤ a.set_ := by
 unfold freeHL at *
 cases hg : getK Held.key H ⟨k, n⟩ with
 | none => rw [hg] at h; cases h
 | some y =>
  rw [hg] at h
  dsimp only at h ⊢
  obtain ⟨a, h1, h2, h3⟩ := turn_get (D := asiD (-y.sum)) (fun _ => rfl) h
  refine ⟨a, _, h1, h3, rfl, ?_⟩
  have e : (asiD (-y.sum) a).1.set_ = a.set_ + -y.sum := sumR_0 h2
  have := (hH y (getK_mem hg).1).2.2.1
  omega
theorem do_moved {B : Bk} (hI : InvB B) {x : Od} {k : ByteArray} (hok : (doL B x).1.err = 0) (hk : Nm x k) : ∃ a', getK Ac.name (doL B x).2.L k = some a' ∧ Moved x (getK Ac.name B.L k) a' := by
 unfold doL at *
 by_cases hr : rightB x = false
 ·rw [if_pos hr] at hok; cases hok
 rw [if_neg hr] at *
 have hr : rightB x = true := by simpa using hr
 obtain ⟨k6, t2, t1⟩ := rightB_touch hr hk
 unfold kindD at *
 by_cases k1 : x.kind = 1
 ·rw [if_pos k1] at *
  obtain rfl : k = x.acct := by
   rcases t1 (by omega) with e | ⟨e, _⟩
   ·exact e
   ·omega
  unfold openD at *
  dsimp only at *
  rcases openL_cases B.L x.acct x.sum with ⟨e, _⟩ | ⟨_, _, _, hn, _, e⟩
  ·exact absurd (tells_zero hok).1 e
  ·refine ⟨⟨x.acct, 0, 0, x.sum⟩, ?_, ⟨fun _ => k1, fun a h => (by rw [hn] at h; cases h), fun a h => (by rw [hn] at h; cases h), fun a h => (by rw [hn] at h; cases h)⟩⟩
   rw [e, get_insB _ _ _ hn, if_pos rfl]
 rw [if_neg k1] at *
 by_cases k2 : x.kind = 2
 ·rw [if_pos k2] at *
  obtain ⟨y, hy, rfl⟩ := t2 k2
  unfold postD at *
  split at hok
  ·cases hok
  ·rename_i hcl
   rw [if_neg hcl]
   dsimp only at *
   have hm : (makeL B.L x.legs).1 = 0 := hok
   obtain ⟨a, ha⟩ := make_there hI.inv.srtA hm y hy
   obtain ⟨b, hb, hset⟩ := (makeL_ss hI.inv.srtA x.legs).1.some ha
   refine ⟨b, hb, ⟨fun e => (by rw [ha] at e; cases e), fun _ _ => k1, fun _ _ h => absurd k2 h, fun c hc _ => ?_⟩⟩
   rw [ha] at hc; injection hc with hc; subst hc; omega
 rw [if_neg k2] at *
 by_cases k3 : x.kind = 3
 ·rw [if_pos k3] at *
  obtain rfl : k = x.acct := by
   rcases t1 (by omega) with e | ⟨e, _⟩
   ·exact e
   ·omega
  unfold holdD at *
  dsimp only at *
  have hok2 : (tellsL (putH B.L B.H ⟨numO x, x.acct, x.sum⟩).2.1 x.acct (putH B.L B.H ⟨numO x, x.acct, x.sum⟩).1).err = 0 := by
   unfold withN at hok
   split at hok
   ·assumption
   ·exact hok
  obtain ⟨hp, -⟩ := tells_zero hok2
  obtain ⟨a, ha, -, -, -, -, -, e, -⟩ := put_cases hI.inv hp
  have e1 : (putH B.L B.H ⟨numO x, x.acct, x.sum⟩).2.1 = setK Ac.name B.L { a with set_ := a.set_ + x.sum } := by rw [e]
  have hn : a.name = x.acct := (getK_mem ha).2
  refine ⟨{ a with set_ := a.set_ + x.sum }, ?_, ⟨fun e => (by rw [ha] at e; cases e), fun _ _ => k1, fun c hc _ _ => ?_, fun _ _ h => absurd k3 h⟩⟩
  ·rw [e1, get_setK, if_pos hn, ha]; rfl
  ·rw [ha] at hc; injection hc with hc; subst hc; rfl
 rw [if_neg k3] at *
 by_cases k4 : x.kind = 4
 ·rw [if_pos k4] at *
  unfold capD at *
  split at hok
  ·cases hok
  rename_i hcl
  rw [if_neg hcl]
  dsimp only at *
  obtain ⟨hp, -⟩ := tells_zero hok
  unfold takeH at *
  cases hg : getK Held.key B.H ⟨x.acct, x.hold⟩ with
  | none => rw [hg] at hp; cases hp
  | some y =>
   rw [hg] at hp hok
   dsimp only at hp hok ⊢
   split at hp
   ·cases hp
   rename_i h1
   rw [if_neg h1] at hok ⊢
   split at hp
   ·rename_i h2; exact absurd hp h2
   rename_i h2
   rw [if_neg h2] at hok ⊢
   split at hp
   ·rename_i h3; exact absurd hp h3
   rename_i h3
   rw [if_neg h3] at hok ⊢
   dsimp only at hp ⊢
   have hf : (freeHL B.L B.H x.acct x.hold).1 = 0 := by unfold freeHL; rw [hg]; simpa using h2
   obtain ⟨a, b, ha, hb, -, hs⟩ := free_get hI.inv.okH hf
   have hsr := freeHL_srt (L := B.L) B.H hI.inv.srtA x.acct x.hold
   have hss := (makeL_ss hsr (legs2 x.acct x.peer x.sum)).1
   rcases t1 k2 with rfl | ⟨-, rfl⟩
   ·obtain ⟨c, hc, e⟩ := hss.some hb
    refine ⟨c, hc, ⟨fun e => (by rw [ha] at e; cases e), fun _ _ => k1, fun _ _ _ h => absurd k4 h, fun d hd _ => ?_⟩⟩
    rw [ha] at hd; injection hd with hd; subst hd; omega
   ·obtain ⟨b2, hb2⟩ := make_there hsr hp ⟨x.peer, x.sum⟩ (by unfold legs2; simp)
    obtain ⟨c, hc, e⟩ := hss.some hb2
    have hne : x.peer ≠ x.acct := fun e => by
     have := (rightB_fits hr)
     unfold fitsO at this
     rw [if_neg k1, if_neg k2, if_neg k3, if_pos k4] at this
     unfold fits4 at this
     simp only [Bool.and_eq_true] at this
     have := this.1.1.1.2
     rw [e] at this
     simp at this
    have hfr := (free_frame B.L B.H hne x.hold).1
    rw [hb2] at hfr
    refine ⟨c, hc, ⟨fun e => (by rw [← hfr] at e; cases e), fun _ _ => k1, fun _ _ _ h => absurd k4 h, fun d hd _ => ?_⟩⟩
    rw [← hfr] at hd; injection hd with hd; subst hd; omega
 rw [if_neg k4] at *
 obtain rfl : k = x.acct := by
  rcases t1 k2 with e | ⟨e, _⟩
  ·exact e
  ·exact absurd e k4
 by_cases k5 : x.kind = 5
 ·rw [if_pos k5] at *
  unfold relD at *
  dsimp only at *
  obtain ⟨hp, -⟩ := tells_zero hok
  obtain ⟨a, b, ha, hb, hh, hs⟩ := free_get hI.inv.okH hp
  refine ⟨b, hb, ⟨fun e => (by rw [ha] at e; cases e), fun _ _ => k1, fun c hc _ _ => ?_, fun d hd _ => ?_⟩⟩
  ·rw [ha] at hc; injection hc with hc; subst hc; exact hh
  ·rw [ha] at hd; injection hd with hd; subst hd; exact hs
 rw [if_neg k5, if_neg k6] at *
 unfold askD at *
 dsimp only at *
 obtain ⟨-, a, ha⟩ := tells_zero hok
 refine ⟨a, ha, ⟨fun e => (by rw [ha] at e; cases e), fun _ _ => k1, fun c hc _ _ => ?_, fun d hd _ => ?_⟩⟩
 ·rw [ha] at hc; injection hc with hc; subst hc; rfl
 ·rw [ha] at hd; injection hd with hd; subst hd; exact Int.le_refl _
/-- one event just if the order is done and names the account -/
theorem evD_some {B : Bk} (hI : InvB B) {x : Od} {k : ByteArray} (hok : (doL B x).1.err = 0) (hk : nmB x k = true) : ∃ a', evD B x k = [evA x a'] ∧ getK Ac.name (doL B x).2.L k = some a' ∧ Moved x (getK Ac.name B.L k) a' := by
 obtain ⟨a', h1, h2⟩ := do_moved hI hok (nmB_iff.1 hk)
 refine ⟨a', ?_, h1, h2⟩
 unfold evD
 rw [if_pos ⟨hok, hk⟩, h1]
 rfl
theorem evD_none {B : Bk} {x : Od} {k : ByteArray} (h : ¬ ((doL B x).1.err = 0 ∧ nmB x k = true)) : evD B x k = [] := by
 unfold evD
 rw [if_neg h]
theorem evD_len {B : Bk} (hI : InvB B) (x : Od) (k : ByteArray) : (evD B x k).length = if (doL B x).1.err = 0 ∧ nmB x k = true then 1 else 0 := by
 by_cases h : (doL B x).1.err = 0 ∧ nmB x k = true
 ·obtain ⟨a', e, -⟩ := evD_some hI h.1 h.2
  rw [if_pos h, e]; rfl
 ·rw [if_neg h, evD_none h]; rfl
theorem evL_le {B : Bk} (hI : InvB B) (k : ByteArray) : ∀ l : List Od, (∀ x ∈ l, OdB x) → (evL B l k).length ≤ l.length := by
 intro l
 induction l generalizing B with
 | nil => intro _; exact Nat.le_refl _
 | cons x l ih =>
  intro hx
  show (evD B x k ++ evL (doL B x).2 l k).length ≤ l.length + 1
  rw [List.length_append]
  have h1 := ih (hI.do_ (hx x List.mem_cons_self)) fun y hy => hx y (List.mem_cons_of_mem _ hy)
  have h2 := evD_len hI x k
  have h3 : (evD B x k).length ≤ 1 := by rw [h2]; split <;> omega
  omega
/-- each event by the one ahead: what changes -/
def EvStep (p q : Ev) : Prop := q.kind ≠ 1 ∧ q.kind ≠ 6 ∧ (q.kind ≠ 2 → q.kind ≠ 4 → q.hav = p.hav) ∧ (q.kind ≠ 3 → q.set_ ≤ p.set_)
structure EvInv (o : Option Ac) (E : List Ev) : Prop where
 none_ : o = none → E = []
 last : ∀ a, o = some a → ∃ E' p, E = E' ++ [p] ∧ p.hav = a.hav ∧ p.set_ = a.set_
 first : ∀ p r, E = p :: r → p.kind = 1
 chain : ∀ i (h : i + 1 < E.length), EvStep (E[i]'(by omega)) E[i + 1]
theorem EvInv.nil_ : EvInv none [] := ⟨fun _ => rfl, fun _ h => (by cases h), fun _ _ h => (by cases h), fun i h => (by simp at h)⟩
/-- the events that one order brings, of the first accounts -/
def evN (x : Od) (L : List Ac) (k : ByteArray) : List Ev := if nmB x k = true then (L.filter fun a => decide (a.name = k)).map (evA x) else []
theorem evN_snoc (x : Od) (L : List Ac) (a : Ac) (k : ByteArray) : evN x (L ++ [a]) k = evN x L k ++ (if nmB x a.name = true ∧ a.name = k then [evA x a] else []) := by
 unfold evN
 by_cases hk : nmB x k = true
 ·rw [if_pos hk, if_pos hk, List.filter_append, List.map_append]
  congr 1
  by_cases h : a.name = k
  ·rw [if_pos ⟨h ▸ hk, h⟩, List.filter_cons_of_pos (by simpa using h)]; rfl
  ·rw [if_neg (fun e => h e.2), List.filter_cons_of_neg (by simpa using h)]; rfl
 ·rw [if_neg hk, if_neg hk, if_neg (show ¬ (nmB x a.name = true ∧ a.name = k) from fun e => hk (e.2 ▸ e.1))]; rfl
theorem evN_len (x : Od) (L : List Ac) (k : ByteArray) : (evN x L k).length ≤ L.length := by
 unfold evN
 split
 ·rw [List.length_map]; exact List.length_filter_le _ _
 ·exact Nat.zero_le _
theorem filter_one {L : List Ac} (h : SrtL ltA L) (k : ByteArray) : (L.filter fun a => decide (a.name = k)) = (getK Ac.name L k).toList := by
 induction L with
 | nil => rfl
 | cons a r ih =>
  obtain ⟨h1, h2⟩ := List.pairwise_cons.1 h
  by_cases e : a.name = k
  ·rw [List.filter_cons_of_pos (by simpa using e)]
   have : (r.filter fun a => decide (a.name = k)) = [] := by
    rw [List.filter_eq_nil_iff]
    intro b hb e2
    have e2 : b.name = k := by simpa using e2
    exact keyA.ne _ _ (h1 b hb) (e.trans e2.symm)
   rw [this]
   unfold getK
   rw [List.find?_cons_of_pos (by simpa using e)]
   rfl
  ·rw [List.filter_cons_of_neg (by simpa using e), ih h2]
   unfold getK
   rw [List.find?_cons_of_neg (by simpa using e)]
theorem evN_all {B : Bk} {x : Od} (h : SrtL ltA (doL B x).2.L) (hok : (doL B x).1.err = 0) (k : ByteArray) : evN x (doL B x).2.L k = evD B x k := by
 unfold evN evD
 by_cases hk : nmB x k = true
 ·rw [if_pos hk, if_pos ⟨hok, hk⟩, filter_one h]
  cases getK Ac.name (doL B x).2.L k <;> rfl
 ·rw [if_neg hk, if_neg (fun e => hk e.2)]
end Go.Proofs.YtampniiehgimhaaGreat
/- stream: a desk in memory -/
namespace Go.Proofs.YtampniiehgimhaaGreat
open Go.RowKit
/-- rows of events, by accounts: where each lies, and what it holds -/
abbrev EvT := List (ByteArray × (Value × List Ev))
def EvT.ents (T : EvT) : List (ByteArray × Value) := T.map fun p => (p.1, p.2.1)
def EvT.get (T : EvT) (k : ByteArray) : List Ev := ((getM T k).map (·.2)).getD []
def EvT.val (T : EvT) (k : ByteArray) : Value := ((getM T k).map (·.1)).getD (.slice none 0 0)
def EvT.rows (T : EvT) (g : Nat) : Prop := ∃ p ∈ T, p.2.1.ownBlock = some g
theorem EvT.ents_get (T : EvT) (k : ByteArray) : (getM T.ents k).getD (.slice none 0 0) = T.val k := by
 unfold EvT.ents EvT.val
 rw [getM_map]
theorem EvT.ents_put (T : EvT) (k : ByteArray) (v : Value) (l : List Ev) : putM T.ents k v = EvT.ents (putM T k (v, l)) := (putM_map Prod.fst T k (v, l)).symm
theorem EvT.get_put (T : EvT) (k : ByteArray) (v : Value) (l : List Ev) (k' : ByteArray) : EvT.get (putM T k (v, l)) k' = if k = k' then l else T.get k' := by
 unfold EvT.get
 rw [getM_put]
 by_cases h : k = k'
 ·rw [if_pos h, if_pos h]; rfl
 ·rw [if_neg h, if_neg h]
structure EvM (w : World) (B b : Nat) (T : EvT) : Prop where
 map : MapIs Value.string w b T.ents
 own : ∀ p ∈ T, Own w B 148 p.2.1 p.2.2
 apart : ∀ p ∈ T, ∀ q ∈ T, p.1 ≠ q.1 → p.2.1.ownBlock = none ∨ p.2.1.ownBlock ≠ q.2.1.ownBlock
theorem EvM.rows_lt {w : World} {B b : Nat} {T : EvT} (h : EvM w B b T) {g : Nat} (hg : T.rows g) : B ≤ g ∧ g < w.heap.size := by
 obtain ⟨p, hp, e⟩ := hg
 exact (h.own p hp).1.lt g e
theorem EvM.kept {w w' : World} {B b : Nat} {T : EvT} {S : Nat → Prop} (h : EvM w B b T) (hg : Gr w w' S) (hb : ¬ S b) (hr : ∀ g, T.rows g → ¬ S g) : EvM w' B b T :=
 ⟨h.map.gr hg hb, fun p hp => (h.own p hp).gr hg (fun g e => hr g ⟨p, hp, e⟩) (fun _ _ => trivial), h.apart⟩
theorem EvM.val_own {w : World} {B b : Nat} {T : EvT} (h : EvM w B b T) (k : ByteArray) : Own w B 148 (T.val k) (T.get k) := by
 unfold EvT.val EvT.get
 cases hg : getM T k with
 | none => exact Own.nil_ _ _ _
 | some p => exact h.own _ (getM_in hg)
theorem EvM.val_row {w : World} {B b : Nat} {T : EvT} (_h : EvM w B b T) (k : ByteArray) {g : Nat} (e : (T.val k).ownBlock = some g) : T.rows g := by
 unfold EvT.val at e
 cases hg : getM T k with
 | none => rw [hg] at e; cases e
 | some p => rw [hg] at e; exact ⟨(k, p), getM_in hg, e⟩
/-- a row that grew, and was put back -/
theorem EvM.put {w w1 w2 : World} {B b : Nat} {T : EvT} (h : EvM w B b T) (k : ByteArray) {v : Value} {l : List Ev} (hb : ∀ g, T.rows g → g ≠ b) (ho : Own w1 B 148 v l) (hg : w.grownBy w1 (T.val k).ownBlock) (hv : v.ownBlock = (T.val k).ownBlock ∨ ∃ g, v.ownBlock = some g ∧ w.heap.size ≤ g)
  (hm : MapIs Value.string w2 b (putM T.ents k v)) (hg2 : w1.grownBy w2 (some b)) : EvM w2 B b (putM T k (v, l)) ∧ (∀ g, EvT.rows (putM T k (v, l)) g → T.rows g ∨ w.heap.size ≤ g) := by
 have hblt := h.map.lt
 have hrow : ∀ g, v.ownBlock = some g → T.rows g ∨ w.heap.size ≤ g := fun g e => by
  rcases hv with e2 | ⟨g2, e2, h2⟩
  ·exact .inl (h.val_row k (e2 ▸ e))
  ·rw [e2] at e; injection e with e; exact .inr (e ▸ h2)
 have hoth : ∀ p ∈ T, p.1 ≠ k → p.2.1.ownBlock = none ∨ p.2.1.ownBlock ≠ (T.val k).ownBlock := fun p hp hne => by
  unfold EvT.val
  cases hgk : getM T k with
  | none =>
   cases e : p.2.1.ownBlock with
   | none => exact .inl rfl
   | some g => exact .inr (by show some g ≠ none; simp)
  | some q => exact h.apart p hp (k, q) (getM_in hgk) hne
 have hnb : ∀ g, v.ownBlock = some g → g ≠ b := fun g e => by
  rcases hrow g e with h1 | h1
  ·exact hb g h1
  ·omega
 refine ⟨⟨by rw [← EvT.ents_put]; exact hm, fun p hp => ?_, fun p hp q hq hne => ?_⟩, fun g hg => ?_⟩
 ·rcases mem_putM hp with rfl | ⟨hp, hne⟩
  ·exact ho.gr (Gr.of_grown hg2) (fun g e e2 => by injection e2 with e2; exact hnb g e e2.symm) (fun _ _ => trivial)
  ·have h1 := (h.own p hp).gr (Gr.of_grown hg) (fun g e e2 => by
    rcases hoth p hp hne with h1 | h1
    ·rw [h1] at e; cases e
    ·exact h1 (e.trans e2.symm)) (fun _ _ => trivial)
   exact h1.gr (Gr.of_grown hg2) (fun g e e2 => by injection e2 with e2; exact hb g ⟨p, hp, e⟩ e2.symm) (fun _ _ => trivial)
 ·rcases mem_putM hp with rfl | ⟨hp, hnp⟩
  ·rcases mem_putM hq with rfl | ⟨hq, hnq⟩
   ·exact absurd rfl hne
   ·cases e : v.ownBlock with
    | none => exact .inl rfl
    | some g =>
     refine .inr fun e2 => ?_
     rcases hv with e3 | ⟨g2, e3, h2⟩
     ·rcases hoth q hq hnq with h1 | h1
      ·rw [h1] at e2; cases e2
      ·exact h1 (by rw [← e3, e]; exact e2.symm)
     ·rw [e3] at e; injection e with e
      have := ((h.own q hq).1.lt g e2.symm).2
      omega
  ·rcases mem_putM hq with rfl | ⟨hq, hnq⟩
   ·show p.2.1.ownBlock = none ∨ p.2.1.ownBlock ≠ v.ownBlock
    rcases hv with e3 | ⟨g2, e3, h2⟩
    ·rw [e3]; exact hoth p hp hnp
    ·cases e : p.2.1.ownBlock with
     | none => exact .inl rfl
     | some g =>
      refine .inr fun e2 => ?_
      rw [e3] at e2; injection e2 with e2
      have := ((h.own p hp).1.lt g e).2
      omega
   ·exact h.apart p hp q hq hne
 ·obtain ⟨p, hp, e⟩ := hg
  rcases mem_putM hp with rfl | ⟨hp, _⟩
  ·exact hrow g e
  ·exact .inl ⟨p, hp, e⟩
/-- a reader: its name, where it lies, its account, how many events it has taken -/
structure Rx where
 name : ByteArray
 blk : Nat
 acct : ByteArray
 at_ : Nat
abbrev Rx.ptr (r : Rx) : Value := .pointer (some ⟨r.blk, 0, none⟩)
def rdEnts (R : List Rx) : List (ByteArray × Value) := R.map fun r => (r.name, r.ptr)
def getRd (R : List Rx) (k : ByteArray) : Option Rx := R.find? fun r => decide (r.name = k)
theorem rdEnts_get (R : List Rx) (k : ByteArray) : getM (rdEnts R) k = (getRd R k).map Rx.ptr := by
 unfold getM rdEnts getRd
 rw [List.find?_map, Option.map_map]
 rfl
theorem getRd_mem {R : List Rx} {k : ByteArray} {r : Rx} (h : getRd R k = some r) : r ∈ R ∧ r.name = k := ⟨List.mem_of_find?_eq_some h, by simpa using List.find?_some h⟩
structure RdM (w : World) (b : Nat) (R : List Rx) : Prop where
 map : MapIs Value.string w b (rdEnts R)
 cell : ∀ r ∈ R, w.heap[r.blk]? = some (.cells #[.string r.acct, i64 r.at_] 158 (0, 0))
theorem RdM.kept {w w' : World} {b : Nat} {R : List Rx} {S : Nat → Prop} (h : RdM w b R) (hg : Gr w w' S) (hb : ¬ S b) (hr : ∀ r ∈ R, ¬ S r.blk) : RdM w' b R :=
 ⟨h.map.gr hg hb, fun r hr' => by rw [hg.block _ (Array.getElem?_eq_some_iff.1 (h.cell r hr')).1 (hr r hr')]; exact h.cell r hr'⟩
/-- where a desk lies -/
structure DA where
 a : BA
 p : Nat
 be : Nat
 br : Nat
abbrev DA.ptr (d : DA) : Value := .pointer (some ⟨d.p, 0, none⟩)
def DA.fixed (d : DA) (R : List Rx) (k : Nat) : Prop := d.a.all k ∨ k = d.p ∨ k = d.be ∨ k = d.br ∨ ∃ r ∈ R, r.blk = k
def DA.all (d : DA) (T : EvT) (R : List Rx) (k : Nat) : Prop := d.fixed R k ∨ T.rows k
structure DA.Apart (d : DA) (R : List Rx) : Prop where
 pa : ¬ d.a.all d.p
 ea : ¬ d.a.all d.be
 ra : ¬ d.a.all d.br
 pe : d.p ≠ d.be
 pr : d.p ≠ d.br
 er : d.be ≠ d.br
 rd : ∀ r ∈ R, ¬ d.a.all r.blk ∧ r.blk ≠ d.p ∧ r.blk ≠ d.be ∧ r.blk ≠ d.br
 rr : R.Pairwise fun r s => r.blk ≠ s.blk
structure DkA (w : World) (base : Nat) (d : DA) (B : Bk) (T : EvT) (R : List Rx) : Prop where
 bk : BkA w d.a B
 cell : w.heap[d.p]? = some (.cells #[d.a.ptr, .map (some d.be), .map (some d.br)] 152 (0, 0))
 ev : EvM w base d.be T
 rd : RdM w d.br R
 ap : d.Apart R
 out : ∀ g, T.rows g → ¬ d.fixed R g
 lo : ∀ k, d.fixed R k → base ≤ k
theorem DkA.lt {w : World} {base : Nat} {d : DA} {B : Bk} {T : EvT} {R : List Rx} (h : DkA w base d B T R) : ∀ k, d.all T R k → base ≤ k ∧ k < w.heap.size := fun k hk => by
 rcases hk with hk | hk
 ·refine ⟨h.lo k hk, ?_⟩
  rcases hk with hk | rfl | rfl | rfl | ⟨r, hr, rfl⟩
  ·exact h.bk.lt k hk
  ·exact (Array.getElem?_eq_some_iff.1 h.cell).1
  ·exact h.ev.map.lt
  ·exact h.rd.map.lt
  ·exact (Array.getElem?_eq_some_iff.1 (h.rd.cell r hr)).1
 ·exact h.ev.rows_lt hk
theorem DkA.kept {w w' : World} {base : Nat} {d : DA} {B : Bk} {T : EvT} {R : List Rx} {S : Nat → Prop} (h : DkA w base d B T R) (hg : Gr w w' S) (hS : ∀ k, d.all T R k → ¬ S k) : DkA w' base d B T R :=
 ⟨h.bk.kept hg (fun k hk => hS k (.inl (.inl hk))), by rw [hg.block _ (h.lt d.p (.inl (.inr (.inl rfl)))).2 (hS _ (.inl (.inr (.inl rfl))))]; exact h.cell,
  h.ev.kept hg (hS _ (.inl (.inr (.inr (.inl rfl))))) (fun g hg => hS g (.inr hg)), h.rd.kept hg (hS _ (.inl (.inr (.inr (.inr (.inl rfl)))))) (fun r hr => hS _ (.inl (.inr (.inr (.inr (.inr ⟨r, hr, rfl⟩)))))), h.ap, h.out, h.lo⟩
theorem DkA.later {w w' : World} {base : Nat} {d : DA} {B : Bk} {T : EvT} {R : List Rx} (h : DkA w base d B T R) (hb : Below w.heap.size w w') : DkA w' base d B T R := h.kept (Gr.of_below hb (fun _ => False)) (fun _ _ => id)
theorem DkA.below {w w' : World} {base : Nat} {d : DA} {B : Bk} {T : EvT} {R : List Rx} (h : DkA w base d B T R) (hg : Gr w w' (d.all T R)) (hB : base ≤ w.heap.size) : Below base w w' := hg.below hB (fun k hk => (h.lt k hk).1)
/-- the book did something -/
theorem DkA.book {w w' : World} {base : Nat} {d : DA} {B B' : Bk} {T : EvT} {R : List Rx} (h : DkA w base d B T R) (hb : BkA w' d.a B') (hg : Gr w w' d.a.own) : DkA w' base d B' T R :=
 have ho : ∀ {k}, d.a.own k → d.a.all k := fun hk => BA.own_all hk
 ⟨hb, by rw [hg.block _ (h.lt d.p (.inl (.inr (.inl rfl)))).2 (fun e => h.ap.pa (ho e))]; exact h.cell,
  h.ev.kept hg (fun e => h.ap.ea (ho e)) (fun g hr e => h.out g hr (.inl (ho e))), h.rd.kept hg (fun e => h.ap.ra (ho e)) (fun r hr e => (h.ap.rd r hr).1 (ho e)), h.ap, h.out, h.lo⟩
/-- an event more -/
theorem DkA.event {w w1 w2 : World} {base : Nat} {d : DA} {B : Bk} {T : EvT} {R : List Rx} (h : DkA w base d B T R) (k : ByteArray) {v : Value} {l : List Ev} (ho : Own w1 base 148 v l) (hg : w.grownBy w1 (T.val k).ownBlock) (hv : v.ownBlock = (T.val k).ownBlock ∨ ∃ g, v.ownBlock = some g ∧ w.heap.size ≤ g)
  (hm : MapIs Value.string w2 d.be (putM T.ents k v)) (hg2 : w1.grownBy w2 (some d.be)) : DkA w2 base d B (putM T k (v, l)) R ∧ Gr w w2 (d.all T R) ∧ (∀ g, EvT.rows (putM T k (v, l)) g → T.rows g ∨ w.heap.size ≤ g) := by
 have hbe : d.fixed R d.be := .inr (.inr (.inl rfl))
 have hlt := h.lt
 obtain ⟨he, hr⟩ := h.ev.put k (fun g hg e => h.out g hg (e ▸ hbe)) ho hg hv hm hg2
 have hrow : ∀ g, (T.val k).ownBlock = some g → T.rows g := fun g e => h.ev.val_row k e
 have hG : Gr w w2 (fun j => T.rows j ∨ j = d.be) := by
  have h1 := (Gr.of_grown hg).mono (S' := fun j => T.rows j ∨ j = d.be) (fun j _ e => .inl (hrow j e))
  have h2 := (Gr.of_grown hg2).mono (S' := fun j => T.rows j ∨ j = d.be) (fun j _ e => .inr (by injection e with e; exact e.symm))
  exact h1.trans h2 (fun j e => .inl e)
 refine ⟨⟨h.bk.kept hG (fun j hj e => ?_), ?_, he, h.rd.kept hG (fun e => ?_) (fun r hr e => ?_), h.ap, fun g hg hf => ?_, h.lo⟩, hG.mono (fun j _ e => ?_), hr⟩
 ·rcases e with e | rfl
  ·exact h.out j e (.inl hj)
  ·exact h.ap.ea hj
 ·rw [hG.block _ (hlt d.p (.inl (.inr (.inl rfl)))).2 (fun e => e.elim (fun e => h.out _ e (.inr (.inl rfl))) (fun e => h.ap.pe e))]; exact h.cell
 ·rcases e with e | e
  ·exact h.out _ e (.inr (.inr (.inr (.inl rfl))))
  ·exact h.ap.er e.symm
 ·rcases e with e | e
  ·exact h.out _ e (.inr (.inr (.inr (.inr ⟨r, hr, rfl⟩))))
  ·exact (h.ap.rd r hr).2.2.1 e
 ·rcases hr g hg with e | e
  ·exact h.out g e hf
  ·have := (hlt g (.inl hf)).2; omega
 ·rcases e with e | rfl
  ·exact .inr e
  ·exact .inl hbe
/-- a reader stands elsewhere -/
def setRd (R : List Rx) (k : ByteArray) (n : Nat) : List Rx := R.map fun r => if r.name = k then { r with at_ := n } else r
theorem setRd_ents (R : List Rx) (k : ByteArray) (n : Nat) : rdEnts (setRd R k n) = rdEnts R := by
 unfold rdEnts setRd
 rw [List.map_map]
 refine List.map_congr_left fun r _ => ?_
 show ((if r.name = k then { r with at_ := n } else r).name, (if r.name = k then { r with at_ := n } else r).ptr) = _
 split <;> rfl
theorem mem_setRd {R : List Rx} {k : ByteArray} {n : Nat} {r : Rx} (h : r ∈ setRd R k n) : ∃ q ∈ R, r.blk = q.blk ∧ r.name = q.name ∧ r.acct = q.acct ∧ ((q.name = k ∧ r.at_ = n) ∨ (q.name ≠ k ∧ r = q)) := by
 obtain ⟨q, hq, rfl⟩ := List.mem_map.1 h
 refine ⟨q, hq, ?_⟩
 by_cases e : q.name = k
 ·rw [if_pos e]; exact ⟨rfl, rfl, rfl, .inl ⟨e, rfl⟩⟩
 ·rw [if_neg e]; exact ⟨rfl, rfl, rfl, .inr ⟨e, rfl⟩⟩
theorem setRd_fixed (d : DA) (R : List Rx) (k : ByteArray) (n : Nat) (j : Nat) : d.fixed (setRd R k n) j ↔ d.fixed R j := by
 have : (∃ r ∈ setRd R k n, r.blk = j) ↔ ∃ r ∈ R, r.blk = j := by
  constructor
  ·rintro ⟨r, hr, e⟩
   obtain ⟨q, hq, e1, -⟩ := mem_setRd hr
   exact ⟨q, hq, e1 ▸ e⟩
  ·rintro ⟨r, hr, e⟩
   refine ⟨_, List.mem_map.2 ⟨r, hr, rfl⟩, ?_⟩
   split <;> exact e
 unfold DA.fixed
 rw [this]
theorem RdM.uniq {w : World} {b : Nat} {R : List Rx} (h : RdM w b R) {r q : Rx} (hr : r ∈ R) (hq : q ∈ R) (e : r.name = q.name) : r = q := by
 have hn : R.Pairwise fun r s => r.name ≠ s.name := by
  have := h.map.nodup
  unfold rdEnts at this
  have h2 := List.pairwise_map.1 this
  exact h2
 obtain ⟨i, hi, rfl⟩ := List.mem_iff_getElem.1 hr
 obtain ⟨j, hj, rfl⟩ := List.mem_iff_getElem.1 hq
 rcases Nat.lt_trichotomy i j with h1 | h1 | h1
 ·exact absurd e (List.pairwise_iff_getElem.1 hn i j hi hj h1)
 ·subst h1; rfl
 ·exact absurd e.symm (List.pairwise_iff_getElem.1 hn j i hj hi h1)
theorem DA.Apart.uniq {d : DA} {R : List Rx} (h : d.Apart R) {r q : Rx} (hr : r ∈ R) (hq : q ∈ R) (e : r.blk = q.blk) : r = q := by
 obtain ⟨i, hi, rfl⟩ := List.mem_iff_getElem.1 hr
 obtain ⟨j, hj, rfl⟩ := List.mem_iff_getElem.1 hq
 rcases Nat.lt_trichotomy i j with h1 | h1 | h1
 ·exact absurd e (List.pairwise_iff_getElem.1 h.rr i j hi hj h1)
 ·subst h1; rfl
 ·exact absurd e.symm (List.pairwise_iff_getElem.1 h.rr j i hj hi h1)
theorem DkA.take {w : World} {base : Nat} {d : DA} {B : Bk} {T : EvT} {R : List Rx} (h : DkA w base d B T R) {k : ByteArray} {r : Rx} (hr : getRd R k = some r) (n : Nat) :
  DkA (w.setCell ⟨r.blk, 1, none⟩ (i64 n)) base d B T (setRd R k n) ∧ Gr w (w.setCell ⟨r.blk, 1, none⟩ (i64 n)) (d.all T R) := by
 obtain ⟨hm, hn⟩ := getRd_mem hr
 have hgb := grown_setCell (World.grownBy.refl w (some r.blk)) (p := ⟨r.blk, 1, none⟩) (.inl rfl) (i64 n)
 have hg := Gr.of_grown hgb
 have hfx : d.fixed R r.blk := .inr (.inr (.inr (.inr ⟨r, hm, rfl⟩)))
 obtain ⟨a1, a2, a3, a4⟩ := h.ap.rd r hm
 refine ⟨⟨h.bk.kept hg (fun j hj e => ?_), ?_, h.ev.kept hg (fun e => ?_) (fun g hr e => ?_), ⟨?_, fun q hq => ?_⟩, ⟨h.ap.pa, h.ap.ea, h.ap.ra, h.ap.pe, h.ap.pr, h.ap.er, fun q hq => ?_, ?_⟩, fun g hg hf => h.out g hg ((setRd_fixed d R k n g).1 hf), fun j hj => h.lo j ((setRd_fixed d R k n j).1 hj)⟩, hg.mono fun j _ e => ?_⟩
 ·injection e with e; subst e; exact a1 hj
 ·rw [hg.block _ (h.lt d.p (.inl (.inr (.inl rfl)))).2 (fun e => a2 (by injection e))]; exact h.cell
 ·injection e with e; exact a3 e
 ·injection e with e; subst e; exact h.out _ hr hfx
 ·rw [setRd_ents]; exact h.rd.map.gr hg (fun e => a4 (by injection e))
 ·obtain ⟨p, hp, e1, e2, e3, e4⟩ := mem_setRd hq
  rcases e4 with ⟨e4, e5⟩ | ⟨e4, rfl⟩
  ·obtain rfl := h.rd.uniq hp hm (e4.trans hn.symm)
   rw [e1, e3, e5]
   exact heap_setCell_same w p.blk 1 _ _ (i64 n) (h.rd.cell p hp)
  ·rw [hg.block _ (Array.getElem?_eq_some_iff.1 (h.rd.cell q hp)).1 (fun e => by
    injection e with e
    obtain rfl := h.ap.uniq hm hp e
    exact e4 hn)]
   exact h.rd.cell q hp
 ·obtain ⟨p, hp, e1, -⟩ := mem_setRd hq
  rw [e1]; exact h.ap.rd p hp
 ·have := h.ap.rr
  unfold setRd
  refine List.pairwise_map.2 (this.imp fun {a b} hab => ?_)
  have e1 : (if a.name = k then { a with at_ := n } else a).blk = a.blk := by split <;> rfl
  have e2 : (if b.name = k then { b with at_ := n } else b).blk = b.blk := by split <;> rfl
  rw [e1, e2]; exact hab
 ·injection e with e; subst e; exact .inl hfx
theorem DkA.reader {w w2 : World} {base : Nat} {d : DA} {B : Bk} {T : EvT} {R : List Rx} (h : DkA w base d B T R) (k a : ByteArray) (hB : base ≤ w.heap.size) (hr : getRd R k = none)
  (hm : MapIs Value.string w2 d.br (putM (rdEnts R) k (.pointer (some ⟨w.heap.size, 0, none⟩)))) (hg : (w.alloc (.cells #[.string a, i64 0] 158)).grownBy w2 (some d.br)) :
  DkA w2 base d B T (R ++ [⟨k, w.heap.size, a, 0⟩]) ∧ Gr w w2 (d.all T R) := by
 have hlt := h.lt
 have hba := (Below.refl w.heap.size w).alloc (Nat.le_refl _) (.cells #[.string a, i64 0] 158)
 have hG : Gr w w2 (fun j => j = d.br) := (Gr.of_below hba (fun j => j = d.br)).trans ((Gr.of_grown hg).mono (S' := fun j => j = d.br) fun j _ e => by injection e with e; exact e.symm) (fun j e => .inl e)
 have hbr : d.fixed R d.br := .inr (.inr (.inr (.inl rfl)))
 have hbl := (hlt _ (.inl hbr)).2
 have hnew : w2.heap[w.heap.size]? = some (.cells #[.string a, i64 ((0 : Nat) : Int)] 158 (0, 0)) := by
  rw [hg.block w.heap.size (by simp) (fun e => by injection e with e; omega)]
  exact heap_alloc_new w _
 have hno : (rdEnts R).any (fun p => decide (p.1 = k)) = false := by
  rw [Bool.eq_false_iff]
  intro e
  obtain ⟨p, hp, e2⟩ := List.any_eq_true.1 e
  obtain ⟨r, hr2, rfl⟩ := List.mem_map.1 hp
  have := List.find?_eq_none.1 hr r hr2
  exact this e2
 have hents : putM (rdEnts R) k (.pointer (some ⟨w.heap.size, 0, none⟩)) = rdEnts (R ++ [⟨k, w.heap.size, a, 0⟩]) := by
  unfold putM
  rw [hno]
  unfold rdEnts
  rw [List.map_append]
  rfl
 have hfx : ∀ j, d.fixed (R ++ [⟨k, w.heap.size, a, 0⟩]) j → d.fixed R j ∨ j = w.heap.size := fun j hj => by
  rcases hj with hj | hj | hj | hj | ⟨r, hr, e⟩
  ·exact .inl (.inl hj)
  ·exact .inl (.inr (.inl hj))
  ·exact .inl (.inr (.inr (.inl hj)))
  ·exact .inl (.inr (.inr (.inr (.inl hj))))
  ·rcases List.mem_append.1 hr with hr | hr
   ·exact .inl (.inr (.inr (.inr (.inr ⟨r, hr, e⟩))))
   ·rw [List.mem_singleton.1 hr] at e; exact .inr e.symm
 refine ⟨⟨h.bk.kept hG (fun j hj e => h.ap.ra (e ▸ hj)), ?_, h.ev.kept hG h.ap.er (fun g hg e => h.out g hg (e ▸ hbr)), ⟨hents ▸ hm, fun q hq => ?_⟩, ⟨h.ap.pa, h.ap.ea, h.ap.ra, h.ap.pe, h.ap.pr, h.ap.er, fun q hq => ?_, ?_⟩, fun g hg hf => ?_, fun j hj => ?_⟩, hG.mono fun j _ e => ?_⟩
 ·rw [hG.block _ (hlt d.p (.inl (.inr (.inl rfl)))).2 h.ap.pr]; exact h.cell
 ·rcases List.mem_append.1 hq with hq | hq
  ·rw [hG.block _ (Array.getElem?_eq_some_iff.1 (h.rd.cell q hq)).1 (h.ap.rd q hq).2.2.2]; exact h.rd.cell q hq
  ·rw [List.mem_singleton.1 hq]; exact hnew
 ·rcases List.mem_append.1 hq with hq | hq
  ·exact h.ap.rd q hq
  ·rw [List.mem_singleton.1 hq]
   refine ⟨fun e => ?_, fun e => ?_, fun e => ?_, fun e => ?_⟩
   ·have := h.bk.lt _ e
    have e2 : w.heap.size < w.heap.size := this
    omega
   ·have := (hlt d.p (.inl (.inr (.inl rfl)))).2
    have e2 : w.heap.size = d.p := e
    omega
   ·have := (hlt d.be (.inl (.inr (.inr (.inl rfl))))).2
    have e2 : w.heap.size = d.be := e
    omega
   ·have e2 : w.heap.size = d.br := e
    omega
 ·refine List.pairwise_append.2 ⟨h.ap.rr, List.pairwise_singleton _ _, fun q hq s hs => ?_⟩
  rw [List.mem_singleton.1 hs]
  have := (Array.getElem?_eq_some_iff.1 (h.rd.cell q hq)).1
  show q.blk ≠ w.heap.size
  omega
 ·rcases hfx g hf with hf | hf
  ·exact h.out g hg hf
  ·have := (h.ev.rows_lt hg).2; omega
 ·rcases hfx j hj with hj | hj
  ·exact h.lo j hj
  ·omega
 ·exact .inl (e ▸ hbr)
end Go.Proofs.YtampniiehgimhaaGreat
/- few, own of countinghouselaw12 -/
namespace Go.Proofs.YtampniiehgimhaaGreat
open Go.RowKit
end Go.Proofs.YtampniiehgimhaaGreat
