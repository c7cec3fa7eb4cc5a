/- audit: flows in memory -/
import Derived.Test.YtgholbeehkfbiaaGreatRows
import Derived.Test.YtgholbeehkfbiaaGreatBpAuP
import Derived.Test.YtgholbeehkfbiaaGreatBm20
import Derived.WalkKit
import Derived.WalkSpells
import Derived.WalkLawsBesides
import Derived.Deep.QuietTactic
import Derived.BigQuiet
import Derived.Laws.StructEq
import Derived.Deep.DeepFit
import Derived.StillTailTactics
namespace Go.Proofs.YtgholbeehkfbiaaGreat
open Go.RowKit
/-- what came and went of an account: where it lies -/
structure Fl where
  name : ByteArray
  p : Nat
  vi : Value
  li : List Int
  vo : Value
  lo : List Int
abbrev Fl.ptr (x : Fl) : Value := .pointer (some ⟨x.p, 0, none⟩)
def flEnts (T : List Fl) : List (ByteArray × Value) := T.map fun x => (x.name, x.ptr)
def getF (T : List Fl) (k : ByteArray) : Option Fl := T.find? fun x => decide (x.name = k)
theorem flEnts_get (T : List Fl) (k : ByteArray) : getM (flEnts T) k = (getF T k).map Fl.ptr := by
  unfold getM flEnts getF
  rw [List.find?_map, Option.map_map]
  rfl
theorem getF_mem {T : List Fl} {k : ByteArray} {x : Fl} (h : getF T k = some x) : x ∈ T ∧ x.name = k := ⟨List.mem_of_find?_eq_some h, by simpa using List.find?_some h⟩
theorem getF_none {T : List Fl} {k : ByteArray} : getF T k = none ↔ ∀ x ∈ T, x.name ≠ k := by
  unfold getF
  rw [List.find?_eq_none]
  simp
def setF (T : List Fl) (y : Fl) : List Fl := T.map fun z => if z.name = y.name then y else z
theorem mem_setF {T : List Fl} {y z : Fl} (h : z ∈ setF T y) : z = y ∨ (z ∈ T ∧ z.name ≠ y.name) := by
  obtain ⟨q, hq, rfl⟩ := List.mem_map.1 h
  by_cases e : q.name = y.name
  · rw [if_pos e]; exact .inl rfl
  · rw [if_neg e]; exact .inr ⟨hq, e⟩
theorem setF_names (T : List Fl) (y : Fl) : (setF T y).map Fl.name = T.map Fl.name := by
  unfold setF
  rw [List.map_map]
  refine List.map_congr_left fun z _ => ?_
  show (if z.name = y.name then y else z).name = z.name
  split
  · rename_i e; exact e.symm
  · rfl
structure FlM (w : World) (B b : Nat) (T : List Fl) : Prop where
  map : MapIs Value.string w b (flEnts T)
  cell : ∀ x ∈ T, w.heap[x.p]? = some (.cells #[x.vi, x.vo] 189 (0, 0))
  inn : ∀ x ∈ T, Own w B 2 x.vi x.li
  out : ∀ x ∈ T, Own w B 2 x.vo x.lo
  lo : ∀ x ∈ T, B ≤ x.p
  lab : ∃ f : Nat → Option (ByteArray × Nat), f b = some (ByteArray.empty, 3) ∧ ∀ x ∈ T, f x.p = some (x.name, 0) ∧ (∀ g, x.vi.ownBlock = some g → f g = some (x.name, 1)) ∧ (∀ g, x.vo.ownBlock = some g → f g = some (x.name, 2))
def flAll (b : Nat) (T : List Fl) (k : Nat) : Prop := k = b ∨ ∃ x ∈ T, k = x.p ∨ x.vi.ownBlock = some k ∨ x.vo.ownBlock = some k
theorem FlM.lt {w : World} {B b : Nat} {T : List Fl} (h : FlM w B b T) : ∀ k, flAll b T k → (k = b ∨ B ≤ k) ∧ k < w.heap.size := fun k hk => by
  rcases hk with rfl | ⟨x, hx, rfl | e | e⟩
  · exact ⟨.inl rfl, h.map.lt⟩
  · exact ⟨.inr (h.lo x hx), (Array.getElem?_eq_some_iff.1 (h.cell x hx)).1⟩
  · exact ⟨.inr ((h.inn x hx).1.lt k e).1, ((h.inn x hx).1.lt k e).2⟩
  · exact ⟨.inr ((h.out x hx).1.lt k e).1, ((h.out x hx).1.lt k e).2⟩
theorem FlM.kept {w w' : World} {B b : Nat} {T : List Fl} {S : Nat → Prop} (h : FlM w B b T) (hg : Gr w w' S) (hS : ∀ k, flAll b T k → ¬ S k) : FlM w' B b T where
  map := h.map.gr hg (hS b (.inl rfl))
  cell x hx := by rw [hg.block _ (Array.getElem?_eq_some_iff.1 (h.cell x hx)).1 (hS _ (.inr ⟨x, hx, .inl rfl⟩))]; exact h.cell x hx
  inn x hx := (h.inn x hx).gr hg (fun g e => hS g (.inr ⟨x, hx, .inr (.inl e)⟩)) (fun _ _ => trivial)
  out x hx := (h.out x hx).gr hg (fun g e => hS g (.inr ⟨x, hx, .inr (.inr e)⟩)) (fun _ _ => trivial)
  lo := h.lo
  lab := h.lab
theorem FlM.later {w w' : World} {B b : Nat} {T : List Fl} (h : FlM w B b T) (hb : Below w.heap.size w w') : FlM w' B b T := h.kept (Gr.of_below hb (fun _ => False)) (fun _ _ => id)
theorem FlM.names {w : World} {B b : Nat} {T : List Fl} (h : FlM w B b T) : T.Pairwise fun x y => x.name ≠ y.name := by
  have := h.map.nodup
  unfold flEnts at this
  have h2 := List.pairwise_map.1 this
  exact h2
theorem fl_uniq {T : List Fl} (hn : T.Pairwise fun x y => x.name ≠ y.name) {r q : Fl} (hr : r ∈ T) (hq : q ∈ T) (e : r.name = q.name) : r = q := by
  obtain ⟨i, hi, rfl⟩ := List.mem_iff_getElem.1 hr
  obtain ⟨j, hj, rfl⟩ := List.mem_iff_getElem.1 hq
  rcases Nat.lt_trichotomy i j with h1 | h1 | h1
  · exact absurd e (List.pairwise_iff_getElem.1 hn i j hi hj h1)
  · subst h1; rfl
  · exact absurd e.symm (List.pairwise_iff_getElem.1 hn j i hj hi h1)
theorem getF_of {T : List Fl} (hn : T.Pairwise fun x y => x.name ≠ y.name) {x : Fl} (hx : x ∈ T) : getF T x.name = some x := by
  cases h : getF T x.name with
  | none => exact absurd rfl (getF_none.1 h x hx)
  | some y => rw [fl_uniq hn (getF_mem h).1 hx (getF_mem h).2]
abbrev fl0 (k : ByteArray) (p : Nat) : Fl := ⟨k, p, .slice none 0 0, [], .slice none 0 0, []⟩
theorem flEnts_new {T : List Fl} {k : ByteArray} (h : getF T k = none) (p : Nat) : putM (flEnts T) k (.pointer (some ⟨p, 0, none⟩)) = flEnts (T ++ [fl0 k p]) := by
  have hno := getF_none.1 h
  unfold putM
  rw [if_neg]
  · unfold flEnts; rw [List.map_append]; rfl
  · rw [List.any_eq_true]
    rintro ⟨q, hq, e⟩
    obtain ⟨x, hx, rfl⟩ := List.mem_map.1 hq
    exact hno x hx (by simpa using e)
/-- an account more -/
theorem FlM.new {w w2 : World} {B b : Nat} {T : List Fl} (h : FlM w B b T) {k : ByteArray} (hk : getF T k = none) (hB : B ≤ w.heap.size)
    (hm : MapIs Value.string w2 b (putM (flEnts T) k (.pointer (some ⟨w.heap.size, 0, none⟩)))) (hg : (w.alloc (.cells #[.slice none 0 0, .slice none 0 0] 189)).grownBy w2 (some b)) :
    FlM w2 B b (T ++ [fl0 k w.heap.size]) ∧ Gr w w2 (fun j => j = b) := by
  have hlt := h.lt
  have hb := Below.refl w.heap.size w |>.alloc (Nat.le_refl _) (.cells #[.slice none 0 0, .slice none 0 0] 189)
  have hG : Gr w w2 (fun j => j = b) := (Gr.of_below hb (fun j => j = b)).after ((Gr.of_grown hg).mono fun j _ e => by injection e with e; exact e.symm)
  have hno := getF_none.1 hk
  obtain ⟨f, f1, f2⟩ := h.lab
  have hbp : ∀ x ∈ T, x.p ≠ b := fun x hx e => by
    have := (f2 x hx).1
    rw [e, f1] at this
    injection this with this; injection this with _ this; cases this
  have hbi : ∀ x ∈ T, ∀ g, x.vi.ownBlock = some g → g ≠ b := fun x hx g e e2 => by
    have := (f2 x hx).2.1 g e
    rw [e2, f1] at this
    injection this with this; injection this with _ this; cases this
  have hbo : ∀ x ∈ T, ∀ g, x.vo.ownBlock = some g → g ≠ b := fun x hx g e e2 => by
    have := (f2 x hx).2.2 g e
    rw [e2, f1] at this
    injection this with this; injection this with _ this; cases this
  refine ⟨⟨by rw [← flEnts_new hk]; exact hm, fun x hx => ?_, fun x hx => ?_, fun x hx => ?_, fun x hx => ?_, ⟨fun g => if g = w.heap.size then some (k, 0) else f g, ?_, fun x hx => ?_⟩⟩, hG⟩
  · rcases List.mem_append.1 hx with hx | hx
    · rw [hG.block _ (Array.getElem?_eq_some_iff.1 (h.cell x hx)).1 (hbp x hx)]; exact h.cell x hx
    · obtain rfl := List.mem_singleton.1 hx
      rw [hg.block w.heap.size (by simp) (fun e => by injection e with e; have := (hlt b (.inl rfl)).2; omega)]
      exact heap_alloc_new w _
  · rcases List.mem_append.1 hx with hx | hx
    · exact (h.inn x hx).gr hG (fun g e => hbi x hx g e) (fun _ _ => trivial)
    · obtain rfl := List.mem_singleton.1 hx
      exact Own.nil_ _ _ _
  · rcases List.mem_append.1 hx with hx | hx
    · exact (h.out x hx).gr hG (fun g e => hbo x hx g e) (fun _ _ => trivial)
    · obtain rfl := List.mem_singleton.1 hx
      exact Own.nil_ _ _ _
  · rcases List.mem_append.1 hx with hx | hx
    · exact h.lo x hx
    · obtain rfl := List.mem_singleton.1 hx
      exact hB
  · show (if b = w.heap.size then _ else f b) = _
    rw [if_neg (fun e => by have := (hlt b (.inl rfl)).2; omega)]; exact f1
  · rcases List.mem_append.1 hx with hx | hx
    · have hl : ∀ j, flAll b T j → ¬ j = w.heap.size := fun j hj e => by have := (hlt j hj).2; omega
      refine ⟨?_, fun g e => ?_, fun g e => ?_⟩
      · show (if x.p = w.heap.size then _ else f x.p) = _
        rw [if_neg (hl _ (.inr ⟨x, hx, .inl rfl⟩))]; exact (f2 x hx).1
      · show (if g = w.heap.size then _ else f g) = _
        rw [if_neg (hl _ (.inr ⟨x, hx, .inr (.inl e)⟩))]; exact (f2 x hx).2.1 g e
      · show (if g = w.heap.size then _ else f g) = _
        rw [if_neg (hl _ (.inr ⟨x, hx, .inr (.inr e)⟩))]; exact (f2 x hx).2.2 g e
    · obtain rfl := List.mem_singleton.1 hx
      exact ⟨if_pos rfl, ⟨fun g e => (by cases e), fun g e => (by cases e)⟩⟩
/-- a sum more -/
theorem FlM.growI {w w1 w2 : World} {B b : Nat} {T : List Fl} (h : FlM w B b T) {x : Fl} (hx : x ∈ T) {v : Value} {l : List Int} (ho : Own w1 B 2 v l) (hg : w.grownBy w1 x.vi.ownBlock) (hv : v.ownBlock = x.vi.ownBlock ∨ v.ownBlock = some w.heap.size)
    (hc2 : w2.heap[x.p]? = some (.cells #[v, x.vo] 189 (0, 0))) (hgb : w1.grownBy w2 (some x.p)) :
    FlM w2 B b (setF T { x with vi := v, li := l }) ∧ Gr w w2 (fun k => k = x.p ∨ x.vi.ownBlock = some k) := by
  have hlt := h.lt
  obtain ⟨f, f1, f2⟩ := h.lab
  obtain ⟨fx0, fx1, fx2⟩ := f2 x hx
  have hxp : some x.p ≠ x.vi.ownBlock := fun e => by
    have := fx1 x.p e.symm
    rw [fx0] at this
    injection this with this; injection this with _ this; cases this
  have hg2 := Gr.of_grown hgb
  have hG : Gr w w2 (fun k => k = x.p ∨ x.vi.ownBlock = some k) :=
    ((Gr.of_grown hg).mono (S' := fun k => k = x.p ∨ x.vi.ownBlock = some k) (fun j _ e => .inr e)).after (hg2.mono fun j _ e => .inl (by injection e with e; exact e.symm))
  have hbx : ¬ (b = x.p ∨ x.vi.ownBlock = some b) := by
    rintro (e | e)
    · rw [← e, f1] at fx0
      injection fx0 with fx0; injection fx0 with _ fx0; cases fx0
    · have := fx1 b e
      rw [f1] at this
      injection this with this; injection this with _ this; cases this
  have hzp : ∀ z ∈ T, z.name ≠ x.name → ∀ g (n : Nat), f g = some (z.name, n) → ¬ (g = x.p ∨ x.vi.ownBlock = some g) := fun z _ hne g n hf => by
    rintro (e | e)
    · rw [e, fx0] at hf
      injection hf with hf; injection hf with hf _; exact hne hf.symm
    · have := fx1 g e
      rw [hf] at this
      injection this with this; injection this with this _; exact hne this
  have hvp : ∀ g, v.ownBlock = some g → g ≠ x.p := fun g e e2 => by
    rcases hv with h1 | h1
    · exact hxp (by rw [← e2, ← e, h1])
    · rw [h1] at e; injection e with e
      have := (hlt x.p (.inr ⟨x, hx, .inl rfl⟩)).2
      omega
  refine ⟨⟨?_, fun z hz => ?_, fun z hz => ?_, fun z hz => ?_, fun z hz => ?_, ⟨fun g => if g = w.heap.size then some (x.name, 1) else f g, ?_, fun z hz => ?_⟩⟩, hG⟩
  · have e : flEnts (setF T { x with vi := v, li := l }) = flEnts T := by
      unfold flEnts setF
      rw [List.map_map]
      refine List.map_congr_left fun z hz => ?_
      show ((if z.name = x.name then ({ x with vi := v, li := l } : Fl) else z).name, (if z.name = x.name then ({ x with vi := v, li := l } : Fl) else z).ptr) = _
      by_cases e : z.name = x.name
      · rw [if_pos e]
        obtain rfl := fl_uniq h.names hz hx e
        rfl
      · rw [if_neg e]
    rw [e]
    exact h.map.gr hG hbx
  · rcases mem_setF hz with rfl | ⟨hz, hne⟩
    · exact hc2
    · rw [hG.block _ (Array.getElem?_eq_some_iff.1 (h.cell z hz)).1 (hzp z hz hne _ 0 (f2 z hz).1)]
      exact h.cell z hz
  · rcases mem_setF hz with rfl | ⟨hz, hne⟩
    · exact ho.gr hg2 (fun g e e2 => hvp g e (by injection e2 with e2; exact e2.symm)) (fun _ _ => trivial)
    · exact (h.inn z hz).gr hG (fun g e => hzp z hz hne g 1 ((f2 z hz).2.1 g e)) (fun _ _ => trivial)
  · rcases mem_setF hz with rfl | ⟨hz, hne⟩
    · exact (h.out x hx).gr hG (fun g e e2 => by
        have hf := fx2 g e
        rcases e2 with e2 | e2
        · rw [e2, fx0] at hf
          injection hf with hf; injection hf with _ hf; cases hf
        · have := fx1 g e2
          rw [hf] at this
          injection this with this; injection this with _ this; cases this) (fun _ _ => trivial)
    · exact (h.out z hz).gr hG (fun g e => hzp z hz hne g 2 ((f2 z hz).2.2 g e)) (fun _ _ => trivial)
  · rcases mem_setF hz with rfl | ⟨hz, hne⟩
    · exact h.lo x hx
    · exact h.lo z hz
  · show (if b = w.heap.size then _ else f b) = _
    rw [if_neg (fun e => by have := (hlt b (.inl rfl)).2; omega)]; exact f1
  · have hl : ∀ j, flAll b T j → ¬ j = w.heap.size := fun j hj e => by have := (hlt j hj).2; omega
    rcases mem_setF hz with rfl | ⟨hz, hne⟩
    · have hvf : ∀ g, v.ownBlock = some g → (if g = w.heap.size then some (x.name, 1) else f g) = some (x.name, 1) := fun g e => by
        by_cases hw : g = w.heap.size
        · rw [if_pos hw]
        · rw [if_neg hw]
          rcases hv with h1 | h1
          · exact fx1 g (by rw [← h1]; exact e)
          · rw [h1] at e; injection e with e; exact absurd e.symm hw
      have hoth : ∀ g, x.vo.ownBlock = some g → (if g = w.heap.size then some (x.name, 1) else f g) = some (x.name, 2) := fun g e => by
        rw [if_neg (hl _ (.inr ⟨x, hx, .inr (.inr e)⟩))]; exact fx2 g e
      refine ⟨?_, hvf, hoth⟩
      show (if x.p = w.heap.size then _ else f x.p) = _
      rw [if_neg (hl _ (.inr ⟨x, hx, .inl rfl⟩))]; exact fx0
    · refine ⟨?_, fun g e => ?_, fun g e => ?_⟩
      · show (if z.p = w.heap.size then _ else f z.p) = _
        rw [if_neg (hl _ (.inr ⟨z, hz, .inl rfl⟩))]; exact (f2 z hz).1
      · show (if g = w.heap.size then _ else f g) = _
        rw [if_neg (hl _ (.inr ⟨z, hz, .inr (.inl e)⟩))]; exact (f2 z hz).2.1 g e
      · show (if g = w.heap.size then _ else f g) = _
        rw [if_neg (hl _ (.inr ⟨z, hz, .inr (.inr e)⟩))]; exact (f2 z hz).2.2 g e
/-- a sum more -/
theorem FlM.growO {w w1 w2 : World} {B b : Nat} {T : List Fl} (h : FlM w B b T) {x : Fl} (hx : x ∈ T) {v : Value} {l : List Int} (ho : Own w1 B 2 v l) (hg : w.grownBy w1 x.vo.ownBlock) (hv : v.ownBlock = x.vo.ownBlock ∨ v.ownBlock = some w.heap.size)
    (hc2 : w2.heap[x.p]? = some (.cells #[x.vi, v] 189 (0, 0))) (hgb : w1.grownBy w2 (some x.p)) :
    FlM w2 B b (setF T { x with vo := v, lo := l }) ∧ Gr w w2 (fun k => k = x.p ∨ x.vo.ownBlock = some k) := by
  have hlt := h.lt
  obtain ⟨f, f1, f2⟩ := h.lab
  obtain ⟨fx0, fx1, fx2⟩ := f2 x hx
  have hxp : some x.p ≠ x.vo.ownBlock := fun e => by
    have := fx2 x.p e.symm
    rw [fx0] at this
    injection this with this; injection this with _ this; cases this
  have hg2 := Gr.of_grown hgb
  have hG : Gr w w2 (fun k => k = x.p ∨ x.vo.ownBlock = some k) :=
    ((Gr.of_grown hg).mono (S' := fun k => k = x.p ∨ x.vo.ownBlock = some k) (fun j _ e => .inr e)).after (hg2.mono fun j _ e => .inl (by injection e with e; exact e.symm))
  have hbx : ¬ (b = x.p ∨ x.vo.ownBlock = some b) := by
    rintro (e | e)
    · rw [← e, f1] at fx0
      injection fx0 with fx0; injection fx0 with _ fx0; cases fx0
    · have := fx2 b e
      rw [f1] at this
      injection this with this; injection this with _ this; cases this
  have hzp : ∀ z ∈ T, z.name ≠ x.name → ∀ g (n : Nat), f g = some (z.name, n) → ¬ (g = x.p ∨ x.vo.ownBlock = some g) := fun z _ hne g n hf => by
    rintro (e | e)
    · rw [e, fx0] at hf
      injection hf with hf; injection hf with hf _; exact hne hf.symm
    · have := fx2 g e
      rw [hf] at this
      injection this with this; injection this with this _; exact hne this
  have hvp : ∀ g, v.ownBlock = some g → g ≠ x.p := fun g e e2 => by
    rcases hv with h1 | h1
    · exact hxp (by rw [← e2, ← e, h1])
    · rw [h1] at e; injection e with e
      have := (hlt x.p (.inr ⟨x, hx, .inl rfl⟩)).2
      omega
  refine ⟨⟨?_, fun z hz => ?_, fun z hz => ?_, fun z hz => ?_, fun z hz => ?_, ⟨fun g => if g = w.heap.size then some (x.name, 2) else f g, ?_, fun z hz => ?_⟩⟩, hG⟩
  · have e : flEnts (setF T { x with vo := v, lo := l }) = flEnts T := by
      unfold flEnts setF
      rw [List.map_map]
      refine List.map_congr_left fun z hz => ?_
      show ((if z.name = x.name then ({ x with vo := v, lo := l } : Fl) else z).name, (if z.name = x.name then ({ x with vo := v, lo := l } : Fl) else z).ptr) = _
      by_cases e : z.name = x.name
      · rw [if_pos e]
        obtain rfl := fl_uniq h.names hz hx e
        rfl
      · rw [if_neg e]
    rw [e]
    exact h.map.gr hG hbx
  · rcases mem_setF hz with rfl | ⟨hz, hne⟩
    · exact hc2
    · rw [hG.block _ (Array.getElem?_eq_some_iff.1 (h.cell z hz)).1 (hzp z hz hne _ 0 (f2 z hz).1)]
      exact h.cell z hz
  · rcases mem_setF hz with rfl | ⟨hz, hne⟩
    · exact (h.inn x hx).gr hG (fun g e e2 => by
        have hf := fx1 g e
        rcases e2 with e2 | e2
        · rw [e2, fx0] at hf
          injection hf with hf; injection hf with _ hf; cases hf
        · have := fx2 g e2
          rw [hf] at this
          injection this with this; injection this with _ this; cases this) (fun _ _ => trivial)
    · exact (h.inn z hz).gr hG (fun g e => hzp z hz hne g 1 ((f2 z hz).2.1 g e)) (fun _ _ => trivial)
  · rcases mem_setF hz with rfl | ⟨hz, hne⟩
    · exact ho.gr hg2 (fun g e e2 => hvp g e (by injection e2 with e2; exact e2.symm)) (fun _ _ => trivial)
    · exact (h.out z hz).gr hG (fun g e => hzp z hz hne g 2 ((f2 z hz).2.2 g e)) (fun _ _ => trivial)
  · rcases mem_setF hz with rfl | ⟨hz, hne⟩
    · exact h.lo x hx
    · exact h.lo z hz
  · show (if b = w.heap.size then _ else f b) = _
    rw [if_neg (fun e => by have := (hlt b (.inl rfl)).2; omega)]; exact f1
  · have hl : ∀ j, flAll b T j → ¬ j = w.heap.size := fun j hj e => by have := (hlt j hj).2; omega
    rcases mem_setF hz with rfl | ⟨hz, hne⟩
    · have hvf : ∀ g, v.ownBlock = some g → (if g = w.heap.size then some (x.name, 2) else f g) = some (x.name, 2) := fun g e => by
        by_cases hw : g = w.heap.size
        · rw [if_pos hw]
        · rw [if_neg hw]
          rcases hv with h1 | h1
          · exact fx2 g (by rw [← h1]; exact e)
          · rw [h1] at e; injection e with e; exact absurd e.symm hw
      have hoth : ∀ g, x.vi.ownBlock = some g → (if g = w.heap.size then some (x.name, 2) else f g) = some (x.name, 1) := fun g e => by
        rw [if_neg (hl _ (.inr ⟨x, hx, .inr (.inl e)⟩))]; exact fx1 g e
      refine ⟨?_, hoth, hvf⟩
      show (if x.p = w.heap.size then _ else f x.p) = _
      rw [if_neg (hl _ (.inr ⟨x, hx, .inl rfl⟩))]; exact fx0
    · refine ⟨?_, fun g e => ?_, fun g e => ?_⟩
      · show (if z.p = w.heap.size then _ else f z.p) = _
        rw [if_neg (hl _ (.inr ⟨z, hz, .inl rfl⟩))]; exact (f2 z hz).1
      · show (if g = w.heap.size then _ else f g) = _
        rw [if_neg (hl _ (.inr ⟨z, hz, .inr (.inl e)⟩))]; exact (f2 z hz).2.1 g e
      · show (if g = w.heap.size then _ else f g) = _
        rw [if_neg (hl _ (.inr ⟨z, hz, .inr (.inr e)⟩))]; exact (f2 z hz).2.2 g e
/-- flows, and the legs that made them -/
structure FlR (T : List Fl) (N : List ByteArray) (ls : List Leg) : Prop where
  perm : (T.map Fl.name).Perm N
  inn : ∀ x ∈ T, x.li = inK ls x.name
  out : ∀ x ∈ T, x.lo = outK ls x.name
theorem FlR.none_ {T : List Fl} {N : List ByteArray} {ls : List Leg} (h : FlR T N ls) (k : ByteArray) : getF T k = none ↔ k ∉ N := by
  rw [getF_none, ← h.perm.mem_iff]
  constructor
  · intro h1 h2
    obtain ⟨x, hx, e⟩ := List.mem_map.1 h2
    exact h1 x hx e
  · intro h1 x hx e
    exact h1 (List.mem_map.2 ⟨x, hx, e⟩)
theorem FlR.add {T : List Fl} {ls : List Leg} (h : FlR T (namesL ls) ls) {k : ByteArray} (hk : getF T k = none) (p : Nat) : FlR (T ++ [fl0 k p]) (addN (namesL ls) k) ls := by
  have hno := (h.none_ k).1 hk
  have hl : ∀ x ∈ ls, x.acct ≠ k := fun x hx e => hno (namesL_mem.2 ⟨x, hx, e⟩)
  refine ⟨?_, fun x hx => ?_, fun x hx => ?_⟩
  · unfold addN
    rw [if_neg (fun e => hno (hasN_iff.1 e)), List.map_append]
    exact (List.perm_append_comm.trans (by simpa using h.perm.cons k)).trans (insB_perm _ _).symm
  · rcases List.mem_append.1 hx with hx | hx
    · exact h.inn x hx
    · obtain rfl := List.mem_singleton.1 hx
      show [] = inK ls k
      unfold inK
      rw [List.filter_eq_nil_iff.2 fun x hx => by simp [hl x hx]]; rfl
  · rcases List.mem_append.1 hx with hx | hx
    · exact h.out x hx
    · obtain rfl := List.mem_singleton.1 hx
      show [] = outK ls k
      unfold outK
      rw [List.filter_eq_nil_iff.2 fun x hx => by simp [hl x hx]]; rfl
theorem FlR.has {T : List Fl} {ls : List Leg} (h : FlR T (namesL ls) ls) {k : ByteArray} {x : Fl} (hk : getF T k = some x) : addN (namesL ls) k = namesL ls := by
  unfold addN
  rw [if_pos]
  rw [hasN_iff]
  refine Classical.byContradiction fun hn => ?_
  rw [(h.none_ k).2 hn] at hk; cases hk
theorem FlR.growI {T : List Fl} {N : List ByteArray} {ls : List Leg} (h : FlR T N ls) {x : Fl} (hx : x ∈ T) (hN : N = addN (namesL ls) x.name) {s : Int} (hs : 0 < s) (v : Value) : FlR (setF T { x with vi := v, li := x.li ++ [s] }) (namesL (ls ++ [⟨x.name, s⟩])) (ls ++ [⟨x.name, s⟩]) := by
  refine ⟨by rw [setF_names, namesL_snoc, ← hN]; exact h.perm, fun z hz => ?_, fun z hz => ?_⟩
  · rcases mem_setF hz with rfl | ⟨hz, hne⟩
    · rw [inK_snoc, if_pos ⟨rfl, hs⟩]
      show x.li ++ [s] = _
      rw [h.inn x hx]
    · rw [inK_snoc, if_neg (fun e => hne e.1.symm)]; exact h.inn z hz
  · rcases mem_setF hz with rfl | ⟨hz, hne⟩
    · rw [outK_snoc, if_neg (fun e => e.2 hs)]; exact h.out x hx
    · rw [outK_snoc, if_neg (fun e => hne e.1.symm)]; exact h.out z hz
theorem FlR.growO {T : List Fl} {N : List ByteArray} {ls : List Leg} (h : FlR T N ls) {x : Fl} (hx : x ∈ T) (hN : N = addN (namesL ls) x.name) {s : Int} (hs : ¬ 0 < s) (v : Value) : FlR (setF T { x with vo := v, lo := x.lo ++ [s] }) (namesL (ls ++ [⟨x.name, s⟩])) (ls ++ [⟨x.name, s⟩]) := by
  refine ⟨by rw [setF_names, namesL_snoc, ← hN]; exact h.perm, fun z hz => ?_, fun z hz => ?_⟩
  · rcases mem_setF hz with rfl | ⟨hz, hne⟩
    · rw [inK_snoc, if_neg (fun e => hs e.2)]; exact h.inn x hx
    · rw [inK_snoc, if_neg (fun e => hne e.1.symm)]; exact h.inn z hz
  · rcases mem_setF hz with rfl | ⟨hz, hne⟩
    · rw [outK_snoc, if_pos ⟨rfl, hs⟩]
      show x.lo ++ [s] = _
      rw [h.out x hx]
    · rw [outK_snoc, if_neg (fun e => hne e.1.symm)]; exact h.out z hz
theorem FlM.mono {w : World} {B B' b : Nat} {T : List Fl} (h : FlM w B b T) (hB : B' ≤ B) : FlM w B' b T :=
  ⟨h.map, h.cell, fun x hx => (h.inn x hx).mono hB, fun x hx => (h.out x hx).mono hB, fun x hx => Nat.le_trans hB (h.lo x hx), h.lab⟩
theorem FlM.made (w : World) (B : Nat) : FlM (w.alloc (.map #[] 0)) B w.heap.size [] :=
  ⟨MapIs.made w, fun _ h => (by cases h), fun _ h => (by cases h), fun _ h => (by cases h), fun _ h => (by cases h), ⟨fun g => if g = w.heap.size then some (ByteArray.empty, 3) else none, if_pos rfl, fun _ h => (by cases h)⟩⟩
theorem FlM.look {w : World} {B b : Nat} {T : List Fl} (h : FlM w B b T) (k : ByteArray) : (Instr.lookup 179 (.map (some b)) (.string k) false).run Tryz.prog w = .ok (((getF T k).map Fl.ptr).getD (.pointer none)) w := by
  have hlk := run_lookup (P := Tryz.prog) strKey Tryz.underlying179 h.map k (.pointer none) (by kernel_rfl) false
  rw [flEnts_get] at hlk
  exact hlk
theorem FlR.nil_ : FlR [] (namesL []) [] := ⟨.refl _, fun _ h => (by cases h), fun _ h => (by cases h)⟩
theorem mem_setF_self {T : List Fl} {x y : Fl} (hx : x ∈ T) (e : y.name = x.name) : y ∈ setF T y := by
  refine List.mem_map.2 ⟨x, hx, ?_⟩
  rw [if_pos e.symm]
end Go.Proofs.YtgholbeehkfbiaaGreat
