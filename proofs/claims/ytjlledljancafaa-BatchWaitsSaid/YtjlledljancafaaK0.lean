/- Rows of aggregates that are sorted in place: the lists, and the block that holds them. -/
import Derived.Test.YtjlledljancafaaB1
namespace Go.XB
open Go.RowKit
section
variable {α : Type}
/-- the elements j and j + 1 change places -/
def swapA (l : List α) (j : Nat) : List α := match l[j]?, l[j + 1]? with
  | some x, some y => (l.set (j + 1) x).set j y
  | _, _ => l
theorem swapA_length (l : List α) (j : Nat) : (swapA l j).length = l.length := by unfold swapA; split <;> simp
theorem swapA_eq {l : List α} {j : Nat} (h : j + 1 < l.length) : swapA l j = (l.set (j + 1) (l[j]'(by omega))).set j l[j + 1] := by
  unfold swapA
  simp [List.getElem?_eq_getElem h, List.getElem?_eq_getElem (show j < l.length by omega)]
/-- down goes one element, till it is not less than the one ahead of it -/
def insDn (cf : α → α → Int) (a : Nat) : Nat → List α → List α
  | 0, l => l
  | j + 1, l => match l[j]?, l[j + 1]? with
    | some x, some y => if a < j + 1 ∧ cf y x < 0 then insDn cf a j (swapA l j) else l
    | _, _ => l
def insUp (cf : α → α → Int) (a b i : Nat) (l : List α) : List α := if i < b then insUp cf a b (i + 1) (insDn cf a i l) else l
termination_by b - i
theorem insDn_go {cf : α → α → Int} {a j : Nat} {l : List α} (h : j + 1 < l.length) (h1 : a < j + 1) (h2 : cf l[j + 1] (l[j]'(by omega)) < 0) : insDn cf a (j + 1) l = insDn cf a j (swapA l j) := by
  conv => lhs; unfold insDn
  simp only [List.getElem?_eq_getElem h, List.getElem?_eq_getElem (show j < l.length by omega)]
  rw [if_pos ⟨h1, h2⟩]
theorem insDn_no {cf : α → α → Int} {a j : Nat} {l : List α} (h : j + 1 < l.length) (h2 : ¬ cf l[j + 1] (l[j]'(by omega)) < 0) : insDn cf a (j + 1) l = l := by
  conv => lhs; unfold insDn
  simp only [List.getElem?_eq_getElem h, List.getElem?_eq_getElem (show j < l.length by omega)]
  rw [if_neg (fun hh => h2 hh.2)]
theorem insDn_stop {cf : α → α → Int} {a j : Nat} {l : List α} (h1 : j ≤ a) : insDn cf a j l = l := by
  cases j with
  | zero => rfl
  | succ j =>
    conv => lhs; unfold insDn
    split
    · rw [if_neg (fun hh => by omega)]
    · rfl
theorem insDn_length (cf : α → α → Int) (a : Nat) : ∀ (j : Nat) (l : List α), (insDn cf a j l).length = l.length
  | 0, _ => rfl
  | j + 1, l => by
    unfold insDn
    split
    · split
      · rw [insDn_length cf a j, swapA_length]
      · rfl
    · rfl
theorem insUp_go {cf : α → α → Int} {a b i : Nat} {l : List α} (h : i < b) : insUp cf a b i l = insUp cf a b (i + 1) (insDn cf a i l) := by
  conv => lhs; unfold insUp
  rw [if_pos h]
theorem insUp_stop {cf : α → α → Int} {a b i : Nat} {l : List α} (h : ¬ i < b) : insUp cf a b i l = l := by
  unfold insUp
  rw [if_neg h]
variable {enc : α → List Value} {s : Nat}
theorem flat_set (hlen : ∀ x, (enc x).length = s) {l : List α} {i : Nat} (hi : i < l.length) (x : α) (tl : List Value) :
    (l.flatMap enc ++ tl).take (i * s) ++ enc x ++ (l.flatMap enc ++ tl).drop (i * s + (enc x).length) = (l.set i x).flatMap enc ++ tl := by
  have e : l.flatMap enc ++ tl = (l.take i).flatMap enc ++ (enc l[i] ++ ((l.drop (i + 1)).flatMap enc ++ tl)) := by
    conv => lhs; rw [← List.take_append_drop i l, List.drop_eq_getElem_cons hi]
    rw [List.flatMap_append, List.flatMap_cons, List.append_assoc, List.append_assoc]
  have hA : ((l.take i).flatMap enc).length = i * s := by rw [flat_length hlen, List.length_take, Nat.min_eq_left (by omega)]
  have e2 : l.set i x = l.take i ++ x :: l.drop (i + 1) := by rw [List.set_eq_take_append_cons_drop, if_pos hi]
  rw [e, e2, List.flatMap_append, List.flatMap_cons, List.take_left' hA, ← List.drop_drop, List.drop_left' hA, List.drop_left' (by rw [hlen, hlen])]
  simp only [List.append_assoc]
/-- the block g holds a row and what lies behind it -/
def RowB (w : World) (g : Nat) (t : TypeId) (cs : List Value) : Prop := w.heap[g]? = some (.cells cs.toArray t (0, 0))
theorem RowB.lt {w : World} {g : Nat} {t : TypeId} {cs : List Value} (h : RowB w g t cs) : g < w.heap.size := (Array.getElem?_eq_some_iff.1 h).1
theorem RowB.row {w : World} {g : Nat} {t : TypeId} {l : List α} {tl : List Value} (h : RowB w g t (l.flatMap enc ++ tl)) : RowAt w g 0 (l.flatMap enc) := RowAt.part (pre := []) h
theorem RowB.elem (hlen : ∀ x, (enc x).length = s) {w : World} {g : Nat} {t : TypeId} {l : List α} {tl : List Value} (h : RowB w g t (l.flatMap enc ++ tl)) {i : Nat} (hi : i < l.length) : RowAt w g (i * s) (enc l[i]) := by
  have := RowAt.elem hlen h.row hi
  rwa [Nat.zero_add] at this
theorem RowB.store (P : Program) (hlen : ∀ x, (enc x).length = s) (h1 : ∀ x, ∀ v ∈ enc x, v.oneCell' = true) {w : World} {g : Nat} {t : TypeId} {l : List α} {tl : List Value} (h : RowB w g t (l.flatMap enc ++ tl)) {i : Nat} (hi : i < l.length) (x : α) :
    (storeCells ⟨g, i * s, none⟩ (enc x) 0).run P w = .ok () (w.setRow g ((l.set i x).flatMap enc ++ tl).toArray) := by
  have hle : (i + 1) * s ≤ l.length * s := Nat.mul_le_mul_right s hi
  rw [Nat.add_mul, Nat.one_mul] at hle
  have hst := run_storeCells_at P g (i * s) t (enc x) 0 _ w h (by rw [hlen]; simp [flat_length hlen]; omega) (h1 x)
  simp only [Nat.add_zero] at hst
  rw [hst]
  show Result.ok () (w.setRow g (((l.flatMap enc ++ tl).take (i * s) ++ enc x ++ (l.flatMap enc ++ tl).drop (i * s + (enc x).length)).toArray)) = _
  rw [flat_set hlen hi x tl]
theorem RowB.set {w : World} {g : Nat} {t : TypeId} {cs : List Value} (h : RowB w g t cs) (cs' : List Value) : RowB (w.setRow g cs'.toArray) g t cs' := setRow_heap w g cs.toArray cs'.toArray t (0, 0) h
theorem RowB.below {w w' : World} {g : Nat} {t : TypeId} {cs : List Value} (h : RowB w g t cs) (hb : Below w.heap.size w w') : RowB w' g t cs := (hb.block g h.lt).trans h
theorem RowB.load (P : Program) (hlen : ∀ x, (enc x).length = s) {w : World} {g : Nat} {t : TypeId} {l : List α} {tl : List Value} (h : RowB w g t (l.flatMap enc ++ tl)) {i : Nat} (hi : i < l.length) :
    (loadCellsFrom ⟨g, i * s, none⟩ 0 s #[]).run P w = .ok (enc l[i]).toArray w := by
  have := run_loadCells_list (P := P) (w := w) ⟨g, i * s, none⟩ (enc l[i]) (fun j v hj => by rw [Addr.add_lit]; exact h.elem hlen hi j v hj)
  rw [hlen] at this
  simpa [loadCells] using this
/-- as w, but for the block g and what was laid since -/
def SM (w : World) (g : Nat) (cs : List Value) (w' : World) : Prop := Below w.heap.size (w.setRow g cs.toArray) w'
theorem SM.start {w : World} {g : Nat} {t : TypeId} {cs : List Value} (h : RowB w g t cs) : SM w g cs w := ⟨rfl, rfl, rfl, by simp, fun k _ => by
  by_cases hk : k = g
  · subst hk; rw [setRow_heap w k cs.toArray cs.toArray t (0, 0) h]; exact h
  · rw [_root_.Go.setRow_other w g k _ hk]⟩
theorem SM.row {w w' : World} {g : Nat} {t : TypeId} {cs cs0 : List Value} (h : SM w g cs w') (h0 : RowB w g t cs0) : RowB w' g t cs := (h.block g h0.lt).trans (h0.set cs)
theorem SM.size {w w' : World} {g : Nat} {cs : List Value} (h : SM w g cs w') : w.heap.size ≤ w'.heap.size := by have := Below.size h; simpa using this
theorem SM.call {w w1 w2 : World} {g : Nat} {cs : List Value} (h : SM w g cs w1) (hb : Below w1.heap.size w1 w2) : SM w g cs w2 := Below.trans h (hb.mono h.size)
theorem SM.drew {w w1 : World} {g : Nat} {cs : List Value} (h : SM w g cs w1) : SM w g cs w1.drew := Below.drew h
theorem SM.store {w w1 : World} {g : Nat} {cs : List Value} (h : SM w g cs w1) (cs' : List Value) : SM w g cs' (w1.setRow g cs'.toArray) := by
  refine ⟨h.os, h.tape, h.output, by simpa using h.size, fun k hk => ?_⟩
  by_cases hkg : k = g
  · subst hkg
    have h1 := h.block k hk
    unfold World.setRow at h1 ⊢
    simp only [Array.getElem?_modify, ↓reduceIte] at h1 ⊢
    rw [h1]
    cases w.heap[k]? with
    | none => rfl
    | some o => cases o <;> rfl
  · rw [_root_.Go.setRow_other w1 g k _ hkg, _root_.Go.setRow_other w g k _ hkg]
    have h1 := h.block k hk
    rwa [_root_.Go.setRow_other w g k _ hkg] at h1
theorem SM.other {w w1 : World} {g b : Nat} {cs : List Value} (h : SM w g cs w1) (hb : b < w.heap.size) (hne : b ≠ g) : w1.heap[b]? = w.heap[b]? := (h.block b hb).trans (_root_.Go.setRow_other w g b _ hne)
theorem SM.done {w0 w w1 : World} {B g : Nat} {cs : List Value} (h : SM w g cs w1) (h0 : Below B w0 w) (hB : B ≤ g) (hs : B ≤ w.heap.size) : Below B w0 w1 :=
  (below_setRow h0 hB _).trans (Below.mono h hs)
end
end Go.XB
