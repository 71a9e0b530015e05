/- Rows of the call's own that grow. -/
import Derived.Test.YtjlledljancafaaT
import Derived.Laws.OwnMore
import Derived.OwnWalk
set_option linter.unusedSimpArgs false
set_option linter.unusedVariables false
namespace Go.Proofs.Ytjlledljancafaa
open Go.RowKit Go.XB

section
variable {w w' : World} {B : Nat} {e : TypeId} {s n : Nat} {v : Value} {xs : List Value}
theorem ext_grown (h : Below w.heap.size w w') : w.grownBy w' none := ⟨h.os, h.tape, h.output, h.size, fun k hk _ => h.block k hk⟩
theorem own_ext (h : w.ownsRow B e s v n xs) (he : Below w.heap.size w w') : w'.ownsRow B e s v n xs := h.kept (ext_grown he) (by cases hv : v.ownBlock <;> simp)
theorem own_row (h : w.ownsRow B e s v n xs) (hn : 0 < n) : ∃ g cap, v = .slice (some ⟨g, 0, none⟩) n cap ∧ B ≤ g ∧ g < w.heap.size ∧ n ≤ cap ∧ RowAt w g 0 xs := by
  rcases h.2 with ⟨_, h0⟩ | ⟨g, cap, cur, hv, hb, hg, hc, _, _, ht⟩
  · omega
  · refine ⟨g, cap, hv, hb, (Array.getElem?_eq_some_iff.1 hg).1, hc, fun j u hj => ?_⟩
    have h1 := h.cells (g := g) (by rw [hv]; rfl) j u hj
    rwa [Addr.add_lit] at h1
theorem own_type (h : w.ownsRow B e s v n xs) (hn : 0 < n) {g c : Nat} (hv : v = .slice (some ⟨g, 0, none⟩) n c) : ∃ cur, w.heap[g]? = some (.cells cur e (0, 0)) := by
  rcases h.2 with ⟨_, h0⟩ | ⟨g', cap, cur, hv', hb, hg, hc, _, _, ht⟩
  · omega
  · rw [hv] at hv'
    injection hv' with e1 _ _
    injection e1 with e1
    injection e1 with e1
    subst e1
    exact ⟨cur, hg⟩
theorem own_blockT (h : w.ownsRow B e s v n xs) {g : Nat} (hv : v.ownBlock = some g) : ∃ cur, w.heap[g]? = some (.cells cur e (0, 0)) := by
  rcases h.2 with ⟨h0, _⟩ | ⟨g', cap, cur, hv', hb, hg, hc, _, _, ht⟩
  · rw [h0] at hv; cases hv
  · rw [hv'] at hv
    injection hv with e1
    subst e1
    exact ⟨cur, hg⟩
/-- a block of another type stays -/
theorem own_other (h : w.ownsRow B e s v n xs) {b : Nat} {c : Array Value} {T : TypeId} {fr : Nat × Nat} (hb : w.heap[b]? = some (.cells c T fr)) (hT : T ≠ e) : v.ownBlock ≠ some b := by
  intro hv
  obtain ⟨cur, hc⟩ := own_blockT h hv
  rw [hb] at hc
  injection hc with hc
  injection hc with _ hc _
  exact hT hc
theorem own_nil (h : w.ownsRow B e s v 0 xs) (hv : v.ownBlock = none) : v = .slice none 0 0 := by
  rcases h.2 with ⟨h0, _⟩ | ⟨g, cap, cur, h0, _⟩
  · exact h0
  · rw [h0] at hv; cases hv
theorem ext_trans {a b c : World} (h : Below a.heap.size a b) (k : Below b.heap.size b c) : Below a.heap.size a c := Below.trans h (Below.mono k h.size)
theorem ext_grow {a b c : World} {B : Nat} {row : Option Nat} (h : Below B a b) (hB : B ≤ b.heap.size) (hg : b.grownBy c row) (hr : ∀ k, row = some k → B ≤ k) : Below B a c := Below.grown h hg hB hr
theorem own_setRow (h : w.ownsRow B e s v n xs) {g : Nat} (hne : v.ownBlock ≠ some g) (c : Array Value) : (w.setRow g c).ownsRow B e s v n xs :=
  h.kept (w' := w.setRow g c) (row := some g) ⟨rfl, rfl, rfl, by simp, fun k _ hk => _root_.Go.setRow_other w g k _ (fun h => hk (by rw [h]))⟩ (.inr hne)
theorem own_setCell (h : w.ownsRow B e s v n xs) {g o : Nat} (hne : v.ownBlock ≠ some g) (u : Value) : (w.setCell ⟨g, o, none⟩ u).ownsRow B e s v n xs :=
  h.kept (w' := w.setCell ⟨g, o, none⟩ u) (row := some g) ⟨rfl, rfl, rfl, by simp [World.setCell], fun k _ hk => Below.heap_setCell w _ u k (fun h => hk (by rw [h]))⟩ (.inr hne)
end
theorem box_at {w wr : World} {cs : List Value} {T : TypeId} (h : Ext (w.alloc (.cells cs.toArray T)) wr) : RowAt wr w.heap.size 0 cs := RowAt.below (RowAt.new (by simp)) h (by simp only [World.size_alloc]; omega)
theorem box_cell {w wr : World} {cs : List Value} {T : TypeId} (h : Ext (w.alloc (.cells cs.toArray T)) wr) (j : Nat) {u : Value} (hu : cs[j]? = some u) : wr.cell? ⟨w.heap.size, j, none⟩ = some u := by
  have := box_at h j u hu
  rwa [Nat.zero_add] at this
theorem ints_take {xs : List Int} {k : Nat} (h : k < xs.length) : ints (xs.take (k + 1)) = ints (xs.take k) ++ [.int .i64 xs[k]] := by
  unfold ints
  rw [List.take_succ_eq_append_getElem h, List.map_append]; rfl
theorem ints_length (xs : List Int) : (ints xs).length = xs.length := by simp [ints]

end Go.Proofs.Ytjlledljancafaa
