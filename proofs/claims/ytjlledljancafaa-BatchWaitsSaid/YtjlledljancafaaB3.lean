/- A drawn region, with a relation for each step. -/
import Derived.Test.YtjlledljancafaaB2
import Derived.Laws.AppendOwn
namespace Go.XB
open Go.RowKit
section
variable {P : Program} {Q : Exit → Act → World → Prop}
theorem wp_region_s {id : Nat} {l : List Oper} {a0 : Act} {w0 : World} (A : (Nat → Value) → Act) (preds : List (List Nat)) (R : World → World → Prop) (S : Nat → World → World → Prop) (V : Nat → Value → World → Prop)
    (hm : P.follows .mixedOrders = true) (hac : acycB 0 l = true) (hds : dstsOk l = true) (hpr : predsOkB l preds = true) (hA : ∀ vs, putAll l 0 vs a0 = A vs)
    (hrefl : ∀ w, R w w) (htrans : ∀ a b c, R a b → R b c → R a c) (hSR : ∀ i w w', S i w w' → R w w') (hSe : ∀ i w, S i w w)
    (hstab : ∀ i j v w w', i ≠ j → i < l.length → j < l.length → predB l l.length i j = false → V i v w → S j w w' → V i v w')
    (hstep : StepAllP (fun i o ps => ∀ vs w, R w0.drew w → AllV V vs w ps →
      if Region.wanted o (yielded l.toArray (A vs).tmps) = true then o.wp P (A vs) w (fun a' w' => ∃ v', a' = (A vs).put o.dst v' ∧ S i w w' ∧ V i v' w') Q else V i undef w) 0 l preds)
    (hend : ∀ vs w, R w0.drew w → AllV V vs w (List.range l.length) → Q .normal (A vs) w) :
    (Code.region id l.toArray true).wp P Q a0 w0 := by
  refine wp_region_any hm ?_
  refine wpAny_inv (fun done a w => R w0.drew w ∧ ∃ vs, a = putAll l 0 vs a0 ∧ ∀ i, i < l.length → done i = true → V i (vs i) w) ?_ ?_ ?_ _ _ (fun _ => false) _ _ (by simp) ?_ ?_ ?_ (by simp) ?_ ?_
  · intro done a w i o ho hdi hdeps hcl hI
    obtain ⟨hR, vs, rfl, hV⟩ := hI
    have ho' : l[i]? = some o := by simpa using ho
    have hil : i < l.length := (List.getElem?_eq_some_iff.1 ho').1
    have hcl' : ∀ j oj, l[j]? = some oj → done j = true → ∀ e ∈ oj.after, Region.binds .any e = true → done e.on = true := fun j oj hj => hcl j oj (by simpa using hj)
    have h0 := StepAllP.mk (T := fun i o => ∀ vs w, R w0.drew w → AllV V vs w (preds.getD i []) →
        if Region.wanted o (yielded l.toArray (A vs).tmps) = true then o.wp P (A vs) w (fun a' w' => ∃ v', a' = (A vs).put o.dst v' ∧ S i w w' ∧ V i v' w') Q else V i undef w) (fun i o hi hS => by simpa using hS) hstep
    have hs := h0.get ho'
    simp only [Nat.zero_add] at hs
    have h2 := hs vs w hR (AllV.mk fun j hj => by
      unfold predsOkB at hpr
      rw [List.all_eq_true] at hpr
      have h1 := hpr i (List.mem_range.2 hil)
      rw [List.all_eq_true] at h1
      have h3 := h1 j hj
      exact hV j (predB_in hac _ i j o ho' h3) (predB_done hcl' _ i j o ho' hdeps h3))
    rw [← hA vs] at h2
    have hput : ∀ v', (putAll l 0 vs a0).put o.dst v' = putAll l 0 (upd vs i v') a0 := fun v' => by
      have := putAll_upd v' l 0 i o vs a0 hds ho'
      simpa using this
    have hV' : ∀ v' w', S i w w' → V i v' w' → ∀ j, j < l.length → upd done i true j = true → V j (upd vs i v' j) w' := by
      intro v' w' hRw hVi j hj hdj
      unfold upd at hdj ⊢
      by_cases hji : j = i
      · subst hji; simpa using hVi
      · rw [if_neg hji] at hdj ⊢
        have hjl : l[j]? = some l[j] := List.getElem?_eq_getElem hj
        have hnp : predB l l.length j i = false := by
          cases hp : predB l l.length j i with
          | false => rfl
          | true =>
            have h1 := predB_done hcl' l.length j i _ hjl (fun e he hb => hcl' j _ hjl hdj e he hb) hp
            rw [hdi] at h1; cases h1
        exact hstab j i _ _ _ hji hj hil hnp (hV j hj hdj) hRw
    split at h2
    · rename_i hw
      rw [if_pos hw]
      refine Oper.wp_mono (fun a' w' hk => ?_) h2
      obtain ⟨v', rfl, hRw, hVi⟩ := hk
      exact ⟨htrans _ _ _ hR (hSR _ _ _ hRw), upd vs i v', hput v', hV' v' w' hRw hVi⟩
    · rename_i hw
      rw [if_neg hw]
      exact ⟨hR, upd vs i undef, hput undef, hV' undef w (hSe i w) h2⟩
  · intro done a w hall hI
    obtain ⟨hR, vs, rfl, hV⟩ := hI
    rw [hA vs]
    exact hend vs w hR (AllV.mk fun j hj => hV j (List.mem_range.1 hj) (hall j (by simpa using List.mem_range.1 hj)))
  · intro i o ho e he hb
    have := acycB_spec l 0 i o hac (by simpa using ho) e he hb
    omega
  · intro i hi
    simp only [List.size_toArray] at hi
    simp [hi]
  · intro j oj _ h; simp at h
  · intro h i hi; simp only [List.size_toArray] at h hi; omega
  · refine Nat.le_trans (List.length_filter_le _ _) (by simp)
  · exact ⟨hrefl _, olds l a0, (putAll_olds a0 l 0 (olds l a0) (fun j o d hj hd => by simp [olds, hj, hd])).symm, fun i hi h => by simp at h⟩
end
/-- new blocks, and writes to one block alone -/
def GrowR (b : Nat) (u v : World) : Prop := u.grownBy v (some b)
theorem GrowR.refl {b : Nat} (u : World) : GrowR b u u := ⟨rfl, rfl, rfl, Nat.le_refl _, fun _ _ _ => rfl⟩
theorem GrowR.trans {r : Nat} (a b c : World) (h : GrowR r a b) (h2 : GrowR r b c) : GrowR r a c :=
  ⟨h2.os.trans h.os, h2.tape.trans h.tape, h2.output.trans h.output, Nat.le_trans h.size h2.size, fun j hj hr => (h2.block j (Nat.lt_of_lt_of_le hj h.size) hr).trans (h.block j hj hr)⟩
theorem GrowR.ext {r : Nat} {u v : World} (h : Below u.heap.size u v) : GrowR r u v := ⟨h.os, h.tape, h.output, h.size, fun j hj _ => h.block j hj⟩
theorem GrowR.row {r : Nat} {u v : World} (h : GrowR r u v) {g o : Nat} {cs : List Value} (hr : RowAt u g o cs) (hg : g < u.heap.size) (hne : g ≠ r) : RowAt v g o cs := hr.mono (h.block g hg (fun e => hne (by injection e)))
theorem GrowR.setRow {r : Nat} (u : World) (c : Array Value) : GrowR r u (u.setRow r c) := ⟨rfl, rfl, rfl, by simp, fun k _ hk => _root_.Go.setRow_other u r k _ (fun h => hk (by rw [h]))⟩
theorem GrowR.below {B r : Nat} {a u v : World} (h0 : Below B a u) (hB : B ≤ u.heap.size) (h : GrowR r u v) (hr : B ≤ r) : Below B a v := Below.grown h0 h hB (fun k hk => by injection hk with hk; omega)
end Go.XB
