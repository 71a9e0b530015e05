/- The same, where what is known of an operation may speak of the other ones' values. -/
import Derived.Test.YtjlledljancafaaB3
namespace Go.XB
open Go.RowKit
def AllG (V : Nat → (Nat → Value) → World → Prop) (vs : Nat → Value) (w : World) : List Nat → Prop
  | [] => True
  | j :: r => V j vs w ∧ AllG V vs w r
theorem AllG.mk {V : Nat → (Nat → Value) → World → Prop} {vs : Nat → Value} {w : World} : ∀ {l : List Nat}, (∀ j ∈ l, V j vs w) → AllG V vs w l
  | [], _ => trivial
  | _ :: _, h => ⟨h _ (by simp), AllG.mk fun j hj => h j (by simp [hj])⟩
section
variable {P : Program} {Q : Exit → Act → World → Prop}
theorem wp_region_g {id : Nat} {l : List Oper} {a0 : Act} {w0 : World} (A : (Nat → Value) → Act) (preds : List (List Nat)) (R : World → World → Prop) (S : Nat → World → World → Prop) (V : Nat → (Nat → Value) → World → Prop)
    (hm : P.follows .mixedOrders = true) (hac : acycB 0 l = true) (hds : dstsOk l = true) (hpr : predsOkB l preds = true) (hA : ∀ vs, putAll l 0 vs a0 = A vs)
    (hrefl : ∀ w, R w w) (htrans : ∀ a b c, R a b → R b c → R a c) (hSR : ∀ i w w', S i w w' → R w w') (hSe : ∀ i w, S i w w)
    (hstab : ∀ i j vs v w w', i ≠ j → i < l.length → j < l.length → predB l l.length i j = false → V i vs w → S j w w' → V i (upd vs j v) w')
    (hstep : StepAllP (fun i o ps => ∀ vs w, R w0.drew w → (∀ j, predB l l.length j i = true → vs j = olds l a0 j) → AllG V vs w ps →
      if Region.wanted o (yielded l.toArray (A vs).tmps) = true then o.wp P (A vs) w (fun a' w' => ∃ v', a' = (A vs).put o.dst v' ∧ S i w w' ∧ V i (upd vs i v') w') Q else V i (upd vs i undef) w) 0 l preds)
    (hend : ∀ vs w, R w0.drew w → AllG V vs w (List.range l.length) → Q .normal (A vs) w) :
    (Code.region id l.toArray true).wp P Q a0 w0 := by
  refine wp_region_any hm ?_
  refine wpAny_inv (fun done a w => R w0.drew w ∧ ∃ vs, a = putAll l 0 vs a0 ∧ (∀ i, done i = false → vs i = olds l a0 i) ∧ ∀ i, i < l.length → done i = true → V i vs w) ?_ ?_ ?_ _ _ (fun _ => false) _ _ (by simp) ?_ ?_ ?_ (by simp) ?_ ?_
  · intro done a w i o ho hdi hdeps hcl hI
    obtain ⟨hR, vs, rfl, hold, hV⟩ := hI
    have ho' : l[i]? = some o := by simpa using ho
    have hil : i < l.length := (List.getElem?_eq_some_iff.1 ho').1
    have hcl' : ∀ j oj, l[j]? = some oj → done j = true → ∀ e ∈ oj.after, Region.binds .any e = true → done e.on = true := fun j oj hj => hcl j oj (by simpa using hj)
    have h0 := StepAllP.mk (T := fun i o => ∀ vs w, R w0.drew w → (∀ j, predB l l.length j i = true → vs j = olds l a0 j) → AllG V vs w (preds.getD i []) →
        if Region.wanted o (yielded l.toArray (A vs).tmps) = true then o.wp P (A vs) w (fun a' w' => ∃ v', a' = (A vs).put o.dst v' ∧ S i w w' ∧ V i (upd vs i v') w') Q else V i (upd vs i undef) w) (fun i o hi hS => by simpa using hS) hstep
    have hs := h0.get ho'
    simp only [Nat.zero_add] at hs
    have h2 := hs vs w hR (fun j hj => hold j (by
      cases hdj : done j with
      | false => rfl
      | true =>
        have hjl : j < l.length := by
          cases hlj : l[j]? with
          | some oj => exact (List.getElem?_eq_some_iff.1 hlj).1
          | none =>
            cases hln : l.length with
            | zero => omega
            | succ m => rw [hln] at hj; simp [predB, hlj] at hj
        have h1 := predB_done hcl' l.length j i _ (List.getElem?_eq_getElem hjl) (fun e he hb => hcl' j _ (List.getElem?_eq_getElem hjl) hdj e he hb) hj
        rw [hdi] at h1; cases h1)) (AllG.mk fun j hj => by
      unfold predsOkB at hpr
      rw [List.all_eq_true] at hpr
      have h1 := hpr i (List.mem_range.2 hil)
      rw [List.all_eq_true] at h1
      have h3 := h1 j hj
      exact hV j (predB_in hac _ i j o ho' h3) (predB_done hcl' _ i j o ho' hdeps h3))
    rw [← hA vs] at h2
    have hput : ∀ v', (putAll l 0 vs a0).put o.dst v' = putAll l 0 (upd vs i v') a0 := fun v' => by
      have := putAll_upd v' l 0 i o vs a0 hds ho'
      simpa using this
    have hV' : ∀ v' w', S i w w' → V i (upd vs i v') w' → ∀ j, j < l.length → upd done i true j = true → V j (upd vs i v') w' := by
      intro v' w' hRw hVi j hj hdj
      by_cases hji : j = i
      · subst hji; exact hVi
      · unfold upd at hdj
        rw [if_neg hji] at hdj
        have hjl : l[j]? = some l[j] := List.getElem?_eq_getElem hj
        have hnp : predB l l.length j i = false := by
          cases hp : predB l l.length j i with
          | false => rfl
          | true =>
            have h1 := predB_done hcl' l.length j i _ hjl (fun e he hb => hcl' j _ hjl hdj e he hb) hp
            rw [hdi] at h1; cases h1
        exact hstab j i _ _ _ _ hji hj hil hnp (hV j hj hdj) hRw
    have hold' : ∀ v' j, upd done i true j = false → upd vs i v' j = olds l a0 j := by
      intro v' j hdj
      unfold upd at hdj ⊢
      by_cases hji : j = i
      · rw [if_pos hji] at hdj; cases hdj
      · rw [if_neg hji] at hdj ⊢
        exact hold j hdj
    split at h2
    · rename_i hw
      rw [if_pos hw]
      refine Oper.wp_mono (fun a' w' hk => ?_) h2
      obtain ⟨v', rfl, hRw, hVi⟩ := hk
      exact ⟨htrans _ _ _ hR (hSR _ _ _ hRw), upd vs i v', hput v', hold' v', hV' v' w' hRw hVi⟩
    · rename_i hw
      rw [if_neg hw]
      exact ⟨hR, upd vs i undef, hput undef, hold' undef, hV' undef w (hSe i w) h2⟩
  · intro done a w hall hI
    obtain ⟨hR, vs, rfl, hold, hV⟩ := hI
    rw [hA vs]
    exact hend vs w hR (AllG.mk fun j hj => hV j (List.mem_range.1 hj) (hall j (by simpa using List.mem_range.1 hj)))
  · intro i o ho e he hb
    have := acycB_spec l 0 i o hac (by simpa using ho) e he hb
    omega
  · intro i hi
    simp only [List.size_toArray] at hi
    simp [hi]
  · intro j oj _ h; simp at h
  · intro h i hi; simp only [List.size_toArray] at h hi; omega
  · refine Nat.le_trans (List.length_filter_le _ _) (by simp)
  · exact ⟨hrefl _, olds l a0, (putAll_olds a0 l 0 (olds l a0) (fun j o d hj hd => by simp [olds, hj, hd])).symm, fun _ _ => rfl, fun i hi h => by simp at h⟩
end
end Go.XB
