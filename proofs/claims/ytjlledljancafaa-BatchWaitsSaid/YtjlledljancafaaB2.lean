/- A drawn region whose last operation waits for all the others. -/
import Derived.Test.YtjlledljancafaaB0
import Derived.Test.YtjlledljancafaaB1
namespace Go.XB
open Go.RowKit
section
variable {P : Program} {Q : Exit → Act → World → Prop}
theorem predB_in {l : List Oper} (hac : acycB 0 l = true) : ∀ (f i j : Nat) (o : Oper), l[i]? = some o → predB l f i j = true → j < l.length := by
  intro f
  induction f with
  | zero => intro i j o _ h; simp [predB] at h
  | succ f ih =>
    intro i j o ho h
    have hilt := (List.getElem?_eq_some_iff.1 ho).1
    simp only [predB, ho, List.any_eq_true, Bool.and_eq_true, Bool.or_eq_true, beq_iff_eq, Array.mem_toList_iff] at h
    obtain ⟨e, he, hb, h | h⟩ := h
    · have := acycB_spec l 0 i o hac ho e he hb; omega
    · cases hoe : l[e.on]? with
      | none => have := acycB_spec l 0 i o hac ho e he hb; rw [List.getElem?_eq_none_iff] at hoe; omega
      | some oe => exact ih e.on j oe hoe h
theorem predB_lt {l : List Oper} (hac : acycB 0 l = true) : ∀ (f i j : Nat) (o : Oper), l[i]? = some o → predB l f i j = true → j < i := by
  intro f
  induction f with
  | zero => intro i j o _ h; simp [predB] at h
  | succ f ih =>
    intro i j o ho h
    simp only [predB, ho, List.any_eq_true, Bool.and_eq_true, Bool.or_eq_true, beq_iff_eq, Array.mem_toList_iff] at h
    obtain ⟨e, he, hb, h | h⟩ := h
    · have := acycB_spec l 0 i o hac ho e he hb; omega
    · cases hoe : l[e.on]? with
      | none =>
        have hilt := (List.getElem?_eq_some_iff.1 ho).1
        have := acycB_spec l 0 i o hac ho e he hb; rw [List.getElem?_eq_none_iff] at hoe; omega
      | some oe =>
        have h1 := acycB_spec l 0 i o hac ho e he hb
        have h2 := ih e.on j oe hoe h
        omega
/-- all the others stand ahead of operation k -/
def lastB (l : List Oper) (k : Nat) : Bool := decide (l.length = k + 1) && ((List.range k).all fun j => predB l l.length k j) && (match l[k]? with | some o => o.dst.isNone | none => false)
theorem wp_region_last {id : Nat} {l : List Oper} {a0 : Act} {w0 : World} (A : (Nat → Value) → Act) (preds : List (List Nat)) (R : World → World → Prop) (S : Nat → World → World → Prop) (V : Nat → Value → World → Prop) (k : Nat)
    (hm : P.follows .mixedOrders = true) (hac : acycB 0 l = true) (hds : dstsOk l = true) (hpr : predsOkB l preds = true) (hk : lastB l k = true) (hA : ∀ vs, putAll l 0 vs a0 = A vs)
    (hrefl : ∀ w, R w w) (htrans : ∀ a b c, R a b → R b c → R a c) (hSR : ∀ i w w', S i w w' → R w w') (hSe : ∀ i w, S i w w) (hstab : ∀ i j v w w', i ≠ j → i < k → j < k → predB l l.length i j = false → V i v w → S j w w' → V i v w')
    (hstep : StepAllP (fun i o ps => (i ≠ k → ∀ vs w, R w0.drew w → AllV V vs w ps →
      if Region.wanted o (yielded l.toArray (A vs).tmps) = true then o.wp P (A vs) w (fun a' w' => ∃ v', a' = (A vs).put o.dst v' ∧ S i w w' ∧ V i v' w') Q else V i undef w) ∧
      (i = k → ∀ vs w, R w0.drew w → AllV V vs w (List.range k) → if Region.wanted o (yielded l.toArray (A vs).tmps) = true then o.wp P (A vs) w (fun a' w' => Q .normal a' w') Q else Q .normal (A vs) w)) 0 l preds) :
    (Code.region id l.toArray true).wp P Q a0 w0 := by
  unfold lastB at hk
  simp only [Bool.and_eq_true, decide_eq_true_eq] at hk
  obtain ⟨⟨hlen, hallp⟩, hlast⟩ := hk
  have hkl : k < l.length := by omega
  have hok : l[k]? = some l[k] := List.getElem?_eq_getElem hkl
  rw [hok] at hlast
  simp only [Option.isNone_iff_eq_none] at hlast
  refine wp_region_any hm ?_
  refine wpAny_inv (fun done a w => if done k = true then Q .normal a w else (R w0.drew w ∧ ∃ vs, a = putAll l 0 vs a0 ∧ ∀ i, i < k → done i = true → V i (vs i) w)) ?_ ?_ ?_ _ _ (fun _ => false) _ _ (by simp) ?_ ?_ ?_ (by simp) ?_ ?_
  · intro done a w i o ho hdi hdeps hcl hI
    have ho' : l[i]? = some o := by simpa using ho
    have hil : i < l.length := (List.getElem?_eq_some_iff.1 ho').1
    have hcl' : ∀ j oj, l[j]? = some oj → done j = true → ∀ e ∈ oj.after, Region.binds .any e = true → done e.on = true := fun j oj hj => hcl j oj (by simpa using hj)
    have h0 := StepAllP.mk (T := fun i o => (i ≠ k → ∀ vs w, R w0.drew w → AllV V vs w (preds.getD i []) →
        if Region.wanted o (yielded l.toArray (A vs).tmps) = true then o.wp P (A vs) w (fun a' w' => ∃ v', a' = (A vs).put o.dst v' ∧ S i w w' ∧ V i v' w') Q else V i undef w) ∧
        (i = k → ∀ vs w, R w0.drew w → AllV V vs w (List.range k) → if Region.wanted o (yielded l.toArray (A vs).tmps) = true then o.wp P (A vs) w (fun a' w' => Q .normal a' w') Q else Q .normal (A vs) w)) (fun i o hi hS => by simpa using hS) hstep
    have hs := h0.get ho'
    simp only [Nat.zero_add] at hs
    by_cases hik : i = k
    · subst hik
      have hI' : R w0.drew w ∧ ∃ vs, a = putAll l 0 vs a0 ∧ ∀ j, j < i → done j = true → V j (vs j) w := by simpa [hdi] using hI
      obtain ⟨hR, vs, rfl, hV⟩ := hI'
      have oe : o = l[i] := by rw [hok] at ho'; exact (Option.some.inj ho').symm
      have hd0 : o.dst = none := by rw [oe]; exact hlast
      have hdone : ∀ j, j < i → done j = true := fun j hj => predB_done hcl' _ i j o ho' hdeps (by
        rw [List.all_eq_true] at hallp
        exact hallp j (List.mem_range.2 hj))
      have h2 := hs.2 rfl vs w hR (AllV.mk fun j hj => hV j (List.mem_range.1 hj) (hdone j (List.mem_range.1 hj)))
      rw [← hA vs] at h2
      split at h2
      · rename_i hw
        rw [if_pos hw]
        refine Oper.wp_mono (fun a' w' hk => ?_) h2
        have : upd done i true i = true := by simp [upd]
        simp only [this, if_true]
        exact hk
      · rename_i hw
        rw [if_neg hw]
        have : upd done i true i = true := by simp [upd]
        simp only [this, if_true, hd0]
        exact h2
    · have hdk : done k = false := by
        cases hdk : done k with
        | false => rfl
        | true =>
          have h1 := predB_done hcl' l.length k i l[k] hok (fun e he hb => hcl' k _ hok hdk e he hb) (by
            rw [List.all_eq_true] at hallp
            exact hallp i (List.mem_range.2 (by omega)))
          rw [hdi] at h1; cases h1
      have hI' : R w0.drew w ∧ ∃ vs, a = putAll l 0 vs a0 ∧ ∀ j, j < k → done j = true → V j (vs j) w := by simpa [hdk] using hI
      obtain ⟨hR, vs, rfl, hV⟩ := hI'
      have h2 := hs.1 hik vs w hR (AllV.mk fun j hj => by
        unfold predsOkB at hpr
        rw [List.all_eq_true] at hpr
        have h1 := hpr i (List.mem_range.2 hil)
        rw [List.all_eq_true] at h1
        have h3 := h1 j hj
        have hji := predB_lt hac _ i j o ho' h3
        exact hV j (by omega) (predB_done hcl' _ i j o ho' hdeps h3))
      rw [← hA vs] at h2
      have hput : ∀ v', (putAll l 0 vs a0).put o.dst v' = putAll l 0 (upd vs i v') a0 := fun v' => by
        have := putAll_upd v' l 0 i o vs a0 hds ho'
        simpa using this
      have hun : upd done i true k = false := by unfold upd; rw [if_neg (fun h => hik h.symm)]; exact hdk
      have hik2 : i < k := by omega
      have hV' : ∀ v' w', S i w w' → V i v' w' → ∀ j, j < k → upd done i true j = true → V j (upd vs i v' j) w' := by
        intro v' w' hRw hVi j hj hdj
        unfold upd at hdj ⊢
        by_cases hji : j = i
        · subst hji; simpa using hVi
        · rw [if_neg hji] at hdj ⊢
          have hjl : l[j]? = some (l[j]'(by omega)) := List.getElem?_eq_getElem (by omega)
          have hnp : predB l l.length j i = false := by
            cases hp : predB l l.length j i with
            | false => rfl
            | true =>
              have h1 := predB_done hcl' l.length j i _ hjl (fun e he hb => hcl' j _ hjl hdj e he hb) hp
              rw [hdi] at h1; cases h1
          exact hstab j i _ _ _ hji hj hik2 hnp (hV j hj hdj) hRw
      split at h2
      · rename_i hw
        rw [if_pos hw]
        refine Oper.wp_mono (fun a' w' hk => ?_) h2
        obtain ⟨v', rfl, hRw, hVi⟩ := hk
        simp only [hun, Bool.false_eq_true, if_false]
        exact ⟨htrans _ _ _ hR (hSR _ _ _ hRw), upd vs i v', hput v', hV' v' w' hRw hVi⟩
      · rename_i hw
        rw [if_neg hw]
        simp only [hun, Bool.false_eq_true, if_false]
        exact ⟨hR, upd vs i undef, hput undef, hV' undef w (hSe i w) h2⟩
  · intro done a w hall hI
    have : done k = true := hall k (by simpa using hkl)
    simpa [this] using hI
  · intro i o ho e he hb
    have := acycB_spec l 0 i o hac (by simpa using ho) e he hb
    omega
  · intro i hi
    simp only [List.size_toArray] at hi
    simp [hi]
  · intro j oj _ h; simp at h
  · intro h i hi; simp only [List.size_toArray] at h hi; omega
  · refine Nat.le_trans (List.length_filter_le _ _) (by simp)
  · simp only [Bool.false_eq_true, if_false]
    exact ⟨hrefl _, olds l a0, (putAll_olds a0 l 0 (olds l a0) (fun j o d hj hd => by simp [olds, hj, hd])).symm, fun i hi h => by simp at h⟩
end
section
variable {P : Program} {Q : Exit → Act → World → Prop} {o : Oper} {a : Act} {w w' : World} {S : World → World → Prop} {V : Value → World → Prop} {X : Prop}
theorem last_value {v : Value} {y : Nat → Option Bool} (hd : o.dst = none) (hr : (execOp a.eval o).run P w = .ok (.value v) w') (hw : Region.wanted o y = true) (hK : Q .normal a w') :
    if Region.wanted o y = true then o.wp P a w (fun a' w' => Q .normal a' w') Q else X := by
  rw [if_pos hw]
  unfold Oper.wp
  rw [hr]
  show Q .normal (a.put o.dst v) w'
  rw [hd]; exact hK
theorem last_skip {y : Nat → Option Bool} (hd : o.dst = none) (hr : (execOp a.eval o).run P w = .ok .skip w') (hw : Region.wanted o y = true) (hK : Q .normal a w') :
    if Region.wanted o y = true then o.wp P a w (fun a' w' => Q .normal a' w') Q else X := by
  rw [if_pos hw]
  unfold Oper.wp
  rw [hr]
  show Q .normal (a.put o.dst undef) w'
  rw [hd]; exact hK
end
end Go.XB
