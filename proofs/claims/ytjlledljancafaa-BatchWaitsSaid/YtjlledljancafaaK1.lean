/- A region that draws its order and stores twice, one store behind the other. -/
import Derived.Test.YtjlledljancafaaB0
import Derived.Test.YtjlledljancafaaB1
namespace Go.XB
open Go.RowKit
def Stage (l : List Oper) (s1 s2 : Nat) (U W1 W2 : World) (i : Nat) (w : World) : Prop :=
  if i = s1 then w = U else if i = s2 then w = W1 else (w = U ∨ (predB l l.length s1 i = false ∧ w = W1) ∨ (predB l l.length s1 i = false ∧ predB l l.length s2 i = false ∧ w = W2))
def NextW (s1 s2 : Nat) (W1 W2 : World) (i : Nat) (w : World) : World := if i = s1 then W1 else if i = s2 then W2 else w
theorem wp_region_two {P : Program} {Q : Exit → Act → World → Prop} {id : Nat} {l : List Oper} {a0 : Act} {w0 : World} (A : (Nat → Value) → Act) (preds : List (List Nat)) (V : Nat → Value → World → Prop) (s1 s2 : Nat) (W1 W2 : World)
    (hm : P.follows .mixedOrders = true) (hac : acycB 0 l = true) (hds : dstsOk l = true) (hpr : predsOkB l preds = true) (h12 : predB l l.length s2 s1 = true) (hl1 : s1 < l.length) (hl2 : s2 < l.length) (hne : s1 ≠ s2) (hA : ∀ vs, putAll l 0 vs a0 = A vs)
    (hstab : ∀ i v w w', V i v w → V i v w')
    (hstep : StepAllP (fun i o ps => ∀ vs w, Stage l s1 s2 w0.drew W1 W2 i w → AllV V vs w ps →
      if Region.wanted o (yielded l.toArray (A vs).tmps) = true then o.wp P (A vs) w (fun a' w' => ∃ v', a' = (A vs).put o.dst v' ∧ w' = NextW s1 s2 W1 W2 i w ∧ V i v' w') Q else (V i undef w ∧ i ≠ s1 ∧ i ≠ s2)) 0 l preds)
    (hend : ∀ vs, AllV V vs W2 (List.range l.length) → Q .normal (A vs) W2) :
    (Code.region id l.toArray true).wp P Q a0 w0 := by
  refine wp_region_any hm ?_
  have hstep' : StepAll (fun i o => ∀ vs w, Stage l s1 s2 w0.drew W1 W2 i w → (∀ j, predB l l.length i j = true → V j (vs j) w) →
      if Region.wanted o (yielded l.toArray (A vs).tmps) = true then o.wp P (A vs) w (fun a' w' => ∃ v', a' = (A vs).put o.dst v' ∧ w' = NextW s1 s2 W1 W2 i w ∧ V i v' w') Q else (V i undef w ∧ i ≠ s1 ∧ i ≠ s2)) 0 l := by
    refine StepAllP.mk (fun i o hi hS vs w hR hp => ?_) hstep
    simp only [Nat.zero_add] at hS hp ⊢
    refine hS vs w (by simpa using hR) (AllV.mk fun j hj => hp j ?_)
    unfold predsOkB at hpr
    rw [List.all_eq_true] at hpr
    have h1 := hpr i (List.mem_range.2 (List.getElem?_eq_some_iff.1 hi).1)
    rw [List.all_eq_true] at h1
    exact h1 j hj
  have hin : ∀ (f i j : Nat) (o : Oper), l[i]? = some o → predB l f i j = true → j < l.length := by
    intro f
    induction f with
    | zero => intro i j o _ h; simp [predB] at h
    | succ f ih =>
      intro i j o ho h
      have hilt := (List.getElem?_eq_some_iff.1 ho).1
      simp only [predB, ho, List.any_eq_true, Bool.and_eq_true, Bool.or_eq_true, beq_iff_eq, Array.mem_toList_iff] at h
      obtain ⟨e, he, hb, h | h⟩ := h
      · have := acycB_spec l 0 i o hac ho e he hb; omega
      · cases hoe : l[e.on]? with
        | none => have := acycB_spec l 0 i o hac ho e he hb; rw [List.getElem?_eq_none_iff] at hoe; omega
        | some oe => exact ih e.on j oe hoe h
  refine wpAny_inv (fun done a w => (∃ vs, a = putAll l 0 vs a0 ∧ ∀ i, i < l.length → done i = true → V i (vs i) w) ∧
    ((done s1 = false ∧ w = w0.drew) ∨ (done s1 = true ∧ done s2 = false ∧ w = W1) ∨ (done s1 = true ∧ done s2 = true ∧ w = W2))) ?_ ?_ ?_ _ _ (fun _ => false) _ _ (by simp) ?_ ?_ ?_ (by simp) ?_ ?_
  · intro done a w i o ho hdi hdeps hcl hI
    obtain ⟨⟨vs, rfl, hV⟩, hst⟩ := hI
    have ho' : l[i]? = some o := by simpa using ho
    have hil : i < l.length := (List.getElem?_eq_some_iff.1 ho').1
    have hcl' : ∀ j oj, l[j]? = some oj → done j = true → ∀ e ∈ oj.after, Region.binds .any e = true → done e.on = true := fun j oj hj => hcl j oj (by simpa using hj)
    have hnot : ∀ s, s < l.length → done s = true → predB l l.length s i = false := fun s hs hd => by
      have hos : l[s]? = some l[s] := by simp [hs]
      cases hp : predB l l.length s i with
      | false => rfl
      | true =>
        have := predB_done hcl' _ s i _ hos (hcl' s _ hos hd) hp
        rw [hdi] at this; cases this
    have hstage : Stage l s1 s2 w0.drew W1 W2 i w := by
      unfold Stage
      rcases hst with ⟨h1, rfl⟩ | ⟨h1, h2, rfl⟩ | ⟨h1, h2, rfl⟩
      · by_cases e1 : i = s1
        · rw [if_pos e1]
        · rw [if_neg e1]
          by_cases e2 : i = s2
          · subst e2
            have := predB_done hcl' _ i s1 o ho' hdeps h12
            rw [h1] at this; cases this
          · rw [if_neg e2]; exact Or.inl rfl
      · rw [if_neg (fun e => by subst e; rw [hdi] at h1; cases h1)]
        by_cases e2 : i = s2
        · rw [if_pos e2]
        · rw [if_neg e2]; exact Or.inr (Or.inl ⟨hnot s1 hl1 h1, rfl⟩)
      · rw [if_neg (fun e => by subst e; rw [hdi] at h1; cases h1), if_neg (fun e => by subst e; rw [hdi] at h2; cases h2)]
        exact Or.inr (Or.inr ⟨hnot s1 hl1 h1, hnot s2 hl2 h2, rfl⟩)
    have hs := hstep'.get ho'
    simp only [Nat.zero_add] at hs
    have hs := hs vs w hstage (fun j hj => hV j (hin _ i j o ho' hj) (predB_done hcl' _ i j o ho' hdeps hj))
    rw [← hA vs] at hs
    have hV' : ∀ v' w', V i v' w' → ∀ j, j < l.length → upd done i true j = true → V j (upd vs i v' j) w' := by
      intro v' w' hVi j hj hdj
      unfold upd at hdj ⊢
      by_cases hji : j = i
      · subst hji; simpa using hVi
      · rw [if_neg hji] at hdj ⊢
        exact hstab j _ _ _ (hV j hj hdj)
    have hput : ∀ v', (putAll l 0 vs a0).put o.dst v' = putAll l 0 (upd vs i v') a0 := fun v' => by
      have := putAll_upd v' l 0 i o vs a0 hds ho'
      simpa using this
    have hnext : (upd done i true s1 = false ∧ NextW s1 s2 W1 W2 i w = w0.drew) ∨ (upd done i true s1 = true ∧ upd done i true s2 = false ∧ NextW s1 s2 W1 W2 i w = W1) ∨ (upd done i true s1 = true ∧ upd done i true s2 = true ∧ NextW s1 s2 W1 W2 i w = W2) := by
      unfold NextW upd
      unfold Stage at hstage
      by_cases e1 : i = s1
      · subst e1
        rw [if_pos rfl, if_pos rfl, if_neg (fun e => hne e.symm)]
        have hd2 : done s2 = false := by
          cases hd : done s2 with
          | false => rfl
          | true =>
            have hos : l[s2]? = some l[s2] := by simp [hl2]
            have := predB_done hcl' _ s2 i _ hos (hcl' s2 _ hos hd) h12
            rw [hdi] at this; cases this
        exact Or.inr (Or.inl ⟨rfl, hd2, rfl⟩)
      · rw [if_neg e1] at hstage ⊢
        rw [if_neg (fun e => e1 e.symm)]
        by_cases e2 : i = s2
        · subst e2
          rw [if_pos rfl, if_pos rfl]
          exact Or.inr (Or.inr ⟨predB_done hcl' _ i s1 o ho' hdeps h12, rfl, rfl⟩)
        · rw [if_neg e2, if_neg (fun e => e2 e.symm)]
          exact hst
    split at hs
    · rename_i hw
      rw [if_pos hw]
      refine Oper.wp_mono (fun a' w' hk => ?_) hs
      obtain ⟨v', rfl, rfl, hVi⟩ := hk
      exact ⟨⟨upd vs i v', hput v', hV' v' _ hVi⟩, hnext⟩
    · rename_i hw
      rw [if_neg hw]
      have e : NextW s1 s2 W1 W2 i w = w := by unfold NextW; rw [if_neg hs.2.1, if_neg hs.2.2]
      rw [e] at hnext
      exact ⟨⟨upd vs i undef, hput undef, hV' undef w hs.1⟩, hnext⟩
  · intro done a w hall hI
    obtain ⟨⟨vs, rfl, hV⟩, hst⟩ := hI
    rw [hA vs]
    have h1 := hall s1 (by simpa using hl1)
    have h2 := hall s2 (by simpa using hl2)
    rw [h1, h2] at hst
    have hw : w = W2 := by rcases hst with ⟨h, _⟩ | ⟨_, h, _⟩ | ⟨_, _, h⟩ <;> first | cases h; done | exact h
    subst hw
    exact hend vs (AllV.mk fun i hi => hV i (List.mem_range.1 hi) (hall i (by simpa using hi)))
  · intro i o ho e he hb
    have := acycB_spec l 0 i o hac (by simpa using ho) e he hb
    omega
  · intro i hi
    simp only [List.size_toArray] at hi
    simp [hi]
  · intro j oj _ h; simp at h
  · intro h i hi; simp only [List.size_toArray] at h hi; omega
  · refine Nat.le_trans (List.length_filter_le _ _) (by simp)
  · exact ⟨⟨olds l a0, (putAll_olds a0 l 0 (olds l a0) (fun j o d hj hd => by simp [olds, hj, hd])).symm, fun i hi h => by simp at h⟩, Or.inl ⟨rfl, rfl⟩⟩
theorem stage_first {l : List Oper} {s1 s2 i : Nat} {U W1 W2 w : World} (h : Stage l s1 s2 U W1 W2 i w) (h1 : i ≠ s1) (h2 : i ≠ s2) (hp : predB l l.length s1 i = true) : w = U := by
  unfold Stage at h
  rw [if_neg h1, if_neg h2, hp] at h
  rcases h with h | ⟨h, _⟩ | ⟨h, _⟩
  · exact h
  · cases h
  · cases h
theorem stage_s1 {l : List Oper} {s1 s2 : Nat} {U W1 W2 w : World} (h : Stage l s1 s2 U W1 W2 s1 w) : w = U := by
  unfold Stage at h; rwa [if_pos rfl] at h
theorem stage_s2 {l : List Oper} {s1 s2 : Nat} {U W1 W2 w : World} (hne : s2 ≠ s1) (h : Stage l s1 s2 U W1 W2 s2 w) : w = W1 := by
  unfold Stage at h; rwa [if_neg hne, if_pos rfl] at h
section
variable {P : Program} {Q : Exit → Act → World → Prop} {o : Oper} {a : Act} {w w' : World} {V : Value → World → Prop} {X : Prop} {s1 s2 i : Nat} {W1 W2 : World}
theorem two_value {v : Value} {y : Nat → Option Bool} (hr : (execOp a.eval o).run P w = .ok (.value v) w) (hw : Region.wanted o y = true) (h1 : i ≠ s1) (h2 : i ≠ s2) (hV : V v w) :
    if Region.wanted o y = true then o.wp P a w (fun a' w' => ∃ v', a' = a.put o.dst v' ∧ w' = NextW s1 s2 W1 W2 i w ∧ V v' w') Q else X := by
  rw [if_pos hw]
  refine op_run hr ⟨v, rfl, ?_, hV⟩
  unfold NextW; rw [if_neg h1, if_neg h2]
theorem two_store {ty : TypeId} {x y : Operand} {z : Nat → Option Bool} {g off n : Nat} {cs : List Value} (ho : o.op = .store ty x y) (hdst : o.dst = none) (hx : a.eval x = .pointer (some ⟨g, off, none⟩)) (hy : a.eval y = .agg cs.toArray)
    (hi : (P.info? ty).map (·.size) = some n) (hl : cs.length = n) (hs : (storeCells ⟨g, off, none⟩ cs 0).run P w = .ok () w') (hw : Region.wanted o z = true) (hn : NextW s1 s2 W1 W2 i w = w') (hV : V undef w') :
    if Region.wanted o z = true then o.wp P a w (fun a' w' => ∃ v', a' = a.put o.dst v' ∧ w' = NextW s1 s2 W1 W2 i w ∧ V v' w') Q else X := by
  rw [if_pos hw]
  have hst : (Instr.storeAt ty (.pointer (some ⟨g, off, none⟩)) (.agg cs.toArray)).run P w = .ok () w' := by
    cases hq : P.info? ty with
    | none => simp [hq] at hi
    | some i =>
      have hs2 : i.size = cs.length := by simp [hq] at hi; omega
      simp [Instr.storeAt, Instr.sureAddr, storeVar, Sem.run_bind, sizeOf, typeInfo, hq, hs2, Value.cells, hs]
  unfold Oper.wp execOp
  simp only [ho, hx, hy, Sem.run_bind, hst, Result.andThen_ok, Sem.run_pure]
  exact ⟨undef, by rw [hdst], hn.symm, hV⟩
end
end Go.XB
