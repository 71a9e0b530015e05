import Derived.WalkKit
import Derived.WalkSpells
import Derived.WalkLawsBesides
namespace Go.XB
open Go.RowKit

/-! ## A region in any order, by an invariant over what is done -/

def upd {α : Type} (f : Nat → α) (i : Nat) (x : α) : Nat → α := fun k => if k = i then x else f k

section
variable {P : Program} {md : Region.Mode} {ops : Array Oper} {Q : Exit → Act → World → Prop}

/-- all slots of the region's operations, filled from vs -/
def putAll (ops : List Oper) (k : Nat) (vs : Nat → Value) (a : Act) : Act :=
  match ops with
  | [] => a
  | o :: r => putAll r (k + 1) vs (a.put o.dst (vs k))

theorem wpAny_inv (I : (Nat → Bool) → Act → World → Prop)
    (hstep : ∀ done a w i o, ops[i]? = some o → done i = false → (∀ e ∈ o.after, Region.binds md e = true → done e.on = true) →
      (∀ j oj, ops[j]? = some oj → done j = true → ∀ e ∈ oj.after, Region.binds md e = true → done e.on = true) → I done a w →
      if Region.wanted o (yielded ops a.tmps) = true then o.wp P a w (fun a' w' => I (upd done i true) a' w') Q else I (upd done i true) (a.put o.dst undef) w)
    (hend : ∀ done a w, (∀ i, i < ops.size → done i = true) → I done a w → Q .normal a w)
    (hacyc : ∀ i o, ops[i]? = some o → ∀ e ∈ o.after, Region.binds md e = true → e.on < i) :
    ∀ (fuel : Nat) (listed : Array Bool) (done : Nat → Bool) (a : Act) (w : World), listed.size = ops.size → (∀ i, i < ops.size → listed.getD i false = done i) →
      (∀ j oj, ops[j]? = some oj → done j = true → ∀ e ∈ oj.after, Region.binds md e = true → done e.on = true) →
      (fuel = 0 → ∀ i, i < ops.size → done i = true) → (∀ i, ops.size ≤ i → done i = false) → (((List.range ops.size).filter fun i => !done i).length ≤ fuel) →
      I done a w → wpAny P md ops Q fuel listed a w := by
  have hready : ∀ (listed : Array Bool) (done : Nat → Bool), listed.size = ops.size → (∀ i, i < ops.size → listed.getD i false = done i) → (∀ i, ops.size ≤ i → done i = false) →
      Region.ready md ops listed = [] → ∀ i, i < ops.size → done i = true := by
    intro listed done hs hl _ hr i
    induction i using Nat.strongRecOn with
    | _ i ih =>
      intro hi
      by_cases hd : done i = true
      · exact hd
      · exfalso
        have hm : i ∈ Region.ready md ops listed := by
          unfold Region.ready
          simp only [List.mem_filter, List.mem_range]
          refine ⟨hi, ?_⟩
          have ho : ops[i]? = some ops[i] := by simp [hi]
          simp only [ho, Option.map_some, Option.getD_some, Bool.and_eq_true, Bool.not_eq_true']
          have h1 : listed.getD i true = false := by
            have := hl i hi
            simp only [Array.getD_eq_getD_getElem?] at this ⊢
            have hli : i < listed.size := by omega
            simp only [hli, Array.getElem?_eq_getElem, Option.getD_some] at this ⊢
            rw [this]; simpa using hd
          refine ⟨h1, ?_⟩
          rw [Array.all_eq_true_iff_forall_mem]
          intro e he
          by_cases hb : Region.binds md e = true
          · have hlt := hacyc i _ ho e he hb
            have := ih e.on hlt (by omega)
            have h2 := hl e.on (by omega)
            simp [h2, this]
          · simp [hb]
        rw [hr] at hm
        cases hm
  intro fuel
  induction fuel with
  | zero =>
    intro listed done a w hs hl hcl h0 hout hc hI
    refine ⟨?_, hend done a w (h0 rfl) hI⟩
    unfold Region.ready
    rw [List.filter_eq_nil_iff]
    intro i hi
    have hi := List.mem_range.1 hi
    have h1 := hl i hi
    have h2 := h0 rfl i hi
    simp only [Array.getD_eq_getD_getElem?] at h1 ⊢
    have hli : i < listed.size := by omega
    simp only [hli, Array.getElem?_eq_getElem, Option.getD_some] at h1 ⊢
    simp [h1, h2]
  | succ fuel ih =>
    intro listed done a w hs hl hcl h0 hout hc hI
    refine ⟨fun hr => hend done a w (hready listed done hs hl hout hr) hI, ?_⟩
    intro i hi
    unfold Region.ready at hi
    simp only [List.mem_filter, List.mem_range] at hi
    obtain ⟨hlt, hcond⟩ := hi
    have ho : ops[i]? = some ops[i] := by simp [hlt]
    simp only [ho, Option.map_some, Option.getD_some, Bool.and_eq_true, Bool.not_eq_true'] at hcond
    have hdi : done i = false := by
      rw [← hl i hlt]
      have := hcond.1
      simp only [Array.getD_eq_getD_getElem?] at this ⊢
      have hli : i < listed.size := by omega
      simp only [hli, Array.getElem?_eq_getElem, Option.getD_some] at this ⊢
      exact this
    have hdeps : ∀ e ∈ ops[i].after, Region.binds md e = true → done e.on = true := by
      intro e he hb
      have h := (Array.all_eq_true_iff_forall_mem.1 hcond.2) e he
      simp only [hb, Bool.not_true, Bool.false_or] at h
      have hlt2 := hacyc i _ ho e he hb
      rw [← hl e.on (by omega)]
      exact h
    have hnext : ∀ a' w', I (upd done i true) a' w' → wpAny P md ops Q fuel (listed.setIfInBounds i true) a' w' := by
      intro a' w' hI'
      have hl' : ∀ j, j < ops.size → (listed.setIfInBounds i true).getD j false = upd done i true j := by
        intro j hj
        unfold upd
        simp only [Array.getD_eq_getD_getElem?, Array.getElem?_setIfInBounds]
        by_cases hji : i = j
        · subst hji
          have : i < listed.size := by omega
          simp [this]
        · rw [if_neg hji, if_neg (fun h => hji h.symm)]
          have := hl j hj
          simpa [Array.getD_eq_getD_getElem?] using this
      have hlen : (((List.range ops.size).filter fun j => !upd done i true j).length) + 1 ≤ (((List.range ops.size).filter fun j => !done j).length) := by
        have hsub : ((List.range ops.size).filter fun j => !upd done i true j) = (((List.range ops.size).filter fun j => !done j).erase i) := by
          have hnd : ((List.range ops.size).filter fun j => !done j).Nodup := List.nodup_range.filter _
          rw [hnd.erase_eq_filter, List.filter_filter]
          apply List.filter_congr
          intro j _
          unfold upd
          by_cases hji : j = i
          · simp [hji]
          · simp [hji]
        have hmem : i ∈ ((List.range ops.size).filter fun j => !done j) := by simp [hlt, hdi]
        rw [hsub, List.length_erase_of_mem hmem]
        have := List.length_pos_of_mem hmem
        omega
      refine ih _ (upd done i true) a' w' (by simpa using hs) hl' ?_ ?_ ?_ (by omega) hI'
      · intro j oj hj hdj e he hb
        unfold upd at hdj ⊢
        by_cases hji : j = i
        · subst hji
          rw [ho] at hj; cases hj
          have := hdeps e he hb
          simp [this]
        · rw [if_neg hji] at hdj
          have := hcl j oj hj hdj e he hb
          simp [this]
      · intro hf j hj
        subst hf
        have hz : (((List.range ops.size).filter fun j => !upd done i true j).length) = 0 := by omega
        have hz' := List.eq_nil_of_length_eq_zero hz
        rw [List.filter_eq_nil_iff] at hz'
        have := hz' j (List.mem_range.2 hj)
        simpa using this
      · intro j hj
        unfold upd
        rw [if_neg (by omega)]
        exact hout j hj
    unfold wpOp
    rw [ho]
    show if Region.wanted ops[i] (yielded ops a.tmps) = true then _ else _
    have hs1 := hstep done a w i _ ho hdi hdeps hcl hI
    split
    · rename_i hw
      rw [if_pos hw] at hs1
      exact .inl (Oper.wp_mono hnext hs1)
    · rename_i hw
      rw [if_neg hw] at hs1
      exact hnext _ _ hs1
end

/-! ## The same, over the operations' values -/

theorem putAll_put (dOf : Option Tmp) (v : Value) : ∀ (l : List Oper) (k : Nat) (vs : Nat → Value) (a : Act), (∀ o ∈ l, ∀ d, dOf = some d → o.dst ≠ some d) →
    putAll l k vs (a.put dOf v) = (putAll l k vs a).put dOf v
  | [], _, _, _, _ => rfl
  | o :: l, k, vs, a, h => by
    show putAll l (k + 1) vs ((a.put dOf v).put o.dst (vs k)) = _
    rw [Act.put_comm a v (vs k) (fun d hd => h o (by simp) d hd), putAll_put dOf v l (k + 1) vs _ (fun o' ho' => h o' (by simp [ho']))]
    rfl

theorem putAll_congr : ∀ (l : List Oper) (k : Nat) (vs vs' : Nat → Value) (a : Act), (∀ j, k ≤ j → j < k + l.length → vs j = vs' j) → putAll l k vs a = putAll l k vs' a
  | [], _, _, _, _, _ => rfl
  | o :: l, k, vs, vs', a, h => by
    show putAll l (k + 1) vs (a.put o.dst (vs k)) = putAll l (k + 1) vs' (a.put o.dst (vs' k))
    rw [h k (Nat.le_refl _) (by simp), putAll_congr l (k + 1) vs vs' _ (fun j h1 h2 => h j (by omega) (by simp at h2 ⊢; omega))]

theorem put_put (a : Act) (d : Option Tmp) (v u : Value) : (a.put d v).put d u = a.put d u := by
  cases d with
  | none => rfl
  | some d => simp [Act.put]

/-- no slot is written twice -/
def dstsOk : List Oper → Bool
  | [] => true
  | o :: l => (l.all fun p => match o.dst with | some d => p.dst != some d | none => true) && dstsOk l

theorem putAll_upd (v : Value) : ∀ (l : List Oper) (k i : Nat) (o : Oper) (vs : Nat → Value) (a : Act), dstsOk l = true → l[i]? = some o →
    (putAll l k vs a).put o.dst v = putAll l k (upd vs (k + i) v) a
  | [], _, _, _, _, _, _, h => by simp at h
  | p :: l, k, 0, o, vs, a, hd, h => by
    simp only [List.getElem?_cons_zero, Option.some.injEq] at h
    subst h
    simp only [dstsOk, Bool.and_eq_true, List.all_eq_true] at hd
    show (putAll l (k + 1) vs (a.put p.dst (vs k))).put p.dst v = putAll l (k + 1) (upd vs (k + 0) v) (a.put p.dst (upd vs (k + 0) v k))
    rw [← putAll_put p.dst v l (k + 1) vs _ (fun o' ho' d hd' => by have := hd.1 o' ho'; rw [hd'] at this; simpa using this), put_put]
    have : upd vs (k + 0) v k = v := by simp [upd]
    rw [this]
    refine putAll_congr l (k + 1) _ _ _ (fun j h1 _ => ?_)
    unfold upd
    rw [if_neg (by omega)]
  | p :: l, k, i + 1, o, vs, a, hd, h => by
    simp only [List.getElem?_cons_succ] at h
    simp only [dstsOk, Bool.and_eq_true, List.all_eq_true] at hd
    show (putAll l (k + 1) vs (a.put p.dst (vs k))).put o.dst v = putAll l (k + 1) (upd vs (k + (i + 1)) v) (a.put p.dst (upd vs (k + (i + 1)) v k))
    rw [putAll_upd v l (k + 1) i o vs _ hd.2 h]
    have e : upd vs (k + (i + 1)) v k = vs k := by unfold upd; rw [if_neg (by omega)]
    rw [e, show k + 1 + i = k + (i + 1) by omega]

/-- what the slots held before -/
def olds (ops : List Oper) (a : Act) (i : Nat) : Value :=
  match (ops[i]?).bind (·.dst) with
  | some d => a.tmps.getD d undef
  | none => undef

theorem put_old (a : Act) (d : Tmp) : a.put (some d) (a.tmps.getD d undef) = a := by
  obtain ⟨t, ds⟩ := a
  show (⟨t.setIfInBounds d (t.getD d undef), ds⟩ : Act) = ⟨t, ds⟩
  congr 1
  apply Array.ext_getElem?
  intro j
  simp only [Array.getElem?_setIfInBounds, Array.getD_eq_getD_getElem?]
  by_cases h : d = j
  · subst h
    rw [if_pos rfl]
    by_cases hl : d < t.size
    · simp [hl]
    · simp [hl]
  · rw [if_neg h]

theorem putAll_olds (a : Act) : ∀ (l : List Oper) (k : Nat) (vs : Nat → Value), (∀ j o d, l[j]? = some o → o.dst = some d → vs (k + j) = a.tmps.getD d undef) → putAll l k vs a = a
  | [], _, _, _ => rfl
  | o :: l, k, vs, h => by
    show putAll l (k + 1) vs (a.put o.dst (vs k)) = a
    have h0 : a.put o.dst (vs k) = a := by
      cases hd : o.dst with
      | none => rfl
      | some d =>
        have := h 0 o d (by simp) hd
        simp only [Nat.add_zero] at this
        rw [this]; exact put_old a d
    rw [h0]
    refine putAll_olds a l (k + 1) vs (fun j o' d hj hd => ?_)
    have := h (j + 1) o' d (by simpa using hj) hd
    rw [show k + 1 + j = k + (j + 1) by omega]; exact this

def predB (ops : List Oper) : Nat → Nat → Nat → Bool
  | 0, _, _ => false
  | f + 1, i, j => match ops[i]? with
    | none => false
    | some o => o.after.toList.any fun e => Region.binds .any e && (e.on == j || predB ops f e.on j)

/-- each operation waits for earlier ones alone -/
def acycB : Nat → List Oper → Bool
  | _, [] => true
  | k, o :: l => (o.after.toList.all fun e => !Region.binds .any e || decide (e.on < k)) && acycB (k + 1) l

theorem acycB_spec : ∀ (l : List Oper) (k i : Nat) (o : Oper), acycB k l = true → l[i]? = some o → ∀ e ∈ o.after, Region.binds .any e = true → e.on < k + i
  | [], _, _, _, _, h => by simp at h
  | p :: l, k, 0, o, hd, h => by
    simp only [List.getElem?_cons_zero, Option.some.injEq] at h
    subst h
    simp only [acycB, Bool.and_eq_true] at hd
    intro e he hb
    have := (List.all_eq_true.1 hd.1) e (by simpa using he)
    simpa [hb] using this
  | p :: l, k, i + 1, o, hd, h => by
    simp only [List.getElem?_cons_succ] at h
    simp only [acycB, Bool.and_eq_true] at hd
    intro e he hb
    have := acycB_spec l (k + 1) i o hd.2 h e he hb
    omega

theorem predB_done {ops : List Oper} {done : Nat → Bool} (hcl : ∀ j oj, ops[j]? = some oj → done j = true → ∀ e ∈ oj.after, Region.binds .any e = true → done e.on = true) :
    ∀ (f i j : Nat) (o : Oper), ops[i]? = some o → (∀ e ∈ o.after, Region.binds .any e = true → done e.on = true) → predB ops f i j = true → done j = true := by
  intro f
  induction f with
  | zero => intro i j o _ _ h; simp [predB] at h
  | succ f ih =>
    intro i j o ho hd h
    simp only [predB, ho, List.any_eq_true, Bool.and_eq_true, Bool.or_eq_true, beq_iff_eq, Array.mem_toList_iff] at h
    obtain ⟨e, he, hb, h | h⟩ := h
    · rw [← h]; exact hd e he hb
    · cases hoe : ops[e.on]? with
      | none =>
        cases f with
        | zero => simp [predB] at h
        | succ f => simp [predB, hoe] at h
      | some oe => exact ih e.on j oe hoe (fun e' he' hb' => hcl e.on oe hoe (hd e he hb) e' he' hb') h

def StepAll (S : Nat → Oper → Prop) : Nat → List Oper → Prop
  | _, [] => True
  | k, o :: r => S k o ∧ StepAll S (k + 1) r

theorem StepAll.get {S : Nat → Oper → Prop} : ∀ {l : List Oper} {k : Nat}, StepAll S k l → ∀ {i : Nat} {o : Oper}, l[i]? = some o → S (k + i) o
  | [], _, _, _, _, h => by simp at h
  | p :: l, k, hs, 0, o, h => by
    simp only [List.getElem?_cons_zero, Option.some.injEq] at h
    subst h; exact hs.1
  | p :: l, k, hs, i + 1, o, h => by
    simp only [List.getElem?_cons_succ] at h
    have := StepAll.get hs.2 h
    rwa [show k + 1 + i = k + (i + 1) by omega] at this

section
variable {P : Program} {Q : Exit → Act → World → Prop}

/-- A REGION THAT DRAWS ITS ORDER: R is kept by every step, V i is what operation i's value is good for, and stays under R. -/
theorem wp_region_vals {id : Nat} {l : List Oper} {a0 : Act} {w0 : World} (A : (Nat → Value) → Act) (R : World → World → Prop) (V : Nat → Value → World → Prop)
    (hm : P.follows .mixedOrders = true) (hac : acycB 0 l = true) (hds : dstsOk l = true) (hA : ∀ vs, putAll l 0 vs a0 = A vs)
    (hrefl : ∀ w, R w w) (htrans : ∀ a b c, R a b → R b c → R a c) (hstab : ∀ i v w w', V i v w → R w w' → V i v w')
    (hstep : StepAll (fun i o => ∀ vs w, R w0.drew w → (∀ j, predB l l.length i j = true → V j (vs j) w) →
      if Region.wanted o (yielded l.toArray (A vs).tmps) = true then o.wp P (A vs) w (fun a' w' => ∃ v', a' = (A vs).put o.dst v' ∧ R w w' ∧ V i v' w') Q else V i undef w) 0 l)
    (hend : ∀ vs w, R w0.drew w → (∀ i, i < l.length → V i (vs i) w) → Q .normal (A vs) w) :
    (Code.region id l.toArray true).wp P Q a0 w0 := by
  refine wp_region_any hm ?_
  refine wpAny_inv (fun done a w => R w0.drew w ∧ ∃ vs, a = putAll l 0 vs a0 ∧ ∀ i, i < l.length → done i = true → V i (vs i) w) ?_ ?_ ?_ _ _ (fun _ => false) _ _ (by simp) ?_ ?_ ?_ (by simp) ?_ ?_
  · intro done a w i o ho hdi hdeps hcl hI
    obtain ⟨hR, vs, rfl, hV⟩ := hI
    have ho' : l[i]? = some o := by simpa using ho
    have hil : i < l.length := (List.getElem?_eq_some_iff.1 ho').1
    have hcl' : ∀ j oj, l[j]? = some oj → done j = true → ∀ e ∈ oj.after, Region.binds .any e = true → done e.on = true := fun j oj hj => hcl j oj (by simpa using hj)
    have hs := hstep.get ho'
    simp only [Nat.zero_add] at hs
    have hs := hs vs w hR (fun j hj => by
      have hdj := predB_done hcl' _ i j o ho' hdeps hj
      refine hV j ?_ hdj
      -- a predecessor is an operation of the region
      have : ∀ (f i j : Nat) (o : Oper), l[i]? = some o → predB l f i j = true → j < l.length := by
        intro f
        induction f with
        | zero => intro i j o _ h; simp [predB] at h
        | succ f ih =>
          intro i j o ho h
          have hilt := (List.getElem?_eq_some_iff.1 ho).1
          simp only [predB, ho, List.any_eq_true, Bool.and_eq_true, Bool.or_eq_true, beq_iff_eq, Array.mem_toList_iff] at h
          obtain ⟨e, he, hb, h | h⟩ := h
          · have := acycB_spec l 0 i o hac ho e he hb; omega
          · cases hoe : l[e.on]? with
            | none => have := acycB_spec l 0 i o hac ho e he hb; rw [List.getElem?_eq_none_iff] at hoe; omega
            | some oe => exact ih e.on j oe hoe h
      exact this _ i j o ho' hj)
    rw [← hA vs] at hs
    have hV' : ∀ v' w', R w w' → V i v' w' → ∀ j, j < l.length → upd done i true j = true → V j (upd vs i v' j) w' := by
      intro v' w' hRw hVi j hj hdj
      unfold upd at hdj ⊢
      by_cases hji : j = i
      · subst hji; simpa using hVi
      · rw [if_neg hji] at hdj ⊢
        exact hstab j _ _ _ (hV j hj hdj) hRw
    have hput : ∀ v', (putAll l 0 vs a0).put o.dst v' = putAll l 0 (upd vs i v') a0 := fun v' => by
      have := putAll_upd v' l 0 i o vs a0 hds ho'
      simpa using this
    split at hs
    · rename_i hw
      rw [if_pos hw]
      refine Oper.wp_mono (fun a' w' hk => ?_) hs
      obtain ⟨v', rfl, hRw, hVi⟩ := hk
      exact ⟨htrans _ _ _ hR hRw, upd vs i v', hput v', hV' v' w' hRw hVi⟩
    · rename_i hw
      rw [if_neg hw]
      exact ⟨hR, upd vs i undef, hput undef, hV' undef w (hrefl w) hs⟩
  · intro done a w hall hI
    obtain ⟨hR, vs, rfl, hV⟩ := hI
    rw [hA vs]
    exact hend vs w hR (fun i hi => hV i hi (hall i (by simpa using hi)))
  · intro i o ho e he hb
    have := acycB_spec l 0 i o hac (by simpa using ho) e he hb
    omega
  · intro i hi
    simp only [List.size_toArray] at hi
    simp [hi]
  · intro j oj _ h; simp at h
  · intro h i hi; simp only [List.size_toArray] at h hi; omega
  · refine Nat.le_trans (List.length_filter_le _ _) (by simp)
  · exact ⟨hrefl _, olds l a0, (putAll_olds a0 l 0 (olds l a0) (fun j o d hj hd => by simp [olds, hj, hd])).symm, fun i hi h => by simp at h⟩
end
/-- what must be done ahead of each operation: a list for each, told by whoever proves, checked -/
def predsOkB (l : List Oper) (preds : List (List Nat)) : Bool := (List.range l.length).all fun i => (preds.getD i []).all fun j => predB l l.length i j
def AllV (V : Nat → Value → World → Prop) (vs : Nat → Value) (w : World) : List Nat → Prop
  | [] => True
  | j :: r => V j (vs j) w ∧ AllV V vs w r
theorem AllV.mk {V : Nat → Value → World → Prop} {vs : Nat → Value} {w : World} : ∀ {l : List Nat}, (∀ j ∈ l, V j (vs j) w) → AllV V vs w l
  | [], _ => trivial
  | _ :: _, h => ⟨h _ (by simp), AllV.mk fun j hj => h j (by simp [hj])⟩
def StepAllP (S : Nat → Oper → List Nat → Prop) : Nat → List Oper → List (List Nat) → Prop
  | _, [], _ => True
  | k, o :: r, ps => S k o (ps.headD []) ∧ StepAllP S (k + 1) r ps.tail
theorem StepAllP.mk {S : Nat → Oper → List Nat → Prop} {T : Nat → Oper → Prop} : ∀ {l : List Oper} {ps : List (List Nat)} {k : Nat}, (∀ i o, l[i]? = some o → S (k + i) o (ps.getD i []) → T (k + i) o) → StepAllP S k l ps → StepAll T k l
  | [], _, _, _, _ => trivial
  | o :: r, ps, k, h, hs => by
    refine ⟨?_, StepAllP.mk (ps := ps.tail) (k := k + 1) (fun i o' hi hS => ?_) hs.2⟩
    · have := h 0 o (by simp) (by cases ps <;> exact hs.1)
      simpa using this
    · have := h (i + 1) o' (by simpa using hi) (by
        have e : k + (i + 1) = k + 1 + i := by omega
        rw [e]
        cases ps with
        | nil => simpa using hS
        | cons p ps => simpa using hS)
      have e : k + (i + 1) = k + 1 + i := by omega
      rwa [e] at this

theorem wp_region_p {P : Program} {Q : Exit → Act → World → Prop} {id : Nat} {l : List Oper} {a0 : Act} {w0 : World} (A : (Nat → Value) → Act) (preds : List (List Nat)) (R : World → World → Prop) (V : Nat → Value → World → Prop)
    (hm : P.follows .mixedOrders = true) (hac : acycB 0 l = true) (hds : dstsOk l = true) (hpr : predsOkB l preds = true) (hA : ∀ vs, putAll l 0 vs a0 = A vs)
    (hrefl : ∀ w, R w w) (htrans : ∀ a b c, R a b → R b c → R a c) (hstab : ∀ i v w w', V i v w → R w w' → V i v w')
    (hstep : StepAllP (fun i o ps => ∀ vs w, R w0.drew w → AllV V vs w ps →
      if Region.wanted o (yielded l.toArray (A vs).tmps) = true then o.wp P (A vs) w (fun a' w' => ∃ v', a' = (A vs).put o.dst v' ∧ R w w' ∧ V i v' w') Q else V i undef w) 0 l preds)
    (hend : ∀ vs w, R w0.drew w → AllV V vs w (List.range l.length) → Q .normal (A vs) w) :
    (Code.region id l.toArray true).wp P Q a0 w0 := by
  refine wp_region_vals A R V hm hac hds hA hrefl htrans hstab (StepAllP.mk (fun i o hi hS vs w hR hp => ?_) hstep) (fun vs w hR hV => hend vs w hR (AllV.mk fun j hj => hV j (List.mem_range.1 hj)))
  simp only [Nat.zero_add] at hS hp ⊢
  refine hS vs w hR (AllV.mk fun j hj => hp j ?_)
  unfold predsOkB at hpr
  rw [List.all_eq_true] at hpr
  have h1 := hpr i (List.mem_range.2 (List.getElem?_eq_some_iff.1 hi).1)
  rw [List.all_eq_true] at h1
  exact h1 j hj

/-! ## Steps of such a region -/
theorem bcell {W w1 : World} (hb : Below W.heap.size W w1) : (∀ b o, b < W.heap.size → w1.cell? ⟨b, o, none⟩ = W.cell? ⟨b, o, none⟩) ∧ (∀ b o, b < W.heap.size → w1.frozen? ⟨b, o, none⟩ = W.frozen? ⟨b, o, none⟩) :=
  ⟨fun b o h => hb.cell (p := ⟨b, o, none⟩) h, fun b o h => hb.frozen (p := ⟨b, o, none⟩) h⟩
def Ext (a b : World) : Prop := Below a.heap.size a b
theorem Ext.refl (a : World) : Ext a a := Below.refl _ _
theorem Ext.trans {a b c : World} (h : Ext a b) (k : Ext b c) : Ext a c := Below.trans h (Below.mono k h.size)

section
variable {P : Program} {Q : Exit → Act → World → Prop} {o : Oper} {a : Act} {w w' : World} {R : World → World → Prop} {V : Value → World → Prop} {X : Prop}
theorem step_value {v : Value} {y : Nat → Option Bool} (hr : (execOp a.eval o).run P w = .ok (.value v) w') (hw : Region.wanted o y = true) (hR : R w w') (hV : V v w') :
    if Region.wanted o y = true then o.wp P a w (fun a' w' => ∃ v', a' = a.put o.dst v' ∧ R w w' ∧ V v' w') Q else X := by
  rw [if_pos hw]
  unfold Oper.wp
  rw [hr]
  exact ⟨v, rfl, hR, hV⟩
theorem step_skip {y : Nat → Option Bool} (hr : (execOp a.eval o).run P w = .ok .skip w') (hw : Region.wanted o y = true) (hR : R w w') (hV : V undef w') :
    if Region.wanted o y = true then o.wp P a w (fun a' w' => ∃ v', a' = a.put o.dst v' ∧ R w w' ∧ V v' w') Q else X := by
  rw [if_pos hw]
  unfold Oper.wp
  rw [hr]
  exact ⟨undef, rfl, hR, hV⟩
theorem step_call {f : FuncId} {args : Array Value} {y : Nat → Option Bool} {C : Ending → World → Prop} (hr : (execOp a.eval o).run P w = .ok (.enter f args) w') (hw : Region.wanted o y = true)
    (hc : Calls P f args w' C) (h : ∀ e w2, C e w2 → ∃ v, e = .returned v ∧ R w w2 ∧ V v w2) :
    if Region.wanted o y = true then o.wp P a w (fun a' w' => ∃ v', a' = a.put o.dst v' ∧ R w w' ∧ V v' w') Q else X := by
  rw [if_pos hw]
  unfold Oper.wp
  rw [hr]
  refine Calls.mono hc (fun e w2 he => ?_)
  obtain ⟨v, rfl, hR, hV⟩ := h e w2 he
  exact ⟨v, rfl, hR, hV⟩
theorem step_not {y : Nat → Option Bool} (hw : Region.wanted o y = false) (hV : X) :
    if Region.wanted o y = true then o.wp P a w (fun a' w' => ∃ v', a' = a.put o.dst v' ∧ R w w' ∧ V v' w') Q else X := by
  rw [if_neg (by rw [hw]; simp)]
  exact hV
end
end Go.XB
