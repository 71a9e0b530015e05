/- Append to a row of the call's own: where the new one lies. -/
import Derived.Test.YtjlledljancafaaU0
import Derived.Test.YtjlledljancafaaP
set_option linter.unusedSimpArgs false
set_option linter.unusedVariables false
namespace Go.Proofs.Ytjlledljancafaa
open Go.RowKit Go.XB

def apB (P : Program) (t e : TypeId) (size bytes : Nat) : Bool := (match P.underlying t with | some (.slice e') => e' == e | _ => false) && (match P.info? e with
  | some i => (match i.zero with | some z => z.cells.size == size | none => false) && (i.size == size) && (i.bytes == bytes)
  | none => false) && decide (0 < size)
theorem apB_spec {P : Program} {t e : TypeId} {size bytes : Nat} (h : apB P t e size bytes = true) :
    P.underlying t = some (.slice e) ∧ 0 < size ∧ ∃ i z, P.info? e = some i ∧ i.zero = some z ∧ i.size = size ∧ i.bytes = bytes ∧ z.cells.size = size := by
  unfold apB at h
  simp only [Bool.and_eq_true, decide_eq_true_eq] at h
  obtain ⟨⟨h1, h2⟩, h3⟩ := h
  refine ⟨?_, h3, ?_⟩
  · split at h1
    · rename_i e' he
      simp only [beq_iff_eq] at h1
      rw [he, h1]
    · cases h1
  · split at h2
    · rename_i i hi
      simp only [Bool.and_eq_true, beq_iff_eq] at h2
      obtain ⟨⟨h4, h5⟩, h6⟩ := h2
      split at h4
      · rename_i z hz
        exact ⟨i, z, hi, hz, h5, h6, by simpa using h4⟩
      · cases h4
    · cases h2
/-- where the new row lies -/
def Moved (w : World) (v v' : Value) : Prop := v'.ownBlock = v.ownBlock ∨ ∃ g, v'.ownBlock = some g ∧ w.heap.size ≤ g
theorem run_append_at {P : Program} (w : World) (base : Nat) (t ty e : TypeId) (size bytes : Nat) (hp : apB P t e size bytes = true)
    (v : Value) (n : Nat) (xs : List Value) (hown : w.ownsRow base e size v n xs)
    (a : Addr) (m c : Nat) (news : List Value) (hl : news.length = m * size) (hnews : ∀ j u, news[j]? = some u → w.cell? (a.add j) = some u) (h1 : ∀ u ∈ news, u.oneCell' = true)
    (h63 : n + m ≤ maxLen) (hbytes : (n + m) * bytes ≤ 140737488355328) (hbase : base ≤ w.heap.size) :
    ∃ v' w', (Builtin.append_ #[t, t] ty #[v, .slice (some a) m c]).run P w = .ok v' w' ∧ w'.ownsRow base e size v' (n + m) (xs ++ news) ∧ w.grownBy w' v.ownBlock ∧
      Moved w v v' ∧ w'.ownsRow base e size v n xs := by
  obtain ⟨ht, hsz, i, z, hi, hz, rfl, rfl, hzs⟩ := apB_spec hp
  obtain ⟨v', w', hr, ho, hg, hnil⟩ := run_append_own (P := P) w base t ty e i z i.size i.bytes ht hi hz rfl rfl hzs hsz v n xs hown a m c news hl hnews h1 h63 hbytes hbase
  have hlt := hown.lt
  rcases hown.2 with ⟨rfl, rfl⟩ | ⟨g, cap, cur, rfl, hbg, hgc, hnc, hcm, hcs, htake⟩
  · have hx : xs = [] := List.eq_nil_of_length_eq_zero (by simpa using hown.1)
    subst hx
    obtain ⟨v2, w2, hr2, ho2, hg2, hnil2⟩ := run_append_own (P := P) w w.heap.size t ty e i z i.size i.bytes ht hi hz rfl rfl hzs hsz (.slice none 0 0) 0 [] (World.ownsRow_nil _ _ _ _) a m c news hl hnews h1 h63 hbytes (Nat.le_refl _)
    rw [hr] at hr2
    obtain ⟨rfl, rfl⟩ : v' = v2 ∧ w' = w2 := by injection hr2; exact ⟨by assumption, by assumption⟩
    refine ⟨v', w', hr, ho, hg, ?_, World.ownsRow_nil _ _ _ _⟩
    cases hv : v'.ownBlock with
    | none => exact .inl (by rw [hv]; rfl)
    | some k => exact .inr ⟨k, hv, (ho2.lt k hv).1⟩
  · have hsmall : n + m ≤ 9223372036854775807 := by simp only [maxLen] at h63; omega
    by_cases hroom : n + m ≤ cap
    · have hfit : n * i.size + news.length ≤ cur.size := by rw [hl, hcs, ← Nat.add_mul]; exact Nat.mul_le_mul_right _ hroom
      have hr2 := run_append_room (P := P) w t ty e i ht hi g n cap cur hgc a m c news hl hnews h1 hroom hfit
      rw [hr] at hr2
      obtain ⟨rfl, rfl⟩ : v' = _ ∧ w' = _ := by injection hr2; exact ⟨by assumption, by assumption⟩
      refine ⟨_, _, hr, ho, hg, .inl rfl, hown.1, .inr ⟨g, cap, _, rfl, hbg, setRow_heap w g cur _ e _ hgc, hnc, hcm, ?_, ?_⟩⟩
      · simp only [List.size_toArray, List.length_append, List.length_take, List.length_drop, Array.length_toList]
        omega
      · have hxl := hown.1
        rw [htake, List.append_assoc, ← hxl]
        exact List.take_left
    · have holds : ∀ j u, xs[j]? = some u → w.cell? ((⟨g, 0, none⟩ : Addr).add j) = some u := hown.cells (g := g) rfl
      have hr2 := run_append_grow (P := P) w t ty e i z ht hi hz ⟨g, 0, none⟩ n cap xs hown.1 holds a m c news hl hnews (by omega) (by omega) (growslice_fits (by omega) hbytes)
      rw [hr] at hr2
      obtain ⟨rfl, rfl⟩ : v' = _ ∧ w' = _ := by injection hr2; exact ⟨by assumption, by assumption⟩
      refine ⟨_, _, hr, ho, hg, .inr ⟨_, rfl, Nat.le_refl _⟩, ?_⟩
      exact own_ext hown (((Below.refl _ _).drew).alloc (by simp) _)
theorem exec_append_at {P : Program} {ρ : Operand → Value} {o : Oper} {t : TypeId} {x y : Operand} {v v' : Value} {u : Value} {w w' : World} (ho : o.op = .call { callee := .builtin .append, args := #[x, y], argTypes := #[t, t] }) (hx : ρ x = v) (hy : ρ y = u)
    (hr : (Builtin.append_ #[t, t] o.type #[v, u]).run P w = .ok v' w') : (execOp ρ o).run P w = .ok (.value v') w' := by
  unfold execOp
  simp only [ho, resolve, invoke, builtin, Sem.run_bind, Sem.run_pure, Result.andThen_ok, List.map_toArray, List.map_cons, List.map_nil, hx, hy, hr]
theorem wpl_append {P : Program} {ops : Array Oper} {rest : List Oper} {o : Oper} {a : Act} {w : World} {Q : Exit → Act → World → Prop} (hgd : o.guard = none) {t : TypeId} {x y : Operand} (ho : o.op = .call { callee := .builtin .append, args := #[x, y], argTypes := #[t, t] })
    (base : Nat) (e : TypeId) (size bytes : Nat) (hp : apB P t e size bytes = true) {v : Value} {n : Nat} {xs : List Value} (hown : w.ownsRow base e size v n xs)
    (hx : a.eval x = v) {b c : Nat} {news : List Value} (hy : a.eval y = .slice (some ⟨b, 0, none⟩) 1 c) (hl : news.length = size) (hnews : RowAt w b 0 news) (h1 : ∀ u ∈ news, u.oneCell' = true)
    (h63 : n + 1 ≤ maxLen) (hbytes : (n + 1) * bytes ≤ 140737488355328) (hbase : base ≤ w.heap.size)
    (h : ∀ v' w', w'.ownsRow base e size v' (n + 1) (xs ++ news) → w.grownBy w' v.ownBlock → Moved w v v' → wpList P ops Q rest (a.put o.dst v') w') : wpList P ops Q (o :: rest) a w :=
  wpList_plain hgd fun _ hK => by
    obtain ⟨v', w', hr, h2, h3, h4, _⟩ := run_append_at (P := P) w base t o.type e size bytes hp v n xs hown ⟨b, 0, none⟩ 1 c news (by rw [hl, Nat.one_mul]) (fun j u hj => by rw [Addr.add_lit]; exact hnews j u hj) h1 h63 hbytes hbase
    exact op_run (exec_append_at ho hx hy hr) (hK _ _ (h v' w' h2 h3 h4))
theorem Moved.apart {w : World} {v v' : Value} {g : Nat} (h : Moved w v v') (hv : v.ownBlock ≠ some g) (hg : g < w.heap.size) : v'.ownBlock ≠ some g := by
  rcases h with h | ⟨k, h, hk⟩
  · rw [h]; exact hv
  · rw [h]; intro e; injection e; omega
/-- two rows lie apart -/
def Apart (u v : Value) : Prop := u.ownBlock = none ∨ u.ownBlock ≠ v.ownBlock
theorem Apart.symm {u v : Value} (h : Apart u v) : Apart v u := by
  rcases h with h | h
  · cases hv : v.ownBlock with
    | none => exact .inl hv
    | some k => exact .inr (by rw [h, hv]; simp)
  · exact .inr (fun e => h e.symm)
theorem Apart.nil (v : Value) : Apart (.slice none 0 0) v := .inl rfl
theorem Apart.moved {w : World} {u v v' : Value} (h : Apart u v) (hm : Moved w v v') (hu : ∀ k, u.ownBlock = some k → k < w.heap.size) : Apart u v' := by
  rcases hm with hm | ⟨k, hm, hk⟩
  · unfold Apart; rw [hm]; exact h
  · cases hu' : u.ownBlock with
    | none => exact .inl hu'
    | some j => exact .inr (by rw [hu', hm]; intro e; injection e with e; have := hu j hu'; omega)
theorem grown_block {w w' : World} {v : Value} (h : w.grownBy w' v.ownBlock) {g : Nat} (hg : g < w.heap.size) (hv : v.ownBlock ≠ some g) : w'.heap[g]? = w.heap[g]? := h.block g hg (fun e => hv e.symm)

end Go.Proofs.Ytjlledljancafaa
