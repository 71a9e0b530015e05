import Derived.WalkKit
import Derived.WalkSpells
import Derived.WalkLawsBesides
namespace Go.XB
open Go.RowKit

/-- the cells of a row, from an offset on -/
def RowAt (w : World) (b o : Nat) (cs : List Value) : Prop := ∀ j u, cs[j]? = some u → w.cell? ⟨b, o + j, none⟩ = some u

theorem RowAt.of_block {w : World} {b : Nat} {cs : List Value} {c : Array Value} {t : TypeId} {fr : Nat × Nat} (h : w.heap[b]? = some (.cells c t fr)) (o : Nat)
    (hc : ∀ j u, cs[j]? = some u → c[o + j]? = some u) : RowAt w b o cs := fun j u hj => by
  rw [cell_of_row w b (o + j) c t fr h]; exact hc j u hj

theorem RowAt.whole {w : World} {b : Nat} {cs : List Value} {t : TypeId} {fr : Nat × Nat} (h : w.heap[b]? = some (.cells cs.toArray t fr)) : RowAt w b 0 cs :=
  RowAt.of_block h 0 fun j u hj => by simpa using hj

/-- a part of a block: 'pre', then the part -/
theorem RowAt.part {w : World} {b : Nat} {pre cs post : List Value} {t : TypeId} {fr : Nat × Nat} (h : w.heap[b]? = some (.cells (pre ++ cs ++ post).toArray t fr)) : RowAt w b pre.length cs :=
  RowAt.of_block h _ fun j u hj => by
    have hlt := (List.getElem?_eq_some_iff.1 hj).1
    rw [List.getElem?_toArray, List.getElem?_append_left (by simp; omega), List.getElem?_append_right (by omega)]
    simpa using hj

theorem RowAt.mono {w w' : World} {b o : Nat} {cs : List Value} (h : RowAt w b o cs) (hb : w'.heap[b]? = w.heap[b]?) : RowAt w' b o cs := fun j u hj => by
  rw [World.cell?_of_block (w := w) (a := ⟨b, o + j, none⟩) hb]; exact h j u hj

theorem RowAt.sub {w : World} {b o : Nat} {pre cs post : List Value} (h : RowAt w b o (pre ++ cs ++ post)) : RowAt w b (o + pre.length) cs := fun j u hj => by
  have hlt := (List.getElem?_eq_some_iff.1 hj).1
  have := h (pre.length + j) u (by rw [List.getElem?_append_left (by simp; omega), List.getElem?_append_right (by omega)]; simpa using hj)
  rw [Nat.add_assoc]; exact this

theorem RowAt.below {B : Nat} {w w' : World} {b o : Nat} {cs : List Value} (h : RowAt w b o cs) (hb : Below B w w') (hlt : b < B) : RowAt w' b o cs := h.mono (hb.block b hlt)

theorem RowAt.drew {w : World} {b o : Nat} {cs : List Value} (h : RowAt w b o cs) : RowAt w.drew b o cs := h
theorem RowAt.drewN {w : World} {b o n : Nat} {cs : List Value} (h : RowAt w b o cs) : RowAt (w.drewN n) b o cs := by
  induction n generalizing w with
  | zero => exact h
  | succ n ih => exact ih h.drew
theorem RowAt.alloc {w : World} {b o : Nat} {cs : List Value} (h : RowAt w b o cs) (B : Obj) : RowAt (w.alloc B) b o cs := fun j u hj => by
  have := h j u hj
  rw [World.cell?_alloc_lt _ _ _ (World.block_lt_of_cell? w _ this)]; exact this
theorem RowAt.new {w : World} {c : Array Value} {t : TypeId} {o : Nat} {cs : List Value} (h : (c.toList.drop o).take cs.length = cs) : RowAt (w.alloc (.cells c t)) w.heap.size o cs := fun j u hj => by
  rw [World.cell?_alloc_new, ← Array.getElem?_toList, ← List.getElem?_drop]
  rw [← h, List.getElem?_take] at hj
  split at hj
  · exact hj
  · cases hj
theorem RowAt.new1 {w : World} {c : Array Value} {t : TypeId} {o : Nat} {cs : List Value} {B : Obj} (h : (c.toList.drop o).take cs.length = cs) : RowAt ((w.alloc B).alloc (.cells c t)) (w.heap.size + 1) o cs := by
  have := RowAt.new (w := w.alloc B) (t := t) h
  rwa [World.size_alloc] at this
theorem RowAt.new2 {w : World} {c : Array Value} {t : TypeId} {o : Nat} {cs : List Value} {B C : Obj} (h : (c.toList.drop o).take cs.length = cs) : RowAt (((w.alloc B).alloc C).alloc (.cells c t)) (w.heap.size + 1 + 1) o cs := by
  have := RowAt.new1 (w := w.alloc B) (t := t) (B := C) h
  rwa [World.size_alloc] at this

def aggB (P : Program) (ty : TypeId) (n : Nat) : Bool :=
  (match P.underlying ty with | some (.struct _) | some (.array _ _) => true | _ => false) && ((P.info? ty).map (·.size) == some n)

section
variable {P : Program}

theorem run_load_agg {w : World} {ty : TypeId} {b o n : Nat} {cs : List Value} (ht : aggB P ty n = true) (hl : cs.length = n) (h : RowAt w b o cs) :
    (Instr.loadAt ty (.pointer (some ⟨b, o, none⟩))).run P w = .ok (.agg cs.toArray) w := by
  unfold aggB at ht
  simp only [Bool.and_eq_true, beq_iff_eq] at ht
  obtain ⟨hd, hi⟩ := ht
  have hc := run_loadCells_list (P := P) w ⟨b, o, none⟩ cs (fun j v hj => by rw [Addr.add_lit]; exact h j v hj)
  cases hu : P.underlying ty with
  | none => simp [hu] at hd
  | some d =>
    cases hq : P.info? ty with
    | none => simp [hq] at hi
    | some i =>
      have hs : i.size = cs.length := by simp [hq] at hi; omega
      have hagg : (isAgg ty).run P w = .ok true w := by
        unfold isAgg
        rw [Sem.run_bind, run_underlying hu w]
        cases d <;> simp_all
      simp [Instr.loadAt, Instr.sureAddr, loadVar, Sem.run_bind, hagg, sizeOf, typeInfo, hq, hs, hc]

theorem op_load_agg {o : Oper} {a : Act} {w : World} {K : Act → World → Prop} {Q : Exit → Act → World → Prop} {ty : TypeId} {x : Operand} (ho : o.op = .load ty x)
    {b off n : Nat} {cs : List Value} (hx : a.eval x = .pointer (some ⟨b, off, none⟩)) (ht : aggB P ty n = true) (hl : cs.length = n) (hr : RowAt w b off cs)
    (h : K (a.put o.dst (.agg cs.toArray)) w) : o.wp P a w K Q := by
  unfold Oper.wp execOp
  simp only [ho, hx, Sem.run_bind, run_load_agg ht hl hr, Result.andThen_ok, Sem.run_pure]
  exact h

theorem wpl_load_agg {ops : Array Oper} {rest : List Oper} {o : Oper} {a : Act} {w : World} {Q : Exit → Act → World → Prop} (hgd : o.guard = none) {ty : TypeId} {x : Operand} (ho : o.op = .load ty x)
    {b off n : Nat} {cs : List Value} (hx : a.eval x = .pointer (some ⟨b, off, none⟩)) (ht : aggB P ty n = true) (hl : cs.length = n) (hr : RowAt w b off cs)
    (h : wpList P ops Q rest (a.put o.dst (.agg cs.toArray)) w) : wpList P ops Q (o :: rest) a w :=
  wpList_plain hgd fun _ hK => op_load_agg ho hx ht hl hr (hK _ _ h)

/-- the same behind a guard that says yes -/
theorem wpl_load_agg_g {ops : Array Oper} {rest : List Oper} {o : Oper} {a : Act} {w : World} {Q : Exit → Act → World → Prop} (hgd : Region.wanted o (yielded ops a.tmps) = true) {ty : TypeId} {x : Operand} (ho : o.op = .load ty x)
    {b off n : Nat} {cs : List Value} (hx : a.eval x = .pointer (some ⟨b, off, none⟩)) (ht : aggB P ty n = true) (hl : cs.length = n) (hr : RowAt w b off cs)
    (h : wpList P ops Q rest (a.put o.dst (.agg cs.toArray)) w) : wpList P ops Q (o :: rest) a w :=
  wpList_step fun _ hK => by rw [if_pos hgd]; exact op_load_agg ho hx ht hl hr (hK _ _ h)

/-- guards: the operation ahead is a load | store | build | call of this very kind -/
theorem at_load {ops : Array Oper} {rest : List Oper} {o : Oper} {a : Act} {w : World} {Q : Exit → Act → World → Prop} (ty : TypeId) {x : Operand} (_ : o.op = .load ty x) (h : wpList P ops Q (o :: rest) a w) : wpList P ops Q (o :: rest) a w := h
theorem at_store {ops : Array Oper} {rest : List Oper} {o : Oper} {a : Act} {w : World} {Q : Exit → Act → World → Prop} (ty : TypeId) {x y : Operand} (_ : o.op = .store ty x y) (h : wpList P ops Q (o :: rest) a w) : wpList P ops Q (o :: rest) a w := h
theorem at_build {ops : Array Oper} {rest : List Oper} {o : Oper} {a : Act} {w : World} {Q : Exit → Act → World → Prop} (ty : TypeId) {x : Array (Nat × Operand)} (_ : o.op = .build ty x) (h : wpList P ops Q (o :: rest) a w) : wpList P ops Q (o :: rest) a w := h
theorem at_buildSlice {ops : Array Oper} {rest : List Oper} {o : Oper} {a : Act} {w : World} {Q : Exit → Act → World → Prop} (ty : TypeId) {n : Nat} {x : Array (Nat × Operand)} (_ : o.op = .buildSlice ty n x) (h : wpList P ops Q (o :: rest) a w) : wpList P ops Q (o :: rest) a w := h

/-- whatever operation, by its run -/
theorem op_run {o : Oper} {a : Act} {w w' : World} {v : Value} {K : Act → World → Prop} {Q : Exit → Act → World → Prop} (hr : (execOp a.eval o).run P w = .ok (.value v) w')
    (h : K (a.put o.dst v) w') : o.wp P a w K Q := by
  unfold Oper.wp; rw [hr]; exact h


/-- a call of a function without a body, by its run -/
theorem wpl_extern {ops : Array Oper} {rest : List Oper} {o : Oper} {a : Act} {w w' : World} {Q : Exit → Act → World → Prop} (hgd : o.guard = none) {f : FuncId} {xs : Array Operand} {ts : Array TypeId}
    (ho : o.op = .call { callee := .value (.func f), args := xs, argTypes := ts }) {vs : Array Value} {v : Value} (hr : (callFunc f vs).run P w = .ok (.value v) w') (hv : xs.map a.eval = vs)
    (h : wpList P ops Q rest (a.put o.dst v) w') : wpList P ops Q (o :: rest) a w :=
  wpList_plain hgd fun _ hK => by
    refine op_run (v := v) (w' := w') ?_ (hK _ _ h)
    unfold execOp
    simp only [ho, resolve, Act.eval, Deferred.ofValue, Sem.run_bind, Sem.run_pure, Result.andThen_ok, invoke, Array.empty_append, Array.append_empty]
    rw [hv]
    exact hr

theorem at_bi {ops : Array Oper} {rest : List Oper} {o : Oper} {a : Act} {w : World} {Q : Exit → Act → World → Prop} (b : Builtin) {xs : Array Operand} {ts : Array TypeId} (_ : o.op = .call { callee := .builtin b, args := xs, argTypes := ts }) (h : wpList P ops Q (o :: rest) a w) : wpList P ops Q (o :: rest) a w := h
theorem run_max3 (ts : Array TypeId) (t : TypeId) (k : IntKind) (x y z : Int) (w : World) : (Builtin.max_ ts t #[.int k x, .int k y, .int k z]).run P w = .ok (.int k (max (max x y) z)) w := by
  simp only [Builtin.max_, List.foldlM_cons, List.foldlM_nil, Builtin.max2, Sem.run_bind, Sem.run_pure, Result.andThen_ok]
  have e1 : (if y > x then y else x) = max x y := by split <;> omega
  rw [e1]
  have e2 : (if z > max x y then z else max x y) = max (max x y) z := by split <;> omega
  rw [e2]
/-- max and min of two whole numbers, in one way -/
theorem wpl_max2 {ops : Array Oper} {rest : List Oper} {o : Oper} {a : Act} {w : World} {Q : Exit → Act → World → Prop} (hgd : o.guard = none) {x y : Operand} {ts : Array TypeId}
    (ho : o.op = .call { callee := .builtin .max, args := #[x, y], argTypes := ts }) {k : IntKind} {m n : Int} (hx : a.eval x = .int k m) (hy : a.eval y = .int k n)
    (h : wpList P ops Q rest (a.put o.dst (.int k (max m n))) w) : wpList P ops Q (o :: rest) a w :=
  wpList_plain hgd fun _ hK => by
    refine op_run (v := .int k (max m n)) (w' := w) ?_ (hK _ _ h)
    unfold execOp
    simp only [ho, resolve, Sem.run_bind, Sem.run_pure, Result.andThen_ok, invoke, builtin, List.map_toArray, List.map_cons, List.map_nil, hx, hy, Builtin.max_, List.foldlM_cons, List.foldlM_nil, Builtin.max2]
    have : (if n > m then n else m) = max m n := by split <;> omega
    rw [this]
theorem wpl_min2 {ops : Array Oper} {rest : List Oper} {o : Oper} {a : Act} {w : World} {Q : Exit → Act → World → Prop} (hgd : o.guard = none) {x y : Operand} {ts : Array TypeId}
    (ho : o.op = .call { callee := .builtin .min, args := #[x, y], argTypes := ts }) {k : IntKind} {m n : Int} (hx : a.eval x = .int k m) (hy : a.eval y = .int k n)
    (h : wpList P ops Q rest (a.put o.dst (.int k (min m n))) w) : wpList P ops Q (o :: rest) a w :=
  wpList_plain hgd fun _ hK => by
    refine op_run (v := .int k (min m n)) (w' := w) ?_ (hK _ _ h)
    unfold execOp
    simp only [ho, resolve, Sem.run_bind, Sem.run_pure, Result.andThen_ok, invoke, builtin, List.map_toArray, List.map_cons, List.map_nil, hx, hy, Builtin.min_, List.foldlM_cons, List.foldlM_nil, Builtin.min2]
    have : (if n < m then n else m) = min m n := by split <;> omega
    rw [this]

theorem at_alloc {ops : Array Oper} {rest : List Oper} {o : Oper} {a : Act} {w : World} {Q : Exit → Act → World → Prop} (ty : TypeId) (_ : o.op = .alloc ty) (h : wpList P ops Q (o :: rest) a w) : wpList P ops Q (o :: rest) a w := h

def zeroB (P : Program) (ty : TypeId) (n : Nat) : Bool :=
  match P.info? ty with
  | some i => match i.zero with
    | some z => z.cells.size == n
    | none => false
  | none => false

/-- a new variable, of which only the size is kept -/
theorem wpl_alloc_any {ops : Array Oper} {rest : List Oper} {o : Oper} {a : Act} {w : World} {Q : Exit → Act → World → Prop} (hgd : o.guard = none) {ty : TypeId} (ho : o.op = .alloc ty)
    {n : Nat} (hz : zeroB P ty n = true)
    (h : ∀ cur : Array Value, cur.size = n → wpList P ops Q rest (a.put o.dst (.pointer (some ⟨w.heap.size, 0, none⟩))) (w.alloc (.cells cur ty))) : wpList P ops Q (o :: rest) a w :=
  wpList_plain hgd fun _ hK => by
    unfold zeroB at hz
    split at hz
    · rename_i i hi
      split at hz
      · rename_i z hz'
        have hr : (execOp a.eval o).run P w = .ok (.value (.pointer (some ⟨w.heap.size, 0, none⟩))) (w.alloc (.cells z.cells ty)) := by
          unfold execOp
          simp only [ho]
          simp [Instr.alloc, Sem.run_bind, zeroValue, typeInfo, hi, hz', newVar, newRow, newObj, Sem.run, Result.andThen]
        exact op_run hr (hK _ _ (h _ (by simpa using hz)))
      · cases hz
    · cases hz

theorem exec_build {ρ : Operand → Value} {o : Oper} {t : TypeId} {ps : Array (Nat × Operand)} {v : Value} {w : World} (ho : o.op = .build t ps)
    (h : (Instr.build t (ps.map fun (i, x) => (i, ρ x))).run P w = .ok v w) : (execOp ρ o).run P w = .ok (.value v) w := by
  unfold execOp
  simp only [ho, Sem.run_bind, h, Result.andThen_ok, Sem.run_pure]

theorem wpl_build {ops : Array Oper} {rest : List Oper} {o : Oper} {a : Act} {w : World} {Q : Exit → Act → World → Prop} (hgd : o.guard = none) {t : TypeId} {ps : Array (Nat × Operand)} (ho : o.op = .build t ps)
    {qs : Array (Nat × Value)} {v : Value} (hr : (Instr.build t qs).run P w = .ok v w) (hq : (ps.map fun (i, x) => (i, a.eval x)) = qs)
    (h : wpList P ops Q rest (a.put o.dst v) w) : wpList P ops Q (o :: rest) a w :=
  wpList_plain hgd fun _ hK => op_run (exec_build ho (by rw [hq]; exact hr)) (hK _ _ h)

/-- a store of a whole aggregate into a block of the call's own -/
theorem run_store_agg {w : World} {ty e : TypeId} {g o n : Nat} {cur : Array Value} {cs : List Value} (hi : (P.info? ty).map (·.size) = some n) (hl : cs.length = n)
    (hg : w.heap[g]? = some (.cells cur e (0, 0))) (hfit : o + cs.length ≤ cur.size) (h1 : ∀ v ∈ cs, v.oneCell' = true) :
    (Instr.storeAt ty (.pointer (some ⟨g, o, none⟩)) (.agg cs.toArray)).run P w = .ok () (w.setRow g (cur.toList.take o ++ cs ++ cur.toList.drop (o + cs.length)).toArray) := by
  have hst := run_storeCells_at P g o e cs 0 cur w hg (by simpa using hfit) h1
  simp only [Nat.add_zero] at hst
  cases hq : P.info? ty with
  | none => simp [hq] at hi
  | some i =>
    have hs : i.size = cs.length := by simp [hq] at hi; omega
    simp [Instr.storeAt, Instr.sureAddr, storeVar, Sem.run_bind, sizeOf, typeInfo, hq, hs, Value.cells, hst]

theorem op_store_agg {o : Oper} {a : Act} {w : World} {K : Act → World → Prop} {Q : Exit → Act → World → Prop} {ty e : TypeId} {x y : Operand} (ho : o.op = .store ty x y)
    {g off n : Nat} {cur : Array Value} {cs : List Value} (hx : a.eval x = .pointer (some ⟨g, off, none⟩)) (hy : a.eval y = .agg cs.toArray) (hi : (P.info? ty).map (·.size) = some n) (hl : cs.length = n)
    (hg : w.heap[g]? = some (.cells cur e (0, 0))) (hfit : off + cs.length ≤ cur.size) (h1 : ∀ v ∈ cs, v.oneCell' = true)
    (h : K (a.put o.dst undef) (w.setRow g (cur.toList.take off ++ cs ++ cur.toList.drop (off + cs.length)).toArray)) : o.wp P a w K Q := by
  unfold Oper.wp execOp
  simp only [ho, hx, hy, Sem.run_bind, run_store_agg hi hl hg hfit h1, Result.andThen_ok, Sem.run_pure]
  exact h

/-- a whole variable that was laid last -/
theorem setRow_alloc_last (w : World) (c cs : Array Value) (t : TypeId) : (w.alloc (.cells c t)).setRow w.heap.size cs = w.alloc (.cells cs t) := by
  simp only [World.setRow, World.alloc]
  congr 1
  apply Array.ext_getElem?
  intro i
  simp only [Array.getElem?_modify, Array.getElem?_push]
  by_cases h : w.heap.size = i
  · subst h; simp
  · rw [if_neg h]
    by_cases h2 : i = w.heap.size
    · exact absurd h2.symm h
    · simp [h2]

theorem wpl_store_new {ops : Array Oper} {rest : List Oper} {o : Oper} {a : Act} {w : World} {Q : Exit → Act → World → Prop} (hgd : o.guard = none) (hdst : o.dst = none) {ty e : TypeId} {x y : Operand} (ho : o.op = .store ty x y)
    {n g : Nat} {cur : Array Value} {cs : List Value} (hx : a.eval x = .pointer (some ⟨g, 0, none⟩)) (hgs : g = w.heap.size) (hy : a.eval y = .agg cs.toArray) (hi : (P.info? ty).map (·.size) = some n) (hl : cs.length = n)
    (hfit : cur.size = n) (h1 : cs.all Value.oneCell' = true)
    (h : wpList P ops Q rest a (w.alloc (.cells cs.toArray e))) : wpList P ops Q (o :: rest) a (w.alloc (.cells cur e)) :=
  wpList_plain hgd fun _ hK => by
    subst hgs
    refine op_store_agg ho hx hy hi hl (heap_alloc_new w _) (by omega) (by simpa using h1) ?_
    rw [hdst, setRow_alloc_last]
    have e1 : (cur.toList.take 0 ++ cs ++ cur.toList.drop (0 + cs.length)).toArray = cs.toArray := by
      rw [List.take_zero, List.nil_append, List.drop_of_length_le (by simp; omega), List.append_nil]
    rw [e1]
    exact hK _ _ h

end
section
variable {P : Program}
theorem run_loadVar_agg {w : World} {ty : TypeId} {b o n : Nat} {cs : List Value} (ht : aggB P ty n = true) (hl : cs.length = n) (h : RowAt w b o cs) :
    (loadVar ty ⟨b, o, none⟩).run P w = .ok (.agg cs.toArray) w := by
  have := run_load_agg ht hl h
  simpa [Instr.loadAt, Instr.sureAddr] using this

/-- the end of a function that hands back a struct -/
theorem ret_agg {fn : Func} {R : Ending → World → Prop} {a : Act} {w : World} {p ty : Nat} {g n : Nat} {cs : List Value} (h : fn.results = #[.cell p ty]) (hd : a.defers = [])
    (hp : a.tmps.getD p undef = .pointer (some ⟨g, 0, none⟩)) (ht : aggB P ty n = true) (hl : cs.length = n) (hr : RowAt w g 0 cs) (hR : R (.returned (.agg cs.toArray)) w) : bodyPost P fn R .ret a w := by
  refine bodyPost_ret (v := .agg cs.toArray) ?_ hd hR
  have hp' : a.tmps[p]?.getD undef = .pointer (some ⟨g, 0, none⟩) := by simpa using hp
  simp [results, h, hp', asAddr, run_loadVar_agg ht hl hr]

theorem ret_agg2 {fn : Func} {R : Ending → World → Prop} {a : Act} {w : World} {p ty u : Nat} {g n : Nat} {cs : List Value} {v : Value} (h : fn.results = #[.cell p ty, .tmp u]) (hd : a.defers = [])
    (hp : a.tmps.getD p undef = .pointer (some ⟨g, 0, none⟩)) (hu : a.tmps.getD u undef = v) (ht : aggB P ty n = true) (hl : cs.length = n) (hr : RowAt w g 0 cs)
    (hR : R (.returned (.tuple #[.agg cs.toArray, v])) w) : bodyPost P fn R .ret a w := by
  refine bodyPost_ret (v := .tuple #[.agg cs.toArray, v]) ?_ hd hR
  have hp' : a.tmps[p]?.getD undef = .pointer (some ⟨g, 0, none⟩) := by simpa using hp
  have hu' : a.tmps[u]?.getD undef = v := by simpa using hu
  simp [results, h, hp', hu', asAddr, run_loadVar_agg ht hl hr]

theorem ret_agg3 {fn : Func} {R : Ending → World → Prop} {a : Act} {w : World} {p ty u t : Nat} {g n : Nat} {cs : List Value} {v v2 : Value} (h : fn.results = #[.cell p ty, .tmp u, .tmp t]) (hd : a.defers = [])
    (hp : a.tmps.getD p undef = .pointer (some ⟨g, 0, none⟩)) (hu : a.tmps.getD u undef = v) (ht2 : a.tmps.getD t undef = v2) (ht : aggB P ty n = true) (hl : cs.length = n) (hr : RowAt w g 0 cs)
    (hR : R (.returned (.tuple #[.agg cs.toArray, v, v2])) w) : bodyPost P fn R .ret a w := by
  refine bodyPost_ret (v := .tuple #[.agg cs.toArray, v, v2]) ?_ hd hR
  have hp' : a.tmps[p]?.getD undef = .pointer (some ⟨g, 0, none⟩) := by simpa using hp
  have hu' : a.tmps[u]?.getD undef = v := by simpa using hu
  have ht' : a.tmps[t]?.getD undef = v2 := by simpa using ht2
  simp [results, h, hp', hu', ht', asAddr, run_loadVar_agg ht hl hr]
end

section
variable {P : Program}
theorem wpl_store_own {ops : Array Oper} {rest : List Oper} {o : Oper} {a : Act} {w : World} {Q : Exit → Act → World → Prop} (hgd : o.guard = none) (hdst : o.dst = none) {ty e : TypeId} {x y : Operand} (ho : o.op = .store ty x y)
    {n g : Nat} {cur : Array Value} {cs : List Value} (hx : a.eval x = .pointer (some ⟨g, 0, none⟩)) (hy : a.eval y = .agg cs.toArray) (hi : (P.info? ty).map (·.size) = some n) (hl : cs.length = n)
    (hg : w.heap[g]? = some (.cells cur e (0, 0))) (hfit : cur.size = n) (h1 : cs.all Value.oneCell' = true)
    (h : wpList P ops Q rest a (w.setRow g cs.toArray)) : wpList P ops Q (o :: rest) a w :=
  wpList_plain hgd fun _ hK => by
    refine op_store_agg ho hx hy hi hl hg (by omega) (by simpa using h1) ?_
    rw [hdst]
    have e1 : (cur.toList.take 0 ++ cs ++ cur.toList.drop (0 + cs.length)).toArray = cs.toArray := by
      rw [List.take_zero, List.nil_append, List.drop_of_length_le (by simp; omega), List.append_nil]
    rw [e1]
    exact hK _ _ h
theorem RowAt.setRow {w : World} {g : Nat} {old : Array Value} {t : TypeId} {fr : Nat × Nat} {cs : List Value} (hg : w.heap[g]? = some (.cells old t fr)) : RowAt (w.setRow g cs.toArray) g 0 cs :=
  RowAt.whole (setRow_heap w g old cs.toArray t fr hg)
theorem RowAt.setRow_other {w : World} {g b o : Nat} {c : Array Value} {cs : List Value} (h : RowAt w b o cs) (hne : b ≠ g) : RowAt (w.setRow g c) b o cs :=
  h.mono (_root_.Go.setRow_other w g b c hne)
theorem below_dN {B : Nat} {a w : World} (h : Below B a w) (n : Nat) : Below B a (w.drewN n) := ⟨h.os, h.tape, h.output, h.size, h.block⟩
theorem below_setRow {B : Nat} {a w : World} (h : Below B a w) {g : Nat} (hg : B ≤ g) (cs : Array Value) : Below B a (w.setRow g cs) :=
  h.trans ⟨rfl, rfl, rfl, by simp, fun k hk => _root_.Go.setRow_other w g k cs (by omega)⟩
end

theorem flat_length {α : Type} {enc : α → List Value} {s : Nat} (hlen : ∀ x, (enc x).length = s) : ∀ l : List α, (l.flatMap enc).length = l.length * s
  | [] => by simp
  | x :: l => by
    rw [List.flatMap_cons, List.length_append, hlen, flat_length hlen l, List.length_cons, Nat.add_mul]
    omega
theorem RowAt.elem {α : Type} {enc : α → List Value} {s : Nat} (hlen : ∀ x, (enc x).length = s) {w : World} {b o : Nat} {l : List α} (h : RowAt w b o (l.flatMap enc)) {i : Nat} (hi : i < l.length) : RowAt w b (o + i * s) (enc l[i]) := by
  have e : l.flatMap enc = (l.take i).flatMap enc ++ enc l[i] ++ (l.drop (i + 1)).flatMap enc := by
    conv => lhs; rw [← List.take_append_drop i l, List.drop_eq_getElem_cons hi]
    rw [List.flatMap_append, List.flatMap_cons, List.append_assoc]
  rw [e] at h
  have := RowAt.sub h
  rwa [flat_length hlen, List.length_take, Nat.min_eq_left (by omega)] at this
theorem RowAt.subK {w : World} {b o k : Nat} {xs cs : List Value} (h : RowAt w b o xs) (hk : (xs.drop k).take cs.length = cs) : RowAt w b (o + k) cs := fun j u hj => by
  rw [← hk, List.getElem?_take] at hj
  split at hj
  · rw [List.getElem?_drop] at hj
    rw [Nat.add_assoc]
    exact h _ _ hj
  · cases hj
section
variable {P : Program}
theorem exec_load_agg {ρ : Operand → Value} {o : Oper} {w : World} {ty : TypeId} {x : Operand} (ho : o.op = .load ty x)
    {b off n : Nat} {cs : List Value} (hx : ρ x = .pointer (some ⟨b, off, none⟩)) (ht : aggB P ty n = true) (hl : cs.length = n) (hr : RowAt w b off cs) :
    (execOp ρ o).run P w = .ok (.value (.agg cs.toArray)) w := by
  unfold execOp
  simp only [ho, hx, Sem.run_bind, run_load_agg ht hl hr, Result.andThen_ok, Sem.run_pure]

/-- a slice's type, its element's type and size -/
def sliceB (P : Program) (t e : TypeId) (n : Nat) : Bool :=
  (match P.underlying t with | some (.slice e') => e' == e | _ => false) && zeroB P e n && ((P.info? e).map (·.size) == some n)

theorem sliceB_spec {t e : TypeId} {n : Nat} (h : sliceB P t e n = true) : P.underlying t = some (.slice e) ∧ ∃ i z, P.info? e = some i ∧ i.zero = some z ∧ z.cells.size = n ∧ i.size = n := by
  unfold sliceB at h
  simp only [Bool.and_eq_true, beq_iff_eq] at h
  obtain ⟨⟨h1, h2⟩, h3⟩ := h
  split at h1
  · rename_i e' he
    simp only [beq_iff_eq] at h1
    subst h1
    refine ⟨he, ?_⟩
    unfold zeroB at h2
    split at h2
    · rename_i i hi
      split at h2
      · rename_i z hz
        rw [hi] at h3
        exact ⟨i, z, hi, hz, by simpa using h2, by simpa using h3⟩
      · cases h2
    · cases h2
  · cases h1

theorem foldl_set_nat (cs : List Value) : ∀ (k : Nat) (cur : Array Value), k + cs.length ≤ cur.size →
    ((cs.zipIdx k).foldl (fun (a : Array Value) (p : Value × Nat) => a.setIfInBounds (0 + p.2) p.1) cur).toList = cur.toList.take k ++ cs ++ cur.toList.drop (k + cs.length) := by
  induction cs with
  | nil => intro k cur _; simp
  | cons c cs ih =>
    intro k cur h
    simp only [List.length_cons] at h
    simp only [List.zipIdx_cons, List.foldl_cons]
    rw [ih (k + 1) _ (by simp; omega)]
    simp only [Nat.zero_add, Array.toList_setIfInBounds, List.length_cons]
    rw [List.take_set, List.drop_set]
    have hk : k < cur.toList.length := by simp; omega
    have e1 : (cur.toList.take (k + 1)).set k c = cur.toList.take k ++ [c] := by
      rw [List.take_succ_eq_append_getElem hk, List.set_append]
      simp
      rw [if_neg (by omega)]
      have : k - min k cur.size = 0 := by have : k < cur.size := by simpa using hk
                                          omega
      rw [this]
      rfl
    rw [e1]
    rw [if_pos (by omega)]
    rw [show k + 1 + cs.length = k + (cs.length + 1) by omega]
    simp only [List.append_assoc, List.singleton_append, List.cons_append, List.nil_append]

theorem run_buildSlice_one {t e : TypeId} {n : Nat} (h : sliceB P t e n = true) (hn : n ≤ 16777216) (hn0 : 0 < n) {cs : List Value} (hl : cs.length = n) (w : World) :
    (Instr.buildSlice t 1 #[(0, .agg cs.toArray)]).run P w = .ok (.slice (some ⟨w.heap.size, 0, none⟩) 1 1) (w.alloc (.cells cs.toArray e)) := by
  obtain ⟨hu, i, z, hi, hz, hzs, his⟩ := sliceB_spec h
  have hfill : ∀ cur : Array Value, cur.size = n → Instr.fill (fun j => some (j * n, n)) cur [(0, Value.agg cs.toArray)] = some cs.toArray := by
    intro cur hc
    unfold Instr.fill
    simp only [Nat.zero_mul, Value.cells, List.size_toArray]
    rw [if_neg (by simp; omega)]
    unfold Instr.fill
    congr 1
    apply Array.ext'
    have := foldl_set_nat cs 0 cur (by omega)
    rw [← Array.foldl_toList]
    simp only [Array.toList_zipIdx]
    refine this.trans ?_
    rw [List.take_zero, List.nil_append, List.drop_of_length_le (by simp; omega), List.append_nil]
  have h1 : ¬ (1 * n > 2 ^ 24) := by omega
  have h2 : ¬ (1 * n = 0) := by omega
  have hsz : ((Array.range (1 * n)).map (z.cells[· % z.cells.size]!)).size = n := by simp
  have hf := hfill _ hsz
  simp only [Instr.buildSlice, Sem.run_bind, run_underlying hu, Result.andThen_ok, sizeOf, typeInfo, run_program, hi, his, Sem.run_pure, if_neg h1, if_neg h2, zeroValue, hz, hf, newRow, newObj, Sem.run]
  rfl
theorem exec_buildSlice_one {ρ : Operand → Value} {o : Oper} {t e : TypeId} {n : Nat} {x : Operand} (ho : o.op = .buildSlice t 1 #[(0, x)]) {cs : List Value} (hx : ρ x = .agg cs.toArray) (h : sliceB P t e n = true) (hn : n ≤ 16777216) (hn0 : 0 < n) (hl : cs.length = n) (w : World) :
    (execOp ρ o).run P w = .ok (.value (.slice (some ⟨w.heap.size, 0, none⟩) 1 1)) (w.alloc (.cells cs.toArray e)) := by
  unfold execOp
  simp only [ho, List.map_toArray, List.map_cons, List.map_nil, hx, Sem.run_bind, run_buildSlice_one h hn hn0 hl w, Result.andThen_ok, Sem.run_pure]

theorem wpl_buildSlice_one {ops : Array Oper} {rest : List Oper} {o : Oper} {a : Act} {w : World} {Q : Exit → Act → World → Prop} (hgd : o.guard = none) {t e : TypeId} {n : Nat} {x : Operand} (ho : o.op = .buildSlice t 1 #[(0, x)])
    {cs : List Value} (hx : a.eval x = .agg cs.toArray) (h : sliceB P t e n = true) (hn : n ≤ 16777216) (hn0 : 0 < n) (hl : cs.length = n)
    (hk : wpList P ops Q rest (a.put o.dst (.slice (some ⟨w.heap.size, 0, none⟩) 1 1)) (w.alloc (.cells cs.toArray e))) : wpList P ops Q (o :: rest) a w :=
  wpList_plain hgd fun _ hK => op_run (exec_buildSlice_one ho hx h hn hn0 hl w) (hK _ _ hk)

theorem run_makeSlice_some {t e : TypeId} {n l : Nat} (h : sliceB P t e n = true) {by_ : Nat} (hby : (P.info? e).map (·.bytes) = some by_) (hl : by_ * l ≤ 140737488355328) (hl2 : l ≤ 1000000000) (hz0 : l * n ≠ 0) (w : World) :
    ∃ cur : Array Value, cur.size = l * n ∧ (Instr.makeSlice t (.int .i64 l) (.int .i64 l)).run P w = .ok (.slice (some ⟨w.heap.size, 0, none⟩) l l) (w.alloc (.cells cur e)) := by
  obtain ⟨hu, i, z, hi, hz, hzs, his⟩ := sliceB_spec h
  have hbi : i.bytes = by_ := by rw [hi] at hby; simpa using hby
  have hw : IntKind.i64.wrap ((l : Nat) : Int) = l := by rw [IntKind.wrap_i64]; omega
  have h0 : ((i.bytes : Int) * (l : Int)) = ((by_ * l : Nat) : Int) := by rw [hbi, Int.natCast_mul]
  have h1 : (decide ((l : Int) < 0) || decide ((i.bytes : Int) * (l : Int) > 2 ^ 48)) = false := by
    rw [h0]; simp; omega
  have h2 : ¬ (l * i.bytes > roomBytes) := by rw [hbi, Nat.mul_comm]; unfold roomBytes; omega
  refine ⟨(Array.range (l * n)).map (z.cells[· % z.cells.size]!), by simp, ?_⟩
  have h3 : ((l : Int)).toNat = l := by omega
  have h4 : ¬ ((l : Int) < 0) := by omega
  simp only [Instr.makeSlice, Sem.run_bind, run_underlying hu, Result.andThen_ok, asInt, asIntOf, Sem.run_pure, typeInfo, run_program, hi, hw, h1, h3]
  simp [h4, askRoom, h2, sizeOf, zeroValue, typeInfo, hi, hz, his, newRow, newObj, Sem.run, run_program, hz0]
  try rfl
end
end Go.XB