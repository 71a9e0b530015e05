/- batch.twice. -/
import Derived.Test.YtjlledljancafaaV
import Derived.Test.YtjlledljancafaaTM
import Derived.Carry
set_option linter.unusedSimpArgs false
set_option linter.unusedVariables false
namespace Go.Proofs.Ytjlledljancafaa
open Go.RowKit Go.XB

open Go.ChangeMaps
theorem exec_lookup {P : Program} {ρ : Operand → Value} {o : Oper} {t : TypeId} {x y : Operand} {a b v : Value} {c : Bool} {w w' : World} (ho : o.op = .lookup t x y c) (hx : ρ x = a) (hy : ρ y = b) (hr : (Instr.lookup t a b c).run P w = .ok v w') : (execOp ρ o).run P w = .ok (.value v) w' := by
  unfold execOp
  simp only [ho, hx, hy, Sem.run_bind, hr, Result.andThen_ok, Sem.run_pure]
theorem exec_mapEntry {P : Program} {ρ : Operand → Value} {o : Oper} {t : TypeId} {x y : Operand} {a b v : Value} {w w' : World} (ho : o.op = .mapEntry t x y) (hx : ρ x = a) (hy : ρ y = b) (hr : (Instr.mapEntry t a b).run P w = .ok v w') : (execOp ρ o).run P w = .ok (.value v) w' := by
  unfold execOp
  simp only [ho, hx, hy, Sem.run_bind, hr, Result.andThen_ok, Sem.run_pure]
theorem exec_entryStore {P : Program} {ρ : Operand → Value} {o : Oper} {t : TypeId} {x y z : Operand} {a b c : Value} {w w' : World} (ho : o.op = .entryStore t x y z) (hx : ρ x = a) (hy : ρ y = b) (hz : ρ z = c) (hr : (Instr.entryStore t a b c).run P w = .ok () w') : (execOp ρ o).run P w = .ok .skip w' := by
  unfold execOp
  simp only [ho, hx, hy, hz, Sem.run_bind, hr, Result.andThen_ok, Sem.run_pure]
/-- what a round of twice may do to the map in block m -/
def MapR (m : Nat) (qs : List Pt) (p : Pt) (u v : World) : Prop := GrowR m u v ∧
  (∀ es cl, u.heap[m]? = some (.map es cl) → MapI es cl qs → (∃ es cl, v.heap[m]? = some (.map es cl) ∧ MapI es cl qs) ∨ ∃ es cl, v.heap[m]? = some (.map es cl) ∧ MapI es cl (addP qs p)) ∧
  (∀ es cl, u.heap[m]? = some (.map es cl) → MapI es cl (addP qs p) → ∃ es cl, v.heap[m]? = some (.map es cl) ∧ MapI es cl (addP qs p))
theorem MapR.refl {m : Nat} {qs : List Pt} {p : Pt} (u : World) : MapR m qs p u u := ⟨GrowR.refl u, fun es cl h1 h2 => .inl ⟨es, cl, h1, h2⟩, fun es cl h1 h2 => ⟨es, cl, h1, h2⟩⟩
theorem MapR.trans {m : Nat} {qs : List Pt} {p : Pt} (a b c : World) (h : MapR m qs p a b) (h2 : MapR m qs p b c) : MapR m qs p a c :=
  ⟨GrowR.trans _ _ _ h.1 h2.1, fun es cl h3 h4 => by
    rcases h.2.1 es cl h3 h4 with ⟨e1, c1, h5, h6⟩ | ⟨e1, c1, h5, h6⟩
    · exact h2.2.1 e1 c1 h5 h6
    · exact .inr (h2.2.2 e1 c1 h5 h6), fun es cl h3 h4 => by
    obtain ⟨e1, c1, h5, h6⟩ := h.2.2 es cl h3 h4
    exact h2.2.2 e1 c1 h5 h6⟩
def addAll : List Pt → List Pt → List Pt
  | qs, [] => qs
  | qs, p :: l => addAll (addP qs p) l
set_option maxRecDepth 100000 in
set_option maxHeartbeats 4000000 in
theorem twice_any (l : List Inp) (g n c : Nat) (h1 : n ≤ 1000) (w : World) (hl : l.length = n) (hr : RowAt w g 0 (l.flatMap encInp)) (hg : g < w.heap.size) :
    Calls Try.prog 37 #[.slice (some ⟨g, 0, none⟩) n c] w fun e w' => e = .returned (.bool (decide (((l.map (·.pt)).foldl addP []).length < n))) ∧ Below w.heap.size w w' := by
  have HL := hidI hl
  have HR := hidI (And.intro hr hg)
  clear hl hr hg
  have hmm : ∀ W : World, (Instr.makeMap 134 none).run Try.prog W = .ok (.map (some W.heap.size)) (W.alloc (.map #[] 0)) := fun W => run_makeMap (P := Try.prog) 134 W
  go_enter Try.func37, Try.ntmps37
  go_wp2
  clear hmm
  go_loopg [9] n (fun q i wr => ∃ k : Nat, k ≤ n ∧ n - k ≤ q ∧ i = .int .i64 k ∧ Hid (Below w.heap.size w wr) ∧ Hid (∃ es cl, wr.heap[w.heap.size]? = some (.map es cl) ∧ MapI es cl (((l.take k).map (·.pt)).foldl addP [])))
  case atStart => exact ⟨0, Nat.zero_le _, by omega, rfl, (Below.refl _ _).alloc (Nat.le_refl _) _, #[], 0, heap_alloc_new w _, rfl, rfl, fun i h => absurd h (by simp)⟩
  case round =>
    obtain ⟨k, hk, hgk, rfl, HB, HM⟩ := hrel
    have hzr : w.heap.size + 1 ≤ wr.heap.size := by obtain ⟨es, cl, h1, _⟩ := HM.out; have := (Array.getElem?_eq_some_iff.1 h1).1; omega
    by_cases hlt : k < n
    · have hlt2 : k < l.length := by rw [HL.out]; exact hlt
      obtain ⟨x, hx⟩ : ∃ x, x = l[k] := ⟨_, rfl⟩
      have HROW := hidI (show RowAt wr g (k * 44) (encInp x) by rw [hx]; have := (RowAt.elem encInp_length HR.out.1 hlt2).below HB.out HR.out.2; rwa [Nat.zero_add] at this)
      obtain ⟨qs, hqs⟩ : ∃ qs, qs = ((l.take k).map (·.pt)).foldl addP [] := ⟨_, rfl⟩
      have HTK := hidI (show ((l.take (k + 1)).map (·.pt)).foldl addP [] = addP qs x.pt by rw [List.take_succ_eq_append_getElem hlt2, List.map_append, List.foldl_append, ← hqs, hx]; rfl)
      rw [← hqs] at HM
      clear hx hlt2 hqs
      have hkz : (k : Int) < (n : Int) := by omega
      have hk0 : ¬ (k : Int) < 0 := by omega
      have HMI := hidI (show ∀ w1, MapR w.heap.size qs x.pt (wr.alloc (.cells (encInp x).toArray 93)).drew w1 → ∃ es cl, w1.heap[w.heap.size]? = some (.map es cl) ∧ (MapI es cl qs ∨ MapI es cl (addP qs x.pt)) from fun w1 h => by
        obtain ⟨es, cl, h1, h2⟩ := HM.out
        rcases h.2.1 es cl ((Below.heap_alloc wr _ _ (by omega)).trans h1) h2 with ⟨e1, c1, h3, h4⟩ | ⟨e1, c1, h3, h4⟩
        · exact ⟨e1, c1, h3, .inl h4⟩
        · exact ⟨e1, c1, h3, .inr h4⟩)
      have HXR := hidI (show ∀ w1, MapR w.heap.size qs x.pt (wr.alloc (.cells (encInp x).toArray 93)).drew w1 → RowAt w1 wr.heap.size 0 (encPt x.pt) from fun w1 h => h.1.row (RowAt.drew (RowAt.new (by kernel_rfl))) (by simp only [World.size_alloc, World.size_drew]; omega) (by omega))
      have HBF := hidI (show ∀ w1, MapR w.heap.size qs x.pt (wr.alloc (.cells (encInp x).toArray 93)).drew w1 → ∀ o : Obj, Below w.heap.size w (setBlock w1 w.heap.size o) from fun w1 h o => by
        have h2 : Below w.heap.size w w1 := GrowR.below ((HB.out.alloc (by omega) _).drew) (by simp only [World.size_alloc, World.size_drew]; omega) h.1 (Nat.le_refl _)
        have hz : w.heap.size ≤ w1.heap.size := h2.size
        exact GrowR.below h2 hz setBlock_grow (Nat.le_refl _))
      go_wp2_with (first
        | (with_reducible refine at_load 93 rfl ?_; refine wpl_load_agg (b := g) (cs := encInp x) rfl rfl rfl agg_inp (encInp_length x) (HROW.out) ?_; (try simp only [Act.put, List.setIfInBounds_toArray, List.set_cons_zero, List.set_cons_succ, World.size_alloc]))
        | (with_reducible refine at_alloc 93 rfl ?_; refine wpl_alloc_any rfl rfl z_inp ?_; intro ci hci; (try simp only [Act.put, List.setIfInBounds_toArray, List.set_cons_zero, List.set_cons_succ, World.size_alloc]))
        | (with_reducible refine at_store 93 rfl ?_; refine wpl_store_new (cs := encInp x) rfl rfl rfl rfl (by simp) rfl sz_inp (encInp_length _) hci rfl ?_; (try simp only [Act.put, List.setIfInBounds_toArray, List.set_cons_zero, List.set_cons_succ, World.size_alloc])))
      refine wp_region_last _ [[], [], [1], [0, 2], [3], [0, 2], [5], []] (MapR w.heap.size qs x.pt) (fun ix u v => match ix with | 5 => MapR w.heap.size qs x.pt u v | _ => u = v) (fun ix v w' => match ix with | 0 => v = .map (some w.heap.size) | 1 => v = .pointer (some ⟨wr.heap.size, 0, none⟩) | 2 => v = keyV x.pt | 3 => ∃ c : Int, v = .int .i64 c | 4 => ∃ c : Int, v = .int .i64 c | 5 => ∃ (v0 : Value) (st : Nat) (es1 : Array MapEntry) (cl1 : Nat), v = .tuple #[v0, .int .i64 (st : Int)] ∧ w'.heap[w.heap.size]? = some (.map es1 cl1) ∧ MapI es1 cl1 (addP qs x.pt) ∧ st < (addP qs x.pt).length | 6 => ∃ (st : Nat), v = .int .i64 (st : Int) ∧ ∃ (es1 : Array MapEntry) (cl1 : Nat), w'.heap[w.heap.size]? = some (.map es1 cl1) ∧ MapI es1 cl1 (addP qs x.pt) ∧ st < (addP qs x.pt).length | _ => True) 7 (by kernel_rfl) (by kernel_rfl) (by kernel_rfl) (by kernel_rfl) (by kernel_rfl) (fun vs => by simp only [putAll, Act.put, List.setIfInBounds_toArray, List.set_cons_zero, List.set_cons_succ]; rfl) MapR.refl MapR.trans ?hsr ?hse ?stab ?steps
      case hsr =>
        intro i u u' h
        match i, h with
        | 5, h => exact h
        | 0, h => cases h; exact MapR.refl _
        | 1, h => cases h; exact MapR.refl _
        | 2, h => cases h; exact MapR.refl _
        | 3, h => cases h; exact MapR.refl _
        | 4, h => cases h; exact MapR.refl _
        | n + 6, h => cases h; exact MapR.refl _
      case hse =>
        intro i u
        match i with
        | 5 => exact MapR.refl _
        | 0 => rfl
        | 1 => rfl
        | 2 => rfl
        | 3 => rfl
        | 4 => rfl
        | n + 6 => rfl
      case stab =>
        intro i j v u u' hij hi hj hp hv hs
        match i, hv with
        | 0, hv => exact hv
        | 1, hv => exact hv
        | 2, hv => exact hv
        | 3, hv => exact hv
        | 4, hv => exact hv
        | 5, hv =>
          match j, hs with
          | 0, hs => cases hs; exact hv
          | 1, hs => cases hs; exact hv
          | 2, hs => cases hs; exact hv
          | 3, hs => cases hs; exact hv
          | 4, hs => cases hs; exact hv
          | 5, hs => exact absurd rfl hij
          | 6, hs => cases hs; exact hv
          | n + 7, hs => cases hs; exact hv
        | 6, hv =>
          match j, hs, hp with
          | 0, hs, _ => cases hs; exact hv
          | 1, hs, _ => cases hs; exact hv
          | 2, hs, _ => cases hs; exact hv
          | 3, hs, _ => cases hs; exact hv
          | 4, hs, _ => cases hs; exact hv
          | 5, hs, hp => exact absurd (show false = true from hp.symm.trans (by kernel_rfl)) (by decide)
          | 6, hs, _ => exact absurd rfl hij
          | n + 7, hs, _ => cases hs; exact hv
        | n + 7, hv => omega
      case steps =>
        simp only [StepAllP, List.headD, List.tail, AllV]
        refine ⟨⟨fun _ => ?_, fun h => absurd h (by decide)⟩, ⟨fun _ => ?_, fun h => absurd h (by decide)⟩, ⟨fun _ => ?_, fun h => absurd h (by decide)⟩, ⟨fun _ => ?_, fun h => absurd h (by decide)⟩, ⟨fun _ => ?_, fun h => absurd h (by decide)⟩, ⟨fun _ => ?_, fun h => absurd h (by decide)⟩, ⟨fun _ => ?_, fun h => absurd h (by decide)⟩, ⟨fun h => absurd rfl h, fun _ => ?_⟩, trivial⟩
        · intro vs w1 hR hp
          refine step_value (v := .map (some w.heap.size)) (by simp [go_sem]) (by rfl) rfl rfl
        · intro vs w1 hR hp
          refine step_value (v := .pointer (some ⟨wr.heap.size, 0, none⟩)) (by simp [go_sem]) (by rfl) rfl rfl
        · intro vs w1 hR hp; obtain ⟨p1, _⟩ := hp
          refine step_value (exec_load_agg (b := wr.heap.size) (off := 0) rfl (by simp [go_sem, p1]) agg_pt (encPt_length x.pt) (HXR.out w1 hR)) (by rfl) rfl rfl
        · intro vs w1 hR hp; obtain ⟨p0, p2, _⟩ := hp
          obtain ⟨esn, cln, hbn, hcase⟩ := HMI.out w1 hR
          rcases hcase with hI | hI
          all_goals
            obtain ⟨c, hrun⟩ := map_lookup hbn hI x.pt
            exact step_value (v := .int .i64 c) (exec_lookup rfl (by simp [go_sem, p0]) (by simp [go_sem, p2]) hrun) (by rfl) rfl ⟨c, rfl⟩
        · intro vs w1 hR hp; obtain ⟨p3, _⟩ := hp
          obtain ⟨c, e3⟩ := p3
          exact step_value (v := .int .i64 (IntKind.i64.wrap (c + 1))) (by simp [go_sem, e3]) (by rfl) rfl ⟨_, rfl⟩
        · intro vs w1 hR hp; obtain ⟨p0, p2, _⟩ := hp
          obtain ⟨esn, cln, hbn, hcase⟩ := HMI.out w1 hR
          rcases hcase with hI | hI
          · obtain ⟨v0, st, es1, cl1, hrun, h1, h2⟩ := map_entry hbn hI x.pt
            refine step_value (v := .tuple #[v0, .int .i64 (st : Int)]) (exec_mapEntry rfl (by simp [go_sem, p0]) (by simp [go_sem, p2]) hrun) (by rfl) ⟨setBlock_grow, fun _ _ _ _ => .inr ⟨_, _, setBlock_new hbn, h1⟩, fun _ _ _ _ => ⟨_, _, setBlock_new hbn, h1⟩⟩ ⟨v0, st, es1, cl1, rfl, setBlock_new hbn, h1, h2⟩
          · obtain ⟨v0, st, es1, cl1, hrun, h1, h2⟩ := map_entry hbn hI x.pt
            rw [addP_twice] at h1 h2
            refine step_value (v := .tuple #[v0, .int .i64 (st : Int)]) (exec_mapEntry rfl (by simp [go_sem, p0]) (by simp [go_sem, p2]) hrun) (by rfl) ⟨setBlock_grow, fun _ _ _ _ => .inr ⟨_, _, setBlock_new hbn, h1⟩, fun _ _ _ _ => ⟨_, _, setBlock_new hbn, h1⟩⟩ ⟨v0, st, es1, cl1, rfl, setBlock_new hbn, h1, h2⟩
        · intro vs w1 hR hp; obtain ⟨p5, _⟩ := hp
          obtain ⟨v0, st, es1, cl1, e5, h1, h2, h3⟩ := p5
          exact step_value (v := .int .i64 (st : Int)) (by simp [go_sem, e5]) (by rfl) rfl ⟨st, rfl, es1, cl1, h1, h2, h3⟩
        · simp only [List.range_succ, List.range_zero, List.nil_append, List.cons_append, AllV]
          intro vs w1 hR hp
          obtain ⟨p0, p1, p2, p3, p4, p5, p6, _⟩ := hp
          obtain ⟨st, e6, es1, cl1, hb6, h6, hs6⟩ := p6
          obtain ⟨v0, st', es0, cl0, e5, _⟩ := p5
          obtain ⟨c3, e3⟩ := p3
          obtain ⟨c4, e4⟩ := p4
          obtain ⟨es2, hrun, h7⟩ := map_store hb6 h6 hs6 c4
          refine last_skip rfl (exec_entryStore rfl (by simp [go_sem, p0]) (by simp [go_sem, e6]) (by simp [go_sem, e4]) hrun) (by rfl) ?_
          simp only [p0, p1, p2, e3, e4, e5, e6]
          have HNW := hidI (And.intro (setBlock_new hb6 (o' := .map es2 cl1)) h7)
          have HBN := hidI (HBF.out w1 hR (.map es2 cl1))
          clear hR
          go_wp2
          go_roundg (n - (k + 1))
          case measure => omega
          case rel => exact ⟨k + 1, by omega, by omega, by go_num, hidI HBN.out, hidI ⟨es2, cl1, HNW.out.1, by rw [HTK.out]; exact HNW.out.2⟩⟩

    · have hke : k = n := by omega
      subst hke
      obtain ⟨es, cl, hm, hI⟩ := HM.out
      rw [List.take_of_length_le (by rw [HL.out]; exact Nat.le_refl _)] at hI
      have hkz : ¬ (k : Int) < (k : Int) := by omega
      have HQ := hidI hI
      obtain ⟨qs, hqs⟩ : ∃ qs, qs = (l.map (·.pt)).foldl addP [] := ⟨_, rfl⟩
      rw [← hqs] at hI
      have hrun := fun ty => map_len hm hI ty
      have HF := hidI (show decide (((qs.length : Nat) : Int) < ((k : Nat) : Int)) = decide (qs.length < k) by simp)
      have HQ2 := hidI hqs
      clear hI hqs hm hlt
      go_wp2
      go_ret
      exact ⟨ret_bool (by rw [← HQ2.out]), HB.out⟩

theorem addP_len (qs : List Pt) (p : Pt) : (addP qs p).length ≤ qs.length + 1 := by unfold addP; split <;> simp
theorem foldP_le : ∀ (ps qs : List Pt), (ps.foldl addP qs).length ≤ qs.length + ps.length
  | [], qs => by simp
  | p :: l, qs => by
    have h := foldP_le l (addP qs p)
    have h2 := addP_len qs p
    simp only [List.foldl_cons, List.length_cons]
    omega
theorem foldP_eq : ∀ (ps qs : List Pt), (∀ p ∈ ps, qs.any (ptEq p) = false) → dupB ps = false → (ps.foldl addP qs).length = qs.length + ps.length
  | [], qs, _, _ => by simp
  | p :: l, qs, h, hd => by
    unfold dupB at hd
    simp only [Bool.or_eq_false_iff] at hd
    have e : addP qs p = qs ++ [p] := by unfold addP; rw [h p (by simp), if_neg (by simp)]
    rw [List.foldl_cons, e, foldP_eq l _ (fun r hr => by
      rw [List.any_append, h r (by simp [hr]), Bool.false_or]
      have h1 : ptEq p r = false := by
        have h2 := hd.1
        rw [List.any_eq_false] at h2
        simpa using h2 r hr
      simp only [List.any_cons, List.any_nil, Bool.or_false]
      cases h3 : ptEq r p with
      | false => rfl
      | true => rw [ptEq_symm h3] at h1; cases h1) hd.2]
    simp only [List.length_append, List.length_cons, List.length_nil]
    omega
theorem foldP_lt : ∀ (ps qs : List Pt), (∃ p ∈ ps, qs.any (ptEq p) = true) ∨ dupB ps = true → (ps.foldl addP qs).length < qs.length + ps.length
  | [], qs, h => by
    rcases h with ⟨p, hp, _⟩ | h
    · cases hp
    · cases h
  | p :: l, qs, h => by
    simp only [List.foldl_cons, List.length_cons]
    by_cases hq : qs.any (ptEq p) = true
    · have e : addP qs p = qs := by unfold addP; rw [if_pos hq]
      have := foldP_le l qs
      rw [e]; omega
    · have e : addP qs p = qs ++ [p] := by unfold addP; rw [if_neg hq]
      have ih := foldP_lt l (qs ++ [p]) (by
        rcases h with ⟨r, hr, hq2⟩ | h
        · rcases List.mem_cons.1 hr with rfl | hr
          · exact absurd hq2 hq
          · exact .inl ⟨r, hr, by rw [List.any_append, hq2, Bool.true_or]⟩
        · unfold dupB at h
          simp only [Bool.or_eq_true] at h
          rcases h with h | h
          · rw [List.any_eq_true] at h
            obtain ⟨r, hr, h2⟩ := h
            exact .inl ⟨r, hr, by rw [List.any_append]; simp [ptEq_symm h2]⟩
          · exact .inr h)
      rw [e]
      simp only [List.length_append, List.length_cons, List.length_nil] at ih
      omega
theorem dup_iff (ps : List Pt) : decide ((ps.foldl addP []).length < ps.length) = dupB ps := by
  cases h : dupB ps with
  | true =>
    have := foldP_lt ps [] (.inr h)
    simpa using this
  | false =>
    have := foldP_eq ps [] (fun p _ => rfl) h
    simp at this
    simp [this]

end Go.Proofs.Ytjlledljancafaa
