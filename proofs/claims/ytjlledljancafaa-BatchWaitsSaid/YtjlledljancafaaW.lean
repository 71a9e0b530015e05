/- maker.fits. -/
import Derived.Test.YtjlledljancafaaV
import Derived.Test.YtjlledljancafaaB3
set_option linter.unusedSimpArgs false
set_option linter.unusedVariables false
namespace Go.Proofs.Ytjlledljancafaa
open Go.RowKit Go.XB

/-- new blocks, and writes to one block alone, which stays a row of so many cells -/
def BoxR (b : Nat) (T : TypeId) (n : Nat) (u v : World) : Prop := GrowR b u v ∧ ∀ c : Array Value, u.heap[b]? = some (.cells c T (0, 0)) → c.size = n → ∃ c' : Array Value, v.heap[b]? = some (.cells c' T (0, 0)) ∧ c'.size = n
theorem BoxR.refl {b : Nat} {T : TypeId} {n : Nat} (u : World) : BoxR b T n u u := ⟨GrowR.refl u, fun c h hs => ⟨c, h, hs⟩⟩
theorem BoxR.trans {b : Nat} {T : TypeId} {n : Nat} (u v x : World) (h : BoxR b T n u v) (h2 : BoxR b T n v x) : BoxR b T n u x :=
  ⟨GrowR.trans _ _ _ h.1 h2.1, fun c hc hs => by obtain ⟨c', h3, h4⟩ := h.2 c hc hs; exact h2.2 c' h3 h4⟩
theorem BoxR.ext {b : Nat} {T : TypeId} {n : Nat} {u v : World} (h : Below u.heap.size u v) : BoxR b T n u v :=
  ⟨GrowR.ext h, fun c hc hs => ⟨c, (h.block b (Array.getElem?_eq_some_iff.1 hc).1).trans hc, hs⟩⟩
theorem BoxR.setRow {b : Nat} {T : TypeId} {n : Nat} (u : World) {cs : List Value} (hl : cs.length = n) : BoxR b T n u (u.setRow b cs.toArray) :=
  ⟨GrowR.setRow _ _, fun c hc _ => ⟨cs.toArray, setRow_heap u b c cs.toArray T (0, 0) hc, by simpa using hl⟩⟩
theorem second_box {w w1 : World} {A : Obj} {c : Array Value} {T : TypeId} (hb : Below ((w.alloc A).alloc (.cells c T)).heap.size ((w.alloc A).alloc (.cells c T)) w1) : w1.heap[w.heap.size + 1]? = some (.cells c T (0, 0)) := by
  rw [hb.block _ (by simp only [World.size_alloc]; omega), ← World.size_alloc w A]
  exact heap_alloc_new (w.alloc A) _
theorem exec_store_own {P : Program} {ρ : Operand → Value} {o : Oper} {w : World} {ty e : TypeId} {x y : Operand} (ho : o.op = .store ty x y)
    {n g : Nat} {cur : Array Value} {cs : List Value} (hx : ρ x = .pointer (some ⟨g, 0, none⟩)) (hy : ρ y = .agg cs.toArray) (hi : (P.info? ty).map (·.size) = some n) (hl : cs.length = n)
    (hg : w.heap[g]? = some (.cells cur e (0, 0))) (hfit : cur.size = n) (h1 : cs.all Value.oneCell' = true) : (execOp ρ o).run P w = .ok .skip (w.setRow g cs.toArray) := by
  have hst := run_store_agg (P := P) hi hl hg (show 0 + cs.length ≤ cur.size by omega) (by simpa using h1)
  unfold execOp
  simp only [ho, hx, hy, Sem.run_bind, hst, Result.andThen_ok, Sem.run_pure]
  have e1 : (cur.toList.take 0 ++ cs ++ cur.toList.drop (0 + cs.length)).toArray = cs.toArray := by
    rw [List.take_zero, List.nil_append, List.drop_of_length_le (by simp; omega), List.append_nil]
  rw [e1]
theorem fitsA_none {limit key : Int} {l : List Inp} {rate : Int} (h : makeA l rate key = none) : fitsA limit key l rate = none := by unfold fitsA; rw [h]
theorem fitsA_some {limit key : Int} {l : List Inp} {rate : Int} {b : Bat} (h : makeA l rate key = some b) : fitsA limit key l rate = if weightT b.ins 1 ≤ limit then some b else none := by unfold fitsA; rw [h]
theorem makeA_len {l : List Inp} {rate key : Int} {b : Bat} (h : makeA l rate key = some b) : b.ins = l.map Inp.tin := by
  unfold makeA at h
  split at h
  · cases h
  · split at h
    · cases h
    · split at h
      · cases h
      · injection h with h; subst h; rfl
set_option maxRecDepth 100000 in
set_option maxHeartbeats 4000000 in
theorem fits_any (l : List Inp) (g n c : Nat) (next limit key rate : Int) (h0 : 0 < n) (h1 : n ≤ 100) (w : World) (hl : l.length = n) (hr : RowAt w g 0 (l.flatMap encInp)) (hg : g < w.heap.size) :
    Calls Try.prog 66 #[.agg #[.int .i64 next, .int .i64 limit, .int .i64 key], .slice (some ⟨g, 0, none⟩) n c, .int .i64 rate] w (MakeQ w (fitsA limit key l rate)) := by
  have HMK := hidI (show ∀ cur : Array Value, cur.size = 5 → Calls Try.prog 34 #[.slice (some ⟨g, 0, none⟩) n c, .int .i64 rate, .int .i64 key] ((w.alloc (.cells #[.int .i64 next, .int .i64 limit, .int .i64 key] 99)).alloc (.cells cur 49)) (MakeQ ((w.alloc (.cells #[.int .i64 next, .int .i64 limit, .int .i64 key] 99)).alloc (.cells cur 49)) (makeA l rate key)) from fun cur _ => make_any l g n c rate key h0 h1 _ hl ((hr.alloc _).alloc _) (by simp only [World.size_alloc]; omega))
  have HCB := hidI (show ∀ (cur : Array Value) (w1 : World), Below ((w.alloc (.cells #[.int .i64 next, .int .i64 limit, .int .i64 key] 99)).alloc (.cells cur 49)).heap.size ((w.alloc (.cells #[.int .i64 next, .int .i64 limit, .int .i64 key] 99)).alloc (.cells cur 49)) w1 → w1.cell? ⟨w.heap.size, 2, none⟩ = some (.int .i64 key) from fun cur w1 h => RowAt.cell0 (((RowAt.new (cs := [.int .i64 next, .int .i64 limit, .int .i64 key]) (by rfl)).alloc _).below h (by simp only [World.size_alloc]; omega)) 2 rfl)
  have HCB2 := hidI (show ∀ (cur : Array Value) (w1 : World), Below ((w.alloc (.cells #[.int .i64 next, .int .i64 limit, .int .i64 key] 99)).alloc (.cells cur 49)).heap.size ((w.alloc (.cells #[.int .i64 next, .int .i64 limit, .int .i64 key] 99)).alloc (.cells cur 49)) w1 → w1.cell? ⟨w.heap.size, 1, none⟩ = some (.int .i64 limit) from fun cur w1 h => RowAt.cell0 (((RowAt.new (cs := [.int .i64 next, .int .i64 limit, .int .i64 key]) (by rfl)).alloc _).below h (by simp only [World.size_alloc]; omega)) 1 rfl)
  have HL := hidI hl
  clear hr hg hl
  obtain ⟨r, hr⟩ : ∃ r, makeA l rate key = r := ⟨_, rfl⟩
  rw [hr] at HMK
  cases r with
  | none =>
    rw [fitsA_none hr]
    clear hr
    go_enter Try.func66, Try.ntmps66
    go_wp2_with (first
      | (go_at_call 34; (with_reducible refine (HMK.out _ hcur).mono ?_); rintro e w1 ⟨cs, rfl, hcl, hc1, hb1, hB⟩; have HQ := hidI (And.intro hcl (And.intro hc1 (And.intro hb1 hB))); have HSZ := hidI (And.intro hcl hc1); have hz1 : w.heap.size + 2 ≤ w1.heap.size := (by have := hb1.size; simpa using this); have HZ0 := hidI (show ∃ cz : Array Value, w1.heap[w.heap.size + 1]? = some (.cells cz 49 (0, 0)) ∧ cz.size = 5 from ⟨cur, second_box hb1, hcur⟩); have hrow0 : RowAt w1 w.heap.size 0 [.int .i64 next, .int .i64 limit, .int .i64 key] := RowAt.below ((RowAt.new (by rfl)).alloc _) hb1 (by simp only [World.size_alloc]; omega); have HR0 := hidI hrow0; clear hrow0; have HBW := hidI (show Below w.heap.size w w1 from (((Below.refl _ _).alloc (Nat.le_refl _) _).alloc (by simp only [World.size_alloc]; omega) _).trans (hb1.mono (by simp only [World.size_alloc]; omega))); have hcb := HCB.out _ _ hb1; have hc2 := HCB2.out _ _ hb1; clear hcl hc1 hb1 hB)
              | (with_reducible refine at_store 49 rfl ?_; refine wpl_store_new (cs := cs) rfl rfl rfl rfl (by simp) rfl sz_bat HSZ.out.1 hcur HSZ.out.2 ?_; (try simp only [Act.put, List.setIfInBounds_toArray, List.set_cons_zero, List.set_cons_succ, World.size_alloc]))
              | (with_reducible refine at_alloc 49 rfl ?_; refine wpl_alloc_any rfl rfl z_bat ?_; intro cur hcur; (try simp only [Act.put, List.setIfInBounds_toArray, List.set_cons_zero, List.set_cons_succ, World.size_alloc])))

    have HZ := hidI (show ∀ w1', BoxR (w.heap.size + 1) 49 5 (w1.alloc (.cells cs.toArray 49)).drew w1' → ∃ cz : Array Value, cz.size = 5 ∧ w1'.heap[w.heap.size + 1]? = some (.cells cz 49 (0, 0)) from fun w1' h => by
      obtain ⟨cz, h1, h2⟩ := HZ0.out
      obtain ⟨c', h3, h4⟩ := h.2 cz ((Below.heap_alloc w1 _ _ (by omega)).trans h1) h2
      exact ⟨c', h4, h3⟩)
    have HLIM := hidI (show ∀ w1', BoxR (w.heap.size + 1) 49 5 (w1.alloc (.cells cs.toArray 49)).drew w1' → w1'.cell? ⟨w.heap.size, 1, none⟩ = some (.int .i64 limit) from fun w1' h => RowAt.cell0 (h.1.row (RowAt.drew (HR0.out.alloc _)) (by simp only [World.size_alloc, World.size_drew]; omega) (by omega)) 1 rfl)
    have HFB := hidI (show ∀ w1', BoxR (w.heap.size + 1) 49 5 (w1.alloc (.cells cs.toArray 49)).drew w1' → Below w.heap.size w w1' from fun w1' h => GrowR.below (((HBW.out.alloc (by omega) _)).drew) (by simp only [World.size_alloc, World.size_drew]; omega) h.1 (by omega))
    refine wp_region_s _ [[], [], [1], [2], [2, 3], [2, 4], [2], [2, 6], [2, 5, 7], [2, 8], [0], [9]] (BoxR (w.heap.size + 1) 49 5) (fun ix u v => match ix with | 5 => Ext u v | 10 => BoxR (w.heap.size + 1) 49 5 u v | _ => u = v) (fun ix v w' => match ix with | 0 => v = .agg cs.toArray | 1 => v = .bool false | 2 => v = .bool false | 3 => v = undef | 4 => v = undef | 5 => v = undef | 6 => v = undef | 7 => v = undef | 8 => v = undef | 9 => v = .bool false | 10 => RowAt w' (w.heap.size + 1) 0 cs | 11 => v = .bool false | _ => True) (by kernel_rfl) (by kernel_rfl) (by kernel_rfl) (by kernel_rfl) (fun vs => by simp only [putAll, Act.put, List.setIfInBounds_toArray, List.set_cons_zero, List.set_cons_succ]; rfl) BoxR.refl BoxR.trans ?hsr ?hse ?stab ?steps ?fin
    case hsr =>
      intro i u u' h
      match i, h with
      | 0, h => cases h; exact BoxR.refl _
      | 1, h => cases h; exact BoxR.refl _
      | 2, h => cases h; exact BoxR.refl _
      | 3, h => cases h; exact BoxR.refl _
      | 4, h => cases h; exact BoxR.refl _
      | 5, h => exact BoxR.ext h
      | 6, h => cases h; exact BoxR.refl _
      | 7, h => cases h; exact BoxR.refl _
      | 8, h => cases h; exact BoxR.refl _
      | 9, h => cases h; exact BoxR.refl _
      | 10, h => exact h
      | 11, h => cases h; exact BoxR.refl _
      | n + 12, h => cases h; exact BoxR.refl _
    case hse =>
      intro i u
      match i with
      | 0 => rfl
      | 1 => rfl
      | 2 => rfl
      | 3 => rfl
      | 4 => rfl
      | 5 => first | exact Ext.refl _ | exact BoxR.refl _
      | 6 => rfl
      | 7 => rfl
      | 8 => rfl
      | 9 => rfl
      | 10 => first | exact Ext.refl _ | exact BoxR.refl _
      | 11 => rfl
      | n + 12 => rfl
    case stab =>
      intro i j v u u' hij hi hj hp hv hs
      match i, hv with
      | 0, hv => exact hv
      | 1, hv => exact hv
      | 2, hv => exact hv
      | 3, hv => exact hv
      | 4, hv => exact hv
      | 5, hv => exact hv
      | 6, hv => exact hv
      | 7, hv => exact hv
      | 8, hv => exact hv
      | 9, hv => exact hv
      | 10, hv =>
        match j, hs, hp with
        | 0, hs, hp => cases hs; exact hv
        | 1, hs, hp => cases hs; exact hv
        | 2, hs, hp => cases hs; exact hv
        | 3, hs, hp => cases hs; exact hv
        | 4, hs, hp => cases hs; exact hv
        | 5, hs, hp => first | exact absurd (show false = true from hp.symm.trans rfl) (by decide) | (exact hv.below hs ?_)
        | 6, hs, hp => cases hs; exact hv
        | 7, hs, hp => cases hs; exact hv
        | 8, hs, hp => cases hs; exact hv
        | 9, hs, hp => cases hs; exact hv
        | 10, hs, hp => exact absurd rfl hij
        | 11, hs, hp => cases hs; exact hv
        | n + 12, _, _ => exact absurd hj (by simp)
      | 11, hv => exact hv
      | n + 12, hv => exact trivial
    case steps =>
      simp only [StepAllP, List.headD, List.tail, AllV]
      refine ⟨?_, ?_, ?_, ?_, ?_, ?_, ?_, ?_, ?_, ?_, ?_, ?_, trivial⟩
      · intro vs w1' hR hp
        refine step_value (exec_load_agg (b := w1.heap.size) (off := 0) rfl (by simp [go_sem]) agg_bat HSZ.out.1 (hR.1.row (RowAt.drew (RowAt.new (by simp))) (by simp only [World.size_alloc, World.size_drew]; omega) (by omega))) (by rfl) rfl rfl
      · intro vs w1' hR hp
        refine step_value (v := .bool false) (by simp [go_sem]) (by rfl) rfl rfl
      · intro vs w1' hR hp; obtain ⟨p1, _⟩ := hp
        refine step_value (v := .bool false) (by simp [go_sem, p1]) (by rfl) rfl rfl
      · intro vs w1' hR hp; obtain ⟨p2, _⟩ := hp
        refine step_not (by simp [Region.wanted, yielded, p2]) (by trivial)
      · intro vs w1' hR hp; obtain ⟨p2, p3, _⟩ := hp
        refine step_not (by simp [Region.wanted, yielded, p2, p3]) (by trivial)
      · intro vs w1' hR hp; obtain ⟨p2, p4, _⟩ := hp
        refine step_not (by simp [Region.wanted, yielded, p2, p4]) (by trivial)
      · intro vs w1' hR hp; obtain ⟨p2, _⟩ := hp
        refine step_not (by simp [Region.wanted, yielded, p2]) (by trivial)
      · intro vs w1' hR hp; obtain ⟨p2, p6, _⟩ := hp
        refine step_not (by simp [Region.wanted, yielded, p2, p6]) (by trivial)
      · intro vs w1' hR hp; obtain ⟨p2, p5, p7, _⟩ := hp
        refine step_not (by simp [Region.wanted, yielded, p2, p5, p7]) (by trivial)
      · intro vs w1' hR hp; obtain ⟨p2, p8, _⟩ := hp
        refine step_value (v := .bool false) (by simp [go_sem, p2, p8]) (by rfl) rfl rfl
      · intro vs w1' hR hp; obtain ⟨p0, _⟩ := hp
        obtain ⟨cz, hcz, hbz⟩ := HZ.out w1' hR
        refine Go.XB.step_skip (w' := w1'.setRow (w.heap.size + 1) cs.toArray) ?_ (by rfl) (BoxR.setRow _ HSZ.out.1) (RowAt.setRow hbz)
        exact exec_store_own rfl (by simp [go_sem]) (by simp [go_sem, p0]) sz_bat HSZ.out.1 hbz hcz HSZ.out.2
      · intro vs w1' hR hp; obtain ⟨p9, _⟩ := hp
        refine step_value (v := .bool false) (by simp [go_sem, p9]) (by rfl) rfl rfl
    case fin =>
      simp only [List.length_cons, List.length_nil, Nat.reduceAdd, List.range_succ, List.range_zero, List.nil_append, List.cons_append, AllV]
      intro vs w1' hR hp
      obtain ⟨p0, p1, p2, p3, p4, p5, p6, p7, p8, p9, p10, p11, _⟩ := hp
      simp only [p0, p1, p2, p3, p4, p5, p6, p7, p8, p9, p11]
      have HP := hidI p10
      have HB9 := hidI (HFB.out w1' hR)
      clear hR
      go_wp2
      refine ret_agg2 (v := .bool false) (cs := cs) rfl rfl rfl (by first | rfl | simp [hd]) agg_bat HSZ.out.1 HP.out ⟨cs, rfl, HSZ.out.1, HSZ.out.2, HB9.out, fun b h => by cases h⟩

  | some b =>
    rw [fitsA_some hr]
    have HBL := hidI (makeA_len hr)
    clear hr
    obtain ⟨wt, hwt⟩ : ∃ wt, weightT b.ins 1 = wt := ⟨_, rfl⟩
    have HW := hidI hwt
    rw [hwt]
    clear hwt
    by_cases hle : wt ≤ limit
    · rw [if_pos hle]
      have hd : decide (wt ≤ limit) = true := by simpa using hle
      clear hle
      go_enter Try.func66, Try.ntmps66
      go_wp2_with (first
        | (go_at_call 34; (with_reducible refine (HMK.out _ hcur).mono ?_); rintro e w1 ⟨cs, rfl, hcl, hc1, hb1, hB⟩; have HQ := hidI (And.intro hcl (And.intro hc1 (And.intro hb1 hB))); have HSZ := hidI (And.intro hcl hc1); have hz1 : w.heap.size + 2 ≤ w1.heap.size := (by have := hb1.size; simpa using this); have HZ0 := hidI (show ∃ cz : Array Value, w1.heap[w.heap.size + 1]? = some (.cells cz 49 (0, 0)) ∧ cz.size = 5 from ⟨cur, second_box hb1, hcur⟩); have hrow0 : RowAt w1 w.heap.size 0 [.int .i64 next, .int .i64 limit, .int .i64 key] := RowAt.below ((RowAt.new (by rfl)).alloc _) hb1 (by simp only [World.size_alloc]; omega); have HR0 := hidI hrow0; clear hrow0; have HBW := hidI (show Below w.heap.size w w1 from (((Below.refl _ _).alloc (Nat.le_refl _) _).alloc (by simp only [World.size_alloc]; omega) _).trans (hb1.mono (by simp only [World.size_alloc]; omega))); have hcb := HCB.out _ _ hb1; have hc2 := HCB2.out _ _ hb1; clear hcl hc1 hb1 hB)
              | (with_reducible refine at_store 49 rfl ?_; refine wpl_store_new (cs := cs) rfl rfl rfl rfl (by simp) rfl sz_bat HSZ.out.1 hcur HSZ.out.2 ?_; (try simp only [Act.put, List.setIfInBounds_toArray, List.set_cons_zero, List.set_cons_succ, World.size_alloc]))
              | (with_reducible refine at_alloc 49 rfl ?_; refine wpl_alloc_any rfl rfl z_bat ?_; intro cur hcur; (try simp only [Act.put, List.setIfInBounds_toArray, List.set_cons_zero, List.set_cons_succ, World.size_alloc])))
      obtain ⟨g1, c1, g2, c2, hcs, hg1, hg1', hg2, hg2', hr1, hr2, hlc, ht1, ht2⟩ := HQ.out.2.2.2 b rfl
      simp only [World.size_alloc] at hg1 hg2
      have HR1 := hidI hr1
      have HR2 := hidI hr2
      have HCS := hidI hcs
      have HD := hidI HQ.out.2.2.1
      have HLN := hidI (show b.ins.length = n by rw [HBL.out, List.length_map, HL.out])
      clear hcs hr1 hr2
      have HZ := hidI (show ∀ w1', BoxR (w.heap.size + 1) 49 5 (w1.alloc (.cells cs.toArray 49)).drew w1' → ∃ cz : Array Value, cz.size = 5 ∧ w1'.heap[w.heap.size + 1]? = some (.cells cz 49 (0, 0)) from fun w1' h => by
        obtain ⟨cz, h1, h2⟩ := HZ0.out
        obtain ⟨c', h3, h4⟩ := h.2 cz ((Below.heap_alloc w1 _ _ (by omega)).trans h1) h2
        exact ⟨c', h4, h3⟩)
      have HLIM := hidI (show ∀ w1', BoxR (w.heap.size + 1) 49 5 (w1.alloc (.cells cs.toArray 49)).drew w1' → w1'.cell? ⟨w.heap.size, 1, none⟩ = some (.int .i64 limit) from fun w1' h => RowAt.cell0 (h.1.row (RowAt.drew (HR0.out.alloc _)) (by simp only [World.size_alloc, World.size_drew]; omega) (by omega)) 1 rfl)
      have HFB := hidI (show ∀ w1', BoxR (w.heap.size + 1) 49 5 (w1.alloc (.cells cs.toArray 49)).drew w1' → Below w.heap.size w w1' from fun w1' h => GrowR.below (((HBW.out.alloc (by omega) _)).drew) (by simp only [World.size_alloc, World.size_drew]; omega) h.1 (by omega))
      refine wp_region_s _ [[], [], [1], [2], [2, 3], [2, 4], [2], [2, 6], [2, 5, 7], [2, 8], [0], [9]] (BoxR (w.heap.size + 1) 49 5) (fun ix u v => match ix with | 5 => Ext u v | 10 => BoxR (w.heap.size + 1) 49 5 u v | _ => u = v) (fun ix v w' => match ix with | 0 => v = .agg cs.toArray | 1 => v = .bool true | 2 => v = .bool true | 3 => v = .pointer (some ⟨w1.heap.size, 0, none⟩) | 4 => v = .agg #[.slice (some ⟨g1, 0, none⟩) b.ins.length c1, .slice (some ⟨g2, 0, none⟩) 1 c2, .int .i64 b.lock] | 5 => v = .int .i64 wt | 6 => v = .pointer (some ⟨w.heap.size, 1, none⟩) | 7 => v = .int .i64 limit | 8 => v = .bool (decide (wt ≤ limit)) | 9 => v = .bool (decide (wt ≤ limit)) | 10 => RowAt w' (w.heap.size + 1) 0 cs | 11 => v = .bool (decide (wt ≤ limit)) | _ => True) (by kernel_rfl) (by kernel_rfl) (by kernel_rfl) (by kernel_rfl) (fun vs => by simp only [putAll, Act.put, List.setIfInBounds_toArray, List.set_cons_zero, List.set_cons_succ]; rfl) BoxR.refl BoxR.trans ?hsr ?hse ?stab ?steps ?fin
      case hsr =>
        intro i u u' h
        match i, h with
        | 0, h => cases h; exact BoxR.refl _
        | 1, h => cases h; exact BoxR.refl _
        | 2, h => cases h; exact BoxR.refl _
        | 3, h => cases h; exact BoxR.refl _
        | 4, h => cases h; exact BoxR.refl _
        | 5, h => exact BoxR.ext h
        | 6, h => cases h; exact BoxR.refl _
        | 7, h => cases h; exact BoxR.refl _
        | 8, h => cases h; exact BoxR.refl _
        | 9, h => cases h; exact BoxR.refl _
        | 10, h => exact h
        | 11, h => cases h; exact BoxR.refl _
        | n + 12, h => cases h; exact BoxR.refl _
      case hse =>
        intro i u
        match i with
        | 0 => rfl
        | 1 => rfl
        | 2 => rfl
        | 3 => rfl
        | 4 => rfl
        | 5 => first | exact Ext.refl _ | exact BoxR.refl _
        | 6 => rfl
        | 7 => rfl
        | 8 => rfl
        | 9 => rfl
        | 10 => first | exact Ext.refl _ | exact BoxR.refl _
        | 11 => rfl
        | n + 12 => rfl
      case stab =>
        intro i j v u u' hij hi hj hp hv hs
        match i, hv with
        | 0, hv => exact hv
        | 1, hv => exact hv
        | 2, hv => exact hv
        | 3, hv => exact hv
        | 4, hv => exact hv
        | 5, hv => exact hv
        | 6, hv => exact hv
        | 7, hv => exact hv
        | 8, hv => exact hv
        | 9, hv => exact hv
        | 10, hv =>
          match j, hs, hp with
          | 0, hs, hp => cases hs; exact hv
          | 1, hs, hp => cases hs; exact hv
          | 2, hs, hp => cases hs; exact hv
          | 3, hs, hp => cases hs; exact hv
          | 4, hs, hp => cases hs; exact hv
          | 5, hs, hp => first | exact absurd (show false = true from hp.symm.trans rfl) (by decide) | (exact hv.below hs ?_)
          | 6, hs, hp => cases hs; exact hv
          | 7, hs, hp => cases hs; exact hv
          | 8, hs, hp => cases hs; exact hv
          | 9, hs, hp => cases hs; exact hv
          | 10, hs, hp => exact absurd rfl hij
          | 11, hs, hp => cases hs; exact hv
          | n + 12, _, _ => exact absurd hj (by simp)
        | 11, hv => exact hv
        | n + 12, hv => exact trivial
      case steps =>
        simp only [StepAllP, List.headD, List.tail, AllV]
        refine ⟨?_, ?_, ?_, ?_, ?_, ?_, ?_, ?_, ?_, ?_, ?_, ?_, trivial⟩
        · intro vs w1' hR hp
          refine step_value (exec_load_agg (b := w1.heap.size) (off := 0) rfl (by simp [go_sem]) agg_bat HSZ.out.1 (hR.1.row (RowAt.drew (RowAt.new (by simp))) (by simp only [World.size_alloc, World.size_drew]; omega) (by omega))) (by rfl) rfl rfl
        · intro vs w1' hR hp
          refine step_value (v := .bool true) (by simp [go_sem]) (by rfl) rfl rfl
        · intro vs w1' hR hp; obtain ⟨p1, _⟩ := hp
          refine step_value (v := .bool true) (by simp [go_sem, p1]) (by rfl) rfl rfl
        · intro vs w1' hR hp; obtain ⟨p2, _⟩ := hp
          refine step_value (v := .pointer (some ⟨w1.heap.size, 0, none⟩)) (by simp [go_sem, p2]) (by simp [Region.wanted, yielded, p2]) rfl rfl
        · intro vs w1' hR hp; obtain ⟨p2, p3, _⟩ := hp
          have hrow : RowAt w1' w1.heap.size 0 [.slice (some ⟨g1, 0, none⟩) b.ins.length c1, .slice (some ⟨g2, 0, none⟩) 1 c2, .int .i64 b.lock] := hR.1.row (RowAt.drew (RowAt.new (by rw [HCS.out]; rfl))) (by simp only [World.size_alloc, World.size_drew]; omega) (by omega)
          refine step_value (exec_load_agg (b := w1.heap.size) (off := 0) rfl (by simp [go_sem, p3]) agg_tx rfl hrow) (by simp [Region.wanted, yielded, p2, p3]) rfl rfl
        · intro vs w1' hR hp; obtain ⟨p2, p4, _⟩ := hp
          have hrow : RowAt w1' g1 0 (b.ins.flatMap encTIn) := hR.1.row (RowAt.drew (HR1.out.alloc _)) (by simp only [World.size_alloc, World.size_drew]; omega) (by omega)
          refine step_call (f := 21) (args := #[.agg #[.slice (some ⟨g1, 0, none⟩) b.ins.length c1, .slice (some ⟨g2, 0, none⟩) 1 c2, .int .i64 b.lock]]) (w' := w1') (by simp [go_sem, p4]) (by simp [Region.wanted, yielded, p2, p4]) (weight_any b.ins g1 0 c1 1 c2 (some ⟨g2, 0, none⟩) (.int .i64 b.lock) (by rw [HLN.out]; omega) (by omega) w1' hrow (by have := hR.1.size; simp only [World.size_alloc, World.size_drew] at this; omega)) (fun e w3 hc => ?_)
          obtain ⟨rfl, hb3⟩ := hc
          exact ⟨_, rfl, hb3, by rw [HW.out]⟩
        · intro vs w1' hR hp; obtain ⟨p2, _⟩ := hp
          refine step_value (v := .pointer (some ⟨w.heap.size, 1, none⟩)) (by simp [go_sem, p2]) (by simp [Region.wanted, yielded, p2]) rfl rfl
        · intro vs w1' hR hp; obtain ⟨p2, p6, _⟩ := hp
          have hlim := HLIM.out w1' hR
          refine step_value (v := .int .i64 limit) (by simp [go_sem, p6, hlim]) (by simp [Region.wanted, yielded, p2, p6]) rfl rfl
        · intro vs w1' hR hp; obtain ⟨p2, p5, p7, _⟩ := hp
          refine step_value (v := .bool (decide (wt ≤ limit))) (by simp [go_sem, p2, p5, p7]) (by simp [Region.wanted, yielded, p2, p5, p7]) rfl rfl
        · intro vs w1' hR hp; obtain ⟨p2, p8, _⟩ := hp
          refine step_value (v := .bool (decide (wt ≤ limit))) (by simp [go_sem, p2, p8]) (by rfl) rfl rfl
        · intro vs w1' hR hp; obtain ⟨p0, _⟩ := hp
          obtain ⟨cz, hcz, hbz⟩ := HZ.out w1' hR
          refine Go.XB.step_skip (w' := w1'.setRow (w.heap.size + 1) cs.toArray) ?_ (by rfl) (BoxR.setRow _ HSZ.out.1) (RowAt.setRow hbz)
          exact exec_store_own rfl (by simp [go_sem]) (by simp [go_sem, p0]) sz_bat HSZ.out.1 hbz hcz HSZ.out.2
        · intro vs w1' hR hp; obtain ⟨p9, _⟩ := hp
          refine step_value (v := .bool (decide (wt ≤ limit))) (by simp [go_sem, p9]) (by rfl) rfl rfl
      case fin =>
        simp only [List.length_cons, List.length_nil, Nat.reduceAdd, List.range_succ, List.range_zero, List.nil_append, List.cons_append, AllV]
        intro vs w1' hR hp
        obtain ⟨p0, p1, p2, p3, p4, p5, p6, p7, p8, p9, p10, p11, _⟩ := hp
        simp only [p0, p1, p2, p3, p4, p5, p6, p7, p8, p9, p11]
        have HP := hidI p10
        have HB9 := hidI (HFB.out w1' hR)
        have HRR := hidI hR
        clear hR
        go_wp2
        refine ret_agg2 (v := .bool true) (cs := cs) rfl rfl rfl (by first | rfl | simp [hd]) agg_bat HSZ.out.1 HP.out ⟨cs, rfl, HSZ.out.1, HSZ.out.2, HB9.out, fun b' h => ?_⟩
        injection h with h
        subst h
        have hz9 := HRR.out.1.size
        simp only [World.size_alloc, World.size_drew] at hz9
        exact ⟨g1, c1, g2, c2, HCS.out, by omega, by omega, by omega, by omega, HRR.out.1.row (RowAt.drew (HR1.out.alloc _)) (by simp only [World.size_alloc, World.size_drew]; omega) (by omega), HRR.out.1.row (RowAt.drew (HR2.out.alloc _)) (by simp only [World.size_alloc, World.size_drew]; omega) (by omega), hlc, ht1.imp fun cc hcc => (HRR.out.1.block _ (by simp only [World.size_alloc, World.size_drew]; omega) (fun e => by injection e with e; omega)).trans ((Below.heap_alloc w1 _ _ (by omega)).trans hcc), ht2.imp fun cc hcc => (HRR.out.1.block _ (by simp only [World.size_alloc, World.size_drew]; omega) (fun e => by injection e with e; omega)).trans ((Below.heap_alloc w1 _ _ (by omega)).trans hcc)⟩
  
    · rw [if_neg hle]
      have hd : decide (wt ≤ limit) = false := by simpa using hle
      clear hle
      go_enter Try.func66, Try.ntmps66
      go_wp2_with (first
        | (go_at_call 34; (with_reducible refine (HMK.out _ hcur).mono ?_); rintro e w1 ⟨cs, rfl, hcl, hc1, hb1, hB⟩; have HQ := hidI (And.intro hcl (And.intro hc1 (And.intro hb1 hB))); have HSZ := hidI (And.intro hcl hc1); have hz1 : w.heap.size + 2 ≤ w1.heap.size := (by have := hb1.size; simpa using this); have HZ0 := hidI (show ∃ cz : Array Value, w1.heap[w.heap.size + 1]? = some (.cells cz 49 (0, 0)) ∧ cz.size = 5 from ⟨cur, second_box hb1, hcur⟩); have hrow0 : RowAt w1 w.heap.size 0 [.int .i64 next, .int .i64 limit, .int .i64 key] := RowAt.below ((RowAt.new (by rfl)).alloc _) hb1 (by simp only [World.size_alloc]; omega); have HR0 := hidI hrow0; clear hrow0; have HBW := hidI (show Below w.heap.size w w1 from (((Below.refl _ _).alloc (Nat.le_refl _) _).alloc (by simp only [World.size_alloc]; omega) _).trans (hb1.mono (by simp only [World.size_alloc]; omega))); have hcb := HCB.out _ _ hb1; have hc2 := HCB2.out _ _ hb1; clear hcl hc1 hb1 hB)
              | (with_reducible refine at_store 49 rfl ?_; refine wpl_store_new (cs := cs) rfl rfl rfl rfl (by simp) rfl sz_bat HSZ.out.1 hcur HSZ.out.2 ?_; (try simp only [Act.put, List.setIfInBounds_toArray, List.set_cons_zero, List.set_cons_succ, World.size_alloc]))
              | (with_reducible refine at_alloc 49 rfl ?_; refine wpl_alloc_any rfl rfl z_bat ?_; intro cur hcur; (try simp only [Act.put, List.setIfInBounds_toArray, List.set_cons_zero, List.set_cons_succ, World.size_alloc])))
      obtain ⟨g1, c1, g2, c2, hcs, hg1, hg1', hg2, hg2', hr1, hr2, hlc, ht1, ht2⟩ := HQ.out.2.2.2 b rfl
      simp only [World.size_alloc] at hg1 hg2
      have HR1 := hidI hr1
      have HR2 := hidI hr2
      have HCS := hidI hcs
      have HD := hidI HQ.out.2.2.1
      have HLN := hidI (show b.ins.length = n by rw [HBL.out, List.length_map, HL.out])
      clear hcs hr1 hr2
      have HZ := hidI (show ∀ w1', BoxR (w.heap.size + 1) 49 5 (w1.alloc (.cells cs.toArray 49)).drew w1' → ∃ cz : Array Value, cz.size = 5 ∧ w1'.heap[w.heap.size + 1]? = some (.cells cz 49 (0, 0)) from fun w1' h => by
        obtain ⟨cz, h1, h2⟩ := HZ0.out
        obtain ⟨c', h3, h4⟩ := h.2 cz ((Below.heap_alloc w1 _ _ (by omega)).trans h1) h2
        exact ⟨c', h4, h3⟩)
      have HLIM := hidI (show ∀ w1', BoxR (w.heap.size + 1) 49 5 (w1.alloc (.cells cs.toArray 49)).drew w1' → w1'.cell? ⟨w.heap.size, 1, none⟩ = some (.int .i64 limit) from fun w1' h => RowAt.cell0 (h.1.row (RowAt.drew (HR0.out.alloc _)) (by simp only [World.size_alloc, World.size_drew]; omega) (by omega)) 1 rfl)
      have HFB := hidI (show ∀ w1', BoxR (w.heap.size + 1) 49 5 (w1.alloc (.cells cs.toArray 49)).drew w1' → Below w.heap.size w w1' from fun w1' h => GrowR.below (((HBW.out.alloc (by omega) _)).drew) (by simp only [World.size_alloc, World.size_drew]; omega) h.1 (by omega))
      refine wp_region_s _ [[], [], [1], [2], [2, 3], [2, 4], [2], [2, 6], [2, 5, 7], [2, 8], [0], [9]] (BoxR (w.heap.size + 1) 49 5) (fun ix u v => match ix with | 5 => Ext u v | 10 => BoxR (w.heap.size + 1) 49 5 u v | _ => u = v) (fun ix v w' => match ix with | 0 => v = .agg cs.toArray | 1 => v = .bool true | 2 => v = .bool true | 3 => v = .pointer (some ⟨w1.heap.size, 0, none⟩) | 4 => v = .agg #[.slice (some ⟨g1, 0, none⟩) b.ins.length c1, .slice (some ⟨g2, 0, none⟩) 1 c2, .int .i64 b.lock] | 5 => v = .int .i64 wt | 6 => v = .pointer (some ⟨w.heap.size, 1, none⟩) | 7 => v = .int .i64 limit | 8 => v = .bool (decide (wt ≤ limit)) | 9 => v = .bool (decide (wt ≤ limit)) | 10 => RowAt w' (w.heap.size + 1) 0 cs | 11 => v = .bool (decide (wt ≤ limit)) | _ => True) (by kernel_rfl) (by kernel_rfl) (by kernel_rfl) (by kernel_rfl) (fun vs => by simp only [putAll, Act.put, List.setIfInBounds_toArray, List.set_cons_zero, List.set_cons_succ]; rfl) BoxR.refl BoxR.trans ?hsr ?hse ?stab ?steps ?fin
      case hsr =>
        intro i u u' h
        match i, h with
        | 0, h => cases h; exact BoxR.refl _
        | 1, h => cases h; exact BoxR.refl _
        | 2, h => cases h; exact BoxR.refl _
        | 3, h => cases h; exact BoxR.refl _
        | 4, h => cases h; exact BoxR.refl _
        | 5, h => exact BoxR.ext h
        | 6, h => cases h; exact BoxR.refl _
        | 7, h => cases h; exact BoxR.refl _
        | 8, h => cases h; exact BoxR.refl _
        | 9, h => cases h; exact BoxR.refl _
        | 10, h => exact h
        | 11, h => cases h; exact BoxR.refl _
        | n + 12, h => cases h; exact BoxR.refl _
      case hse =>
        intro i u
        match i with
        | 0 => rfl
        | 1 => rfl
        | 2 => rfl
        | 3 => rfl
        | 4 => rfl
        | 5 => first | exact Ext.refl _ | exact BoxR.refl _
        | 6 => rfl
        | 7 => rfl
        | 8 => rfl
        | 9 => rfl
        | 10 => first | exact Ext.refl _ | exact BoxR.refl _
        | 11 => rfl
        | n + 12 => rfl
      case stab =>
        intro i j v u u' hij hi hj hp hv hs
        match i, hv with
        | 0, hv => exact hv
        | 1, hv => exact hv
        | 2, hv => exact hv
        | 3, hv => exact hv
        | 4, hv => exact hv
        | 5, hv => exact hv
        | 6, hv => exact hv
        | 7, hv => exact hv
        | 8, hv => exact hv
        | 9, hv => exact hv
        | 10, hv =>
          match j, hs, hp with
          | 0, hs, hp => cases hs; exact hv
          | 1, hs, hp => cases hs; exact hv
          | 2, hs, hp => cases hs; exact hv
          | 3, hs, hp => cases hs; exact hv
          | 4, hs, hp => cases hs; exact hv
          | 5, hs, hp => first | exact absurd (show false = true from hp.symm.trans rfl) (by decide) | (exact hv.below hs ?_)
          | 6, hs, hp => cases hs; exact hv
          | 7, hs, hp => cases hs; exact hv
          | 8, hs, hp => cases hs; exact hv
          | 9, hs, hp => cases hs; exact hv
          | 10, hs, hp => exact absurd rfl hij
          | 11, hs, hp => cases hs; exact hv
          | n + 12, _, _ => exact absurd hj (by simp)
        | 11, hv => exact hv
        | n + 12, hv => exact trivial
      case steps =>
        simp only [StepAllP, List.headD, List.tail, AllV]
        refine ⟨?_, ?_, ?_, ?_, ?_, ?_, ?_, ?_, ?_, ?_, ?_, ?_, trivial⟩
        · intro vs w1' hR hp
          refine step_value (exec_load_agg (b := w1.heap.size) (off := 0) rfl (by simp [go_sem]) agg_bat HSZ.out.1 (hR.1.row (RowAt.drew (RowAt.new (by simp))) (by simp only [World.size_alloc, World.size_drew]; omega) (by omega))) (by rfl) rfl rfl
        · intro vs w1' hR hp
          refine step_value (v := .bool true) (by simp [go_sem]) (by rfl) rfl rfl
        · intro vs w1' hR hp; obtain ⟨p1, _⟩ := hp
          refine step_value (v := .bool true) (by simp [go_sem, p1]) (by rfl) rfl rfl
        · intro vs w1' hR hp; obtain ⟨p2, _⟩ := hp
          refine step_value (v := .pointer (some ⟨w1.heap.size, 0, none⟩)) (by simp [go_sem, p2]) (by simp [Region.wanted, yielded, p2]) rfl rfl
        · intro vs w1' hR hp; obtain ⟨p2, p3, _⟩ := hp
          have hrow : RowAt w1' w1.heap.size 0 [.slice (some ⟨g1, 0, none⟩) b.ins.length c1, .slice (some ⟨g2, 0, none⟩) 1 c2, .int .i64 b.lock] := hR.1.row (RowAt.drew (RowAt.new (by rw [HCS.out]; rfl))) (by simp only [World.size_alloc, World.size_drew]; omega) (by omega)
          refine step_value (exec_load_agg (b := w1.heap.size) (off := 0) rfl (by simp [go_sem, p3]) agg_tx rfl hrow) (by simp [Region.wanted, yielded, p2, p3]) rfl rfl
        · intro vs w1' hR hp; obtain ⟨p2, p4, _⟩ := hp
          have hrow : RowAt w1' g1 0 (b.ins.flatMap encTIn) := hR.1.row (RowAt.drew (HR1.out.alloc _)) (by simp only [World.size_alloc, World.size_drew]; omega) (by omega)
          refine step_call (f := 21) (args := #[.agg #[.slice (some ⟨g1, 0, none⟩) b.ins.length c1, .slice (some ⟨g2, 0, none⟩) 1 c2, .int .i64 b.lock]]) (w' := w1') (by simp [go_sem, p4]) (by simp [Region.wanted, yielded, p2, p4]) (weight_any b.ins g1 0 c1 1 c2 (some ⟨g2, 0, none⟩) (.int .i64 b.lock) (by rw [HLN.out]; omega) (by omega) w1' hrow (by have := hR.1.size; simp only [World.size_alloc, World.size_drew] at this; omega)) (fun e w3 hc => ?_)
          obtain ⟨rfl, hb3⟩ := hc
          exact ⟨_, rfl, hb3, by rw [HW.out]⟩
        · intro vs w1' hR hp; obtain ⟨p2, _⟩ := hp
          refine step_value (v := .pointer (some ⟨w.heap.size, 1, none⟩)) (by simp [go_sem, p2]) (by simp [Region.wanted, yielded, p2]) rfl rfl
        · intro vs w1' hR hp; obtain ⟨p2, p6, _⟩ := hp
          have hlim := HLIM.out w1' hR
          refine step_value (v := .int .i64 limit) (by simp [go_sem, p6, hlim]) (by simp [Region.wanted, yielded, p2, p6]) rfl rfl
        · intro vs w1' hR hp; obtain ⟨p2, p5, p7, _⟩ := hp
          refine step_value (v := .bool (decide (wt ≤ limit))) (by simp [go_sem, p2, p5, p7]) (by simp [Region.wanted, yielded, p2, p5, p7]) rfl rfl
        · intro vs w1' hR hp; obtain ⟨p2, p8, _⟩ := hp
          refine step_value (v := .bool (decide (wt ≤ limit))) (by simp [go_sem, p2, p8]) (by rfl) rfl rfl
        · intro vs w1' hR hp; obtain ⟨p0, _⟩ := hp
          obtain ⟨cz, hcz, hbz⟩ := HZ.out w1' hR
          refine Go.XB.step_skip (w' := w1'.setRow (w.heap.size + 1) cs.toArray) ?_ (by rfl) (BoxR.setRow _ HSZ.out.1) (RowAt.setRow hbz)
          exact exec_store_own rfl (by simp [go_sem]) (by simp [go_sem, p0]) sz_bat HSZ.out.1 hbz hcz HSZ.out.2
        · intro vs w1' hR hp; obtain ⟨p9, _⟩ := hp
          refine step_value (v := .bool (decide (wt ≤ limit))) (by simp [go_sem, p9]) (by rfl) rfl rfl
      case fin =>
        simp only [List.length_cons, List.length_nil, Nat.reduceAdd, List.range_succ, List.range_zero, List.nil_append, List.cons_append, AllV]
        intro vs w1' hR hp
        obtain ⟨p0, p1, p2, p3, p4, p5, p6, p7, p8, p9, p10, p11, _⟩ := hp
        simp only [p0, p1, p2, p3, p4, p5, p6, p7, p8, p9, p11]
        have HP := hidI p10
        have HB9 := hidI (HFB.out w1' hR)
        clear hR
        go_wp2
        refine ret_agg2 (v := .bool false) (cs := cs) rfl rfl rfl (by first | rfl | simp [hd]) agg_bat HSZ.out.1 HP.out ⟨cs, rfl, HSZ.out.1, HSZ.out.2, HB9.out, fun b h => by cases h⟩
  

end Go.Proofs.Ytjlledljancafaa
