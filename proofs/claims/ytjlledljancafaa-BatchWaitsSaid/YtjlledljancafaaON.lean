/- maker.one. -/
import Derived.Test.YtjlledljancafaaON0
import Derived.Test.YtjlledljancafaaB4
import Derived.Test.YtjlledljancafaaON1
import Derived.Deep.Cut
set_option linter.unusedSimpArgs false
set_option linter.unusedVariables false
namespace Go.Proofs.Ytjlledljancafaa
open Go.RowKit Go.XB

theorem then_goto {K : Act → World → Prop} {Q : Exit → Act → World → Prop} {l : Nat} {a : Act} {w : World} (h : Q (.goto l) a w) : Exit.then K Q (.goto l) a w := h
theorem J4 {k n : Nat} {wi left : List Inp} {y : Inp} (h1 : 1 ≤ k) (h2 : k < n) (h3 : wi.length ≤ k) (h4 : left.length ≤ k) : 1 ≤ k + 1 ∧ k + 1 ≤ n ∧ (wi ++ [y]).length ≤ k + 1 ∧ left.length ≤ k + 1 := ⟨by omega, by omega, by simp; omega, by omega⟩
theorem jump_mk {l : Nat} {J : Act → World → Prop} {Q : Exit → Act → World → Prop} {a : Act} {w : World} (h : J a w) : Exit.jump l J Q (.goto l) a w := ⟨rfl, h⟩
theorem le44 : 44 ≤ 16777216 := by decide
theorem pos44 : 0 < 44 := by decide
theorem own_mono {w : World} {B B' : Nat} {e : TypeId} {s n : Nat} {v : Value} {xs : List Value} (h : w.ownsRow B e s v n xs) (hb : B' ≤ B) : w.ownsRow B' e s v n xs := by
  refine ⟨h.1, ?_⟩
  rcases h.2 with h2 | ⟨g, cap, cur, h1, h2, h3⟩
  · exact .inl h2
  · exact .inr ⟨g, cap, cur, h1, Nat.le_trans hb h2, h3⟩
theorem quo_two (r : Int) (h0 : 0 ≤ r) (h1 : r ≤ 1000000000) : IntKind.i64.wrap (r.tdiv 2) = r / 2 := by
  rw [Int.tdiv_eq_ediv_of_nonneg h0, IntKind.wrap_i64]; omega
theorem rateI_bd (x : Inp) (next : Int) : 0 ≤ rateI x next ∧ rateI x next ≤ 1000000000 := by
  unfold rateI
  split
  · rename_i h
    have hv := curveV_ok (checkE_cv h).2.1
    obtain ⟨v, hvv⟩ : ∃ v, v = curveV x.since x.dead x.budget (alone x) := ⟨_, rfl⟩
    rw [← hvv] at hv ⊢
    obtain ⟨a1, a2, a3, a4, a5⟩ := hv
    unfold atC
    split
    · omega
    · split
      · omega
      · rename_i h1 h2
        have h3 : (v.d - v.b) * (min (max next (-1)) 1000001 - (v.a : Int)).toNat / (v.c - v.a) ≤ v.d - v.b := by
          rw [Nat.div_le_iff_le_mul_add_pred (by omega)]
          have h4 : (min (max next (-1)) 1000001 - (v.a : Int)).toNat ≤ v.c - v.a := by omega
          have := Nat.mul_le_mul_left (v.d - v.b) h4
          have e : (v.c - v.a) * (v.d - v.b) = (v.d - v.b) * (v.c - v.a) := Nat.mul_comm _ _
          omega
        obtain ⟨q, hq⟩ : ∃ q, q = (v.d - v.b) * (min (max next (-1)) 1000001 - (v.a : Int)).toNat / (v.c - v.a) := ⟨_, rfl⟩
        rw [← hq] at h3 ⊢
        omega
  · omega
theorem left_bd {left : List Inp} (h : left.length ≤ 100) : left.length + 1 ≤ maxLen ∧ (left.length + 1) * 136 ≤ 140737488355328 := ⟨le_maxLen (by omega), by omega⟩
theorem flat_single (x : Inp) : [x].flatMap encInp = encInp x := by simp
theorem own_cell0 {w w1 : World} {A B : Obj} (hR : Ext ((w.alloc A).alloc B).drew w1) : w1.heap[w.heap.size + 1]? = some B := by
  rw [hR.block _ (by simp only [World.size_alloc, World.size_drew]; omega), ← World.size_alloc w A]
  exact heap_alloc_new (w.alloc A) B
theorem sl_inp : sliceB Try.prog 41 93 44 = true := by kernel_rfl
theorem agg_mk : aggB Try.prog 99 3 = true := by kernel_rfl
theorem run_cut1 {P : Program} {t e : TypeId} {g n c : Nat} {i : TypeInfo} (hu : P.underlying t = some (.slice e)) (hi : P.info? e = some i) (hk : 1 ≤ c) (w : World) :
    (Instr.slice t (.slice (some ⟨g, 0, none⟩) n c) none (some (.int .i64 1)) (some (.int .i64 1))).run P w = .ok (.slice (some ⟨g, 0, none⟩) 1 1) w := by
  have h1 : (0 : Int) ≤ 1 ∧ (1 : Int) ≤ ((c : Nat) : Int) := by omega
  have h2 : (0 : Int) ≤ 1 ∧ (1 : Int) ≤ (((1 : Int).toNat : Nat) : Int) := by decide
  simp only [Instr.slice, Sem.run_bind, run_underlying hu, Result.andThen_ok, Instr.sliceBounds, Sem.run_pure, Instr.sliceBound, asIntOf, if_pos h1, if_pos h2, sizeOf, typeInfo, run_program, hi, Nat.zero_mul, Nat.sub_zero, Option.map_some, Addr.add_lit, Nat.zero_add]
  rfl
theorem wpl_cut1 {P : Program} {ops : Array Oper} {rest : List Oper} {o : Oper} {a : Act} {w : World} {Q : Exit → Act → World → Prop} (hgd : o.guard = none) {t e : TypeId} {m g n c : Nat} {x : Operand} (ho : o.op = .slice t x none (some (.const (.int .i64 1))) (some (.const (.int .i64 1))))
    (hx : a.eval x = .slice (some ⟨g, 0, none⟩) n c) (hu : sliceB P t e m = true) (hk : 1 ≤ c) (h : wpList P ops Q rest (a.put o.dst (.slice (some ⟨g, 0, none⟩) 1 1)) w) : wpList P ops Q (o :: rest) a w :=
  wpList_plain hgd fun _ hK => by
    obtain ⟨h1, i, z, hi, _⟩ := sliceB_spec hu
    refine op_run (v := .slice (some ⟨g, 0, none⟩) 1 1) (w' := w) ?_ (hK _ _ h)
    unfold execOp
    have he : ∀ u : Value, a.eval (.const u) = u := fun _ => rfl
    simp only [ho, hx, he, Option.map_some, Option.map_none, Instr.sliceAt, Instr.sureAddr, Sem.run_bind, run_underlying h1, run_cut1 h1 hi hk w, Result.andThen_ok, Sem.run_pure]
theorem oneL_def (next limit key : Int) (x : Inp) (l : List Inp) : oneL next limit key x l = oneA next limit key (rateI x next) l (fitsA limit key [x] (rateI x next)) [x] [] := rfl
theorem OneW.start {w w1 : World} {g : Nat} {x : Inp} {next limit key : Int} (hR : Ext ((w.alloc (.cells #[.int .i64 next, .int .i64 limit, .int .i64 key] 99)).alloc (.cells #[.slice none 0 0, .slice none 0 0, .int .i64 0, .int .i64 0, .int .i64 0] 49)).drew w1) : OneW w w1 g x next limit key none [x] [] (.slice (some ⟨g, 0, none⟩) 1 1) (.slice none 0 0) none := by
  refine ⟨below_two hR, ?_, ⟨[.slice none 0 0, .slice none 0 0, .int .i64 0, .int .i64 0, .int .i64 0], own_cell0 hR, rfl, rfl, fun b hb => by cases hb⟩, World.ownsRow_nil _ _ _ _, .inl ⟨rfl, rfl, rfl⟩, .inl rfl⟩
  exact (hR.block w.heap.size (by simp only [World.size_alloc, World.size_drew]; omega)).trans ((Below.heap_alloc (w.alloc (.cells #[.int .i64 next, .int .i64 limit, .int .i64 key] 99)) _ _ (by simp)).trans (heap_alloc_new w _))
/-- at the label -/
def OneJ (w : World) (g n c : Nat) (x : Inp) (l : List Inp) (next limit key rt : Int) (a' : Act) (w' : World) : Prop :=
  ∃ (k : Nat) (ob : Option Bat) (wi left : List Inp) (vl vw : Value) (r : Option Nat) (u : Nat → Value), Hid (1 ≤ k ∧ k ≤ n ∧ wi.length ≤ k ∧ left.length ≤ k) ∧ Hid (OneW w w' g x next limit key ob wi left vw vl r) ∧ Hid (oneA next limit key rt (l.drop (k - 1)) ob wi left = oneL next limit key x l) ∧ a' = { tmps := List.toArray ((.agg #[.int .i64 next, .int .i64 limit, .int .i64 key]) :: (.slice (some ⟨g, 0, none⟩) n c) :: (.pointer (some ⟨w.heap.size, 0, none⟩)) :: undef :: (.pointer (some ⟨w.heap.size + 1, 0, none⟩)) :: (.bool ob.isSome) :: vl :: (.int .i64 rt) :: vw :: (.int .i64 (k : Int)) :: u 10 :: u 11 :: u 12 :: u 13 :: u 14 :: u 15 :: u 16 :: u 17 :: u 18 :: u 19 :: u 20 :: u 21 :: u 22 :: u 23 :: u 24 :: u 25 :: u 26 :: u 27 :: u 28 :: u 29 :: u 30 :: u 31 :: u 32 :: u 33 :: u 34 :: u 35 :: u 36 :: u 37 :: u 38 :: u 39 :: u 40 :: u 41 :: u 42 :: u 43 :: u 44 :: u 45 :: u 46 :: u 47 :: u 48 :: u 49 :: u 50 :: u 51 :: u 52 :: u 53 :: u 54 :: u 55 :: u 56 :: u 57 :: u 58 :: u 59 :: u 60 :: u 61 :: u 62 :: u 63 :: u 64 :: u 65 :: u 66 :: u 67 :: u 68 :: u 69 :: u 70 :: u 71 :: u 72 :: u 73 :: u 74 :: u 75 :: u 76 :: []), defers := [] }
theorem arr_of (t : Array Value) (n : Nat) (h : t.size = n) : t = ((List.range n).map fun i => t.getD i undef).toArray := by
  apply Array.ext
  · simp [h]
  · intro i h1 h2
    simp [h1]
theorem OneJ.of {w w' : World} {g n c : Nat} {x : Inp} {l : List Inp} {next limit key rt : Int} {a' : Act} (k : Nat) (ob : Option Bat) (wi left : List Inp) (vl vw : Value) (r : Option Nat) (h1 : 1 ≤ k ∧ k ≤ n ∧ wi.length ≤ k ∧ left.length ≤ k) (h2 : OneW w w' g x next limit key ob wi left vw vl r)
    (h3 : oneA next limit key rt (l.drop (k - 1)) ob wi left = oneL next limit key x l) (hs : a'.tmps.size = 77) (hd : a'.defers = []) (e0 : a'.tmps.getD 0 undef = (.agg #[.int .i64 next, .int .i64 limit, .int .i64 key])) (e1 : a'.tmps.getD 1 undef = (.slice (some ⟨g, 0, none⟩) n c)) (e2 : a'.tmps.getD 2 undef = (.pointer (some ⟨w.heap.size, 0, none⟩))) (e3 : a'.tmps.getD 3 undef = undef) (e4 : a'.tmps.getD 4 undef = (.pointer (some ⟨w.heap.size + 1, 0, none⟩))) (e5 : a'.tmps.getD 5 undef = (.bool ob.isSome)) (e6 : a'.tmps.getD 6 undef = vl) (e7 : a'.tmps.getD 7 undef = (.int .i64 rt)) (e8 : a'.tmps.getD 8 undef = vw) (e9 : a'.tmps.getD 9 undef = (.int .i64 (k : Int))) : OneJ w g n c x l next limit key rt a' w' := by
  refine ⟨k, ob, wi, left, vl, vw, r, fun i => a'.tmps.getD i undef, h1, h2, h3, ?_⟩
  have h := arr_of a'.tmps 77 hs
  have e : a' = { tmps := List.toArray (a'.tmps.getD 0 undef :: a'.tmps.getD 1 undef :: a'.tmps.getD 2 undef :: a'.tmps.getD 3 undef :: a'.tmps.getD 4 undef :: a'.tmps.getD 5 undef :: a'.tmps.getD 6 undef :: a'.tmps.getD 7 undef :: a'.tmps.getD 8 undef :: a'.tmps.getD 9 undef :: a'.tmps.getD 10 undef :: a'.tmps.getD 11 undef :: a'.tmps.getD 12 undef :: a'.tmps.getD 13 undef :: a'.tmps.getD 14 undef :: a'.tmps.getD 15 undef :: a'.tmps.getD 16 undef :: a'.tmps.getD 17 undef :: a'.tmps.getD 18 undef :: a'.tmps.getD 19 undef :: a'.tmps.getD 20 undef :: a'.tmps.getD 21 undef :: a'.tmps.getD 22 undef :: a'.tmps.getD 23 undef :: a'.tmps.getD 24 undef :: a'.tmps.getD 25 undef :: a'.tmps.getD 26 undef :: a'.tmps.getD 27 undef :: a'.tmps.getD 28 undef :: a'.tmps.getD 29 undef :: a'.tmps.getD 30 undef :: a'.tmps.getD 31 undef :: a'.tmps.getD 32 undef :: a'.tmps.getD 33 undef :: a'.tmps.getD 34 undef :: a'.tmps.getD 35 undef :: a'.tmps.getD 36 undef :: a'.tmps.getD 37 undef :: a'.tmps.getD 38 undef :: a'.tmps.getD 39 undef :: a'.tmps.getD 40 undef :: a'.tmps.getD 41 undef :: a'.tmps.getD 42 undef :: a'.tmps.getD 43 undef :: a'.tmps.getD 44 undef :: a'.tmps.getD 45 undef :: a'.tmps.getD 46 undef :: a'.tmps.getD 47 undef :: a'.tmps.getD 48 undef :: a'.tmps.getD 49 undef :: a'.tmps.getD 50 undef :: a'.tmps.getD 51 undef :: a'.tmps.getD 52 undef :: a'.tmps.getD 53 undef :: a'.tmps.getD 54 undef :: a'.tmps.getD 55 undef :: a'.tmps.getD 56 undef :: a'.tmps.getD 57 undef :: a'.tmps.getD 58 undef :: a'.tmps.getD 59 undef :: a'.tmps.getD 60 undef :: a'.tmps.getD 61 undef :: a'.tmps.getD 62 undef :: a'.tmps.getD 63 undef :: a'.tmps.getD 64 undef :: a'.tmps.getD 65 undef :: a'.tmps.getD 66 undef :: a'.tmps.getD 67 undef :: a'.tmps.getD 68 undef :: a'.tmps.getD 69 undef :: a'.tmps.getD 70 undef :: a'.tmps.getD 71 undef :: a'.tmps.getD 72 undef :: a'.tmps.getD 73 undef :: a'.tmps.getD 74 undef :: a'.tmps.getD 75 undef :: a'.tmps.getD 76 undef :: []), defers := [] } := by
    conv => lhs; rw [show a' = ⟨a'.tmps, a'.defers⟩ from rfl, h, hd]
    rfl
  rw [e0, e1, e2, e3, e4, e5, e6, e7, e8, e9] at e
  exact e
def OneQ (w : World) (r : Option Bat × List Inp) (e : Ending) (w' : World) : Prop :=
  ∃ (cs : List Value) (v : Value), e = .returned (.tuple #[.agg cs.toArray, .bool r.1.isSome, v]) ∧ cs.length = 5 ∧ cs.all Value.oneCell' = true ∧ Below w.heap.size w w' ∧ (∀ b, r.1 = some b → BatAt w.heap.size w' b cs) ∧ w'.ownsRow w.heap.size 93 44 v r.2.length (r.2.flatMap encInp)
set_option maxRecDepth 100000 in
set_option maxHeartbeats 4000000 in
theorem one_any (x : Inp) (l : List Inp) (g n c : Nat) (next limit key : Int) (h1 : n ≤ 100) (hnc : n ≤ c) (w : World) (hl : (x :: l).length = n) (hr : RowAt w g 0 ((x :: l).flatMap encInp)) (hg : g < w.heap.size) :
    Calls Try.prog 38 #[.agg #[.int .i64 next, .int .i64 limit, .int .i64 key], .slice (some ⟨g, 0, none⟩) n c] w (OneQ w (oneL next limit key x l)) := by
  have h0 : 0 < n := by rw [← hl]; simp
  have HL := hidI hl
  have HR := hidI (And.intro hr hg)
  have HC1 := hidI (show 1 ≤ c by omega)
  have HRX := hidI (show RowAt w g 0 (encInp x) by rw [List.flatMap_cons] at hr; exact RowAt.sub (pre := []) hr)
  obtain ⟨rt, hrt⟩ : ∃ rt, rt = rateI x next := ⟨_, rfl⟩
  have HRT := hidI hrt
  have HON := hidI (oneL_def next limit key x l)
  rw [← hrt] at HON
  clear hl hr hrt hnc
  go_enter Try.func38, Try.ntmps38
  go_wp2
  refine scope_once 0 (OneJ w g n c x l next limit key rt) (fun a' _ => n - (intOf (a'.tmps.getD 9 undef)).toNat) rfl ?first ?pass
  case first =>
    refine wpTo_out (by kernel_rfl) ?_
    go_wp2
    have hkz : (0 : Int) < (n : Int) := by omega
    have hn0 : ¬ n = 0 := by omega
    have HX0 := hidI (show ∀ w1, Ext ((w.alloc (.cells #[.int .i64 next, .int .i64 limit, .int .i64 key] 99)).alloc (.cells #[.slice none 0 0, .slice none 0 0, .int .i64 0, .int .i64 0, .int .i64 0] 49)).drew w1 → RowAt w1 g 0 (encInp x) from fun w1 h => (((HRX.out.alloc _).alloc _).drew).below h (by have := HR.out.2; simp only [World.size_alloc, World.size_drew]; omega))
    have HM0 := hidI (show ∀ w1, Ext ((w.alloc (.cells #[.int .i64 next, .int .i64 limit, .int .i64 key] 99)).alloc (.cells #[.slice none 0 0, .slice none 0 0, .int .i64 0, .int .i64 0, .int .i64 0] 49)).drew w1 → RowAt w1 w.heap.size 0 [.int .i64 next, .int .i64 limit, .int .i64 key] from fun w1 h => (((RowAt.new (by rfl)).alloc _).drew).below h (by simp only [World.size_alloc, World.size_drew]; omega))
    have HN0 := hidI (show ∀ w1, Ext ((w.alloc (.cells #[.int .i64 next, .int .i64 limit, .int .i64 key] 99)).alloc (.cells #[.slice none 0 0, .slice none 0 0, .int .i64 0, .int .i64 0, .int .i64 0] 49)).drew w1 → w1.cell? ⟨w.heap.size, 0, none⟩ = some (.int .i64 next) from fun w1 h => RowAt.cell0 (HM0.out w1 h) 0 rfl)
    refine wp_region_p _ [[], [0], [1], [], [3], [2, 4], [5]] Ext (fun ix v w' => match ix with | 0 => v = .slice (some ⟨g, 0, none⟩) n c | 1 => v = .pointer (some ⟨g, 0, none⟩) | 2 => v = .agg (encInp x).toArray | 3 => v = .pointer (some ⟨w.heap.size, 0, none⟩) | 4 => v = .int .i64 next | 5 => v = .int .i64 rt | 6 => v = .int .i64 rt | _ => True) (by kernel_rfl) (by kernel_rfl) (by kernel_rfl) (by kernel_rfl) (fun vs => by simp only [putAll, Act.put, List.setIfInBounds_toArray, List.set_cons_zero, List.set_cons_succ]; rfl) (fun w => Ext.refl w) (fun _ _ _ h k => Ext.trans h k) ?stab ?steps ?fin
    case stab =>
      intro i v w1 w2 hv hr
      exact hv
    case steps =>
      simp only [StepAllP, List.headD, List.tail, AllV]
      refine ⟨?_, ?_, ?_, ?_, ?_, ?_, ?_, trivial⟩
      · intro vs w1 hR hp; have hcl := (bcell hR).1
        refine step_value (v := .slice (some ⟨g, 0, none⟩) n c) (by simp [go_sem, hcl, hkz, hn0]) (by rfl) (Ext.refl _) rfl
      · intro vs w1 hR hp; have hcl := (bcell hR).1; obtain ⟨p0, _⟩ := hp
        refine step_value (v := .pointer (some ⟨g, 0, none⟩)) (by simp [go_sem, hcl, p0, hkz, hn0]) (by rfl) (Ext.refl _) rfl
      · intro vs w1 hR hp; have hcl := (bcell hR).1; obtain ⟨p1, _⟩ := hp
        refine step_value (exec_load_agg (b := g) (off := 0) rfl (by simp [go_sem, p1]) agg_inp (encInp_length x) (HX0.out w1 hR)) (by rfl) (Ext.refl _) rfl
      · intro vs w1 hR hp; have hcl := (bcell hR).1
        refine step_value (v := .pointer (some ⟨w.heap.size, 0, none⟩)) (by simp [go_sem, hcl, hkz, hn0]) (by rfl) (Ext.refl _) rfl
      · intro vs w1 hR hp; have hcl := (bcell hR).1; obtain ⟨p3, _⟩ := hp
        have q := HN0.out w1 hR
        refine step_value (v := .int .i64 next) (by simp [go_sem, p3, q]) (by rfl) (Ext.refl _) rfl
      · intro vs w1 hR hp; have hcl := (bcell hR).1; obtain ⟨p2, p4, _⟩ := hp
        refine step_call (f := 65) (args := #[.agg (encInp x).toArray, .int .i64 next]) (w' := w1) (by simp [go_sem, p2, p4]) (by rfl) (rate_any x next w1) (fun e w3 hc => ?_)
        obtain ⟨rfl, hb3⟩ := hc
        exact ⟨_, rfl, hb3, by rw [HRT.out]⟩
      · intro vs w1 hR hp; have hcl := (bcell hR).1; obtain ⟨p5, _⟩ := hp
        refine step_value (v := .int .i64 rt) (by simp [go_sem, hcl, p5, hkz, hn0]) (by rfl) (Ext.refl _) rfl
    case fin =>
      simp only [List.length_cons, List.length_nil, Nat.reduceAdd, List.range_succ, List.range_zero, List.nil_append, List.cons_append, AllV]
      intro vs w1 hR hp
      obtain ⟨p0, p1, p2, p3, p4, p5, p6, _⟩ := hp
      simp only [p0, p1, p2, p3, p4, p5, p6]
      have HMK1 := hidI (HM0.out w1 hR)
      have HBX1 := hidI (show ∀ w2, Below w1.heap.size w1 w2 → w2.heap[w.heap.size + 1]? = some (.cells #[.slice none 0 0, .slice none 0 0, .int .i64 0, .int .i64 0, .int .i64 0] 49 (0, 0)) from fun w2 h => by
        have e1 : w1.heap[w.heap.size + 1]? = some (.cells #[.slice none 0 0, .slice none 0 0, .int .i64 0, .int .i64 0, .int .i64 0] 49 (0, 0)) := own_cell0 hR
        have := (Array.getElem?_eq_some_iff.1 e1).1
        exact (h.block _ (by omega)).trans e1)
      have HFT := hidI (show Calls Try.prog 66 #[.agg #[.int .i64 next, .int .i64 limit, .int .i64 key], .slice (some ⟨g, 0, none⟩) 1 1, .int .i64 rt] w1 (MakeQ w1 (fitsA limit key [x] rt)) from fits_any [x] g 1 1 next limit key rt (by omega) (by omega) w1 rfl (by rw [flat_single]; exact HX0.out w1 hR) (by have hs1 := hR.size; have hs2 := HR.out.2; simp only [World.size_alloc, World.size_drew] at hs1; omega))
      have HB1 := hidI (below_two hR)
      have hzr : w.heap.size + 2 ≤ w1.heap.size := by have := hR.size; simp only [World.size_alloc, World.size_drew] at this; omega
      have HW1 := hidI (OneW.start (g := g) (x := x) hR)
      clear hR hn0 hkz
      refine wpTo_out (by kernel_rfl) ?_
      go_wp2_with (first
        | (with_reducible refine at_load 99 rfl ?_; refine wpl_load_agg (b := w.heap.size) (cs := [.int .i64 next, .int .i64 limit, .int .i64 key]) rfl rfl rfl agg_mk rfl HMK1.out ?_; (try simp only [Act.put, List.setIfInBounds_toArray, List.set_cons_zero, List.set_cons_succ, World.size_alloc]))
        | (go_at_call 66; (with_reducible refine (HFT.out).mono ?_); rintro e w2 ⟨cs, rfl, hcl, hc1, hb2, hB⟩; have HQ := hidI (And.intro hcl (And.intro hc1 (And.intro hb2 hB))); have hz2 : w1.heap.size ≤ w2.heap.size := hb2.size; clear hcl hc1 hb2 hB)
        | (with_reducible refine at_store 49 rfl ?_; refine wpl_store_own (e := 49) (cs := cs) rfl rfl rfl rfl rfl sz_bat HQ.out.1 (HBX1.out w2 HQ.out.2.2.1) rfl HQ.out.2.1 ?_; (try simp only [Act.put, List.setIfInBounds_toArray, List.set_cons_zero, List.set_cons_succ, World.size_alloc]))
        | (refine wpl_cut1 rfl rfl rfl sl_inp HC1.out ?_; (try simp only [Act.put, List.setIfInBounds_toArray, List.set_cons_zero, List.set_cons_succ, World.size_alloc])))
      refine wpTo_out (by kernel_rfl) ?_
      go_wp2
      refine wpTo_out (by kernel_rfl) ?_
      go_wp2_with (first
        | (with_reducible refine at_load 99 rfl ?_; refine wpl_load_agg (b := w.heap.size) (cs := [.int .i64 next, .int .i64 limit, .int .i64 key]) rfl rfl rfl agg_mk rfl HMK1.out ?_; (try simp only [Act.put, List.setIfInBounds_toArray, List.set_cons_zero, List.set_cons_succ, World.size_alloc]))
        | (go_at_call 66; (with_reducible refine (HFT.out).mono ?_); rintro e w2 ⟨cs, rfl, hcl, hc1, hb2, hB⟩; have HQ := hidI (And.intro hcl (And.intro hc1 (And.intro hb2 hB))); have hz2 : w1.heap.size ≤ w2.heap.size := hb2.size; clear hcl hc1 hb2 hB)
        | (with_reducible refine at_store 49 rfl ?_; refine wpl_store_own (e := 49) (cs := cs) rfl rfl rfl rfl rfl sz_bat HQ.out.1 (HBX1.out w2 HQ.out.2.2.1) rfl HQ.out.2.1 ?_; (try simp only [Act.put, List.setIfInBounds_toArray, List.set_cons_zero, List.set_cons_succ, World.size_alloc]))
        | (refine wpl_cut1 rfl rfl rfl sl_inp HC1.out ?_; (try simp only [Act.put, List.setIfInBounds_toArray, List.set_cons_zero, List.set_cons_succ, World.size_alloc])))
      refine wpTo_in (by kernel_rfl) ?_
      refine wpTo_label ?_
      refine OneJ.of 1 (fitsA limit key [x] rt) [x] [] (.slice none 0 0) (.slice (some ⟨g, 0, none⟩) 1 1) none ⟨by omega, by omega, by simp, by simp⟩ ((HW1.out.ext HQ.out.2.2.1).setBox HQ.out.1 HQ.out.2.1 (fun b hb => (HQ.out.2.2.2 b hb).mono (by omega))) (by rw [HON.out]; rfl) rfl rfl rfl rfl rfl rfl rfl rfl rfl rfl rfl rfl

  case pass =>
    rintro a' w' ⟨k, ob, wi, left, vl, vw, r, u, HK, HM, HO, rfl⟩
    iterate 4 refine wpFrom_out (by kernel_rfl) ?_
    refine wpFrom_in (by kernel_rfl) ?_
    refine wpFrom_label ?_
    have hz0 := HM.out.size
    obtain ⟨hk1, hk2, hwl, hll⟩ := HK.out
    by_cases hlt : k < n
    · obtain ⟨y, hy⟩ : ∃ y, y = (x :: l)[k]'(by rw [HL.out]; exact hlt) := ⟨_, rfl⟩
      have HDR := hidI (show l.drop (k - 1) = y :: l.drop k by
        have h := List.drop_eq_getElem_cons (show k < (x :: l).length by rw [HL.out]; exact hlt)
        rw [← hy] at h
        obtain ⟨j, rfl⟩ : ∃ j, k = j + 1 := ⟨k - 1, by omega⟩
        simpa using h)
      have HYR := hidI (show RowAt w' g (k * 44) (encInp y) by rw [hy]; have := (RowAt.elem encInp_length HR.out.1 (show k < (x :: l).length by rw [HL.out]; exact hlt)).below HM.out.below HR.out.2; rwa [Nat.zero_add] at this)
      clear hy
      obtain ⟨ry, hry⟩ : ∃ ry, ry = rateI y next := ⟨_, rfl⟩
      have HRY := hidI hry
      clear hry
      have hkz : (k : Int) < (n : Int) := by omega
      have hkn : ((k : Int) == (n : Int)) = false := by simp; omega
      have hk0 : ¬ (k : Int) < 0 := by omega
      obtain ⟨hr0, hr1⟩ := rateI_bd x next
      rw [← HRT.out] at hr0 hr1
      have hq := quo_two rt hr0 hr1
      have hgw := hidI (show g < w'.heap.size from Nat.lt_of_lt_of_le HR.out.2 HM.out.below.size)
      have HY0 := hidI (show ∀ w1, Ext w'.drew w1 → RowAt w1 g (k * 44) (encInp y) from fun w1 h => (HYR.out.drew).below h (by have := hgw.out; simpa using this))
      have HN0 := hidI (show ∀ w1, Ext w'.drew w1 → w1.cell? ⟨w.heap.size, 0, none⟩ = some (.int .i64 next) from fun w1 h => RowAt.cell0 ((HM.out.mkRow.drew).below h (by simp only [World.size_drew]; omega)) 0 rfl)
      by_cases hge : rt / 2 ≤ ry
      · have hgb : decide (rt / 2 ≤ ry) = true := by simpa using hge
        have HGE := hidI hge
        clear hge
        go_wp2
        refine wp_region_p _ [[], [], [0, 1], [2], [], [4], [3, 5], [], [7], [6, 8]] Ext (fun ix v w' => match ix with | 0 => v = .slice (some ⟨g, 0, none⟩) n c | 1 => v = .int .i64 (k : Int) | 2 => v = .pointer (some ⟨g, k * 44, none⟩) | 3 => v = .agg (encInp y).toArray | 4 => v = .pointer (some ⟨w.heap.size, 0, none⟩) | 5 => v = .int .i64 next | 6 => v = .int .i64 ry | 7 => v = .int .i64 rt | 8 => v = .int .i64 (rt / 2) | 9 => v = .bool true | _ => True) (by kernel_rfl) (by kernel_rfl) (by kernel_rfl) (by kernel_rfl) (fun vs => by simp only [putAll, Act.put, List.setIfInBounds_toArray, List.set_cons_zero, List.set_cons_succ]; rfl) (fun w => Ext.refl w) (fun _ _ _ h k => Ext.trans h k) ?stab ?steps ?fin
        case stab =>
          intro i v w1 w2 hv hr
          exact hv
        case steps =>
          simp only [StepAllP, List.headD, List.tail, AllV]
          refine ⟨?_, ?_, ?_, ?_, ?_, ?_, ?_, ?_, ?_, ?_, trivial⟩
          · intro vs w1 hR hp; have hcl := (bcell hR).1
            refine step_value (v := .slice (some ⟨g, 0, none⟩) n c) (by simp [go_sem, hcl, hkz, hk0, hlt, hgb]) (by rfl) (Ext.refl _) rfl
          · intro vs w1 hR hp; have hcl := (bcell hR).1
            refine step_value (v := .int .i64 (k : Int)) (by simp [go_sem, hcl, hkz, hk0, hlt, hgb]) (by rfl) (Ext.refl _) rfl
          · intro vs w1 hR hp; have hcl := (bcell hR).1; obtain ⟨p0, p1, _⟩ := hp
            refine step_value (v := .pointer (some ⟨g, k * 44, none⟩)) (by simp [go_sem, hcl, p0, p1, hkz, hk0, hlt, hgb]) (by rfl) (Ext.refl _) rfl
          · intro vs w1 hR hp; have hcl := (bcell hR).1; obtain ⟨p2, _⟩ := hp
            refine step_value (exec_load_agg (b := g) (off := k * 44) rfl (by simp [go_sem, p2]) agg_inp (encInp_length y) (HY0.out w1 hR)) (by rfl) (Ext.refl _) rfl
          · intro vs w1 hR hp; have hcl := (bcell hR).1
            refine step_value (v := .pointer (some ⟨w.heap.size, 0, none⟩)) (by simp [go_sem, hcl, hkz, hk0, hlt, hgb]) (by rfl) (Ext.refl _) rfl
          · intro vs w1 hR hp; have hcl := (bcell hR).1; obtain ⟨p4, _⟩ := hp
            have q := HN0.out w1 hR
            refine step_value (v := .int .i64 next) (by simp [go_sem, p4, q]) (by rfl) (Ext.refl _) rfl
          · intro vs w1 hR hp; have hcl := (bcell hR).1; obtain ⟨p3, p5, _⟩ := hp
            refine step_call (f := 65) (args := #[.agg (encInp y).toArray, .int .i64 next]) (w' := w1) (by simp [go_sem, p3, p5]) (by rfl) (rate_any y next w1) (fun e w3 hc => ?_)
            obtain ⟨rfl, hb3⟩ := hc
            exact ⟨_, rfl, hb3, by rw [HRY.out]⟩
          · intro vs w1 hR hp; have hcl := (bcell hR).1
            refine step_value (v := .int .i64 rt) (by simp [go_sem, hcl, hkz, hk0, hlt, hgb]) (by rfl) (Ext.refl _) rfl
          · intro vs w1 hR hp; have hcl := (bcell hR).1; obtain ⟨p7, _⟩ := hp
            refine step_value (v := .int .i64 (rt / 2)) (by simp [go_sem, p7, hq]) (by rfl) (Ext.refl _) rfl
          · intro vs w1 hR hp; have hcl := (bcell hR).1; obtain ⟨p6, p8, _⟩ := hp
            refine step_value (v := .bool true) (by simp [go_sem, hcl, p6, p8, hkz, hk0, hlt, hgb]) (by rfl) (Ext.refl _) rfl
        case fin =>
          simp only [List.length_cons, List.length_nil, Nat.reduceAdd, List.range_succ, List.range_zero, List.nil_append, List.cons_append, AllV]
          intro vs w1 hR hp
          obtain ⟨p0, p1, p2, p3, p4, p5, p6, p7, p8, p9, _⟩ := hp
          simp only [p0, p1, p2, p3, p4, p5, p6, p7, p8, p9]
          have M3 := hidI (HM.out.ext (show Below w'.heap.size w' w1 from ((Below.refl _ _).drew).trans hR))
          have HY3 := hidI (HY0.out w1 hR)
          clear hR
          obtain ⟨wS, hwS⟩ : ∃ wS, wS = w1 := ⟨_, rfl⟩
          rw [← hwS] at M3 HY3
          rw [← hwS]
          clear hwS
          have hsS := M3.out.size
          have hgS := Nat.lt_of_lt_of_le HR.out.2 M3.out.below.size
          have hrN := hidI (fun k (h : r = some k) => (M3.out.wi.lt k h).2)
          have HWL := hidI (show wi.length ≤ 1000 by omega)
          obtain ⟨rf, hrf⟩ : ∃ rf, fitsA limit key (wi ++ [y]) rt = rf := ⟨_, rfl⟩
          have HRF := hidI hrf
          clear hrf
          have HXS := hidI (show RowAt wS g 0 (encInp x) from HRX.out.below M3.out.below HR.out.2)
          have HIN := hidI (show ∀ w1, OneR wS.heap.size (w.heap.size + 2) g x vw wi r none wS.drew w1 → RowAt w1 w.heap.size 0 [.int .i64 next, .int .i64 limit, .int .i64 key] ∧ RowAt w1 g (k * 44) (encInp y) ∧ RowAt w1 g 0 (encInp x) ∧ WithV w1 (w.heap.size + 2) g x vw wi r ∧ wS.heap.size ≤ w1.heap.size from fun w1 h =>
            ⟨oneR_row M3.out h (by omega) (by omega) (by simp) M3.out.mkRow, oneR_row M3.out h (by omega) (by have := HR.out.2; omega) (by simp) HY3.out, oneR_row M3.out h (by omega) (by have := HR.out.2; omega) (by simp) HXS.out, h.2.1 M3.out.wi, h.1.2.2.2.1⟩)
          go_wp2
          refine wp_region_g _ [[], [], [], [], [2, 3], [4], [5], [1, 6], [], [0, 7, 8], [9], [9, 10], [9, 10], [], [9, 11, 13], [12]] (OneR wS.heap.size (w.heap.size + 2) g x vw wi r none) (fun ix u v => match ix with | 6 => Ext u v | 7 => AppS (w.heap.size + 2) g x vw wi r none u v | 9 => Ext u v | 13 => Ext u v | 14 => BoxS wS.heap.size u v | _ => u = v) (fun ix vs w' => match ix with | 0 => vs 0 = .agg #[.int .i64 next, .int .i64 limit, .int .i64 key] | 1 => vs 1 = vw | 2 => vs 2 = .slice (some ⟨g, 0, none⟩) n c | 3 => vs 3 = .int .i64 (k : Int) | 4 => vs 4 = .pointer (some ⟨g, k * 44, none⟩) | 5 => vs 5 = .agg (encInp y).toArray | 6 => ∃ g6, vs 6 = .slice (some ⟨g6, 0, none⟩) 1 1 ∧ wS.heap.size ≤ g6 ∧ w'.heap[g6]? = some (.cells (encInp y).toArray 93 (0, 0)) | 7 => w'.ownsRow (w.heap.size + 2) 93 44 (vs 7) (wi.length + 1) ((wi ++ [y]).flatMap encInp) | 8 => vs 8 = .int .i64 rt | 9 => ∃ cs : List Value, vs 9 = .tuple #[.agg cs.toArray, .bool rf.isSome] ∧ cs.length = 5 ∧ cs.all Value.oneCell' = true ∧ ∀ b, rf = some b → BatAt w.heap.size w' b cs | 10 => vs 10 = vs 9 | 11 => ∃ cs : List Value, vs 11 = .agg cs.toArray ∧ vs 9 = .tuple #[.agg cs.toArray, .bool rf.isSome] | 12 => vs 12 = .bool rf.isSome | 13 => ∃ (b10 : Nat) (cz : Array Value), vs 13 = .pointer (some ⟨b10, 0, none⟩) ∧ wS.heap.size ≤ b10 ∧ w'.heap[b10]? = some (.cells cz 49 (0, 0)) ∧ cz.size = 5 | 14 => ∃ (b10 : Nat) (cs : List Value), vs 13 = .pointer (some ⟨b10, 0, none⟩) ∧ vs 9 = .tuple #[.agg cs.toArray, .bool rf.isSome] ∧ w'.heap[b10]? = some (.cells cs.toArray 49 (0, 0)) | 15 => vs 15 = .bool rf.isSome | _ => True) (by kernel_rfl) (by kernel_rfl) (by kernel_rfl) (by kernel_rfl) (fun vs => by simp only [putAll, Act.put, List.setIfInBounds_toArray, List.set_cons_zero, List.set_cons_succ]; rfl) OneR.refl OneR.trans ?hsr ?hse ?stab ?steps ?fin
          case hsr =>
            intro i u u' h
            match i, h with
            | 0, h => cases h; exact (OneR.refl) _
            | 1, h => cases h; exact (OneR.refl) _
            | 2, h => cases h; exact (OneR.refl) _
            | 3, h => cases h; exact (OneR.refl) _
            | 4, h => cases h; exact (OneR.refl) _
            | 5, h => cases h; exact (OneR.refl) _
            | 6, h => exact OneR.ext h
            | 7, h => exact OneR.app h
            | 8, h => cases h; exact (OneR.refl) _
            | 9, h => exact OneR.ext h
            | 10, h => cases h; exact (OneR.refl) _
            | 11, h => cases h; exact (OneR.refl) _
            | 12, h => cases h; exact (OneR.refl) _
            | 13, h => exact OneR.ext h
            | 14, h => exact OneR.box h (fun _ h => by cases h)
            | 15, h => cases h; exact (OneR.refl) _
            | n + 16, h => cases h; exact (OneR.refl) _
          case hse =>
            intro i u
            match i with
            | 0 => rfl
            | 1 => rfl
            | 2 => rfl
            | 3 => rfl
            | 4 => rfl
            | 5 => rfl
            | 6 => first | exact Ext.refl _ | exact (OneR.refl) _ | exact AppS.refl _ | exact BoxS.refl _ | exact BoxR.refl _ | exact BoxB.refl _
            | 7 => first | exact Ext.refl _ | exact (OneR.refl) _ | exact AppS.refl _ | exact BoxS.refl _ | exact BoxR.refl _ | exact BoxB.refl _
            | 8 => rfl
            | 9 => first | exact Ext.refl _ | exact (OneR.refl) _ | exact AppS.refl _ | exact BoxS.refl _ | exact BoxR.refl _ | exact BoxB.refl _
            | 10 => rfl
            | 11 => rfl
            | 12 => rfl
            | 13 => first | exact Ext.refl _ | exact (OneR.refl) _ | exact AppS.refl _ | exact BoxS.refl _ | exact BoxR.refl _ | exact BoxB.refl _
            | 14 => first | exact Ext.refl _ | exact (OneR.refl) _ | exact AppS.refl _ | exact BoxS.refl _ | exact BoxR.refl _ | exact BoxB.refl _
            | 15 => rfl
            | n + 16 => rfl
          case stab =>
            intro i j vs v u u' hij hi hj hp hv hs
            match i, hv with
            | 0, hv =>
              match j, hp, hij with
              | 0, hp, hij => exact absurd rfl hij
              | 1, hp, hij => exact hv
              | 2, hp, hij => exact hv
              | 3, hp, hij => exact hv
              | 4, hp, hij => exact hv
              | 5, hp, hij => exact hv
              | 6, hp, hij => exact hv
              | 7, hp, hij => exact hv
              | 8, hp, hij => exact hv
              | 9, hp, hij => exact hv
              | 10, hp, hij => exact hv
              | 11, hp, hij => exact hv
              | 12, hp, hij => exact hv
              | 13, hp, hij => exact hv
              | 14, hp, hij => exact hv
              | 15, hp, hij => exact hv
              | n + 16, _, _ => exact absurd hj (by simp)
            | 1, hv =>
              match j, hp, hij with
              | 0, hp, hij => exact hv
              | 1, hp, hij => exact absurd rfl hij
              | 2, hp, hij => exact hv
              | 3, hp, hij => exact hv
              | 4, hp, hij => exact hv
              | 5, hp, hij => exact hv
              | 6, hp, hij => exact hv
              | 7, hp, hij => exact hv
              | 8, hp, hij => exact hv
              | 9, hp, hij => exact hv
              | 10, hp, hij => exact hv
              | 11, hp, hij => exact hv
              | 12, hp, hij => exact hv
              | 13, hp, hij => exact hv
              | 14, hp, hij => exact hv
              | 15, hp, hij => exact hv
              | n + 16, _, _ => exact absurd hj (by simp)
            | 2, hv =>
              match j, hp, hij with
              | 0, hp, hij => exact hv
              | 1, hp, hij => exact hv
              | 2, hp, hij => exact absurd rfl hij
              | 3, hp, hij => exact hv
              | 4, hp, hij => exact hv
              | 5, hp, hij => exact hv
              | 6, hp, hij => exact hv
              | 7, hp, hij => exact hv
              | 8, hp, hij => exact hv
              | 9, hp, hij => exact hv
              | 10, hp, hij => exact hv
              | 11, hp, hij => exact hv
              | 12, hp, hij => exact hv
              | 13, hp, hij => exact hv
              | 14, hp, hij => exact hv
              | 15, hp, hij => exact hv
              | n + 16, _, _ => exact absurd hj (by simp)
            | 3, hv =>
              match j, hp, hij with
              | 0, hp, hij => exact hv
              | 1, hp, hij => exact hv
              | 2, hp, hij => exact hv
              | 3, hp, hij => exact absurd rfl hij
              | 4, hp, hij => exact hv
              | 5, hp, hij => exact hv
              | 6, hp, hij => exact hv
              | 7, hp, hij => exact hv
              | 8, hp, hij => exact hv
              | 9, hp, hij => exact hv
              | 10, hp, hij => exact hv
              | 11, hp, hij => exact hv
              | 12, hp, hij => exact hv
              | 13, hp, hij => exact hv
              | 14, hp, hij => exact hv
              | 15, hp, hij => exact hv
              | n + 16, _, _ => exact absurd hj (by simp)
            | 4, hv =>
              match j, hp, hij with
              | 0, hp, hij => exact hv
              | 1, hp, hij => exact hv
              | 2, hp, hij => exact absurd (show false = true from hp.symm.trans (by kernel_rfl)) (by decide)
              | 3, hp, hij => exact absurd (show false = true from hp.symm.trans (by kernel_rfl)) (by decide)
              | 4, hp, hij => exact absurd rfl hij
              | 5, hp, hij => exact hv
              | 6, hp, hij => exact hv
              | 7, hp, hij => exact hv
              | 8, hp, hij => exact hv
              | 9, hp, hij => exact hv
              | 10, hp, hij => exact hv
              | 11, hp, hij => exact hv
              | 12, hp, hij => exact hv
              | 13, hp, hij => exact hv
              | 14, hp, hij => exact hv
              | 15, hp, hij => exact hv
              | n + 16, _, _ => exact absurd hj (by simp)
            | 5, hv =>
              match j, hp, hij with
              | 0, hp, hij => exact hv
              | 1, hp, hij => exact hv
              | 2, hp, hij => exact hv
              | 3, hp, hij => exact hv
              | 4, hp, hij => exact absurd (show false = true from hp.symm.trans (by kernel_rfl)) (by decide)
              | 5, hp, hij => exact absurd rfl hij
              | 6, hp, hij => exact hv
              | 7, hp, hij => exact hv
              | 8, hp, hij => exact hv
              | 9, hp, hij => exact hv
              | 10, hp, hij => exact hv
              | 11, hp, hij => exact hv
              | 12, hp, hij => exact hv
              | 13, hp, hij => exact hv
              | 14, hp, hij => exact hv
              | 15, hp, hij => exact hv
              | n + 16, _, _ => exact absurd hj (by simp)
            | 6, hv =>
              match j, hs, hp, hij with
              | 0, hs, hp, hij => cases hs; exact hv
              | 1, hs, hp, hij => cases hs; exact hv
              | 2, hs, hp, hij => cases hs; exact hv
              | 3, hs, hp, hij => cases hs; exact hv
              | 4, hs, hp, hij => cases hs; exact hv
              | 5, hs, hp, hij => cases hs; exact hv
              | 6, hs, hp, hij => exact absurd rfl hij
              | 7, hs, hp, hij => obtain ⟨g6, e6, hN, h6⟩ := hv; exact ⟨g6, e6, hN, (hs.1.block g6 (lt_of h6) (fun e => by have := hrN.out g6 e.symm; omega)).trans h6⟩
              | 8, hs, hp, hij => cases hs; exact hv
              | 9, hs, hp, hij => obtain ⟨g6, e6, hN, h6⟩ := hv; exact ⟨g6, e6, hN, (Below.block hs g6 (lt_of h6)).trans h6⟩
              | 10, hs, hp, hij => cases hs; exact hv
              | 11, hs, hp, hij => cases hs; exact hv
              | 12, hs, hp, hij => cases hs; exact hv
              | 13, hs, hp, hij => obtain ⟨g6, e6, hN, h6⟩ := hv; exact ⟨g6, e6, hN, (Below.block hs g6 (lt_of h6)).trans h6⟩
              | 14, hs, hp, hij => obtain ⟨g6, e6, hN, h6⟩ := hv; rcases hs with rfl | ⟨b, cz, hb, hcz, hbx⟩; exact ⟨g6, e6, hN, h6⟩; exact ⟨g6, e6, hN, (hbx.1.block g6 (lt_of h6) (fun e => by injection e with e; exact ne_type h6 hcz (by decide) e)).trans h6⟩
              | 15, hs, hp, hij => cases hs; exact hv
              | n + 16, _, _, _ => exact absurd hj (by simp)
            | 7, hv =>
              match j, hs, hp, hij with
              | 0, hs, hp, hij => cases hs; exact hv
              | 1, hs, hp, hij => cases hs; exact hv
              | 2, hs, hp, hij => cases hs; exact hv
              | 3, hs, hp, hij => cases hs; exact hv
              | 4, hs, hp, hij => cases hs; exact hv
              | 5, hs, hp, hij => cases hs; exact hv
              | 6, hs, hp, hij => exact absurd (show false = true from hp.symm.trans (by kernel_rfl)) (by decide)
              | 7, hs, hp, hij => exact absurd rfl hij
              | 8, hs, hp, hij => cases hs; exact hv
              | 9, hs, hp, hij => exact own_ext hv hs
              | 10, hs, hp, hij => cases hs; exact hv
              | 11, hs, hp, hij => cases hs; exact hv
              | 12, hs, hp, hij => cases hs; exact hv
              | 13, hs, hp, hij => exact own_ext hv hs
              | 14, hs, hp, hij => rcases hs with rfl | ⟨b, cz, hb, hcz, hbx⟩; exact hv; exact hv.kept hbx.1 (.inr (own_other hv hcz (by decide)))
              | 15, hs, hp, hij => cases hs; exact hv
              | n + 16, _, _, _ => exact absurd hj (by simp)
            | 8, hv =>
              match j, hp, hij with
              | 0, hp, hij => exact hv
              | 1, hp, hij => exact hv
              | 2, hp, hij => exact hv
              | 3, hp, hij => exact hv
              | 4, hp, hij => exact hv
              | 5, hp, hij => exact hv
              | 6, hp, hij => exact hv
              | 7, hp, hij => exact hv
              | 8, hp, hij => exact absurd rfl hij
              | 9, hp, hij => exact hv
              | 10, hp, hij => exact hv
              | 11, hp, hij => exact hv
              | 12, hp, hij => exact hv
              | 13, hp, hij => exact hv
              | 14, hp, hij => exact hv
              | 15, hp, hij => exact hv
              | n + 16, _, _ => exact absurd hj (by simp)
            | 9, hv =>
              match j, hs, hp, hij with
              | 0, hs, hp, hij => cases hs; exact hv
              | 1, hs, hp, hij => cases hs; exact hv
              | 2, hs, hp, hij => cases hs; exact hv
              | 3, hs, hp, hij => cases hs; exact hv
              | 4, hs, hp, hij => cases hs; exact hv
              | 5, hs, hp, hij => cases hs; exact hv
              | 6, hs, hp, hij => exact absurd (show false = true from hp.symm.trans (by kernel_rfl)) (by decide)
              | 7, hs, hp, hij => exact absurd (show false = true from hp.symm.trans (by kernel_rfl)) (by decide)
              | 8, hs, hp, hij => cases hs; exact hv
              | 9, hs, hp, hij => exact absurd rfl hij
              | 10, hs, hp, hij => cases hs; exact hv
              | 11, hs, hp, hij => cases hs; exact hv
              | 12, hs, hp, hij => cases hs; exact hv
              | 13, hs, hp, hij => obtain ⟨cs, e9, h1, h2, h3⟩ := hv; exact ⟨cs, e9, h1, h2, fun b hb => (h3 b hb).ext hs⟩
              | 14, hs, hp, hij => obtain ⟨cs, e9, h1, h2, h3⟩ := hv; rcases hs with rfl | ⟨b, cz, hb, hcz, hbx⟩; exact ⟨cs, e9, h1, h2, h3⟩; exact ⟨cs, e9, h1, h2, fun b' hb' => (h3 b' hb').keep hbx.1 (fun k cur T hk hT => fun e => by injection e with e; exact ne_type hk hcz (by rcases hT with rfl | rfl <;> decide) e)⟩
              | 15, hs, hp, hij => cases hs; exact hv
              | n + 16, _, _, _ => exact absurd hj (by simp)
            | 10, hv =>
              match j, hp, hij with
              | 0, hp, hij => exact hv
              | 1, hp, hij => exact hv
              | 2, hp, hij => exact hv
              | 3, hp, hij => exact hv
              | 4, hp, hij => exact hv
              | 5, hp, hij => exact hv
              | 6, hp, hij => exact hv
              | 7, hp, hij => exact hv
              | 8, hp, hij => exact hv
              | 9, hp, hij => exact absurd (show false = true from hp.symm.trans (by kernel_rfl)) (by decide)
              | 10, hp, hij => exact absurd rfl hij
              | 11, hp, hij => exact hv
              | 12, hp, hij => exact hv
              | 13, hp, hij => exact hv
              | 14, hp, hij => exact hv
              | 15, hp, hij => exact hv
              | n + 16, _, _ => exact absurd hj (by simp)
            | 11, hv =>
              match j, hp, hij with
              | 0, hp, hij => exact hv
              | 1, hp, hij => exact hv
              | 2, hp, hij => exact hv
              | 3, hp, hij => exact hv
              | 4, hp, hij => exact hv
              | 5, hp, hij => exact hv
              | 6, hp, hij => exact hv
              | 7, hp, hij => exact hv
              | 8, hp, hij => exact hv
              | 9, hp, hij => exact absurd (show false = true from hp.symm.trans (by kernel_rfl)) (by decide)
              | 10, hp, hij => exact absurd (show false = true from hp.symm.trans (by kernel_rfl)) (by decide)
              | 11, hp, hij => exact absurd rfl hij
              | 12, hp, hij => exact hv
              | 13, hp, hij => exact hv
              | 14, hp, hij => exact hv
              | 15, hp, hij => exact hv
              | n + 16, _, _ => exact absurd hj (by simp)
            | 12, hv =>
              match j, hp, hij with
              | 0, hp, hij => exact hv
              | 1, hp, hij => exact hv
              | 2, hp, hij => exact hv
              | 3, hp, hij => exact hv
              | 4, hp, hij => exact hv
              | 5, hp, hij => exact hv
              | 6, hp, hij => exact hv
              | 7, hp, hij => exact hv
              | 8, hp, hij => exact hv
              | 9, hp, hij => exact absurd (show false = true from hp.symm.trans (by kernel_rfl)) (by decide)
              | 10, hp, hij => exact absurd (show false = true from hp.symm.trans (by kernel_rfl)) (by decide)
              | 11, hp, hij => exact hv
              | 12, hp, hij => exact absurd rfl hij
              | 13, hp, hij => exact hv
              | 14, hp, hij => exact hv
              | 15, hp, hij => exact hv
              | n + 16, _, _ => exact absurd hj (by simp)
            | 13, hv =>
              match j, hs, hp, hij with
              | 0, hs, hp, hij => cases hs; exact hv
              | 1, hs, hp, hij => cases hs; exact hv
              | 2, hs, hp, hij => cases hs; exact hv
              | 3, hs, hp, hij => cases hs; exact hv
              | 4, hs, hp, hij => cases hs; exact hv
              | 5, hs, hp, hij => cases hs; exact hv
              | 6, hs, hp, hij => obtain ⟨b10, cz, e, hN, h, hz⟩ := hv; exact ⟨b10, cz, e, hN, (Below.block hs b10 (lt_of h)).trans h, hz⟩
              | 7, hs, hp, hij => obtain ⟨b10, cz, e, hN, h, hz⟩ := hv; exact ⟨b10, cz, e, hN, (hs.1.block b10 (lt_of h) (fun e => by have := hrN.out b10 e.symm; omega)).trans h, hz⟩
              | 8, hs, hp, hij => cases hs; exact hv
              | 9, hs, hp, hij => obtain ⟨b10, cz, e, hN, h, hz⟩ := hv; exact ⟨b10, cz, e, hN, (Below.block hs b10 (lt_of h)).trans h, hz⟩
              | 10, hs, hp, hij => cases hs; exact hv
              | 11, hs, hp, hij => cases hs; exact hv
              | 12, hs, hp, hij => cases hs; exact hv
              | 13, hs, hp, hij => exact absurd rfl hij
              | 14, hs, hp, hij => obtain ⟨b10, cz, e, hN, h, hz⟩ := hv; rcases hs with rfl | ⟨b, cz', hb, hcz, hbx⟩; exact ⟨b10, cz, e, hN, h, hz⟩; exact (by by_cases hbb : b10 = b; subst hbb; (obtain ⟨c', h5, h6⟩ := hbx.2 cz h hz; exact ⟨b10, c', e, hN, h5, h6⟩); exact ⟨b10, cz, e, hN, (hbx.1.block b10 (lt_of h) (fun e => hbb (by injection e))).trans h, hz⟩)
              | 15, hs, hp, hij => cases hs; exact hv
              | n + 16, _, _, _ => exact absurd hj (by simp)
            | 14, hv =>
              match j, hs, hp, hij with
              | 0, hs, hp, hij => cases hs; exact hv
              | 1, hs, hp, hij => cases hs; exact hv
              | 2, hs, hp, hij => cases hs; exact hv
              | 3, hs, hp, hij => cases hs; exact hv
              | 4, hs, hp, hij => cases hs; exact hv
              | 5, hs, hp, hij => cases hs; exact hv
              | 6, hs, hp, hij => exact absurd (show false = true from hp.symm.trans (by kernel_rfl)) (by decide)
              | 7, hs, hp, hij => exact absurd (show false = true from hp.symm.trans (by kernel_rfl)) (by decide)
              | 8, hs, hp, hij => cases hs; exact hv
              | 9, hs, hp, hij => exact absurd (show false = true from hp.symm.trans (by kernel_rfl)) (by decide)
              | 10, hs, hp, hij => cases hs; exact hv
              | 11, hs, hp, hij => cases hs; exact hv
              | 12, hs, hp, hij => cases hs; exact hv
              | 13, hs, hp, hij => exact absurd (show false = true from hp.symm.trans (by kernel_rfl)) (by decide)
              | 14, hs, hp, hij => exact absurd rfl hij
              | 15, hs, hp, hij => cases hs; exact hv
              | n + 16, _, _, _ => exact absurd hj (by simp)
            | 15, hv =>
              match j, hp, hij with
              | 0, hp, hij => exact hv
              | 1, hp, hij => exact hv
              | 2, hp, hij => exact hv
              | 3, hp, hij => exact hv
              | 4, hp, hij => exact hv
              | 5, hp, hij => exact hv
              | 6, hp, hij => exact hv
              | 7, hp, hij => exact hv
              | 8, hp, hij => exact hv
              | 9, hp, hij => exact hv
              | 10, hp, hij => exact hv
              | 11, hp, hij => exact hv
              | 12, hp, hij => exact absurd (show false = true from hp.symm.trans (by kernel_rfl)) (by decide)
              | 13, hp, hij => exact hv
              | 14, hp, hij => exact hv
              | 15, hp, hij => exact absurd rfl hij
              | n + 16, _, _ => exact absurd hj (by simp)
            | n + 16, hv => exact trivial
          case steps =>
            simp only [StepAllP, List.headD, List.tail, AllG]
            refine ⟨?_, ?_, ?_, ?_, ?_, ?_, ?_, ?_, ?_, ?_, ?_, ?_, ?_, ?_, ?_, ?_, trivial⟩
            · intro vs w1 hR hold hp
              obtain ⟨i1, i2, i3, i4, i5⟩ := HIN.out w1 hR
              exact step_value (exec_load_agg (cs := [.int .i64 next, .int .i64 limit, .int .i64 key]) (b := w.heap.size) (off := 0) rfl (by simp [go_sem]) agg_mk rfl i1) (by rfl) rfl rfl
            · intro vs w1 hR hold hp
              refine step_value (v := vw) (by simp [go_sem, hkz, hk0, hlt]) (by rfl) rfl rfl
            · intro vs w1 hR hold hp
              refine step_value (v := .slice (some ⟨g, 0, none⟩) n c) (by simp [go_sem, hkz, hk0, hlt]) (by rfl) rfl rfl
            · intro vs w1 hR hold hp
              refine step_value (v := .int .i64 (k : Int)) (by simp [go_sem, hkz, hk0, hlt]) (by rfl) rfl rfl
            · intro vs w1 hR hold hp; obtain ⟨p2, p3, _⟩ := hp
              refine step_value (v := .pointer (some ⟨g, k * 44, none⟩)) (by simp [go_sem, p2, p3, hkz, hk0, hlt]) (by rfl) rfl rfl
            · intro vs w1 hR hold hp; obtain ⟨p4, _⟩ := hp
              obtain ⟨i1, i2, i3, i4, i5⟩ := HIN.out w1 hR
              exact step_value (exec_load_agg (b := g) (off := k * 44) rfl (by simp [go_sem, p4]) agg_inp (encInp_length y) i2) (by rfl) rfl rfl
            · intro vs w1 hR hold hp; obtain ⟨p5, _⟩ := hp
              obtain ⟨i1, i2, i3, i4, i5⟩ := HIN.out w1 hR
              refine step_value (exec_buildSlice_one (cs := encInp y) rfl (by simp [go_sem, p5]) sl_inp (by omega) (by omega) (encInp_length _) w1) (by rfl) ((Below.refl _ _).alloc (Nat.le_refl _) _) ⟨_, rfl, i5, heap_alloc_new w1 _⟩
            · intro vs w1 hR hold hp; obtain ⟨p1, p6, _⟩ := hp
              obtain ⟨i1, i2, i3, i4, i5⟩ := HIN.out w1 hR
              obtain ⟨g6, e6, hg6, h6⟩ := p6
              obtain ⟨v', w5, hrun, ho5, hg5, hm5, hs5⟩ := append_with (c := 1) i4 i3 (by omega) 41 (RowAt.whole h6) HWL.out
              exact step_value (v := v') (w' := w5) (exec_append_at rfl (by simp [go_sem, p1]) (by simp [go_sem, e6]) hrun) (by rfl) ⟨hg5, fun _ => hs5, fun _ _ h => by cases h⟩ ho5
            · intro vs w1 hR hold hp
              refine step_value (v := .int .i64 rt) (by simp [go_sem, hkz, hk0, hlt]) (by rfl) rfl rfl
            · intro vs w1 hR hold hp; obtain ⟨p0, p7, p8, _⟩ := hp
              obtain ⟨i1, i2, i3, i4, i5⟩ := HIN.out w1 hR
              obtain ⟨g7, c7, e7, _, hlt7, _, hr7⟩ := own_row p7 (by omega)
              refine step_call (f := 66) (args := #[.agg #[.int .i64 next, .int .i64 limit, .int .i64 key], .slice (some ⟨g7, 0, none⟩) (wi.length + 1) c7, .int .i64 rt]) (w' := w1) (by simp [go_sem, p0, e7, p8]) (by rfl) (fits_any (wi ++ [y]) g7 (wi.length + 1) c7 next limit key rt (by omega) (by omega) w1 (by simp) hr7 hlt7) (fun e w5 hc => ?_)
              obtain ⟨cs, rfl, hc1, hc2, hc3, hc4⟩ := hc
              rw [HRF.out] at hc4 ⊢
              exact ⟨_, rfl, hc3, cs, rfl, hc1, hc2, fun b hb => (hc4 b hb).mono (by omega)⟩
            · intro vs w1 hR hold hp; obtain ⟨p9, _⟩ := hp
              exact step_value (v := vs 9) (by simp [go_sem]) (by rfl) rfl rfl
            · intro vs w1 hR hold hp; obtain ⟨p9, p10, _⟩ := hp
              obtain ⟨cs, e9, _⟩ := p9
              exact step_value (v := .agg cs.toArray) (by simp [go_sem, p10, e9]) (by rfl) rfl ⟨cs, rfl, e9⟩
            · intro vs w1 hR hold hp; obtain ⟨p9, p10, _⟩ := hp
              obtain ⟨cs, e9, _⟩ := p9
              exact step_value (v := .bool rf.isSome) (by simp [go_sem, p10, e9]) (by rfl) rfl rfl
            · intro vs w1 hR hold hp
              obtain ⟨i1, i2, i3, i4, i5⟩ := HIN.out w1 hR
              refine step_value (v := .pointer (some ⟨w1.heap.size, 0, none⟩)) (w' := w1.alloc (.cells #[.slice none 0 0, .slice none 0 0, .int .i64 0, .int .i64 0, .int .i64 0] 49)) (by simp [go_sem]) (by rfl) ((Below.refl _ _).alloc (Nat.le_refl _) _) ⟨w1.heap.size, _, rfl, i5, heap_alloc_new w1 _, rfl⟩
            · intro vs w1 hR hold hp; obtain ⟨p9, p11, p13, _⟩ := hp
              obtain ⟨b10, cz, e13, hb13, h13, hz13⟩ := p13
              obtain ⟨cs, e11, e9⟩ := p11
              obtain ⟨cs', e9', hc1, hc2, _⟩ := p9
              rw [e9] at e9'
              obtain rfl : cs = cs' := by injection e9' with e; have := congrArg (fun a => a.toList) e; simpa using this
              exact Go.XB.step_skip (w' := w1.setRow b10 cs.toArray) (exec_store_own rfl (by simp [go_sem, e13]) (by simp [go_sem, e11]) sz_bat hc1 h13 hz13 hc2) (by rfl) (.inr ⟨b10, cz, hb13, h13, BoxR.setRow _ hc1⟩) ⟨b10, cs, e13, e9, setRow_heap _ _ _ _ _ _ h13⟩
            · intro vs w1 hR hold hp; obtain ⟨p12, _⟩ := hp
              refine step_value (v := .bool rf.isSome) (by simp [go_sem, p12, hkz, hk0, hlt]) (by rfl) rfl rfl
          case fin =>
            simp only [List.length_cons, List.length_nil, Nat.reduceAdd, List.range_succ, List.range_zero, List.nil_append, List.cons_append, AllG]
            intro vs w1 hR hp
            obtain ⟨p0, p1, p2, p3, p4, p5, p6, p7, p8, p9, p10, p11, p12, p13, p14, p15, _⟩ := hp
            simp only [p0, p1, p2, p3, p4, p5, p8, p10, p12, p15]
            have hMT := M3.out.keepR hR
            obtain ⟨i1, i2, i3, i4, i5⟩ := HIN.out w1 hR
            obtain ⟨b10, cs, e13, e9, h10⟩ := p14
            obtain ⟨b13, cz, e13', hb13, _⟩ := p13
            obtain rfl : b10 = b13 := by rw [e13] at e13'; injection e13' with e; injection e with e; injection e
            obtain ⟨cs', e9', hc1, hc2, hB⟩ := p9
            obtain ⟨cs2, e11, e92⟩ := p11
            rw [e9] at e9' e92
            obtain rfl : cs = cs' := by injection e9' with e; have := congrArg (fun a => a.toList) e; simpa using this
            obtain rfl : cs = cs2 := by injection e92 with e; have := congrArg (fun a => a.toList) e; simpa using this
            obtain ⟨g6, e6, _⟩ := p6
            obtain ⟨g7, c7, e7, _⟩ := own_row p7 (by omega)
            simp only [e13, p10, e9, e11, e6, e7]
            obtain ⟨wT, hwT⟩ : ∃ wT, wT = w1 := ⟨_, rfl⟩
            rw [← hwT] at hMT i2 i3 i5 h10 hB
            rw [← hwT]
            have MT := hidI hMT
            have HYT := hidI i2
            have HXT := hidI i3
            have hST := i5
            have H10 := hidI (And.intro h10 (And.intro hc1 (And.intro hc2 (And.intro hb13 hB))))
            clear hwT hR hMT i1 i2 i3 i4 i5 e13 e9 h10 e13' hb13 hc1 hc2 hB e9' e92 e11 e6 e7 p7 p10 p12 p15 p0 p1 p2 p3 p4 p5 p8
            have hTT := MT.out.size
            have hgT := Nat.lt_of_lt_of_le HR.out.2 MT.out.below.size
            cases rf with
            | none =>
              simp only [Option.isSome_none]
              have HO2 := hidI (show oneA next limit key rt (l.drop k) ob wi (left ++ [y]) = oneL next limit key x l by
                have h := HO.out
                rw [HDR.out] at h
                unfold oneA at h
                rw [← HRY.out, if_pos HGE.out, HRF.out] at h
                exact h)
              go_upto_region 12 with (fail)
              have HLB := hidI (left_bd (show left.length ≤ 100 by omega))
              have HLB2 := hidI (show w.heap.size + 2 ≤ (wT.alloc (.cells (encInp y).toArray 93)).heap.size by have := MT.out.size; simp only [World.size_alloc]; omega)
              go_wp2_with (first
                | (with_reducible refine at_load 93 rfl ?_; refine wpl_load_agg (b := g) (cs := encInp y) rfl rfl rfl agg_inp (encInp_length y) (HYT.out) ?_; (try simp only [Act.put, List.setIfInBounds_toArray, List.set_cons_zero, List.set_cons_succ, World.size_alloc]))
                | (with_reducible refine at_buildSlice 41 rfl ?_; refine wpl_buildSlice_one (cs := encInp y) (n := 44) rfl rfl rfl sl_inp (le44) (pos44) rfl ?_; (try simp only [Act.put, List.setIfInBounds_toArray, List.set_cons_zero, List.set_cons_succ, World.size_alloc]))
                | (with_reducible refine at_bi .append rfl ?_; refine wpl_append (t := 41) rfl rfl (w.heap.size + 2) 93 44 136 ap_inp (MT.out.left.alloc _) (news := encInp y) rfl rfl rfl (RowAt.new (by simp)) (encInp_one y) (HLB.out.1) (HLB.out.2) (HLB2.out) ?_; intro vl' w4 hown hgrow hmov; (try simp only [Act.put, List.setIfInBounds_toArray, List.set_cons_zero, List.set_cons_succ, World.size_alloc]); have M4 := hidI ((MT.out.ext ((Below.refl _ _).alloc (Nat.le_refl _) _)).grownLeft hown hgrow hmov); clear hown hgrow hmov))
              go_step3
              refine jump_mk (And.intro (OneJ.of (k + 1) ob wi (left ++ [y]) vl' vw r ⟨by omega, by omega, by omega, by simp; omega⟩ M4.out (by rw [show k + 1 - 1 = k by omega]; exact HO2.out) rfl rfl rfl rfl rfl rfl rfl rfl rfl rfl rfl (by go_num)) ?_)
              simp [intOf]
              omega
            | some m =>
              simp only [Option.isSome_some]
              have HO3 := hidI (show oneA next limit key rt (l.drop k) (some m) (wi ++ [y]) left = oneL next limit key x l by
                have h := HO.out
                rw [HDR.out] at h
                unfold oneA at h
                rw [← HRY.out, if_pos HGE.out, HRF.out] at h
                exact h)
              have hrT := hidI (fun k (h : r = some k) => (MT.out.wi.lt k h).2)
              have HIN2 := hidI (show ∀ w1, OneR wT.heap.size (w.heap.size + 2) g x vw wi r (some (w.heap.size + 1)) wT.drew w1 → RowAt w1 g (k * 44) (encInp y) ∧ RowAt w1 g 0 (encInp x) ∧ WithV w1 (w.heap.size + 2) g x vw wi r ∧ wT.heap.size ≤ w1.heap.size ∧ RowAt w1 b10 0 cs ∧ ∃ cz : Array Value, w1.heap[w.heap.size + 1]? = some (.cells cz 49 (0, 0)) ∧ cz.size = 5 from fun w1 h => by
                obtain ⟨cs0, hb0, hb1, _⟩ := MT.out.box
                have hbt := H10.out.1
                have hb13 := H10.out.2.2.2.1
                refine ⟨oneR_row MT.out h (by omega) (by have := HR.out.2; omega) (fun e => by injection e with e; have := HR.out.2; omega) HYT.out, oneR_row MT.out h (by omega) (by have := HR.out.2; omega) (fun e => by injection e with e; have := HR.out.2; omega) HXT.out, h.2.1 MT.out.wi, h.1.2.2.2.1, ?_, h.2.2 _ _ rfl hb0 (by simpa using hb1)⟩
                exact (RowAt.whole hbt).mono (h.1.2.2.2.2 b10 (lt_of hbt) (lt_of hbt) (fun e => MT.out.wi.other hbt (by decide) e.symm) (fun e => by injection e with e; omega)))
              go_wp2
              refine wp_region_g _ [[], [], [], [], [2, 3], [4], [5], [1, 6], [0], [], [7]] (OneR wT.heap.size (w.heap.size + 2) g x vw wi r (some (w.heap.size + 1))) (fun ix u v => match ix with | 6 => Ext u v | 7 => AppS (w.heap.size + 2) g x vw wi r (some (w.heap.size + 1)) u v | 8 => BoxB (w.heap.size + 1) u v | _ => u = v) (fun ix vs w' => match ix with | 0 => vs 0 = .agg cs.toArray | 1 => vs 1 = vw | 2 => vs 2 = .slice (some ⟨g, 0, none⟩) n c | 3 => vs 3 = .int .i64 (k : Int) | 4 => vs 4 = .pointer (some ⟨g, k * 44, none⟩) | 5 => vs 5 = .agg (encInp y).toArray | 6 => ∃ g6, vs 6 = .slice (some ⟨g6, 0, none⟩) 1 1 ∧ wT.heap.size ≤ g6 ∧ w'.heap[g6]? = some (.cells (encInp y).toArray 93 (0, 0)) | 7 => w'.ownsRow (w.heap.size + 2) 93 44 (vs 7) (wi.length + 1) ((wi ++ [y]).flatMap encInp) ∧ MovedO wT r (vs 7).ownBlock | 8 => w'.heap[w.heap.size + 1]? = some (.cells cs.toArray 49 (0, 0)) | 9 => vs 9 = .bool true | 10 => vs 10 = vs 7 | _ => True) (by kernel_rfl) (by kernel_rfl) (by kernel_rfl) (by kernel_rfl) (fun vs => by simp only [putAll, Act.put, List.setIfInBounds_toArray, List.set_cons_zero, List.set_cons_succ]; rfl) OneR.refl OneR.trans ?hsr ?hse ?stab ?steps ?fin
              case hsr =>
                intro i u u' h
                match i, h with
                | 0, h => cases h; exact (OneR.refl) _
                | 1, h => cases h; exact (OneR.refl) _
                | 2, h => cases h; exact (OneR.refl) _
                | 3, h => cases h; exact (OneR.refl) _
                | 4, h => cases h; exact (OneR.refl) _
                | 5, h => cases h; exact (OneR.refl) _
                | 6, h => exact OneR.ext h
                | 7, h => exact OneR.app h
                | 8, h => exact (by rcases h with rfl | ⟨h, hc⟩; exact OneR.refl _; exact OneR.boxB h hc)
                | 9, h => cases h; exact (OneR.refl) _
                | 10, h => cases h; exact (OneR.refl) _
                | n + 11, h => cases h; exact (OneR.refl) _
              case hse =>
                intro i u
                match i with
                | 0 => rfl
                | 1 => rfl
                | 2 => rfl
                | 3 => rfl
                | 4 => rfl
                | 5 => rfl
                | 6 => first | exact Ext.refl _ | exact (OneR.refl) _ | exact AppS.refl _ | exact BoxS.refl _ | exact BoxR.refl _ | exact BoxB.refl _
                | 7 => first | exact Ext.refl _ | exact (OneR.refl) _ | exact AppS.refl _ | exact BoxS.refl _ | exact BoxR.refl _ | exact BoxB.refl _
                | 8 => first | exact Ext.refl _ | exact (OneR.refl) _ | exact AppS.refl _ | exact BoxS.refl _ | exact BoxR.refl _ | exact BoxB.refl _
                | 9 => rfl
                | 10 => rfl
                | n + 11 => rfl
              case stab =>
                intro i j vs v u u' hij hi hj hp hv hs
                match i, hv with
                | 0, hv =>
                  match j, hp, hij with
                  | 0, hp, hij => exact absurd rfl hij
                  | 1, hp, hij => exact hv
                  | 2, hp, hij => exact hv
                  | 3, hp, hij => exact hv
                  | 4, hp, hij => exact hv
                  | 5, hp, hij => exact hv
                  | 6, hp, hij => exact hv
                  | 7, hp, hij => exact hv
                  | 8, hp, hij => exact hv
                  | 9, hp, hij => exact hv
                  | 10, hp, hij => exact hv
                  | n + 11, _, _ => exact absurd hj (by simp)
                | 1, hv =>
                  match j, hp, hij with
                  | 0, hp, hij => exact hv
                  | 1, hp, hij => exact absurd rfl hij
                  | 2, hp, hij => exact hv
                  | 3, hp, hij => exact hv
                  | 4, hp, hij => exact hv
                  | 5, hp, hij => exact hv
                  | 6, hp, hij => exact hv
                  | 7, hp, hij => exact hv
                  | 8, hp, hij => exact hv
                  | 9, hp, hij => exact hv
                  | 10, hp, hij => exact hv
                  | n + 11, _, _ => exact absurd hj (by simp)
                | 2, hv =>
                  match j, hp, hij with
                  | 0, hp, hij => exact hv
                  | 1, hp, hij => exact hv
                  | 2, hp, hij => exact absurd rfl hij
                  | 3, hp, hij => exact hv
                  | 4, hp, hij => exact hv
                  | 5, hp, hij => exact hv
                  | 6, hp, hij => exact hv
                  | 7, hp, hij => exact hv
                  | 8, hp, hij => exact hv
                  | 9, hp, hij => exact hv
                  | 10, hp, hij => exact hv
                  | n + 11, _, _ => exact absurd hj (by simp)
                | 3, hv =>
                  match j, hp, hij with
                  | 0, hp, hij => exact hv
                  | 1, hp, hij => exact hv
                  | 2, hp, hij => exact hv
                  | 3, hp, hij => exact absurd rfl hij
                  | 4, hp, hij => exact hv
                  | 5, hp, hij => exact hv
                  | 6, hp, hij => exact hv
                  | 7, hp, hij => exact hv
                  | 8, hp, hij => exact hv
                  | 9, hp, hij => exact hv
                  | 10, hp, hij => exact hv
                  | n + 11, _, _ => exact absurd hj (by simp)
                | 4, hv =>
                  match j, hp, hij with
                  | 0, hp, hij => exact hv
                  | 1, hp, hij => exact hv
                  | 2, hp, hij => exact absurd (show false = true from hp.symm.trans (by kernel_rfl)) (by decide)
                  | 3, hp, hij => exact absurd (show false = true from hp.symm.trans (by kernel_rfl)) (by decide)
                  | 4, hp, hij => exact absurd rfl hij
                  | 5, hp, hij => exact hv
                  | 6, hp, hij => exact hv
                  | 7, hp, hij => exact hv
                  | 8, hp, hij => exact hv
                  | 9, hp, hij => exact hv
                  | 10, hp, hij => exact hv
                  | n + 11, _, _ => exact absurd hj (by simp)
                | 5, hv =>
                  match j, hp, hij with
                  | 0, hp, hij => exact hv
                  | 1, hp, hij => exact hv
                  | 2, hp, hij => exact hv
                  | 3, hp, hij => exact hv
                  | 4, hp, hij => exact absurd (show false = true from hp.symm.trans (by kernel_rfl)) (by decide)
                  | 5, hp, hij => exact absurd rfl hij
                  | 6, hp, hij => exact hv
                  | 7, hp, hij => exact hv
                  | 8, hp, hij => exact hv
                  | 9, hp, hij => exact hv
                  | 10, hp, hij => exact hv
                  | n + 11, _, _ => exact absurd hj (by simp)
                | 6, hv =>
                  match j, hs, hp, hij with
                  | 0, hs, hp, hij => cases hs; exact hv
                  | 1, hs, hp, hij => cases hs; exact hv
                  | 2, hs, hp, hij => cases hs; exact hv
                  | 3, hs, hp, hij => cases hs; exact hv
                  | 4, hs, hp, hij => cases hs; exact hv
                  | 5, hs, hp, hij => cases hs; exact hv
                  | 6, hs, hp, hij => exact absurd rfl hij
                  | 7, hs, hp, hij => obtain ⟨g6, e6, hN, h6⟩ := hv; exact ⟨g6, e6, hN, (hs.1.block g6 (lt_of h6) (fun e => by have := hrT.out g6 e.symm; omega)).trans h6⟩
                  | 8, hs, hp, hij => obtain ⟨g6, e6, hN, h6⟩ := hv; rcases hs with rfl | ⟨hs, _⟩; exact ⟨g6, e6, hN, h6⟩; exact ⟨g6, e6, hN, (hs.1.block g6 (lt_of h6) (fun e => by injection e with e; omega)).trans h6⟩
                  | 9, hs, hp, hij => cases hs; exact hv
                  | 10, hs, hp, hij => cases hs; exact hv
                  | n + 11, _, _, _ => exact absurd hj (by simp)
                | 7, hv =>
                  match j, hs, hp, hij with
                  | 0, hs, hp, hij => cases hs; exact hv
                  | 1, hs, hp, hij => cases hs; exact hv
                  | 2, hs, hp, hij => cases hs; exact hv
                  | 3, hs, hp, hij => cases hs; exact hv
                  | 4, hs, hp, hij => cases hs; exact hv
                  | 5, hs, hp, hij => cases hs; exact hv
                  | 6, hs, hp, hij => exact absurd (show false = true from hp.symm.trans (by kernel_rfl)) (by decide)
                  | 7, hs, hp, hij => exact absurd rfl hij
                  | 8, hs, hp, hij => rcases hs with rfl | ⟨hs, _⟩; exact hv; exact ⟨hv.1.kept hs.1 (.inr (fun e => by have := (hv.1.lt _ e).1; omega)), hv.2⟩
                  | 9, hs, hp, hij => cases hs; exact hv
                  | 10, hs, hp, hij => cases hs; exact hv
                  | n + 11, _, _, _ => exact absurd hj (by simp)
                | 8, hv =>
                  match j, hs, hp, hij with
                  | 0, hs, hp, hij => cases hs; exact hv
                  | 1, hs, hp, hij => cases hs; exact hv
                  | 2, hs, hp, hij => cases hs; exact hv
                  | 3, hs, hp, hij => cases hs; exact hv
                  | 4, hs, hp, hij => cases hs; exact hv
                  | 5, hs, hp, hij => cases hs; exact hv
                  | 6, hs, hp, hij => exact absurd (show false = true from hp.symm.trans (by kernel_rfl)) (by decide)
                  | 7, hs, hp, hij => exact absurd (show false = true from hp.symm.trans (by kernel_rfl)) (by decide)
                  | 8, hs, hp, hij => exact absurd rfl hij
                  | 9, hs, hp, hij => cases hs; exact hv
                  | 10, hs, hp, hij => cases hs; exact hv
                  | n + 11, _, _, _ => exact absurd hj (by simp)
                | 9, hv =>
                  match j, hp, hij with
                  | 0, hp, hij => exact hv
                  | 1, hp, hij => exact hv
                  | 2, hp, hij => exact hv
                  | 3, hp, hij => exact hv
                  | 4, hp, hij => exact hv
                  | 5, hp, hij => exact hv
                  | 6, hp, hij => exact hv
                  | 7, hp, hij => exact hv
                  | 8, hp, hij => exact hv
                  | 9, hp, hij => exact absurd rfl hij
                  | 10, hp, hij => exact hv
                  | n + 11, _, _ => exact absurd hj (by simp)
                | 10, hv =>
                  match j, hp, hij with
                  | 0, hp, hij => exact hv
                  | 1, hp, hij => exact hv
                  | 2, hp, hij => exact hv
                  | 3, hp, hij => exact hv
                  | 4, hp, hij => exact hv
                  | 5, hp, hij => exact hv
                  | 6, hp, hij => exact hv
                  | 7, hp, hij => exact absurd (show false = true from hp.symm.trans (by kernel_rfl)) (by decide)
                  | 8, hp, hij => exact hv
                  | 9, hp, hij => exact hv
                  | 10, hp, hij => exact absurd rfl hij
                  | n + 11, _, _ => exact absurd hj (by simp)
                | n + 11, hv => exact trivial
              case steps =>
                simp only [StepAllP, List.headD, List.tail, AllG]
                refine ⟨?_, ?_, ?_, ?_, ?_, ?_, ?_, ?_, ?_, ?_, ?_, trivial⟩
                · intro vs w1 hR hold hp
                  obtain ⟨i2, i3, i4, i5, i6, i7⟩ := HIN2.out w1 hR
                  exact step_value (exec_load_agg (b := b10) (off := 0) rfl (by simp [go_sem]) agg_bat H10.out.2.1 i6) (by rfl) rfl rfl
                · intro vs w1 hR hold hp
                  have hq0 : vs 10 = vw := (hold 10 (by kernel_rfl)).trans rfl
                  refine step_value (v := vw) (by simp [go_sem, hq0, hkz, hk0, hlt]) (by rfl) rfl rfl
                · intro vs w1 hR hold hp
                  refine step_value (v := .slice (some ⟨g, 0, none⟩) n c) (by simp [go_sem, hkz, hk0, hlt]) (by rfl) rfl rfl
                · intro vs w1 hR hold hp
                  refine step_value (v := .int .i64 (k : Int)) (by simp [go_sem, hkz, hk0, hlt]) (by rfl) rfl rfl
                · intro vs w1 hR hold hp; obtain ⟨p2, p3, _⟩ := hp
                  refine step_value (v := .pointer (some ⟨g, k * 44, none⟩)) (by simp [go_sem, p2, p3, hkz, hk0, hlt]) (by rfl) rfl rfl
                · intro vs w1 hR hold hp; obtain ⟨p4, _⟩ := hp
                  obtain ⟨i2, i3, i4, i5, i6, i7⟩ := HIN2.out w1 hR
                  exact step_value (exec_load_agg (b := g) (off := k * 44) rfl (by simp [go_sem, p4]) agg_inp (encInp_length y) i2) (by rfl) rfl rfl
                · intro vs w1 hR hold hp; obtain ⟨p5, _⟩ := hp
                  obtain ⟨i2, i3, i4, i5, i6, i7⟩ := HIN2.out w1 hR
                  refine step_value (exec_buildSlice_one (cs := encInp y) rfl (by simp [go_sem, p5]) sl_inp (by omega) (by omega) (encInp_length _) w1) (by rfl) ((Below.refl _ _).alloc (Nat.le_refl _) _) ⟨_, rfl, i5, heap_alloc_new w1 _⟩
                · intro vs w1 hR hold hp; obtain ⟨p1, p6, _⟩ := hp
                  obtain ⟨i2, i3, i4, i5, i6, i7⟩ := HIN2.out w1 hR
                  obtain ⟨g6, e6, hg6, h6⟩ := p6
                  obtain ⟨v', w5, hrun, ho5, hg5, hm5, hs5⟩ := append_with (c := 1) i4 i3 (by omega) 41 (RowAt.whole h6) HWL.out
                  exact step_value (v := v') (w' := w5) (exec_append_at rfl (by simp [go_sem, p1]) (by simp [go_sem, e6]) hrun) (by rfl) ⟨hg5, fun _ => hs5, fun k c _ h => (hg5.block k (lt_of h) (fun e => i4.other h (by decide) e.symm)).trans h⟩ ⟨ho5, hm5.imp id (fun ⟨g', h1, h2⟩ => ⟨g', h1, Nat.le_trans i5 h2⟩)⟩
                · intro vs w1 hR hold hp; obtain ⟨p0, _⟩ := hp
                  obtain ⟨i2, i3, i4, i5, i6, cz, h7, hz7⟩ := HIN2.out w1 hR
                  refine Go.XB.step_skip (w' := w1.setRow (w.heap.size + 1) cs.toArray) ?_ (by rfl) ?_ ?_
                  · exact exec_store_own rfl (by simp [go_sem]) (by simp [go_sem, p0]) sz_bat H10.out.2.1 h7 hz7 H10.out.2.2.1
                  · exact Or.inr ⟨BoxR.setRow _ H10.out.2.1, cz, h7⟩
                  · exact setRow_heap _ _ _ _ _ _ h7
                · intro vs w1 hR hold hp
                  refine step_value (v := .bool true) (by simp [go_sem, hkz, hk0, hlt]) (by rfl) rfl rfl
                · intro vs w1 hR hold hp; obtain ⟨p7, _⟩ := hp
                  exact step_value (v := vs 7) (by simp [go_sem]) (by rfl) rfl rfl
              case fin =>
                simp only [List.length_cons, List.length_nil, Nat.reduceAdd, List.range_succ, List.range_zero, List.nil_append, List.cons_append, AllG]
                intro vs w1 hR hp
                obtain ⟨p0, p1, p2, p3, p4, p5, p6, p7, p8, p9, p10, _⟩ := hp
                simp only [p0, p1, p2, p3, p4, p5, p9, p10]
                obtain ⟨ho7, hm7⟩ := p7
                obtain ⟨g6, e6, _⟩ := p6
                have M5 := MT.out.taken hR ho7 hm7 p8 H10.out.2.1 H10.out.2.2.1 (H10.out.2.2.2.2 m rfl)
                obtain ⟨gw, cw, e7, _⟩ := own_row ho7 (by omega)
                rw [e7] at M5
                simp only [e6, e7, p10]
                have HM5 := hidI M5
                clear hR p0 p1 p2 p3 p4 p5 e6 ho7 hm7 p8 p9 p10 e7 M5
                go_wp2
                go_step3
                refine then_goto ?_
                refine jump_mk ?_
                refine And.intro (OneJ.of (w := w) (n := n) (g := g) (c := c) (x := x) (l := l) (next := next) (limit := limit) (key := key) (rt := rt) (k + 1) (some m) (wi ++ [y]) left vl (.slice (some ⟨gw, 0, none⟩) (wi.length + 1) cw) (some gw) (J4 hk1 hlt hwl hll) HM5.out (show oneA next limit key rt (l.drop (k + 1 - 1)) (some m) (wi ++ [y]) left = oneL next limit key x l from HO3.out) rfl rfl rfl rfl rfl rfl rfl rfl rfl rfl rfl (by go_num)) ?_
                simp [intOf]
                omega



      · have hgb : decide (rt / 2 ≤ ry) = false := by simpa using hge
        have HO2 := hidI (show oneA next limit key rt (l.drop k) ob wi (left ++ [y]) = oneL next limit key x l by
          have h := HO.out
          rw [HDR.out] at h
          unfold oneA at h
          rw [← HRY.out, if_neg hge] at h
          exact h)
        clear hge
        go_wp2
        refine wp_region_p _ [[], [], [0, 1], [2], [], [4], [3, 5], [], [7], [6, 8]] Ext (fun ix v w' => match ix with | 0 => v = .slice (some ⟨g, 0, none⟩) n c | 1 => v = .int .i64 (k : Int) | 2 => v = .pointer (some ⟨g, k * 44, none⟩) | 3 => v = .agg (encInp y).toArray | 4 => v = .pointer (some ⟨w.heap.size, 0, none⟩) | 5 => v = .int .i64 next | 6 => v = .int .i64 ry | 7 => v = .int .i64 rt | 8 => v = .int .i64 (rt / 2) | 9 => v = .bool false | _ => True) (by kernel_rfl) (by kernel_rfl) (by kernel_rfl) (by kernel_rfl) (fun vs => by simp only [putAll, Act.put, List.setIfInBounds_toArray, List.set_cons_zero, List.set_cons_succ]; rfl) (fun w => Ext.refl w) (fun _ _ _ h k => Ext.trans h k) ?stab ?steps ?fin
        case stab =>
          intro i v w1 w2 hv hr
          exact hv
        case steps =>
          simp only [StepAllP, List.headD, List.tail, AllV]
          refine ⟨?_, ?_, ?_, ?_, ?_, ?_, ?_, ?_, ?_, ?_, trivial⟩
          · intro vs w1 hR hp; have hcl := (bcell hR).1
            refine step_value (v := .slice (some ⟨g, 0, none⟩) n c) (by simp [go_sem, hcl, hkz, hk0, hlt, hgb]) (by rfl) (Ext.refl _) rfl
          · intro vs w1 hR hp; have hcl := (bcell hR).1
            refine step_value (v := .int .i64 (k : Int)) (by simp [go_sem, hcl, hkz, hk0, hlt, hgb]) (by rfl) (Ext.refl _) rfl
          · intro vs w1 hR hp; have hcl := (bcell hR).1; obtain ⟨p0, p1, _⟩ := hp
            refine step_value (v := .pointer (some ⟨g, k * 44, none⟩)) (by simp [go_sem, hcl, p0, p1, hkz, hk0, hlt, hgb]) (by rfl) (Ext.refl _) rfl
          · intro vs w1 hR hp; have hcl := (bcell hR).1; obtain ⟨p2, _⟩ := hp
            refine step_value (exec_load_agg (b := g) (off := k * 44) rfl (by simp [go_sem, p2]) agg_inp (encInp_length y) (HY0.out w1 hR)) (by rfl) (Ext.refl _) rfl
          · intro vs w1 hR hp; have hcl := (bcell hR).1
            refine step_value (v := .pointer (some ⟨w.heap.size, 0, none⟩)) (by simp [go_sem, hcl, hkz, hk0, hlt, hgb]) (by rfl) (Ext.refl _) rfl
          · intro vs w1 hR hp; have hcl := (bcell hR).1; obtain ⟨p4, _⟩ := hp
            have q := HN0.out w1 hR
            refine step_value (v := .int .i64 next) (by simp [go_sem, p4, q]) (by rfl) (Ext.refl _) rfl
          · intro vs w1 hR hp; have hcl := (bcell hR).1; obtain ⟨p3, p5, _⟩ := hp
            refine step_call (f := 65) (args := #[.agg (encInp y).toArray, .int .i64 next]) (w' := w1) (by simp [go_sem, p3, p5]) (by rfl) (rate_any y next w1) (fun e w3 hc => ?_)
            obtain ⟨rfl, hb3⟩ := hc
            exact ⟨_, rfl, hb3, by rw [HRY.out]⟩
          · intro vs w1 hR hp; have hcl := (bcell hR).1
            refine step_value (v := .int .i64 rt) (by simp [go_sem, hcl, hkz, hk0, hlt, hgb]) (by rfl) (Ext.refl _) rfl
          · intro vs w1 hR hp; have hcl := (bcell hR).1; obtain ⟨p7, _⟩ := hp
            refine step_value (v := .int .i64 (rt / 2)) (by simp [go_sem, p7, hq]) (by rfl) (Ext.refl _) rfl
          · intro vs w1 hR hp; have hcl := (bcell hR).1; obtain ⟨p6, p8, _⟩ := hp
            refine step_value (v := .bool false) (by simp [go_sem, hcl, p6, p8, hkz, hk0, hlt, hgb]) (by rfl) (Ext.refl _) rfl
        case fin =>
          simp only [List.length_cons, List.length_nil, Nat.reduceAdd, List.range_succ, List.range_zero, List.nil_append, List.cons_append, AllV]
          intro vs w1 hR hp
          obtain ⟨p0, p1, p2, p3, p4, p5, p6, p7, p8, p9, _⟩ := hp
          simp only [p0, p1, p2, p3, p4, p5, p6, p7, p8, p9]
          have M3 := hidI (HM.out.ext (show Below w'.heap.size w' w1 from ((Below.refl _ _).drew).trans hR))
          have HY3 := hidI (HY0.out w1 hR)
          clear hR
          have HLB := hidI (left_bd (show left.length ≤ 100 by omega))
          have HLB2 := hidI (show w.heap.size + 2 ≤ (w1.alloc (.cells (encInp y).toArray 93)).heap.size by have := M3.out.size; simp only [World.size_alloc]; omega)
          go_wp2_with (first
            | (with_reducible refine at_load 93 rfl ?_; refine wpl_load_agg (b := g) (cs := encInp y) rfl rfl rfl agg_inp (encInp_length y) (HY3.out) ?_; (try simp only [Act.put, List.setIfInBounds_toArray, List.set_cons_zero, List.set_cons_succ, World.size_alloc]))
            | (with_reducible refine at_buildSlice 41 rfl ?_; refine wpl_buildSlice_one (cs := encInp y) (n := 44) rfl rfl rfl sl_inp (le44) (pos44) rfl ?_; (try simp only [Act.put, List.setIfInBounds_toArray, List.set_cons_zero, List.set_cons_succ, World.size_alloc]))
            | (with_reducible refine at_bi .append rfl ?_; refine wpl_append (t := 41) rfl rfl (w.heap.size + 2) 93 44 136 ap_inp (M3.out.left.alloc _) (news := encInp y) rfl rfl rfl (RowAt.new (by simp)) (encInp_one y) (HLB.out.1) (HLB.out.2) (HLB2.out) ?_; intro vl' w4 hown hgrow hmov; (try simp only [Act.put, List.setIfInBounds_toArray, List.set_cons_zero, List.set_cons_succ, World.size_alloc]); have M4 := hidI ((M3.out.ext ((Below.refl _ _).alloc (Nat.le_refl _) _)).grownLeft hown hgrow hmov); clear hown hgrow hmov))
          go_step3
          refine jump_mk (And.intro (OneJ.of (k + 1) ob wi (left ++ [y]) vl' vw r ⟨by omega, by omega, by omega, by simp; omega⟩ M4.out (by rw [show k + 1 - 1 = k by omega]; exact HO2.out) rfl rfl rfl rfl rfl rfl rfl rfl rfl rfl rfl (by go_num)) ?_)
          simp [intOf]
          omega

    · have hke : k = n := by omega
      subst hke
      have hkn : ((k : Int) == (k : Int)) = true := by simp
      obtain ⟨cs, hb1, hb2, hb3, hb4⟩ := HM.out.box
      have HBX := hidI (And.intro hb1 (And.intro hb2 (And.intro hb3 hb4)))
      have HOE := hidI (show (ob, left) = oneL next limit key x l by
        have h := HO.out
        rw [List.drop_of_length_le (by have := HL.out; simp at this; omega)] at h
        exact h)
      clear hb1 hb2 hb3 hb4
      go_wp2_with (first
        | (with_reducible refine at_load 49 rfl ?_; refine wpl_load_agg (b := w.heap.size + 1) (cs := cs) rfl rfl rfl agg_bat HBX.out.2.1 (RowAt.whole HBX.out.1) ?_; (try simp only [Act.put, List.setIfInBounds_toArray, List.set_cons_zero, List.set_cons_succ, World.size_alloc]))
        | (with_reducible refine at_store 49 rfl ?_; refine wpl_store_own (e := 49) (cs := cs) rfl rfl rfl rfl rfl sz_bat HBX.out.2.1 HBX.out.1 (by simpa using HBX.out.2.1) HBX.out.2.2.1 ?_; (try simp only [Act.put, List.setIfInBounds_toArray, List.set_cons_zero, List.set_cons_succ, World.size_alloc])))
      have HS := HM.out.setBox HBX.out.2.1 HBX.out.2.2.1 HBX.out.2.2.2
      refine ret_agg3 (v := .bool ob.isSome) (v2 := vl) (cs := cs) rfl rfl rfl rfl rfl agg_bat HBX.out.2.1 (RowAt.setRow HBX.out.1) ?_
      rw [← HOE.out]
      obtain ⟨cs', _, _, _, hB⟩ := HS.box
      exact ⟨cs, vl, rfl, HBX.out.2.1, HBX.out.2.2.1, HS.below, fun b hb => HBX.out.2.2.2 b hb |>.keep (GrowR.setRow _ _) (fun k' cur T' hk' hT' e' => by
        injection e' with e'
        subst e'
        rw [HBX.out.1] at hk'
        injection hk' with hk'
        injection hk' with _ hk' _
        rcases hT' with hT' | hT' <;> rw [hT'] at hk' <;> exact absurd hk' (by decide)), own_mono HS.left (by omega)⟩

end Go.Proofs.Ytjlledljancafaa
