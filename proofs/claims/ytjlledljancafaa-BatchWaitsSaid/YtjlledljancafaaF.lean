/- The weight of a transaction; an input's curve, check and rate. -/
import Derived.Test.YtjlledljancafaaE
set_option linter.unusedSimpArgs false
set_option linter.unusedVariables false
namespace Go.Proofs.Ytjlledljancafaa
open Go.RowKit Go.XB

theorem agg_tx : aggB Try.prog 47 3 = true := by kernel_rfl
set_option maxRecDepth 100000 in
set_option maxHeartbeats 400000 in
theorem weight_any (l : List TIn) (b off c n2 c2 : Nat) (a2 : Option Addr) (lock : Value) (hn : l.length ≤ 1000) (hn2 : n2 ≤ 1000) (w : World) (hr : RowAt w b off (l.flatMap encTIn)) (hb : b < w.heap.size) :
    Calls Try.prog 21 #[.agg #[.slice (some ⟨b, off, none⟩) l.length c, .slice a2 n2 c2, lock]] w fun e w' => e = .returned (.int .i64 (weightT l n2)) ∧ Below w.heap.size w w' := by
  have HR := hidI hr; clear hr
  have hsz : (0 : Nat) < w.heap.size + 1 := by omega
  go_enter Try.func21, Try.ntmps21
  go_wp2
  go_loopw [3, 20] (fun s i wr => ∃ (k : Nat), k ≤ l.length ∧ s = .int .i64 (4 * (10 + 41 * (l.length : Int) + 34 * (n2 : Int)) + wsum (l.take k)) ∧ i = .int .i64 k ∧ Below w.heap.size w wr) (fun _ i _ => l.length - (intOf i).toNat)
  case atStart => exact ⟨0, Nat.zero_le _, by simp [wsum], rfl, (Below.refl _ _).alloc (Nat.le_refl _) _⟩
  case round =>
    obtain ⟨k, hk, rfl, rfl, hbw⟩ := hrel
    have hbd := wsum_bd (l.take k)
    have hbd2 : wsum (l.take k) ≤ 107 * 1000 := by have := List.length_take_le k l; omega
    obtain ⟨S, hS⟩ : ∃ S, S = wsum (l.take k) := ⟨_, rfl⟩
    rw [← hS] at hbd hbd2 ⊢
    obtain ⟨hbd0, _⟩ := hbd
    have HB := hidI hbw
    clear hbw
    by_cases hlt : k < l.length
    · obtain ⟨x, hx⟩ : ∃ x, x = l[k] := ⟨_, rfl⟩
      have hrow : RowAt wr b (off + k * 37) (encTIn x) := by rw [hx]; exact (RowAt.elem encTIn_length HR.out hlt).below HB.out hb
      have hw1 := wsum_take hlt
      rw [← hx, ← hS] at hw1
      have HW := hidI hw1
      have hwb := witW_bd x.wit.kind
      obtain ⟨hwb1, hwb2⟩ := hwb
      have s34 : (encTIn x)[34]? = some (.int .i64 x.wit.kind) := rfl
      clear hx hw1 hS
      go_wp2_with (first
      | (with_reducible refine at_load 65 rfl ?_; refine wpl_load_agg (cs := encTIn x) rfl rfl rfl agg_in (encTIn_length _) (by (repeat (first | assumption | (with_reducible refine RowAt.new ?_; kernel_rfl) | (with_reducible refine RowAt.new1 ?_; kernel_rfl) | (with_reducible refine RowAt.new2 ?_; kernel_rfl) | (with_reducible refine RowAt.alloc ?_ _) | (with_reducible refine RowAt.drew ?_)))) ?_; (try simp only [Act.put, List.setIfInBounds_toArray, List.set_cons_zero, List.set_cons_succ, World.size_alloc]))
      | (with_reducible refine at_alloc 65 rfl ?_; refine wpl_alloc_any rfl rfl z_in ?_; intro cur hcur; (try simp only [Act.put, List.setIfInBounds_toArray, List.set_cons_zero, List.set_cons_succ, World.size_alloc]))
      | (with_reducible refine at_store 65 rfl ?_; refine wpl_store_new (cs := encTIn x) rfl rfl rfl rfl (by simp) rfl sz_in (encTIn_length _) hcur rfl ?_; (try simp only [Act.put, List.setIfInBounds_toArray, List.set_cons_zero, List.set_cons_succ, World.size_alloc]))
      | (go_at_call 44; (with_reducible refine (wit_weight _ _).mono ?_); rintro e w' ⟨rfl, rfl⟩))
      go_roundw
      case rel => exact ⟨k + 1, by omega, by rw [HW.out]; go_num, by go_num, HB.out.alloc (by have := HB.out.size; omega) _⟩
      case measure => simp [intOf]; omega
    · have hke : k = l.length := by omega
      have HK := hidI hke
      have HS := hidI hS
      clear hke hS
      go_wp2
      go_ret
      exact ⟨ret_int (by unfold weightT; rw [HS.out, HK.out, List.take_length]), HB.out⟩


theorem sl_in : sliceB Try.prog 44 65 37 = true := by kernel_rfl
theorem sl_out : sliceB Try.prog 45 55 39 = true := by kernel_rfl
theorem by_out : (Try.prog.info? 55).map (·.bytes) = some 88 := by kernel_rfl
theorem build_tx2 (a1 a2 : Option Addr) (n1 c1 n2 c2 : Nat) (W : World) : (Instr.build 47 #[(0, .slice a1 n1 c1), (1, .slice a2 n2 c2)]).run Try.prog W = .ok (.agg #[.slice a1 n1 c1, .slice a2 n2 c2, .int .i64 0]) W := by kernel_rfl
theorem flat_one (x : TIn) : [x].flatMap encTIn = encTIn x := by simp

/-- what a curve and its error are -/
def cvOf (s d b w : Int) : List Value := if curveOk s d b w = true then encCv (curveV s d b w) else encCv0
def cvE (s d b w : Int) : Int := if curveOk s d b w = true then 0 else 1
theorem cvOf_length (s d b w : Int) : (cvOf s d b w).length = 2 := by unfold cvOf; split <;> rfl
theorem cvOf_one (s d b w : Int) : (cvOf s d b w).all Value.oneCell' = true := by unfold cvOf; split <;> rfl
theorem of_any (s d b v : Int) (w : World) : Calls Try.prog 87 #[.int .i64 s, .int .i64 d, .int .i64 b, .int .i64 v] w fun e w' => e = .returned (.tuple #[.agg (cvOf s d b v).toArray, .int .i64 (cvE s d b v)]) ∧ Below w.heap.size w w' := by
  unfold cvOf cvE
  by_cases h : curveOk s d b v = true
  · simp only [h, if_true]; exact of_ok s d b v h w
  · simp only [Bool.not_eq_true] at h; simp only [h, Bool.false_eq_true, if_false]; exact of_no s d b v h w
theorem agg_cv' : aggB Try.prog 131 2 = true := by kernel_rfl
theorem sz_cv' : (Try.prog.info? 131).map (·.size) = some 2 := by kernel_rfl

theorem own_cell {w w1 w2 : World} {A B : Obj} (hb1 : Below w1.heap.size w1 w2) (hR : Ext ((w.alloc A).alloc B).drew w1) : w2.heap[w.heap.size + 1]? = some B := by
  have h1 : w.heap.size + 2 ≤ w1.heap.size := by have := hR.size; simp at this; omega
  rw [hb1.block _ (by omega), hR.block _ (by simp), ← World.size_alloc w A]
  exact heap_alloc_new (w.alloc A) B
theorem own_below {w w1 w2 : World} {A B : Obj} (hb1 : Below w1.heap.size w1 w2) (hR : Ext ((w.alloc A).alloc B).drew w1) : Below w.heap.size w w2 :=
  ((((Below.refl _ _).alloc (Nat.le_refl _) A).alloc (by simp) B).drew.trans (hR.mono (by simp; omega))).trans (hb1.mono (by have := hR.size; simp at this; omega))
set_option maxRecDepth 100000 in
set_option maxHeartbeats 400000 in
theorem rise_any (i : Inp) (w : World) :
    Calls Try.prog 64 #[.agg (encInp i).toArray] w fun e w' => e = .returned (.tuple #[.agg (cvOf i.since i.dead i.budget (alone i)).toArray, .int .i64 (cvE i.since i.dead i.budget (alone i))]) ∧ Below w.heap.size w w' := by
  have s41 : (encInp i)[41]? = some (.int .i64 i.since) := rfl
  have s42 : (encInp i)[42]? = some (.int .i64 i.dead) := rfl
  have s43 : (encInp i)[43]? = some (.int .i64 i.budget) := rfl
  obtain ⟨cs, hcs⟩ : ∃ cs, cs = cvOf i.since i.dead i.budget (alone i) := ⟨_, rfl⟩
  obtain ⟨er, her⟩ : ∃ er, er = cvE i.since i.dead i.budget (alone i) := ⟨_, rfl⟩
  rw [← hcs, ← her]
  have HC := hidI (And.intro hcs (And.intro (by rw [hcs]; exact cvOf_length _ _ _ _ : cs.length = 2) (by rw [hcs]; exact cvOf_one _ _ _ _ : cs.all Value.oneCell' = true)))
  have HE := hidI her
  clear hcs her
  go_enter Try.func64, Try.ntmps64
  go_wp2_with (first
    | (with_reducible refine at_alloc 131 rfl ?_; refine wpl_alloc_any rfl rfl z_cv ?_; intro cur hcur; (try simp only [Act.put, List.setIfInBounds_toArray, List.set_cons_zero, List.set_cons_succ, World.size_alloc])))
  refine wp_region_p _ [[], [0], [1], [], [2, 3], [4], [5]] Ext (fun ix v w' => match ix with | 0 => v = .agg (encInp i).toArray | 1 => v = .agg (encTIn i.tin).toArray | 2 => ∃ g, v = .slice (some ⟨g, 0, none⟩) 1 1 ∧ RowAt w' g 0 (encTIn i.tin) ∧ g < w'.heap.size | 3 => ∃ g, v = .slice (some ⟨g, 0, none⟩) 1 1 | 4 => ∃ (g g2 : Nat), v = .agg #[.slice (some ⟨g, 0, none⟩) 1 1, .slice (some ⟨g2, 0, none⟩) 1 1, .int .i64 0] ∧ RowAt w' g 0 (encTIn i.tin) ∧ g < w'.heap.size | 5 => v = .int .i64 (alone i) | 6 => v = .int .i64 (alone i) | _ => True) (by kernel_rfl) (by kernel_rfl) (by kernel_rfl) (by kernel_rfl) (fun vs => by simp only [putAll, Act.put, List.setIfInBounds_toArray, List.set_cons_zero, List.set_cons_succ]; rfl) (fun w => Ext.refl w) (fun _ _ _ h k => Ext.trans h k) ?stab ?steps ?fin
  case stab =>
    intro i' v w1 w2 hv hr
    match i', hv with
    | 0, hv => exact hv
    | 1, hv => exact hv
    | 2, ⟨g, h1, h2, h3⟩ => exact ⟨g, h1, h2.below hr h3, Nat.lt_of_lt_of_le h3 hr.size⟩
    | 3, hv => exact hv
    | 4, ⟨g, g2, h1, h2, h3⟩ => exact ⟨g, g2, h1, h2.below hr h3, Nat.lt_of_lt_of_le h3 hr.size⟩
    | 5, hv => exact hv
    | 6, hv => exact hv
    | n + 7, hv => exact trivial
  case steps =>
    simp only [StepAllP, List.headD, List.tail, AllV]
    refine ⟨?_, ?_, ?_, ?_, ?_, ?_, ?_, trivial⟩
    · intro vs w1 hR hp; have hcl := (bcell hR).1
      refine step_value (exec_load_agg rfl rfl agg_inp (encInp_length i) (RowAt.below (B := (w.alloc (.cells (encInp i).toArray 93)).heap.size) (RowAt.new (by kernel_rfl)) (Below.trans ((Below.refl _ _).alloc (Nat.le_refl _) _).drew (hR.mono (by simp))) (by simp))) (by rfl) (Ext.refl _) rfl
    · intro vs w1 hR hp; have hcl := (bcell hR).1; obtain ⟨p0, _⟩ := hp
      refine step_call (f := 61) (args := #[.agg (encInp i).toArray]) (w' := w1) (by simp [go_sem, p0]) (by rfl) (in_any _ _) (fun e w2 hc => ?_)
      obtain ⟨rfl, hb2⟩ := hc; exact ⟨_, rfl, hb2, rfl⟩
    · intro vs w1 hR hp; have hcl := (bcell hR).1; obtain ⟨p1, _⟩ := hp
      refine step_value (exec_buildSlice_one (cs := encTIn i.tin) rfl (by simp [go_sem, p1]) sl_in (by omega) (by omega) (encTIn_length _) w1) (by rfl) ((Below.refl _ _).alloc (Nat.le_refl _) _) ⟨_, rfl, RowAt.new (by kernel_rfl), by simp⟩
    · intro vs w1 hR hp; have hcl := (bcell hR).1
      obtain ⟨cz, hcz, hrun⟩ := run_makeSlice_some sl_out by_out (l := 1) (by omega) (by omega) (by omega) w1
      refine step_value (v := .slice (some ⟨w1.heap.size, 0, none⟩) 1 1) (w' := w1.alloc (.cells cz 55)) ?_ (by rfl) ((Below.refl _ _).alloc (Nat.le_refl _) _) ⟨_, rfl⟩
      have hrun2 : (Instr.makeSlice 45 (.int .i64 1) (.int .i64 1)).run Try.prog w1 = _ := hrun
      unfold execOp
      simp only [Act.eval, Sem.run_bind, hrun2, Result.andThen_ok, Sem.run_pure]
    · intro vs w1 hR hp; have hcl := (bcell hR).1; obtain ⟨p2, p3, _⟩ := hp
      obtain ⟨g, e2, hg1, hg2⟩ := p2
      obtain ⟨g2, e3⟩ := p3
      refine step_value (exec_build rfl (v := .agg #[.slice (some ⟨g, 0, none⟩) 1 1, .slice (some ⟨g2, 0, none⟩) 1 1, .int .i64 0]) ?_) (by rfl) (Ext.refl _) ⟨g, g2, rfl, hg1, hg2⟩
      simp only [List.map_toArray, List.map_cons, List.map_nil, go_sem, e2, e3]
      exact build_tx2 _ _ _ _ _ _ w1
    · intro vs w1 hR hp; have hcl := (bcell hR).1; obtain ⟨p4, _⟩ := hp
      obtain ⟨g, g2, e4, hg1, hg2⟩ := p4
      refine step_call (f := 21) (args := #[.agg #[.slice (some ⟨g, 0, none⟩) 1 1, .slice (some ⟨g2, 0, none⟩) 1 1, .int .i64 0]]) (w' := w1) (by simp [go_sem, e4]) (by rfl) (weight_any [i.tin] g 0 1 1 1 (some ⟨g2, 0, none⟩) (.int .i64 0) (by simp) (by omega) w1 (by rw [flat_one]; exact hg1) hg2) (fun e w2 hc => ?_)
      obtain ⟨rfl, hb2⟩ := hc
      exact ⟨_, rfl, hb2, rfl⟩
    · intro vs w1 hR hp; have hcl := (bcell hR).1; obtain ⟨p5, _⟩ := hp
      refine step_value (v := .int .i64 (alone i)) (by simp [go_sem, hcl, p5]) (by rfl) (Ext.refl _) rfl
  case fin =>
    simp only [List.length_cons, List.length_nil, Nat.reduceAdd, List.range_succ, List.range_zero, List.nil_append, List.cons_append, AllV]
    intro vs w1 hR hp
    obtain ⟨p0, p1, p2, p3, p4, p5, p6, _⟩ := hp
    simp only [p0, p1, p5, p6]
    have hz1 : w.heap.size + 2 ≤ w1.heap.size := by have := hR.size; simp at this; omega
    have hrow : RowAt w1 w.heap.size 0 (encInp i) := RowAt.below (B := w.heap.size + 1) (RowAt.new (by kernel_rfl)) (Below.trans ((Below.refl _ _).alloc (by simp) _).drew (hR.mono (by simp))) (by omega)
    have l41 := hrow 41 _ s41
    have l42 := hrow 42 _ s42
    have l43 := hrow 43 _ s43
    simp only [Nat.zero_add] at l41 l42 l43
    go_wp2_with (first
      | (go_at_call 87; (with_reducible refine (of_any _ _ _ _ _).mono ?_); rintro e w2 ⟨rfl, hb1⟩; rw [← HC.out.1, ← HE.out]; obtain ⟨hc2, hf2⟩ := bcell hb1; have hz2 : w.heap.size + 2 ≤ w2.heap.size := by have := hb1.size; have := hR.size; simp at this; omega)
      | (with_reducible refine at_store 131 rfl ?_; refine wpl_store_own (cs := cs) rfl rfl rfl rfl rfl sz_cv' (HC.out.2.1) (own_cell hb1 hR) hcur HC.out.2.2 ?_; (try simp only [Act.put, List.setIfInBounds_toArray, List.set_cons_zero, List.set_cons_succ, World.size_alloc])))
    refine ret_agg2 rfl rfl rfl rfl agg_cv' HC.out.2.1 ?_ ⟨rfl, ?_⟩
    · exact RowAt.setRow (own_cell hb1 hR)
    · exact below_setRow (g := w.heap.size + 1) (own_below hb1 hR) (by omega) _


end Go.Proofs.Ytjlledljancafaa
