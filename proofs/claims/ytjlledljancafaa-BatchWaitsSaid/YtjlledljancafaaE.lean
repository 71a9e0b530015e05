/- Contracts over inputs: witnesses, ripeness. -/
import Derived.Test.YtjlledljancafaaD
set_option linter.unusedSimpArgs false
set_option linter.unusedVariables false
namespace Go.Proofs.Ytjlledljancafaa
open Go.RowKit Go.XB

theorem agg_pt : aggB Try.prog 57 33 = true := by kernel_rfl
theorem agg_wit : aggB Try.prog 59 3 = true := by kernel_rfl
theorem agg_clm : aggB Try.prog 91 6 = true := by kernel_rfl
theorem agg_inp : aggB Try.prog 93 44 = true := by kernel_rfl
theorem agg_in : aggB Try.prog 65 37 = true := by kernel_rfl
theorem agg_scr : aggB Try.prog 53 38 = true := by kernel_rfl
theorem agg_out : aggB Try.prog 55 39 = true := by kernel_rfl
theorem z_clm : zeroB Try.prog 91 6 = true := by kernel_rfl
theorem z_in : zeroB Try.prog 65 37 = true := by kernel_rfl
theorem sz_in : (Try.prog.info? 65).map (·.size) = some 37 := by kernel_rfl
theorem z_inp : zeroB Try.prog 93 44 = true := by kernel_rfl
theorem sz_inp : (Try.prog.info? 93).map (·.size) = some 44 := by kernel_rfl
theorem sz_clm : (Try.prog.info? 91).map (·.size) = some 6 := by kernel_rfl
theorem build_in (p : Pt) (s : Int) (w : Wit) (W : World) : (Instr.build 65 #[(0, .agg (encPt p).toArray), (1, .int .i64 s), (2, .agg (encWit w).toArray)]).run Try.prog W = .ok (.agg (encTIn ⟨p, s, w⟩).toArray) W := by kernel_rfl
set_option maxRecDepth 100000 in
set_option maxHeartbeats 400000 in
theorem in_any (i : Inp) (w : World) :
    Calls Try.prog 61 #[.agg (encInp i).toArray] w fun e w' => e = .returned (.agg (encTIn i.tin).toArray) ∧ Below w.heap.size w w' := by
  have hs37 : (encInp i)[37]? = some (.int .i64 i.clm.seq) := rfl
  go_enter Try.func61, Try.ntmps61
  go_wp2_with (first
      | (with_reducible refine at_alloc 65 rfl ?_; refine wpl_alloc_any rfl rfl z_in ?_; intro cur hcur; (try simp only [Act.put, List.setIfInBounds_toArray, List.set_cons_zero, List.set_cons_succ, World.size_alloc]))
      | (with_reducible refine at_load 57 rfl ?_; refine wpl_load_agg (cs := encPt i.pt) rfl rfl rfl agg_pt (encPt_length _) (by (repeat (first | assumption | (with_reducible refine RowAt.new ?_; kernel_rfl) | (with_reducible refine RowAt.new1 ?_; kernel_rfl) | (with_reducible refine RowAt.new2 ?_; kernel_rfl) | (with_reducible refine RowAt.alloc ?_ _) | (with_reducible refine RowAt.drew ?_)))) ?_; (try simp only [Act.put, List.setIfInBounds_toArray, List.set_cons_zero, List.set_cons_succ, World.size_alloc]))
      | (with_reducible refine at_load 59 rfl ?_; refine wpl_load_agg (cs := encWit i.clm.wit) rfl rfl rfl agg_wit (encWit_length _) (by (repeat (first | assumption | (with_reducible refine RowAt.new ?_; kernel_rfl) | (with_reducible refine RowAt.new1 ?_; kernel_rfl) | (with_reducible refine RowAt.new2 ?_; kernel_rfl) | (with_reducible refine RowAt.alloc ?_ _) | (with_reducible refine RowAt.drew ?_)))) ?_; (try simp only [Act.put, List.setIfInBounds_toArray, List.set_cons_zero, List.set_cons_succ, World.size_alloc]))
      | (with_reducible refine at_build 65 rfl ?_; refine wpl_build rfl rfl (build_in i.pt i.clm.seq i.clm.wit _) (by kernel_rfl) ?_; (try simp only [Act.put, List.setIfInBounds_toArray, List.set_cons_zero, List.set_cons_succ, World.size_alloc]))
      | (with_reducible refine at_store 65 rfl ?_; refine wpl_store_new (cs := encTIn i.tin) rfl rfl rfl rfl (by simp) rfl sz_in (encTIn_length _) hcur rfl ?_; (try simp only [Act.put, List.setIfInBounds_toArray, List.set_cons_zero, List.set_cons_succ, World.size_alloc])))
  refine ret_agg (cs := encTIn i.tin) rfl rfl rfl agg_in (encTIn_length _) (by (repeat (first | assumption | (with_reducible refine RowAt.new ?_; kernel_rfl) | (with_reducible refine RowAt.new1 ?_; kernel_rfl) | (with_reducible refine RowAt.new2 ?_; kernel_rfl) | (with_reducible refine RowAt.alloc ?_ _) | (with_reducible refine RowAt.drew ?_)))) ⟨rfl, ?_⟩
  exact ((Below.refl _ _).alloc (Nat.le_refl _) _).alloc (by simp) _

set_option maxRecDepth 100000 in
set_option maxHeartbeats 400000 in
theorem witness_tx (x : Wit) (w : World) :
    Calls Try.prog 63 #[.agg (encWit x).toArray] w fun e w' => e = .returned (.bool (witB x)) ∧ Below w.heap.size w w' := by
  obtain ⟨kind, key, pre⟩ := x
  have hb0 : Below w.heap.size w (w.alloc (.cells (encWit ⟨kind, key, pre⟩).toArray 59)) := (Below.refl _ _).alloc (Nat.le_refl _) _
  have HB := hidI hb0
  clear hb0
  have s0 : (encWit ⟨kind, key, pre⟩)[0]? = some (.int .i64 kind) := rfl
  have s1 : (encWit ⟨kind, key, pre⟩)[1]? = some (.int .i64 key) := rfl
  have s2 : (encWit ⟨kind, key, pre⟩)[2]? = some (.string pre) := rfl
  by_cases h1 : inB kind 1 4 = true <;> by_cases h2 : inB key 0 1073741824 = true <;> by_cases h3 : (pre.size : Int) ≤ 64
  all_goals
    go_enter Try.func63, Try.ntmps63
    go_wp2_with (first
      | (go_at_call 42; (with_reducible refine (within_tx _ _ _ _).mono ?_); rintro e w' ⟨rfl, rfl⟩))
    all_goals
      go_ret
      refine ⟨ret_bool ?_, HB.out⟩
      first | (simp [witB, h1, h2, h3]; done) | (simp [witB, h1, h2]; omega)

set_option maxRecDepth 100000 in
set_option maxHeartbeats 400000 in
theorem in_tx (x : TIn) (w : World) :
    Calls Try.prog 40 #[.agg (encTIn x).toArray] w fun e w' => e = .returned (.bool (tinB x)) ∧ Below w.heap.size w w' := by
  have s0 : (encTIn x)[32]? = some (.int .i64 x.prev.n) := rfl
  have s1 : (encTIn x)[33]? = some (.int .i64 x.seq) := rfl
  have HB := hidI ((Below.refl w.heap.size w).alloc (Nat.le_refl _) (.cells (encTIn x).toArray 65))
  by_cases h1 : inB x.prev.n 0 99 = true <;> by_cases h2 : inB x.seq 0 65535 = true
  · go_enter Try.func40, Try.ntmps40
    go_wp2_with (first
      | (go_at_call 42; (with_reducible refine (within_tx _ _ _ _).mono ?_); rintro e w' ⟨rfl, rfl⟩)
      | (with_reducible refine at_load 59 rfl ?_; refine wpl_load_agg_g (cs := encWit x.wit) (by kernel_rfl) rfl rfl agg_wit (encWit_length _) (by (repeat (first | assumption | (with_reducible refine RowAt.new ?_; kernel_rfl) | (with_reducible refine RowAt.new1 ?_; kernel_rfl) | (with_reducible refine RowAt.new2 ?_; kernel_rfl) | (with_reducible refine RowAt.alloc ?_ _) | (with_reducible refine RowAt.drew ?_)))) ?_; (try simp only [Act.put, List.setIfInBounds_toArray, List.set_cons_zero, List.set_cons_succ, World.size_alloc]))
      | (go_at_call 63; (with_reducible refine (witness_tx _ _).mono ?_); rintro e w1 ⟨rfl, hb1⟩))
    go_ret
    exact ⟨ret_bool (by simp [tinB, h1, h2]), HB.out.trans (hb1.mono (by simp))⟩
  all_goals
    go_enter Try.func40, Try.ntmps40
    go_wp2_with (first
      | (go_at_call 42; (with_reducible refine (within_tx _ _ _ _).mono ?_); rintro e w' ⟨rfl, rfl⟩)
      | (with_reducible refine at_load 59 rfl ?_; refine wpl_load_agg_g (cs := encWit x.wit) (by kernel_rfl) rfl rfl agg_wit (encWit_length _) (by (repeat (first | assumption | (with_reducible refine RowAt.new ?_; kernel_rfl) | (with_reducible refine RowAt.new1 ?_; kernel_rfl) | (with_reducible refine RowAt.new2 ?_; kernel_rfl) | (with_reducible refine RowAt.alloc ?_ _) | (with_reducible refine RowAt.drew ?_)))) ?_; (try simp only [Act.put, List.setIfInBounds_toArray, List.set_cons_zero, List.set_cons_succ, World.size_alloc]))
      | (go_at_call 63; (with_reducible refine (witness_tx _ _).mono ?_); rintro e w1 ⟨rfl, hb1⟩))
    go_ret
    exact ⟨ret_bool (by simp [tinB, h1, h2]), HB.out⟩

set_option maxRecDepth 100000 in
set_option maxHeartbeats 400000 in
theorem script_tx (x : Scr) (w : World) :
    Calls Try.prog 41 #[.agg (encScr x).toArray] w fun e w' => e = .returned (.bool (scrB x)) ∧ Below w.heap.size w w' := by
  have s0 : (encScr x)[0]? = some (.int .i64 x.kind) := rfl
  have s1 : (encScr x)[1]? = some (.int .i64 x.key) := rfl
  have s2 : (encScr x)[2]? = some (.int .i64 x.other) := rfl
  have s3 : (encScr x)[3]? = some (.int .i64 x.rev) := rfl
  have s4 : (encScr x)[4]? = some (.int .i64 x.delay) := rfl
  have s5 : (encScr x)[5]? = some (.int .i64 x.expiry) := rfl
  have HB := hidI ((Below.refl w.heap.size w).alloc (Nat.le_refl _) (.cells (encScr x).toArray 53))
  by_cases h1 : inB x.key 0 1073741824 = true <;> by_cases h2 : inB x.other 0 1073741824 = true <;> by_cases h4 : inB x.kind 1 6 = true <;> by_cases h5 : inB x.delay 0 65535 = true
  all_goals
    go_enter Try.func41, Try.ntmps41
    go_wp2_with (first
      | (go_at_call 42; (with_reducible refine (within_tx _ _ _ _).mono ?_); rintro e w' ⟨rfl, rfl⟩))
    all_goals
      go_ret
      exact ⟨ret_bool (by simp [scrB, *]), HB.out⟩

set_option maxRecDepth 100000 in
set_option maxHeartbeats 400000 in
theorem ripens_any (c : Clm) (conf : Int) (w : World) :
    Calls Try.prog 69 #[.agg (encClm c).toArray, .int .i64 conf] w fun e w' => e = .returned (.int .i64 (ripensW c conf)) ∧ Below w.heap.size w w' := by
  have s0 : (encClm c)[4]? = some (.int .i64 c.lock) := rfl
  have s1 : (encClm c)[5]? = some (.int .i64 c.wait) := rfl
  have bw := heldW_bd c.wait
  have bc := heldW_bd conf
  have W1 : IntKind.i64.wrap (heldW conf + heldW c.wait) = heldW conf + heldW c.wait := by rw [IntKind.wrap_i64]; omega
  have W2 : IntKind.i64.wrap (heldW conf + 1) = heldW conf + 1 := by rw [IntKind.wrap_i64]; omega
  have HB := hidI ((Below.refl w.heap.size w).alloc (Nat.le_refl _) (.cells (encClm c).toArray 91))
  go_enter Try.func69, Try.ntmps69
  go_wp2_with (first
      | (go_at_call 90; (with_reducible refine (held_wit _ _).mono ?_); rintro e w' ⟨rfl, rfl⟩))
  refine wp_region_p _ [[], [], [1], [2], [0, 3], [], [5], [], [7], [8], [4, 6, 9], [10], [11]] Ext (fun i v w' => match i with | 0 => v = .int .i64 (heldW conf) | 1 => v = .pointer (some ⟨w.heap.size, 5, none⟩) | 2 => v = .int .i64 c.wait | 3 => v = .int .i64 (heldW c.wait) | 4 => v = .int .i64 (heldW conf + heldW c.wait) | 5 => v = .int .i64 (heldW conf) | 6 => v = .int .i64 (heldW conf + 1) | 7 => v = .pointer (some ⟨w.heap.size, 4, none⟩) | 8 => v = .int .i64 c.lock | 9 => v = .int .i64 (heldW c.lock) | 10 => v = .int .i64 (max (max (heldW conf + heldW c.wait) (heldW conf + 1)) (heldW c.lock)) | 11 => v = .int .i64 (ripensW c conf) | 12 => v = .int .i64 (ripensW c conf) | _ => True) (by kernel_rfl) (by kernel_rfl) (by kernel_rfl) (by kernel_rfl) (fun vs => by simp only [putAll, Act.put, List.setIfInBounds_toArray, List.set_cons_zero, List.set_cons_succ]; rfl) (fun w => Ext.refl w) (fun _ _ _ h k => Ext.trans h k) ?stab ?steps ?fin
  case stab =>
    intro i v w1 w2 hv hr
    exact hv
  case steps =>
    simp only [StepAllP, List.headD, List.tail, AllV]
    refine ⟨?_, ?_, ?_, ?_, ?_, ?_, ?_, ?_, ?_, ?_, ?_, ?_, ?_, trivial⟩
    · intro vs w1 hR hp; have hcl := (bcell hR).1
      refine step_value (v := .int .i64 (heldW conf)) (by simp [go_sem, hcl, s0, s1, W1, W2, run_max3]) (by rfl) (Ext.refl _) rfl
    · intro vs w1 hR hp; have hcl := (bcell hR).1
      refine step_value (v := .pointer (some ⟨w.heap.size, 5, none⟩)) (by simp [go_sem, hcl, s0, s1, W1, W2, run_max3]) (by rfl) (Ext.refl _) rfl
    · intro vs w1 hR hp; have hcl := (bcell hR).1; obtain ⟨p1, _⟩ := hp
      refine step_value (v := .int .i64 c.wait) (by simp [go_sem, hcl, p1, s0, s1, W1, W2, run_max3]) (by rfl) (Ext.refl _) rfl
    · intro vs w1 hR hp; have hcl := (bcell hR).1; obtain ⟨p2, _⟩ := hp
      refine step_call (f := 90) (args := #[.int .i64 c.wait]) (w' := w1) (by simp [go_sem, p2]) (by rfl) (held_wit _ _) (fun e w2 hc => ?_)
      obtain ⟨rfl, rfl⟩ := hc; exact ⟨_, rfl, Ext.refl _, rfl⟩
    · intro vs w1 hR hp; have hcl := (bcell hR).1; obtain ⟨p0, p3, _⟩ := hp
      refine step_value (v := .int .i64 (heldW conf + heldW c.wait)) (by simp [go_sem, hcl, p0, p3, s0, s1, W1, W2, run_max3]) (by rfl) (Ext.refl _) rfl
    · intro vs w1 hR hp; have hcl := (bcell hR).1
      refine step_value (v := .int .i64 (heldW conf)) (by simp [go_sem, hcl, s0, s1, W1, W2, run_max3]) (by rfl) (Ext.refl _) rfl
    · intro vs w1 hR hp; have hcl := (bcell hR).1; obtain ⟨p5, _⟩ := hp
      refine step_value (v := .int .i64 (heldW conf + 1)) (by simp [go_sem, hcl, p5, s0, s1, W1, W2, run_max3]) (by rfl) (Ext.refl _) rfl
    · intro vs w1 hR hp; have hcl := (bcell hR).1
      refine step_value (v := .pointer (some ⟨w.heap.size, 4, none⟩)) (by simp [go_sem, hcl, s0, s1, W1, W2, run_max3]) (by rfl) (Ext.refl _) rfl
    · intro vs w1 hR hp; have hcl := (bcell hR).1; obtain ⟨p7, _⟩ := hp
      refine step_value (v := .int .i64 c.lock) (by simp [go_sem, hcl, p7, s0, s1, W1, W2, run_max3]) (by rfl) (Ext.refl _) rfl
    · intro vs w1 hR hp; have hcl := (bcell hR).1; obtain ⟨p8, _⟩ := hp
      refine step_call (f := 90) (args := #[.int .i64 c.lock]) (w' := w1) (by simp [go_sem, p8]) (by rfl) (held_wit _ _) (fun e w2 hc => ?_)
      obtain ⟨rfl, rfl⟩ := hc; exact ⟨_, rfl, Ext.refl _, rfl⟩
    · intro vs w1 hR hp; have hcl := (bcell hR).1; obtain ⟨p4, p6, p9, _⟩ := hp
      refine step_value (v := .int .i64 (max (max (heldW conf + heldW c.wait) (heldW conf + 1)) (heldW c.lock))) (by simp [go_sem, hcl, p4, p6, p9, s0, s1, W1, W2, run_max3]) (by rfl) (Ext.refl _) rfl
    · intro vs w1 hR hp; have hcl := (bcell hR).1; obtain ⟨p10, _⟩ := hp
      refine step_call (f := 90) (args := #[.int .i64 (max (max (heldW conf + heldW c.wait) (heldW conf + 1)) (heldW c.lock))]) (w' := w1) (by simp [go_sem, p10]) (by rfl) (held_wit _ _) (fun e w2 hc => ?_)
      obtain ⟨rfl, rfl⟩ := hc; exact ⟨_, rfl, Ext.refl _, rfl⟩
    · intro vs w1 hR hp; have hcl := (bcell hR).1; obtain ⟨p11, _⟩ := hp
      refine step_value (v := .int .i64 (ripensW c conf)) (by simp [go_sem, hcl, p11, s0, s1, W1, W2, run_max3]) (by rfl) (Ext.refl _) rfl
  case fin =>
    simp only [List.length_cons, List.length_nil, Nat.reduceAdd, List.range_succ, List.range_zero, List.nil_append, List.cons_append, AllV]
    intro vs w1 hR hp
    obtain ⟨p0, p1, p2, p3, p4, p5, p6, p7, p8, p9, p10, p11, p12, _⟩ := hp
    simp only [p0, p1, p2, p3, p4, p5, p6, p7, p8, p9, p10, p11, p12]
    go_wp2
    go_ret
    exact ⟨rfl, HB.out.drew.trans (hR.mono (by simp))⟩

set_option maxRecDepth 100000 in
set_option maxHeartbeats 400000 in
theorem ripe_any (c : Clm) (conf next : Int) (w : World) :
    Calls Try.prog 51 #[.agg (encClm c).toArray, .int .i64 conf, .int .i64 next] w fun e w' => e = .returned (.bool (ripeW c conf next)) ∧ Below w.heap.size w w' := by
  have HB := hidI ((Below.refl w.heap.size w).alloc (Nat.le_refl _) (.cells (encClm c).toArray 91))
  by_cases h1 : ripensW c conf ≤ next
  all_goals
    go_enter Try.func51, Try.ntmps51
    go_wp2_with (first
      | (with_reducible refine at_load 91 rfl ?_; refine wpl_load_agg (cs := encClm c) rfl rfl rfl agg_clm (encClm_length _) (by (repeat (first | assumption | (with_reducible refine RowAt.new ?_; kernel_rfl) | (with_reducible refine RowAt.new1 ?_; kernel_rfl) | (with_reducible refine RowAt.new2 ?_; kernel_rfl) | (with_reducible refine RowAt.alloc ?_ _) | (with_reducible refine RowAt.drew ?_)))) ?_; (try simp only [Act.put, List.setIfInBounds_toArray, List.set_cons_zero, List.set_cons_succ, World.size_alloc]))
      | (go_at_call 69; (with_reducible refine (ripens_any _ _ _).mono ?_); rintro e w1 ⟨rfl, hb1⟩))
    go_ret
    exact ⟨ret_bool (by simp [ripeW, h1]), HB.out.trans (hb1.mono (by simp))⟩


end Go.Proofs.Ytjlledljancafaa
