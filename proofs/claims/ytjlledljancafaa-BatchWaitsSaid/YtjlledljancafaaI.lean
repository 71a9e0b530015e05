/- Outpoints and inputs in order. -/
import Derived.Test.YtjlledljancafaaH
set_option linter.unusedSimpArgs false
set_option linter.unusedVariables false
namespace Go.Proofs.Ytjlledljancafaa
open Go.RowKit Go.XB

def hbs (h : Nat) : List Int := (List.range 32).map fun j => (hb h j : Int)
theorem octs_hbs (h : Nat) : octs (hbs h) = encHash h := by unfold octs hbs encHash; rw [List.map_map]; rfl
theorem hbs_length (h : Nat) : (hbs h).length = 32 := by simp [hbs]
def ordP (p q : Pt) : Int := orI [cmpL (hbs p.h) (hbs q.h), cmpI p.n q.n]
theorem build_two (a b : Int) (w : World) : (Instr.buildSlice 73 2 #[(0, .int .i64 a), (1, .int .i64 b)]).run Try.prog w = .ok (.slice (some ⟨w.heap.size, 0, none⟩) 2 2) (w.alloc (.cells #[.int .i64 a, .int .i64 b] 3)) := by kernel_rfl
theorem build_three (a b c : Int) (w : World) : (Instr.buildSlice 73 3 #[(0, .int .i64 a), (1, .int .i64 b), (2, .int .i64 c)]).run Try.prog w = .ok (.slice (some ⟨w.heap.size, 0, none⟩) 3 3) (w.alloc (.cells #[.int .i64 a, .int .i64 b, .int .i64 c] 3)) := by kernel_rfl
theorem exec_bs2 {P : Program} {ρ : Operand → Value} {o : Oper} {t : TypeId} {x y : Operand} {u v r : Value} {w w' : World} (ho : o.op = .buildSlice t 2 #[(0, x), (1, y)]) (hx : ρ x = u) (hy : ρ y = v)
    (h : (Instr.buildSlice t 2 #[(0, u), (1, v)]).run P w = .ok r w') : (execOp ρ o).run P w = .ok (.value r) w' := by
  unfold execOp
  simp only [ho, List.map_toArray, List.map_cons, List.map_nil, hx, hy, Sem.run_bind, h, Result.andThen_ok, Sem.run_pure]
theorem exec_bs3 {P : Program} {ρ : Operand → Value} {o : Oper} {t : TypeId} {x y z : Operand} {u v s r : Value} {w w' : World} (ho : o.op = .buildSlice t 3 #[(0, x), (1, y), (2, z)]) (hx : ρ x = u) (hy : ρ y = v) (hz : ρ z = s)
    (h : (Instr.buildSlice t 3 #[(0, u), (1, v), (2, s)]).run P w = .ok r w') : (execOp ρ o).run P w = .ok (.value r) w' := by
  unfold execOp
  simp only [ho, List.map_toArray, List.map_cons, List.map_nil, hx, hy, hz, Sem.run_bind, h, Result.andThen_ok, Sem.run_pure]
theorem box_two {w w1 : World} {A B : Array Value} {t u : Nat} {x y : List Value} (h : Ext ((w.alloc (.cells A t)).alloc (.cells B u)).drew w1) (hA : (A.toList.drop 0).take x.length = x) (hB : (B.toList.drop 0).take y.length = y) :
    RowAt w1 w.heap.size 0 x ∧ RowAt w1 (w.heap.size + 1) 0 y := by
  have h1 : RowAt (((w.alloc (.cells A t)).alloc (.cells B u)).drew) w.heap.size 0 x := (RowAt.alloc (RowAt.new hA) _).drew
  have h2 : RowAt (((w.alloc (.cells A t)).alloc (.cells B u)).drew) (w.heap.size + 1) 0 y := (RowAt.new1 hB).drew
  exact ⟨h1.below h (by simp only [World.size_alloc, World.size_drew]; omega), h2.below h (by simp only [World.size_alloc, World.size_drew]; omega)⟩
theorem below_two {w w1 : World} {A B : Obj} (h : Ext ((w.alloc A).alloc B).drew w1) : Below w.heap.size w w1 :=
  (((Below.refl _ _).alloc (Nat.le_refl _) A).alloc (by simp only [World.size_alloc]; omega) B).drew.trans (Below.mono h (by simp only [World.size_alloc, World.size_drew]; omega))
set_option maxRecDepth 100000 in
set_option maxHeartbeats 400000 in
theorem order_pt (p q : Pt) (w : World) :
    Calls Try.prog 111 #[.agg (encPt p).toArray, .agg (encPt q).toArray] w fun e w' => e = .returned (.int .i64 (ordP p q)) ∧ Below w.heap.size w w' := by
  have c1 : (encPt p)[32]? = some (.int .i64 p.n) := rfl
  have c2 : (encPt q)[32]? = some (.int .i64 q.n) := rfl
  go_enter Try.func111, Try.ntmps111
  go_wp2
  refine wp_region_p _ [[], [0], [], [2], [1, 3], [], [5], [], [7], [6, 8], [4, 9], [10], [11]] Ext (fun ix v w' => match ix with | 0 => v = .pointer (some ⟨w.heap.size, 0, none⟩) | 1 => v = .slice (some ⟨w.heap.size, 0, none⟩) 32 32 | 2 => v = .pointer (some ⟨w.heap.size + 1, 0, none⟩) | 3 => v = .slice (some ⟨w.heap.size + 1, 0, none⟩) 32 32 | 4 => v = .int .i64 (cmpL (hbs p.h) (hbs q.h)) | 5 => v = .pointer (some ⟨w.heap.size, 32, none⟩) | 6 => v = .int .i64 p.n | 7 => v = .pointer (some ⟨w.heap.size + 1, 32, none⟩) | 8 => v = .int .i64 q.n | 9 => v = .int .i64 (cmpI p.n q.n) | 10 => ∃ g, v = .slice (some ⟨g, 0, none⟩) 2 2 ∧ RowAt w' g 0 (ints [cmpL (hbs p.h) (hbs q.h), cmpI p.n q.n]) ∧ g < w'.heap.size | 11 => v = .int .i64 (ordP p q) | 12 => v = .int .i64 (ordP p q) | _ => True) (by kernel_rfl) (by kernel_rfl) (by kernel_rfl) (by kernel_rfl) (fun vs => by simp only [putAll, Act.put, List.setIfInBounds_toArray, List.set_cons_zero, List.set_cons_succ]; rfl) (fun w => Ext.refl w) (fun _ _ _ h k => Ext.trans h k) ?stab ?steps ?fin
  case stab =>
    intro i' v w1 w2 hv hr
    match i', hv with
    | 10, ⟨g, h1, h2, h3⟩ => exact ⟨g, h1, h2.below hr h3, Nat.lt_of_lt_of_le h3 hr.size⟩
    | 0, hv => exact hv
    | 1, hv => exact hv
    | 2, hv => exact hv
    | 3, hv => exact hv
    | 4, hv => exact hv
    | 5, hv => exact hv
    | 6, hv => exact hv
    | 7, hv => exact hv
    | 8, hv => exact hv
    | 9, hv => exact hv
    | 11, hv => exact hv
    | 12, hv => exact hv
    | n + 13, hv => exact trivial
  case steps =>
    simp only [StepAllP, List.headD, List.tail, AllV]
    refine ⟨?_, ?_, ?_, ?_, ?_, ?_, ?_, ?_, ?_, ?_, ?_, ?_, ?_, trivial⟩
    · intro vs w1 hR hp; have hcl := (bcell hR).1
      refine step_value (v := .pointer (some ⟨w.heap.size, 0, none⟩)) (by simp [go_sem, hcl, c1, c2]) (by rfl) (Ext.refl _) rfl
    · intro vs w1 hR hp; have hcl := (bcell hR).1; obtain ⟨p0, _⟩ := hp
      refine step_value (v := .slice (some ⟨w.heap.size, 0, none⟩) 32 32) (by simp [go_sem, hcl, p0]) (by rfl) (Ext.refl _) rfl
    · intro vs w1 hR hp; have hcl := (bcell hR).1
      refine step_value (v := .pointer (some ⟨w.heap.size + 1, 0, none⟩)) (by simp [go_sem, hcl, c1, c2]) (by rfl) (Ext.refl _) rfl
    · intro vs w1 hR hp; have hcl := (bcell hR).1; obtain ⟨p2, _⟩ := hp
      refine step_value (v := .slice (some ⟨w.heap.size + 1, 0, none⟩) 32 32) (by simp [go_sem, hcl, p2]) (by rfl) (Ext.refl _) rfl
    · intro vs w1 hR hp; have hcl := (bcell hR).1; obtain ⟨p1, p3, _⟩ := hp
      obtain ⟨hrp, hrq⟩ := box_two (x := encPt p) (y := encPt q) hR (by kernel_rfl) (by kernel_rfl)
      refine step_call (f := 32) (args := #[.slice (some ⟨w.heap.size, 0, none⟩) (hbs p.h).length 32, .slice (some ⟨w.heap.size + 1, 0, none⟩) (hbs p.h).length 32]) (w' := w1) (by simp [go_sem, p1, p3]; rfl) (by rfl) (compare_bytes (hbs p.h) (hbs q.h) _ _ _ _ _ _ (by rw [hbs_length]; omega) (by rw [hbs_length, hbs_length]) w1 (by rw [octs_hbs]; exact RowAt.sub (pre := []) (post := [.int .i64 p.n]) hrp) (by rw [octs_hbs]; exact RowAt.sub (pre := []) (post := [.int .i64 q.n]) hrq)) (fun e w2 hc => ?_)
      obtain ⟨rfl, rfl⟩ := hc
      exact ⟨_, rfl, Ext.refl _, rfl⟩
    · intro vs w1 hR hp; have hcl := (bcell hR).1
      refine step_value (v := .pointer (some ⟨w.heap.size, 32, none⟩)) (by simp [go_sem, hcl, c1, c2]) (by rfl) (Ext.refl _) rfl
    · intro vs w1 hR hp; have hcl := (bcell hR).1; obtain ⟨p5, _⟩ := hp
      refine step_value (v := .int .i64 p.n) (by simp [go_sem, hcl, p5, c1, c2]) (by rfl) (Ext.refl _) rfl
    · intro vs w1 hR hp; have hcl := (bcell hR).1
      refine step_value (v := .pointer (some ⟨w.heap.size + 1, 32, none⟩)) (by simp [go_sem, hcl, c1, c2]) (by rfl) (Ext.refl _) rfl
    · intro vs w1 hR hp; have hcl := (bcell hR).1; obtain ⟨p7, _⟩ := hp
      refine step_value (v := .int .i64 q.n) (by simp [go_sem, hcl, p7, c1, c2]) (by rfl) (Ext.refl _) rfl
    · intro vs w1 hR hp; have hcl := (bcell hR).1; obtain ⟨p6, p8, _⟩ := hp
      refine step_call (f := 73) (args := #[.int .i64 p.n, .int .i64 q.n]) (w' := w1) (by simp [go_sem, p6, p8]) (by rfl) (compare_int _ _ _) (fun e w2 hc => ?_)
      obtain ⟨rfl, rfl⟩ := hc; exact ⟨_, rfl, Ext.refl _, rfl⟩
    · intro vs w1 hR hp; have hcl := (bcell hR).1; obtain ⟨p4, p9, _⟩ := hp
      refine step_value (v := .slice (some ⟨w1.heap.size, 0, none⟩) 2 2) (w' := w1.alloc (.cells #[.int .i64 (cmpL (hbs p.h) (hbs q.h)), .int .i64 (cmpI p.n q.n)] 3)) (exec_bs2 rfl (by simp [go_sem, p4]) (by simp [go_sem, p9]) (build_two _ _ _)) (by rfl) ((Below.refl _ _).alloc (Nat.le_refl _) _) ⟨_, rfl, RowAt.new (by rfl), by simp⟩
    · intro vs w1 hR hp; have hcl := (bcell hR).1; obtain ⟨p10, _⟩ := hp
      obtain ⟨g, e1, hg1, hg2⟩ := p10
      refine step_call (f := 72) (args := #[.slice (some ⟨g, 0, none⟩) 2 2]) (w' := w1) (by simp [go_sem, e1]) (by rfl) (or_int [cmpL (hbs p.h) (hbs q.h), cmpI p.n q.n] g 2 (by simp) w1 hg1) (fun e w2 hc => ?_)
      obtain ⟨rfl, rfl⟩ := hc
      exact ⟨_, rfl, Ext.refl _, rfl⟩
    · intro vs w1 hR hp; have hcl := (bcell hR).1; obtain ⟨p11, _⟩ := hp
      refine step_value (v := .int .i64 (ordP p q)) (by simp [go_sem, hcl, p11, c1, c2]) (by rfl) (Ext.refl _) rfl
  case fin =>
    simp only [List.length_cons, List.length_nil, Nat.reduceAdd, List.range_succ, List.range_zero, List.nil_append, List.cons_append, AllV]
    intro vs w1 hR hp
    obtain ⟨p0, p1, p2, p3, p4, p5, p6, p7, p8, p9, p10, p11, p12, _⟩ := hp
    simp only [p0, p1, p2, p3, p4, p5, p6, p7, p8, p9, p11, p12]
    go_wp2
    go_ret
    exact ⟨rfl, below_two hR⟩

set_option maxRecDepth 100000 in
set_option maxHeartbeats 400000 in
theorem less_pt (p q : Pt) (w : World) :
    Calls Try.prog 94 #[.agg (encPt p).toArray, .agg (encPt q).toArray] w fun e w' => e = .returned (.bool (decide (ordP p q < 0))) ∧ Below w.heap.size w w' := by
  obtain ⟨d, hd⟩ : ∃ d, d = ordP p q := ⟨_, rfl⟩
  have HD := hidI hd
  rw [← hd]
  clear hd
  go_enter Try.func94, Try.ntmps94
  go_wp2_with (first
      | (with_reducible refine at_load 57 rfl ?_; refine wpl_load_agg (b := w.heap.size) (cs := encPt p) rfl rfl rfl agg_pt (encPt_length _) (by first | exact hrp | (repeat (first | assumption | (with_reducible refine RowAt.new ?_; kernel_rfl) | (with_reducible refine RowAt.new1 ?_; kernel_rfl) | (with_reducible refine RowAt.new2 ?_; kernel_rfl) | (with_reducible refine RowAt.alloc ?_ _) | (with_reducible refine RowAt.drew ?_)))) ?_; (try simp only [Act.put, List.setIfInBounds_toArray, List.set_cons_zero, List.set_cons_succ, World.size_alloc]))
      | (with_reducible refine at_load 57 rfl ?_; refine wpl_load_agg (b := (w.heap.size + 1)) (cs := encPt q) rfl rfl rfl agg_pt (encPt_length _) (by first | exact hrq | (repeat (first | assumption | (with_reducible refine RowAt.new ?_; kernel_rfl) | (with_reducible refine RowAt.new1 ?_; kernel_rfl) | (with_reducible refine RowAt.new2 ?_; kernel_rfl) | (with_reducible refine RowAt.alloc ?_ _) | (with_reducible refine RowAt.drew ?_)))) ?_; (try simp only [Act.put, List.setIfInBounds_toArray, List.set_cons_zero, List.set_cons_succ, World.size_alloc]))
      | (go_at_call 111; (with_reducible refine (order_pt _ _ _).mono ?_); rintro e w1 ⟨rfl, hb1⟩))
  go_ret
  exact ⟨ret_bool (by first | rw [HD.out] | rfl), (((Below.refl _ _).alloc (Nat.le_refl _) _).alloc (by simp only [World.size_alloc]; omega) _).trans (hb1.mono (by simp only [World.size_alloc]; omega))⟩


def placeI (a b : Inp) : Int := if ordP a.pt b.pt < 0 then -1 else if ordP b.pt a.pt < 0 then 1 else 0
theorem box_two' {w w1 : World} {A B : Array Value} {t u : Nat} {x y : List Value} (h : Ext ((w.alloc (.cells A t)).alloc (.cells B u)) w1) (hA : (A.toList.drop 0).take x.length = x) (hB : (B.toList.drop 0).take y.length = y) :
    RowAt w1 w.heap.size 0 x ∧ RowAt w1 (w.heap.size + 1) 0 y := by
  have h1 : RowAt (((w.alloc (.cells A t)).alloc (.cells B u))) w.heap.size 0 x := (RowAt.alloc (RowAt.new hA) _)
  have h2 : RowAt (((w.alloc (.cells A t)).alloc (.cells B u))) (w.heap.size + 1) 0 y := (RowAt.new1 hB)
  exact ⟨h1.below h (by simp only [World.size_alloc]; omega), h2.below h (by simp only [World.size_alloc]; omega)⟩
theorem below_two' {w w1 : World} {A B : Obj} (h : Ext ((w.alloc A).alloc B) w1) : Below w.heap.size w w1 :=
  (((Below.refl _ _).alloc (Nat.le_refl _) A).alloc (by simp only [World.size_alloc]; omega) B).trans (Below.mono h (by simp only [World.size_alloc]; omega))
set_option maxRecDepth 100000 in
set_option maxHeartbeats 400000 in
theorem place_any (i j : Inp) (w : World) :
    Calls Try.prog 74 #[.agg (encInp i).toArray, .agg (encInp j).toArray] w fun e w' => e = .returned (.int .i64 (placeI i j)) ∧ Below w.heap.size w w' := by
  unfold placeI
  by_cases q1 : ordP i.pt j.pt < 0
  · rw [if_pos q1]
    go_enter Try.func74, Try.ntmps74
    go_wp2_with (first
      | (with_reducible refine at_load 57 rfl ?_; refine wpl_load_agg (b := w.heap.size) (cs := encPt i.pt) rfl rfl rfl agg_pt (encPt_length _) (by first | exact hri | (repeat (first | assumption | (with_reducible refine RowAt.new ?_; kernel_rfl) | (with_reducible refine RowAt.new1 ?_; kernel_rfl) | (with_reducible refine RowAt.new2 ?_; kernel_rfl) | (with_reducible refine RowAt.alloc ?_ _) | (with_reducible refine RowAt.drew ?_)))) ?_; (try simp only [Act.put, List.setIfInBounds_toArray, List.set_cons_zero, List.set_cons_succ, World.size_alloc]))
      | (with_reducible refine at_load 57 rfl ?_; refine wpl_load_agg (b := (w.heap.size + 1)) (cs := encPt j.pt) rfl rfl rfl agg_pt (encPt_length _) (by first | exact hrj | (repeat (first | assumption | (with_reducible refine RowAt.new ?_; kernel_rfl) | (with_reducible refine RowAt.new1 ?_; kernel_rfl) | (with_reducible refine RowAt.new2 ?_; kernel_rfl) | (with_reducible refine RowAt.alloc ?_ _) | (with_reducible refine RowAt.drew ?_)))) ?_; (try simp only [Act.put, List.setIfInBounds_toArray, List.set_cons_zero, List.set_cons_succ, World.size_alloc]))
      | (go_at_call 94; (with_reducible refine (less_pt i.pt j.pt _).mono ?_); rintro e w1 ⟨rfl, hb1⟩; have hz1 : w.heap.size + 2 ≤ w1.heap.size := (by have := hb1.size; simp only [World.size_alloc] at this; omega); obtain ⟨hri, hrj⟩ := box_two' (x := encPt i.pt) (y := encPt j.pt) hb1 (by kernel_rfl) (by kernel_rfl))
      | (go_at_call 94; (with_reducible refine (less_pt j.pt i.pt _).mono ?_); rintro e w2 ⟨rfl, hb2⟩))
    go_ret
    exact ⟨rfl, below_two' hb1⟩
  · rw [if_neg q1]
    by_cases q2 : ordP j.pt i.pt < 0
    · rw [if_pos q2]
      go_enter Try.func74, Try.ntmps74
      go_wp2_with (first
      | (with_reducible refine at_load 57 rfl ?_; refine wpl_load_agg (b := w.heap.size) (cs := encPt i.pt) rfl rfl rfl agg_pt (encPt_length _) (by first | exact hri | (repeat (first | assumption | (with_reducible refine RowAt.new ?_; kernel_rfl) | (with_reducible refine RowAt.new1 ?_; kernel_rfl) | (with_reducible refine RowAt.new2 ?_; kernel_rfl) | (with_reducible refine RowAt.alloc ?_ _) | (with_reducible refine RowAt.drew ?_)))) ?_; (try simp only [Act.put, List.setIfInBounds_toArray, List.set_cons_zero, List.set_cons_succ, World.size_alloc]))
      | (with_reducible refine at_load 57 rfl ?_; refine wpl_load_agg (b := (w.heap.size + 1)) (cs := encPt j.pt) rfl rfl rfl agg_pt (encPt_length _) (by first | exact hrj | (repeat (first | assumption | (with_reducible refine RowAt.new ?_; kernel_rfl) | (with_reducible refine RowAt.new1 ?_; kernel_rfl) | (with_reducible refine RowAt.new2 ?_; kernel_rfl) | (with_reducible refine RowAt.alloc ?_ _) | (with_reducible refine RowAt.drew ?_)))) ?_; (try simp only [Act.put, List.setIfInBounds_toArray, List.set_cons_zero, List.set_cons_succ, World.size_alloc]))
      | (go_at_call 94; (with_reducible refine (less_pt i.pt j.pt _).mono ?_); rintro e w1 ⟨rfl, hb1⟩; have hz1 : w.heap.size + 2 ≤ w1.heap.size := (by have := hb1.size; simp only [World.size_alloc] at this; omega); obtain ⟨hri, hrj⟩ := box_two' (x := encPt i.pt) (y := encPt j.pt) hb1 (by kernel_rfl) (by kernel_rfl))
      | (go_at_call 94; (with_reducible refine (less_pt j.pt i.pt _).mono ?_); rintro e w2 ⟨rfl, hb2⟩))
      go_ret
      exact ⟨rfl, (below_two' hb1).trans (hb2.mono (by omega))⟩
    · rw [if_neg q2]
      go_enter Try.func74, Try.ntmps74
      go_wp2_with (first
      | (with_reducible refine at_load 57 rfl ?_; refine wpl_load_agg (b := w.heap.size) (cs := encPt i.pt) rfl rfl rfl agg_pt (encPt_length _) (by first | exact hri | (repeat (first | assumption | (with_reducible refine RowAt.new ?_; kernel_rfl) | (with_reducible refine RowAt.new1 ?_; kernel_rfl) | (with_reducible refine RowAt.new2 ?_; kernel_rfl) | (with_reducible refine RowAt.alloc ?_ _) | (with_reducible refine RowAt.drew ?_)))) ?_; (try simp only [Act.put, List.setIfInBounds_toArray, List.set_cons_zero, List.set_cons_succ, World.size_alloc]))
      | (with_reducible refine at_load 57 rfl ?_; refine wpl_load_agg (b := (w.heap.size + 1)) (cs := encPt j.pt) rfl rfl rfl agg_pt (encPt_length _) (by first | exact hrj | (repeat (first | assumption | (with_reducible refine RowAt.new ?_; kernel_rfl) | (with_reducible refine RowAt.new1 ?_; kernel_rfl) | (with_reducible refine RowAt.new2 ?_; kernel_rfl) | (with_reducible refine RowAt.alloc ?_ _) | (with_reducible refine RowAt.drew ?_)))) ?_; (try simp only [Act.put, List.setIfInBounds_toArray, List.set_cons_zero, List.set_cons_succ, World.size_alloc]))
      | (go_at_call 94; (with_reducible refine (less_pt i.pt j.pt _).mono ?_); rintro e w1 ⟨rfl, hb1⟩; have hz1 : w.heap.size + 2 ≤ w1.heap.size := (by have := hb1.size; simp only [World.size_alloc] at this; omega); obtain ⟨hri, hrj⟩ := box_two' (x := encPt i.pt) (y := encPt j.pt) hb1 (by kernel_rfl) (by kernel_rfl))
      | (go_at_call 94; (with_reducible refine (less_pt j.pt i.pt _).mono ?_); rintro e w2 ⟨rfl, hb2⟩))
      go_ret
      exact ⟨rfl, (below_two' hb1).trans (hb2.mono (by omega))⟩


end Go.Proofs.Ytjlledljancafaa
