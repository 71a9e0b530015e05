/- The comparison of two inputs. -/
import Derived.Test.YtjlledljancafaaI
set_option linter.unusedSimpArgs false
set_option linter.unusedVariables false
namespace Go.Proofs.Ytjlledljancafaa
open Go.RowKit Go.XB

def ordI (next : Int) (i j : Inp) : Int := orI [cmpI (rateI j next) (rateI i next), cmpI i.dead j.dead, placeI i j]
theorem below_one {w w1 : World} {A B : Obj} {b : Nat} (h : Ext ((w.alloc A).alloc B).drew w1) (hb : b < w.heap.size) : w1.heap[b]? = w.heap[b]? := (below_two h).block b hb
set_option maxRecDepth 100000 in
set_option maxHeartbeats 400000 in
theorem byrate_any (i j : Inp) (next : Int) (nb : Nat) (w : World) (hn : RowAt w nb 0 [.int .i64 next]) (hnb : nb < w.heap.size) :
    Calls Try.prog 71 #[.agg (encInp i).toArray, .agg (encInp j).toArray, .pointer (some ⟨nb, 0, none⟩)] w fun e w' => e = .returned (.int .i64 (ordI next i j)) ∧ Below w.heap.size w w' := by
  have HN := hidI hn
  clear hn
  have c1 : (encInp i)[42]? = some (.int .i64 i.dead) := rfl
  have c2 : (encInp j)[42]? = some (.int .i64 j.dead) := rfl
  go_enter Try.func71, Try.ntmps71
  go_wp2
  refine wp_region_p _ [[], [], [0, 1], [], [], [3, 4], [2, 5], [], [7], [], [9], [8, 10], [], [], [12, 13], [6, 11, 14], [15], [16]] Ext (fun ix v w' => match ix with | 0 => v = .agg (encInp j).toArray | 1 => v = .int .i64 next | 2 => v = .int .i64 (rateI j next) | 3 => v = .agg (encInp i).toArray | 4 => v = .int .i64 next | 5 => v = .int .i64 (rateI i next) | 6 => v = .int .i64 (cmpI (rateI j next) (rateI i next)) | 7 => v = .pointer (some ⟨w.heap.size, 42, none⟩) | 8 => v = .int .i64 i.dead | 9 => v = .pointer (some ⟨w.heap.size + 1, 42, none⟩) | 10 => v = .int .i64 j.dead | 11 => v = .int .i64 (cmpI i.dead j.dead) | 12 => v = .agg (encInp i).toArray | 13 => v = .agg (encInp j).toArray | 14 => v = .int .i64 (placeI i j) | 15 => ∃ g, v = .slice (some ⟨g, 0, none⟩) 3 3 ∧ RowAt w' g 0 (ints [(cmpI (rateI j next) (rateI i next)), (cmpI i.dead j.dead), (placeI i j)]) ∧ g < w'.heap.size | 16 => v = .int .i64 (ordI next i j) | 17 => v = .int .i64 (ordI next i j) | _ => True) (by kernel_rfl) (by kernel_rfl) (by kernel_rfl) (by kernel_rfl) (fun vs => by simp only [putAll, Act.put, List.setIfInBounds_toArray, List.set_cons_zero, List.set_cons_succ]; rfl) (fun w => Ext.refl w) (fun _ _ _ h k => Ext.trans h k) ?stab ?steps ?fin
  case stab =>
    intro i' v w1 w2 hv hr
    match i', hv with
    | 15, ⟨g, h1, h2, h3⟩ => exact ⟨g, h1, h2.below hr h3, Nat.lt_of_lt_of_le h3 hr.size⟩
    | 0, hv => exact hv
    | 1, hv => exact hv
    | 2, hv => exact hv
    | 3, hv => exact hv
    | 4, hv => exact hv
    | 5, hv => exact hv
    | 6, hv => exact hv
    | 7, hv => exact hv
    | 8, hv => exact hv
    | 9, hv => exact hv
    | 10, hv => exact hv
    | 11, hv => exact hv
    | 12, hv => exact hv
    | 13, hv => exact hv
    | 14, hv => exact hv
    | 16, hv => exact hv
    | 17, hv => exact hv
    | n + 18, hv => exact trivial
  case steps =>
    simp only [StepAllP, List.headD, List.tail, AllV]
    refine ⟨?_, ?_, ?_, ?_, ?_, ?_, ?_, ?_, ?_, ?_, ?_, ?_, ?_, ?_, ?_, ?_, ?_, ?_, trivial⟩
    · intro vs w1 hR hp; have hcl := (bcell hR).1
      obtain ⟨hri, hrj⟩ := box_two (x := encInp i) (y := encInp j) hR (by kernel_rfl) (by kernel_rfl)
      refine step_value (exec_load_agg (b := w.heap.size + 1) (off := 0) rfl rfl agg_inp (encInp_length j) hrj) (by rfl) (Ext.refl _) rfl
    · intro vs w1 hR hp; have hcl := (bcell hR).1
      have hnx : RowAt w1 nb 0 [.int .i64 next] := HN.out.mono (below_one hR hnb)
      have hn0 := hnx 0 _ rfl
      simp only [Nat.add_zero, Nat.zero_add] at hn0
      refine step_value (v := .int .i64 next) (by simp [go_sem, hn0]) (by rfl) (Ext.refl _) rfl
    · intro vs w1 hR hp; have hcl := (bcell hR).1; obtain ⟨p0, p1, _⟩ := hp
      refine step_call (f := 65) (args := #[.agg (encInp j).toArray, .int .i64 next]) (w' := w1) (by simp [go_sem, p0, p1]) (by rfl) (rate_any _ _ _) (fun e w2 hc => ?_)
      obtain ⟨rfl, hb2⟩ := hc; exact ⟨_, rfl, hb2, rfl⟩
    · intro vs w1 hR hp; have hcl := (bcell hR).1
      obtain ⟨hri, hrj⟩ := box_two (x := encInp i) (y := encInp j) hR (by kernel_rfl) (by kernel_rfl)
      refine step_value (exec_load_agg (b := w.heap.size) (off := 0) rfl rfl agg_inp (encInp_length i) hri) (by rfl) (Ext.refl _) rfl
    · intro vs w1 hR hp; have hcl := (bcell hR).1
      have hnx : RowAt w1 nb 0 [.int .i64 next] := HN.out.mono (below_one hR hnb)
      have hn0 := hnx 0 _ rfl
      simp only [Nat.add_zero, Nat.zero_add] at hn0
      refine step_value (v := .int .i64 next) (by simp [go_sem, hn0]) (by rfl) (Ext.refl _) rfl
    · intro vs w1 hR hp; have hcl := (bcell hR).1; obtain ⟨p3, p4, _⟩ := hp
      refine step_call (f := 65) (args := #[.agg (encInp i).toArray, .int .i64 next]) (w' := w1) (by simp [go_sem, p3, p4]) (by rfl) (rate_any _ _ _) (fun e w2 hc => ?_)
      obtain ⟨rfl, hb2⟩ := hc; exact ⟨_, rfl, hb2, rfl⟩
    · intro vs w1 hR hp; have hcl := (bcell hR).1; obtain ⟨p2, p5, _⟩ := hp
      refine step_call (f := 73) (args := #[.int .i64 (rateI j next), .int .i64 (rateI i next)]) (w' := w1) (by simp [go_sem, p2, p5]) (by rfl) (compare_int _ _ _) (fun e w2 hc => ?_)
      obtain ⟨rfl, rfl⟩ := hc; exact ⟨_, rfl, Ext.refl _, rfl⟩
    · intro vs w1 hR hp; have hcl := (bcell hR).1
      refine step_value (v := .pointer (some ⟨w.heap.size, 42, none⟩)) (by simp [go_sem, hcl, c1, c2]) (by rfl) (Ext.refl _) rfl
    · intro vs w1 hR hp; have hcl := (bcell hR).1; obtain ⟨p7, _⟩ := hp
      refine step_value (v := .int .i64 i.dead) (by simp [go_sem, hcl, p7, c1, c2]) (by rfl) (Ext.refl _) rfl
    · intro vs w1 hR hp; have hcl := (bcell hR).1
      refine step_value (v := .pointer (some ⟨w.heap.size + 1, 42, none⟩)) (by simp [go_sem, hcl, c1, c2]) (by rfl) (Ext.refl _) rfl
    · intro vs w1 hR hp; have hcl := (bcell hR).1; obtain ⟨p9, _⟩ := hp
      refine step_value (v := .int .i64 j.dead) (by simp [go_sem, hcl, p9, c1, c2]) (by rfl) (Ext.refl _) rfl
    · intro vs w1 hR hp; have hcl := (bcell hR).1; obtain ⟨p8, p10, _⟩ := hp
      refine step_call (f := 73) (args := #[.int .i64 i.dead, .int .i64 j.dead]) (w' := w1) (by simp [go_sem, p8, p10]) (by rfl) (compare_int _ _ _) (fun e w2 hc => ?_)
      obtain ⟨rfl, rfl⟩ := hc; exact ⟨_, rfl, Ext.refl _, rfl⟩
    · intro vs w1 hR hp; have hcl := (bcell hR).1
      obtain ⟨hri, hrj⟩ := box_two (x := encInp i) (y := encInp j) hR (by kernel_rfl) (by kernel_rfl)
      refine step_value (exec_load_agg (b := w.heap.size) (off := 0) rfl rfl agg_inp (encInp_length i) hri) (by rfl) (Ext.refl _) rfl
    · intro vs w1 hR hp; have hcl := (bcell hR).1
      obtain ⟨hri, hrj⟩ := box_two (x := encInp i) (y := encInp j) hR (by kernel_rfl) (by kernel_rfl)
      refine step_value (exec_load_agg (b := w.heap.size + 1) (off := 0) rfl rfl agg_inp (encInp_length j) hrj) (by rfl) (Ext.refl _) rfl
    · intro vs w1 hR hp; have hcl := (bcell hR).1; obtain ⟨p12, p13, _⟩ := hp
      refine step_call (f := 74) (args := #[.agg (encInp i).toArray, .agg (encInp j).toArray]) (w' := w1) (by simp [go_sem, p12, p13]) (by rfl) (place_any _ _ _) (fun e w2 hc => ?_)
      obtain ⟨rfl, hb2⟩ := hc; exact ⟨_, rfl, hb2, rfl⟩
    · intro vs w1 hR hp; have hcl := (bcell hR).1; obtain ⟨p6, p11, p14, _⟩ := hp
      refine step_value (v := .slice (some ⟨w1.heap.size, 0, none⟩) 3 3) (w' := w1.alloc (.cells #[.int .i64 (cmpI (rateI j next) (rateI i next)), .int .i64 (cmpI i.dead j.dead), .int .i64 (placeI i j)] 3)) (exec_bs3 rfl (by simp [go_sem, p6]) (by simp [go_sem, p11]) (by simp [go_sem, p14]) (build_three _ _ _ _)) (by rfl) ((Below.refl _ _).alloc (Nat.le_refl _) _) ⟨_, rfl, RowAt.new (by rfl), by simp⟩
    · intro vs w1 hR hp; have hcl := (bcell hR).1; obtain ⟨p15, _⟩ := hp
      obtain ⟨g, e1, hg1, hg2⟩ := p15
      refine step_call (f := 72) (args := #[.slice (some ⟨g, 0, none⟩) 3 3]) (w' := w1) (by simp [go_sem, e1]) (by rfl) (or_int [(cmpI (rateI j next) (rateI i next)), (cmpI i.dead j.dead), (placeI i j)] g 3 (by simp) w1 hg1) (fun e w2 hc => ?_)
      obtain ⟨rfl, rfl⟩ := hc
      exact ⟨_, rfl, Ext.refl _, rfl⟩
    · intro vs w1 hR hp; have hcl := (bcell hR).1; obtain ⟨p16, _⟩ := hp
      refine step_value (v := .int .i64 (ordI next i j)) (by simp [go_sem, hcl, p16, c1, c2]) (by rfl) (Ext.refl _) rfl
  case fin =>
    simp only [List.length_cons, List.length_nil, Nat.reduceAdd, List.range_succ, List.range_zero, List.nil_append, List.cons_append, AllV]
    intro vs w1 hR hp
    obtain ⟨p0, p1, p2, p3, p4, p5, p6, p7, p8, p9, p10, p11, p12, p13, p14, p15, p16, p17, _⟩ := hp
    simp only [p0, p1, p2, p3, p4, p5, p6, p7, p8, p9, p10, p11, p12, p13, p14, p16, p17]
    go_wp2
    go_ret
    exact ⟨rfl, below_two hR⟩


end Go.Proofs.Ytjlledljancafaa
