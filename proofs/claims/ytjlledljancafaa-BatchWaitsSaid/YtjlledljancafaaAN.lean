/- All and Make of no inputs. -/
import Derived.Test.YtjlledljancafaaAL
set_option linter.unusedSimpArgs false
set_option linter.unusedVariables false
namespace Go.Proofs.Ytjlledljancafaa
open Go.RowKit Go.XB

open Go.ChangeMaps
set_option maxHeartbeats 1000000 in
theorem twice_nil (w : World) : Calls Try.prog 37 #[.slice none 0 0] w fun e w' => e = .returned (.bool false) ∧ Below w.heap.size w w' := by
  have hmm : ∀ W : World, (Instr.makeMap 134 none).run Try.prog W = .ok (.map (some W.heap.size)) (W.alloc (.map #[] 0)) := fun W => run_makeMap (P := Try.prog) 134 W
  go_enter Try.func37, Try.ntmps37
  go_wp2
  clear hmm
  go_loopg [9] 0 (fun q i wr => i = .int .i64 0 ∧ Hid (wr = w.alloc (.map #[] 0)))
  case atStart => exact ⟨rfl, rfl⟩
  case round =>
    obtain ⟨rfl, HW⟩ := hrel
    have hw := HW.out
    clear HW
    subst hw
    have hrun := fun ty => map_len (W := w.alloc (.map #[] 0)) (m := w.heap.size) (es := #[]) (clock := 0) (qs := []) (heap_alloc_new w _) ⟨rfl, rfl, fun i h => absurd h (by simp)⟩ ty
    go_wp2
    go_ret
    exact ⟨ret_bool (by simp), (Below.refl _ _).alloc (Nat.le_refl _) _⟩

set_option maxRecDepth 100000 in
set_option maxHeartbeats 4000000 in
theorem all_nil (next limit key : Int) (h : (inB next 0 1000000 && inB limit 1 400000 && inB key 0 1073741824) = true) (w : World) :
    Calls Try.prog 18 #[.slice none 0 0, .int .i64 next, .int .i64 limit, .int .i64 key] w (AllQ w ([], 0)) := by
  simp only [Bool.and_eq_true] at h
  have H1 := hidI h.1.1
  have H2 := hidI h.1.2
  have H3 := hidI h.2
  clear h
  go_enter Try.func18, Try.ntmps18
  go_wp2_with (first
    | (go_at_call 36; (with_reducible refine (within_batch next _ _ _).mono ?_); rintro e w' ⟨rfl, rfl⟩; rw [H1.out])
    | (go_at_call 36; (with_reducible refine (within_batch limit _ _ _).mono ?_); rintro e w' ⟨rfl, rfl⟩; rw [H2.out])
    | (go_at_call 36; (with_reducible refine (within_batch key _ _ _).mono ?_); rintro e w' ⟨rfl, rfl⟩; rw [H3.out])
    | (go_at_call 37; (with_reducible refine (twice_nil _).mono ?_); rintro e w1 ⟨rfl, hb1⟩; have HB1 := hidI hb1; clear hb1)
    | (with_reducible refine at_alloc 99 rfl ?_; refine wpl_alloc_any rfl rfl z_mk ?_; intro cm hcm; (try simp only [Act.put, List.setIfInBounds_toArray, List.set_cons_zero, List.set_cons_succ, World.size_alloc]))
    | (with_reducible refine at_build 99 rfl ?_; refine wpl_build rfl rfl (build_mk next limit key _) (by kernel_rfl) ?_; (try simp only [Act.put, List.setIfInBounds_toArray, List.set_cons_zero, List.set_cons_succ, World.size_alloc]))
    | (with_reducible refine at_store 99 rfl ?_; refine wpl_store_new (cs := [.int .i64 next, .int .i64 limit, .int .i64 key]) rfl rfl rfl rfl (by simp) rfl sz_mk (Eq.refl _) hcm rfl ?_; (try simp only [Act.put, List.setIfInBounds_toArray, List.set_cons_zero, List.set_cons_succ, World.size_alloc]))
    | (go_at_call 26; (with_reducible refine (order_nil next _).mono ?_); rintro e w2 ⟨rfl, hb2⟩; have HB2 := hidI hb2; clear hb2))
  go_loopg [8, 11] 0 (fun q vo vl wr => vo = .slice none 0 0 ∧ vl = .slice none 0 0 ∧ Hid (Below w.heap.size w wr))
  case atStart => exact ⟨rfl, rfl, (HB1.out.alloc HB1.out.size _).trans (HB2.out.mono (by have := HB1.out.size; simp only [World.size_alloc]; omega))⟩
  case round =>
    obtain ⟨rfl, rfl, HB⟩ := hrel
    go_wp2
    go_ret2
    exact AllQ.err 0 HB.out
theorem allE_nil {next limit key : Int} (h : (inB next 0 1000000 && inB limit 1 400000 && inB key 0 1073741824) = true) : allE [] next limit key = ([], 0) := by
  rw [allE_ok h (by simp) rfl]
  have e : orderL next [] = [] := List.eq_nil_of_length_eq_zero (by rw [orderL_length]; rfl)
  rw [e]; rfl

set_option maxRecDepth 100000 in
set_option maxHeartbeats 1000000 in
theorem make_nil (rate key : Int) (w : World) : Calls Try.prog 34 #[.slice none 0 0, .int .i64 rate, .int .i64 key] w (MakeQ w none) := by
  go_enter Try.func34, Try.ntmps34
  go_wp2_with (first
    | (with_reducible refine at_alloc 49 rfl ?_; refine wpl_alloc_any rfl rfl z_bat ?_; intro cur hcur; (try simp only [Act.put, List.setIfInBounds_toArray, List.set_cons_zero, List.set_cons_succ, World.size_alloc]))
    | (with_reducible refine at_build 49 rfl ?_; refine wpl_build rfl rfl (build_bat0 _) (by kernel_rfl) ?_; (try simp only [Act.put, List.setIfInBounds_toArray, List.set_cons_zero, List.set_cons_succ, World.size_alloc]))
    | (with_reducible refine at_store 49 rfl ?_; refine wpl_store_new (cs := [.slice none 0 0, .slice none 0 0, .int .i64 0, .int .i64 0, .int .i64 0]) rfl rfl rfl rfl (by simp) rfl sz_bat (Eq.refl _) hcur rfl ?_; (try simp only [Act.put, List.setIfInBounds_toArray, List.set_cons_zero, List.set_cons_succ, World.size_alloc])))
  refine ret_agg2 (cs := [.slice none 0 0, .slice none 0 0, .int .i64 0, .int .i64 0, .int .i64 0]) rfl rfl rfl rfl agg_bat rfl (RowAt.new (by rfl)) (MakeQ.none rfl ((Below.refl _ _).alloc (Nat.le_refl _) _))

end Go.Proofs.Ytjlledljancafaa
