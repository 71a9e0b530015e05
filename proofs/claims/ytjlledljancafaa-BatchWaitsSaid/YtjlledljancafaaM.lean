/- The pieces of batch.Order. -/
import Derived.Test.YtjlledljancafaaL
set_option linter.unusedSimpArgs false
set_option linter.unusedVariables false
namespace Go.Proofs.Ytjlledljancafaa
open Go.RowKit Go.XB
set_option maxRecDepth 100000 in
set_option maxHeartbeats 400000 in
theorem sort_small (l : List Inp) (tl : List Value) (t g n c nb : Nat) (next : Int) (hn2 : n ≤ 20) (w : World) (hl : l.length = n) (hw0 : RowB w g t (l.flatMap encInp ++ tl)) (hn : RowAt w nb 0 [.int .i64 next]) (hnb : nb < w.heap.size) (hne : nb ≠ g) :
    Calls Try.prog 52 #[.slice (some ⟨g, 0, none⟩) n c, clo nb] w fun e w' => e = .returned (.tuple #[]) ∧ SM w g ((insUp (ordI next) 0 n 1 l).flatMap encInp ++ tl) w' := by
  have HW0 := hidI (And.intro hw0 (And.intro hn (And.intro hnb hne)))
  have HL := hidI hl
  clear hw0 hn hnb hne hl
  go_enter Try.func52, Try.ntmps52
  go_wp2_with (first
      | (go_at_call 70; (with_reducible refine (stable_small l tl t g n c nb next hn2 _ HL.out HW0.out.1 HW0.out.2.1 HW0.out.2.2.1 HW0.out.2.2.2).mono ?_); rintro e w1 ⟨rfl, hs1⟩; have HS1 := hidI hs1; clear hs1))
  go_end0
  exact ⟨rfl, HS1.out⟩

set_option maxHeartbeats 400000 in
theorem byrate_clo (next : Int) (w : World) :
    Calls Try.prog 53 #[.int .i64 next] w fun e w' => e = .returned (clo w.heap.size) ∧ w' = w.alloc (.cells #[.int .i64 next] 3) := by
  go_enter Try.func53, Try.ntmps53
  go_wp2
  go_ret
  exact ⟨rfl, rfl⟩


/-- an input that is left out -/
def outI (next : Int) (i : Inp) : Bool := decide (checkE i ≠ 0) || !ripeW i.clm i.conf next
set_option maxRecDepth 100000 in
set_option maxHeartbeats 400000 in
theorem order_clo (i : Inp) (next : Int) (nb : Nat) (w : World) (hn : RowAt w nb 0 [.int .i64 next]) (hnb : nb < w.heap.size) :
    Calls Try.prog 50 #[.agg (encInp i).toArray, .pointer (some ⟨nb, 0, none⟩)] w fun e w' => e = .returned (.bool (outI next i)) ∧ Below w.heap.size w w' := by
  have hn0 : ∀ w1 : World, Below (w.alloc (.cells (encInp i).toArray 93)).heap.size (w.alloc (.cells (encInp i).toArray 93)) w1 → w1.cell? ⟨nb, 0, none⟩ = some (.int .i64 next) := fun w1 hb => by
    have h := ((hn.alloc (.cells (encInp i).toArray 93)).below hb (by simp only [World.size_alloc]; omega)) 0 _ rfl
    simpa using h
  have HN := hidI (And.intro hnb hn0)
  clear hn hn0 hnb
  have c2 : (encInp i)[40]? = some (.int .i64 i.conf) := rfl
  obtain ⟨er, her⟩ : ∃ er, checkE i = er := ⟨_, rfl⟩
  have HX := hidI her
  by_cases hk : er = 0
  · subst hk
    obtain ⟨rp, hrp⟩ : ∃ rp, rp = ripeW i.clm i.conf next := ⟨_, rfl⟩
    have ho : outI next i = !rp := by unfold outI; rw [her, ← hrp]; simp
    rw [ho]
    have HR := hidI hrp
    clear her ho hrp
    go_enter Try.func50, Try.ntmps50
    go_wp2_with (first
      | (with_reducible refine at_load 93 rfl ?_; refine wpl_load_agg (cs := encInp i) rfl rfl rfl agg_inp (encInp_length _) (by (repeat (first | assumption | (with_reducible refine RowAt.new ?_; kernel_rfl) | (with_reducible refine RowAt.new1 ?_; kernel_rfl) | (with_reducible refine RowAt.new2 ?_; kernel_rfl) | (with_reducible refine RowAt.alloc ?_ _) | (with_reducible refine RowAt.drew ?_)))) ?_; (try simp only [Act.put, List.setIfInBounds_toArray, List.set_cons_zero, List.set_cons_succ, World.size_alloc]))
      | (go_at_call 35; (with_reducible refine (check_any _ _).mono ?_); rintro e w1 ⟨rfl, hb1⟩; rw [HX.out]; have hz1 : w.heap.size + 1 ≤ w1.heap.size := (by have := hb1.size; simp only [World.size_alloc] at this; omega); have hrI : RowAt w1 w.heap.size 0 (encInp i) := RowAt.below (RowAt.new (by kernel_rfl)) hb1 (by simp only [World.size_alloc]; omega); have hnx := HN.out.2 w1 hb1; have HB1 := hidI ((Below.refl w.heap.size w).alloc (Nat.le_refl _) _ |>.trans (hb1.mono (by simp only [World.size_alloc]; omega))); have hrC : RowAt w1 w.heap.size 34 (encClm i.clm) := (show RowAt w1 w.heap.size (0 + 34) (encClm i.clm) from RowAt.subK hrI (by kernel_rfl)); obtain ⟨hc1, hf1⟩ := bcell hb1)
      | (with_reducible refine at_load 91 rfl ?_; refine wpl_load_agg_g (cs := encClm i.clm) (by kernel_rfl) rfl rfl agg_clm (encClm_length _) (hrC) ?_; (try simp only [Act.put, List.setIfInBounds_toArray, List.set_cons_zero, List.set_cons_succ, World.size_alloc]))
      | (go_at_call 51; (with_reducible refine (ripe_any _ _ _ _).mono ?_); rintro e w2 ⟨rfl, hb2⟩; have HB2 := hidI hb2))
    go_ret
    exact ⟨ret_bool (by rw [HR.out]), HB1.out.trans (HB2.out.mono (by omega))⟩
  · have ho : outI next i = true := by unfold outI; rw [her]; simp [hk]
    rw [ho]
    clear her ho
    go_enter Try.func50, Try.ntmps50
    go_wp2_with (first
      | (with_reducible refine at_load 93 rfl ?_; refine wpl_load_agg (cs := encInp i) rfl rfl rfl agg_inp (encInp_length _) (by (repeat (first | assumption | (with_reducible refine RowAt.new ?_; kernel_rfl) | (with_reducible refine RowAt.new1 ?_; kernel_rfl) | (with_reducible refine RowAt.new2 ?_; kernel_rfl) | (with_reducible refine RowAt.alloc ?_ _) | (with_reducible refine RowAt.drew ?_)))) ?_; (try simp only [Act.put, List.setIfInBounds_toArray, List.set_cons_zero, List.set_cons_succ, World.size_alloc]))
      | (go_at_call 35; (with_reducible refine (check_any _ _).mono ?_); rintro e w1 ⟨rfl, hb1⟩; rw [HX.out]; have hz1 : w.heap.size + 1 ≤ w1.heap.size := (by have := hb1.size; simp only [World.size_alloc] at this; omega); have hrI : RowAt w1 w.heap.size 0 (encInp i) := RowAt.below (RowAt.new (by kernel_rfl)) hb1 (by simp only [World.size_alloc]; omega); have hnx := HN.out.2 w1 hb1; have HB1 := hidI ((Below.refl w.heap.size w).alloc (Nat.le_refl _) _ |>.trans (hb1.mono (by simp only [World.size_alloc]; omega))); have hrC : RowAt w1 w.heap.size 34 (encClm i.clm) := (show RowAt w1 w.heap.size (0 + 34) (encClm i.clm) from RowAt.subK hrI (by kernel_rfl)); obtain ⟨hc1, hf1⟩ := bcell hb1))
    go_ret
    exact ⟨rfl, HB1.out⟩


end Go.Proofs.Ytjlledljancafaa
