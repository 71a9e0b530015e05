/- BatchWaits: nothing to wait for. -/
import Derived.Test.YtjlledljancafaaBW
set_option linter.unusedSimpArgs false
set_option linter.unusedVariables false
namespace Go.Proofs.Ytjlledljancafaa
open Go.RowKit Go.XB

set_option maxRecDepth 100000 in
set_option maxHeartbeats 4000000 in
theorem waits_zero (a1 a2 : Option Addr) (n1 c1 n2 c2 : Nat) (next : Int) (h0 : min n1 n2 = 0) (h2 : 1 ≤ next) (h3 : next ≤ 60) (w : World) :
    Calls Try.prog 7 #[.slice a1 n1 c1, .slice a2 n2 c2, .int .i64 next] w fun e w' => e = .returned (.bool true) ∧ Below w.heap.size w w' := by
  have hm : min (n1 : Int) (n2 : Int) = 0 := by omega
  have q3 : decide (next < 1) = false := by simp; omega
  have q4 : decide (60 < next) = false := by simp; omega
  have HIN := hidI (show (inB next 0 1000000 && inB 400000 1 400000 && inB 1 0 1073741824) = true by rw [inB_t (show 0 ≤ next ∧ next ≤ 1000000 by omega)]; rfl)
  clear h0
  go_enter Try.func7, Try.ntmps7
  go_wp2_with (first
    | (with_reducible refine at_bi .min rfl ?_; refine wpl_min2 rfl rfl rfl rfl ?_; rw [hm]; (try simp only [Act.put, List.setIfInBounds_toArray, List.set_cons_zero, List.set_cons_succ, World.size_alloc])))
  clear hm
  go_loopg [8, 9, 10, 11] 0 (fun q v rp lk i wr => v = .slice none 0 0 ∧ i = .int .i64 0 ∧ rp = .int .i64 0 ∧ lk = .int .i64 0 ∧ wr = w)
  case atStart => exact ⟨rfl, rfl, rfl, rfl, rfl⟩
  case round =>
    obtain ⟨rfl, rfl, rfl, rfl, rfl⟩ := hrel
    go_wp2_with (first
      | (go_at_call 19; (with_reducible refine (mades_nil _).mono ?_); rintro e w1 ⟨rfl, rfl⟩)
      | (go_at_call 18; (with_reducible refine (all_nil next 400000 1 HIN.out _).mono ?_); rintro e w3 ⟨v3, xs3, rfl, hb3, ho, hba⟩; obtain ⟨a3, c3, hv3⟩ := own_zero ho; subst hv3; clear ho hba)
      | (go_at_call 26; (with_reducible refine (order_nil next _).mono ?_); rintro e w5 ⟨rfl, hb5⟩)
      | (go_at_call 17; (with_reducible refine (awake_any _).mono ?_); rintro e wz ⟨rfl, hbz⟩)
      | (with_reducible refine at_bi .min rfl ?_; refine wpl_min2 rfl rfl rfl rfl ?_; (try simp only [Act.put, List.setIfInBounds_toArray, List.set_cons_zero, List.set_cons_succ, World.size_alloc])))
    go_ret
    exact ⟨rfl, hb3.trans ((hb5.trans (hbz.mono hb5.size)).mono hb3.size)⟩

end Go.Proofs.Ytjlledljancafaa
