/- Contracts of small functions over whole numbers: they compute, and leave the world alone. -/
import Derived.Test.YtjlledljancafaaRows
import Derived.Test.YtjlledljancafaaB0
import Derived.Test.YtjlledljancafaaSpec
set_option linter.unusedSimpArgs false
set_option linter.unusedVariables false
namespace Go.Proofs.Ytjlledljancafaa
open Go.RowKit Go.XB

theorem hidI {p : Prop} (h : p) : Hid p := h
theorem ret_bool {a b : Bool} (h : a = b) : Ending.returned (.bool a) = Ending.returned (.bool b) := by rw [h]
theorem ret_int {a b : Int} (h : a = b) : Ending.returned (.int .i64 a) = Ending.returned (.int .i64 b) := by rw [h]
theorem ret_int2 {a b c d : Int} (h : a = b) (h2 : c = d) : Ending.returned (.tuple #[.int .i64 a, .int .i64 c]) = Ending.returned (.tuple #[.int .i64 b, .int .i64 d]) := by rw [h, h2]
set_option maxHeartbeats 400000 in
theorem within_batch (n lo hi : Int) (w : World) :
    Calls Try.prog 36 #[.int .i64 n, .int .i64 lo, .int .i64 hi] w fun e w' => e = .returned (.bool (inB n lo hi)) ∧ w = w' := by
  by_cases h1 : lo ≤ n
  all_goals
    go_enter Try.func36, Try.ntmps36
    go_wp2
    go_ret
    exact ⟨ret_bool (by first | (simp [inB, h1]; done) | (rw [inB_f (by omega)])), rfl⟩

set_option maxHeartbeats 400000 in
theorem within_tx (n lo hi : Int) (w : World) :
    Calls Try.prog 42 #[.int .i64 n, .int .i64 lo, .int .i64 hi] w fun e w' => e = .returned (.bool (inB n lo hi)) ∧ w = w' := by
  by_cases h1 : lo ≤ n
  all_goals
    go_enter Try.func42, Try.ntmps42
    go_wp2
    go_ret
    exact ⟨ret_bool (by first | (simp [inB, h1]; done) | (rw [inB_f (by omega)])), rfl⟩

set_option maxHeartbeats 400000 in
theorem within_amount (n lo hi : Int) (w : World) :
    Calls Try.prog 85 #[.int .i64 n, .int .i64 lo, .int .i64 hi] w fun e w' => e = .returned (.bool (inB n lo hi)) ∧ w = w' := by
  by_cases h1 : lo ≤ n
  all_goals
    go_enter Try.func85, Try.ntmps85
    go_wp2
    go_ret
    exact ⟨ret_bool (by first | (simp [inB, h1]; done) | (rw [inB_f (by omega)])), rfl⟩

set_option maxHeartbeats 400000 in
theorem valid_amount (n : Int) (w : World) :
    Calls Try.prog 89 #[.int .i64 n] w fun e w' => e = .returned (.bool (money n)) ∧ w = w' := by
  by_cases h1 : 0 ≤ n
  all_goals
    go_enter Try.func89, Try.ntmps89
    go_wp2
    go_ret
    exact ⟨ret_bool (by unfold money; first | (simp [inB, h1]; done) | (rw [inB_f (by omega)])), rfl⟩

set_option maxHeartbeats 400000 in
theorem money_ref (n : Int) (w : World) :
    Calls Try.prog 45 #[.int .i64 n] w fun e w' => e = .returned (.bool (money n)) ∧ w = w' := by
  by_cases h1 : 0 ≤ n
  all_goals
    go_enter Try.func45, Try.ntmps45
    go_wp2
    go_ret
    exact ⟨ret_bool (by unfold money; first | (simp [inB, h1]; done) | (rw [inB_f (by omega)])), rfl⟩

set_option maxHeartbeats 400000 in
theorem held_amount (n : Int) (b : Bool) (w : World) :
    Calls Try.prog 86 #[.int .i64 n, .bool b] w fun e w' => e = .returned (.tuple #[.int .i64 (heldA n b).1, .int .i64 (heldA n b).2]) ∧ w = w' := by
  cases b
  all_goals
    by_cases h1 : money n = true
    all_goals
      go_enter Try.func86, Try.ntmps86
      go_wp2_with (first
          | (go_at_call 89; (with_reducible refine (valid_amount _ _).mono ?_); rintro e w' ⟨rfl, rfl⟩))
      go_ret2
      exact ⟨ret_int2 (by simp [heldA, h1]) (by simp [heldA, h1]), rfl⟩
  
theorem addA_wrap (a b : Int) : heldA (wrap64 (a + b)) (money a && money b) = addA a b := by
  unfold addA
  by_cases h1 : money a = true
  · by_cases h2 : money b = true
    · have q1 := inB_iff.1 (show inB a 0 2100000000000000 = true from h1)
      have q2 := inB_iff.1 (show inB b 0 2100000000000000 = true from h2)
      rw [show wrap64 (a + b) = a + b by unfold wrap64; omega]
    · simp [heldA, h2]
  · simp [heldA, h1]
set_option maxHeartbeats 400000 in
theorem add_amount (a b : Int) (w : World) :
    Calls Try.prog 67 #[.int .i64 a, .int .i64 b] w fun e w' => e = .returned (.tuple #[.int .i64 (addA a b).1, .int .i64 (addA a b).2]) ∧ w = w' := by
  rw [← addA_wrap]
  by_cases h1 : money a = true <;> by_cases h2 : money b = true
  all_goals
    go_enter Try.func67, Try.ntmps67
    go_wp2_with (first
        | (go_at_call 89; (with_reducible refine (valid_amount _ _).mono ?_); rintro e w' ⟨rfl, rfl⟩)
        | (go_at_call 86; (with_reducible refine (held_amount _ _ _).mono ?_); rintro e w' ⟨rfl, rfl⟩))
    go_ret2
    exact ⟨ret_int2 (by simp [h1, h2]) (by simp [h1, h2]), rfl⟩

set_option maxHeartbeats 400000 in
theorem fee_amount (a b : Int) (w : World) :
    Calls Try.prog 62 #[.int .i64 a, .int .i64 b] w fun e w' => e = .returned (.tuple #[.int .i64 (feeA a b).1, .int .i64 (feeA a b).2]) ∧ w = w' := by
  by_cases h1 : inB a 0 4000000 = true <;> by_cases h2 : inB b 0 1000000000 = true
  all_goals
    try (have q1 := inB_iff.1 h1; have q2 := inB_iff.1 h2; obtain ⟨q1a, q1b⟩ := q1; obtain ⟨q2a, q2b⟩ := q2; have q3 : a * b ≤ 4000000 * 1000000000 := Int.mul_le_mul q1b q2b q2a (by omega); have q4 : 0 ≤ a * b := Int.mul_nonneg q1a q2a)
    go_enter Try.func62, Try.ntmps62
    go_wp2_with (first
        | (go_at_call 85; (with_reducible refine (within_amount _ _ _ _).mono ?_); rintro e w' ⟨rfl, rfl⟩)
        | (go_at_call 86; (with_reducible refine (held_amount _ _ _).mono ?_); rintro e w' ⟨rfl, rfl⟩))
    go_ret2
    exact ⟨ret_int2 (by simp [feeA, h1, h2]) (by simp [feeA, h1, h2]), rfl⟩

set_option maxHeartbeats 400000 in
theorem rate_amount (a b : Int) (w : World) :
    Calls Try.prog 106 #[.int .i64 a, .int .i64 b] w fun e w' => e = .returned (.tuple #[.int .i64 (rateA a b).1, .int .i64 (rateA a b).2]) ∧ w = w' := by
  by_cases h1 : money a = true <;> by_cases h2 : inB b 1 4000000 = true
  all_goals
    try (have q1 := inB_iff.1 (show inB a 0 2100000000000000 = true from h1); have q2 := inB_iff.1 h2; obtain ⟨q1a, q1b⟩ := q1; obtain ⟨q2a, q2b⟩ := q2)
    go_enter Try.func106, Try.ntmps106
    go_wp2_with (first
        | (go_at_call 89; (with_reducible refine (valid_amount _ _).mono ?_); rintro e w' ⟨rfl, rfl⟩)
        | (go_at_call 85; (with_reducible refine (within_amount _ _ _ _).mono ?_); rintro e w' ⟨rfl, rfl⟩))
    all_goals
      go_ret2
      exact ⟨ret_int2 (by simp [rateA, h1, h2]; try omega) (by simp [rateA, h1, h2]), rfl⟩

set_option maxHeartbeats 400000 in
theorem wit_weight (k : Int) (w : World) :
    Calls Try.prog 44 #[.int .i64 k] w fun e w' => e = .returned (.int .i64 (witW k)) ∧ w = w' := by
  by_cases h1 : k = 1 <;> by_cases h2 : k = 2 <;> by_cases h3 : k = 3 <;> by_cases h4 : k = 4
  all_goals (first | (exfalso; omega; done) | skip)
  all_goals (try subst_vars)
  all_goals
    go_enter Try.func44, Try.ntmps44
    go_wp2
    go_ret
    exact ⟨ret_int (by simp [witW, *]), rfl⟩

set_option maxHeartbeats 400000 in
theorem held_wit (n : Int) (w : World) :
    Calls Try.prog 90 #[.int .i64 n] w fun e w' => e = .returned (.int .i64 (heldW n)) ∧ w = w' := by
  go_enter Try.func90, Try.ntmps90
  go_wp2
  all_goals
    go_ret
    exact ⟨ret_int (by unfold heldW; omega), rfl⟩

set_option maxHeartbeats 400000 in
theorem isnan_int (n : Int) (w : World) :
    Calls Try.prog 93 #[.int .i64 n] w fun e w' => e = .returned (.bool (false)) ∧ w = w' := by
  go_enter Try.func93, Try.ntmps93
  go_wp2
  go_ret
  exact ⟨ret_bool (by simp), rfl⟩

set_option maxHeartbeats 400000 in
theorem compare_int (a b : Int) (w : World) :
    Calls Try.prog 73 #[.int .i64 a, .int .i64 b] w fun e w' => e = .returned (.int .i64 (cmpI a b)) ∧ w = w' := by
  by_cases h1 : a < b <;> by_cases h2 : b < a
  all_goals
    go_enter Try.func73, Try.ntmps73
    go_wp2_with (first
        | (go_at_call 93; (with_reducible refine (isnan_int _ _).mono ?_); rintro e w' ⟨rfl, rfl⟩))
    go_ret
    exact ⟨ret_int (by unfold cmpI; (repeat' split) <;> omega), rfl⟩


end Go.Proofs.Ytjlledljancafaa
