/- The same of no inputs (a nil slice). -/
import Derived.Test.YtjlledljancafaaQ
set_option linter.unusedSimpArgs false
set_option linter.unusedVariables false
namespace Go.Proofs.Ytjlledljancafaa
open Go.RowKit Go.XB
set_option maxRecDepth 100000 in
set_option maxHeartbeats 400000 in
theorem index_nil (nb : Nat) (w : World) :
    Calls Try.prog 68 #[.slice none 0 0, .func (.func 50) #[] #[.pointer (some ⟨nb, 0, none⟩)]] w fun e w' => e = .returned (.int .i64 (-1)) ∧ w = w' := by
  go_enter Try.func68, Try.ntmps68
  go_wp2
  go_loopg [8] 0 (fun k i wr => i = .int .i64 0 ∧ wr = w)
  case atStart => exact ⟨rfl, rfl⟩
  case round =>
    obtain ⟨rfl, rfl⟩ := hrel
    go_wp2
    go_ret
    exact ⟨rfl, rfl⟩

set_option maxRecDepth 100000 in
set_option maxHeartbeats 400000 in
theorem delete_nil (nb : Nat) (w : World) :
    Calls Try.prog 48 #[.slice none 0 0, .func (.func 50) #[] #[.pointer (some ⟨nb, 0, none⟩)]] w fun e w' => e = .returned (.slice none 0 0) ∧ w = w' := by
  go_enter Try.func48, Try.ntmps48
  go_wp2_with (go_at_call 68; (with_reducible refine (index_nil _ _).mono ?_); rintro e w' ⟨rfl, rfl⟩)
  go_ret
  exact ⟨rfl, rfl⟩

set_option maxRecDepth 100000 in
set_option maxHeartbeats 400000 in
theorem insertion_nil (nb : Nat) (w : World) :
    Calls Try.prog 91 #[.slice none 0 0, .int .i64 0, .int .i64 0, .func (.func 71) #[] #[.pointer (some ⟨nb, 0, none⟩)]] w fun e w' => e = .returned (.tuple #[]) ∧ w = w' := by
  go_enter Try.func91, Try.ntmps91
  go_wp2
  go_loopg [8] 0 (fun k i wr => i = .int .i64 1 ∧ wr = w)
  case atStart => exact ⟨rfl, rfl⟩
  case round =>
    obtain ⟨rfl, rfl⟩ := hrel
    go_wp2
    go_end0
    exact ⟨rfl, rfl⟩

set_option maxRecDepth 100000 in
set_option maxHeartbeats 400000 in
theorem stable_nil (nb : Nat) (w : World) :
    Calls Try.prog 70 #[.slice none 0 0, .int .i64 0, .func (.func 71) #[] #[.pointer (some ⟨nb, 0, none⟩)]] w fun e w' => e = .returned (.tuple #[]) ∧ w = w' := by
  go_enter Try.func70, Try.ntmps70
  go_wp2
  go_loopg [7, 8] 0 (fun k va vb wr => va = .int .i64 0 ∧ vb = .int .i64 20 ∧ wr = w)
  case atStart => exact ⟨rfl, rfl, rfl⟩
  case round =>
    obtain ⟨rfl, rfl, h⟩ := hrel
    have h2 := h.symm
    clear h
    subst h2
    go_wp2_with (go_at_call 91; (with_reducible refine (insertion_nil _ _).mono ?_); rintro e w' ⟨rfl, rfl⟩)
    go_loopg [6] 0 (fun k vc wr' => vc = .int .i64 20 ∧ wr' = w)
    case atStart => exact ⟨rfl, rfl⟩
    case round =>
      obtain ⟨rfl, rfl⟩ := hrel
      go_wp2
      go_end0
      exact ⟨rfl, rfl⟩

set_option maxRecDepth 100000 in
set_option maxHeartbeats 400000 in
theorem sort_nil (nb : Nat) (w : World) :
    Calls Try.prog 52 #[.slice none 0 0, .func (.func 71) #[] #[.pointer (some ⟨nb, 0, none⟩)]] w fun e w' => e = .returned (.tuple #[]) ∧ w = w' := by
  go_enter Try.func52, Try.ntmps52
  go_wp2_with (go_at_call 70; (with_reducible refine (stable_nil _ _).mono ?_); rintro e w' ⟨rfl, rfl⟩)
  go_end0
  exact ⟨rfl, rfl⟩

set_option maxRecDepth 100000 in
set_option maxHeartbeats 400000 in
theorem order_nil (next : Int) (w : World) :
    Calls Try.prog 26 #[.slice none 0 0, .int .i64 next] w fun e w' => e = .returned (.slice none 0 0) ∧ Below w.heap.size w w' := by
  go_enter Try.func26, Try.ntmps26
  go_wp2_with (first
    | (go_at_call 49; (with_reducible refine (clone_nil _ _ _).mono ?_); rintro e w' ⟨rfl, rfl⟩)
    | (go_at_call 48; (with_reducible refine (delete_nil _ _).mono ?_); rintro e w' ⟨rfl, rfl⟩)
    | (go_at_call 53; (with_reducible refine (byrate_clo _ _).mono ?_); rintro e w' ⟨rfl, rfl⟩; unfold clo)
    | (go_at_call 52; (with_reducible refine (sort_nil _ _).mono ?_); rintro e w' ⟨rfl, rfl⟩))
  go_ret
  exact ⟨rfl, ((Below.refl _ _).alloc (Nat.le_refl _) _).alloc (by simp only [World.size_alloc]; omega) _⟩


end Go.Proofs.Ytjlledljancafaa
