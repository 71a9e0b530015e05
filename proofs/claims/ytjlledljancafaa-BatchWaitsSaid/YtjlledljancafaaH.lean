/- Outpoints in order. -/
import Derived.Test.YtjlledljancafaaG
set_option linter.unusedSimpArgs false
set_option linter.unusedVariables false
namespace Go.Proofs.Ytjlledljancafaa
open Go.RowKit Go.XB

def cmpL : List Int → List Int → Int
  | a :: l, b :: m => if cmpI a b = 0 then cmpL l m else cmpI a b
  | [], [] => 0
  | [], _ :: _ => -1
  | _ :: _, [] => 1
def octs (xs : List Int) : List Value := xs.map fun x => .int .u8 x
theorem octs_at {xs : List Int} {b o k : Nat} {w : World} (hr : RowAt w b o (octs xs)) (h : k < xs.length) : w.cell? ⟨b, o + k, none⟩ = some (.int .u8 (xs.getD k 0)) :=
  hr k _ (by simp [octs, List.getD, h])
theorem cmpL_drop {xs ys : List Int} {k : Nat} (h : k < xs.length) (h2 : k < ys.length) : cmpL (xs.drop k) (ys.drop k) = if cmpI (xs.getD k 0) (ys.getD k 0) = 0 then cmpL (xs.drop (k + 1)) (ys.drop (k + 1)) else cmpI (xs.getD k 0) (ys.getD k 0) := by
  rw [List.drop_eq_getElem_cons h, List.drop_eq_getElem_cons h2]
  simp [cmpL, List.getD, h, h2]
set_option maxHeartbeats 400000 in
theorem isnan_byte (n : Int) (w : World) :
    Calls Try.prog 81 #[.int .u8 n] w fun e w' => e = .returned (.bool false) ∧ w = w' := by
  go_enter Try.func81, Try.ntmps81
  go_wp2
  go_ret
  exact ⟨ret_bool (by simp), rfl⟩

set_option maxHeartbeats 400000 in
theorem compare_byte (a b : Int) (w : World) :
    Calls Try.prog 58 #[.int .u8 a, .int .u8 b] w fun e w' => e = .returned (.int .i64 (cmpI a b)) ∧ w = w' := by
  by_cases h1 : a < b <;> by_cases h2 : b < a
  all_goals
    go_enter Try.func58, Try.ntmps58
    go_wp2_with (first
        | (go_at_call 81; (with_reducible refine (isnan_byte _ _).mono ?_); rintro e w' ⟨rfl, rfl⟩))
    go_ret
    exact ⟨ret_int (by unfold cmpI; (repeat' split) <;> omega), rfl⟩

set_option maxRecDepth 100000 in
set_option maxHeartbeats 400000 in
theorem compare_bytes (xs ys : List Int) (b1 o1 c1 b2 o2 c2 : Nat) (hl : xs.length ≤ 1000) (hl2 : ys.length = xs.length) (w : World) (hr : RowAt w b1 o1 (octs xs)) (hs : RowAt w b2 o2 (octs ys)) :
    Calls Try.prog 32 #[.slice (some ⟨b1, o1, none⟩) xs.length c1, .slice (some ⟨b2, o2, none⟩) xs.length c2] w fun e w' => e = .returned (.int .i64 (cmpL xs ys)) ∧ w = w' := by
  have HR := hidI hr; clear hr
  have HS := hidI hs; clear hs
  go_enter Try.func32, Try.ntmps32
  go_wp2
  go_loop [11] (fun i => ∃ (k : Nat), k ≤ xs.length ∧ i = .int .i64 k ∧ Hid (cmpL (xs.drop k) (ys.drop k) = cmpL xs ys)) (fun i => xs.length - (intOf i).toNat)
  case atStart => exact ⟨0, Nat.zero_le _, rfl, rfl⟩
  case round =>
    obtain ⟨k, hk, rfl, hT⟩ := hrel
    by_cases hlt : k < xs.length
    · have hc := octs_at HR.out hlt
      have hc2 := octs_at (k := k) HS.out (by omega)
      have hd := cmpL_drop hlt (show k < ys.length by omega)
      obtain ⟨x, hx⟩ : ∃ x, x = xs.getD k 0 := ⟨_, rfl⟩
      obtain ⟨y, hy⟩ : ∃ y, y = ys.getD k 0 := ⟨_, rfl⟩
      rw [← hx] at hc hd
      rw [← hy] at hc2 hd
      have HD := hidI (hd.symm.trans hT.out)
      clear hd hT hx hy
      obtain ⟨c, hcc⟩ : ∃ c, cmpI x y = c := ⟨_, rfl⟩
      have HC := hidI hcc
      clear hcc
      by_cases hz : c = 0
      · subst hz
        go_wp2_with (go_at_call 58; refine (compare_byte _ _ _).mono ?_; rw [HC.out]; rintro e w' ⟨rfl, rfl⟩)
        go_round
        case rel => exact ⟨k + 1, by omega, by go_num, by have := HD.out; rw [HC.out, if_pos rfl] at this; exact this⟩
        case measure => simp [intOf]; omega
      · have HZ := hidI hz
        go_wp2_with (go_at_call 58; refine (compare_byte _ _ _).mono ?_; rw [HC.out]; rintro e w' ⟨rfl, rfl⟩)
        go_ret
        exact ⟨ret_int (by have := HD.out; rw [HC.out, if_neg HZ.out] at this; exact this), rfl⟩
    · have h1 : cmpL (xs.drop k) (ys.drop k) = 0 := by rw [List.drop_of_length_le (by omega), List.drop_of_length_le (by omega)]; rfl
      have HT := hidI (h1.symm.trans hT.out)
      clear hT h1
      go_wp2
      go_ret
      exact ⟨ret_int HT.out, rfl⟩


end Go.Proofs.Ytjlledljancafaa
