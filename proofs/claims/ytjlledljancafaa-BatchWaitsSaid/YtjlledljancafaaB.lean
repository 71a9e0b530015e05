/- Sums and first answers over a row of ints. -/
import Derived.Test.YtjlledljancafaaA
set_option linter.unusedSimpArgs false
set_option linter.unusedVariables false
namespace Go.Proofs.Ytjlledljancafaa
open Go.RowKit Go.XB

theorem ints_at {xs : List Int} {b o k : Nat} {w : World} (hr : RowAt w b o (ints xs)) (h : k < xs.length) : w.cell? ⟨b, o + k, none⟩ = some (.int .i64 (xs.getD k 0)) :=
  hr k _ (by simp [ints, List.getD, h])
set_option maxHeartbeats 400000 in
theorem total_amount (xs : List Int) (b : Nat) (c : Nat) (hl : xs.length ≤ 1000000) (w : World) (hr : RowAt w b 0 (ints xs)) :
    Calls Try.prog 43 #[.slice (some ⟨b, 0, none⟩) xs.length c] w fun e w' => e = .returned (.tuple #[.int .i64 (totalA xs 0).1, .int .i64 (totalA xs 0).2]) ∧ w = w' := by
  have HR := hidI hr; clear hr
  go_enter Try.func43, Try.ntmps43
  go_wp2
  refine wp_scope_jumps 0 (fun a' w' => w' = w ∧ ∃ (s e : Int) (u1 u4 u5 u6 u7 u8 u9 u10 u11 u12 u13 u14 u15 u16 u17 u18 u19 u20 u21 u22 : Value), Hid ((s, e) = totalA xs 0) ∧ a' = { tmps := #[.slice (some ⟨b, 0, none⟩) xs.length c, u1, .int .i64 s, .int .i64 e, u4, u5, u6, u7, u8, u9, u10, u11, u12, u13, u14, u15, u16, u17, u18, u19, u20, u21, u22], defers := [] }) (fun _ _ => 0) rfl ?_ ?_
  · go_wp2
    go_loop [2, 3, 8] (fun s e i => ∃ (k : Nat) (s' : Int), k ≤ xs.length ∧ s = .int .i64 s' ∧ e = .int .i64 0 ∧ i = .int .i64 k ∧ Hid (totalA (xs.drop k) s' = totalA xs 0)) (fun _ _ i => xs.length - (intOf i).toNat)
    case atStart => exact ⟨0, 0, Nat.zero_le _, rfl, rfl, rfl, by rfl⟩
    case round =>
      obtain ⟨k, s', hk, rfl, rfl, rfl, hT⟩ := hrel
      by_cases hlt : k < xs.length
      · have hc := ints_at HR.out hlt
        simp only [Nat.zero_add] at hc
        have hd := totalA_drop (s := s') hlt
        obtain ⟨x, hx⟩ : ∃ x, x = xs.getD k 0 := ⟨_, rfl⟩
        rw [← hx] at hc hd
        have HD := hidI (hd.symm.trans hT.out)
        clear hd hT hx
        rcases heldA_two (s' + x) (money s' && money x) with hz | hz
        · have hz' : (addA s' x).2 = 0 := hz
          clear hz
          have HZ := hidI hz'
          obtain ⟨⟨p, q⟩, hpq⟩ : ∃ r, addA s' x = r := ⟨_, rfl⟩
          rw [hpq] at hz'
          simp only at hz'
          subst hz'
          have HP := hidI hpq
          clear hpq
          go_wp2_with (go_at_call 67; refine (add_amount _ _ _).mono ?_; rw [HP.out]; rintro e w' ⟨rfl, rfl⟩)
          go_round
          case rel => exact ⟨k + 1, _, by omega, rfl, rfl, by go_num, by have := HD.out; rw [if_pos HZ.out, HP.out] at this; exact this⟩
          case measure => simp [intOf]; omega
        · have HP := hidI (show addA s' x = (0, 11) from hz)
          clear hz
          go_wp2_with (go_at_call 67; refine (add_amount _ _ _).mono ?_; rw [HP.out]; rintro e w' ⟨rfl, rfl⟩)
          go_step3
          simp only [Exit.inBlock, Exit.then, Exit.jump]
          refine ⟨rfl, rfl, _, _, _, _, _, _, _, _, _, _, _, _, _, _, _, _, _, _, _, _, _, _, ?_, rfl⟩
          have := HD.out
          rw [HP.out] at this
          exact this
      · have h1 : totalA (xs.drop k) s' = (s', 0) := by rw [List.drop_of_length_le (by omega)]; rfl
        have HT := hidI (h1.symm.trans hT.out)
        clear hT h1
        go_wp2
        go_step3
        go_wp2
        simp only [Exit.jump]
        go_ret2
        exact ⟨ret_int2 (by rw [← HT.out]) (by rw [← HT.out]), rfl⟩
  · rintro a' w' ⟨rfl, s, e, u1, u4, u5, u6, u7, u8, u9, u10, u11, u12, u13, u14, u15, u16, u17, u18, u19, u20, u21, u22, hT, rfl⟩
    go_wp2
    simp only [Exit.jump]
    go_ret2
    exact ⟨ret_int2 (by rw [← hT.out]) (by rw [← hT.out]), rfl⟩

set_option maxHeartbeats 400000 in
theorem or_int (xs : List Int) (b : Nat) (c : Nat) (hl : xs.length ≤ 1000000) (w : World) (hr : RowAt w b 0 (ints xs)) :
    Calls Try.prog 72 #[.slice (some ⟨b, 0, none⟩) xs.length c] w fun e w' => e = .returned (.int .i64 (orI xs)) ∧ w = w' := by
  have HR := hidI hr; clear hr
  go_enter Try.func72, Try.ntmps72
  go_wp2
  go_loop [8] (fun i => ∃ (k : Nat), k ≤ xs.length ∧ i = .int .i64 k ∧ Hid (orI (xs.drop k) = orI xs)) (fun i => xs.length - (intOf i).toNat)
  case atStart => exact ⟨0, Nat.zero_le _, rfl, rfl⟩
  case round =>
    obtain ⟨k, hk, rfl, hT⟩ := hrel
    by_cases hlt : k < xs.length
    · have hc := ints_at HR.out hlt
      simp only [Nat.zero_add] at hc
      have hd := orI_drop hlt
      obtain ⟨x, hx⟩ : ∃ x, x = xs.getD k 0 := ⟨_, rfl⟩
      rw [← hx] at hc hd
      clear hx
      by_cases hz : x = 0
      · subst hz
        have HD := hidI (hd.symm.trans hT.out)
        clear hd hT
        go_wp2
        go_round
        case rel => exact ⟨k + 1, by omega, by go_num, HD.out⟩
        case measure => simp [intOf]; omega
      · have HD := hidI (hd.symm.trans hT.out)
        have HZ := hidI hz
        have hz2 : (x != 0) = true := by simpa using hz
        clear hz hd hT
        go_wp2
        go_ret
        refine ⟨ret_int ?_, rfl⟩
        have := HD.out
        rw [if_neg HZ.out] at this
        exact this
    · have h1 : orI (xs.drop k) = 0 := by rw [List.drop_of_length_le (by omega)]; rfl
      have HT := hidI (h1.symm.trans hT.out)
      clear hT h1
      go_wp2
      go_ret
      exact ⟨ret_int HT.out, rfl⟩


end Go.Proofs.Ytjlledljancafaa
