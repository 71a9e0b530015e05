/- Whole numbers below 2^53 as floats: exact. No program. -/
import Derived.WalkKit
import Derived.WalkLawsBesides
set_option linter.unusedSimpArgs false
set_option linter.unusedVariables false
namespace Go.XB
open Ieee
def fl (n : Nat) : Nat := FloatKind.f64.nearest n

theorem log2_shift {n s : Nat} (h : n ≠ 0) : (n * 2 ^ s).log2 = n.log2 + s := by
  have h0 : n * 2 ^ s ≠ 0 := Nat.mul_ne_zero h (Nat.ne_of_gt (Nat.pow_pos (by omega)))
  apply (Nat.log2_eq_iff h0).2
  have h1 := (Nat.log2_eq_iff h).1 rfl
  constructor
  · rw [Nat.pow_add]; exact Nat.mul_le_mul_right _ h1.1
  · rw [show n.log2 + s + 1 = (n.log2 + 1) + s by omega, Nat.pow_add]; exact Nat.mul_lt_mul_of_pos_right h1.2 (Nat.pow_pos (by omega))

/-- 'even' cuts nothing off what divides -/
theorem cut_exact (way : Toward) {n d : Nat} : way.cut false (n * 2 ^ d) d = n := by
  unfold Toward.cut
  by_cases hn : n = 0
  · subst hn
    simp only [Nat.zero_mul, Nat.zero_div, Nat.zero_mod]
    have : 0 < 1 <<< min d (Nat.log2 0 + 2) := by rw [Nat.one_shiftLeft]; exact Nat.pow_pos (by omega)
    cases way <;> simp <;> omega
  · have hl : d ≤ (n * 2 ^ d).log2 + 2 := by rw [log2_shift hn]; omega
    rw [Nat.min_eq_left hl, Nat.one_shiftLeft]
    have hp : 0 < 2 ^ d := Nat.pow_pos (by omega)
    dsimp only
    rw [Nat.mul_div_cancel _ hp, Nat.mul_mod_left]
    cases way <;> simp

theorem log2_lt53 {n : Nat} (h0 : n ≠ 0) (h : n < 2 ^ 53) : n.log2 ≤ 52 := by
  have := (Nat.log2_lt h0).2 h
  omega

/-- the word of a whole number, however its place is told -/
theorem nearest_scale {n s : Nat} (h0 : n ≠ 0) (h : n < 2 ^ 53) (hs : s ≤ 1074) :
    double.nearest false (n * 2 ^ s) (-(s : Int)) = (n.log2 + 1022) * 2 ^ 52 + n * 2 ^ (52 - n.log2) := by
  have hl := log2_lt53 h0 h
  have hne : n * 2 ^ s ≠ 0 := Nat.mul_ne_zero h0 (Nat.ne_of_gt (Nat.pow_pos (by omega)))
  unfold Format.nearest
  rw [if_neg hne]
  have hlp : double.leastPlace = -1074 := by decide
  have hfb : double.fractionBits = 52 := rfl
  have hbin : double.binade = 2 ^ 52 := rfl
  have hinf : double.infRung = 2047 * 2 ^ 52 := by decide
  simp only [hlp, hfb, hbin, hinf, log2_shift h0]
  have hlast : max (-(s : Int) + ((n.log2 + s : Nat) : Int) - (52 : Nat)) (-1074) = (n.log2 : Int) - 52 := by omega
  rw [hlast]
  have h1 := (Nat.log2_eq_iff h0).1 rfl
  have hM : n * 2 ^ (52 - n.log2) < 2 ^ 53 := by
    have : n * 2 ^ (52 - n.log2) < 2 ^ (n.log2 + 1) * 2 ^ (52 - n.log2) := Nat.mul_lt_mul_of_pos_right h1.2 (Nat.pow_pos (by omega))
    rw [← Nat.pow_add, show n.log2 + 1 + (52 - n.log2) = 53 by omega] at this
    exact this
  have hk : Toward.even.cut false ((n * 2 ^ s) <<< (-(s : Int) - ((n.log2 : Int) - 52)).toNat) (((n.log2 : Int) - 52 - -(s : Int))).toNat = n * 2 ^ (52 - n.log2) := by
    by_cases hc : s ≤ 52 - n.log2
    · have e1 : (-(s : Int) - ((n.log2 : Int) - 52)).toNat = 52 - n.log2 - s := by omega
      have e2 : (((n.log2 : Int) - 52 - -(s : Int))).toNat = 0 := by omega
      rw [e1, e2, Nat.shiftLeft_eq, Nat.mul_assoc, ← Nat.pow_add, show s + (52 - n.log2 - s) = 52 - n.log2 by omega]
      have := cut_exact .even (n := n * 2 ^ (52 - n.log2)) (d := 0)
      simpa using this
    · have e1 : (-(s : Int) - ((n.log2 : Int) - 52)).toNat = 0 := by omega
      have e2 : (((n.log2 : Int) - 52 - -(s : Int))).toNat = s - (52 - n.log2) := by omega
      rw [e1, e2, Nat.shiftLeft_zero]
      have : n * 2 ^ s = n * 2 ^ (52 - n.log2) * 2 ^ (s - (52 - n.log2)) := by
        rw [Nat.mul_assoc, ← Nat.pow_add, show 52 - n.log2 + (s - (52 - n.log2)) = s by omega]
      rw [this, cut_exact]
  rw [hk]
  have e3 : ((n.log2 : Int) - 52 - -1074).toNat = n.log2 + 1022 := by omega
  rw [e3]
  unfold Format.word
  simp only [Bool.false_eq_true, if_false]
  rw [Nat.min_eq_left]
  clear hk e3 hlast hinf hbin hfb hlp h1 hne
  generalize n * 2 ^ (52 - n.log2) = M at hM
  generalize n.log2 = e at hl
  clear h h0
  have h1 : (e + 1022) * 2 ^ 52 ≤ 1074 * 2 ^ 52 := Nat.mul_le_mul_right _ (by omega)
  exact Nat.le_trans (Nat.add_le_add h1 (Nat.le_of_lt hM)) (by decide)

theorem fl_eq {n : Nat} (h0 : n ≠ 0) (h : n < 2 ^ 53) : fl n = (n.log2 + 1022) * 2 ^ 52 + n * 2 ^ (52 - n.log2) := by
  have := nearest_scale (s := 0) h0 h (by omega)
  have hd : decide ((n : Int) < 0) = false := by simp
  show double.nearest (decide ((n : Int) < 0)) n 0 = _
  rw [hd]
  simpa using this

theorem fl_scale {n s : Nat} (h : n < 2 ^ 53) (hs : s ≤ 1074) : double.nearest false (n * 2 ^ s) (-(s : Int)) = fl n := by
  by_cases h0 : n = 0
  · subst h0
    rw [Nat.zero_mul]
    simp [Format.nearest, fl, FloatKind.nearest, FloatKind.encode, Format.write, FloatKind.format]
  · rw [nearest_scale h0 h hs, fl_eq h0 h]

theorem fl_read {n : Nat} (h : n < 2 ^ 53) : ∃ k : Nat, k ≤ 1074 ∧ FloatKind.f64.decode (fl n) = .number false (n * 2 ^ k) (-(k : Int)) := by
  by_cases h0 : n = 0
  · subst h0
    refine ⟨1074, by omega, ?_⟩
    exact (Nat.zero_mul (2 ^ 1074)).symm ▸ (by decide +kernel)
  · have hl := log2_lt53 h0 h
    have h1 := (Nat.log2_eq_iff h0).1 rfl
    refine ⟨52 - n.log2, by omega, ?_⟩
    rw [fl_eq h0 h]
    have hM : n * 2 ^ (52 - n.log2) < 2 ^ 53 := by
      have : n * 2 ^ (52 - n.log2) < 2 ^ (n.log2 + 1) * 2 ^ (52 - n.log2) := Nat.mul_lt_mul_of_pos_right h1.2 (Nat.pow_pos (by omega))
      rw [← Nat.pow_add, show n.log2 + 1 + (52 - n.log2) = 53 by omega] at this
      exact this
    have hm : 2 ^ 52 ≤ n * 2 ^ (52 - n.log2) := by
      have : 2 ^ n.log2 * 2 ^ (52 - n.log2) ≤ n * 2 ^ (52 - n.log2) := Nat.mul_le_mul_right _ h1.1
      rw [← Nat.pow_add, show n.log2 + (52 - n.log2) = 52 by omega] at this
      exact this
    generalize n * 2 ^ (52 - n.log2) = M at hM hm
    generalize he : n.log2 = e at hl
    show double.read ((e + 1022) * 2 ^ 52 + M) = _
    unfold Format.read
    have hsw : double.signWeight = 2 ^ 63 := rfl
    have hbin : double.binade = 2 ^ 52 := rfl
    have hinf : double.infRung = 2047 * 2 ^ 52 := by decide
    have hlp : double.leastPlace = -1074 := by decide
    simp only [hsw, hbin, hinf, hlp]
    have hlt : (e + 1022) * 2 ^ 52 + M < 2 ^ 63 := by
      have : (e + 1022) * 2 ^ 52 ≤ 1074 * 2 ^ 52 := Nat.mul_le_mul_right _ (by omega)
      omega
    rw [Nat.mod_eq_of_lt hlt, Nat.div_eq_of_lt hlt]
    have hge : ¬ ((e + 1022) * 2 ^ 52 + M < 2 ^ 52) := by omega
    rw [if_neg hge]
    have hlt2 : (e + 1022) * 2 ^ 52 + M < 2047 * 2 ^ 52 := by
      have : (e + 1022) * 2 ^ 52 ≤ 1074 * 2 ^ 52 := Nat.mul_le_mul_right _ (by omega)
      omega
    rw [if_pos hlt2]
    have hd : ((e + 1022) * 2 ^ 52 + M) / 2 ^ 52 = e + 1023 := by
      have : (e + 1022) * 2 ^ 52 + M = (M - 2 ^ 52) + 2 ^ 52 * (e + 1023) := by omega
      rw [this, Nat.add_mul_div_left _ _ (by omega), Nat.div_eq_of_lt (by omega)]; omega
    have hmo : ((e + 1022) * 2 ^ 52 + M) % 2 ^ 52 = M - 2 ^ 52 := by
      have : (e + 1022) * 2 ^ 52 + M = (M - 2 ^ 52) + 2 ^ 52 * (e + 1023) := by omega
      rw [this, Nat.add_mul_mod_self_left, Nat.mod_eq_of_lt (by omega)]
    rw [hd, hmo]
    have e1 : 2 ^ 52 + (M - 2 ^ 52) = M := by omega
    rw [e1]
    have e2 : (-1074 : Int) + ((e + 1023 - 1 : Nat) : Int) = -((52 - e : Nat) : Int) := by omega
    rw [e2]
    rfl

theorem signed_up {n k m : Nat} (h : k ≤ m) : signed false (n * 2 ^ k) (-(k : Int) - -(m : Int)).toNat = ((n * 2 ^ m : Nat) : Int) := by
  have : (-(k : Int) - -(m : Int)).toNat = m - k := by omega
  rw [this]
  unfold signed
  simp only [Bool.false_eq_true, if_false]
  rw [Nat.shiftLeft_eq, Nat.mul_assoc, ← Nat.pow_add, show k + (m - k) = m by omega]

theorem fl_order {a b : Nat} (ha : a < 2 ^ 53) (hb : b < 2 ^ 53) : FloatKind.f64.format.order (fl a) (fl b) = some (compare a b) := by
  obtain ⟨k, _, hk⟩ := fl_read ha
  obtain ⟨l, _, hl⟩ := fl_read hb
  have hk' : FloatKind.f64.format.read (fl a) = _ := hk
  have hl' : FloatKind.f64.format.read (fl b) = _ := hl
  unfold Format.order
  rw [hk', hl']
  unfold Datum.order
  have hb' : min (-(k : Int)) (-(l : Int)) = -((max k l : Nat) : Int) := by omega
  simp only [hb']
  rw [signed_up (Nat.le_max_left k l), signed_up (Nat.le_max_right k l)]
  congr 1
  have hp : 0 < 2 ^ max k l := Nat.pow_pos (by omega)
  rcases Nat.lt_trichotomy a b with h | h | h
  · rw [Nat.compare_eq_lt.2 h]
    have : a * 2 ^ max k l < b * 2 ^ max k l := Nat.mul_lt_mul_of_pos_right h hp
    exact Int.compare_eq_lt.2 (by omega)
  · subst h; simp
  · rw [Nat.compare_eq_gt.2 h]
    have : b * 2 ^ max k l < a * 2 ^ max k l := Nat.mul_lt_mul_of_pos_right h hp
    exact Int.compare_eq_gt.2 (by omega)

theorem fl_sub {a b : Nat} (ha : a < 2 ^ 53) (h : b ≤ a) : FloatKind.f64.format.sub (fl a) (fl b) = some (fl (a - b)) := by
  obtain ⟨k, hk0, hk⟩ := fl_read ha
  obtain ⟨l, hl0, hl⟩ := fl_read (show b < 2 ^ 53 by omega)
  have hk' : FloatKind.f64.format.read (fl a) = _ := hk
  have hl' : FloatKind.f64.format.read (fl b) = _ := hl
  unfold Format.sub
  rw [hk', hl']
  unfold Datum.opposite Datum.sum
  have hb' : min (-(k : Int)) (-(l : Int)) = -((max k l : Nat) : Int) := by omega
  simp only [hb', Bool.not_false, Bool.false_and]
  rw [signed_up (Nat.le_max_left k l)]
  have hneg : signed true (b * 2 ^ l) (-(l : Int) - -((max k l : Nat) : Int)).toNat = -((b * 2 ^ max k l : Nat) : Int) := by
    have := signed_up (n := b) (Nat.le_max_right k l)
    unfold signed at this ⊢
    simp only [Bool.false_eq_true, if_false, if_true] at this ⊢
    omega
  rw [hneg]
  have hle : b * 2 ^ max k l ≤ a * 2 ^ max k l := Nat.mul_le_mul_right _ h
  have ht : ((a * 2 ^ max k l : Nat) : Int) + -((b * 2 ^ max k l : Nat) : Int) = (((a - b) * 2 ^ max k l : Nat) : Int) := by
    rw [Nat.sub_mul]; omega
  rw [ht]
  have hnn : ¬ ((((a - b) * 2 ^ max k l : Nat) : Int) < 0) := by omega
  simp only [hnn, decide_false, ite_self, Int.natAbs_natCast, Option.map_some]
  congr 1
  exact fl_scale (by omega) (by omega)

theorem fl_toInt {a : Nat} (ha : a < 2 ^ 53) : (FloatKind.f64.decode (fl a)).toInt .zero = some (a : Int) := by
  obtain ⟨k, _, hk⟩ := fl_read ha
  rw [hk]
  have e1 : (-(k : Int)).toNat = 0 := by omega
  have e2 : (- -(k : Int)).toNat = k := by omega
  unfold Datum.toInt Datum.integral
  simp only [e1, e2, Nat.shiftLeft_zero, cut_exact]
  simp [signed]

theorem fl_trunc {a : Nat} (ha : a < 2 ^ 53) : ∃ k : Nat, FloatKind.f64.decode (fl a) = .number false (a * 2 ^ k) (-(k : Int)) ∧ FloatKind.f64.encode ((FloatKind.f64.decode (fl a)).integral .zero) = fl a := by
  obtain ⟨k, _, hk⟩ := fl_read ha
  refine ⟨k, hk, ?_⟩
  rw [hk]
  have e1 : (-(k : Int)).toNat = 0 := by omega
  have e2 : (- -(k : Int)).toNat = k := by omega
  unfold Datum.integral
  simp only [e1, e2, Nat.shiftLeft_zero, cut_exact]
  have := fl_scale (n := a) (s := 0) ha (by omega)
  simpa [FloatKind.encode, Format.write, FloatKind.format] using this
end Go.XB
