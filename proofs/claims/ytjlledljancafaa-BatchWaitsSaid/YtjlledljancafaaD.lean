/- The rate of a curve at a height. -/
import Derived.Test.YtjlledljancafaaC
set_option linter.unusedSimpArgs false
set_option linter.unusedVariables false
namespace Go.Proofs.Ytjlledljancafaa
open Go.RowKit Go.XB

def atC (v : Cv) (h : Int) : Int :=
  if min (max h (-1)) 1000001 - (v.a : Int) < 0 then v.b
  else if min (max h (-1)) 1000001 - (v.a : Int) ≥ (v.c : Int) - v.a then v.d
  else v.b + (((v.d - v.b) * (min (max h (-1)) 1000001 - (v.a : Int)).toNat / (v.c - v.a) : Nat) : Int)
theorem wrap64_nat {m : Nat} (h : m ≤ 9000000000000000000) : wrap64 (m : Int) = m := by unfold wrap64; omega
theorem u64_nat {m : Nat} (h : m ≤ 9000000000000000000) : IntKind.u64.wrap (m : Int) = m := by rw [IntKind.wrap_u64]; omega
theorem i64_nat {m : Nat} (h : m ≤ 9000000000000000000) : IntKind.i64.wrap (m : Int) = m := by rw [IntKind.wrap_i64]; omega
theorem div64_at (x y m : Nat) (hm : m = x / y) (hx : x < 18446744073709551616) (hy : y < 18446744073709551616) (h0 : 0 < y) (w : World) :
    Calls Try.prog 109 #[.int .u64 0, .int .u64 x, .int .u64 y] w fun e w' => e = .returned (.tuple #[.int .u64 (m : Int), .int .u64 ((x % y : Nat) : Int)]) ∧ ∃ n, w' = w.drewN n := by
  subst hm
  exact div64_small x y hx hy h0 w
theorem cv_at0 (v : Cv) : (encCv v)[0]? = some (.complex .f64 (fl v.a) (fl v.b)) := rfl
theorem cv_at1 (v : Cv) : (encCv v)[1]? = some (.complex .f64 (fl v.c) (fl v.d)) := rfl
set_option maxRecDepth 100000 in
set_option maxHeartbeats 400000 in
theorem at_any (v : Cv) (hv : v.ok) (h : Int) (w : World) :
    Calls Try.prog 88 #[.agg (encCv v).toArray, .int .i64 h] w fun e w' => e = .returned (.int .i64 (atC v h)) ∧ Below w.heap.size w w' := by
  have HV := hidI hv
  obtain ⟨h1, h2, h3, h4, h5⟩ := hv
  have ha : v.a < 2 ^ 53 := by omega
  have hb : v.b < 2 ^ 53 := by omega
  have hc : v.c < 2 ^ 53 := by omega
  have hd : v.d < 2 ^ 53 := by omega
  have R0 := run_csub 129 v.c v.d v.a v.b hc hd h1 h4
  have C1 := run_toInt v.a ha
  have C2 := run_toInt v.b hb
  have C3 := run_toInt v.d hd
  have C4 := run_toInt (v.c - v.a) (by omega)
  have C5 := run_toInt (v.d - v.b) (by omega)
  have z0 := cv_at0 v
  have z1 := cv_at1 v
  obtain ⟨r, hr⟩ : ∃ r, r = v.d - v.b := ⟨_, rfl⟩
  obtain ⟨L, hL⟩ : ∃ L, L = v.c - v.a := ⟨_, rfl⟩
  obtain ⟨g, hg⟩ : ∃ g, g = min (max h (-1)) 1000001 := ⟨_, rfl⟩
  have hat : atC v h = if g - (v.a : Int) < 0 then (v.b : Int) else if g - (v.a : Int) ≥ (v.c : Int) - v.a then v.d else v.b + ((r * (g - (v.a : Int)).toNat / L : Nat) : Int) := by
    unfold atC; rw [hg, hr, hL]
  rw [hat]
  rw [← hr] at R0 C5
  rw [← hL] at R0 C4
  have hva : v.a ≤ 1000000 := by omega
  have hvb : v.b ≤ 1000000000 := by omega
  have hr1 : r ≤ 1000000000 := by omega
  have hL1 : L ≤ 1000000 := by omega
  have hLe : (v.c : Int) - v.a = L := by omega
  rw [hLe]
  have HG := hidI hg
  have hg1 : -1 ≤ g := by omega
  have hg2 : g ≤ 1000001 := by omega
  clear hg hr hL h1 h2 h3 h4 h5 ha hb hc hd hat hLe
  by_cases q1 : g - (v.a : Int) < 0
  · rw [if_pos q1]
    go_enter Try.func88, Try.ntmps88
    go_wp2_with (first
      | (with_reducible refine at_alloc 131 rfl ?_; refine wpl_alloc_any rfl rfl z_cv ?_; intro cur hcur; (try simp only [Act.put, List.setIfInBounds_toArray, List.set_cons_zero, List.set_cons_succ, World.size_alloc]))
      | (go_at_call 107; (with_reducible refine (line_ok v HV.out _).mono ?_); rintro e w1 ⟨rfl, hb1⟩; obtain ⟨hc1, hf1⟩ := bcell hb1; have hz1 : w.heap.size < w1.heap.size := by have := hb1.size; simp at this; omega)
      | (with_reducible refine at_store 131 rfl ?_; refine wpl_store_new (cs := encCv v) rfl rfl rfl rfl (by simp) rfl sz_cv (encCv_length _) hcur rfl ?_; (try simp only [Act.put, List.setIfInBounds_toArray, List.set_cons_zero, List.set_cons_succ, World.size_alloc]))
      | (with_reducible refine at_bi .max rfl ?_; refine wpl_max2 rfl rfl rfl rfl ?_; (try simp only [Act.put, List.setIfInBounds_toArray, List.set_cons_zero, List.set_cons_succ, World.size_alloc]))
      | (with_reducible refine at_bi .min rfl ?_; refine wpl_min2 rfl rfl rfl rfl ?_; rw [← HG.out]; (try simp only [Act.put, List.setIfInBounds_toArray, List.set_cons_zero, List.set_cons_succ, World.size_alloc])))
    go_ret
    refine ⟨ret_int rfl, ?_⟩
    exact (((Below.refl _ _).alloc (Nat.le_refl _) _).trans (hb1.mono (by simp))).alloc (by omega) _
  · rw [if_neg q1]
    by_cases q2 : (L : Int) ≤ g - (v.a : Int)
    · rw [if_pos q2]
      go_enter Try.func88, Try.ntmps88
      go_wp2_with (first
      | (with_reducible refine at_alloc 131 rfl ?_; refine wpl_alloc_any rfl rfl z_cv ?_; intro cur hcur; (try simp only [Act.put, List.setIfInBounds_toArray, List.set_cons_zero, List.set_cons_succ, World.size_alloc]))
      | (go_at_call 107; (with_reducible refine (line_ok v HV.out _).mono ?_); rintro e w1 ⟨rfl, hb1⟩; obtain ⟨hc1, hf1⟩ := bcell hb1; have hz1 : w.heap.size < w1.heap.size := by have := hb1.size; simp at this; omega)
      | (with_reducible refine at_store 131 rfl ?_; refine wpl_store_new (cs := encCv v) rfl rfl rfl rfl (by simp) rfl sz_cv (encCv_length _) hcur rfl ?_; (try simp only [Act.put, List.setIfInBounds_toArray, List.set_cons_zero, List.set_cons_succ, World.size_alloc]))
      | (with_reducible refine at_bi .max rfl ?_; refine wpl_max2 rfl rfl rfl rfl ?_; (try simp only [Act.put, List.setIfInBounds_toArray, List.set_cons_zero, List.set_cons_succ, World.size_alloc]))
      | (with_reducible refine at_bi .min rfl ?_; refine wpl_min2 rfl rfl rfl rfl ?_; rw [← HG.out]; (try simp only [Act.put, List.setIfInBounds_toArray, List.set_cons_zero, List.set_cons_succ, World.size_alloc])))
      go_ret
      refine ⟨ret_int rfl, ?_⟩
      exact (((Below.refl _ _).alloc (Nat.le_refl _) _).trans (hb1.mono (by simp))).alloc (by omega) _
    · rw [if_neg q2]
      obtain ⟨n, hn⟩ : ∃ n : Nat, g - (v.a : Int) = n := ⟨(g - (v.a : Int)).toNat, by omega⟩
      rw [hn] at q2 ⊢
      have hp : r * n ≤ 1000000000000000 := Nat.le_trans (Nat.mul_le_mul hr1 (show n ≤ 1000000 by omega)) (by decide)
      have hq : r * n / L ≤ r * n := Nat.div_le_self _ _
      obtain ⟨m, hm⟩ : ∃ m, m = r * n / L := ⟨_, rfl⟩
      rw [← hm] at hq
      have hmb : m ≤ 1000000000000000 := Nat.le_trans hq hp
      have Wr := u64_nat (Nat.le_trans hr1 (by decide))
      have hn1 : n ≤ 1000000 := by clear hp hq hm hmb; omega
      have hL0 : 0 < L := by clear hp hq hm hmb; omega
      have Wn := u64_nat (Nat.le_trans hn1 (by decide))
      have WL := u64_nat (Nat.le_trans hL1 (by decide))
      have Wm2 := i64_nat (Nat.le_trans hmb (by decide))
      have Wv : wrap64 ((v.b : Int) + (m : Int)) = (v.b : Int) + m := by
        have := wrap64_nat (m := v.b + m) (Nat.le_trans (Nat.add_le_add hvb hmb) (by decide))
        rwa [Int.natCast_add] at this
      have hrp : r < 4294967296 := Nat.lt_of_le_of_lt hr1 (by decide)
      have hnp : n < 4294967296 := Nat.lt_of_le_of_lt hn1 (by decide)
      have hLp : L < 18446744073709551616 := Nat.lt_of_le_of_lt hL1 (by decide)
      have hrn : r * n < 18446744073709551616 := Nat.lt_of_le_of_lt hp (by decide)
      rw [Int.toNat_natCast, ← hm]
      have HM := hidI (And.intro hm hrn)
      have HP := hidI (And.intro hrp (And.intro hnp hLp))
      have HW := hidI Wv
      clear hrp hnp hLp hrn Wv hmb hvb
      clear hm hp hq q1
      go_enter Try.func88, Try.ntmps88
      go_wp2_with (first
      | (with_reducible refine at_alloc 131 rfl ?_; refine wpl_alloc_any rfl rfl z_cv ?_; intro cur hcur; (try simp only [Act.put, List.setIfInBounds_toArray, List.set_cons_zero, List.set_cons_succ, World.size_alloc]))
      | (go_at_call 107; (with_reducible refine (line_ok v HV.out _).mono ?_); rintro e w1 ⟨rfl, hb1⟩; obtain ⟨hc1, hf1⟩ := bcell hb1; have hz1 : w.heap.size < w1.heap.size := by have := hb1.size; simp at this; omega)
      | (with_reducible refine at_store 131 rfl ?_; refine wpl_store_new (cs := encCv v) rfl rfl rfl rfl (by simp) rfl sz_cv (encCv_length _) hcur rfl ?_; (try simp only [Act.put, List.setIfInBounds_toArray, List.set_cons_zero, List.set_cons_succ, World.size_alloc]))
      | (with_reducible refine at_bi .max rfl ?_; refine wpl_max2 rfl rfl rfl rfl ?_; (try simp only [Act.put, List.setIfInBounds_toArray, List.set_cons_zero, List.set_cons_succ, World.size_alloc]))
      | (with_reducible refine at_bi .min rfl ?_; refine wpl_min2 rfl rfl rfl rfl ?_; rw [← HG.out]; (try simp only [Act.put, List.setIfInBounds_toArray, List.set_cons_zero, List.set_cons_succ, World.size_alloc]))
      | (go_at_call 108; (with_reducible refine (mul64_small r n HP.out.1 HP.out.2.1 _).mono ?_); rintro e w' ⟨rfl, rfl⟩)
      | (go_at_call 109; (try rw [← Int.natCast_mul r n]); (with_reducible refine (div64_at (r * n) L m HM.out.1 HM.out.2 HP.out.2.2 hL0 _).mono ?_); rintro e w' ⟨rfl, nq, rfl⟩))
      go_ret
      refine ⟨ret_int HW.out, ?_⟩
      exact below_dN ((((Below.refl _ _).alloc (Nat.le_refl _) _).trans (hb1.mono (by simp))).alloc (by omega) _) _


end Go.Proofs.Ytjlledljancafaa
