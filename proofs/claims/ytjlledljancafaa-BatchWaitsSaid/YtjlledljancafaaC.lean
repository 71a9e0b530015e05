/- Curves: whole numbers as floats, lines, the rate at a height. -/
import Derived.Test.YtjlledljancafaaB
import Derived.Test.YtjlledljancafaaFl
import Derived.Deep.QuietTactic
import Derived.BigQuiet
set_option linter.unusedSimpArgs false
set_option linter.unusedVariables false
namespace Go.Proofs.Ytjlledljancafaa
open Go.RowKit Go.XB
theorem toIntegral_cases (way : Ieee.Toward) (x : Nat) : ∃ nb : Bool → Nat → Sem Value, Extern.MathFloor.toIntegral "math.archTrunc" way #[.float .f64 x] =
    Extern.MathFloor.toIntegral.match_1 (fun _ => Sem Value) (FloatKind.f64.decode x) nb (fun d => pure (.float .f64 (FloatKind.f64.encode (d.integral way)))) := ⟨_, rfl⟩
theorem run_archTrunc (a : Nat) (ha : a < 2 ^ 53) (w : World) : (Extern.MathFloor.toIntegral "math.archTrunc" .zero #[.float .f64 (fl a)]).run Try.prog w = .ok (.float .f64 (fl a)) w := by
  obtain ⟨k, hk, he⟩ := fl_trunc ha
  obtain ⟨nb, hnb⟩ := toIntegral_cases .zero (fl a)
  rw [hnb, hk]
  rw [hk] at he
  show (pure (.float .f64 (FloatKind.f64.encode ((Ieee.Datum.number false (a * 2 ^ k) (-(k : Int))).integral .zero))) : Sem Value).run Try.prog w = _
  rw [he]
  rfl
theorem call_archTrunc (a : Nat) (ha : a < 2 ^ 53) (w : World) : (callFunc 126 #[.float .f64 (fl a)]).run Try.prog w = .ok (.value (.float .f64 (fl a))) w := by
  rw [run_callFunc_extern (fn := Try.f126) (e := Extern.MathFloor.toIntegral "math.archTrunc" .zero) (by kernel_rfl) (by kernel_rfl) (by kernel_rfl) (by kernel_rfl) (by kernel_rfl), run_archTrunc a ha w]
  rfl
set_option maxHeartbeats 400000 in
theorem trunc_any (a : Nat) (ha : a < 2 ^ 53) (w : World) :
    Calls Try.prog 125 #[.float .f64 (fl a)] w fun e w' => e = .returned (.float .f64 (fl a)) ∧ w = w' := by
  go_enter Try.func125, Try.ntmps125
  go_wp2_with (refine wpl_extern (f := 126) rfl rfl (call_archTrunc a ha _) (by kernel_rfl) ?_; (try simp only [Act.put, List.setIfInBounds_toArray, List.set_cons_zero, List.set_cons_succ]))
  go_ret
  exact ⟨rfl, rfl⟩

theorem run_csub (t : TypeId) (a b c d : Nat) (ha : a < 2 ^ 53) (hb : b < 2 ^ 53) (h1 : c ≤ a) (h2 : d ≤ b) (w : World) : (binOp .sub t (.complex .f64 (fl a) (fl b)) (.complex .f64 (fl c) (fl d))).run Try.prog w = .ok (.complex .f64 (fl (a - c)) (fl (b - d))) w := by
  refine run_complex_sum w .sub (.inr rfl) t .f64 _ _ _ _ _ _ ?_
  unfold cSumBits floatBits
  rw [fl_sub ha h1, fl_sub hb h2]
  rfl
theorem run_toInt (a : Nat) (ha : a < 2 ^ 53) (w : World) : (convert 174 3 (.float .f64 (fl a))).run Try.prog w = .ok (.int .i64 (a : Int)) w := by
  refine run_convert_float_int w _ _ .f64 .i64 _ _ (by kernel_rfl) (by kernel_rfl) ?_
  unfold floatToIntVal
  rw [fl_toInt ha]
  have h1 : IntKind.i64.min ≤ (a : Int) ∧ (a : Int) ≤ IntKind.i64.max := by
    constructor
    · show (-9223372036854775808 : Int) ≤ a; omega
    · rw [IntKind.max_i64]; omega
  simp only []
  rw [if_pos h1]
set_option maxHeartbeats 400000 in
theorem whole_any (a l h x1 x2 : Nat) (ha : a < 2 ^ 53) (hl : l < 2 ^ 53) (hh : h < 2 ^ 53) (e1 : x1 = fl l) (e2 : x2 = fl h) (w : World) :
    Calls Try.prog 124 #[.float .f64 (fl a), .float .f64 x1, .float .f64 x2] w fun e w' => e = .returned (.bool (decide (l ≤ a) && decide (a ≤ h))) ∧ w = w' := by
  subst e1 e2
  have O1 := fl_order ha hl
  have O2 := fl_order ha hh
  have O3 := fl_order ha ha
  rw [Nat.compare_eq_eq.2 rfl] at O3
  have q1 := Nat.lt_trichotomy a l
  have q2 := Nat.lt_trichotomy a h
  rcases q1 with q1 | q1 | q1 <;> rcases q2 with q2 | q2 | q2
  all_goals
    (try rw [Nat.compare_eq_lt.2 q1] at O1)
    (try rw [Nat.compare_eq_eq.2 q1] at O1)
    (try rw [Nat.compare_eq_gt.2 q1] at O1)
    (try rw [Nat.compare_eq_lt.2 q2] at O2)
    (try rw [Nat.compare_eq_eq.2 q2] at O2)
    (try rw [Nat.compare_eq_gt.2 q2] at O2)
    have Q1 := hidI q1
    have Q2 := hidI q2
    clear q1 q2
    go_enter Try.func124, Try.ntmps124
    go_wp2_with (first
      | (go_at_call 125; (with_reducible refine (trunc_any _ ha _).mono ?_); rintro e w' ⟨rfl, rfl⟩))
    go_ret
    have q1 := Q1.out
    have q2 := Q2.out
    refine ⟨ret_bool ?_, rfl⟩
    (try simp only [O1, O2, O3])
    simp
    try omega


theorem c0 : 0 = fl 0 := by decide +kernel
theorem c6 : 4696837146684686336 = fl 1000000 := by decide +kernel
theorem c253 : 4643105662702714880 = fl 253 := by decide +kernel
theorem c9 : 4741671816366391296 = fl 1000000000 := by decide +kernel
theorem bd_of {n m : Nat} (h : n ≤ 1000000000) : n < 2 ^ 53 := by omega
set_option maxHeartbeats 400000 in
theorem point_any (a b : Nat) (ha : a < 2 ^ 53) (hb : b < 2 ^ 53) (w : World) :
    Calls Try.prog 119 #[.complex .f64 (fl a) (fl b)] w fun e w' => e = .returned (.bool (decide (a ≤ 1000000) && (decide (253 ≤ b) && decide (b ≤ 1000000000)))) ∧ w = w' := by
  by_cases h1 : a ≤ 1000000
  all_goals
    go_enter Try.func119, Try.ntmps119
    go_wp2_with (first
      | (go_at_call 124; (with_reducible refine (whole_any a 0 1000000 0 4696837146684686336 ha (by omega) (by omega) c0 c6 _).mono ?_); rintro e w' ⟨rfl, rfl⟩)
      | (go_at_call 124; (with_reducible refine (whole_any b 253 1000000000 4643105662702714880 4741671816366391296 hb (by omega) (by omega) c253 c9 _).mono ?_); rintro e w' ⟨rfl, rfl⟩))
    go_ret
    exact ⟨ret_bool (by simp [h1]), rfl⟩

set_option maxHeartbeats 400000 in
theorem mul64_small (x y : Nat) (hx : x < 4294967296) (hy : y < 4294967296) (w : World) :
    Calls Try.prog 108 #[.int .u64 x, .int .u64 y] w fun e w' => e = .returned (.tuple #[.int .u64 0, .int .u64 ((x * y : Nat) : Int)]) ∧ w = w' := by
  have hp : x * y < 18446744065119617025 + 1 := by have := Nat.mul_le_mul (show x ≤ 4294967295 by omega) (show y ≤ 4294967295 by omega); omega
  obtain ⟨p, hpe⟩ : ∃ p, p = x * y := ⟨_, rfl⟩
  have hm : (x : Int) * (y : Int) = (p : Int) := by rw [hpe, Int.natCast_mul]
  rw [← hpe] at hp ⊢
  have HP := hidI hpe
  clear hpe
  have b1 := bits_and_u64_nat x 4294967295 (by omega) (by omega)
  have b2 := bits_and_u64_nat y 4294967295 (by omega) (by omega)
  have b3 := bits_and_u64_nat (p / 4294967296) 4294967295 (by omega) (by omega)
  have e1 : x &&& 4294967295 = x := (Nat.and_two_pow_sub_one_eq_mod x 32).trans (Nat.mod_eq_of_lt (by omega))
  have e2 : y &&& 4294967295 = y := (Nat.and_two_pow_sub_one_eq_mod y 32).trans (Nat.mod_eq_of_lt (by omega))
  have e3 : (p / 4294967296) &&& 4294967295 = p / 4294967296 := (Nat.and_two_pow_sub_one_eq_mod (p / 4294967296) 32).trans (Nat.mod_eq_of_lt (by omega))
  rw [e1] at b1
  replace b1 : bits .and .u64 ((x : Nat) : Int) 4294967295 = ((x : Nat) : Int) := b1
  rw [e2] at b2
  replace b2 : bits .and .u64 ((y : Nat) : Int) 4294967295 = ((y : Nat) : Int) := b2
  rw [e3] at b3
  replace b3 : bits .and .u64 (((p / 4294967296) : Nat) : Int) 4294967295 = (((p / 4294967296) : Nat) : Int) := b3
  clear e1 e2 e3
  have d1 : (x : Int) / 4294967296 = 0 := by omega
  have d2 : (y : Int) / 4294967296 = 0 := by omega
  obtain ⟨q, hq⟩ : ∃ q, q = p / 4294967296 := ⟨_, rfl⟩
  have d3 : (p : Int) / 4294967296 = (q : Int) := by omega
  have hq1 : q < 4294967296 := by omega
  rw [← hq] at b3
  have d4 : (q : Int) / 4294967296 = 0 := by omega
  have wp : IntKind.u64.wrap (p : Int) = (p : Int) := by rw [IntKind.wrap_u64]; omega
  have wq : IntKind.u64.wrap (q : Int) = (q : Int) := by rw [IntKind.wrap_u64]; omega
  have w0 : IntKind.u64.wrap (0 : Int) = (0 : Int) := by rw [IntKind.wrap_u64]; omega
  clear hq
  go_enter Try.func108, Try.ntmps108
  go_wp2
  go_ret2
  exact ⟨by rfl, rfl⟩

set_option maxHeartbeats 400000 in
theorem div64_small (x y : Nat) (hx : x < 18446744073709551616) (hy : y < 18446744073709551616) (h0 : 0 < y) (w : World) :
    Calls Try.prog 109 #[.int .u64 0, .int .u64 x, .int .u64 y] w fun e w' => e = .returned (.tuple #[.int .u64 ((x / y : Nat) : Int), .int .u64 ((x % y : Nat) : Int)]) ∧ ∃ n, w' = w.drewN n := by
  have hne : ((y : Int) == 0) = false := by simp; omega
  go_enter Try.func109, Try.ntmps109
  go_wp2
  go_quiet (fail)
  go_wp2
  go_ret2
  refine ⟨?_, _, rfl⟩
  have e1 : IntKind.u64.wrap ((x : Int) / (y : Int)) = ((x / y : Nat) : Int) := by
    rw [IntKind.wrap_u64, ← Int.natCast_ediv]
    have hz := Nat.div_le_self x y
    generalize x / y = z at hz
    omega
  show Ending.returned (.tuple #[.int .u64 (IntKind.u64.wrap ((x : Int) / (y : Int))), .int .u64 ((x : Int) % (y : Int))]) = _
  rw [e1, ← Int.natCast_emod]


structure Cv where
  a : Nat
  b : Nat
  c : Nat
  d : Nat
def encCv (v : Cv) : List Value := [.complex .f64 (fl v.a) (fl v.b), .complex .f64 (fl v.c) (fl v.d)]
theorem encCv_length (v : Cv) : (encCv v).length = 2 := rfl
def encCv0 : List Value := [.complex .f64 0 0, .complex .f64 0 0]
structure Cv.ok (v : Cv) : Prop where
  h1 : v.a ≤ v.c
  h2 : v.c ≤ 1000000
  h3 : 253 ≤ v.b
  h4 : v.b ≤ v.d
  h5 : v.d ≤ 1000000000
theorem agg_cv : aggB Try.prog 131 2 = true := by kernel_rfl
theorem z_cv : zeroB Try.prog 131 2 = true := by kernel_rfl
theorem sz_cv : (Try.prog.info? 131).map (·.size) = some 2 := by kernel_rfl
theorem build_cv (v : Cv) (W : World) : (Instr.build 131 #[(0, .complex .f64 (fl v.a) (fl v.b)), (1, .complex .f64 (fl v.c) (fl v.d))]).run Try.prog W = .ok (.agg (encCv v).toArray) W := by kernel_rfl
theorem build_cv0 (W : World) : (Instr.build 131 #[]).run Try.prog W = .ok (.agg encCv0.toArray) W := by kernel_rfl
set_option maxRecDepth 100000 in
set_option maxHeartbeats 400000 in
theorem line_ok (v : Cv) (hv : v.ok) (w : World) :
    Calls Try.prog 107 #[.complex .f64 (fl v.a) (fl v.b), .complex .f64 (fl v.c) (fl v.d)] w fun e w' => e = .returned (.tuple #[.agg (encCv v).toArray, .int .i64 0]) ∧ Below w.heap.size w w' := by
  obtain ⟨h1, h2, h3, h4, h5⟩ := hv
  have ha : v.a < 2 ^ 53 := by omega
  have hb : v.b < 2 ^ 53 := by omega
  have hc : v.c < 2 ^ 53 := by omega
  have hd : v.d < 2 ^ 53 := by omega
  have R0 := run_csub 129 v.c v.d v.a v.b hc hd h1 h4
  have O1 := fl_order (show v.c - v.a < 2 ^ 53 by omega) (show 0 < 2 ^ 53 by omega)
  have O2 := fl_order (show v.d - v.b < 2 ^ 53 by omega) (show 0 < 2 ^ 53 by omega)
  rw [← c0] at O1 O2
  have P1 : (decide (v.a ≤ 1000000) && (decide (253 ≤ v.b) && decide (v.b ≤ 1000000000))) = true := by simp; omega
  have P2 : (decide (v.c ≤ 1000000) && (decide (253 ≤ v.d) && decide (v.d ≤ 1000000000))) = true := by simp; omega
  have L1 : (FloatKind.f64.format.order (fl (v.c - v.a)) 0 == some .lt) = false := by rw [O1]; rcases Nat.eq_zero_or_pos (v.c - v.a) with q | q; (rw [q]; rfl); (rw [Nat.compare_eq_gt.2 q]; rfl)
  have L2 : (FloatKind.f64.format.order (fl (v.d - v.b)) 0 == some .lt) = false := by rw [O2]; rcases Nat.eq_zero_or_pos (v.d - v.b) with q | q; (rw [q]; rfl); (rw [Nat.compare_eq_gt.2 q]; rfl)
  clear O1 O2 h1 h2 h3 h4 h5
  go_enter Try.func107, Try.ntmps107
  go_wp2_with (first
    | (with_reducible refine at_alloc 131 rfl ?_; refine wpl_alloc_any rfl rfl z_cv ?_; intro cur hcur; (try simp only [Act.put, List.setIfInBounds_toArray, List.set_cons_zero, List.set_cons_succ, World.size_alloc]))
    | (go_at_call 119; (with_reducible refine (point_any v.a v.b ha hb _).mono ?_); rw [P1]; rintro e w' ⟨rfl, rfl⟩)
    | (go_at_call 119; (with_reducible refine (point_any v.c v.d hc hd _).mono ?_); rw [P2]; rintro e w' ⟨rfl, rfl⟩)
    | (with_reducible refine at_build 131 rfl ?_; refine wpl_build rfl rfl (build_cv v _) (by kernel_rfl) ?_; (try simp only [Act.put, List.setIfInBounds_toArray, List.set_cons_zero, List.set_cons_succ, World.size_alloc]))
    | (with_reducible refine at_store 131 rfl ?_; refine wpl_store_new (cs := encCv v) rfl rfl rfl rfl (by simp) rfl sz_cv (encCv_length _) hcur rfl ?_; (try simp only [Act.put, List.setIfInBounds_toArray, List.set_cons_zero, List.set_cons_succ, World.size_alloc])))
  refine ret_agg2 (cs := encCv v) rfl rfl rfl rfl agg_cv (encCv_length _) (by (repeat (first | assumption | (with_reducible refine RowAt.new ?_; kernel_rfl) | (with_reducible refine RowAt.new1 ?_; kernel_rfl) | (with_reducible refine RowAt.new2 ?_; kernel_rfl) | (with_reducible refine RowAt.alloc ?_ _) | (with_reducible refine RowAt.drew ?_)))) ⟨rfl, ?_⟩
  exact (Below.refl _ _).alloc (Nat.le_refl _) _


def curveOk (since dead budget weight : Int) : Bool := inB since 0 1000000 && inB dead 0 1000000 && decide ((rateA budget weight).2 = 0) && decide (253 ≤ (rateA budget weight).1)
def curveV (since dead budget weight : Int) : Cv := ⟨since.toNat, 253, (max since dead).toNat, (rateA budget weight).1.toNat⟩
theorem rateA_bd (f w : Int) : 0 ≤ (rateA f w).1 ∧ (rateA f w).1 ≤ 1000000000 := by
  unfold rateA
  split
  · rename_i h
    simp only [Bool.and_eq_true] at h
    have h1 := inB_iff.1 (show inB f 0 2100000000000000 = true from h.1)
    have h2 := inB_iff.1 h.2
    have h3 : 0 ≤ f * 1000 / w := Int.ediv_nonneg (by omega) (by omega)
    simp only
    omega
  · simp
theorem rateA_w (f w : Int) (h : (rateA f w).2 = 0) : w ≤ 4000000 := by
  unfold rateA at h
  split at h
  · rename_i h'
    simp only [Bool.and_eq_true] at h'
    have h2 := inB_iff.1 h'.2
    omega
  · simp at h
theorem curveV_ok {since dead budget weight : Int} (h : curveOk since dead budget weight = true) : (curveV since dead budget weight).ok := by
  unfold curveOk at h
  simp only [Bool.and_eq_true, decide_eq_true_eq] at h
  obtain ⟨⟨⟨h1, h2⟩, h3⟩, h4⟩ := h
  have h1 := inB_iff.1 h1
  have h2 := inB_iff.1 h2
  have h5 := rateA_bd budget weight
  exact ⟨by show since.toNat ≤ (max since dead).toNat; omega, by show (max since dead).toNat ≤ 1000000; omega, by show 253 ≤ 253; omega, by show 253 ≤ (rateA budget weight).1.toNat; omega, by show (rateA budget weight).1.toNat ≤ 1000000000; omega⟩
theorem floatOfInt_nat (n : Nat) : floatOfInt .f64 (n : Int) = fl n := rfl
set_option maxRecDepth 100000 in
set_option maxHeartbeats 400000 in
theorem of_ok (since dead budget weight : Int) (hk : curveOk since dead budget weight = true) (w : World) :
    Calls Try.prog 87 #[.int .i64 since, .int .i64 dead, .int .i64 budget, .int .i64 weight] w fun e w' => e = .returned (.tuple #[.agg (encCv (curveV since dead budget weight)).toArray, .int .i64 0]) ∧ Below w.heap.size w w' := by
  have HV := hidI (curveV_ok hk)
  unfold curveOk at hk
  simp only [Bool.and_eq_true, decide_eq_true_eq] at hk
  obtain ⟨⟨⟨h1, h2⟩, h3⟩, h4⟩ := hk
  have h1 := inB_iff.1 h1
  have h2 := inB_iff.1 h2
  obtain ⟨h1a, h1b⟩ := h1
  obtain ⟨h2a, h2b⟩ := h2
  have hw := rateA_w _ _ h3
  obtain ⟨s, rfl⟩ := Int.eq_ofNat_of_zero_le h1a
  obtain ⟨d, rfl⟩ := Int.eq_ofNat_of_zero_le h2a
  have hrb := rateA_bd budget weight
  obtain ⟨⟨r, e⟩, hr⟩ : ∃ x, rateA budget weight = x := ⟨_, rfl⟩
  rw [hr] at h3 h4 hrb
  simp only at h3 h4 hrb
  subst h3
  obtain ⟨rn, rfl⟩ := Int.eq_ofNat_of_zero_le hrb.1
  have HR := hidI hr
  obtain ⟨v, hv⟩ : ∃ v, curveV s d budget weight = v := ⟨_, rfl⟩
  rw [hv] at HV ⊢
  have hve : v = ⟨s, 253, max s d, rn⟩ := by rw [← hv]; unfold curveV; rw [hr]; simp only [Int.toNat_natCast]; congr 1; omega
  subst hve
  clear hv hr hrb
  go_enter Try.func87, Try.ntmps87
  go_wp2_with (first
    | (with_reducible refine at_alloc 131 rfl ?_; refine wpl_alloc_any rfl rfl z_cv ?_; intro cur hcur; (try simp only [Act.put, List.setIfInBounds_toArray, List.set_cons_zero, List.set_cons_succ, World.size_alloc]))
    | (go_at_call 106; (with_reducible refine (rate_amount _ _ _).mono ?_); rw [HR.out]; rintro e w' ⟨rfl, rfl⟩)
    | (with_reducible refine at_bi .max rfl ?_; refine wpl_max2 rfl rfl rfl rfl ?_; rw [show max (s : Int) (d : Int) = ((max s d : Nat) : Int) by omega]; (try simp only [Act.put, List.setIfInBounds_toArray, List.set_cons_zero, List.set_cons_succ, World.size_alloc]))
    | (go_at_call 107; (try rw [c253]); (try simp only [floatOfInt_nat]); (with_reducible refine (line_ok ⟨s, 253, max s d, rn⟩ HV.out _).mono ?_); rintro e w1 ⟨rfl, hb1⟩; obtain ⟨hc1, hf1⟩ := bcell hb1)
    | (with_reducible refine at_store 131 rfl ?_; refine wpl_store_own (cs := encCv ⟨s, 253, max s d, rn⟩) rfl rfl rfl rfl rfl sz_cv (encCv_length _) ((hb1.block _ (by simp)).trans (heap_alloc_new _ _)) hcur rfl ?_; (try simp only [Act.put, List.setIfInBounds_toArray, List.set_cons_zero, List.set_cons_succ, World.size_alloc])))
  refine ret_agg2 (cs := encCv ⟨s, 253, max s d, rn⟩) rfl rfl rfl rfl agg_cv (encCv_length _) (RowAt.setRow ((hb1.block _ (by simp)).trans (heap_alloc_new _ _))) ⟨rfl, ?_⟩
  exact below_setRow (((Below.refl _ _).alloc (Nat.le_refl _) _).trans (hb1.mono (by simp))) (Nat.le_refl _) _

set_option maxRecDepth 100000 in
set_option maxHeartbeats 400000 in
theorem of_no (since dead budget weight : Int) (hk : curveOk since dead budget weight = false) (w : World) :
    Calls Try.prog 87 #[.int .i64 since, .int .i64 dead, .int .i64 budget, .int .i64 weight] w fun e w' => e = .returned (.tuple #[.agg encCv0.toArray, .int .i64 1]) ∧ Below w.heap.size w w' := by
  have hw := rateA_w budget weight
  obtain ⟨⟨r, e⟩, hr⟩ : ∃ x, rateA budget weight = x := ⟨_, rfl⟩
  have HR := hidI hr
  unfold curveOk at hk
  rw [hr] at hk hw
  simp only [Bool.and_eq_false_iff, decide_eq_false_iff_not] at hk hw
  have HW := hidI hw
  clear hr hw
  have hsplit : ¬ (0 ≤ since ∧ since ≤ 1000000) ∨ ¬ (0 ≤ dead ∧ dead ≤ 1000000) ∨ (0 ≤ since ∧ since ≤ 1000000 ∧ 0 ≤ dead ∧ dead ≤ 1000000 ∧ (e ≠ 0 ∨ (e = 0 ∧ r < 253))) := by
    by_cases q1 : 0 ≤ since ∧ since ≤ 1000000
    · by_cases q2 : 0 ≤ dead ∧ dead ≤ 1000000
      · right; right
        refine ⟨q1.1, q1.2, q2.1, q2.2, ?_⟩
        rcases hk with ((h | h) | h) | h
        · rw [inB_t q1] at h; cases h
        · rw [inB_t q2] at h; cases h
        · exact .inl h
        · by_cases q3 : e = 0
          · exact .inr ⟨q3, by omega⟩
          · exact .inl q3
      · exact .inr (.inl q2)
    · exact .inl q1
  clear hk
  rcases hsplit with q | q | ⟨q1, q2, q3, q4, q⟩
  · by_cases q5 : 0 ≤ since
    all_goals
      go_enter Try.func87, Try.ntmps87
      go_wp2_with (first
        | (with_reducible refine at_alloc 131 rfl ?_; refine wpl_alloc_any rfl rfl z_cv ?_; intro cur hcur; (try simp only [Act.put, List.setIfInBounds_toArray, List.set_cons_zero, List.set_cons_succ, World.size_alloc]))
        | (go_at_call 106; (with_reducible refine (rate_amount _ _ _).mono ?_); rw [HR.out]; rintro e w' ⟨rfl, rfl⟩)
        | (with_reducible refine at_build 131 rfl ?_; refine wpl_build rfl rfl (build_cv0 _) (by kernel_rfl) ?_; (try simp only [Act.put, List.setIfInBounds_toArray, List.set_cons_zero, List.set_cons_succ, World.size_alloc]))
        | (with_reducible refine at_store 131 rfl ?_; refine wpl_store_new (cs := encCv0) rfl rfl rfl rfl (by simp) rfl sz_cv rfl hcur rfl ?_; (try simp only [Act.put, List.setIfInBounds_toArray, List.set_cons_zero, List.set_cons_succ, World.size_alloc])))
      all_goals
        refine ret_agg2 (cs := encCv0) rfl rfl rfl rfl agg_cv rfl (by (repeat (first | assumption | (with_reducible refine RowAt.new ?_; kernel_rfl) | (with_reducible refine RowAt.new1 ?_; kernel_rfl) | (with_reducible refine RowAt.new2 ?_; kernel_rfl) | (with_reducible refine RowAt.alloc ?_ _) | (with_reducible refine RowAt.drew ?_)))) ⟨rfl, ?_⟩
        exact (Below.refl _ _).alloc (Nat.le_refl _) _
  · by_cases q5 : 0 ≤ since <;> by_cases q6 : since ≤ 1000000 <;> by_cases q7 : 0 ≤ dead
    all_goals
      go_enter Try.func87, Try.ntmps87
      go_wp2_with (first
        | (with_reducible refine at_alloc 131 rfl ?_; refine wpl_alloc_any rfl rfl z_cv ?_; intro cur hcur; (try simp only [Act.put, List.setIfInBounds_toArray, List.set_cons_zero, List.set_cons_succ, World.size_alloc]))
        | (go_at_call 106; (with_reducible refine (rate_amount _ _ _).mono ?_); rw [HR.out]; rintro e w' ⟨rfl, rfl⟩)
        | (with_reducible refine at_build 131 rfl ?_; refine wpl_build rfl rfl (build_cv0 _) (by kernel_rfl) ?_; (try simp only [Act.put, List.setIfInBounds_toArray, List.set_cons_zero, List.set_cons_succ, World.size_alloc]))
        | (with_reducible refine at_store 131 rfl ?_; refine wpl_store_new (cs := encCv0) rfl rfl rfl rfl (by simp) rfl sz_cv rfl hcur rfl ?_; (try simp only [Act.put, List.setIfInBounds_toArray, List.set_cons_zero, List.set_cons_succ, World.size_alloc])))
      all_goals
        refine ret_agg2 (cs := encCv0) rfl rfl rfl rfl agg_cv rfl (by (repeat (first | assumption | (with_reducible refine RowAt.new ?_; kernel_rfl) | (with_reducible refine RowAt.new1 ?_; kernel_rfl) | (with_reducible refine RowAt.new2 ?_; kernel_rfl) | (with_reducible refine RowAt.alloc ?_ _) | (with_reducible refine RowAt.drew ?_)))) ⟨rfl, ?_⟩
        exact (Below.refl _ _).alloc (Nat.le_refl _) _
  · rcases q with q | ⟨rfl, q⟩
    · have qb : (e != 0) = true := by simpa using q
      clear q
      by_cases q5 : 4000000 < weight
      all_goals
        go_enter Try.func87, Try.ntmps87
        go_wp2_with (first
          | (with_reducible refine at_alloc 131 rfl ?_; refine wpl_alloc_any rfl rfl z_cv ?_; intro cur hcur; (try simp only [Act.put, List.setIfInBounds_toArray, List.set_cons_zero, List.set_cons_succ, World.size_alloc]))
          | (go_at_call 106; (with_reducible refine (rate_amount _ _ _).mono ?_); rw [HR.out]; rintro e w' ⟨rfl, rfl⟩)
          | (with_reducible refine at_build 131 rfl ?_; refine wpl_build rfl rfl (build_cv0 _) (by kernel_rfl) ?_; (try simp only [Act.put, List.setIfInBounds_toArray, List.set_cons_zero, List.set_cons_succ, World.size_alloc]))
          | (with_reducible refine at_store 131 rfl ?_; refine wpl_store_new (cs := encCv0) rfl rfl rfl rfl (by simp) rfl sz_cv rfl hcur rfl ?_; (try simp only [Act.put, List.setIfInBounds_toArray, List.set_cons_zero, List.set_cons_succ, World.size_alloc])))
        all_goals
          refine ret_agg2 (cs := encCv0) rfl rfl rfl rfl agg_cv rfl (by (repeat (first | assumption | (with_reducible refine RowAt.new ?_; kernel_rfl) | (with_reducible refine RowAt.new1 ?_; kernel_rfl) | (with_reducible refine RowAt.new2 ?_; kernel_rfl) | (with_reducible refine RowAt.alloc ?_ _) | (with_reducible refine RowAt.drew ?_)))) ⟨rfl, ?_⟩
          exact (Below.refl _ _).alloc (Nat.le_refl _) _
    · have q5 : weight ≤ 4000000 := HW.out rfl
      go_enter Try.func87, Try.ntmps87
      go_wp2_with (first
        | (with_reducible refine at_alloc 131 rfl ?_; refine wpl_alloc_any rfl rfl z_cv ?_; intro cur hcur; (try simp only [Act.put, List.setIfInBounds_toArray, List.set_cons_zero, List.set_cons_succ, World.size_alloc]))
        | (go_at_call 106; (with_reducible refine (rate_amount _ _ _).mono ?_); rw [HR.out]; rintro e w' ⟨rfl, rfl⟩)
        | (with_reducible refine at_build 131 rfl ?_; refine wpl_build rfl rfl (build_cv0 _) (by kernel_rfl) ?_; (try simp only [Act.put, List.setIfInBounds_toArray, List.set_cons_zero, List.set_cons_succ, World.size_alloc]))
        | (with_reducible refine at_store 131 rfl ?_; refine wpl_store_new (cs := encCv0) rfl rfl rfl rfl (by simp) rfl sz_cv rfl hcur rfl ?_; (try simp only [Act.put, List.setIfInBounds_toArray, List.set_cons_zero, List.set_cons_succ, World.size_alloc])))
      all_goals
        refine ret_agg2 (cs := encCv0) rfl rfl rfl rfl agg_cv rfl (by (repeat (first | assumption | (with_reducible refine RowAt.new ?_; kernel_rfl) | (with_reducible refine RowAt.new1 ?_; kernel_rfl) | (with_reducible refine RowAt.new2 ?_; kernel_rfl) | (with_reducible refine RowAt.alloc ?_ _) | (with_reducible refine RowAt.drew ?_)))) ⟨rfl, ?_⟩
        exact (Below.refl _ _).alloc (Nat.le_refl _) _


end Go.Proofs.Ytjlledljancafaa
