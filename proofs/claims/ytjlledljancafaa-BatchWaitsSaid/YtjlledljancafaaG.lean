/- The check and the rate of an input. -/
import Derived.Test.YtjlledljancafaaF
set_option linter.unusedSimpArgs false
set_option linter.unusedVariables false
namespace Go.Proofs.Ytjlledljancafaa
open Go.RowKit Go.XB

def waitsB (i : Inp) : Bool := inB i.clm.seq 0 65535 && inB i.clm.wait 0 65535 && inB i.clm.lock 0 1000000
def checkF (i : Inp) : Bool := inB i.pt.n 0 99 && inB i.value 1 2100000000000000 && witB i.clm.wit && waitsB i && inB i.conf 0 1000000
/-- the error of an input -/
def checkE (i : Inp) : Int := if checkF i then cvE i.since i.dead i.budget (alone i) else 1
set_option maxRecDepth 100000 in
set_option maxHeartbeats 4000000 in
theorem check_any (i : Inp) (w : World) :
    Calls Try.prog 35 #[.agg (encInp i).toArray] w fun e w' => e = .returned (.int .i64 (checkE i)) ∧ Below w.heap.size w w' := by
  have c0 : (encInp i)[32]? = some (.int .i64 i.pt.n) := rfl
  have c1 : (encInp i)[33]? = some (.int .i64 i.value) := rfl
  have c2 : (encInp i)[40]? = some (.int .i64 i.conf) := rfl
  have d1 : (encClm i.clm)[3]? = some (.int .i64 i.clm.seq) := rfl
  have d2 : (encClm i.clm)[4]? = some (.int .i64 i.clm.lock) := rfl
  have d3 : (encClm i.clm)[5]? = some (.int .i64 i.clm.wait) := rfl
  obtain ⟨cs, hcs⟩ : ∃ cs, cs = cvOf i.since i.dead i.budget (alone i) := ⟨_, rfl⟩
  obtain ⟨er, her⟩ : ∃ er, er = cvE i.since i.dead i.budget (alone i) := ⟨_, rfl⟩
  have HC := hidI (And.intro hcs (And.intro (by rw [hcs]; exact cvOf_length _ _ _ _ : cs.length = 2) (by rw [hcs]; exact cvOf_one _ _ _ _ : cs.all Value.oneCell' = true)))
  have HE := hidI her
  clear hcs her
  by_cases hs : inB i.clm.seq 0 65535 = true
  ·
    by_cases ht : inB i.clm.wait 0 65535 = true
    ·
      by_cases hk : inB i.clm.lock 0 1000000 = true
      ·
        by_cases hn : inB i.pt.n 0 99 = true
        ·
          by_cases hv : inB i.value 1 2100000000000000 = true
          ·
            by_cases hw : witB i.clm.wit = true
            ·
              by_cases hc : inB i.conf 0 1000000 = true
              ·
                go_enter Try.func35, Try.ntmps35
                go_wp2_with (first
                  | (go_at_call 36; (with_reducible refine (within_batch _ _ _ _).mono ?_); rintro e w' ⟨rfl, rfl⟩)
                  | (with_reducible refine at_load 91 rfl ?_; refine wpl_load_agg (cs := encClm i.clm) rfl rfl rfl agg_clm (encClm_length _) (by (repeat (first | assumption | (with_reducible refine RowAt.new ?_; kernel_rfl) | (with_reducible refine RowAt.new1 ?_; kernel_rfl) | (with_reducible refine RowAt.new2 ?_; kernel_rfl) | (with_reducible refine RowAt.alloc ?_ _) | (with_reducible refine RowAt.drew ?_)))) ?_; (try simp only [Act.put, List.setIfInBounds_toArray, List.set_cons_zero, List.set_cons_succ, World.size_alloc]))
                  | (with_reducible refine at_store 91 rfl ?_; refine wpl_store_new (cs := encClm i.clm) rfl rfl rfl rfl (by simp) rfl sz_clm (encClm_length _) hcc rfl ?_; (try simp only [Act.put, List.setIfInBounds_toArray, List.set_cons_zero, List.set_cons_succ, World.size_alloc]))
                  | (with_reducible refine at_alloc 91 rfl ?_; refine wpl_alloc_any rfl rfl z_clm ?_; intro cc hcc; (try simp only [Act.put, List.setIfInBounds_toArray, List.set_cons_zero, List.set_cons_succ, World.size_alloc]))
                  | (with_reducible refine at_load 59 rfl ?_; refine wpl_load_agg_g (cs := encWit i.clm.wit) (by kernel_rfl) rfl rfl agg_wit (encWit_length _) (by (repeat (first | assumption | (with_reducible refine RowAt.new ?_; kernel_rfl) | (with_reducible refine RowAt.new1 ?_; kernel_rfl) | (with_reducible refine RowAt.new2 ?_; kernel_rfl) | (with_reducible refine RowAt.alloc ?_ _) | (with_reducible refine RowAt.drew ?_)))) ?_; (try simp only [Act.put, List.setIfInBounds_toArray, List.set_cons_zero, List.set_cons_succ, World.size_alloc]))
                  | (go_at_call 63; (with_reducible refine (witness_tx _ _).mono ?_); rintro e w1 ⟨rfl, hb1⟩; obtain ⟨hc1, hf1⟩ := bcell hb1; have hz1 : w.heap.size + 2 ≤ w1.heap.size := (by have := hb1.size; simp at this; omega); have hrI : RowAt w1 w.heap.size 0 (encInp i) := RowAt.below (RowAt.alloc (RowAt.new (by kernel_rfl)) _) hb1 (by simp only [World.size_alloc]; omega); have HB1 := hidI (((Below.refl _ _).alloc (Nat.le_refl _) _).alloc (by simp only [World.size_alloc]; omega) _ |>.trans (hb1.mono (by simp only [World.size_alloc]; omega))))
                  | (with_reducible refine at_load 93 rfl ?_; refine wpl_load_agg (cs := encInp i) rfl rfl rfl agg_inp (encInp_length _) (by first | exact hrI | (repeat (first | assumption | (with_reducible refine RowAt.new ?_; kernel_rfl) | (with_reducible refine RowAt.new1 ?_; kernel_rfl) | (with_reducible refine RowAt.new2 ?_; kernel_rfl) | (with_reducible refine RowAt.alloc ?_ _) | (with_reducible refine RowAt.drew ?_)))) ?_; (try simp only [Act.put, List.setIfInBounds_toArray, List.set_cons_zero, List.set_cons_succ, World.size_alloc]))
                  | (go_at_call 64; (with_reducible refine (rise_any _ _).mono ?_); rintro e w2 ⟨rfl, hb2⟩; rw [← HC.out.1, ← HE.out]; have hz2 : w.heap.size + 2 ≤ w2.heap.size := (by have := hb2.size; omega); have HB2 := hidI (hb2))
                  | (with_reducible refine at_store 131 rfl ?_; refine wpl_store_new (cs := cs) rfl rfl rfl rfl (by simp) rfl sz_cv' HC.out.2.1 hcv HC.out.2.2 ?_; (try simp only [Act.put, List.setIfInBounds_toArray, List.set_cons_zero, List.set_cons_succ, World.size_alloc]))
                  | (with_reducible refine at_alloc 131 rfl ?_; refine wpl_alloc_any rfl rfl z_cv ?_; intro cv hcv; (try simp only [Act.put, List.setIfInBounds_toArray, List.set_cons_zero, List.set_cons_succ, World.size_alloc]))
                  )
                go_ret
                refine ⟨ret_int ?_, ?_⟩
                · rw [HE.out]; simp [checkE, checkF, waitsB, hs, ht, hk, hn, hv, hw, hc]
                · exact (HB1.out.trans (HB2.out.mono (by omega))).alloc (by omega) _
              · simp only [Bool.not_eq_true] at hc
                go_enter Try.func35, Try.ntmps35
                go_wp2_with (first
                  | (go_at_call 36; (with_reducible refine (within_batch _ _ _ _).mono ?_); rintro e w' ⟨rfl, rfl⟩)
                  | (with_reducible refine at_load 91 rfl ?_; refine wpl_load_agg (cs := encClm i.clm) rfl rfl rfl agg_clm (encClm_length _) (by (repeat (first | assumption | (with_reducible refine RowAt.new ?_; kernel_rfl) | (with_reducible refine RowAt.new1 ?_; kernel_rfl) | (with_reducible refine RowAt.new2 ?_; kernel_rfl) | (with_reducible refine RowAt.alloc ?_ _) | (with_reducible refine RowAt.drew ?_)))) ?_; (try simp only [Act.put, List.setIfInBounds_toArray, List.set_cons_zero, List.set_cons_succ, World.size_alloc]))
                  | (with_reducible refine at_store 91 rfl ?_; refine wpl_store_new (cs := encClm i.clm) rfl rfl rfl rfl (by simp) rfl sz_clm (encClm_length _) hcc rfl ?_; (try simp only [Act.put, List.setIfInBounds_toArray, List.set_cons_zero, List.set_cons_succ, World.size_alloc]))
                  | (with_reducible refine at_alloc 91 rfl ?_; refine wpl_alloc_any rfl rfl z_clm ?_; intro cc hcc; (try simp only [Act.put, List.setIfInBounds_toArray, List.set_cons_zero, List.set_cons_succ, World.size_alloc]))
                  | (with_reducible refine at_load 59 rfl ?_; refine wpl_load_agg_g (cs := encWit i.clm.wit) (by kernel_rfl) rfl rfl agg_wit (encWit_length _) (by (repeat (first | assumption | (with_reducible refine RowAt.new ?_; kernel_rfl) | (with_reducible refine RowAt.new1 ?_; kernel_rfl) | (with_reducible refine RowAt.new2 ?_; kernel_rfl) | (with_reducible refine RowAt.alloc ?_ _) | (with_reducible refine RowAt.drew ?_)))) ?_; (try simp only [Act.put, List.setIfInBounds_toArray, List.set_cons_zero, List.set_cons_succ, World.size_alloc]))
                  | (go_at_call 63; (with_reducible refine (witness_tx _ _).mono ?_); rintro e w1 ⟨rfl, hb1⟩; obtain ⟨hc1, hf1⟩ := bcell hb1; have hz1 : w.heap.size + 2 ≤ w1.heap.size := (by have := hb1.size; simp at this; omega); have hrI : RowAt w1 w.heap.size 0 (encInp i) := RowAt.below (RowAt.alloc (RowAt.new (by kernel_rfl)) _) hb1 (by simp only [World.size_alloc]; omega); have HB1 := hidI (((Below.refl _ _).alloc (Nat.le_refl _) _).alloc (by simp only [World.size_alloc]; omega) _ |>.trans (hb1.mono (by simp only [World.size_alloc]; omega))))
                  )
                go_ret
                refine ⟨ret_int ?_, ?_⟩
                · simp [checkE, checkF, waitsB, hs, ht, hk, hn, hv, hw, hc]
                · exact HB1.out
            · simp only [Bool.not_eq_true] at hw
              go_enter Try.func35, Try.ntmps35
              go_wp2_with (first
                | (go_at_call 36; (with_reducible refine (within_batch _ _ _ _).mono ?_); rintro e w' ⟨rfl, rfl⟩)
                | (with_reducible refine at_load 91 rfl ?_; refine wpl_load_agg (cs := encClm i.clm) rfl rfl rfl agg_clm (encClm_length _) (by (repeat (first | assumption | (with_reducible refine RowAt.new ?_; kernel_rfl) | (with_reducible refine RowAt.new1 ?_; kernel_rfl) | (with_reducible refine RowAt.new2 ?_; kernel_rfl) | (with_reducible refine RowAt.alloc ?_ _) | (with_reducible refine RowAt.drew ?_)))) ?_; (try simp only [Act.put, List.setIfInBounds_toArray, List.set_cons_zero, List.set_cons_succ, World.size_alloc]))
                | (with_reducible refine at_store 91 rfl ?_; refine wpl_store_new (cs := encClm i.clm) rfl rfl rfl rfl (by simp) rfl sz_clm (encClm_length _) hcc rfl ?_; (try simp only [Act.put, List.setIfInBounds_toArray, List.set_cons_zero, List.set_cons_succ, World.size_alloc]))
                | (with_reducible refine at_alloc 91 rfl ?_; refine wpl_alloc_any rfl rfl z_clm ?_; intro cc hcc; (try simp only [Act.put, List.setIfInBounds_toArray, List.set_cons_zero, List.set_cons_succ, World.size_alloc]))
                | (with_reducible refine at_load 59 rfl ?_; refine wpl_load_agg_g (cs := encWit i.clm.wit) (by kernel_rfl) rfl rfl agg_wit (encWit_length _) (by (repeat (first | assumption | (with_reducible refine RowAt.new ?_; kernel_rfl) | (with_reducible refine RowAt.new1 ?_; kernel_rfl) | (with_reducible refine RowAt.new2 ?_; kernel_rfl) | (with_reducible refine RowAt.alloc ?_ _) | (with_reducible refine RowAt.drew ?_)))) ?_; (try simp only [Act.put, List.setIfInBounds_toArray, List.set_cons_zero, List.set_cons_succ, World.size_alloc]))
                | (go_at_call 63; (with_reducible refine (witness_tx _ _).mono ?_); rintro e w1 ⟨rfl, hb1⟩; obtain ⟨hc1, hf1⟩ := bcell hb1; have hz1 : w.heap.size + 2 ≤ w1.heap.size := (by have := hb1.size; simp at this; omega); have hrI : RowAt w1 w.heap.size 0 (encInp i) := RowAt.below (RowAt.alloc (RowAt.new (by kernel_rfl)) _) hb1 (by simp only [World.size_alloc]; omega); have HB1 := hidI (((Below.refl _ _).alloc (Nat.le_refl _) _).alloc (by simp only [World.size_alloc]; omega) _ |>.trans (hb1.mono (by simp only [World.size_alloc]; omega))))
                )
              go_ret
              refine ⟨ret_int ?_, ?_⟩
              · simp [checkE, checkF, waitsB, hs, ht, hk, hn, hv, hw]
              · exact HB1.out
          · simp only [Bool.not_eq_true] at hv
            go_enter Try.func35, Try.ntmps35
            go_wp2_with (first
              | (go_at_call 36; (with_reducible refine (within_batch _ _ _ _).mono ?_); rintro e w' ⟨rfl, rfl⟩)
              | (with_reducible refine at_load 91 rfl ?_; refine wpl_load_agg (cs := encClm i.clm) rfl rfl rfl agg_clm (encClm_length _) (by (repeat (first | assumption | (with_reducible refine RowAt.new ?_; kernel_rfl) | (with_reducible refine RowAt.new1 ?_; kernel_rfl) | (with_reducible refine RowAt.new2 ?_; kernel_rfl) | (with_reducible refine RowAt.alloc ?_ _) | (with_reducible refine RowAt.drew ?_)))) ?_; (try simp only [Act.put, List.setIfInBounds_toArray, List.set_cons_zero, List.set_cons_succ, World.size_alloc]))
              | (with_reducible refine at_store 91 rfl ?_; refine wpl_store_new (cs := encClm i.clm) rfl rfl rfl rfl (by simp) rfl sz_clm (encClm_length _) hcc rfl ?_; (try simp only [Act.put, List.setIfInBounds_toArray, List.set_cons_zero, List.set_cons_succ, World.size_alloc]))
              | (with_reducible refine at_alloc 91 rfl ?_; refine wpl_alloc_any rfl rfl z_clm ?_; intro cc hcc; (try simp only [Act.put, List.setIfInBounds_toArray, List.set_cons_zero, List.set_cons_succ, World.size_alloc]))
              )
            go_ret
            refine ⟨ret_int ?_, ?_⟩
            · simp [checkE, checkF, waitsB, hs, ht, hk, hn, hv]
            · exact ((Below.refl _ _).alloc (Nat.le_refl _) _).alloc (by simp) _
        · simp only [Bool.not_eq_true] at hn
          go_enter Try.func35, Try.ntmps35
          go_wp2_with (first
            | (go_at_call 36; (with_reducible refine (within_batch _ _ _ _).mono ?_); rintro e w' ⟨rfl, rfl⟩)
            | (with_reducible refine at_load 91 rfl ?_; refine wpl_load_agg (cs := encClm i.clm) rfl rfl rfl agg_clm (encClm_length _) (by (repeat (first | assumption | (with_reducible refine RowAt.new ?_; kernel_rfl) | (with_reducible refine RowAt.new1 ?_; kernel_rfl) | (with_reducible refine RowAt.new2 ?_; kernel_rfl) | (with_reducible refine RowAt.alloc ?_ _) | (with_reducible refine RowAt.drew ?_)))) ?_; (try simp only [Act.put, List.setIfInBounds_toArray, List.set_cons_zero, List.set_cons_succ, World.size_alloc]))
            | (with_reducible refine at_store 91 rfl ?_; refine wpl_store_new (cs := encClm i.clm) rfl rfl rfl rfl (by simp) rfl sz_clm (encClm_length _) hcc rfl ?_; (try simp only [Act.put, List.setIfInBounds_toArray, List.set_cons_zero, List.set_cons_succ, World.size_alloc]))
            | (with_reducible refine at_alloc 91 rfl ?_; refine wpl_alloc_any rfl rfl z_clm ?_; intro cc hcc; (try simp only [Act.put, List.setIfInBounds_toArray, List.set_cons_zero, List.set_cons_succ, World.size_alloc]))
            )
          go_ret
          refine ⟨ret_int ?_, ?_⟩
          · simp [checkE, checkF, waitsB, hs, ht, hk, hn]
          · exact ((Below.refl _ _).alloc (Nat.le_refl _) _).alloc (by simp) _
      · simp only [Bool.not_eq_true] at hk
        by_cases hn : inB i.pt.n 0 99 = true
        ·
          by_cases hv : inB i.value 1 2100000000000000 = true
          ·
            by_cases hw : witB i.clm.wit = true
            ·
              go_enter Try.func35, Try.ntmps35
              go_wp2_with (first
                | (go_at_call 36; (with_reducible refine (within_batch _ _ _ _).mono ?_); rintro e w' ⟨rfl, rfl⟩)
                | (with_reducible refine at_load 91 rfl ?_; refine wpl_load_agg (cs := encClm i.clm) rfl rfl rfl agg_clm (encClm_length _) (by (repeat (first | assumption | (with_reducible refine RowAt.new ?_; kernel_rfl) | (with_reducible refine RowAt.new1 ?_; kernel_rfl) | (with_reducible refine RowAt.new2 ?_; kernel_rfl) | (with_reducible refine RowAt.alloc ?_ _) | (with_reducible refine RowAt.drew ?_)))) ?_; (try simp only [Act.put, List.setIfInBounds_toArray, List.set_cons_zero, List.set_cons_succ, World.size_alloc]))
                | (with_reducible refine at_store 91 rfl ?_; refine wpl_store_new (cs := encClm i.clm) rfl rfl rfl rfl (by simp) rfl sz_clm (encClm_length _) hcc rfl ?_; (try simp only [Act.put, List.setIfInBounds_toArray, List.set_cons_zero, List.set_cons_succ, World.size_alloc]))
                | (with_reducible refine at_alloc 91 rfl ?_; refine wpl_alloc_any rfl rfl z_clm ?_; intro cc hcc; (try simp only [Act.put, List.setIfInBounds_toArray, List.set_cons_zero, List.set_cons_succ, World.size_alloc]))
                | (with_reducible refine at_load 59 rfl ?_; refine wpl_load_agg_g (cs := encWit i.clm.wit) (by kernel_rfl) rfl rfl agg_wit (encWit_length _) (by (repeat (first | assumption | (with_reducible refine RowAt.new ?_; kernel_rfl) | (with_reducible refine RowAt.new1 ?_; kernel_rfl) | (with_reducible refine RowAt.new2 ?_; kernel_rfl) | (with_reducible refine RowAt.alloc ?_ _) | (with_reducible refine RowAt.drew ?_)))) ?_; (try simp only [Act.put, List.setIfInBounds_toArray, List.set_cons_zero, List.set_cons_succ, World.size_alloc]))
                | (go_at_call 63; (with_reducible refine (witness_tx _ _).mono ?_); rintro e w1 ⟨rfl, hb1⟩; obtain ⟨hc1, hf1⟩ := bcell hb1; have hz1 : w.heap.size + 2 ≤ w1.heap.size := (by have := hb1.size; simp at this; omega); have hrI : RowAt w1 w.heap.size 0 (encInp i) := RowAt.below (RowAt.alloc (RowAt.new (by kernel_rfl)) _) hb1 (by simp only [World.size_alloc]; omega); have HB1 := hidI (((Below.refl _ _).alloc (Nat.le_refl _) _).alloc (by simp only [World.size_alloc]; omega) _ |>.trans (hb1.mono (by simp only [World.size_alloc]; omega))))
                )
              go_ret
              refine ⟨ret_int ?_, ?_⟩
              · simp [checkE, checkF, waitsB, hs, ht, hk, hn, hv, hw]
              · exact HB1.out
            · simp only [Bool.not_eq_true] at hw
              go_enter Try.func35, Try.ntmps35
              go_wp2_with (first
                | (go_at_call 36; (with_reducible refine (within_batch _ _ _ _).mono ?_); rintro e w' ⟨rfl, rfl⟩)
                | (with_reducible refine at_load 91 rfl ?_; refine wpl_load_agg (cs := encClm i.clm) rfl rfl rfl agg_clm (encClm_length _) (by (repeat (first | assumption | (with_reducible refine RowAt.new ?_; kernel_rfl) | (with_reducible refine RowAt.new1 ?_; kernel_rfl) | (with_reducible refine RowAt.new2 ?_; kernel_rfl) | (with_reducible refine RowAt.alloc ?_ _) | (with_reducible refine RowAt.drew ?_)))) ?_; (try simp only [Act.put, List.setIfInBounds_toArray, List.set_cons_zero, List.set_cons_succ, World.size_alloc]))
                | (with_reducible refine at_store 91 rfl ?_; refine wpl_store_new (cs := encClm i.clm) rfl rfl rfl rfl (by simp) rfl sz_clm (encClm_length _) hcc rfl ?_; (try simp only [Act.put, List.setIfInBounds_toArray, List.set_cons_zero, List.set_cons_succ, World.size_alloc]))
                | (with_reducible refine at_alloc 91 rfl ?_; refine wpl_alloc_any rfl rfl z_clm ?_; intro cc hcc; (try simp only [Act.put, List.setIfInBounds_toArray, List.set_cons_zero, List.set_cons_succ, World.size_alloc]))
                | (with_reducible refine at_load 59 rfl ?_; refine wpl_load_agg_g (cs := encWit i.clm.wit) (by kernel_rfl) rfl rfl agg_wit (encWit_length _) (by (repeat (first | assumption | (with_reducible refine RowAt.new ?_; kernel_rfl) | (with_reducible refine RowAt.new1 ?_; kernel_rfl) | (with_reducible refine RowAt.new2 ?_; kernel_rfl) | (with_reducible refine RowAt.alloc ?_ _) | (with_reducible refine RowAt.drew ?_)))) ?_; (try simp only [Act.put, List.setIfInBounds_toArray, List.set_cons_zero, List.set_cons_succ, World.size_alloc]))
                | (go_at_call 63; (with_reducible refine (witness_tx _ _).mono ?_); rintro e w1 ⟨rfl, hb1⟩; obtain ⟨hc1, hf1⟩ := bcell hb1; have hz1 : w.heap.size + 2 ≤ w1.heap.size := (by have := hb1.size; simp at this; omega); have hrI : RowAt w1 w.heap.size 0 (encInp i) := RowAt.below (RowAt.alloc (RowAt.new (by kernel_rfl)) _) hb1 (by simp only [World.size_alloc]; omega); have HB1 := hidI (((Below.refl _ _).alloc (Nat.le_refl _) _).alloc (by simp only [World.size_alloc]; omega) _ |>.trans (hb1.mono (by simp only [World.size_alloc]; omega))))
                )
              go_ret
              refine ⟨ret_int ?_, ?_⟩
              · simp [checkE, checkF, waitsB, hs, ht, hk, hn, hv, hw]
              · exact HB1.out
          · simp only [Bool.not_eq_true] at hv
            go_enter Try.func35, Try.ntmps35
            go_wp2_with (first
              | (go_at_call 36; (with_reducible refine (within_batch _ _ _ _).mono ?_); rintro e w' ⟨rfl, rfl⟩)
              | (with_reducible refine at_load 91 rfl ?_; refine wpl_load_agg (cs := encClm i.clm) rfl rfl rfl agg_clm (encClm_length _) (by (repeat (first | assumption | (with_reducible refine RowAt.new ?_; kernel_rfl) | (with_reducible refine RowAt.new1 ?_; kernel_rfl) | (with_reducible refine RowAt.new2 ?_; kernel_rfl) | (with_reducible refine RowAt.alloc ?_ _) | (with_reducible refine RowAt.drew ?_)))) ?_; (try simp only [Act.put, List.setIfInBounds_toArray, List.set_cons_zero, List.set_cons_succ, World.size_alloc]))
              | (with_reducible refine at_store 91 rfl ?_; refine wpl_store_new (cs := encClm i.clm) rfl rfl rfl rfl (by simp) rfl sz_clm (encClm_length _) hcc rfl ?_; (try simp only [Act.put, List.setIfInBounds_toArray, List.set_cons_zero, List.set_cons_succ, World.size_alloc]))
              | (with_reducible refine at_alloc 91 rfl ?_; refine wpl_alloc_any rfl rfl z_clm ?_; intro cc hcc; (try simp only [Act.put, List.setIfInBounds_toArray, List.set_cons_zero, List.set_cons_succ, World.size_alloc]))
              )
            go_ret
            refine ⟨ret_int ?_, ?_⟩
            · simp [checkE, checkF, waitsB, hs, ht, hk, hn, hv]
            · exact ((Below.refl _ _).alloc (Nat.le_refl _) _).alloc (by simp) _
        · simp only [Bool.not_eq_true] at hn
          go_enter Try.func35, Try.ntmps35
          go_wp2_with (first
            | (go_at_call 36; (with_reducible refine (within_batch _ _ _ _).mono ?_); rintro e w' ⟨rfl, rfl⟩)
            | (with_reducible refine at_load 91 rfl ?_; refine wpl_load_agg (cs := encClm i.clm) rfl rfl rfl agg_clm (encClm_length _) (by (repeat (first | assumption | (with_reducible refine RowAt.new ?_; kernel_rfl) | (with_reducible refine RowAt.new1 ?_; kernel_rfl) | (with_reducible refine RowAt.new2 ?_; kernel_rfl) | (with_reducible refine RowAt.alloc ?_ _) | (with_reducible refine RowAt.drew ?_)))) ?_; (try simp only [Act.put, List.setIfInBounds_toArray, List.set_cons_zero, List.set_cons_succ, World.size_alloc]))
            | (with_reducible refine at_store 91 rfl ?_; refine wpl_store_new (cs := encClm i.clm) rfl rfl rfl rfl (by simp) rfl sz_clm (encClm_length _) hcc rfl ?_; (try simp only [Act.put, List.setIfInBounds_toArray, List.set_cons_zero, List.set_cons_succ, World.size_alloc]))
            | (with_reducible refine at_alloc 91 rfl ?_; refine wpl_alloc_any rfl rfl z_clm ?_; intro cc hcc; (try simp only [Act.put, List.setIfInBounds_toArray, List.set_cons_zero, List.set_cons_succ, World.size_alloc]))
            )
          go_ret
          refine ⟨ret_int ?_, ?_⟩
          · simp [checkE, checkF, waitsB, hs, ht, hk, hn]
          · exact ((Below.refl _ _).alloc (Nat.le_refl _) _).alloc (by simp) _
    · simp only [Bool.not_eq_true] at ht
      by_cases hn : inB i.pt.n 0 99 = true
      ·
        by_cases hv : inB i.value 1 2100000000000000 = true
        ·
          by_cases hw : witB i.clm.wit = true
          ·
            go_enter Try.func35, Try.ntmps35
            go_wp2_with (first
              | (go_at_call 36; (with_reducible refine (within_batch _ _ _ _).mono ?_); rintro e w' ⟨rfl, rfl⟩)
              | (with_reducible refine at_load 91 rfl ?_; refine wpl_load_agg (cs := encClm i.clm) rfl rfl rfl agg_clm (encClm_length _) (by (repeat (first | assumption | (with_reducible refine RowAt.new ?_; kernel_rfl) | (with_reducible refine RowAt.new1 ?_; kernel_rfl) | (with_reducible refine RowAt.new2 ?_; kernel_rfl) | (with_reducible refine RowAt.alloc ?_ _) | (with_reducible refine RowAt.drew ?_)))) ?_; (try simp only [Act.put, List.setIfInBounds_toArray, List.set_cons_zero, List.set_cons_succ, World.size_alloc]))
              | (with_reducible refine at_store 91 rfl ?_; refine wpl_store_new (cs := encClm i.clm) rfl rfl rfl rfl (by simp) rfl sz_clm (encClm_length _) hcc rfl ?_; (try simp only [Act.put, List.setIfInBounds_toArray, List.set_cons_zero, List.set_cons_succ, World.size_alloc]))
              | (with_reducible refine at_alloc 91 rfl ?_; refine wpl_alloc_any rfl rfl z_clm ?_; intro cc hcc; (try simp only [Act.put, List.setIfInBounds_toArray, List.set_cons_zero, List.set_cons_succ, World.size_alloc]))
              | (with_reducible refine at_load 59 rfl ?_; refine wpl_load_agg_g (cs := encWit i.clm.wit) (by kernel_rfl) rfl rfl agg_wit (encWit_length _) (by (repeat (first | assumption | (with_reducible refine RowAt.new ?_; kernel_rfl) | (with_reducible refine RowAt.new1 ?_; kernel_rfl) | (with_reducible refine RowAt.new2 ?_; kernel_rfl) | (with_reducible refine RowAt.alloc ?_ _) | (with_reducible refine RowAt.drew ?_)))) ?_; (try simp only [Act.put, List.setIfInBounds_toArray, List.set_cons_zero, List.set_cons_succ, World.size_alloc]))
              | (go_at_call 63; (with_reducible refine (witness_tx _ _).mono ?_); rintro e w1 ⟨rfl, hb1⟩; obtain ⟨hc1, hf1⟩ := bcell hb1; have hz1 : w.heap.size + 2 ≤ w1.heap.size := (by have := hb1.size; simp at this; omega); have hrI : RowAt w1 w.heap.size 0 (encInp i) := RowAt.below (RowAt.alloc (RowAt.new (by kernel_rfl)) _) hb1 (by simp only [World.size_alloc]; omega); have HB1 := hidI (((Below.refl _ _).alloc (Nat.le_refl _) _).alloc (by simp only [World.size_alloc]; omega) _ |>.trans (hb1.mono (by simp only [World.size_alloc]; omega))))
              )
            go_ret
            refine ⟨ret_int ?_, ?_⟩
            · simp [checkE, checkF, waitsB, hs, ht, hn, hv, hw]
            · exact HB1.out
          · simp only [Bool.not_eq_true] at hw
            go_enter Try.func35, Try.ntmps35
            go_wp2_with (first
              | (go_at_call 36; (with_reducible refine (within_batch _ _ _ _).mono ?_); rintro e w' ⟨rfl, rfl⟩)
              | (with_reducible refine at_load 91 rfl ?_; refine wpl_load_agg (cs := encClm i.clm) rfl rfl rfl agg_clm (encClm_length _) (by (repeat (first | assumption | (with_reducible refine RowAt.new ?_; kernel_rfl) | (with_reducible refine RowAt.new1 ?_; kernel_rfl) | (with_reducible refine RowAt.new2 ?_; kernel_rfl) | (with_reducible refine RowAt.alloc ?_ _) | (with_reducible refine RowAt.drew ?_)))) ?_; (try simp only [Act.put, List.setIfInBounds_toArray, List.set_cons_zero, List.set_cons_succ, World.size_alloc]))
              | (with_reducible refine at_store 91 rfl ?_; refine wpl_store_new (cs := encClm i.clm) rfl rfl rfl rfl (by simp) rfl sz_clm (encClm_length _) hcc rfl ?_; (try simp only [Act.put, List.setIfInBounds_toArray, List.set_cons_zero, List.set_cons_succ, World.size_alloc]))
              | (with_reducible refine at_alloc 91 rfl ?_; refine wpl_alloc_any rfl rfl z_clm ?_; intro cc hcc; (try simp only [Act.put, List.setIfInBounds_toArray, List.set_cons_zero, List.set_cons_succ, World.size_alloc]))
              | (with_reducible refine at_load 59 rfl ?_; refine wpl_load_agg_g (cs := encWit i.clm.wit) (by kernel_rfl) rfl rfl agg_wit (encWit_length _) (by (repeat (first | assumption | (with_reducible refine RowAt.new ?_; kernel_rfl) | (with_reducible refine RowAt.new1 ?_; kernel_rfl) | (with_reducible refine RowAt.new2 ?_; kernel_rfl) | (with_reducible refine RowAt.alloc ?_ _) | (with_reducible refine RowAt.drew ?_)))) ?_; (try simp only [Act.put, List.setIfInBounds_toArray, List.set_cons_zero, List.set_cons_succ, World.size_alloc]))
              | (go_at_call 63; (with_reducible refine (witness_tx _ _).mono ?_); rintro e w1 ⟨rfl, hb1⟩; obtain ⟨hc1, hf1⟩ := bcell hb1; have hz1 : w.heap.size + 2 ≤ w1.heap.size := (by have := hb1.size; simp at this; omega); have hrI : RowAt w1 w.heap.size 0 (encInp i) := RowAt.below (RowAt.alloc (RowAt.new (by kernel_rfl)) _) hb1 (by simp only [World.size_alloc]; omega); have HB1 := hidI (((Below.refl _ _).alloc (Nat.le_refl _) _).alloc (by simp only [World.size_alloc]; omega) _ |>.trans (hb1.mono (by simp only [World.size_alloc]; omega))))
              )
            go_ret
            refine ⟨ret_int ?_, ?_⟩
            · simp [checkE, checkF, waitsB, hs, ht, hn, hv, hw]
            · exact HB1.out
        · simp only [Bool.not_eq_true] at hv
          go_enter Try.func35, Try.ntmps35
          go_wp2_with (first
            | (go_at_call 36; (with_reducible refine (within_batch _ _ _ _).mono ?_); rintro e w' ⟨rfl, rfl⟩)
            | (with_reducible refine at_load 91 rfl ?_; refine wpl_load_agg (cs := encClm i.clm) rfl rfl rfl agg_clm (encClm_length _) (by (repeat (first | assumption | (with_reducible refine RowAt.new ?_; kernel_rfl) | (with_reducible refine RowAt.new1 ?_; kernel_rfl) | (with_reducible refine RowAt.new2 ?_; kernel_rfl) | (with_reducible refine RowAt.alloc ?_ _) | (with_reducible refine RowAt.drew ?_)))) ?_; (try simp only [Act.put, List.setIfInBounds_toArray, List.set_cons_zero, List.set_cons_succ, World.size_alloc]))
            | (with_reducible refine at_store 91 rfl ?_; refine wpl_store_new (cs := encClm i.clm) rfl rfl rfl rfl (by simp) rfl sz_clm (encClm_length _) hcc rfl ?_; (try simp only [Act.put, List.setIfInBounds_toArray, List.set_cons_zero, List.set_cons_succ, World.size_alloc]))
            | (with_reducible refine at_alloc 91 rfl ?_; refine wpl_alloc_any rfl rfl z_clm ?_; intro cc hcc; (try simp only [Act.put, List.setIfInBounds_toArray, List.set_cons_zero, List.set_cons_succ, World.size_alloc]))
            )
          go_ret
          refine ⟨ret_int ?_, ?_⟩
          · simp [checkE, checkF, waitsB, hs, ht, hn, hv]
          · exact ((Below.refl _ _).alloc (Nat.le_refl _) _).alloc (by simp) _
      · simp only [Bool.not_eq_true] at hn
        go_enter Try.func35, Try.ntmps35
        go_wp2_with (first
          | (go_at_call 36; (with_reducible refine (within_batch _ _ _ _).mono ?_); rintro e w' ⟨rfl, rfl⟩)
          | (with_reducible refine at_load 91 rfl ?_; refine wpl_load_agg (cs := encClm i.clm) rfl rfl rfl agg_clm (encClm_length _) (by (repeat (first | assumption | (with_reducible refine RowAt.new ?_; kernel_rfl) | (with_reducible refine RowAt.new1 ?_; kernel_rfl) | (with_reducible refine RowAt.new2 ?_; kernel_rfl) | (with_reducible refine RowAt.alloc ?_ _) | (with_reducible refine RowAt.drew ?_)))) ?_; (try simp only [Act.put, List.setIfInBounds_toArray, List.set_cons_zero, List.set_cons_succ, World.size_alloc]))
          | (with_reducible refine at_store 91 rfl ?_; refine wpl_store_new (cs := encClm i.clm) rfl rfl rfl rfl (by simp) rfl sz_clm (encClm_length _) hcc rfl ?_; (try simp only [Act.put, List.setIfInBounds_toArray, List.set_cons_zero, List.set_cons_succ, World.size_alloc]))
          | (with_reducible refine at_alloc 91 rfl ?_; refine wpl_alloc_any rfl rfl z_clm ?_; intro cc hcc; (try simp only [Act.put, List.setIfInBounds_toArray, List.set_cons_zero, List.set_cons_succ, World.size_alloc]))
          )
        go_ret
        refine ⟨ret_int ?_, ?_⟩
        · simp [checkE, checkF, waitsB, hs, ht, hn]
        · exact ((Below.refl _ _).alloc (Nat.le_refl _) _).alloc (by simp) _
  · simp only [Bool.not_eq_true] at hs
    by_cases hn : inB i.pt.n 0 99 = true
    ·
      by_cases hv : inB i.value 1 2100000000000000 = true
      ·
        by_cases hw : witB i.clm.wit = true
        ·
          go_enter Try.func35, Try.ntmps35
          go_wp2_with (first
            | (go_at_call 36; (with_reducible refine (within_batch _ _ _ _).mono ?_); rintro e w' ⟨rfl, rfl⟩)
            | (with_reducible refine at_load 91 rfl ?_; refine wpl_load_agg (cs := encClm i.clm) rfl rfl rfl agg_clm (encClm_length _) (by (repeat (first | assumption | (with_reducible refine RowAt.new ?_; kernel_rfl) | (with_reducible refine RowAt.new1 ?_; kernel_rfl) | (with_reducible refine RowAt.new2 ?_; kernel_rfl) | (with_reducible refine RowAt.alloc ?_ _) | (with_reducible refine RowAt.drew ?_)))) ?_; (try simp only [Act.put, List.setIfInBounds_toArray, List.set_cons_zero, List.set_cons_succ, World.size_alloc]))
            | (with_reducible refine at_store 91 rfl ?_; refine wpl_store_new (cs := encClm i.clm) rfl rfl rfl rfl (by simp) rfl sz_clm (encClm_length _) hcc rfl ?_; (try simp only [Act.put, List.setIfInBounds_toArray, List.set_cons_zero, List.set_cons_succ, World.size_alloc]))
            | (with_reducible refine at_alloc 91 rfl ?_; refine wpl_alloc_any rfl rfl z_clm ?_; intro cc hcc; (try simp only [Act.put, List.setIfInBounds_toArray, List.set_cons_zero, List.set_cons_succ, World.size_alloc]))
            | (with_reducible refine at_load 59 rfl ?_; refine wpl_load_agg_g (cs := encWit i.clm.wit) (by kernel_rfl) rfl rfl agg_wit (encWit_length _) (by (repeat (first | assumption | (with_reducible refine RowAt.new ?_; kernel_rfl) | (with_reducible refine RowAt.new1 ?_; kernel_rfl) | (with_reducible refine RowAt.new2 ?_; kernel_rfl) | (with_reducible refine RowAt.alloc ?_ _) | (with_reducible refine RowAt.drew ?_)))) ?_; (try simp only [Act.put, List.setIfInBounds_toArray, List.set_cons_zero, List.set_cons_succ, World.size_alloc]))
            | (go_at_call 63; (with_reducible refine (witness_tx _ _).mono ?_); rintro e w1 ⟨rfl, hb1⟩; obtain ⟨hc1, hf1⟩ := bcell hb1; have hz1 : w.heap.size + 2 ≤ w1.heap.size := (by have := hb1.size; simp at this; omega); have hrI : RowAt w1 w.heap.size 0 (encInp i) := RowAt.below (RowAt.alloc (RowAt.new (by kernel_rfl)) _) hb1 (by simp only [World.size_alloc]; omega); have HB1 := hidI (((Below.refl _ _).alloc (Nat.le_refl _) _).alloc (by simp only [World.size_alloc]; omega) _ |>.trans (hb1.mono (by simp only [World.size_alloc]; omega))))
            )
          go_ret
          refine ⟨ret_int ?_, ?_⟩
          · simp [checkE, checkF, waitsB, hs, hn, hv, hw]
          · exact HB1.out
        · simp only [Bool.not_eq_true] at hw
          go_enter Try.func35, Try.ntmps35
          go_wp2_with (first
            | (go_at_call 36; (with_reducible refine (within_batch _ _ _ _).mono ?_); rintro e w' ⟨rfl, rfl⟩)
            | (with_reducible refine at_load 91 rfl ?_; refine wpl_load_agg (cs := encClm i.clm) rfl rfl rfl agg_clm (encClm_length _) (by (repeat (first | assumption | (with_reducible refine RowAt.new ?_; kernel_rfl) | (with_reducible refine RowAt.new1 ?_; kernel_rfl) | (with_reducible refine RowAt.new2 ?_; kernel_rfl) | (with_reducible refine RowAt.alloc ?_ _) | (with_reducible refine RowAt.drew ?_)))) ?_; (try simp only [Act.put, List.setIfInBounds_toArray, List.set_cons_zero, List.set_cons_succ, World.size_alloc]))
            | (with_reducible refine at_store 91 rfl ?_; refine wpl_store_new (cs := encClm i.clm) rfl rfl rfl rfl (by simp) rfl sz_clm (encClm_length _) hcc rfl ?_; (try simp only [Act.put, List.setIfInBounds_toArray, List.set_cons_zero, List.set_cons_succ, World.size_alloc]))
            | (with_reducible refine at_alloc 91 rfl ?_; refine wpl_alloc_any rfl rfl z_clm ?_; intro cc hcc; (try simp only [Act.put, List.setIfInBounds_toArray, List.set_cons_zero, List.set_cons_succ, World.size_alloc]))
            | (with_reducible refine at_load 59 rfl ?_; refine wpl_load_agg_g (cs := encWit i.clm.wit) (by kernel_rfl) rfl rfl agg_wit (encWit_length _) (by (repeat (first | assumption | (with_reducible refine RowAt.new ?_; kernel_rfl) | (with_reducible refine RowAt.new1 ?_; kernel_rfl) | (with_reducible refine RowAt.new2 ?_; kernel_rfl) | (with_reducible refine RowAt.alloc ?_ _) | (with_reducible refine RowAt.drew ?_)))) ?_; (try simp only [Act.put, List.setIfInBounds_toArray, List.set_cons_zero, List.set_cons_succ, World.size_alloc]))
            | (go_at_call 63; (with_reducible refine (witness_tx _ _).mono ?_); rintro e w1 ⟨rfl, hb1⟩; obtain ⟨hc1, hf1⟩ := bcell hb1; have hz1 : w.heap.size + 2 ≤ w1.heap.size := (by have := hb1.size; simp at this; omega); have hrI : RowAt w1 w.heap.size 0 (encInp i) := RowAt.below (RowAt.alloc (RowAt.new (by kernel_rfl)) _) hb1 (by simp only [World.size_alloc]; omega); have HB1 := hidI (((Below.refl _ _).alloc (Nat.le_refl _) _).alloc (by simp only [World.size_alloc]; omega) _ |>.trans (hb1.mono (by simp only [World.size_alloc]; omega))))
            )
          go_ret
          refine ⟨ret_int ?_, ?_⟩
          · simp [checkE, checkF, waitsB, hs, hn, hv, hw]
          · exact HB1.out
      · simp only [Bool.not_eq_true] at hv
        go_enter Try.func35, Try.ntmps35
        go_wp2_with (first
          | (go_at_call 36; (with_reducible refine (within_batch _ _ _ _).mono ?_); rintro e w' ⟨rfl, rfl⟩)
          | (with_reducible refine at_load 91 rfl ?_; refine wpl_load_agg (cs := encClm i.clm) rfl rfl rfl agg_clm (encClm_length _) (by (repeat (first | assumption | (with_reducible refine RowAt.new ?_; kernel_rfl) | (with_reducible refine RowAt.new1 ?_; kernel_rfl) | (with_reducible refine RowAt.new2 ?_; kernel_rfl) | (with_reducible refine RowAt.alloc ?_ _) | (with_reducible refine RowAt.drew ?_)))) ?_; (try simp only [Act.put, List.setIfInBounds_toArray, List.set_cons_zero, List.set_cons_succ, World.size_alloc]))
          | (with_reducible refine at_store 91 rfl ?_; refine wpl_store_new (cs := encClm i.clm) rfl rfl rfl rfl (by simp) rfl sz_clm (encClm_length _) hcc rfl ?_; (try simp only [Act.put, List.setIfInBounds_toArray, List.set_cons_zero, List.set_cons_succ, World.size_alloc]))
          | (with_reducible refine at_alloc 91 rfl ?_; refine wpl_alloc_any rfl rfl z_clm ?_; intro cc hcc; (try simp only [Act.put, List.setIfInBounds_toArray, List.set_cons_zero, List.set_cons_succ, World.size_alloc]))
          )
        go_ret
        refine ⟨ret_int ?_, ?_⟩
        · simp [checkE, checkF, waitsB, hs, hn, hv]
        · exact ((Below.refl _ _).alloc (Nat.le_refl _) _).alloc (by simp) _
    · simp only [Bool.not_eq_true] at hn
      go_enter Try.func35, Try.ntmps35
      go_wp2_with (first
        | (go_at_call 36; (with_reducible refine (within_batch _ _ _ _).mono ?_); rintro e w' ⟨rfl, rfl⟩)
        | (with_reducible refine at_load 91 rfl ?_; refine wpl_load_agg (cs := encClm i.clm) rfl rfl rfl agg_clm (encClm_length _) (by (repeat (first | assumption | (with_reducible refine RowAt.new ?_; kernel_rfl) | (with_reducible refine RowAt.new1 ?_; kernel_rfl) | (with_reducible refine RowAt.new2 ?_; kernel_rfl) | (with_reducible refine RowAt.alloc ?_ _) | (with_reducible refine RowAt.drew ?_)))) ?_; (try simp only [Act.put, List.setIfInBounds_toArray, List.set_cons_zero, List.set_cons_succ, World.size_alloc]))
        | (with_reducible refine at_store 91 rfl ?_; refine wpl_store_new (cs := encClm i.clm) rfl rfl rfl rfl (by simp) rfl sz_clm (encClm_length _) hcc rfl ?_; (try simp only [Act.put, List.setIfInBounds_toArray, List.set_cons_zero, List.set_cons_succ, World.size_alloc]))
        | (with_reducible refine at_alloc 91 rfl ?_; refine wpl_alloc_any rfl rfl z_clm ?_; intro cc hcc; (try simp only [Act.put, List.setIfInBounds_toArray, List.set_cons_zero, List.set_cons_succ, World.size_alloc]))
        )
      go_ret
      refine ⟨ret_int ?_, ?_⟩
      · simp [checkE, checkF, waitsB, hs, hn]
      · exact ((Below.refl _ _).alloc (Nat.le_refl _) _).alloc (by simp) _


def rateI (i : Inp) (next : Int) : Int := if checkE i = 0 then atC (curveV i.since i.dead i.budget (alone i)) next else 0
theorem checkE_cv {i : Inp} (h : checkE i = 0) : cvE i.since i.dead i.budget (alone i) = 0 ∧ curveOk i.since i.dead i.budget (alone i) = true ∧ checkF i = true := by
  unfold checkE at h
  split at h
  · rename_i hf
    refine ⟨h, ?_, hf⟩
    unfold cvE at h
    split at h
    · assumption
    · cases h
  · cases h
set_option maxRecDepth 100000 in
set_option maxHeartbeats 4000000 in
theorem rate_any (i : Inp) (next : Int) (w : World) :
    Calls Try.prog 65 #[.agg (encInp i).toArray, .int .i64 next] w fun e w' => e = .returned (.int .i64 (rateI i next)) ∧ Below w.heap.size w w' := by
  unfold rateI
  by_cases hk : checkE i = 0
  · rw [if_pos hk]
    have HX := hidI hk
    obtain ⟨k1, k2, _⟩ := checkE_cv hk
    have HK := hidI (curveV_ok k2)
    have HV := hidI (And.intro (show cvOf i.since i.dead i.budget (alone i) = encCv (curveV i.since i.dead i.budget (alone i)) by unfold cvOf; rw [if_pos k2]) k1)
    clear k1 k2 hk
    go_enter Try.func65, Try.ntmps65
    go_wp2_with (first
      | (with_reducible refine at_load 93 rfl ?_; refine wpl_load_agg (cs := encInp i) rfl rfl rfl agg_inp (encInp_length _) (by first | exact hrI | (repeat (first | assumption | (with_reducible refine RowAt.new ?_; kernel_rfl) | (with_reducible refine RowAt.new1 ?_; kernel_rfl) | (with_reducible refine RowAt.new2 ?_; kernel_rfl) | (with_reducible refine RowAt.alloc ?_ _) | (with_reducible refine RowAt.drew ?_)))) ?_; (try simp only [Act.put, List.setIfInBounds_toArray, List.set_cons_zero, List.set_cons_succ, World.size_alloc]))
      | (go_at_call 35; (with_reducible refine (check_any _ _).mono ?_); rintro e w1 ⟨rfl, hb1⟩; rw [HX.out]; obtain ⟨hc1, hf1⟩ := bcell hb1; have hz1 : w.heap.size + 1 ≤ w1.heap.size := (by have := hb1.size; simp at this; omega); have hrI : RowAt w1 w.heap.size 0 (encInp i) := RowAt.below (RowAt.new (by kernel_rfl)) hb1 (by simp only [World.size_alloc]; omega); have HB1 := hidI ((Below.refl w.heap.size w).alloc (Nat.le_refl _) _ |>.trans (hb1.mono (by simp only [World.size_alloc]; omega))))
      | (go_at_call 64; (with_reducible refine (rise_any _ _).mono ?_); rintro e w2 ⟨rfl, hb2⟩; rw [HV.out.1, HV.out.2]; obtain ⟨hc2, hf2⟩ := bcell hb2; have hz2 : w.heap.size + 1 ≤ w2.heap.size := (by have := hb2.size; omega); have HB2 := hidI (hb2))
      | (with_reducible refine at_store 131 rfl ?_; refine wpl_store_new (cs := encCv (curveV i.since i.dead i.budget (alone i))) rfl rfl rfl rfl (by simp) rfl sz_cv (encCv_length _) hcv rfl ?_; (try simp only [Act.put, List.setIfInBounds_toArray, List.set_cons_zero, List.set_cons_succ, World.size_alloc]))
      | (with_reducible refine at_alloc 131 rfl ?_; refine wpl_alloc_any rfl rfl z_cv ?_; intro cv hcv; (try simp only [Act.put, List.setIfInBounds_toArray, List.set_cons_zero, List.set_cons_succ, World.size_alloc]))
      | (with_reducible refine at_load 131 rfl ?_; refine wpl_load_agg (cs := encCv (curveV i.since i.dead i.budget (alone i))) rfl rfl rfl agg_cv (encCv_length _) (by (repeat (first | assumption | (with_reducible refine RowAt.new ?_; kernel_rfl) | (with_reducible refine RowAt.new1 ?_; kernel_rfl) | (with_reducible refine RowAt.new2 ?_; kernel_rfl) | (with_reducible refine RowAt.alloc ?_ _) | (with_reducible refine RowAt.drew ?_)))) ?_; (try simp only [Act.put, List.setIfInBounds_toArray, List.set_cons_zero, List.set_cons_succ, World.size_alloc]))
      | (go_at_call 88; (with_reducible refine (at_any _ HK.out _ _).mono ?_); rintro e w3 ⟨rfl, hb3⟩; have HB3 := hidI hb3; have hz3 : w2.heap.size ≤ w3.heap.size := (by have := hb3.size; simp at this; omega)))
    go_ret
    refine ⟨rfl, ?_⟩
    exact (HB1.out.trans ((HB2.out.mono (by omega)).trans ((((Below.refl _ _).alloc (Nat.le_refl _) _).trans (HB3.out.mono (by simp only [World.size_alloc]; omega))).mono (by omega))))
  · rw [if_neg hk]
    obtain ⟨e, he⟩ : ∃ e, checkE i = e := ⟨_, rfl⟩
    rw [he] at hk
    have HX := hidI he
    clear he
    go_enter Try.func65, Try.ntmps65
    go_wp2_with (first
      | (with_reducible refine at_load 93 rfl ?_; refine wpl_load_agg (cs := encInp i) rfl rfl rfl agg_inp (encInp_length _) (by first | (repeat (first | assumption | (with_reducible refine RowAt.new ?_; kernel_rfl) | (with_reducible refine RowAt.new1 ?_; kernel_rfl) | (with_reducible refine RowAt.new2 ?_; kernel_rfl) | (with_reducible refine RowAt.alloc ?_ _) | (with_reducible refine RowAt.drew ?_))) | (repeat (first | assumption | (with_reducible refine RowAt.new ?_; kernel_rfl) | (with_reducible refine RowAt.new1 ?_; kernel_rfl) | (with_reducible refine RowAt.new2 ?_; kernel_rfl) | (with_reducible refine RowAt.alloc ?_ _) | (with_reducible refine RowAt.drew ?_)))) ?_; (try simp only [Act.put, List.setIfInBounds_toArray, List.set_cons_zero, List.set_cons_succ, World.size_alloc]))
      | (go_at_call 35; (with_reducible refine (check_any _ _).mono ?_); rintro e w1 ⟨rfl, hb1⟩; rw [HX.out]; obtain ⟨hc1, hf1⟩ := bcell hb1; have hz1 : w.heap.size + 1 ≤ w1.heap.size := (by have := hb1.size; simp at this; omega); have hrI : RowAt w1 w.heap.size 0 (encInp i) := RowAt.below (RowAt.new (by kernel_rfl)) hb1 (by simp only [World.size_alloc]; omega); have HB1 := hidI ((Below.refl w.heap.size w).alloc (Nat.le_refl _) _ |>.trans (hb1.mono (by simp only [World.size_alloc]; omega)))))
    go_ret
    exact ⟨rfl, HB1.out⟩


end Go.Proofs.Ytjlledljancafaa
