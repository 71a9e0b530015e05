/- The law's own small functions. -/
import Derived.Test.YtjlledljancafaaAL
set_option linter.unusedSimpArgs false
set_option linter.unusedVariables false
namespace Go.Proofs.Ytjlledljancafaa
open Go.RowKit Go.XB

theorem build_clm (wt : Wit) (a b c : Int) (W : World) : (Instr.build 91 #[(0, .agg (encWit wt).toArray), (1, .int .i64 a), (2, .int .i64 b), (3, .int .i64 c)]).run Try.prog W = .ok (.agg (encClm ⟨wt, a, b, c⟩).toArray) W := by kernel_rfl
theorem build_inp (p : Pt) (v : Int) (cl : Clm) (a b c d : Int) (W : World) : (Instr.build 93 #[(0, .agg (encPt p).toArray), (1, .int .i64 v), (2, .agg (encClm cl).toArray), (3, .int .i64 a), (4, .int .i64 b), (5, .int .i64 c), (6, .int .i64 d)]).run Try.prog W = .ok (.agg (encInp ⟨p, v, cl, a, b, c, d⟩).toArray) W := by kernel_rfl
theorem agg_rin : aggB Try.prog 63 44 = true := by kernel_rfl
theorem z_rin : zeroB Try.prog 63 44 = true := by kernel_rfl
theorem sz_rin : (Try.prog.info? 63).map (·.size) = some 44 := by kernel_rfl
theorem sl_rin : sliceB Try.prog 36 63 44 = true := by kernel_rfl
theorem ap_rin : apB Try.prog 36 63 44 136 = true := by kernel_rfl
set_option maxRecDepth 100000 in
set_option maxHeartbeats 400000 in
theorem made_any (i : Inp) (w : World) :
    Calls Try.prog 39 #[.agg (encInp i).toArray] w fun e w' => e = .returned (.agg (encInp i).toArray) ∧ Below w.heap.size w w' := by
  have c1 : (encInp i)[33]? = some (.int .i64 i.value) := rfl
  have c2 : (encInp i)[37]? = some (.int .i64 i.clm.seq) := rfl
  have c3 : (encInp i)[38]? = some (.int .i64 i.clm.lock) := rfl
  have c4 : (encInp i)[39]? = some (.int .i64 i.clm.wait) := rfl
  have c5 : (encInp i)[40]? = some (.int .i64 i.conf) := rfl
  have c6 : (encInp i)[41]? = some (.int .i64 i.since) := rfl
  have c7 : (encInp i)[42]? = some (.int .i64 i.dead) := rfl
  have c8 : (encInp i)[43]? = some (.int .i64 i.budget) := rfl
  go_enter Try.func39, Try.ntmps39
  go_wp2_with (first
      | (with_reducible refine at_alloc 93 rfl ?_; refine wpl_alloc_any rfl rfl z_inp ?_; intro cur hcur; (try simp only [Act.put, List.setIfInBounds_toArray, List.set_cons_zero, List.set_cons_succ, World.size_alloc]))
      | (with_reducible refine at_load 57 rfl ?_; refine wpl_load_agg (b := w.heap.size) (cs := encPt i.pt) rfl rfl rfl agg_pt (encPt_length _) (by exact RowAt.alloc (RowAt.new (by kernel_rfl)) _) ?_; (try simp only [Act.put, List.setIfInBounds_toArray, List.set_cons_zero, List.set_cons_succ, World.size_alloc]))
      | (with_reducible refine at_load 59 rfl ?_; refine wpl_load_agg (b := w.heap.size) (cs := encWit i.clm.wit) rfl rfl rfl agg_wit (encWit_length _) (by exact RowAt.alloc (RowAt.new (by kernel_rfl)) _) ?_; (try simp only [Act.put, List.setIfInBounds_toArray, List.set_cons_zero, List.set_cons_succ, World.size_alloc]))
      | (with_reducible refine at_build 91 rfl ?_; refine wpl_build rfl rfl (build_clm i.clm.wit i.clm.seq i.clm.lock i.clm.wait _) (by kernel_rfl) ?_; (try simp only [Act.put, List.setIfInBounds_toArray, List.set_cons_zero, List.set_cons_succ, World.size_alloc]))
      | (with_reducible refine at_build 93 rfl ?_; refine wpl_build rfl rfl (build_inp i.pt i.value i.clm i.conf i.since i.dead i.budget _) (by kernel_rfl) ?_; (try simp only [Act.put, List.setIfInBounds_toArray, List.set_cons_zero, List.set_cons_succ, World.size_alloc]))
      | (with_reducible refine at_store 93 rfl ?_; refine wpl_store_new (cs := encInp i) rfl rfl rfl rfl (by simp) rfl sz_inp (encInp_length _) hcur rfl ?_; (try simp only [Act.put, List.setIfInBounds_toArray, List.set_cons_zero, List.set_cons_succ, World.size_alloc])))
  refine ret_agg (cs := encInp i) rfl rfl rfl agg_inp (encInp_length _) (RowAt.new1 (by simp)) ⟨rfl, ?_⟩
  exact ((Below.refl _ _).alloc (Nat.le_refl _) _).alloc (by simp) _


/-- an input of a number -/
def oneI (n v b : Int) : Inp := ⟨⟨0, n⟩, v, ⟨⟨1, 2, ByteArray.empty⟩, 0, 0, 0⟩, 0, 0, 10, b⟩
theorem build_one (n v b : Int) (W : World) : ∀ (p q r : Value), p = .agg (encPt ⟨0, n⟩).toArray → q = .agg (encClm ⟨⟨1, 2, ByteArray.empty⟩, 0, 0, 0⟩).toArray → (Instr.build 63 #[(0, p), (1, .int .i64 v), (2, q), (5, .int .i64 10), (6, .int .i64 b)]).run Try.prog W = .ok (.agg (encInp (oneI n v b)).toArray) W := by
  rintro p q r rfl rfl
  kernel_rfl
theorem build_pt0 (n : Int) (W : World) : (Instr.build 57 #[(1, .int .i64 n)]).run Try.prog W = .ok (.agg (encPt ⟨0, n⟩).toArray) W := by kernel_rfl
theorem build_wit0 (W : World) : (Instr.build 59 #[(0, .int .i64 1), (1, .int .i64 2)]).run Try.prog W = .ok (.agg (encWit ⟨1, 2, ByteArray.empty⟩).toArray) W := by kernel_rfl
theorem build_clm0 (W : World) : (Instr.build 61 #[(0, .agg (encWit ⟨1, 2, ByteArray.empty⟩).toArray)]).run Try.prog W = .ok (.agg (encClm ⟨⟨1, 2, ByteArray.empty⟩, 0, 0, 0⟩).toArray) W := by kernel_rfl
set_option maxRecDepth 100000 in
set_option maxHeartbeats 400000 in
theorem one_law (n v b : Int) (w : World) :
    Calls Try.prog 24 #[.int .i64 n, .int .i64 v, .int .i64 b] w fun e w' => e = .returned (.agg (encInp (oneI n v b)).toArray) ∧ Below w.heap.size w w' := by
  go_enter Try.func24, Try.ntmps24
  go_wp2_with (first
      | (with_reducible refine at_alloc 63 rfl ?_; refine wpl_alloc_any rfl rfl z_rin ?_; intro cur hcur; (try simp only [Act.put, List.setIfInBounds_toArray, List.set_cons_zero, List.set_cons_succ, World.size_alloc]))
      | (with_reducible refine at_build 57 rfl ?_; refine wpl_build rfl rfl (build_pt0 n _) (by kernel_rfl) ?_; (try simp only [Act.put, List.setIfInBounds_toArray, List.set_cons_zero, List.set_cons_succ, World.size_alloc]))
      | (with_reducible refine at_build 59 rfl ?_; refine wpl_build rfl rfl (build_wit0 _) (by kernel_rfl) ?_; (try simp only [Act.put, List.setIfInBounds_toArray, List.set_cons_zero, List.set_cons_succ, World.size_alloc]))
      | (with_reducible refine at_build 61 rfl ?_; refine wpl_build rfl rfl (build_clm0 _) (by kernel_rfl) ?_; (try simp only [Act.put, List.setIfInBounds_toArray, List.set_cons_zero, List.set_cons_succ, World.size_alloc]))
      | (with_reducible refine at_build 63 rfl ?_; refine wpl_build rfl rfl (build_one n v b _ _ _ (.int .i64 0) rfl rfl) (by kernel_rfl) ?_; (try simp only [Act.put, List.setIfInBounds_toArray, List.set_cons_zero, List.set_cons_succ, World.size_alloc]))
      | (with_reducible refine at_store 63 rfl ?_; refine wpl_store_new (cs := encInp (oneI n v b)) rfl rfl rfl rfl (by simp) rfl sz_rin (encInp_length _) hcur rfl ?_; (try simp only [Act.put, List.setIfInBounds_toArray, List.set_cons_zero, List.set_cons_succ, World.size_alloc])))
  refine ret_agg (cs := encInp (oneI n v b)) rfl rfl rfl agg_rin (encInp_length _) (RowAt.new (by simp)) ⟨rfl, ?_⟩
  exact (Below.refl _ _).alloc (Nat.le_refl _) _

set_option maxRecDepth 100000 in
set_option maxHeartbeats 2000000 in
theorem mades_any (l : List Inp) (g n c : Nat) (hn : n ≤ 100) (w : World) (hl : l.length = n) (hr : RowAt w g 0 (l.flatMap encInp)) (hg : g < w.heap.size) :
    Calls Try.prog 19 #[.slice (some ⟨g, 0, none⟩) n c] w fun e w' => ∃ v, e = .returned v ∧ w'.ownsRow w.heap.size 93 44 v n (l.flatMap encInp) ∧ Below w.heap.size w w' := by
  have HL := hidI hl
  have HR := hidI (And.intro hr hg)
  clear hl hr hg
  go_enter Try.func19, Try.ntmps19
  go_wp2
  go_loopg [3, 4] n (fun q v i wr => ∃ k : Nat, k ≤ n ∧ n - k ≤ q ∧ i = .int .i64 k ∧ Hid (Below w.heap.size w wr) ∧ Hid (wr.ownsRow w.heap.size 93 44 v k ((l.take k).flatMap encInp)))
  case atStart => exact ⟨0, Nat.zero_le _, by omega, rfl, Below.refl _ _, World.ownsRow_nil _ _ _ _⟩
  case round =>
    obtain ⟨k, hk, hgk, rfl, HB, HO⟩ := hrel
    by_cases hlt : k < n
    · have hlt2 : k < l.length := by rw [HL.out]; exact hlt
      obtain ⟨x, hx⟩ : ∃ x, x = l[k] := ⟨_, rfl⟩
      have HROW := hidI (show RowAt wr g (k * 44) (encInp x) by rw [hx]; have := (RowAt.elem encInp_length HR.out.1 hlt2).below HB.out HR.out.2; rwa [Nat.zero_add] at this)
      have HTK := hidI (show (l.take (k + 1)).flatMap encInp = (l.take k).flatMap encInp ++ encInp x by rw [List.take_succ_eq_append_getElem hlt2, flat_snoc, ← hx])
      clear hx hlt2
      have hkz : (k : Int) < (n : Int) := by omega
      have hk0 : ¬ (k : Int) < 0 := by omega
      have HLB := hidI (show k + 1 ≤ maxLen ∧ (k + 1) * 136 ≤ 140737488355328 from ⟨le_maxLen (by omega), by omega⟩)
      have HSZ := hidI (show ∀ w2, Below wr.heap.size wr w2 → w.heap.size ≤ (w2.alloc (.cells (encInp x).toArray 93)).heap.size from fun w2 h => by have := h.size; have := HB.out.size; simp only [World.size_alloc]; omega)
      have HOW := hidI (show ∀ w2, Below wr.heap.size wr w2 → (w2.alloc (.cells (encInp x).toArray 93)).ownsRow w.heap.size 93 44 u3 k ((l.take k).flatMap encInp) from fun w2 h => (own_ext HO.out h).alloc _)
      go_wp2_with (first
        | (with_reducible refine at_load 63 rfl ?_; refine wpl_load_agg (b := g) (cs := encInp x) rfl rfl rfl agg_rin (encInp_length x) (HROW.out) ?_; (try simp only [Act.put, List.setIfInBounds_toArray, List.set_cons_zero, List.set_cons_succ, World.size_alloc]))
        | (go_at_call 39; (with_reducible refine (made_any x _).mono ?_); rintro e w2 ⟨rfl, hb2⟩; have HB2 := hidI hb2; clear hb2)
        | (with_reducible refine at_buildSlice 41 rfl ?_; refine wpl_buildSlice_one (cs := encInp x) (n := 44) rfl rfl rfl sl_inp (le44) (pos44) rfl ?_; (try simp only [Act.put, List.setIfInBounds_toArray, List.set_cons_zero, List.set_cons_succ, World.size_alloc]))
        | (with_reducible refine at_bi .append rfl ?_; refine wpl_append (t := 41) rfl rfl w.heap.size 93 44 136 ap_inp (HOW.out w2 HB2.out) (news := encInp x) rfl rfl rfl (RowAt.new (by simp)) (encInp_one x) (HLB.out.1) (HLB.out.2) (HSZ.out w2 HB2.out) ?_; intro vl' w4 hown hgrow hmov; (try simp only [Act.put, List.setIfInBounds_toArray, List.set_cons_zero, List.set_cons_succ, World.size_alloc]); have HAP := hidI (And.intro hown hgrow); clear hown hgrow hmov))
      go_roundg (n - (k + 1))
      case measure => omega
      case rel =>
        have hE : Below w.heap.size w (w2.alloc (.cells (encInp x).toArray 93)) := (HB.out.trans (HB2.out.mono HB.out.size)).alloc (by have := HB2.out.size; have := HB.out.size; omega) _
        exact ⟨k + 1, by omega, by omega, by go_num, ext_grow hE (HSZ.out w2 HB2.out) HAP.out.2 (fun j hj => (HO.out.lt j hj).1), hidI (by rw [HTK.out]; exact HAP.out.1)⟩
    · have hke : k = n := by omega
      subst hke
      have hkz : ¬ (k : Int) < (k : Int) := by omega
      go_wp2
      go_ret
      have h := HO.out
      rw [List.take_of_length_le (by rw [HL.out]; exact Nat.le_refl _)] at h
      exact ⟨_, rfl, h, HB.out⟩

set_option maxRecDepth 100000 in
set_option maxHeartbeats 400000 in
theorem mades_nil  (w : World) :
    Calls Try.prog 19 #[.slice none 0 0] w fun e w' => e = .returned (.slice none 0 0) ∧ w = w' := by
  go_enter Try.func19, Try.ntmps19
  go_wp2
  go_loopg [3, 4] 0 (fun q v i wr => v = .slice none 0 0 ∧ i = .int .i64 0 ∧ wr = w)
  case atStart => exact ⟨rfl, rfl, rfl⟩
  case round =>
    obtain ⟨rfl, rfl, rfl⟩ := hrel
    go_wp2
    go_ret
    exact ⟨rfl, rfl⟩


end Go.Proofs.Ytjlledljancafaa
