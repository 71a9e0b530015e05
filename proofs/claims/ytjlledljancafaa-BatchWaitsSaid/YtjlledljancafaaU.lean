/- tx.Check. -/
import Derived.Test.YtjlledljancafaaU0
set_option linter.unusedSimpArgs false
set_option linter.unusedVariables false
namespace Go.Proofs.Ytjlledljancafaa
open Go.RowKit Go.XB

/-- an input that may be, and spends nothing that one ahead of it spends -/
def insOk : List TIn → List TIn → Bool
  | _, [] => true
  | done, x :: l => tinB x && decide (idxO (fun y => ptEq y.prev x.prev) done 0 < 0) && insOk (done ++ [x]) l
def outsOk (os : List TOut) : Bool := os.all fun o => scrB o.scr
def txE (ins : List TIn) (outs : List TOut) (lock : Int) : Int :=
  if 100 < ins.length ∨ 100 < outs.length then 3
  else if ins.length = 0 then 1
  else if insOk [] ins && outsOk outs && inB lock 0 1000000 then (totalA (outs.map fun o => o.value) 0).2 else 1
theorem txE_bad {ins : List TIn} {outs : List TOut} {lock : Int} (h1 : ins.length ≤ 100) (h2 : outs.length ≤ 100) (h : (insOk [] ins && outsOk outs && inB lock 0 1000000) = false) : txE ins outs lock = 1 := by
  unfold txE
  rw [if_neg (by omega)]
  split
  · rfl
  · rw [h]; rfl
theorem txE_good {ins : List TIn} {outs : List TOut} {lock : Int} (h1 : ins.length ≤ 100) (h2 : outs.length ≤ 100) (h0 : 0 < ins.length) (h : insOk [] ins = true) (h3 : outsOk outs = true) (h4 : inB lock 0 1000000 = true) : txE ins outs lock = (totalA (outs.map fun o => o.value) 0).2 := by
  unfold txE
  rw [if_neg (by omega), if_neg (by omega), h, h3, h4]; rfl
theorem insOk_drop {l : List TIn} {k : Nat} (h : k < l.length) : insOk (l.take k) (l.drop k) = (tinB l[k] && decide (idxO (fun y => ptEq y.prev l[k].prev) (l.take k) 0 < 0) && insOk (l.take (k + 1)) (l.drop (k + 1))) := by
  rw [List.drop_eq_getElem_cons h, List.take_succ_eq_append_getElem h]
  rfl
theorem outsOk_drop {l : List TOut} {k : Nat} (h : k < l.length) : outsOk (l.drop k) = (scrB l[k].scr && outsOk (l.drop (k + 1))) := by
  unfold outsOk
  rw [List.drop_eq_getElem_cons h, List.all_cons]
theorem outsOk_no {l : List TOut} {k : Nat} (h : outsOk (l.drop k) = false) : outsOk l = false := by
  unfold outsOk at h ⊢
  rw [← List.take_append_drop k l, List.all_append, h, Bool.and_false]
theorem build_tx1 (a1 : Option Addr) (n1 c1 : Nat) (W : World) : (Instr.build 47 #[(0, .slice a1 n1 c1)]).run Try.prog W = .ok (.agg #[.slice a1 n1 c1, .slice none 0 0, .int .i64 0]) W := by kernel_rfl
theorem run_cut_to {P : Program} {t e : TypeId} {g k n c : Nat} {i : TypeInfo} (hu : P.underlying t = some (.slice e)) (hi : P.info? e = some i) (hk : k ≤ c) (w : World) :
    (Instr.slice t (.slice (some ⟨g, 0, none⟩) n c) none (some (.int .i64 (k : Int))) none).run P w = .ok (.slice (some ⟨g, 0, none⟩) k c) w := by
  have h1 : (0 : Int) ≤ (k : Int) ∧ (k : Int) ≤ (c : Nat) := by omega
  simp only [Instr.slice, Sem.run_bind, run_underlying hu, Result.andThen_ok, Instr.sliceBounds, Sem.run_pure, Instr.sliceBound, asIntOf, if_pos h1, sizeOf, typeInfo, run_program, hi, Int.toNat_natCast, Nat.zero_mul, Nat.sub_zero, Option.map_some, Addr.add_lit, Nat.zero_add]
  split <;> simp [Addr.add_lit]
theorem exec_cut_to {P : Program} {ρ : Operand → Value} {o : Oper} {t e : TypeId} {x y : Operand} {g k n c m : Nat} (ho : o.op = .slice t x none (some y) none) (hx : ρ x = .slice (some ⟨g, 0, none⟩) n c) (hy : ρ y = .int .i64 (k : Int))
    (hu : sliceB P t e m = true) (hk : k ≤ c) (w : World) : (execOp ρ o).run P w = .ok (.value (.slice (some ⟨g, 0, none⟩) k c)) w := by
  obtain ⟨h1, i, z, hi, _⟩ := sliceB_spec hu
  unfold execOp
  simp only [ho, hx, hy, Option.map_some, Option.map_none, Instr.sliceAt, Instr.sureAddr, Sem.run_bind, run_underlying h1, run_cut_to h1 hi hk w, Result.andThen_ok, Sem.run_pure]

theorem z_out : zeroB Try.prog 55 39 = true := by kernel_rfl
theorem sz_out : (Try.prog.info? 55).map (·.size) = some 39 := by kernel_rfl
set_option maxRecDepth 100000 in
set_option maxHeartbeats 4000000 in
theorem check_tx (ins : List TIn) (outs : List TOut) (lock : Int) (g n c g2 n2 c2 : Nat) (h1 : n ≤ 100) (h2 : n2 ≤ 100) (h0 : 0 < n) (h3 : 0 < n2) (hnc : n ≤ c) (w : World) (hl : ins.length = n) (hl2 : outs.length = n2)
    (hr : RowAt w g 0 (ins.flatMap encTIn)) (hr2 : RowAt w g2 0 (outs.flatMap encTOut)) (hg : g < w.heap.size) (hg2 : g2 < w.heap.size) :
    Calls Try.prog 20 #[.agg #[.slice (some ⟨g, 0, none⟩) n c, .slice (some ⟨g2, 0, none⟩) n2 c2, .int .i64 lock]] w fun e w' => e = .returned (.int .i64 (txE ins outs lock)) ∧ Below w.heap.size w w' := by
  have HL := hidI (And.intro hl hl2)
  have HR := hidI (And.intro hr hr2)
  have HG := hidI (And.intro hg hg2)
  have HN := hidI hnc
  clear hl hl2 hr hr2 hg hg2 hnc
  have a1 : ¬ (100 : Int) < (n : Int) := by omega
  have a2 : ¬ (100 : Int) < (n2 : Int) := by omega
  have a3 : ((n : Int) == 0) = false := by simp; omega
  obtain ⟨i0, z, hi, hzA, hzB, hzC, hzD⟩ := zinfo_spec (P := Try.prog) (e := 3) (size := 1) (bytes := 8) (by kernel_rfl)
  have HE := hidI (fun h => txE_bad (ins := ins) (outs := outs) (lock := lock) (by rw [HL.out.1]; exact h1) (by rw [HL.out.2]; exact h2) h)
  go_enter Try.func20, Try.ntmps20
  go_wp2
  refine wp_scope_jumps 0 (fun a' w' => ∃ (u3 u4 u5 u6 u7 u8 u9 u10 u11 u12 u13 u14 u15 u16 u17 u18 u19 u20 u21 u22 u23 u24 u25 u26 u27 u28 u29 u30 u31 u32 u33 u34 u35 u36 u37 u38 u39 u40 u41 u42 u43 u44 u45 u46 u47 u48 u49 u50 u51 u52 u53 u54 u55 u56 u57 u58 u59 u60 u61 u62 u63 u64 u65 u66 u67 u68 u69 u70 u71 : Value), Hid (txE ins outs lock = 1 ∧ Below w.heap.size w w') ∧ a' = { tmps := List.toArray ((.agg #[.slice (some ⟨g, 0, none⟩) n c, .slice (some ⟨g2, 0, none⟩) n2 c2, .int .i64 lock]) :: (.pointer (some ⟨w.heap.size, 0, none⟩)) :: (.int .i64 0) :: u3 :: u4 :: u5 :: u6 :: u7 :: u8 :: u9 :: u10 :: u11 :: u12 :: u13 :: u14 :: u15 :: u16 :: u17 :: u18 :: u19 :: u20 :: u21 :: u22 :: u23 :: u24 :: u25 :: u26 :: u27 :: u28 :: u29 :: u30 :: u31 :: u32 :: u33 :: u34 :: u35 :: u36 :: u37 :: u38 :: u39 :: u40 :: u41 :: u42 :: u43 :: u44 :: u45 :: u46 :: u47 :: u48 :: u49 :: u50 :: u51 :: u52 :: u53 :: u54 :: u55 :: u56 :: u57 :: u58 :: u59 :: u60 :: u61 :: u62 :: u63 :: u64 :: u65 :: u66 :: u67 :: u68 :: u69 :: u70 :: u71 :: []), defers := [] }) (fun _ _ => 0) rfl ?_ ?_
  · go_wp2
    go_loopg [25] n (fun q i wr => ∃ k : Nat, k ≤ n ∧ n - k ≤ q ∧ i = .int .i64 k ∧ Hid (Ext (w.alloc (.cells #[.slice (some ⟨g, 0, none⟩) n c, .slice (some ⟨g2, 0, none⟩) n2 c2, .int .i64 lock] 47)) wr) ∧ Hid (insOk (ins.take k) (ins.drop k) = insOk [] ins))
    case atStart => exact ⟨0, Nat.zero_le _, by omega, rfl, Ext.refl _, rfl⟩
    case round =>
      obtain ⟨k, hk, hgk, rfl, HB, HT0⟩ := hrel
      have hzr : w.heap.size + 1 ≤ wr.heap.size := by have := HB.out.size; simpa using this
      by_cases hlt : k < n
      · have hlt2 : k < ins.length := by rw [HL.out.1]; exact hlt
        obtain ⟨x, hx⟩ : ∃ x, x = ins[k] := ⟨_, rfl⟩
        have hd := insOk_drop hlt2
        rw [HT0.out, ← hx] at hd
        have HD := hidI hd
        have HBW := hidI (show Below w.heap.size w wr from ((Below.refl _ _).alloc (Nat.le_refl _) _).trans (HB.out.mono (by simp)))
        have HROW := hidI (show RowAt wr g (k * 37) (encTIn x) by rw [hx]; have := (RowAt.elem encTIn_length HR.out.1 hlt2).below HBW.out HG.out.1; rwa [Nat.zero_add] at this)
        clear hd hx hlt2
        have hkz : (k : Int) < (n : Int) := by omega
        have hk0 : ¬ (k : Int) < 0 := by omega
        have HBX := hidI (show ∀ w1, Ext ((wr.alloc (.cells (encTIn x).toArray 65)).drew) w1 → RowAt w1 w.heap.size 0 [.slice (some ⟨g, 0, none⟩) n c, .slice (some ⟨g2, 0, none⟩) n2 c2, .int .i64 lock] from fun w1 h1 => by
          have h2 : Ext wr w1 := Below.trans (((Below.refl _ _).alloc (Nat.le_refl _) _).drew) (Below.mono h1 (by simp only [World.size_alloc, World.size_drew]; omega))
          exact RowAt.below (RowAt.below (B := w.heap.size + 1) (w := w.alloc (.cells #[.slice (some ⟨g, 0, none⟩) n c, .slice (some ⟨g2, 0, none⟩) n2 c2, .int .i64 lock] 47)) (RowAt.new (by rfl)) (by have h := HB.out; unfold Ext at h; simpa using h) (by omega)) h2 (by omega))
        have HB0 := hidI (show ∀ w1, Ext ((wr.alloc (.cells (encTIn x).toArray 65)).drew) w1 → Below w.heap.size w w1 from fun w1 h1 => HBW.out.trans ((Below.trans (((Below.refl _ _).alloc (Nat.le_refl _) _).drew) (Below.mono h1 (by simp only [World.size_alloc, World.size_drew]; omega))).mono HBW.out.size))
        have HK := hidI (show (ins.take k).length = k ∧ RowAt w g 0 ((ins.take k).flatMap encTIn) from ⟨by rw [List.length_take, HL.out.1]; omega, by
          have h := HR.out.1
          rw [← List.take_append_drop k ins, List.flatMap_append] at h
          exact RowAt.sub (pre := []) h⟩)
        cases ht : tinB x with
        | true =>
          have HT := hidI ht
          obtain ⟨ipos, hix⟩ : ∃ ipos, ipos = idxO (fun y => ptEq y.prev x.prev) (ins.take k) 0 := ⟨_, rfl⟩
          have HX := hidI hix.symm
          have hd2 := HD.out
          rw [ht, ← hix] at hd2
          clear ht hix HD
          have HD := hidI hd2
          clear hd2
          go_wp2_with (first
            | (with_reducible refine at_load 65 rfl ?_; refine wpl_load_agg (cs := encTIn x) rfl rfl rfl agg_in (encTIn_length x) (HROW.out) ?_; (try simp only [Act.put, List.setIfInBounds_toArray, List.set_cons_zero, List.set_cons_succ, World.size_alloc]))
            | (with_reducible refine at_alloc 65 rfl ?_; refine wpl_alloc_any rfl rfl z_in ?_; intro cx hcx; (try simp only [Act.put, List.setIfInBounds_toArray, List.set_cons_zero, List.set_cons_succ, World.size_alloc]))
            | (with_reducible refine at_store 65 rfl ?_; refine wpl_store_new (cs := encTIn x) rfl rfl rfl rfl (by simp) rfl sz_in (encTIn_length _) hcx rfl ?_; (try simp only [Act.put, List.setIfInBounds_toArray, List.set_cons_zero, List.set_cons_succ, World.size_alloc])))
          refine wp_region_p _ [[], [0], [1], [2], [3], [3, 4], [3], [3, 5, 6], [3, 7], [3], [3, 9], [3, 8, 10], [3, 11], [3, 12]] Ext (fun ix v w' => match ix with | 0 => v = .agg (encTIn x).toArray | 1 => v = .bool true | 2 => v = .bool false | 3 => v = .bool false | 4 => v = .pointer (some ⟨w.heap.size, 0, none⟩) | 5 => v = .slice (some ⟨g, 0, none⟩) n c | 6 => v = .int .i64 (k : Int) | 7 => v = .slice (some ⟨g, 0, none⟩) k c | 8 => v = .agg #[.slice (some ⟨g, 0, none⟩) k c, .slice none 0 0, .int .i64 0] | 9 => v = .pointer (some ⟨wr.heap.size, 0, none⟩) | 10 => v = .agg (encPt x.prev).toArray | 11 => v = .int .i64 ipos | 12 => v = .bool (decide (0 ≤ ipos)) | 13 => v = .bool (decide (0 ≤ ipos)) | _ => True) (by kernel_rfl) (by kernel_rfl) (by kernel_rfl) (by kernel_rfl) (fun vs => by simp only [putAll, Act.put, List.setIfInBounds_toArray, List.set_cons_zero, List.set_cons_succ]; rfl) (fun w => Ext.refl w) (fun _ _ _ h k => Ext.trans h k) ?stab ?steps ?fin
          case stab =>
            intro i v w1 w2 hv hr
            exact hv
          case steps =>
            simp only [StepAllP, List.headD, List.tail, AllV]
            refine ⟨?_, ?_, ?_, ?_, ?_, ?_, ?_, ?_, ?_, ?_, ?_, ?_, ?_, ?_, trivial⟩
            · intro vs w1 hR hp; have hcl := (bcell hR).1
              refine step_value (exec_load_agg rfl rfl agg_in (encTIn_length x) (RowAt.below (B := wr.heap.size + 1) (w := (wr.alloc (.cells (encTIn x).toArray 65)).drew) (RowAt.new (by kernel_rfl)) (by have h := hR; unfold Ext at h; simpa using h) (by omega))) (by rfl) (Ext.refl _) rfl
            · intro vs w1 hR hp; have hcl := (bcell hR).1; obtain ⟨p0, _⟩ := hp
              refine step_call (f := 40) (args := #[.agg (encTIn x).toArray]) (w' := w1) (by simp [go_sem, p0]) (by rfl) (in_tx _ _) (fun e w2 hc => ?_)
              obtain ⟨rfl, hb2⟩ := hc; exact ⟨_, rfl, hb2, by rw [HT.out]⟩
            · intro vs w1 hR hp; have hcl := (bcell hR).1; obtain ⟨p1, _⟩ := hp
              refine step_value (v := .bool false) (by simp [go_sem, hcl, p1]) (by rfl) (Ext.refl _) rfl
            · intro vs w1 hR hp; have hcl := (bcell hR).1; obtain ⟨p2, _⟩ := hp
              refine step_value (v := .bool false) (by simp [go_sem, hcl, p2]) (by rfl) (Ext.refl _) rfl
            · intro vs w1 hR hp; have hcl := (bcell hR).1; obtain ⟨p3, _⟩ := hp
              refine step_value (v := .pointer (some ⟨w.heap.size, 0, none⟩)) (by simp [go_sem, hcl, p3]) (by simp [Region.wanted, yielded, p3]) (Ext.refl _) rfl
            · intro vs w1 hR hp; have hcl := (bcell hR).1; obtain ⟨p3, p4, _⟩ := hp
              have q := HBX.out w1 hR 0 _ rfl
              simp only [Nat.add_zero, Nat.zero_add] at q
              refine step_value (v := .slice (some ⟨g, 0, none⟩) n c) (by simp [go_sem, q, p4]) (by simp [Region.wanted, yielded, p3]) (Ext.refl _) rfl
            · intro vs w1 hR hp; have hcl := (bcell hR).1; obtain ⟨p3, _⟩ := hp
              refine step_value (v := .int .i64 (k : Int)) (by simp [go_sem, hcl, p3]) (by simp [Region.wanted, yielded, p3]) (Ext.refl _) rfl
            · intro vs w1 hR hp; have hcl := (bcell hR).1; obtain ⟨p3, p5, p6, _⟩ := hp
              refine step_value (exec_cut_to (n := n) rfl (by simp [go_sem, p5]) (by simp [go_sem, p6]) sl_in (by have := HN.out; omega) w1) (by simp [Region.wanted, yielded, p3]) (Ext.refl _) rfl
            · intro vs w1 hR hp; have hcl := (bcell hR).1; obtain ⟨p3, p7, _⟩ := hp
              refine step_value (exec_build rfl (v := .agg #[.slice (some ⟨g, 0, none⟩) k c, .slice none 0 0, .int .i64 0]) ?_) (by simp [Region.wanted, yielded, p3]) (Ext.refl _) rfl
              simp only [List.map_toArray, List.map_cons, List.map_nil, go_sem, p7]
              exact build_tx1 _ _ _ w1
            · intro vs w1 hR hp; have hcl := (bcell hR).1; obtain ⟨p3, _⟩ := hp
              refine step_value (v := .pointer (some ⟨wr.heap.size, 0, none⟩)) (by simp [go_sem, hcl, p3]) (by simp [Region.wanted, yielded, p3]) (Ext.refl _) rfl
            · intro vs w1 hR hp; have hcl := (bcell hR).1; obtain ⟨p3, p9, _⟩ := hp
              refine step_value (exec_load_agg (b := wr.heap.size) (off := 0) rfl (by simp [go_sem, p9]) agg_pt (encPt_length x.prev) (RowAt.below (B := wr.heap.size + 1) (w := (wr.alloc (.cells (encTIn x).toArray 65)).drew) (RowAt.new (by kernel_rfl)) (by have h := hR; unfold Ext at h; simpa using h) (by omega))) (by simp [Region.wanted, yielded, p3]) (Ext.refl _) rfl
            · intro vs w1 hR hp; have hcl := (bcell hR).1; obtain ⟨p3, p8, p10, _⟩ := hp
              have hb0 := HB0.out w1 hR
              refine step_call (f := 25) (args := #[.agg #[.slice (some ⟨g, 0, none⟩) k c, .slice none 0 0, .int .i64 0], .agg (encPt x.prev).toArray]) (w' := w1) (by simp [go_sem, p8, p10]) (by simp [Region.wanted, yielded, p3]) (spends_any (ins.take k) x.prev g k c 0 0 none (.int .i64 0) (by omega) w1 (HK.out.1) ((HK.out.2).below hb0 HG.out.1) (Nat.lt_of_lt_of_le HG.out.1 hb0.size)) (fun e w2 hc => ?_)
              obtain ⟨rfl, hb2⟩ := hc
              exact ⟨_, rfl, hb2, by rw [HX.out]⟩
            · intro vs w1 hR hp; have hcl := (bcell hR).1; obtain ⟨p3, p11, _⟩ := hp
              refine step_value (v := .bool (decide (0 ≤ ipos))) (by simp [go_sem, hcl, p3, p11]) (by simp [Region.wanted, yielded, p3, p11]) (Ext.refl _) rfl
            · intro vs w1 hR hp; have hcl := (bcell hR).1; obtain ⟨p3, p12, _⟩ := hp
              refine step_value (v := .bool (decide (0 ≤ ipos))) (by simp [go_sem, hcl, p3, p12]) (by rfl) (Ext.refl _) rfl
          case fin =>
            simp only [List.length_cons, List.length_nil, Nat.reduceAdd, List.range_succ, List.range_zero, List.nil_append, List.cons_append, AllV]
            intro vs w1 hR hp
            obtain ⟨p0, p1, p2, p3, p4, p5, p6, p7, p8, p9, p10, p11, p12, p13, _⟩ := hp
            simp only [p0, p1, p2, p3, p4, p5, p6, p7, p8, p9, p10, p11, p12, p13]
            have HBE := hidI (show Ext (w.alloc (.cells #[.slice (some ⟨g, 0, none⟩) n c, .slice (some ⟨g2, 0, none⟩) n2 c2, .int .i64 lock] 47)) w1 from Ext.trans HB.out (Below.trans (((Below.refl _ _).alloc (Nat.le_refl _) _).drew) (Below.mono hR (by simp only [World.size_alloc, World.size_drew]; omega))))
            have HBL := hidI (HB0.out w1 hR)
            clear hR
            by_cases hz : ipos < 0
            · have hz1 : decide (0 ≤ ipos) = false := by simp; omega
              have hz2 : ¬ 0 ≤ ipos := by omega
              have HZ := hidI hz
              clear hz
              go_wp2
              go_roundg (n - (k + 1))
              case measure => omega
              case rel => exact ⟨k + 1, by omega, by omega, by go_num, HBE.out, by have := HD.out; rw [decide_eq_true HZ.out] at this; exact hidI (by simpa using this.symm)⟩
            · have hz1 : decide (0 ≤ ipos) = true := by simp; omega
              have hz2 : 0 ≤ ipos := by omega
              have HF := hidI (HE.out (by rw [HD.out, decide_eq_false hz]; simp))
              clear hz
              go_wp2
              go_step3
              simp only [Exit.inBlock, Exit.then, Exit.jump]
              refine ⟨rfl, _, _, _, _, _, _, _, _, _, _, _, _, _, _, _, _, _, _, _, _, _, _, _, _, _, _, _, _, _, _, _, _, _, _, _, _, _, _, _, _, _, _, _, _, _, _, _, _, _, _, _, _, _, _, _, _, _, _, _, _, _, _, _, _, _, _, _, _, _, ?_, rfl⟩
              exact ⟨HF.out, HBL.out⟩

        | false =>
          have HT := hidI ht
          have HF := hidI (HE.out (by rw [HD.out, ht]; simp))
          clear ht
          go_wp2_with (first
            | (with_reducible refine at_load 65 rfl ?_; refine wpl_load_agg (cs := encTIn x) rfl rfl rfl agg_in (encTIn_length x) (HROW.out) ?_; (try simp only [Act.put, List.setIfInBounds_toArray, List.set_cons_zero, List.set_cons_succ, World.size_alloc]))
            | (with_reducible refine at_alloc 65 rfl ?_; refine wpl_alloc_any rfl rfl z_in ?_; intro cx hcx; (try simp only [Act.put, List.setIfInBounds_toArray, List.set_cons_zero, List.set_cons_succ, World.size_alloc]))
            | (with_reducible refine at_store 65 rfl ?_; refine wpl_store_new (cs := encTIn x) rfl rfl rfl rfl (by simp) rfl sz_in (encTIn_length _) hcx rfl ?_; (try simp only [Act.put, List.setIfInBounds_toArray, List.set_cons_zero, List.set_cons_succ, World.size_alloc])))
          refine wp_region_p _ [[], [0], [1], [2], [3], [3, 4], [3], [3, 5, 6], [3, 7], [3], [3, 9], [3, 8, 10], [3, 11], [3, 12]] Ext (fun ix v w' => match ix with | 0 => v = .agg (encTIn x).toArray | 1 => v = .bool false | 2 => v = .bool true | 3 => v = .bool true | 4 => v = undef | 5 => v = undef | 6 => v = undef | 7 => v = undef | 8 => v = undef | 9 => v = undef | 10 => v = undef | 11 => v = undef | 12 => v = undef | 13 => v = .bool true | _ => True) (by kernel_rfl) (by kernel_rfl) (by kernel_rfl) (by kernel_rfl) (fun vs => by simp only [putAll, Act.put, List.setIfInBounds_toArray, List.set_cons_zero, List.set_cons_succ]; rfl) (fun w => Ext.refl w) (fun _ _ _ h k => Ext.trans h k) ?stab ?steps ?fin
          case stab =>
            intro i v w1 w2 hv hr
            exact hv
          case steps =>
            simp only [StepAllP, List.headD, List.tail, AllV]
            refine ⟨?_, ?_, ?_, ?_, ?_, ?_, ?_, ?_, ?_, ?_, ?_, ?_, ?_, ?_, trivial⟩
            · intro vs w1 hR hp; have hcl := (bcell hR).1
              refine step_value (exec_load_agg rfl rfl agg_in (encTIn_length x) (RowAt.below (B := wr.heap.size + 1) (w := (wr.alloc (.cells (encTIn x).toArray 65)).drew) (RowAt.new (by kernel_rfl)) (by have h := hR; unfold Ext at h; simpa using h) (by omega))) (by rfl) (Ext.refl _) rfl
            · intro vs w1 hR hp; have hcl := (bcell hR).1; obtain ⟨p0, _⟩ := hp
              refine step_call (f := 40) (args := #[.agg (encTIn x).toArray]) (w' := w1) (by simp [go_sem, p0]) (by rfl) (in_tx _ _) (fun e w2 hc => ?_)
              obtain ⟨rfl, hb2⟩ := hc; exact ⟨_, rfl, hb2, by rw [HT.out]⟩
            · intro vs w1 hR hp; have hcl := (bcell hR).1; obtain ⟨p1, _⟩ := hp
              refine step_value (v := .bool true) (by simp [go_sem, hcl, p1]) (by rfl) (Ext.refl _) rfl
            · intro vs w1 hR hp; have hcl := (bcell hR).1; obtain ⟨p2, _⟩ := hp
              refine step_value (v := .bool true) (by simp [go_sem, hcl, p2]) (by rfl) (Ext.refl _) rfl
            · intro vs w1 hR hp; have hcl := (bcell hR).1; obtain ⟨p3, _⟩ := hp
              refine step_not (by simp [Region.wanted, yielded, p3]) (by trivial)
            · intro vs w1 hR hp; have hcl := (bcell hR).1; obtain ⟨p3, p4, _⟩ := hp
              refine step_not (by simp [Region.wanted, yielded, p3, p4]) (by trivial)
            · intro vs w1 hR hp; have hcl := (bcell hR).1; obtain ⟨p3, _⟩ := hp
              refine step_not (by simp [Region.wanted, yielded, p3]) (by trivial)
            · intro vs w1 hR hp; have hcl := (bcell hR).1; obtain ⟨p3, p5, p6, _⟩ := hp
              refine step_not (by simp [Region.wanted, yielded, p3, p5, p6]) (by trivial)
            · intro vs w1 hR hp; have hcl := (bcell hR).1; obtain ⟨p3, p7, _⟩ := hp
              refine step_not (by simp [Region.wanted, yielded, p3, p7]) (by trivial)
            · intro vs w1 hR hp; have hcl := (bcell hR).1; obtain ⟨p3, _⟩ := hp
              refine step_not (by simp [Region.wanted, yielded, p3]) (by trivial)
            · intro vs w1 hR hp; have hcl := (bcell hR).1; obtain ⟨p3, p9, _⟩ := hp
              refine step_not (by simp [Region.wanted, yielded, p3, p9]) (by trivial)
            · intro vs w1 hR hp; have hcl := (bcell hR).1; obtain ⟨p3, p8, p10, _⟩ := hp
              refine step_not (by simp [Region.wanted, yielded, p3, p8, p10]) (by trivial)
            · intro vs w1 hR hp; have hcl := (bcell hR).1; obtain ⟨p3, p11, _⟩ := hp
              refine step_not (by simp [Region.wanted, yielded, p3, p11]) (by trivial)
            · intro vs w1 hR hp; have hcl := (bcell hR).1; obtain ⟨p3, p12, _⟩ := hp
              refine step_value (v := .bool true) (by simp [go_sem, hcl, p3, p12]) (by rfl) (Ext.refl _) rfl
          case fin =>
            simp only [List.length_cons, List.length_nil, Nat.reduceAdd, List.range_succ, List.range_zero, List.nil_append, List.cons_append, AllV]
            intro vs w1 hR hp
            obtain ⟨p0, p1, p2, p3, p4, p5, p6, p7, p8, p9, p10, p11, p12, p13, _⟩ := hp
            simp only [p0, p1, p2, p3, p4, p5, p6, p7, p8, p9, p10, p11, p12, p13]
            have HBL := hidI (HB0.out w1 hR)
            clear hR
            go_wp2
            go_step3
            simp only [Exit.inBlock, Exit.then, Exit.jump]
            refine ⟨rfl, _, _, _, _, _, _, _, _, _, _, _, _, _, _, _, _, _, _, _, _, _, _, _, _, _, _, _, _, _, _, _, _, _, _, _, _, _, _, _, _, _, _, _, _, _, _, _, _, _, _, _, _, _, _, _, _, _, _, _, _, _, _, _, _, _, _, _, _, _, ?_, rfl⟩
            exact ⟨HF.out, HBL.out⟩

      · have HIN := hidI (show insOk [] ins = true by rw [← HT0.out, List.drop_of_length_le (by rw [HL.out.1]; omega)]; rfl)
        clear HT0
        have q1 : wr.cell? ⟨w.heap.size, 1, none⟩ = some (.slice (some ⟨g2, 0, none⟩) n2 c2) := box_cell HB.out 1 rfl
        go_wp2
        clear q1
        go_loopg [48, 3] n2 (fun q i v wr => ∃ k : Nat, k ≤ n2 ∧ n2 - k ≤ q ∧ i = .int .i64 k ∧ Hid (Ext (w.alloc (.cells #[.slice (some ⟨g, 0, none⟩) n c, .slice (some ⟨g2, 0, none⟩) n2 c2, .int .i64 lock] 47)) wr) ∧ Hid (outsOk (outs.drop k) = outsOk outs) ∧ Hid (wr.ownsRow (w.heap.size + 1) 3 1 v k (ints ((outs.take k).map fun o => o.value))))
        case atStart => exact ⟨0, Nat.zero_le _, by omega, rfl, HB, rfl, World.ownsRow_nil _ _ _ _⟩
        case round =>
          clear HB
          obtain ⟨k, hk, hgk, rfl, HB, HT0, HO⟩ := hrel
          have hzr : w.heap.size + 1 ≤ wr.heap.size := by have := HB.out.size; simpa using this
          by_cases hlt : k < n2
          · have hlt2 : k < outs.length := by rw [HL.out.2]; exact hlt
            obtain ⟨y, hy⟩ : ∃ y, y = outs[k] := ⟨_, rfl⟩
            have hd := outsOk_drop hlt2
            rw [HT0.out, ← hy] at hd
            have HD := hidI hd
            have HBW := hidI (show Below w.heap.size w wr from ((Below.refl _ _).alloc (Nat.le_refl _) _).trans (HB.out.mono (by simp)))
            have HROW := hidI (show RowAt wr g2 (k * 39) (encTOut y) by rw [hy]; have := (RowAt.elem encTOut_length HR.out.2 hlt2).below HBW.out HG.out.2; rwa [Nat.zero_add] at this)
            have HTK := hidI (show ints ((outs.take (k + 1)).map fun o => o.value) = ints ((outs.take k).map fun o => o.value) ++ [.int .i64 y.value] by rw [List.take_succ_eq_append_getElem hlt2, List.map_append, hy]; simp [ints])
            clear hd hy hlt2
            have hkz : (k : Int) < (n2 : Int) := by omega
            have hk0 : ¬ (k : Int) < 0 := by omega
            have HCY := hidI (show ∀ w2, Below (wr.alloc (.cells (encTOut y).toArray 55)).heap.size (wr.alloc (.cells (encTOut y).toArray 55)) w2 → w2.cell? ⟨wr.heap.size, 0, none⟩ = some (.int .i64 y.value) from fun w2 h2 => box_cell h2 0 (show (encTOut y)[0]? = some (.int .i64 y.value) from rfl))
            have HB9 := hidI (show ∀ w2, Below (wr.alloc (.cells (encTOut y).toArray 55)).heap.size (wr.alloc (.cells (encTOut y).toArray 55)) w2 → Below w.heap.size w w2 from fun w2 h2 => HBW.out.trans ((Ext.trans ((Below.refl _ _).alloc (Nat.le_refl _) _) h2).mono HBW.out.size))
            cases ht : scrB y.scr with
            | true =>
              have HT := hidI ht
              have hd2 := HD.out
              rw [ht] at hd2
              clear ht HD
              have HD := hidI hd2
              clear hd2
              have HOW := hidI (show ∀ w2, Below (wr.alloc (.cells (encTOut y).toArray 55)).heap.size (wr.alloc (.cells (encTOut y).toArray 55)) w2 → (w2.alloc (.cells #[.int .i64 y.value] 3)).ownsRow (w.heap.size + 1) 3 1 u3 k (ints ((outs.take k).map fun o => o.value)) from fun w2 h2 => (own_ext (HO.out.alloc _) h2).alloc _)
              have HBN := hidI (show ∀ w2, Below (wr.alloc (.cells (encTOut y).toArray 55)).heap.size (wr.alloc (.cells (encTOut y).toArray 55)) w2 → Ext (w.alloc (.cells #[.slice (some ⟨g, 0, none⟩) n c, .slice (some ⟨g2, 0, none⟩) n2 c2, .int .i64 lock] 47)) (w2.alloc (.cells #[.int .i64 y.value] 3)) from fun w2 h2 => Ext.trans HB.out (Ext.trans ((Below.refl _ _).alloc (Nat.le_refl _) _) (Ext.trans h2 ((Below.refl _ _).alloc (Nat.le_refl _) _))))
              go_wp2_with (first
                | (with_reducible refine at_load 55 rfl ?_; refine wpl_load_agg (cs := encTOut y) rfl rfl rfl agg_out (encTOut_length y) (HROW.out) ?_; (try simp only [Act.put, List.setIfInBounds_toArray, List.set_cons_zero, List.set_cons_succ, World.size_alloc]))
                | (with_reducible refine at_alloc 55 rfl ?_; refine wpl_alloc_any rfl rfl z_out ?_; intro cy hcy; (try simp only [Act.put, List.setIfInBounds_toArray, List.set_cons_zero, List.set_cons_succ, World.size_alloc]))
                | (with_reducible refine at_store 55 rfl ?_; refine wpl_store_new (cs := encTOut y) rfl rfl rfl rfl (by simp) rfl sz_out (encTOut_length _) hcy rfl ?_; (try simp only [Act.put, List.setIfInBounds_toArray, List.set_cons_zero, List.set_cons_succ, World.size_alloc]))
                | (with_reducible refine at_load 53 rfl ?_; refine wpl_load_agg (b := wr.heap.size) (cs := encScr y.scr) rfl rfl rfl agg_scr (encScr_length y.scr) (RowAt.new (by kernel_rfl)) ?_; (try simp only [Act.put, List.setIfInBounds_toArray, List.set_cons_zero, List.set_cons_succ, World.size_alloc]))
                | (go_at_call 41; (with_reducible refine (script_tx y.scr _).mono ?_); rintro e w2 ⟨rfl, hb2⟩; rw [HT.out]; have HB2 := hidI hb2; have q0 := HCY.out w2 hb2; have hz2 : wr.heap.size + 1 ≤ w2.heap.size := (by have := hb2.size; simpa using this); clear hb2)
                | (at_builtin; refine wpList_append_own _ rfl _ _ 73 rfl (w.heap.size + 1) 3 i0 z 1 8 (by kernel_rfl) hi hzA hzB hzC hzD (by decide) _ _ _ rfl (HOW.out w2 HB2.out) ⟨w2.heap.size, 0, none⟩ 1 1 [.int .i64 y.value] rfl rfl ?c1 ?c2 ?c3 ?c4 ?c5 ?_))
              case c1 => exact fun j u hj => by rw [Addr.add_lit]; exact (RowAt.new (w := w2) (c := #[.int .i64 y.value]) (o := 0) (cs := [.int .i64 y.value]) (by rfl)) j u hj
              case c2 => intro u hu; simp only [List.mem_singleton] at hu; subst hu; rfl
              case c3 => unfold maxLen; omega
              case c4 => omega
              case c5 => simp only [World.size_alloc]; omega
              intro v' w3 hown hgrow _
              go_wp2
              go_roundg (n2 - (k + 1))
              case measure => omega
              case rel => exact ⟨k + 1, by omega, by omega, by go_num, hidI (ext_grow (HBN.out w2 HB2.out) (by simp only [World.size_alloc]; omega) hgrow (fun g hg => by have := HO.out.lt g hg; simp only [World.size_alloc]; omega)), hidI (by simpa using HD.out.symm), hidI (by rw [HTK.out, List.map_take]; exact hown)⟩
            | false =>
              have HT := hidI ht
              have HF := hidI (HE.out (by have h := HD.out; rw [ht] at h; rw [h]; simp))
              clear ht
              go_wp2_with (first
                | (with_reducible refine at_load 55 rfl ?_; refine wpl_load_agg (cs := encTOut y) rfl rfl rfl agg_out (encTOut_length y) (HROW.out) ?_; (try simp only [Act.put, List.setIfInBounds_toArray, List.set_cons_zero, List.set_cons_succ, World.size_alloc]))
                | (with_reducible refine at_alloc 55 rfl ?_; refine wpl_alloc_any rfl rfl z_out ?_; intro cy hcy; (try simp only [Act.put, List.setIfInBounds_toArray, List.set_cons_zero, List.set_cons_succ, World.size_alloc]))
                | (with_reducible refine at_store 55 rfl ?_; refine wpl_store_new (cs := encTOut y) rfl rfl rfl rfl (by simp) rfl sz_out (encTOut_length _) hcy rfl ?_; (try simp only [Act.put, List.setIfInBounds_toArray, List.set_cons_zero, List.set_cons_succ, World.size_alloc]))
                | (with_reducible refine at_load 53 rfl ?_; refine wpl_load_agg (b := wr.heap.size) (cs := encScr y.scr) rfl rfl rfl agg_scr (encScr_length y.scr) (RowAt.new (by kernel_rfl)) ?_; (try simp only [Act.put, List.setIfInBounds_toArray, List.set_cons_zero, List.set_cons_succ, World.size_alloc]))
                | (go_at_call 41; (with_reducible refine (script_tx y.scr _).mono ?_); rintro e w2 ⟨rfl, hb2⟩; rw [HT.out]; have HB2 := hidI hb2; have q0 := HCY.out w2 hb2; have hz2 : wr.heap.size + 1 ≤ w2.heap.size := (by have := hb2.size; simpa using this); clear hb2)
                | (at_builtin; refine wpList_append_own _ rfl _ _ 73 rfl (w.heap.size + 1) 3 i0 z 1 8 (by kernel_rfl) hi hzA hzB hzC hzD (by decide) _ _ _ rfl (HOW.out w2 HB2.out) ⟨w2.heap.size, 0, none⟩ 1 1 [.int .i64 y.value] rfl rfl ?c1 ?c2 ?c3 ?c4 ?c5 ?_))
              go_step3
              simp only [Exit.inBlock, Exit.then, Exit.jump]
              refine ⟨rfl, _, _, _, _, _, _, _, _, _, _, _, _, _, _, _, _, _, _, _, _, _, _, _, _, _, _, _, _, _, _, _, _, _, _, _, _, _, _, _, _, _, _, _, _, _, _, _, _, _, _, _, _, _, _, _, _, _, _, _, _, _, _, _, _, _, _, _, _, _, ?_, rfl⟩
              exact ⟨HF.out, HB9.out w2 HB2.out⟩
          · have hke : k = n2 := by omega
            subst hke
            have HOUT := hidI (show outsOk outs = true by rw [← HT0.out, List.drop_of_length_le (by rw [HL.out.2]; omega)]; rfl)
            have HTK := hidI (show (outs.take k).map (fun o => o.value) = outs.map (fun o => o.value) by rw [List.take_of_length_le (by rw [HL.out.2]; omega)])
            have HBW := hidI (show Below w.heap.size w wr from ((Below.refl _ _).alloc (Nat.le_refl _) _).trans (HB.out.mono (by simp)))
            have hkz : ¬ (k : Int) < (k : Int) := by omega
            clear HT0 hlt
            by_cases hk0 : k = 0
            · omega
            · obtain ⟨gv, cap, hv, _, hgl, _, hrow⟩ := own_row HO.out (by omega)
              subst hv
              rw [HTK.out] at hrow
              have HTO := hidI (show Calls Try.prog 43 #[.slice (some ⟨gv, 0, none⟩) k cap] wr fun e w' => e = .returned (.tuple #[.int .i64 (totalA (outs.map fun o => o.value) 0).1, .int .i64 (totalA (outs.map fun o => o.value) 0).2]) ∧ wr = w' by
                have h := total_amount (outs.map fun o => o.value) gv cap (by rw [List.length_map, HL.out.2]; omega) wr hrow
                rwa [List.length_map, HL.out.2] at h)
              clear hrow
              have q1 : wr.cell? ⟨w.heap.size, 2, none⟩ = some (.int .i64 lock) := box_cell HB.out 2 rfl
              cases hlk : inB lock 0 1000000 with
              | true =>
                have HK := hidI hlk
                have HG2 := hidI (txE_good (ins := ins) (outs := outs) (lock := lock) (by rw [HL.out.1]; exact h1) (by rw [HL.out.2]; exact h2) (by rw [HL.out.1]; exact h0) HIN.out HOUT.out hlk)
                clear hlk
                go_wp2_with (first
                  | (go_at_call 42; (with_reducible refine (within_tx _ _ _ _).mono ?_); rintro e w' ⟨rfl, rfl⟩; rw [HK.out])
                  | (go_at_call 43; (with_reducible refine (HTO.out).mono ?_); rintro e w' ⟨rfl, rfl⟩))
                simp only [Exit.jump]
                go_ret
                exact ⟨ret_int HG2.out.symm, HBW.out⟩
              | false =>
                have HK := hidI hlk
                have HF := hidI (HE.out (by rw [hlk]; simp))
                clear hlk
                go_wp2_with (first
                  | (go_at_call 42; (with_reducible refine (within_tx _ _ _ _).mono ?_); rintro e w' ⟨rfl, rfl⟩; rw [HK.out])
                  | (go_at_call 43; (with_reducible refine (HTO.out).mono ?_); rintro e w' ⟨rfl, rfl⟩))
                go_step3
                simp only [Exit.inBlock, Exit.then, Exit.jump]
                refine ⟨rfl, _, _, _, _, _, _, _, _, _, _, _, _, _, _, _, _, _, _, _, _, _, _, _, _, _, _, _, _, _, _, _, _, _, _, _, _, _, _, _, _, _, _, _, _, _, _, _, _, _, _, _, _, _, _, _, _, _, _, _, _, _, _, _, _, _, _, _, _, _, ?_, rfl⟩
                exact ⟨HF.out, HBW.out⟩
  · rintro a' w' ⟨u3, u4, u5, u6, u7, u8, u9, u10, u11, u12, u13, u14, u15, u16, u17, u18, u19, u20, u21, u22, u23, u24, u25, u26, u27, u28, u29, u30, u31, u32, u33, u34, u35, u36, u37, u38, u39, u40, u41, u42, u43, u44, u45, u46, u47, u48, u49, u50, u51, u52, u53, u54, u55, u56, u57, u58, u59, u60, u61, u62, u63, u64, u65, u66, u67, u68, u69, u70, u71, HB, rfl⟩
    go_wp2
    simp only [Exit.jump]
    go_ret
    exact ⟨ret_int (by rw [← HB.out.1]), HB.out.2⟩

end Go.Proofs.Ytjlledljancafaa
