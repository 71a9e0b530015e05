/- awake of coraclelaw17. -/
import Derived.Test.YtjlledljancafaaPM
import Derived.Test.YtjlledljancafaaAN
import Derived.Test.YtjlledljancafaaLW
import Derived.Deep.Cut
set_option linter.unusedSimpArgs false
set_option linter.unusedVariables false
namespace Go.Proofs.Ytjlledljancafaa
open Go.RowKit Go.XB

theorem fold_size (f : Value × Nat → Nat) : ∀ (l : List (Value × Nat)) (cur : Array Value), (l.foldl (fun a p => a.setIfInBounds (f p) p.1) cur).size = cur.size
  | [], _ => rfl
  | p :: l, cur => by rw [List.foldl_cons, fold_size f l]; simp
theorem run_buildSlice_two {P : Program} {t e : TypeId} {n : Nat} (h : sliceB P t e n = true) (hn : n ≤ 8388608) (hn0 : 0 < n) {cs ds : List Value} (hl : cs.length = n) (hl2 : ds.length = n) (w : World) :
    (Instr.buildSlice t 2 #[(0, .agg cs.toArray), (1, .agg ds.toArray)]).run P w = .ok (.slice (some ⟨w.heap.size, 0, none⟩) 2 2) (w.alloc (.cells (cs ++ ds).toArray e)) := by
  obtain ⟨hu, i, z, hi, hz, hzs, his⟩ := sliceB_spec h
  have hset : ∀ (k : Nat) (xs : List Value) (cur : Array Value), k + xs.length ≤ cur.size → (xs.toArray.zipIdx.foldl (fun (a : Array Value) (p : Value × Nat) => a.setIfInBounds (k + p.2) p.1) cur).toList = cur.toList.take k ++ xs ++ cur.toList.drop (k + xs.length) := by
    intro k xs cur h
    rw [← Array.foldl_toList]
    simp only [Array.toList_zipIdx]
    have : ∀ (xs : List Value) (j : Nat) (cur : Array Value), k + j + xs.length ≤ cur.size → ((xs.zipIdx j).foldl (fun (a : Array Value) (p : Value × Nat) => a.setIfInBounds (k + p.2) p.1) cur).toList = cur.toList.take (k + j) ++ xs ++ cur.toList.drop (k + j + xs.length) := by
      intro xs
      induction xs with
      | nil => intro j cur _; simp
      | cons c cs ih =>
        intro j cur h
        simp only [List.length_cons] at h
        simp only [List.zipIdx_cons, List.foldl_cons]
        rw [ih (j + 1) _ (by simp; omega)]
        simp only [Array.toList_setIfInBounds, List.length_cons]
        rw [List.take_set, List.drop_set]
        have hk : k + j < cur.toList.length := by simp; omega
        have e1 : (cur.toList.take (k + (j + 1))).set (k + j) c = cur.toList.take (k + j) ++ [c] := by
          rw [show k + (j + 1) = (k + j) + 1 by omega, List.take_succ_eq_append_getElem hk, List.set_append]
          simp
          rw [if_neg (by omega)]
          have : k + j - min (k + j) cur.size = 0 := by have : k + j < cur.size := by simpa using hk
                                                        omega
          rw [this]
          rfl
        rw [e1, if_pos (by omega), show k + (j + 1) + cs.length = k + j + (cs.length + 1) by omega]
        simp only [List.append_assoc, List.singleton_append, List.cons_append, List.nil_append]
    have h9 := this xs 0 cur (by omega)
    simp only [Nat.add_zero] at h9
    exact h9
  have hfill : ∀ cur : Array Value, cur.size = 2 * n → Instr.fill (fun j => some (j * n, n)) cur [(0, Value.agg cs.toArray), (1, Value.agg ds.toArray)] = some (cs ++ ds).toArray := by
    intro cur hc
    unfold Instr.fill
    simp only [Nat.zero_mul, Value.cells, List.size_toArray]
    rw [if_neg (by simp; omega)]
    unfold Instr.fill
    simp only [Nat.one_mul, Value.cells, List.size_toArray]
    rw [if_neg (by
      have hz := fold_size (fun p => p.2) cs.zipIdx cur
      simp
      omega)]
    unfold Instr.fill
    congr 1
    apply Array.ext'
    have h1 := hset 0 cs cur (by omega)
    obtain ⟨c1, hc1⟩ : ∃ c1, c1 = cs.toArray.zipIdx.foldl (fun (a : Array Value) (p : Value × Nat) => a.setIfInBounds (0 + p.2) p.1) cur := ⟨_, rfl⟩
    rw [← hc1] at h1
    have hs1 : c1.size = 2 * n := by
      rw [← Array.length_toList, h1]
      simp only [List.length_append, List.length_take, List.length_drop, Array.length_toList]
      omega
    have h2 := hset n ds c1 (by omega)
    refine (Eq.trans ?_ h2).trans ?_
    · rw [hc1]
    · rw [h1]
      simp only [List.take_zero, List.nil_append, Nat.zero_add]
      rw [List.take_append, List.drop_append]
      rw [List.take_of_length_le (by omega), hl, Nat.sub_self, List.take_zero, List.append_nil, List.drop_of_length_le (by omega), List.nil_append, List.drop_drop, List.drop_of_length_le (by simp; omega), List.append_nil]
  have h1 : ¬ (2 * n > 2 ^ 24) := by omega
  have h2 : ¬ (2 * n = 0) := by omega
  have hsz : ((Array.range (2 * n)).map (z.cells[· % z.cells.size]!)).size = 2 * n := by simp
  have hf := hfill _ hsz
  simp only [Instr.buildSlice, Sem.run_bind, run_underlying hu, Result.andThen_ok, sizeOf, typeInfo, run_program, hi, his, Sem.run_pure, if_neg h1, if_neg h2, zeroValue, hz, hf, newRow, newObj, Sem.run]
  rfl
theorem wpl_buildSlice_two {P : Program} {ops : Array Oper} {rest : List Oper} {o : Oper} {a : Act} {w : World} {Q : Exit → Act → World → Prop} (hgd : o.guard = none) {t e : TypeId} {n : Nat} {x y : Operand} (ho : o.op = .buildSlice t 2 #[(0, x), (1, y)])
    {cs ds : List Value} (hx : a.eval x = .agg cs.toArray) (hy : a.eval y = .agg ds.toArray) (h : sliceB P t e n = true) (hn : n ≤ 16777216) (hn0 : 0 < n) (hl : cs.length = n) (hl2 : ds.length = n)
    (hk : wpList P ops Q rest (a.put o.dst (.slice (some ⟨w.heap.size, 0, none⟩) 2 2)) (w.alloc (.cells (cs ++ ds).toArray e))) (hn3 : n ≤ 8388608 := by decide) : wpList P ops Q (o :: rest) a w :=
  wpList_plain hgd fun _ hK => op_run (by
    unfold execOp
    simp only [ho, List.map_toArray, List.map_cons, List.map_nil, hx, hy, Sem.run_bind, run_buildSlice_two h hn3 hn0 hl hl2 w, Result.andThen_ok, Sem.run_pure]) (hK _ _ hk)
/- -/
def two : List Inp := [oneI 1 100000 50000, oneI 2 100000 50000]
theorem two_like : Likes 10 two := by
  intro i hi
  rcases List.mem_cons.1 hi with rfl | hi
  · exact ⟨1, 0, 0, rfl, by decide, by decide, by decide, by decide, by decide, by decide⟩
  · rcases List.mem_cons.1 hi with rfl | hi
    · exact ⟨2, 0, 0, rfl, by decide, by decide, by decide, by decide, by decide, by decide⟩
    · cases hi
theorem two_dup : dupB (two.map fun i => i.pt) = false := by kernel_rfl
theorem two_ripe (i : Inp) (h : i ∈ two) : outI 5 i = false := by
  have hc := like_check (two_like i h) (by decide) (by decide)
  rcases List.mem_cons.1 h with rfl | hi
  · unfold outI; rw [hc]; rfl
  · rcases List.mem_cons.1 hi with rfl | hi
    · unfold outI; rw [hc]; rfl
    · cases hi
theorem two_all : (allE two 5 400000 1).2 = 0 ∧ ∃ b : Bat, (allE two 5 400000 1).1 = [b] ∧ b.ins.length = 2 := by
  have h := likes_allE (next := 5) (key := 1) two_like (by decide) (by decide) (by decide) two_dup (by decide) (by decide)
  have hf : (two.filter fun x => !outI 5 x) = two := List.filter_eq_self.2 (fun i hi => by rw [two_ripe i hi]; rfl)
  rw [hf, if_neg (by decide)] at h
  obtain ⟨h1, b, h2, h3, _⟩ := h
  exact ⟨h1, b, h2, h3⟩
theorem three_all : allE (two ++ [oneI 1 100000 50000]) 5 400000 1 = ([], 6) := allE_dup (by decide) (by decide) (by kernel_rfl)

theorem two_flat : two.flatMap encInp = (encInp (oneI 1 100000 50000)) ++ (encInp (oneI 2 100000 50000)) := by unfold two; simp
def zeroI : Inp := ⟨⟨0, 0⟩, 0, ⟨⟨0, 0, ByteArray.empty⟩, 0, 0, 0⟩, 0, 0, 0, 0⟩
theorem build_zero (W : World) : (Instr.build 93 #[]).run Try.prog W = .ok (.agg (encInp zeroI).toArray) W := by kernel_rfl
theorem zero_check : checkE zeroI = 1 := by kernel_rfl
theorem three_call {wD : World} {B : Nat} {v5 : Value} (hown : wD.ownsRow B 93 44 v5 (2 + 1) (two.flatMap encInp ++ (encInp (oneI 1 100000 50000)))) : ∃ g5 c5, v5 = .slice (some ⟨g5, 0, none⟩) 3 c5 ∧ Calls Try.prog 18 #[.slice (some ⟨g5, 0, none⟩) 3 c5, .int .i64 5, .int .i64 400000, .int .i64 1] wD (AllQ wD ([], 6)) := by
  obtain ⟨g5, c5, hv5, _, hlt, _, hr5⟩ := own_row hown (by decide)
  refine ⟨g5, c5, hv5, ?_⟩
  have h := all_dup (two ++ [oneI 1 100000 50000]) g5 3 c5 5 400000 1 (by decide) (by decide) (by kernel_rfl) wD rfl (by rw [flat_snoc]; exact hr5) hlt
  rwa [three_all] at h
set_option maxRecDepth 100000 in
set_option maxHeartbeats 4000000 in
theorem awake_any (w : World) : Calls Try.prog 17 #[] w fun e w' => e = .returned (.bool true) ∧ Below w.heap.size w w' := by
  have HMD := hidI (show ∀ w2 : World, Calls Try.prog 19 #[.slice (some ⟨w2.heap.size, 0, none⟩) 2 2] (w2.alloc (.cells ((encInp (oneI 1 100000 50000)) ++ (encInp (oneI 2 100000 50000))).toArray 63)) fun e w' => ∃ v, e = .returned v ∧ w'.ownsRow (w2.alloc (.cells ((encInp (oneI 1 100000 50000)) ++ (encInp (oneI 2 100000 50000))).toArray 63)).heap.size 93 44 v 2 (two.flatMap encInp) ∧ Below (w2.alloc (.cells ((encInp (oneI 1 100000 50000)) ++ (encInp (oneI 2 100000 50000))).toArray 63)).heap.size (w2.alloc (.cells ((encInp (oneI 1 100000 50000)) ++ (encInp (oneI 2 100000 50000))).toArray 63)) w' from fun w2 => mades_any two w2.heap.size 2 2 (by decide) _ rfl (by rw [two_flat]; exact RowAt.new (by simp only [List.drop_zero]; exact List.take_of_length_le (by simp))) (by simp))
  go_enter Try.func17, Try.ntmps17
  go_upto_region 2 with (first
    | (go_at_call 24; (with_reducible refine (one_law 1 100000 50000 _).mono ?_); rintro e w1 ⟨rfl, hb1⟩; have HB1 := hidI hb1; clear hb1)
    | (go_at_call 24; (with_reducible refine (one_law 2 100000 50000 _).mono ?_); rintro e w2 ⟨rfl, hb2⟩; have HB2 := hidI hb2; clear hb2)
    | (with_reducible refine at_buildSlice 36 rfl ?_; refine wpl_buildSlice_two (cs := encInp (oneI 1 100000 50000)) (ds := encInp (oneI 2 100000 50000)) (n := 44) rfl rfl rfl rfl sl_rin (le44) (pos44) rfl rfl ?_; (try simp only [Act.put, List.setIfInBounds_toArray, List.set_cons_zero, List.set_cons_succ, World.size_alloc]))
    | (go_at_call 19; (with_reducible refine (HMD.out w2).mono ?_); rintro e w3 ⟨v, rfl, ho, hb3⟩; have HO := hidI ho; have HB3 := hidI hb3; clear ho hb3))
  have hs1 := HB1.out.size
  have hs2 := HB2.out.size
  have HBA := hidI (show Below w.heap.size w w3 from ((HB1.out.trans (HB2.out.mono hs1)).alloc (by omega) _).trans (HB3.out.mono (by simp only [World.size_alloc]; omega)))
  have HOA := hidI (show w3.ownsRow w.heap.size 93 44 v 2 (two.flatMap encInp) from own_mono HO.out (by simp only [World.size_alloc]; omega))
  obtain ⟨gv, cv, hv, hgv1, hgv2, hcv, hrv⟩ := own_row HOA.out (by decide)
  obtain ⟨curv, hcurv⟩ := own_type HOA.out (by decide) hv
  have HRV := hidI (And.intro hrv hcurv)
  subst hv
  clear HB1 HB2 HB3 HO hs1 hs2 hrv hcurv HMD
  have HA1 := hidI (show Calls Try.prog 18 #[.slice (some ⟨gv, 0, none⟩) 2 cv, .int .i64 5, .int .i64 400000, .int .i64 1] w3 (AllQ w3 (allE two 5 400000 1)) from all_ok two gv 2 cv 5 400000 1 (by decide) (by decide) two_dup w3 rfl HRV.out.1 hgv2)
  have HA2 := hidI (show ∀ W : World, Calls Try.prog 18 #[.slice (some ⟨gv, 0, none⟩) 2 cv, .int .i64 (-1), .int .i64 400000, .int .i64 1] W (AllQ W ([], 1)) from fun W => by
    have h := all_arg two (some ⟨gv, 0, none⟩) 2 cv (-1) 400000 1 (by decide) W
    rwa [allE_arg (by decide)] at h)
  obtain ⟨hE0, bt, hE1, hE2⟩ := two_all
  have hE : allE two 5 400000 1 = ([bt], 0) := by rw [← hE1, ← hE0]
  rw [hE] at HA1
  have HBT := hidI hE2
  clear hE hE0 hE1 hE2
  go_upto_region 4 with (first
    | (go_at_call 18; (with_reducible refine (HA1.out).mono ?_); rintro e wB ⟨v1, xs1, rfl, hb, ho, hba⟩; have HQ1 := hidI (And.intro hb (And.intro ho hba)); clear hb ho hba)
    | (go_at_call 18; (with_reducible refine (HA2.out wB).mono ?_); rintro e wC ⟨v2, xs2, rfl, hb, ho, hba⟩; have HQ2 := hidI (And.intro hb (And.intro ho hba)); clear hb ho hba))
  have hEC : Below w3.heap.size w3 wC := HQ1.out.1.trans (HQ2.out.1.mono HQ1.out.1.size)
  have HOC := hidI (own_ext HOA.out hEC)
  have HEC := hidI hEC
  have HRC := hidI (show RowAt wC gv 0 (encInp (oneI 1 100000 50000)) from by
    have h := HRV.out.1.below hEC hgv2
    rw [two_flat] at h
    exact RowAt.sub (pre := []) h)
  have HSC := hidI (show w.heap.size ≤ (wC.alloc (.cells (encInp (oneI 1 100000 50000)).toArray 93)).heap.size by have := hEC.size; have := HBA.out.size; simp only [World.size_alloc]; omega)
  have HLB := hidI (show 2 + 1 ≤ maxLen ∧ (2 + 1) * 136 ≤ 140737488355328 from ⟨le_maxLen (by decide), by decide⟩)
  obtain ⟨gb, cb, hv1, hgb1, hgb2, hcb, hrb⟩ := own_row HQ1.out.2.1 (by simp)
  obtain ⟨curb, hcurb⟩ := own_type HQ1.out.2.1 (by simp) hv1
  subst hv1
  have HGB := hidI (And.intro hrb (And.intro hgb2 hcurb))
  clear hEC hrb hcurb HA1 HA2
  go_upto_region 6 with (first
    | (with_reducible refine at_load 93 rfl ?_; refine wpl_load_agg (b := gv) (cs := (encInp (oneI 1 100000 50000))) rfl rfl rfl agg_inp (encInp_length _) (HRC.out) ?_; (try simp only [Act.put, List.setIfInBounds_toArray, List.set_cons_zero, List.set_cons_succ, World.size_alloc]))
    | (with_reducible refine at_buildSlice 41 rfl ?_; refine wpl_buildSlice_one (cs := (encInp (oneI 1 100000 50000))) (n := 44) rfl rfl rfl sl_inp (le44) (pos44) rfl ?_; (try simp only [Act.put, List.setIfInBounds_toArray, List.set_cons_zero, List.set_cons_succ, World.size_alloc]))
    | (with_reducible refine at_bi .append rfl ?_; refine wpl_append (t := 41) rfl rfl w.heap.size 93 44 136 ap_inp (HOC.out.alloc _) (news := (encInp (oneI 1 100000 50000))) rfl rfl rfl (RowAt.new (by simp)) (encInp_one _) (HLB.out.1) (HLB.out.2) (HSC.out) ?_; intro v5 wD hown hgrow hmov; obtain ⟨g5, c5, hv5, hA3⟩ := three_call hown; subst hv5; have HA3 := hidI hA3; have HAP := hidI (And.intro hown hgrow); clear hown hgrow hmov hA3; (try simp only [Act.put, List.setIfInBounds_toArray, List.set_cons_zero, List.set_cons_succ, World.size_alloc]))
    | (go_at_call 18; (with_reducible refine (HA3.out).mono ?_); rintro e wE ⟨v4, xs4, rfl, hb, ho, hba⟩; have HQ3 := hidI (And.intro hb (And.intro ho hba)); clear hb ho hba)
    | (go_at_call 34; (with_reducible refine (make_nil 300 1 _).mono ?_); rintro e wF ⟨cs, rfl, hc1, hc2, hbF, _⟩; have HQF := hidI (And.intro hc1 (And.intro hc2 hbF)); clear hc1 hc2 hbF)
    | (with_reducible refine at_alloc 49 rfl ?_; refine wpl_alloc_any rfl rfl z_bat ?_; intro cur hcur; (try simp only [Act.put, List.setIfInBounds_toArray, List.set_cons_zero, List.set_cons_succ, World.size_alloc]))
    | (with_reducible refine at_store 49 rfl ?_; refine wpl_store_new (cs := cs) rfl rfl rfl rfl (by simp) rfl sz_bat HQF.out.1 hcur HQF.out.2.1 ?_; (try simp only [Act.put, List.setIfInBounds_toArray, List.set_cons_zero, List.set_cons_succ, World.size_alloc])))
  have hX : (wF.alloc (.cells cs.toArray 49)).heap[gb]? = wB.heap[gb]? := by
    have h1 := HQ2.out.1.block gb HGB.out.2.1
    have h2 : gb < wC.heap.size := Nat.lt_of_lt_of_le HGB.out.2.1 HQ2.out.1.size
    have h3 : wD.heap[gb]? = wC.heap[gb]? := (grown_block HAP.out.2 (by simp only [World.size_alloc]; omega) (own_other (HOC.out.alloc (.cells (encInp (oneI 1 100000 50000)).toArray 93)) (b := gb) (c := curb) (T := 49) (fr := (0, 0)) ((Below.heap_alloc wC _ _ h2).trans (h1.trans HGB.out.2.2)) (by decide))).trans (Below.heap_alloc wC _ _ h2)
    have h4 : gb < wD.heap.size := by have := HAP.out.2.size; simp only [World.size_alloc] at this; omega
    have h5 := HQ3.out.1.block gb h4
    have h6 : gb < wE.heap.size := Nat.lt_of_lt_of_le h4 HQ3.out.1.size
    have h7 := HQF.out.2.2.block gb h6
    have h8 : gb < wF.heap.size := Nat.lt_of_lt_of_le h6 HQF.out.2.2.size
    rw [Below.heap_alloc wF _ _ h8, h7, h5, h3, h1]
  have HXC := hidI (show ∃ g1 c1, (wF.alloc (.cells cs.toArray 49)).cell? ⟨gb, 0, none⟩ = some (.slice (some ⟨g1, 0, none⟩) 2 c1) from by
    obtain ⟨css, hc1, hc2, _, hc4⟩ := HQ1.out.2.2
    obtain ⟨cs0, hcs, g1, c1, g2, c2, e1, _⟩ := hc4 0 (by simp)
    have hx : xs1[0]? = some (.slice (some ⟨g1, 0, none⟩) 2 c1) := by
      rw [hc2]
      cases css with
      | nil => simp at hc1
      | cons a r =>
        simp only [List.getElem?_cons_zero, Option.some.injEq] at hcs
        subst hcs
        rw [List.flatten_cons, e1]
        show some (Value.slice (some ⟨g1, 0, none⟩) bt.ins.length c1) = _
        rw [HBT.out]
    exact ⟨g1, c1, RowAt.cell0 (HGB.out.1.mono hX) 0 hx⟩)
  obtain ⟨g1, c1, hq⟩ := HXC.out
  have HBL := hidI (show Below w.heap.size w (wF.alloc (.cells cs.toArray 49)) from by
    have h1 : Below w.heap.size w wC := HBA.out.trans (HEC.out.mono HBA.out.size)
    have h2 : Below w.heap.size w wD := ext_grow (h1.alloc h1.size _) HSC.out HAP.out.2 (fun k hk => (HOC.out.lt k hk).1)
    have h3 := h2.trans (HQ3.out.1.mono h2.size)
    have h4 := h3.trans (HQF.out.2.2.mono h3.size)
    exact h4.alloc h4.size _)
  clear hX
  go_wp2_with (first
    | (with_reducible refine at_build 93 rfl ?_; refine wpl_build rfl rfl (build_zero _) (by kernel_rfl) ?_; (try simp only [Act.put, List.setIfInBounds_toArray, List.set_cons_zero, List.set_cons_succ, World.size_alloc]))
    | (go_at_call 35; refine (check_any zeroI _).mono ?_; rintro e wG ⟨rfl, hbk⟩; rw [zero_check]; have HBK := hidI hbk; clear hbk))
  go_ret
  exact ⟨rfl, HBL.out.trans (HBK.out.mono HBL.out.size)⟩

end Go.Proofs.Ytjlledljancafaa
