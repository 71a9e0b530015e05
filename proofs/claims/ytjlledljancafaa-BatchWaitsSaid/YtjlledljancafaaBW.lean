/- BatchWaits: the walk. -/
import Derived.Test.YtjlledljancafaaAW
set_option linter.unusedSimpArgs false
set_option linter.unusedVariables false
namespace Go.Proofs.Ytjlledljancafaa
open Go.RowKit Go.XB

theorem wpl_max3 {P : Program} {ops : Array Oper} {rest : List Oper} {o : Oper} {a : Act} {w : World} {Q : Exit → Act → World → Prop} (hgd : o.guard = none) {x y z : Operand} {ts : Array TypeId} (ho : o.op = .call { callee := .builtin .max, args := #[x, y, z], argTypes := ts })
    {p q r : Int} (hx : a.eval x = .int .i64 p) (hy : a.eval y = .int .i64 q) (hz : a.eval z = .int .i64 r) (h : wpList P ops Q rest (a.put o.dst (.int .i64 (max (max p q) r))) w) : wpList P ops Q (o :: rest) a w :=
  wpList_plain hgd fun _ hK => by
    refine op_run (v := .int .i64 (max (max p q) r)) (w' := w) ?_ (hK _ _ h)
    unfold execOp
    simp only [ho, resolve, invoke, builtin, Sem.run_bind, Sem.run_pure, Result.andThen_ok, List.map_toArray, List.map_cons, List.map_nil, hx, hy, hz, run_max3]
theorem lockA_snoc : ∀ (l : List Inp) (y : Inp) (s : Int), lockA (l ++ [y]) s = max (lockA l s) y.clm.lock
  | [], y, s => rfl
  | x :: l, y, s => by
    show lockA (l ++ [y]) (max s x.clm.lock) = max (lockA l (max s x.clm.lock)) y.clm.lock
    exact lockA_snoc l y _
def m50 (z : Int) : Int := z.tmod 50 % 50
theorem tmod_bd (z : Int) : -49 ≤ z.tmod 50 ∧ z.tmod 50 ≤ 49 := by
  have h1 := Int.tmod_lt_of_pos z (show (0 : Int) < 50 by decide)
  have h2 := Int.lt_tmod_of_pos z (show (0 : Int) < 50 by decide)
  omega
theorem m50_bd (z : Int) : 0 ≤ m50 z ∧ m50 z ≤ 49 := by
  unfold m50
  omega
def waitL (ls ws : List Int) (n : Nat) : List Inp := (List.range n).map fun (k : Nat) => likeI 100 (k : Int) (m50 (ls.getD k 0)) (m50 (ws.getD k 0))
theorem waitL_like (ls ws : List Int) (n : Nat) (hn : n ≤ 20) : Likes 100 (waitL ls ws n) := by
  intro i hi
  obtain ⟨k, hk, rfl⟩ := List.mem_map.1 hi
  have hk := List.mem_range.1 hk
  have h1 := m50_bd (ls.getD k 0)
  have h2 := m50_bd (ws.getD k 0)
  exact ⟨k, _, _, rfl, by omega, by omega, by omega, by omega, by omega, by omega⟩
theorem like_pt_ne {D n m a b c d : Int} (h : n ≠ m) : ptEq (likeI D n a b).pt (likeI D m c d).pt = false := by
  unfold ptEq likeI
  simp only
  have : (n == m) = false := by simpa using h
  rw [this, Bool.and_false]
theorem waitL_dup (ls ws : List Int) (n : Nat) : dupB ((waitL ls ws n).map fun i => i.pt) = false := by
  rw [dup_pair]
  unfold waitL
  rw [List.map_map, List.pairwise_map]
  refine List.Pairwise.imp (fun {a b} (h : a < b) => ?_) List.pairwise_lt_range
  exact like_pt_ne (by omega)
theorem waits_call {LL : List Inp} {k : Nat} {next : Int} {W : World} {v : Value} {B : Nat} (h0 : 0 < k) (h1 : k ≤ 20) (hl : LL.length = k) (hd : dupB (LL.map fun i => i.pt) = false) (hn : inB next 0 1000000 = true) (ho : W.ownsRow B 93 44 v k (LL.flatMap encInp)) :
    ∃ g5 c5, v = .slice (some ⟨g5, 0, none⟩) k c5 ∧ Calls Try.prog 18 #[.slice (some ⟨g5, 0, none⟩) k c5, .int .i64 next, .int .i64 400000, .int .i64 1] W (AllQ W (allE LL next 400000 1)) := by
  obtain ⟨g5, c5, hv, _, hlt, _, hr⟩ := own_row ho h0
  exact ⟨g5, c5, hv, all_ok LL g5 k c5 next 400000 1 (by rw [hn]; rfl) h1 hd W hl hr hlt⟩
theorem waits_order {LL : List Inp} {k m : Nat} {next : Int} {W : World} {v : Value} {B : Nat} (h0 : 0 < k) (h1 : k ≤ 20) (hl : LL.length = k) (hm : (orderL next LL).length = m) (ho : W.ownsRow B 93 44 v k (LL.flatMap encInp)) :
    ∃ g6 c6, v = .slice (some ⟨g6, 0, none⟩) k c6 ∧ Calls Try.prog 26 #[.slice (some ⟨g6, 0, none⟩) k c6, .int .i64 next] W (fun e w' => ∃ gO cO, e = .returned (.slice (some ⟨gO, 0, none⟩) m cO) ∧ Below W.heap.size W w') := by
  obtain ⟨g5, c5, hv, _, hlt, _, hr⟩ := own_row ho h0
  refine ⟨g5, c5, hv, (order_small LL g5 0 k c5 next h1 W hl hr).mono ?_⟩
  rintro e w' ⟨g, c', tl, rfl, _, _, _, hb⟩
  exact ⟨g, c', by rw [hm], hb⟩
theorem own_zero {W : World} {B : Nat} {T : TypeId} {s : Nat} {v : Value} {xs : List Value} (ho : W.ownsRow B T s v 0 xs) : ∃ a c, v = .slice a 0 c := by
  rcases ho.2 with ⟨h, _⟩ | ⟨g, cap, cur, h, _⟩
  · exact ⟨none, 0, h⟩
  · exact ⟨_, cap, h⟩
theorem first_bat {W : World} {B base : Nat} {v : Value} {xs : List Value} {b : Bat} {m : Nat} {L0 : Int} (ho : W.ownsRow B 49 5 v [b].length xs) (hba : BatsAt base W [b] xs) (hm : b.ins.length = m) (hl : b.lock = L0) :
    ∃ ga ca, v = .slice (some ⟨ga, 0, none⟩) 1 ca ∧ ∃ g9 c9, W.cell? ⟨ga, 0, none⟩ = some (.slice (some ⟨g9, 0, none⟩) m c9) ∧ W.cell? ⟨ga, 2, none⟩ = some (.int .i64 L0) := by
  obtain ⟨ga, ca, hv, _, _, _, hr⟩ := own_row ho (by simp)
  obtain ⟨css, hc1, hc2, _, hc4⟩ := hba
  obtain ⟨cs0, hcs, g1, c1, g2, c2, e1, _⟩ := hc4 0 (by simp)
  have hx : xs = cs0 := by
    rw [hc2]
    match css, hc1, hcs with
    | [a], _, hcs => simpa using hcs
  rw [hx, e1] at hr
  exact ⟨ga, ca, hv, g1, c1, by rw [← hm]; exact RowAt.cell0 hr 0 rfl, by rw [← hl]; exact RowAt.cell0 hr 2 rfl⟩
set_option maxRecDepth 100000 in
set_option maxHeartbeats 4000000 in
theorem waits_out (a1 a2 : Option Addr) (n1 c1 n2 c2 : Nat) (next : Int) (h : 20 < min n1 n2 ∨ next < 1 ∨ 60 < next) (w : World) :
    Calls Try.prog 7 #[.slice a1 n1 c1, .slice a2 n2 c2, .int .i64 next] w fun e w' => e = .returned (.bool true) ∧ Below w.heap.size w w' := by
  by_cases q1 : 20 < min n1 n2
  · have q : decide ((20 : Int) < min (n1 : Int) (n2 : Int)) = true := by simp; omega
    clear h
    go_enter Try.func7, Try.ntmps7
    go_wp2_with (first
      | (go_at_call 17; (with_reducible refine (awake_any _).mono ?_); rintro e wz ⟨rfl, hbz⟩)
      | (with_reducible refine at_bi .min rfl ?_; refine wpl_min2 rfl rfl rfl rfl ?_; (try simp only [Act.put, List.setIfInBounds_toArray, List.set_cons_zero, List.set_cons_succ, World.size_alloc])))
    go_ret
    exact ⟨rfl, hbz⟩
  · have q : decide ((20 : Int) < min (n1 : Int) (n2 : Int)) = false := by simp; omega
    by_cases q2 : next < 1
    · have q3 : decide (next < 1) = true := by simpa using q2
      clear h q1
      go_enter Try.func7, Try.ntmps7
      go_wp2_with (first
        | (go_at_call 17; (with_reducible refine (awake_any _).mono ?_); rintro e wz ⟨rfl, hbz⟩)
        | (with_reducible refine at_bi .min rfl ?_; refine wpl_min2 rfl rfl rfl rfl ?_; (try simp only [Act.put, List.setIfInBounds_toArray, List.set_cons_zero, List.set_cons_succ, World.size_alloc])))
      go_ret
      exact ⟨rfl, hbz⟩
    · have q3 : decide (next < 1) = false := by simpa using q2
      have q4 : decide (60 < next) = true := by simp; omega
      clear h q1 q2
      go_enter Try.func7, Try.ntmps7
      go_wp2_with (first
        | (go_at_call 17; (with_reducible refine (awake_any _).mono ?_); rintro e wz ⟨rfl, hbz⟩)
        | (with_reducible refine at_bi .min rfl ?_; refine wpl_min2 rfl rfl rfl rfl ?_; (try simp only [Act.put, List.setIfInBounds_toArray, List.set_cons_zero, List.set_cons_succ, World.size_alloc])))
      go_ret
      exact ⟨rfl, hbz⟩
set_option maxRecDepth 100000 in
set_option maxHeartbeats 4000000 in
theorem waits_in (ls ws : List Int) (b1 o1 c1 b2 o2 c2 n1 n2 n : Nat) (next : Int) (hn : n = min n1 n2) (h0 : 0 < n) (h1 : n ≤ 20) (h2 : 1 ≤ next) (h3 : next ≤ 60) (w : World) (hl1 : ls.length = n1) (hl2 : ws.length = n2) (hr1 : RowAt w b1 o1 (ints ls)) (hr2 : RowAt w b2 o2 (ints ws)) (hb1 : b1 < w.heap.size) (hb2 : b2 < w.heap.size) :
    Calls Try.prog 7 #[.slice (some ⟨b1, o1, none⟩) n1 c1, .slice (some ⟨b2, o2, none⟩) n2 c2, .int .i64 next] w fun e w' => e = .returned (.bool true) ∧ Below w.heap.size w w' := by
  have hm : min (n1 : Int) (n2 : Int) = (n : Int) := by omega
  have q : decide ((20 : Int) < (n : Int)) = false := by simp; omega
  have q3 : decide (next < 1) = false := by simp; omega
  have q4 : decide (60 < next) = false := by simp; omega
  have HN := hidI (And.intro hn (And.intro hl1 hl2))
  have HR := hidI (And.intro hr1 (And.intro hr2 (And.intro hb1 hb2)))
  clear hn hl1 hl2 hr1 hr2 hb1 hb2
  go_enter Try.func7, Try.ntmps7
  go_wp2_with (first
    | (with_reducible refine at_bi .min rfl ?_; refine wpl_min2 rfl rfl rfl rfl ?_; rw [hm]; (try simp only [Act.put, List.setIfInBounds_toArray, List.set_cons_zero, List.set_cons_succ, World.size_alloc])))
  clear hm
  obtain ⟨LL, hLL⟩ : ∃ LL, LL = waitL ls ws n := ⟨_, rfl⟩
  have HLL := hidI hLL
  have HLN := hidI (show LL.length = n by rw [hLL]; simp [waitL])
  clear hLL
  go_loopg [8, 9, 10, 11] n (fun q v rp lk i wr => ∃ (k : Nat), k ≤ n ∧ n - k ≤ q ∧ i = .int .i64 k ∧ rp = .int .i64 (((LL.take k).filter fun x => !outI next x).length : Int) ∧ lk = .int .i64 (lockA ((LL.take k).filter fun x => !outI next x) 0) ∧ Hid (Below w.heap.size w wr) ∧ Hid (wr.ownsRow w.heap.size 63 44 v k ((LL.take k).flatMap encInp)))
  case atStart => exact ⟨0, Nat.zero_le _, by omega, rfl, rfl, rfl, Below.refl _ _, World.ownsRow_nil _ _ _ _⟩
  case round =>
    obtain ⟨k, hk, hgk, rfl, rfl, rfl, HB, HO⟩ := hrel
    by_cases hlt : k < n
    · have hkz : (k : Int) < (n : Int) := by omega
      have HS42 := hidI (show (encInp (oneI (k : Int) 100000 50000))[42]? = some (.int .i64 10) from rfl)
      have HS38 := hidI (show (encInp (oneI (k : Int) 100000 50000))[38]? = some (.int .i64 0) from rfl)
      have HS39 := hidI (show (encInp (oneI (k : Int) 100000 50000))[39]? = some (.int .i64 0) from rfl)
      have hk1 : k < ls.length := by have := HN.out; omega
      have hk2 : k < ws.length := by have := HN.out; omega
      obtain ⟨lk, hlk⟩ : ∃ z, z = ls.getD k 0 := ⟨_, rfl⟩
      obtain ⟨wk, hwk⟩ : ∃ z, z = ws.getD k 0 := ⟨_, rfl⟩
      have HC1 := hidI (show ∀ W, Below w.heap.size w W → W.cell? ⟨b1, o1 + k, none⟩ = some (.int .i64 lk) from fun W h => ((HR.out.1).below h HR.out.2.2.1) k _ (by rw [hlk]; simp [ints, List.getD, hk1]))
      have HC2 := hidI (show ∀ W, Below w.heap.size w W → W.cell? ⟨b2, o2 + k, none⟩ = some (.int .i64 wk) from fun W h => ((HR.out.2.1).below h HR.out.2.2.2) k _ (by rw [hwk]; simp [ints, List.getD, hk2]))
      obtain ⟨y, hy⟩ : ∃ y, y = likeI 100 (k : Int) (lk.tmod 50 % 50) (wk.tmod 50 % 50) := ⟨_, rfl⟩
      have HY := hidI (show LL[k]? = some y by rw [HLL.out, hy, hlk, hwk]; unfold waitL m50; rw [List.getElem?_map, List.getElem?_range hlt]; rfl)
      have HYE := hidI hy
      clear hlk hwk hy hk1 hk2
      obtain ⟨t1, t2⟩ := tmod_bd lk
      obtain ⟨t3, t4⟩ := tmod_bd wk
      have hkn1 : (k : Int) < (n1 : Int) := by have := HN.out; omega
      have hkn2 : (k : Int) < (n2 : Int) := by have := HN.out; omega
      go_upto_region 11 with (first
        | (go_at_call 24; (with_reducible refine (one_law (k : Int) 100000 50000 _).mono ?_); rintro e w2 ⟨rfl, hb2⟩; have HB2 := hidI hb2; clear hb2; have s42 := HS42.out; have s38 := HS38.out; have s39 := HS39.out)
        | (with_reducible refine at_alloc 63 rfl ?_; refine wpl_alloc_any rfl rfl z_rin ?_; intro cr hcr; (try simp only [Act.put, List.setIfInBounds_toArray, List.set_cons_zero, List.set_cons_succ, World.size_alloc]))
        | (with_reducible refine at_store 63 rfl ?_; refine wpl_store_new (cs := encInp (oneI (k : Int) 100000 50000)) rfl rfl rfl rfl (by simp) rfl sz_rin (encInp_length _) hcr rfl ?_; (try simp only [Act.put, List.setIfInBounds_toArray, List.set_cons_zero, List.set_cons_succ, World.size_alloc])))
      have hs2 := HB2.out.size
      have hBW : Below w.heap.size w (w2.alloc (.cells ((encInp (oneI (k : Int) 100000 50000)).set 42 (.int .i64 100)).toArray 63)) := (HB.out.trans (HB2.out.mono HB.out.size)).alloc (by have := HB.out.size; omega) _
      have hc1 := HC1.out _ hBW
      have hx38 : (w2.alloc (.cells ((encInp (oneI (k : Int) 100000 50000)).set 42 (.int .i64 100)).toArray 63)).cell? ⟨w2.heap.size, 38, none⟩ = some (.int .i64 0) := RowAt.cell0 (RowAt.whole (heap_alloc_new w2 _)) 38 rfl
      clear hBW s42 s38 s39
      go_upto_region 12 with (fail)
      clear hc1 hx38
      have hBW : Below w.heap.size w (w2.alloc (.cells (((encInp (oneI (k : Int) 100000 50000)).set 42 (.int .i64 100)).set 38 (.int .i64 (lk.tmod 50 % 50))).toArray 63)) := (HB.out.trans (HB2.out.mono HB.out.size)).alloc (by have := HB.out.size; omega) _
      have hc2 := HC2.out _ hBW
      have hx39 : (w2.alloc (.cells (((encInp (oneI (k : Int) 100000 50000)).set 42 (.int .i64 100)).set 38 (.int .i64 (lk.tmod 50 % 50))).toArray 63)).cell? ⟨w2.heap.size, 39, none⟩ = some (.int .i64 0) := RowAt.cell0 (RowAt.whole (heap_alloc_new w2 _)) 39 rfl
      clear hBW
      go_upto_region 13 with (fail)
      clear hc2 hx39
      have hl3 : ((((encInp (oneI (k : Int) 100000 50000)).set 42 (.int .i64 100)).set 38 (.int .i64 (lk.tmod 50 % 50))).set 39 (.int .i64 (wk.tmod 50 % 50))) = encInp y := by rw [HYE.out]; kernel_rfl
      obtain ⟨wX, hwX⟩ : ∃ wX, wX = w2.alloc (.cells ((((encInp (oneI (k : Int) 100000 50000)).set 42 (.int .i64 100)).set 38 (.int .i64 (lk.tmod 50 % 50))).set 39 (.int .i64 (wk.tmod 50 % 50))).toArray 63) := ⟨_, rfl⟩
      have HXR := hidI (show wX.heap[w2.heap.size]? = some (.cells (encInp y).toArray 63 (0, 0)) by rw [hwX, hl3]; exact heap_alloc_new w2 _)
      have hE2 : Below wr.heap.size wr wX := by rw [hwX]; exact HB2.out.alloc HB2.out.size _
      have HBX := hidI (HB.out.trans (hE2.mono HB.out.size))
      have HOX := hidI (own_ext HO.out hE2)
      have HUB := hidI (show u8.ownBlock ≠ some w2.heap.size from fun e => by have := (HO.out.lt _ e).2; have := HB2.out.size; omega)
      have HSX := hidI (show w.heap.size ≤ (wX.alloc (.cells (encInp y).toArray 63)).heap.size by have := HBX.out.size; simp only [World.size_alloc]; omega)
      have HLB := hidI (show k + 1 ≤ maxLen ∧ (k + 1) * 136 ≤ 140737488355328 from ⟨le_maxLen (by omega), by omega⟩)
      have HRY := hidI (show RowAt wX w2.heap.size 0 (encInp y) from RowAt.whole HXR.out)
      rw [← hwX]
      clear hwX hE2 hl3
      go_upto_region 14 with (first
        | (with_reducible refine at_load 63 rfl ?_; refine wpl_load_agg (b := w2.heap.size) (cs := encInp y) rfl rfl rfl agg_rin (encInp_length y) (HRY.out) ?_; (try simp only [Act.put, List.setIfInBounds_toArray, List.set_cons_zero, List.set_cons_succ, World.size_alloc]))
        | (with_reducible refine at_buildSlice 36 rfl ?_; refine wpl_buildSlice_one (cs := encInp y) (n := 44) rfl rfl rfl sl_rin (le44) (pos44) rfl ?_; (try simp only [Act.put, List.setIfInBounds_toArray, List.set_cons_zero, List.set_cons_succ, World.size_alloc]))
        | (with_reducible refine at_bi .append rfl ?_; refine wpl_append (t := 36) rfl rfl w.heap.size 63 44 136 ap_rin (HOX.out.alloc _) (news := encInp y) rfl rfl rfl (RowAt.new (by simp)) (encInp_one y) (HLB.out.1) (HLB.out.2) (HSX.out) ?_; intro vl' wD hown hgrow hmov; (try simp only [Act.put, List.setIfInBounds_toArray, List.set_cons_zero, List.set_cons_succ, World.size_alloc]); have HAP := hidI (And.intro hown hgrow); clear hown hgrow hmov))
      obtain ⟨ya, hya⟩ : ∃ z, z = lk.tmod 50 % 50 := ⟨_, rfl⟩
      obtain ⟨yb, hyb⟩ : ∃ z, z = wk.tmod 50 % 50 := ⟨_, rfl⟩
      rw [← hya, ← hyb] at HYE
      have hya2 : 0 ≤ ya ∧ ya ≤ 49 := by omega
      have hyb2 : 0 ≤ yb ∧ yb ≤ 49 := by omega
      have hwD : wX.heap.size ≤ wD.heap.size := by have := HAP.out.2.size; simp only [World.size_alloc] at this; omega
      have HRD := hidI (show RowAt wD w2.heap.size 0 (encInp y) from (HRY.out.alloc (.cells (encInp y).toArray 63)).mono (grown_block HAP.out.2 (by have := lt_of HXR.out; simp only [World.size_alloc]; omega) HUB.out))
      have q38 := RowAt.cell0 HRD.out 38 (show (encInp y)[38]? = some (.int .i64 ya) by rw [HYE.out]; rfl)
      have q39 := RowAt.cell0 HRD.out 39 (show (encInp y)[39]? = some (.int .i64 yb) by rw [HYE.out]; rfl)
      have HBD := hidI (show Below w.heap.size w wD from ext_grow (HBX.out.alloc HBX.out.size _) HSX.out HAP.out.2 (fun j hj => (HOX.out.lt j hj).1))
      have HTK := hidI (show (LL.take (k + 1)).flatMap encInp = (LL.take k).flatMap encInp ++ encInp y by
        have hkl : k < LL.length := by rw [HLN.out]; exact hlt
        have e : LL[k] = y := by have := HY.out; rw [List.getElem?_eq_getElem hkl] at this; exact Option.some.inj this
        rw [List.take_succ_eq_append_getElem hkl, flat_snoc, e])
      have HOD := hidI (show wD.ownsRow w.heap.size 63 44 vl' (k + 1) ((LL.take (k + 1)).flatMap encInp) by rw [HTK.out]; exact HAP.out.1)
      have HRP := hidI (show (!outI next y) = decide (max (max ya yb) 1 ≤ next) by
        have hL : Like 100 y := ⟨k, ya, yb, HYE.out, by omega, by omega, by omega, by omega, by omega, by omega⟩
        unfold outI
        rw [like_check hL (by decide) (by decide), HYE.out, like_ripe (by omega) (by omega) (by omega) (by omega)]
        simp)
      have HFT := hidI (show (LL.take (k + 1)).filter (fun x => !outI next x) = (LL.take k).filter (fun x => !outI next x) ++ (if (!outI next y) = true then [y] else []) by
        have hkl : k < LL.length := by rw [HLN.out]; exact hlt
        have e : LL[k] = y := by have := HY.out; rw [List.getElem?_eq_getElem hkl] at this; exact Option.some.inj this
        rw [filter_take hkl, e])
      obtain ⟨F, hF⟩ : ∃ F, F = (LL.take k).filter (fun x => !outI next x) := ⟨_, rfl⟩
      rw [← hF] at HFT
      simp only [← hF]
      have HF := hidI hF
      have hfl : F.length ≤ 20 := by rw [hF]; exact Nat.le_trans (List.length_filter_le _ _) (by rw [List.length_take]; omega)
      clear hF hya hyb t1 t2 t3 t4
      have HYL := hidI (show y.clm.lock = ya by rw [HYE.out]; rfl)
      go_wp2_with (first
        | (with_reducible refine at_bi .max rfl ?_; refine wpl_max3 rfl rfl rfl rfl rfl ?_; (try simp only [Act.put, List.setIfInBounds_toArray, List.set_cons_zero, List.set_cons_succ, World.size_alloc]))
        | (with_reducible refine at_bi .max rfl ?_; refine wpl_max2 rfl rfl rfl rfl ?_; (try simp only [Act.put, List.setIfInBounds_toArray, List.set_cons_zero, List.set_cons_succ, World.size_alloc])))
      · have hr : max (max ya yb) 1 ≤ next := by first | assumption | omega
        have HR2 := hidI (show (!outI next y) = true by rw [HRP.out]; simpa using hr)
        go_roundg (n - (k + 1))
        case measure => omega
        case rel => exact ⟨k + 1, by omega, by omega, by go_num, by rw [HFT.out, HR2.out, if_pos rfl, List.length_append]; simp, by rw [HFT.out, HR2.out, if_pos rfl, lockA_snoc, HYL.out], HBD.out, HOD.out⟩
      · have hr : ¬ max (max ya yb) 1 ≤ next := by first | assumption | omega
        have HR2 := hidI (show (!outI next y) = false by rw [HRP.out]; simpa using hr)
        go_roundg (n - (k + 1))
        case measure => omega
        case rel => exact ⟨k + 1, by omega, by omega, by go_num, by rw [HFT.out, HR2.out, if_neg (by simp), List.append_nil], by rw [HFT.out, HR2.out, if_neg (by simp), List.append_nil], HBD.out, HOD.out⟩
    · have hke : k = n := by omega
      subst hke
      obtain ⟨gl, cl, hv, hgl1, hgl2, hcl, hrl⟩ := own_row HO.out h0
      subst hv
      rw [List.take_of_length_le (by rw [HLN.out]; exact Nat.le_refl _)] at hrl ⊢
      have HM1 := hidI (show ∀ W, Below wr.heap.size wr W → Calls Try.prog 19 #[.slice (some ⟨gl, 0, none⟩) k cl] W (fun e w' => ∃ v, e = .returned v ∧ w'.ownsRow W.heap.size 93 44 v k (LL.flatMap encInp) ∧ Below W.heap.size W w') from fun W h => mades_any LL gl k cl (by omega) W HLN.out (hrl.below h hgl2) (Nat.lt_of_lt_of_le hgl2 h.size))
      have hLk := waitL_like ls ws k (by omega)
      have hLd := waitL_dup ls ws k
      rw [← HLL.out] at hLk hLd
      have hA := likes_allE (next := next) (key := 1) hLk (by decide) (by decide) (by rw [HLN.out]; omega) hLd (by decide) (inB_t (by omega))
      obtain ⟨R, hR⟩ : ∃ R, R = LL.filter (fun x => !outI next x) := ⟨_, rfl⟩
      have HRL := hidI (show R.length ≤ 20 by rw [hR]; exact Nat.le_trans (List.length_filter_le _ _) (by rw [HLN.out]; exact h1))
      have HOLN := hidI (show (orderL next LL).length = R.length by rw [orderL_length, hR])
      rw [← hR] at hA ⊢
      have hwc := fun (W : World) (v : Value) (B : Nat) (ho : W.ownsRow B 93 44 v k (LL.flatMap encInp)) => waits_call (next := next) h0 h1 HLN.out hLd (inB_t (show 0 ≤ next ∧ next ≤ 1000000 by omega)) ho
      have HWC := hidI hwc
      have HWO := hidI (fun (W : World) (v : Value) (B : Nat) (ho : W.ownsRow B 93 44 v k (LL.flatMap encInp)) => waits_order (next := next) h0 h1 HLN.out HOLN.out ho)
      have HSR := hidI HB.out.size
      have hkz : ¬ (k : Int) < (k : Int) := by omega
      have hrb := HRL.out
      obtain ⟨bs, hbs⟩ : ∃ bs, allE LL next 400000 1 = (bs, 0) := ⟨_, by rw [← hA.1]⟩
      rw [hbs] at hA HWC
      obtain ⟨L0, hL0⟩ : ∃ z, z = lockA R 0 := ⟨_, rfl⟩
      rw [← hL0]
      by_cases hz : R.length = 0
      · have hbn : bs = [] := by have := hA.2; rw [if_pos hz] at this; exact this
        rw [hbn] at HWC
        rw [hz] at HOLN HWO ⊢
        clear hA hbs hbn hz hR hL0 hwc hrl hLk hLd HO HN HR hlt hrb
        go_wp2_with (first
          | (go_at_call 19; (with_reducible refine (HM1.out wr (Below.refl _ _)).mono ?_); rintro e w1 ⟨v1, rfl, ho, hb⟩; obtain ⟨g5, c5, hv5, hA3⟩ := HWC.out _ _ _ ho; subst hv5; have HA3 := hidI hA3; have HBM := hidI hb; clear ho hb hA3)
          | (go_at_call 19; (with_reducible refine (HM1.out w3 HB3.out).mono ?_); rintro e w4 ⟨v4, rfl, ho, hb⟩; obtain ⟨g6, c6, hv6, hO4⟩ := HWO.out _ _ _ ho; subst hv6; have HO4 := hidI hO4; have HB4 := hidI (HB3.out.trans (hb.mono HB3.out.size)); clear ho hb hO4)
          | (go_at_call 18; (with_reducible refine (HA3.out).mono ?_); rintro e w3 ⟨v3, xs3, rfl, hb, ho, hba⟩; have HB3 := hidI (HBM.out.trans (hb.mono HBM.out.size)); obtain ⟨a3, c3, hv3⟩ := own_zero ho; subst hv3; clear hb ho hba)
          | (go_at_call 26; (with_reducible refine (HO4.out).mono ?_); rintro e w5 ⟨gO, cO, rfl, hb⟩; have HB5 := hidI (HB4.out.trans (hb.mono HB4.out.size)); clear hb)
          | (go_at_call 17; (with_reducible refine (awake_any _).mono ?_); rintro e wz ⟨rfl, hbz⟩; have HBF := hidI (HB.out.trans ((HB5.out.trans (hbz.mono HB5.out.size)).mono HSR.out)); clear hbz)
          | (with_reducible refine at_bi .min rfl ?_; refine wpl_min2 rfl rfl rfl rfl ?_; (try simp only [Act.put, List.setIfInBounds_toArray, List.set_cons_zero, List.set_cons_succ, World.size_alloc])))
        go_ret
        exact ⟨rfl, HBF.out⟩
      · have hbn := hA.2
        rw [if_neg hz] at hbn
        obtain ⟨b, hb1, hb2, hb3⟩ := hbn
        rw [show bs = [b] from hb1] at HWC
        have HBB := hidI (And.intro hb2 (hb3.trans hL0.symm))
        have hrz : ((R.length : Int) == 0) = false := by simp; intro h; exact hz (by rw [h]; rfl)
        have hrm : min (R.length : Int) 1 = 1 := by omega
        clear hA hbs hz hR hL0 hwc hrl hLk hLd HO HN HR hlt hb1 hb2 hb3
        go_wp2_with (first
          | (go_at_call 19; (with_reducible refine (HM1.out wr (Below.refl _ _)).mono ?_); rintro e w1 ⟨v1, rfl, ho, hb⟩; obtain ⟨g5, c5, hv5, hA3⟩ := HWC.out _ _ _ ho; subst hv5; have HA3 := hidI hA3; have HBM := hidI hb; clear ho hb hA3)
          | (go_at_call 19; (with_reducible refine (HM1.out w3 HB3.out).mono ?_); rintro e w4 ⟨v4, rfl, ho, hb⟩; obtain ⟨g6, c6, hv6, hO4⟩ := HWO.out _ _ _ ho; subst hv6; have HO4 := hidI hO4; have HB4 := hidI (HB3.out.trans (hb.mono HB3.out.size)); clear ho hb hO4)
          | (go_at_call 18; (with_reducible refine (HA3.out).mono ?_); rintro e w3 ⟨v3, xs3, rfl, hb, ho, hba⟩; have HB3 := hidI (HBM.out.trans (hb.mono HBM.out.size)); obtain ⟨ga, ca, hv3, g9, c9, q0, q2⟩ := first_bat ho hba HBB.out.1 HBB.out.2; subst hv3; clear hb ho hba)
          | (go_at_call 26; (with_reducible refine (HO4.out).mono ?_); rintro e w5 ⟨gO, cO, rfl, hb⟩; have HB5 := hidI (HB4.out.trans (hb.mono HB4.out.size)); clear hb)
          | (go_at_call 17; (with_reducible refine (awake_any _).mono ?_); rintro e wz ⟨rfl, hbz⟩; have HBF := hidI (HB.out.trans ((HB5.out.trans (hbz.mono HB5.out.size)).mono HSR.out)); clear hbz)
          | (with_reducible refine at_bi .min rfl ?_; refine wpl_min2 rfl rfl rfl rfl ?_; rw [hrm]; (try simp only [Act.put, List.setIfInBounds_toArray, List.set_cons_zero, List.set_cons_succ, World.size_alloc])))
        go_ret
        exact ⟨rfl, HBF.out⟩

end Go.Proofs.Ytjlledljancafaa
