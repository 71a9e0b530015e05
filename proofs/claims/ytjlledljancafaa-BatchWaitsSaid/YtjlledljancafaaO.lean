/- DeleteFunc of inputs. -/
import Derived.Test.YtjlledljancafaaN
import Derived.Test.YtjlledljancafaaO0
set_option linter.unusedSimpArgs false
set_option linter.unusedVariables false
namespace Go.Proofs.Ytjlledljancafaa
open Go.RowKit Go.XB

theorem idxO_no {α : Type} {p : α → Bool} : ∀ {l : List α} {m : Nat}, idxO p l m = -1 → l.filter (fun x => !p x) = l
  | [], _, _ => rfl
  | x :: l, m, h => by
    unfold idxO at h
    split at h
    · omega
    · rename_i hp
      rw [List.filter_cons, if_pos (by simpa using hp), idxO_no h]
theorem idxO_yes {α : Type} {p : α → Bool} : ∀ {l : List α} {m : Nat}, idxO p l m ≠ -1 → ∃ k, idxO p l m = ((m + k : Nat) : Int) ∧ k < l.length ∧ (l.take (k + 1)).filter (fun x => !p x) = l.take k
  | [], _, h => absurd rfl h
  | x :: l, m, h => by
    unfold idxO at h ⊢
    split
    · rename_i hp
      exact ⟨0, by simp, by simp, by simp [hp]⟩
    · rename_i hp
      rw [if_neg hp] at h
      obtain ⟨k, h1, h2, h3⟩ := idxO_yes h
      refine ⟨k + 1, by rw [h1]; congr 1; omega, by simp; omega, ?_⟩
      rw [List.take_succ_cons, List.filter_cons, if_pos (by simpa using hp), h3, List.take_succ_cons]
theorem filter_take {α : Type} {p : α → Bool} {l : List α} {j : Nat} (h : j < l.length) : (l.take (j + 1)).filter p = (l.take j).filter p ++ (if p l[j] = true then [l[j]] else []) := by
  rw [List.take_succ_eq_append_getElem h, List.filter_append]
  congr 1
  simp [List.filter_cons]
theorem take_set_one {α : Type} {l : List α} {i : Nat} (h : i < l.length) (x : α) : (l.set i x).take (i + 1) = l.take i ++ [x] := by
  rw [List.set_eq_take_append_cons_drop, if_pos h, List.take_append, List.take_of_length_le (by simp; omega), List.length_take, Nat.min_eq_left (by omega)]
  simp
theorem row_cut (dj : List Inp) (tl : List Value) (i n : Nat) (zs : List Value) (hi : i ≤ n) (hd : dj.length = n) :
    (dj.flatMap encInp ++ tl).take (i * 44) ++ zs ++ (dj.flatMap encInp ++ tl).drop (i * 44 + (n - i) * 44) = (dj.take i).flatMap encInp ++ (zs ++ tl) := by
  have e : i * 44 + (n - i) * 44 = n * 44 := by omega
  have hl : (dj.flatMap encInp).length = n * 44 := by rw [flat_length encInp_length, hd]
  have h1 : dj.flatMap encInp = (dj.take i).flatMap encInp ++ (dj.drop i).flatMap encInp := by rw [← List.flatMap_append, List.take_append_drop]
  have h2 : ((dj.take i).flatMap encInp).length = i * 44 := by rw [flat_length encInp_length, List.length_take, Nat.min_eq_left (by omega)]
  rw [e, List.drop_left' hl, List.append_assoc]
  congr 1
  rw [h1, List.append_assoc, List.take_left' h2]
/-- a store into an element of a row of the call's own -/
theorem wpl_store_row {P : Program} {ops : Array Oper} {rest : List Oper} {o : Oper} {a : Act} {w : World} {Q : Exit → Act → World → Prop} (hgd : o.guard = none) (hdst : o.dst = none) {ty e : TypeId} {x y : Operand} (ho : o.op = .store ty x y)
    {g i : Nat} {z : Inp} {l : List Inp} {tl : List Value} (hx : a.eval x = .pointer (some ⟨g, i * 44, none⟩)) (hy : a.eval y = .agg (encInp z).toArray) (hi : (P.info? ty).map (·.size) = some 44)
    (hg : RowB w g e (l.flatMap encInp ++ tl)) (hlt : i < l.length) (h : wpList P ops Q rest a (w.setRow g ((l.set i z).flatMap encInp ++ tl).toArray)) : wpList P ops Q (o :: rest) a w :=
  wpList_plain hgd fun _ hK => by
    have hle : (i + 1) * 44 ≤ l.length * 44 := Nat.mul_le_mul_right 44 hlt
    refine op_store_agg ho hx hy hi (encInp_length z) hg (by rw [encInp_length]; simp [flat_length encInp_length]; omega) (encInp_one z) ?_
    rw [hdst]
    show _
    have e1 := flat_set encInp_length hlt z tl
    have e2 : (((l.flatMap encInp ++ tl).toArray.toList.take (i * 44) ++ encInp z ++ (l.flatMap encInp ++ tl).toArray.toList.drop (i * 44 + (encInp z).length)).toArray) = ((l.set i z).flatMap encInp ++ tl).toArray := by rw [← e1]
    rw [e2]
    exact hK _ _ h
/-- clear of what lies behind an index -/
theorem wpl_clear {P : Program} {ops : Array Oper} {rest : List Oper} {o : Oper} {a : Act} {w : World} {Q : Exit → Act → World → Prop} (hgd : o.guard = none) (hdst : o.dst = none) {x : Operand} {t e tt : TypeId} (ho : o.op = .call { callee := .builtin .clear, args := #[x], argTypes := #[t] })
    {g off n c s : Nat} {cs : List Value} (hx : a.eval x = .slice (some ⟨g, off, none⟩) n c) (hu : P.underlying t = some (.slice e)) (hz : zeroOk P e s = true) (hs : 0 < s) (hn : 0 < n) (hg : RowB w g tt cs) (hfit : off + n * s ≤ cs.length)
    (h : ∀ zs : List Value, zs.length = n * s → wpList P ops Q rest a (w.setRow g (cs.take off ++ zs ++ cs.drop (off + n * s)).toArray)) : wpList P ops Q (o :: rest) a w :=
  wpList_plain hgd fun _ hK => by
    obtain ⟨zs, hzl, hr⟩ := run_clear_agg (ty := o.type) (c := c) hu hz hs hn hg hfit
    refine op_run (v := .tuple #[]) (w' := w.setRow g (cs.take off ++ zs ++ cs.drop (off + n * s)).toArray) ?_ (by rw [hdst]; exact hK _ _ (h zs hzl))
    unfold execOp
    simp only [ho, resolve, Sem.run_bind, Sem.run_pure, Result.andThen_ok, invoke, builtin, List.map_toArray, List.map_cons, List.map_nil, hx]
    first | exact hr | simp only [hr, Result.andThen_ok, Sem.run_pure]
theorem zok_inp : zeroOk Try.prog 93 44 = true := by kernel_rfl

theorem index_any' (l : List Inp) (g n c nb : Nat) (next : Int) (hn2 : n ≤ 1000000) (w : World) (hl : l.length = n) (hr : RowAt w g 0 (l.flatMap encInp)) (hg : g < w.heap.size) (hn : RowAt w nb 0 [.int .i64 next]) (hnb : nb < w.heap.size) :
    Calls Try.prog 68 #[.slice (some ⟨g, 0, none⟩) n c, .func (.func 50) #[] #[.pointer (some ⟨nb, 0, none⟩)]] w fun e w' => e = .returned (.int .i64 (idxO (outI next) l 0)) ∧ Below w.heap.size w w' := index_any l g n c nb next hn2 w hl hr hg hn hnb
set_option maxRecDepth 100000 in
set_option maxHeartbeats 4000000 in
theorem delete_any (l : List Inp) (tl : List Value) (t g n c nb : Nat) (next : Int) (hn2 : n ≤ 1000000) (hnc : n ≤ c) (w : World) (hl : l.length = n) (hw0 : RowB w g t (l.flatMap encInp ++ tl)) (hn : RowAt w nb 0 [.int .i64 next]) (hnb : nb < w.heap.size) (hne : nb ≠ g) :
    Calls Try.prog 48 #[.slice (some ⟨g, 0, none⟩) n c, cloO nb] w fun e w' => ∃ tl2 : List Value, e = .returned (.slice (some ⟨g, 0, none⟩) (l.filter fun x => !outI next x).length c) ∧ SM w g ((l.filter fun x => !outI next x).flatMap encInp ++ tl2) w' := by
  unfold cloO
  have HW0 := hidI (And.intro hw0 (And.intro hn (And.intro hnb hne)))
  have HL := hidI hl
  clear hw0 hn hnb hne hl
  by_cases hi : idxO (outI next) l 0 = -1
  · have HX := hidI hi
    have HF := hidI (idxO_no hi)
    clear hi
    go_enter Try.func48, Try.ntmps48
    go_wp2_with (first
      | (go_at_call 68; (with_reducible refine (index_any' l g n c nb next hn2 _ HL.out HW0.out.1.row HW0.out.1.lt HW0.out.2.1 HW0.out.2.2.1).mono ?_); rintro e w1 ⟨rfl, hb1⟩; rw [HX.out]; have HB1 := hidI hb1; clear hb1))
    go_ret
    exact ⟨tl, by rw [HF.out, HL.out]; rfl, by rw [HF.out]; exact SM.call (SM.start HW0.out.1) HB1.out⟩
  · obtain ⟨k0, hk0, hk1, hk2⟩ := idxO_yes hi
    rw [Nat.zero_add] at hk0
    rw [HL.out] at hk1
    have HX := hidI hk0
    have HF := hidI hk2
    clear hi hk0 hk2
    go_enter Try.func48, Try.ntmps48
    go_wp2_with (first
      | (go_at_call 68; (with_reducible refine (index_any' l g n c nb next hn2 _ HL.out HW0.out.1.row HW0.out.1.lt HW0.out.2.1 HW0.out.2.2.1).mono ?_); rintro e w1 ⟨rfl, hb1⟩; rw [HX.out]; have HB1 := hidI hb1; clear hb1))
    go_loopg [5, 6, 7] (n - (k0 + 1)) (fun q vi vj vv wr => ∃ (i j : Nat) (dj : List Inp), i < j ∧ j ≤ n ∧ n - j ≤ q ∧ vi = .int .i64 i ∧ vj = .int .i64 j ∧ dj.length = n ∧ Hid (dj.take i = (l.take j).filter fun x => !outI next x) ∧ Hid (dj.drop j = l.drop j) ∧ Hid (SM w g (dj.flatMap encInp ++ tl) wr))
    case atStart => exact ⟨k0, k0 + 1, l, by omega, by omega, by omega, rfl, by go_num, HL.out, HF.out.symm, rfl, SM.call (SM.start HW0.out.1) HB1.out⟩
    case round =>
      obtain ⟨i, j, dj, hij, hjn, hq, rfl, rfl, hdj, HA, HD, HS⟩ := hrel
      by_cases hlt : j < n
      · obtain ⟨x, hx⟩ : ∃ x, x = l[j]'(by rw [HL.out]; exact hlt) := ⟨_, rfl⟩
        have hxd : dj[j]'(by omega) = x := by
          have h := HD.out
          rw [List.drop_eq_getElem_cons (show j < dj.length by omega), List.drop_eq_getElem_cons (show j < l.length by rw [HL.out]; exact hlt)] at h
          rw [hx]; exact (List.cons.inj h).1
        have hdr : dj.drop (j + 1) = l.drop (j + 1) := by
          have h := HD.out
          rw [List.drop_eq_getElem_cons (show j < dj.length by omega), List.drop_eq_getElem_cons (show j < l.length by rw [HL.out]; exact hlt)] at h
          exact (List.cons.inj h).2
        have hft := filter_take (p := fun x => !outI next x) (l := l) (j := j) (by rw [HL.out]; exact hlt)
        rw [← hx, ← HA.out] at hft
        have HFT := hidI (And.intro hft hdr)
        have HROW := hidI (show RowAt wr g (j * 44) (encInp x) by rw [← hxd]; exact (SM.row HS.out HW0.out.1).elem encInp_length (by omega))
        have HNW := hidI (show RowAt wr nb 0 [.int .i64 next] ∧ nb < wr.heap.size from ⟨HW0.out.2.1.mono (HS.out.other HW0.out.2.2.1 HW0.out.2.2.2), Nat.lt_of_lt_of_le HW0.out.2.2.1 HS.out.size⟩)
        have hjz : (j : Int) < (n : Int) := by omega
        have hiz : (i : Int) < (n : Int) := by omega
        clear hx hxd hdr hft
        cases hp : outI next x with
        | true =>
          have HXP := hidI hp
          clear hp
          go_wp2_with (first
            | (with_reducible refine at_load 93 rfl ?_; refine wpl_load_agg (b := g) (cs := encInp x) rfl rfl rfl agg_inp (encInp_length x) (HROW.out) ?_; (try simp only [Act.put, List.setIfInBounds_toArray, List.set_cons_zero, List.set_cons_succ, World.size_alloc]))
            | ((first | go_at_call 50 | go_at_fn 50); (with_reducible refine (order_clo x next nb _ (HNW.out.1.alloc _) (by simp only [World.size_alloc]; exact Nat.lt_succ_of_lt HNW.out.2)).mono ?_); rintro e w2 ⟨rfl, hb2⟩; rw [HXP.out]; have HS2 := hidI (SM.call HS.out (((Below.refl _ _).alloc (Nat.le_refl _) (.cells (encInp x).toArray 93)).trans (hb2.mono (by simp only [World.size_alloc]; omega)))); have hrv : RowAt w2 wr.heap.size 0 (encInp x) := RowAt.below (RowAt.new (by kernel_rfl)) hb2 (by simp only [World.size_alloc]; omega); clear hb2)
            | (with_reducible refine at_store 93 rfl ?_; refine wpl_store_new (cs := encInp x) rfl rfl rfl rfl (by simp) rfl sz_inp (encInp_length _) hcv rfl ?_; (try simp only [Act.put, List.setIfInBounds_toArray, List.set_cons_zero, List.set_cons_succ, World.size_alloc]))
            | (with_reducible refine at_alloc 93 rfl ?_; refine wpl_alloc_any rfl rfl z_inp ?_; intro cv hcv; (try simp only [Act.put, List.setIfInBounds_toArray, List.set_cons_zero, List.set_cons_succ, World.size_alloc]))
            | (with_reducible refine at_load 93 rfl ?_; refine wpl_load_agg (b := wr.heap.size) (cs := encInp x) rfl rfl rfl agg_inp (encInp_length x) (by first | exact hrv | exact RowAt.new (by kernel_rfl)) ?_; (try simp only [Act.put, List.setIfInBounds_toArray, List.set_cons_zero, List.set_cons_succ, World.size_alloc]))
            | (with_reducible refine at_store 93 rfl ?_; refine wpl_store_row (i := i) (z := x) (g := g) (l := dj) (tl := tl) (e := t) rfl rfl rfl rfl rfl sz_inp (SM.row HS2.out HW0.out.1) (by omega) ?_; (try simp only [Act.put, List.setIfInBounds_toArray, List.set_cons_zero, List.set_cons_succ, World.size_alloc])))
          go_roundg (n - (j + 1))
          case measure => omega
          case rel => exact ⟨i, j + 1, dj, by omega, by omega, by omega, rfl, by go_num, hdj, by show _ = _; have h := HFT.out.1; rw [HXP.out] at h; simpa using h.symm, HFT.out.2, HS2.out⟩
        | false =>
          have HXP := hidI hp
          clear hp
          go_wp2_with (first
            | (with_reducible refine at_load 93 rfl ?_; refine wpl_load_agg (b := g) (cs := encInp x) rfl rfl rfl agg_inp (encInp_length x) (HROW.out) ?_; (try simp only [Act.put, List.setIfInBounds_toArray, List.set_cons_zero, List.set_cons_succ, World.size_alloc]))
            | ((first | go_at_call 50 | go_at_fn 50); (with_reducible refine (order_clo x next nb _ (HNW.out.1.alloc _) (by simp only [World.size_alloc]; exact Nat.lt_succ_of_lt HNW.out.2)).mono ?_); rintro e w2 ⟨rfl, hb2⟩; rw [HXP.out]; have HS2 := hidI (SM.call HS.out (((Below.refl _ _).alloc (Nat.le_refl _) (.cells (encInp x).toArray 93)).trans (hb2.mono (by simp only [World.size_alloc]; omega)))); have hrv : RowAt w2 wr.heap.size 0 (encInp x) := RowAt.below (RowAt.new (by kernel_rfl)) hb2 (by simp only [World.size_alloc]; omega); clear hb2)
            | (with_reducible refine at_store 93 rfl ?_; refine wpl_store_new (cs := encInp x) rfl rfl rfl rfl (by simp) rfl sz_inp (encInp_length _) hcv rfl ?_; (try simp only [Act.put, List.setIfInBounds_toArray, List.set_cons_zero, List.set_cons_succ, World.size_alloc]))
            | (with_reducible refine at_alloc 93 rfl ?_; refine wpl_alloc_any rfl rfl z_inp ?_; intro cv hcv; (try simp only [Act.put, List.setIfInBounds_toArray, List.set_cons_zero, List.set_cons_succ, World.size_alloc]))
            | (with_reducible refine at_load 93 rfl ?_; refine wpl_load_agg (b := wr.heap.size) (cs := encInp x) rfl rfl rfl agg_inp (encInp_length x) (by first | exact hrv | exact RowAt.new (by kernel_rfl)) ?_; (try simp only [Act.put, List.setIfInBounds_toArray, List.set_cons_zero, List.set_cons_succ, World.size_alloc]))
            | (with_reducible refine at_store 93 rfl ?_; refine wpl_store_row (i := i) (z := x) (g := g) (l := dj) (tl := tl) (e := t) rfl rfl rfl rfl rfl sz_inp (SM.row HS2.out HW0.out.1) (by omega) ?_; (try simp only [Act.put, List.setIfInBounds_toArray, List.set_cons_zero, List.set_cons_succ, World.size_alloc])))
          go_roundg (n - (j + 1))
          case measure => omega
          case rel => exact ⟨i + 1, j + 1, dj.set i x, by omega, by omega, by omega, by go_num, by go_num, by simpa using hdj, by show _ = _; have h := HFT.out.1; rw [HXP.out] at h; rw [h, take_set_one (by omega)]; simp, by show _ = _; rw [List.drop_set_of_lt (by omega)]; exact HFT.out.2, SM.store HS2.out _⟩
      · have hje : j = n := by omega
        have hjz : ¬ (j : Int) < (n : Int) := by omega
        have hA : dj.take i = l.filter fun x => !outI next x := by rw [HA.out, List.take_of_length_le (by rw [HL.out]; omega)]
        have hil : (l.filter fun x => !outI next x).length = i := by rw [← hA, List.length_take]; omega
        have hin : i < n := by omega
        have HI := hidI (And.intro hA hil)
        clear hje hA hil
        have hz1 : (i : Int) ≤ (n : Int) := by omega
        have hz2 : (n : Int) ≤ (c : Int) := by omega
        have hz3 : (i : Int) ≤ (c : Int) := by omega
        have hz4 : ¬ (i : Int) < 0 := by omega
        go_wp2_with (first
          | (refine wpl_clear (tt := t) (cs := dj.flatMap encInp ++ tl) rfl rfl rfl rfl (by kernel_rfl) zok_inp (by decide) (by omega) (SM.row HS.out HW0.out.1) (by rw [List.length_append, flat_length encInp_length]; omega) ?_; intro zs hzs; (try simp only [Act.put, List.setIfInBounds_toArray, List.set_cons_zero, List.set_cons_succ, World.size_alloc])))
        go_ret
        refine ⟨by rw [HI.out.2]; rfl, zs ++ tl, ?_⟩
        have e1 := row_cut dj tl i n zs (by omega) hdj
        rw [HI.out.1] at e1
        rw [← e1, List.append_assoc]
        exact SM.store HS.out _


end Go.Proofs.Ytjlledljancafaa
