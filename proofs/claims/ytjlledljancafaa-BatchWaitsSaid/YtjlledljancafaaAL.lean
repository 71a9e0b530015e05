/- batch.All. -/
import Derived.Test.YtjlledljancafaaON
import Derived.Test.YtjlledljancafaaTW
import Derived.Test.YtjlledljancafaaR
set_option linter.unusedSimpArgs false
set_option linter.unusedVariables false
namespace Go.Proofs.Ytjlledljancafaa
open Go.RowKit Go.XB

/-- batches in memory -/
def BatsAt (base : Nat) (w : World) (bs : List Bat) (xs : List Value) : Prop := ∃ css : List (List Value), css.length = bs.length ∧ xs = css.flatten ∧ (∀ cs ∈ css, cs.length = 5 ∧ cs.all Value.oneCell' = true) ∧ ∀ i, (h : i < bs.length) → ∃ cs, css[i]? = some cs ∧ BatAt base w bs[i] cs
def AllQ (w : World) (r : List Bat × Int) (e : Ending) (w' : World) : Prop :=
  ∃ (v : Value) (xs : List Value), e = .returned (.tuple #[v, .int .i64 r.2]) ∧ Below w.heap.size w w' ∧ w'.ownsRow w.heap.size 49 5 v r.1.length xs ∧ BatsAt w.heap.size w' r.1 xs
theorem BatsAt.nil (base : Nat) (w : World) : BatsAt base w [] [] := ⟨[], rfl, rfl, by simp, fun i h => by simp at h⟩
theorem AllQ.err {w w' : World} (er : Int) (hb : Below w.heap.size w w') : AllQ w ([], er) (.returned (.tuple #[.slice none 0 0, .int .i64 er])) w' :=
  ⟨_, [], rfl, hb, World.ownsRow_nil _ _ _ _, BatsAt.nil _ _⟩
theorem allE_arg {l : List Inp} {next limit key : Int} (h : (inB next 0 1000000 && inB limit 1 400000 && inB key 0 1073741824) = false) : allE l next limit key = ([], 1) := by unfold allE; rw [if_pos h]
theorem allE_dup {l : List Inp} {next limit key : Int} (h : (inB next 0 1000000 && inB limit 1 400000 && inB key 0 1073741824) = true) (hl : l.length ≤ 200) (hd : dupB (l.map fun i => i.pt) = true) : allE l next limit key = ([], 6) := by
  unfold allE; rw [if_neg (by rw [h]; simp), if_neg (by omega), if_pos hd]
theorem allE_ok {l : List Inp} {next limit key : Int} (h : (inB next 0 1000000 && inB limit 1 400000 && inB key 0 1073741824) = true) (hl : l.length ≤ 200) (hd : dupB (l.map fun i => i.pt) = false) : allE l next limit key = (allA next limit key (orderL next l).length (orderL next l), 0) := by
  unfold allE; rw [if_neg (by rw [h]; simp), if_neg (by omega), if_neg (by rw [hd]; simp)]
set_option maxRecDepth 100000 in
set_option maxHeartbeats 4000000 in
theorem all_arg (l : List Inp) (a : Option Addr) (n c : Nat) (next limit key : Int) (h : (inB next 0 1000000 && inB limit 1 400000 && inB key 0 1073741824) = false) (w : World) :
    Calls Try.prog 18 #[.slice a n c, .int .i64 next, .int .i64 limit, .int .i64 key] w (AllQ w (allE l next limit key)) := by
  rw [allE_arg h]
  cases h1 : inB next 0 1000000 with
  | false =>
    have H1 := hidI h1
    clear h h1
    go_enter Try.func18, Try.ntmps18
    go_wp2_with (first
      | (go_at_call 36; (with_reducible refine (within_batch next _ _ _).mono ?_); rintro e w' ⟨rfl, rfl⟩; rw [H1.out]))
    go_ret2
    exact AllQ.err 1 (Below.refl _ _)
  | true =>
    cases h2 : inB limit 1 400000 with
    | false =>
      have H1 := hidI h1
      have H2 := hidI h2
      clear h h1 h2
      go_enter Try.func18, Try.ntmps18
      go_wp2_with (first
        | (go_at_call 36; (with_reducible refine (within_batch next _ _ _).mono ?_); rintro e w' ⟨rfl, rfl⟩; rw [H1.out])
        | (go_at_call 36; (with_reducible refine (within_batch limit _ _ _).mono ?_); rintro e w' ⟨rfl, rfl⟩; rw [H2.out]))
      go_ret2
      exact AllQ.err 1 (Below.refl _ _)
    | true =>
      have h3 : inB key 0 1073741824 = false := by rw [h1, h2] at h; simpa using h
      have H1 := hidI h1
      have H2 := hidI h2
      have H3 := hidI h3
      clear h h1 h2 h3
      go_enter Try.func18, Try.ntmps18
      go_wp2_with (first
        | (go_at_call 36; (with_reducible refine (within_batch next _ _ _).mono ?_); rintro e w' ⟨rfl, rfl⟩; rw [H1.out])
        | (go_at_call 36; (with_reducible refine (within_batch limit _ _ _).mono ?_); rintro e w' ⟨rfl, rfl⟩; rw [H2.out])
        | (go_at_call 36; (with_reducible refine (within_batch key _ _ _).mono ?_); rintro e w' ⟨rfl, rfl⟩; rw [H3.out]))
      go_ret2
      exact AllQ.err 1 (Below.refl _ _)

theorem z_mk : zeroB Try.prog 99 3 = true := by kernel_rfl
theorem sz_mk : (Try.prog.info? 99).map (·.size) = some 3 := by kernel_rfl
theorem sl_bat : sliceB Try.prog 38 49 5 = true := by kernel_rfl
theorem ap_bat : apB Try.prog 38 49 5 72 = true := by kernel_rfl
theorem all_mem {cs : List Value} (h : cs.all Value.oneCell' = true) : ∀ u ∈ cs, u.oneCell' = true := by simpa using h
theorem le5 : 5 ≤ 16777216 := by decide
theorem pos5 : 0 < 5 := by decide
theorem build_mk (a b c : Int) (W : World) : (Instr.build 99 #[(0, .int .i64 a), (1, .int .i64 b), (2, .int .i64 c)]).run Try.prog W = .ok (.agg #[.int .i64 a, .int .i64 b, .int .i64 c]) W := by kernel_rfl
set_option maxRecDepth 100000 in
set_option maxHeartbeats 4000000 in
theorem all_dup (l : List Inp) (g n c : Nat) (next limit key : Int) (h : (inB next 0 1000000 && inB limit 1 400000 && inB key 0 1073741824) = true) (hn : n ≤ 200) (hd : dupB (l.map fun i => i.pt) = true) (w : World) (hl : l.length = n) (hr : RowAt w g 0 (l.flatMap encInp)) (hg : g < w.heap.size) :
    Calls Try.prog 18 #[.slice (some ⟨g, 0, none⟩) n c, .int .i64 next, .int .i64 limit, .int .i64 key] w (AllQ w (allE l next limit key)) := by
  rw [allE_dup h (by omega) hd]
  simp only [Bool.and_eq_true] at h
  have H1 := hidI h.1.1
  have H2 := hidI h.1.2
  have H3 := hidI h.2
  have HTW := hidI (show Calls Try.prog 37 #[.slice (some ⟨g, 0, none⟩) n c] w fun e w' => e = .returned (.bool true) ∧ Below w.heap.size w w' by
    have h5 := twice_any l g n c (by omega) w hl hr hg
    have h6 := dup_iff (l.map fun i => i.pt)
    rw [List.length_map, hl, hd] at h6
    rw [h6] at h5
    exact h5)
  have hnb : ¬ (200 : Int) < (n : Int) := by omega
  clear h hl hr hg hd
  go_enter Try.func18, Try.ntmps18
  go_wp2_with (first
    | (go_at_call 36; (with_reducible refine (within_batch next _ _ _).mono ?_); rintro e w' ⟨rfl, rfl⟩; rw [H1.out])
    | (go_at_call 36; (with_reducible refine (within_batch limit _ _ _).mono ?_); rintro e w' ⟨rfl, rfl⟩; rw [H2.out])
    | (go_at_call 36; (with_reducible refine (within_batch key _ _ _).mono ?_); rintro e w' ⟨rfl, rfl⟩; rw [H3.out])
    | (go_at_call 37; (with_reducible refine (HTW.out).mono ?_); rintro e w1 ⟨rfl, hb1⟩; have HB1 := hidI hb1; clear hb1))
  go_ret2
  exact AllQ.err 6 HB1.out
theorem allA_fuel {next limit key : Int} : ∀ (f : Nat) (l : List Inp), l.length ≤ f → allA next limit key f l = allA next limit key l.length l
  | 0, [], _ => rfl
  | 0, _ :: _, h => by simp at h
  | _ + 1, [], _ => rfl
  | f + 1, x :: l, h => by
    have h1 : (oneL next limit key x l).2.length ≤ l.length := by
      have := oneA_left next limit key (rateI x next) l (fitsA limit key [x] (rateI x next)) [x] []
      simpa [oneL] using this
    simp only [List.length_cons] at h
    show (oneL next limit key x l).1.toList ++ allA next limit key f (oneL next limit key x l).2 = (oneL next limit key x l).1.toList ++ allA next limit key l.length (oneL next limit key x l).2
    rw [allA_fuel f _ (by omega), allA_fuel l.length _ h1]
theorem allA_cons {next limit key : Int} (x : Inp) (l : List Inp) : allA next limit key (x :: l).length (x :: l) = (oneL next limit key x l).1.toList ++ allA next limit key (oneL next limit key x l).2.length (oneL next limit key x l).2 := by
  have h1 : (oneL next limit key x l).2.length ≤ l.length := by
    have := oneA_left next limit key (rateI x next) l (fitsA limit key [x] (rateI x next)) [x] []
    simpa [oneL] using this
  show (oneL next limit key x l).1.toList ++ allA next limit key l.length (oneL next limit key x l).2 = _
  rw [allA_fuel l.length _ h1]
/-- what is left, in memory -/
def LeftAt (base : Nat) (w : World) (a : Option Addr) (c : Nat) (cur : List Inp) : Prop := 0 < cur.length → ∃ gl, a = some ⟨gl, 0, none⟩ ∧ base ≤ gl ∧ gl < w.heap.size ∧ cur.length ≤ c ∧ RowAt w gl 0 (cur.flatMap encInp) ∧ ∃ c0, w.heap[gl]? = some (.cells c0 93 (0, 0))
theorem LeftAt.ext {base : Nat} {w w' : World} {a : Option Addr} {c : Nat} {cur : List Inp} (h : LeftAt base w a c cur) (he : Below w.heap.size w w') : LeftAt base w' a c cur := fun h0 => by
  obtain ⟨gl, h1, h2, h3, h4, h5, c0, h6⟩ := h h0
  exact ⟨gl, h1, h2, Nat.lt_of_lt_of_le h3 he.size, h4, h5.below he h3, c0, (he.block _ h3).trans h6⟩
theorem LeftAt.keep {base : Nat} {w w' : World} {a : Option Addr} {c : Nat} {cur : List Inp} {v : Value} {B n : Nat} {xs : List Value} (h : LeftAt base w a c cur) (hg : w.grownBy w' v.ownBlock) (ho : w.ownsRow B 49 5 v n xs) : LeftAt base w' a c cur := fun h0 => by
  obtain ⟨gl, h1, h2, h3, h4, h5, c0, h6⟩ := h h0
  have hb := hg.block gl h3 (fun e => own_other ho h6 (by decide) e.symm)
  exact ⟨gl, h1, h2, Nat.lt_of_lt_of_le h3 hg.size, h4, h5.mono hb, c0, hb.trans h6⟩
theorem left_own {base : Nat} {w : World} {v : Value} {cur : List Inp} (h : w.ownsRow base 93 44 v cur.length (cur.flatMap encInp)) : ∃ a c, v = .slice a cur.length c ∧ LeftAt base w a c cur := by
  rcases h.2 with ⟨h1, h2⟩ | ⟨g, cap, cur', hv, hb, hg, hn, _, _, ht⟩
  · exact ⟨none, 0, by rw [h1, h2], fun h0 => by omega⟩
  · refine ⟨some ⟨g, 0, none⟩, cap, hv, fun h0 => ⟨g, rfl, hb, lt_of hg, hn, ?_, cur', hg⟩⟩
    obtain ⟨g', c', hv', _, _, _, hr⟩ := own_row h h0
    rw [hv] at hv'
    injection hv' with e1 _ _
    injection e1 with e1
    injection e1 with e1
    subst e1
    exact hr
theorem BatsAt.ext {base : Nat} {w w' : World} {bs : List Bat} {xs : List Value} (h : BatsAt base w bs xs) (he : Below w.heap.size w w') : BatsAt base w' bs xs := by
  obtain ⟨css, h1, h2, h3, h4⟩ := h
  exact ⟨css, h1, h2, h3, fun i hi => by obtain ⟨cs, h5, h6⟩ := h4 i hi; exact ⟨cs, h5, h6.ext he⟩⟩
theorem BatsAt.keep {base : Nat} {w w' : World} {bs : List Bat} {xs : List Value} {v : Value} {B n : Nat} {ys : List Value} (h : BatsAt base w bs xs) (hg : w.grownBy w' v.ownBlock) (ho : w.ownsRow B 49 5 v n ys) : BatsAt base w' bs xs := by
  obtain ⟨css, h1, h2, h3, h4⟩ := h
  exact ⟨css, h1, h2, h3, fun i hi => by
    obtain ⟨cs, h5, h6⟩ := h4 i hi
    exact ⟨cs, h5, h6.keep hg (fun k cur T hk hT e => own_other ho hk (by rcases hT with rfl | rfl <;> decide) e.symm)⟩⟩
theorem BatsAt.snoc {base : Nat} {w : World} {bs : List Bat} {xs : List Value} {b : Bat} {cs : List Value} (h : BatsAt base w bs xs) (hl : cs.length = 5) (h1 : cs.all Value.oneCell' = true) (hb : BatAt base w b cs) : BatsAt base w (bs ++ [b]) (xs ++ cs) := by
  obtain ⟨css, e1, e2, e3, e4⟩ := h
  refine ⟨css ++ [cs], by simp [e1], by simp [e2], fun c hc => ?_, fun i hi => ?_⟩
  · rcases List.mem_append.1 hc with hc | hc
    · exact e3 c hc
    · simp only [List.mem_singleton] at hc; subst hc; exact ⟨hl, h1⟩
  · simp only [List.length_append, List.length_cons, List.length_nil] at hi
    by_cases hlt : i < bs.length
    · obtain ⟨c, h5, h6⟩ := e4 i hlt
      refine ⟨c, by rw [List.getElem?_append_left (by omega)]; exact h5, ?_⟩
      rw [List.getElem_append_left hlt]; exact h6
    · have : i = bs.length := by omega
      subst this
      refine ⟨cs, by rw [List.getElem?_append_right (by omega), e1]; simp, ?_⟩
      simpa using hb
set_option maxRecDepth 100000 in
set_option maxHeartbeats 4000000 in
theorem all_ok (l : List Inp) (g n c : Nat) (next limit key : Int) (h : (inB next 0 1000000 && inB limit 1 400000 && inB key 0 1073741824) = true) (hn : n ≤ 20) (hd : dupB (l.map fun i => i.pt) = false) (w : World) (hl : l.length = n) (hr : RowAt w g 0 (l.flatMap encInp)) (hg : g < w.heap.size) :
    Calls Try.prog 18 #[.slice (some ⟨g, 0, none⟩) n c, .int .i64 next, .int .i64 limit, .int .i64 key] w (AllQ w (allE l next limit key)) := by
  rw [allE_ok h (by omega) hd]
  simp only [Bool.and_eq_true] at h
  have H1 := hidI h.1.1
  have H2 := hidI h.1.2
  have H3 := hidI h.2
  have HTW := hidI (show Calls Try.prog 37 #[.slice (some ⟨g, 0, none⟩) n c] w fun e w' => e = .returned (.bool false) ∧ Below w.heap.size w w' by
    have h5 := twice_any l g n c (by omega) w hl hr hg
    have h6 := dup_iff (l.map fun i => i.pt)
    rw [List.length_map, hl, hd] at h6
    rw [h6] at h5
    exact h5)
  have HOR := hidI (show ∀ w1 : World, Below w.heap.size w w1 → Calls Try.prog 26 #[.slice (some ⟨g, 0, none⟩) n c, .int .i64 next] (w1.alloc (.cells #[.int .i64 next, .int .i64 limit, .int .i64 key] 99)) _ from fun w1 hb => order_small l g 0 n c next hn _ hl ((hr.below hb hg).alloc _))
  have HOL := hidI (show (orderL next l).length ≤ 20 by rw [orderL_length]; have := List.length_filter_le (fun x => !outI next x) l; omega)
  have hnb : ¬ (200 : Int) < (n : Int) := by omega
  clear h hl hr hg hd
  obtain ⟨L, hL⟩ : ∃ L, L = orderL next l := ⟨_, rfl⟩
  rw [← hL] at HOR HOL ⊢
  clear hL
  go_enter Try.func18, Try.ntmps18
  go_wp2_with (first
    | (go_at_call 36; (with_reducible refine (within_batch next _ _ _).mono ?_); rintro e w' ⟨rfl, rfl⟩; rw [H1.out])
    | (go_at_call 36; (with_reducible refine (within_batch limit _ _ _).mono ?_); rintro e w' ⟨rfl, rfl⟩; rw [H2.out])
    | (go_at_call 36; (with_reducible refine (within_batch key _ _ _).mono ?_); rintro e w' ⟨rfl, rfl⟩; rw [H3.out])
    | (go_at_call 37; (with_reducible refine (HTW.out).mono ?_); rintro e w1 ⟨rfl, hb1⟩; have HB1 := hidI hb1; clear hb1)
    | (with_reducible refine at_alloc 99 rfl ?_; refine wpl_alloc_any rfl rfl z_mk ?_; intro cm hcm; (try simp only [Act.put, List.setIfInBounds_toArray, List.set_cons_zero, List.set_cons_succ, World.size_alloc]))
    | (with_reducible refine at_build 99 rfl ?_; refine wpl_build rfl rfl (build_mk next limit key _) (by kernel_rfl) ?_; (try simp only [Act.put, List.setIfInBounds_toArray, List.set_cons_zero, List.set_cons_succ, World.size_alloc]))
    | (with_reducible refine at_store 99 rfl ?_; refine wpl_store_new (cs := [.int .i64 next, .int .i64 limit, .int .i64 key]) rfl rfl rfl rfl (by simp) rfl sz_mk (Eq.refl _) hcm rfl ?_; (try simp only [Act.put, List.setIfInBounds_toArray, List.set_cons_zero, List.set_cons_succ, World.size_alloc]))
    | (go_at_call 26; (with_reducible refine (HOR.out w1 HB1.out).mono ?_); rintro e w2 ⟨g2, c2, tl, rfl, hg2, hc2, hrow, hb2⟩; have HO2 := hidI (And.intro hg2 (And.intro hc2 (And.intro hrow hb2))); clear hg2 hc2 hrow hb2))
  have hs1 := HB1.out.size
  have HMB := hidI (show w2.heap[w1.heap.size]? = some (.cells #[.int .i64 next, .int .i64 limit, .int .i64 key] 99 (0, 0)) from (HO2.out.2.2.2.block _ (by simp only [World.size_alloc]; omega)).trans (heap_alloc_new w1 _))
  have HBW := hidI (show Below w.heap.size w w2 from (HB1.out.alloc hs1 _).trans (HO2.out.2.2.2.mono (by simp only [World.size_alloc]; omega)))
  have HLA := hidI (show LeftAt w.heap.size w2 (some ⟨g2, 0, none⟩) c2 L from fun _ => ⟨g2, rfl, by have := HO2.out.1; simp only [World.size_alloc] at this; omega, HO2.out.2.2.1.lt, HO2.out.2.1, HO2.out.2.2.1.row, _, HO2.out.2.2.1⟩)
  go_loopg [8, 11] L.length (fun q vo vl wr => ∃ (cur : List Inp) (bs : List Bat) (xs : List Value) (a : Option Addr) (cl : Nat), cur.length ≤ q ∧ bs.length + cur.length ≤ 20 ∧ vl = .slice a cur.length cl ∧ Hid (LeftAt w.heap.size wr a cl cur) ∧ Hid (wr.heap[w1.heap.size]? = some (.cells #[.int .i64 next, .int .i64 limit, .int .i64 key] 99 (0, 0))) ∧ Hid (Below w.heap.size w wr) ∧ Hid (wr.ownsRow w.heap.size 49 5 vo bs.length xs) ∧ Hid (BatsAt w.heap.size wr bs xs) ∧ Hid (bs ++ allA next limit key cur.length cur = allA next limit key L.length L))
  case atStart => exact ⟨L, [], [], some ⟨g2, 0, none⟩, c2, Nat.le_refl _, by simp; exact HOL.out, rfl, HLA.out, HMB.out, HBW.out, World.ownsRow_nil _ _ _ _, BatsAt.nil _ _, rfl⟩
  case round =>
    obtain ⟨cur, bs, xs, a, cl, hq, hbl, rfl, HLF, HMK, HB, HOO, HBA, HAL⟩ := hrel
    clear HLA HMB HBW HO2
    have hzr := HB.out.size
    cases cur with
    | nil =>
      have hz0 : ¬ (0 : Int) < (([] : List Inp).length : Int) := by simp
      go_wp2
      go_ret2
      have e := HAL.out
      rw [show allA next limit key ([] : List Inp).length [] = [] from rfl, List.append_nil] at e
      refine ⟨u8, xs, rfl, HB.out, ?_, ?_⟩
      · rw [← e]; exact HOO.out
      · rw [← e]; exact HBA.out
    | cons x l' =>
      obtain ⟨gl, rfl, hgl1, hgl2, hcl, hrow, c0, hct⟩ := HLF.out (by simp)
      have HX := hidI (And.intro hrow hct)
      clear hrow hct HLF
      have HMR := hidI (show RowAt wr w1.heap.size 0 [.int .i64 next, .int .i64 limit, .int .i64 key] from RowAt.whole HMK.out)
      have HON := hidI (show Calls Try.prog 38 #[.agg #[.int .i64 next, .int .i64 limit, .int .i64 key], .slice (some ⟨gl, 0, none⟩) (l'.length + 1) cl] wr (OneQ wr (oneL next limit key x l')) from one_any x l' gl (x :: l').length cl next limit key (by omega) hcl wr rfl HX.out.1 hgl2)
      have HSZ := hidI (show ∀ w3, Below wr.heap.size wr w3 → ∀ cs : List Value, w.heap.size ≤ ((w3.alloc (.cells cs.toArray 49)).alloc (.cells cs.toArray 49)).heap.size from fun w3 h cs => by have := h.size; simp only [World.size_alloc]; omega)
      have HOW := hidI (show ∀ w3, Below wr.heap.size wr w3 → ∀ cs : List Value, ((w3.alloc (.cells cs.toArray 49)).alloc (.cells cs.toArray 49)).ownsRow w.heap.size 49 5 u8 bs.length xs from fun w3 h cs => ((own_ext HOO.out h).alloc _).alloc _)
      have HLB := hidI (show bs.length + 1 ≤ maxLen ∧ (bs.length + 1) * 72 ≤ 140737488355328 from ⟨le_maxLen (by omega), by omega⟩)
      have HAL2 := hidI (allA_cons (next := next) (limit := limit) (key := key) x l' ▸ HAL.out)
      have hln : (0 : Int) < ((l'.length : Int) + 1) := by omega
      obtain ⟨r, hr⟩ : ∃ r, r = oneL next limit key x l' := ⟨_, rfl⟩
      have hrl : r.2.length ≤ l'.length := by
        have := oneA_left next limit key (rateI x next) l' (fitsA limit key [x] (rateI x next)) [x] []
        rw [hr]; simpa [oneL] using this
      rw [← hr] at HON HAL2
      clear hr HAL
      obtain ⟨ob, lf⟩ := r
      simp only at hrl
      have hl5 : lf.length ≤ l'.length := hrl
      simp only [List.length_cons] at hq hbl
      cases ob with
      | none =>
        go_wp2_with (first
          | (with_reducible refine at_load 99 rfl ?_; refine wpl_load_agg (b := w1.heap.size) (cs := [.int .i64 next, .int .i64 limit, .int .i64 key]) rfl rfl rfl agg_mk rfl HMR.out ?_; (try simp only [Act.put, List.setIfInBounds_toArray, List.set_cons_zero, List.set_cons_succ, World.size_alloc]))
          | (go_at_call 38; (with_reducible refine (HON.out).mono ?_); rintro e w3 ⟨cs, v, rfl, hc1, hc2, hb3, hB, ho3⟩; have HQ := hidI (And.intro hc1 (And.intro hc2 (And.intro hb3 (And.intro hB ho3)))); clear hc1 hc2 hb3 hB ho3; (try simp only [Act.put, List.setIfInBounds_toArray, List.set_cons_zero, List.set_cons_succ, World.size_alloc]))
          | (with_reducible refine at_alloc 49 rfl ?_; refine wpl_alloc_any rfl rfl z_bat ?_; intro cur hcur; (try simp only [Act.put, List.setIfInBounds_toArray, List.set_cons_zero, List.set_cons_succ, World.size_alloc]))
          | (with_reducible refine at_store 49 rfl ?_; refine wpl_store_new (cs := cs) rfl rfl rfl rfl (by simp) rfl sz_bat HQ.out.1 hcur HQ.out.2.1 ?_; (try simp only [Act.put, List.setIfInBounds_toArray, List.set_cons_zero, List.set_cons_succ, World.size_alloc])))
        obtain ⟨a2, c2', hv2, hla2⟩ := left_own (own_mono HQ.out.2.2.2.2 hzr)
        go_roundg (lf.length)
        case measure => omega
        case rel =>
          have hE : Below wr.heap.size wr (w3.alloc (.cells cs.toArray 49)) := HQ.out.2.2.1.alloc HQ.out.2.2.1.size _
          exact ⟨lf, bs, xs, a2, c2', Nat.le_refl _, by omega, hv2, hla2.ext ((Below.refl _ _).alloc (Nat.le_refl _) _), (hE.block _ (lt_of HMK.out)).trans HMK.out, HB.out.trans (hE.mono hzr), own_ext HOO.out hE, HBA.out.ext hE, hidI (by simpa using HAL2.out)⟩
      | some b =>
        go_wp2_with (first
          | (with_reducible refine at_load 99 rfl ?_; refine wpl_load_agg (b := w1.heap.size) (cs := [.int .i64 next, .int .i64 limit, .int .i64 key]) rfl rfl rfl agg_mk rfl HMR.out ?_; (try simp only [Act.put, List.setIfInBounds_toArray, List.set_cons_zero, List.set_cons_succ, World.size_alloc]))
          | (go_at_call 38; (with_reducible refine (HON.out).mono ?_); rintro e w3 ⟨cs, v, rfl, hc1, hc2, hb3, hB, ho3⟩; have HQ := hidI (And.intro hc1 (And.intro hc2 (And.intro hb3 (And.intro hB ho3)))); clear hc1 hc2 hb3 hB ho3; (try simp only [Act.put, List.setIfInBounds_toArray, List.set_cons_zero, List.set_cons_succ, World.size_alloc]))
          | (with_reducible refine at_alloc 49 rfl ?_; refine wpl_alloc_any rfl rfl z_bat ?_; intro cur hcur; (try simp only [Act.put, List.setIfInBounds_toArray, List.set_cons_zero, List.set_cons_succ, World.size_alloc]))
          | (with_reducible refine at_store 49 rfl ?_; refine wpl_store_new (cs := cs) rfl rfl rfl rfl (by simp) rfl sz_bat HQ.out.1 hcur HQ.out.2.1 ?_; (try simp only [Act.put, List.setIfInBounds_toArray, List.set_cons_zero, List.set_cons_succ, World.size_alloc]))
          | (with_reducible refine at_load 49 rfl ?_; refine wpl_load_agg (b := w3.heap.size) (cs := cs) rfl rfl rfl agg_bat HQ.out.1 (RowAt.new (by simp)) ?_; (try simp only [Act.put, List.setIfInBounds_toArray, List.set_cons_zero, List.set_cons_succ, World.size_alloc]))
          | (with_reducible refine at_buildSlice 38 rfl ?_; refine wpl_buildSlice_one (cs := cs) (n := 5) rfl rfl rfl sl_bat (le5) (pos5) HQ.out.1 ?_; (try simp only [Act.put, List.setIfInBounds_toArray, List.set_cons_zero, List.set_cons_succ, World.size_alloc]))
          | (with_reducible refine at_bi .append rfl ?_; refine wpl_append (t := 38) rfl rfl w.heap.size 49 5 72 ap_bat (HOW.out w3 HQ.out.2.2.1 cs) (news := cs) rfl rfl HQ.out.1 (RowAt.new1 (by simp)) (all_mem HQ.out.2.1) (HLB.out.1) (HLB.out.2) (HSZ.out w3 HQ.out.2.2.1 cs) ?_; intro vo' w4 hown hgrow hmov; (try simp only [Act.put, List.setIfInBounds_toArray, List.set_cons_zero, List.set_cons_succ, World.size_alloc]); have HAP := hidI (And.intro hown hgrow); clear hown hgrow hmov))
        obtain ⟨a2, c2', hv2, hla2⟩ := left_own (own_mono HQ.out.2.2.2.2 hzr)
        go_roundg (lf.length)
        case measure => omega
        case rel =>
          have hE2 : Below w3.heap.size w3 ((w3.alloc (.cells cs.toArray 49)).alloc (.cells cs.toArray 49)) := ((Below.refl _ _).alloc (Nat.le_refl _) _).alloc (by simp) _
          have hE : Below wr.heap.size wr ((w3.alloc (.cells cs.toArray 49)).alloc (.cells cs.toArray 49)) := HQ.out.2.2.1.trans (hE2.mono HQ.out.2.2.1.size)
          have hO := HOW.out w3 HQ.out.2.2.1 cs
          have hM : ((w3.alloc (.cells cs.toArray 49)).alloc (.cells cs.toArray 49)).heap[w1.heap.size]? = some (.cells #[.int .i64 next, .int .i64 limit, .int .i64 key] 99 (0, 0)) := (hE.block _ (lt_of HMK.out)).trans HMK.out
          have hBN : BatAt w.heap.size w4 b cs := (((HQ.out.2.2.2.1 b rfl).mono hzr).ext hE2).keep HAP.out.2 (fun k cur T hk hT e => own_other hO hk (by rcases hT with rfl | rfl <;> decide) e.symm)
          exact ⟨lf, bs ++ [b], xs ++ cs, a2, c2', Nat.le_refl _, by simp; omega, hv2, (hla2.ext hE2).keep HAP.out.2 hO, (grown_block HAP.out.2 (lt_of hM) (own_other hO hM (by decide))).trans hM,
            ext_grow (HB.out.trans (hE.mono hzr)) (by simp only [World.size_alloc]; have := HQ.out.2.2.1.size; omega) HAP.out.2 (fun k hk => (hO.lt k hk).1), hidI (by simpa using HAP.out.1), ((HBA.out.ext hE).keep HAP.out.2 hO).snoc HQ.out.1 HQ.out.2.1 hBN, hidI (by simpa using HAL2.out)⟩

end Go.Proofs.Ytjlledljancafaa
