/- Spends. -/
import Derived.Test.YtjlledljancafaaS
set_option linter.unusedSimpArgs false
set_option linter.unusedVariables false
namespace Go.Proofs.Ytjlledljancafaa
open Go.RowKit Go.XB
set_option maxRecDepth 100000 in
set_option maxHeartbeats 400000 in
theorem spends_clo (x : TIn) (p : Pt) (pb : Nat) (w : World) (hp : RowAt w pb 0 (encPt p)) :
    Calls Try.prog 47 #[.agg (encTIn x).toArray, .pointer (some ⟨pb, 0, none⟩)] w fun e w' => e = .returned (.bool (ptEq x.prev p)) ∧ Below w.heap.size w w' := by
  have HP := hidI hp
  clear hp
  have EQ := fun W => eqIn_pt 9997 x.prev p W
  have EQ2 := fun W => eq_pt x.prev p W
  obtain ⟨r, hr⟩ : ∃ r, r = ptEq x.prev p := ⟨_, rfl⟩
  rw [← hr] at EQ EQ2
  rw [← hr]
  clear hr
  obtain ⟨cx, hcx⟩ : ∃ c, c = encPt x.prev := ⟨_, rfl⟩
  go_enter Try.func47, Try.ntmps47
  go_wp2_with (first
    | (with_reducible refine at_load 57 rfl ?_; refine wpl_load_agg (b := w.heap.size) (cs := encPt x.prev) rfl rfl rfl agg_pt (encPt_length _) (by exact RowAt.new (by kernel_rfl)) ?_; (try simp only [Act.put, List.setIfInBounds_toArray, List.set_cons_zero, List.set_cons_succ, World.size_alloc]))
    | (with_reducible refine at_load 57 rfl ?_; refine wpl_load_agg (b := pb) (cs := encPt p) rfl rfl rfl agg_pt (encPt_length _) (by exact HP.out.alloc _) ?_; (try simp only [Act.put, List.setIfInBounds_toArray, List.set_cons_zero, List.set_cons_succ, World.size_alloc])))
  go_ret
  exact ⟨rfl, (Below.refl _ _).alloc (Nat.le_refl _) _⟩

set_option maxRecDepth 100000 in
set_option maxHeartbeats 400000 in
theorem index_in (l : List TIn) (p : Pt) (g n c pb : Nat) (hn2 : n ≤ 1000000) (w : World) (hl : l.length = n) (hr : RowAt w g 0 (l.flatMap encTIn)) (hg : g < w.heap.size) (hn : RowAt w pb 0 (encPt p)) (hnb : pb < w.heap.size) :
    Calls Try.prog 46 #[.slice (some ⟨g, 0, none⟩) n c, .func (.func 47) #[] #[.pointer (some ⟨pb, 0, none⟩)]] w fun e w' => e = .returned (.int .i64 (idxO (fun x => ptEq x.prev p) l 0)) ∧ Below w.heap.size w w' := by
  have HR := hidI hr
  have HL := hidI hl
  have HG := hidI hg
  have HN := hidI (And.intro hn hnb)
  clear hr hl hn hnb hg
  go_enter Try.func46, Try.ntmps46
  go_wp2
  go_loopg [8] n (fun k i wr => ∃ (j : Nat), j ≤ n ∧ n - j ≤ k ∧ i = .int .i64 j ∧ Hid (Below w.heap.size w wr) ∧ Hid (idxO (fun x => ptEq x.prev p) (l.drop j) j = idxO (fun x => ptEq x.prev p) l 0))
  case atStart => exact ⟨0, Nat.zero_le _, by omega, rfl, Below.refl _ _, rfl⟩
  case round =>
    obtain ⟨k, hk, hgk, rfl, HB, HT⟩ := hrel
    by_cases hlt : k < n
    · have hlt2 : k < l.length := by rw [HL.out]; exact hlt
      obtain ⟨x, hx⟩ : ∃ x, x = l[k] := ⟨_, rfl⟩
      have hd := idxO_drop (p := fun x => ptEq x.prev p) hlt2
      rw [HT.out, ← hx] at hd
      have HD := hidI hd
      have HROW := hidI (show RowAt wr g (k * 37) (encTIn x) by rw [hx]; have := (RowAt.elem encTIn_length HR.out hlt2).below HB.out HG.out; rwa [Nat.zero_add] at this)
      clear hd hx hlt2
      have hkz : (k : Int) < (n : Int) := by omega
      have hk0 : ¬ (k : Int) < 0 := by omega
      cases hp : ptEq x.prev p with
      | true =>
        have HX := hidI hp
        clear hp
        go_wp2_with (first
          | (with_reducible refine at_load 65 rfl ?_; refine wpl_load_agg (cs := encTIn x) rfl rfl rfl agg_in (encTIn_length x) (HROW.out) ?_; (try simp only [Act.put, List.setIfInBounds_toArray, List.set_cons_zero, List.set_cons_succ, World.size_alloc]))
          | ((first | go_at_call 47 | go_at_fn 47); (with_reducible refine (spends_clo x p pb _ (HN.out.1.mono (HB.out.block pb HN.out.2))).mono ?_); rintro e w2 ⟨rfl, hb2⟩; rw [HX.out]; have HB2 := hidI (HB.out.trans (hb2.mono HB.out.size)); clear hb2))
        go_ret
        exact ⟨ret_int (by have := HD.out; rw [HX.out, if_pos rfl] at this; exact this.symm), HB2.out⟩
      | false =>
        have HX := hidI hp
        clear hp
        go_wp2_with (first
          | (with_reducible refine at_load 65 rfl ?_; refine wpl_load_agg (cs := encTIn x) rfl rfl rfl agg_in (encTIn_length x) (HROW.out) ?_; (try simp only [Act.put, List.setIfInBounds_toArray, List.set_cons_zero, List.set_cons_succ, World.size_alloc]))
          | ((first | go_at_call 47 | go_at_fn 47); (with_reducible refine (spends_clo x p pb _ (HN.out.1.mono (HB.out.block pb HN.out.2))).mono ?_); rintro e w2 ⟨rfl, hb2⟩; rw [HX.out]; have HB2 := hidI (HB.out.trans (hb2.mono HB.out.size)); clear hb2))
        go_roundg (n - (k + 1))
        case measure => omega
        case rel => exact ⟨k + 1, by omega, by omega, by go_num, HB2, by have := HD.out; rw [HX.out, if_neg (by simp)] at this; exact this.symm⟩
    · have hkz : ¬ (k : Int) < (n : Int) := by omega
      have h1 : idxO (fun x => ptEq x.prev p) (l.drop k) k = -1 := by rw [List.drop_of_length_le (by rw [HL.out]; omega)]; rfl
      have HT2 := hidI (h1.symm.trans HT.out)
      clear h1
      go_wp2
      go_ret
      exact ⟨ret_int HT2.out, HB.out⟩

set_option maxRecDepth 100000 in
set_option maxHeartbeats 400000 in
theorem spends_any (l : List TIn) (p : Pt) (g n c n2 c2 : Nat) (a2 : Option Addr) (lock : Value) (hn2 : n ≤ 1000000) (w : World) (hl : l.length = n) (hr : RowAt w g 0 (l.flatMap encTIn)) (hg : g < w.heap.size) :
    Calls Try.prog 25 #[.agg #[.slice (some ⟨g, 0, none⟩) n c, .slice a2 n2 c2, lock], .agg (encPt p).toArray] w fun e w' => e = .returned (.int .i64 (idxO (fun x => ptEq x.prev p) l 0)) ∧ Below w.heap.size w w' := by
  have HR := hidI hr
  have HL := hidI hl
  have HG := hidI hg
  clear hr hl hg
  go_enter Try.func25, Try.ntmps25
  go_wp2_with (first
    | (go_at_call 46; (with_reducible refine (index_in l p g n c (w.heap.size + 1) hn2 _ HL.out ((HR.out.alloc _).alloc _) (by have := HG.out; simp only [World.size_alloc]; omega) (RowAt.new1 (by simp)) (by simp only [World.size_alloc]; omega)).mono ?_); rintro e w1 ⟨rfl, hb1⟩; have HB1 := hidI hb1; clear hb1))
  go_ret
  exact ⟨rfl, (((Below.refl _ _).alloc (Nat.le_refl _) _).alloc (by simp only [World.size_alloc]; omega) _).trans (HB1.out.mono (by simp only [World.size_alloc]; omega))⟩


end Go.Proofs.Ytjlledljancafaa
