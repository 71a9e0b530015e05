/- IndexFunc and DeleteFunc of inputs. -/
import Derived.Test.YtjlledljancafaaM
set_option linter.unusedSimpArgs false
set_option linter.unusedVariables false
namespace Go.Proofs.Ytjlledljancafaa
open Go.RowKit Go.XB

def idxO {α : Type} (p : α → Bool) : List α → Nat → Int
  | [], _ => -1
  | x :: l, k => if p x = true then k else idxO p l (k + 1)
theorem idxO_drop {α : Type} {p : α → Bool} {l : List α} {k : Nat} (h : k < l.length) : idxO p (l.drop k) k = if p l[k] = true then (k : Int) else idxO p (l.drop (k + 1)) (k + 1) := by
  rw [List.drop_eq_getElem_cons h]; rfl
def cloO (nb : Nat) : Value := .func (.func 50) #[] #[.pointer (some ⟨nb, 0, none⟩)]
set_option maxRecDepth 100000 in
set_option maxHeartbeats 400000 in
theorem index_any (l : List Inp) (g n c nb : Nat) (next : Int) (hn2 : n ≤ 1000000) (w : World) (hl : l.length = n) (hr : RowAt w g 0 (l.flatMap encInp)) (hg : g < w.heap.size) (hn : RowAt w nb 0 [.int .i64 next]) (hnb : nb < w.heap.size) :
    Calls Try.prog 68 #[.slice (some ⟨g, 0, none⟩) n c, cloO nb] w fun e w' => e = .returned (.int .i64 (idxO (outI next) l 0)) ∧ Below w.heap.size w w' := by
  unfold cloO
  have HR := hidI hr
  have HL := hidI hl
  have HG := hidI hg
  have HN := hidI (And.intro hn hnb)
  clear hr hl hn hnb hg
  go_enter Try.func68, Try.ntmps68
  go_wp2
  go_loopg [8] n (fun k i wr => ∃ (j : Nat), j ≤ n ∧ n - j ≤ k ∧ i = .int .i64 j ∧ Hid (Below w.heap.size w wr) ∧ Hid (idxO (outI next) (l.drop j) j = idxO (outI next) l 0))
  case atStart => exact ⟨0, Nat.zero_le _, by omega, rfl, Below.refl _ _, rfl⟩
  case round =>
    obtain ⟨k, hk, hgk, rfl, HB, HT⟩ := hrel
    by_cases hlt : k < n
    · have hlt2 : k < l.length := by rw [HL.out]; exact hlt
      obtain ⟨x, hx⟩ : ∃ x, x = l[k] := ⟨_, rfl⟩
      have hd := idxO_drop (p := outI next) hlt2
      rw [HT.out, ← hx] at hd
      have HD := hidI hd
      have HROW := hidI (show RowAt wr g (k * 44) (encInp x) by rw [hx]; have := (RowAt.elem encInp_length HR.out hlt2).below HB.out HG.out; rwa [Nat.zero_add] at this)
      clear hd hx hlt2
      have hkz : (k : Int) < (n : Int) := by omega
      have hk0 : ¬ (k : Int) < 0 := by omega
      cases hp : outI next x with
      | true =>
        have HX := hidI hp
        clear hp
        go_wp2_with (first
          | (with_reducible refine at_load 93 rfl ?_; refine wpl_load_agg (cs := encInp x) rfl rfl rfl agg_inp (encInp_length x) (HROW.out) ?_; (try simp only [Act.put, List.setIfInBounds_toArray, List.set_cons_zero, List.set_cons_succ, World.size_alloc]))
          | ((first | go_at_call 50 | go_at_fn 50); (with_reducible refine (order_clo x next nb _ (HN.out.1.mono (HB.out.block nb HN.out.2)) (Nat.lt_of_lt_of_le HN.out.2 HB.out.size)).mono ?_); rintro e w2 ⟨rfl, hb2⟩; rw [HX.out]; have HB2 := hidI (HB.out.trans (hb2.mono HB.out.size)); clear hb2))
        go_ret
        exact ⟨ret_int (by have := HD.out; rw [HX.out, if_pos rfl] at this; exact this.symm), HB2.out⟩
      | false =>
        have HX := hidI hp
        clear hp
        go_wp2_with (first
          | (with_reducible refine at_load 93 rfl ?_; refine wpl_load_agg (cs := encInp x) rfl rfl rfl agg_inp (encInp_length x) (HROW.out) ?_; (try simp only [Act.put, List.setIfInBounds_toArray, List.set_cons_zero, List.set_cons_succ, World.size_alloc]))
          | ((first | go_at_call 50 | go_at_fn 50); (with_reducible refine (order_clo x next nb _ (HN.out.1.mono (HB.out.block nb HN.out.2)) (Nat.lt_of_lt_of_le HN.out.2 HB.out.size)).mono ?_); rintro e w2 ⟨rfl, hb2⟩; rw [HX.out]; have HB2 := hidI (HB.out.trans (hb2.mono HB.out.size)); clear hb2))
        go_roundg (n - (k + 1))
        case measure => omega
        case rel => exact ⟨k + 1, by omega, by omega, by go_num, HB2, by have := HD.out; rw [HX.out, if_neg (by simp)] at this; exact this.symm⟩
    · have hkz : ¬ (k : Int) < (n : Int) := by omega
      have h1 : idxO (outI next) (l.drop k) k = -1 := by rw [List.drop_of_length_le (by rw [HL.out]; omega)]; rfl
      have HT2 := hidI (h1.symm.trans HT.out)
      clear h1
      go_wp2
      go_ret
      exact ⟨ret_int HT2.out, HB.out⟩


end Go.Proofs.Ytjlledljancafaa
