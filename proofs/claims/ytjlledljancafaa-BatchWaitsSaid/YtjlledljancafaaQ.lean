/- batch.Order of at most 20 inputs. -/
import Derived.Test.YtjlledljancafaaP
set_option linter.unusedSimpArgs false
set_option linter.unusedVariables false
namespace Go.Proofs.Ytjlledljancafaa
open Go.RowKit Go.XB

/-- what is ripe, in order -/
def orderL (next : Int) (l : List Inp) : List Inp := insUp (ordI next) 0 (l.filter fun x => !outI next x).length 1 (l.filter fun x => !outI next x)
theorem orderL_length (next : Int) (l : List Inp) : (orderL next l).length = (l.filter fun x => !outI next x).length := insUp_length _ _ _ _ _ _ rfl

theorem delete_any' (l : List Inp) (tl : List Value) (t g n c nb : Nat) (next : Int) (hn2 : n ≤ 1000000) (hnc : n ≤ c) (w : World) (hl : l.length = n) (hw0 : RowB w g t (l.flatMap encInp ++ tl)) (hn : RowAt w nb 0 [.int .i64 next]) (hnb : nb < w.heap.size) (hne : nb ≠ g) :
    Calls Try.prog 48 #[.slice (some ⟨g, 0, none⟩) n c, .func (.func 50) #[] #[.pointer (some ⟨nb, 0, none⟩)]] w fun e w' => ∃ tl2 : List Value, e = .returned (.slice (some ⟨g, 0, none⟩) (l.filter fun x => !outI next x).length c) ∧ SM w g ((l.filter fun x => !outI next x).flatMap encInp ++ tl2) w' := delete_any l tl t g n c nb next hn2 hnc w hl hw0 hn hnb hne
set_option maxRecDepth 100000 in
set_option maxHeartbeats 2000000 in
theorem order_small (l : List Inp) (b off n c : Nat) (next : Int) (hn : n ≤ 20) (w : World) (hl : l.length = n) (hr : RowAt w b off (l.flatMap encInp)) :
    Calls Try.prog 26 #[.slice (some ⟨b, off, none⟩) n c, .int .i64 next] w fun e w' => ∃ g c' tl, e = .returned (.slice (some ⟨g, 0, none⟩) (orderL next l).length c') ∧ w.heap.size ≤ g ∧ (orderL next l).length ≤ c' ∧ RowB w' g 93 ((orderL next l).flatMap encInp ++ tl) ∧ Below w.heap.size w w' := by
  have HR := hidI hr
  have HL := hidI hl
  clear hr hl
  go_enter Try.func26, Try.ntmps26
  go_wp2_with (first
    | (go_at_call 49; (with_reducible refine (clone_any l b off n c (by omega) _ HL.out (HR.out.alloc _)).mono ?_); rintro e w1 ⟨g, c', tl, rfl, hg, hnc, hrow, hb1⟩; have HG := hidI (And.intro hg (And.intro hnc (And.intro hrow hb1))); clear hg hnc hrow hb1; have hn1 : RowAt w1 w.heap.size 0 [.int .i64 next] := RowAt.below (RowAt.new (by rfl)) HG.out.2.2.2 (by simp only [World.size_alloc]; omega); have HN1 := hidI hn1; clear hn1)
    | (go_at_call 48; (with_reducible refine (delete_any' l tl 93 g n c' w.heap.size next (by omega) HG.out.2.1 _ HL.out HG.out.2.2.1 HN1.out (Nat.lt_of_lt_of_le (by simp only [World.size_alloc]; omega) HG.out.2.2.2.size) (by have := HG.out.1; simp only [World.size_alloc] at this; omega)).mono ?_); rintro e w2 ⟨tl2, rfl, hs2⟩; have HS2 := hidI hs2; clear hs2; have HN2 := hidI (show RowAt w2 w.heap.size 0 [.int .i64 next] from HN1.out.mono (HS2.out.other (Nat.lt_of_lt_of_le (by simp only [World.size_alloc]; omega) HG.out.2.2.2.size) (by have := HG.out.1; simp only [World.size_alloc] at this; omega))); have hn2 := HN2.out 0 _ rfl; simp only [Nat.add_zero] at hn2)
    | (go_at_call 53; (with_reducible refine (byrate_clo _ _).mono ?_); rintro e w3 ⟨rfl, rfl⟩)
    | (go_at_call 52; (with_reducible refine (sort_small (l.filter fun x => !outI next x) tl2 93 g _ c' w2.heap.size next (by have := List.length_filter_le (fun x => !outI next x) l; have := HL.out; omega) _ rfl (RowB.below (w := w2) (SM.row HS2.out HG.out.2.2.1) ((Below.refl _ _).alloc (Nat.le_refl _) _)) (RowAt.new (by simp)) (by simp only [World.size_alloc]; omega) (by have := (SM.row HS2.out HG.out.2.2.1).lt; omega)).mono ?_); rintro e w4 ⟨rfl, hs4⟩; have HS4 := hidI hs4; clear hs4))
  go_ret
  have hg := HG.out.1
  simp only [World.size_alloc] at hg
  have hlf := List.length_filter_le (fun x => !outI next x) l
  have hll := HL.out
  have hgc := HG.out.2.1
  have hsz2 : g < w2.heap.size := (SM.row HS2.out HG.out.2.2.1).lt
  refine ⟨g, c', tl2, by rw [orderL_length]; rfl, by omega, by rw [orderL_length]; omega, ?_, ?_⟩
  · exact SM.row HS4.out (RowB.below (w := w2) (SM.row HS2.out HG.out.2.2.1) ((Below.refl _ _).alloc (Nat.le_refl _) _))
  · have h1 : Below w.heap.size w w1 := ((Below.refl _ _).alloc (Nat.le_refl _) _).trans (HG.out.2.2.2.mono (by simp only [World.size_alloc]; omega))
    have h2 : Below w.heap.size w w2 := SM.done HS2.out h1 (by omega) h1.size
    exact SM.done HS4.out (h2.alloc (by exact h2.size) _) (by omega) (by simp only [World.size_alloc]; have := h2.size; omega)


end Go.Proofs.Ytjlledljancafaa
