/- The stable sort of at most 20 inputs. -/
import Derived.Test.YtjlledljancafaaK
set_option linter.unusedSimpArgs false
set_option linter.unusedVariables false
namespace Go.Proofs.Ytjlledljancafaa
open Go.RowKit Go.XB

theorem SM_trans {w w1 w2 : World} {g : Nat} {cs1 cs2 : List Value} (h : SM w g cs1 w1) (h2 : SM w1 g cs2 w2) : SM w g cs2 w2 :=
  Below.trans (SM.store h cs2) (Below.mono h2 (by have := SM.size h; simpa using this))
theorem insertion_i (l : List Inp) (tl : List Value) (t g n c a b nb : Nat) (next : Int) (hab : a ≤ b) (hbn : b ≤ n) (hn2 : n ≤ 1000000) (w : World) (hl : l.length = n) (hw0 : RowB w g t (l.flatMap encInp ++ tl)) (hn : RowAt w nb 0 [.int .i64 next]) (hnb : nb < w.heap.size) (hne : nb ≠ g) {a' b' : Int} (ha : a' = (a : Int)) (hb : b' = (b : Int)) :
    Calls Try.prog 91 #[.slice (some ⟨g, 0, none⟩) n c, .int .i64 a', .int .i64 b', clo nb] w fun e w' => e = .returned (.tuple #[]) ∧ SM w g ((insUp (ordI next) a b (a + 1) l).flatMap encInp ++ tl) w' := by
  subst ha hb
  exact insertion_any l tl t g n c a b nb next hab hbn hn2 w hl hw0 hn hnb hne
theorem insUp_none {α : Type} {cf : α → α → Int} {a b i : Nat} {l : List α} (h : b ≤ i) : insUp cf a b i l = l := insUp_stop (by omega)

theorem insUp_length {α : Type} (cf : α → α → Int) (a b : Nat) : ∀ (k i : Nat) (l : List α), b - i = k → (insUp cf a b i l).length = l.length
  | 0, i, l, h => by rw [insUp_stop (by omega)]
  | k + 1, i, l, h => by rw [insUp_go (by omega), insUp_length cf a b k (i + 1) _ (by omega), insDn_length]
set_option maxRecDepth 100000 in
set_option maxHeartbeats 4000000 in
theorem stable_small (l : List Inp) (tl : List Value) (t g n c nb : Nat) (next : Int) (hn2 : n ≤ 20) (w : World) (hl : l.length = n) (hw0 : RowB w g t (l.flatMap encInp ++ tl)) (hn : RowAt w nb 0 [.int .i64 next]) (hnb : nb < w.heap.size) (hne : nb ≠ g) :
    Calls Try.prog 70 #[.slice (some ⟨g, 0, none⟩) n c, .int .i64 n, clo nb] w fun e w' => e = .returned (.tuple #[]) ∧ SM w g ((insUp (ordI next) 0 n 1 l).flatMap encInp ++ tl) w' := by
  have HW0 := hidI (And.intro hw0 (And.intro hn (And.intro hnb hne)))
  have HL := hidI hl
  clear hw0 hn hnb hne hl
  by_cases h20 : n = 20
  · subst h20
    have HL2 := hidI (show (insUp (ordI next) 0 20 (0 + 1) l).length = 20 by rw [insUp_length _ _ _ _ _ _ rfl]; exact HL.out)
    go_enter Try.func70, Try.ntmps70
    go_wp2
    go_loopg [7, 8] 1 (fun k va vb wr => (k = 1 ∧ va = .int .i64 0 ∧ vb = .int .i64 20 ∧ wr = w) ∨ (k = 0 ∧ va = .int .i64 20 ∧ vb = .int .i64 40 ∧ Hid (SM w g ((insUp (ordI next) 0 20 (0 + 1) l).flatMap encInp ++ tl) wr)))
    case atStart => exact Or.inl ⟨rfl, rfl, rfl, rfl⟩
    case round =>
      rcases hrel with ⟨rfl, rfl, rfl, rfl⟩ | ⟨rfl, rfl, rfl, HS1⟩
      · go_wp2_with (first
          | (go_at_call 91; (with_reducible refine (insertion_i l tl t g 20 c 0 20 nb next (Nat.zero_le _) (by omega) (by omega) _ HL.out HW0.out.1 HW0.out.2.1 HW0.out.2.2.1 HW0.out.2.2.2 (by simp) (by simp)).mono ?_); rintro e w1 ⟨rfl, hs1⟩; have HS1 := hidI hs1; clear hs1))
        go_roundg 0
        case measure => omega
        case rel => exact Or.inr ⟨rfl, by go_num, by go_num, HS1⟩
      · go_wp2_with (first
          | (go_at_call 91; (with_reducible refine (insertion_i _ tl t g 20 c 20 20 nb next (Nat.le_refl _) (by omega) (by omega) _ HL2.out (SM.row HS1.out HW0.out.1) (HW0.out.2.1.mono (SM.other HS1.out HW0.out.2.2.1 HW0.out.2.2.2)) (Nat.lt_of_lt_of_le HW0.out.2.2.1 (SM.size HS1.out)) HW0.out.2.2.2 (by simp) (by simp)).mono ?_); rintro e w2 ⟨rfl, hs2⟩; have HS2 := hidI hs2; clear hs2))
        have h := SM_trans HS1.out HS2.out
        rw [insUp_none (by omega)] at h
        have HS3 := hidI h
        clear h
        go_loopg [6] 0 (fun k vc wr => vc = .int .i64 20 ∧ wr = w2)
        case atStart => exact ⟨rfl, rfl⟩
        case round =>
          obtain ⟨rfl, rfl⟩ := hrel
          go_wp2
          go_end0
          exact ⟨rfl, HS3.out⟩
  · have hn19 : (n : Int) < 20 := by omega
    go_enter Try.func70, Try.ntmps70
    go_wp2
    go_loopg [7, 8] 0 (fun k va vb wr => va = .int .i64 0 ∧ vb = .int .i64 20 ∧ wr = w)
    case atStart => exact ⟨rfl, rfl, rfl⟩
    case round =>
      obtain ⟨rfl, rfl, rfl⟩ := hrel
      have hn20 : ¬ ((20 : Int) ≤ (n : Int)) := by omega
      go_wp2_with (first
          | (go_at_call 91; (with_reducible refine (insertion_i l tl t g n c 0 n nb next (Nat.zero_le _) (Nat.le_refl _) (by omega) _ HL.out HW0.out.1 HW0.out.2.1 HW0.out.2.2.1 HW0.out.2.2.2 (by simp) (by simp)).mono ?_); rintro e w1 ⟨rfl, hs1⟩; have HS1 := hidI hs1; clear hs1))
      go_loopg [6] 0 (fun k vc wr => vc = .int .i64 20 ∧ wr = w1)
      case atStart => exact ⟨rfl, rfl⟩
      case round =>
        obtain ⟨rfl, rfl⟩ := hrel
        have hn21 : ¬ (20 : Int) < (n : Int) := by omega
        go_wp2
        go_end0
        exact ⟨rfl, HS1.out⟩


end Go.Proofs.Ytjlledljancafaa
