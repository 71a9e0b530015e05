/- Clone of inputs. -/
import Derived.Test.YtjlledljancafaaO
import Derived.Lib.Walk
import Derived.Lib.SliceRun
set_option linter.unusedSimpArgs false
set_option linter.unusedVariables false
namespace Go.Proofs.Ytjlledljancafaa
open Go.RowKit Go.XB

theorem flat_one' {α : Type} {enc : α → List Value} (h1 : ∀ x, ∀ v ∈ enc x, v.oneCell' = true) (l : List α) : ∀ u ∈ l.flatMap enc, u.oneCell' = true := by
  intro u hu
  obtain ⟨x, _, hx⟩ := List.mem_flatMap.1 hu
  exact h1 x u hx
def zinfo (P : Program) (e : TypeId) (size bytes : Nat) : Bool := match P.info? e with
  | some i => (match i.zero with | some z => z.cells.size == size | none => false) && (i.size == size) && (i.bytes == bytes)
  | none => false
theorem zinfo_spec {P : Program} {e : TypeId} {size bytes : Nat} (h : zinfo P e size bytes = true) : ∃ i z, P.info? e = some i ∧ i.zero = some z ∧ i.size = size ∧ i.bytes = bytes ∧ z.cells.size = size := by
  unfold zinfo at h
  split at h
  · rename_i i hi
    simp only [Bool.and_eq_true, beq_iff_eq] at h
    obtain ⟨⟨h1, h2⟩, h3⟩ := h
    split at h1
    · rename_i z hz
      exact ⟨i, z, hi, hz, h2, h3, by simpa using h1⟩
    · cases h1
  · cases h
theorem own_rowB {w' : World} {B : Nat} {e : TypeId} {v : Value} {n : Nat} {l : List Inp} (h : w'.ownsRow B e 44 v n (l.flatMap encInp)) (hv : v ≠ .slice none 0 0) :
    ∃ g c tl, v = .slice (some ⟨g, 0, none⟩) n c ∧ B ≤ g ∧ n ≤ c ∧ RowB w' g e (l.flatMap encInp ++ tl) := by
  rcases h.2 with ⟨h1, h2⟩ | ⟨g, cap, cur, hv', hb, hg, hn, hc, hs, ht⟩
  · exact absurd (by rw [h1]) hv
  · refine ⟨g, cap, cur.toList.drop (n * 44), hv', hb, hn, ?_⟩
    unfold RowB
    rw [hg, ← ht, List.take_append_drop]
set_option maxRecDepth 100000 in
set_option maxHeartbeats 2000000 in
theorem clone_any (l : List Inp) (b off n c : Nat) (hn : n ≤ 1000000) (w : World) (hl : l.length = n) (hr : RowAt w b off (l.flatMap encInp)) :
    Calls Try.prog 49 #[.slice (some ⟨b, off, none⟩) n c] w fun e w' => ∃ g c' tl, e = .returned (.slice (some ⟨g, 0, none⟩) n c') ∧ w.heap.size ≤ g ∧ n ≤ c' ∧ RowB w' g 93 (l.flatMap encInp ++ tl) ∧ Below w.heap.size w w' := by
  obtain ⟨i0, z, hi, hz0, hz1, hz2, hzs⟩ := zinfo_spec (P := Try.prog) (e := 93) (size := 44) (bytes := 136) (by kernel_rfl)
  have q22 : ∀ (w : World) (a : Option Addr) (n c n' c' : Nat), (binOp .eql 41 (.slice a n c) (.slice none n' c')).run Try.prog w = .ok (.bool a.isNone) w := fun w a n c n' c' => Lib.run_eql_slice_nil w _ 93 a n c n' c' (by kernel_rfl)
  have A : Aside (RowAt w b off (l.flatMap encInp)) := hr
  clear hr
  have HL : Hid (l.length = n) := hl
  clear hl
  go_enter Try.func49, Try.ntmps49
  go_wp2_with (at_builtin; refine wpList_append_own _ rfl _ _ 41 rfl w.heap.size 93 i0 z 44 136 (by kernel_rfl) hi hz0 hz1 hz2 hzs (by decide) _ _ _ rfl (World.ownsRow_made w #[] 0 (Nat.le_refl _) (Nat.zero_le _) (by simp)) ⟨b, off, none⟩ n c (l.flatMap encInp) rfl ?qc1 ?qc2 ?qc3 ?qc4 ?qc5 ?qc6 ?_)
  case qc1 => rw [flat_length encInp_length, HL.out]
  case qc2 =>
    intro j u hj
    rw [Addr.add_lit]
    exact Lib.cell?_alloc_some _ (A.out j u hj)
  case qc3 => exact flat_one' encInp_one l
  case qc4 => rw [Nat.zero_add]; exact Nat.le_trans hn (by decide)
  case qc5 => rw [Nat.zero_add]; exact Nat.le_trans (Nat.mul_le_mul_right _ hn) (by decide)
  case qc6 => simp
  intro v' w1 hown hgrow hnil
  go_wp2
  go_ret
  have hne : v' ≠ .slice none 0 0 := hnil
  obtain ⟨g, c', tl, hv, hb, hc, hrow⟩ := own_rowB (by simpa using hown) hne
  exact ⟨g, c', tl, by rw [← hv]; rfl, hb, hc, hrow, ((Below.refl _ w).alloc (Nat.le_refl _) _).grown hgrow (by simp) (by intro k hk; simp [Value.ownBlock] at hk; omega)⟩

set_option maxHeartbeats 400000 in
theorem clone_nil (n c : Nat) (w : World) :
    Calls Try.prog 49 #[.slice none n c] w fun e w' => e = .returned (.slice none 0 0) ∧ w' = w := by
  have q22 : ∀ (w : World) (a : Option Addr) (n c n' c' : Nat), (binOp .eql 41 (.slice a n c) (.slice none n' c')).run Try.prog w = .ok (.bool a.isNone) w := fun w a n c n' c' => Lib.run_eql_slice_nil w _ 93 a n c n' c' (by kernel_rfl)
  go_enter Try.func49, Try.ntmps49
  go_wp2
  go_ret
  exact ⟨rfl, rfl⟩


end Go.Proofs.Ytjlledljancafaa
