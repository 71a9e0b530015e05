/- The memory of maker.one. -/
import Derived.Test.YtjlledljancafaaW
set_option linter.unusedSimpArgs false
set_option linter.unusedVariables false
namespace Go.Proofs.Ytjlledljancafaa
open Go.RowKit Go.XB

/-- where a row lies next -/
def MovedO (w : World) (r r' : Option Nat) : Prop := r' = r ∨ ∃ g, r' = some g ∧ w.heap.size ≤ g
theorem ap_inp : apB Try.prog 41 93 44 136 = true := by kernel_rfl
/-- the inputs of a batch: the first of the argument, or a row of the call's own (r: the block that an append may write) -/
def WithV (w : World) (B g : Nat) (x : Inp) (vw : Value) (wi : List Inp) (r : Option Nat) : Prop :=
  (vw = .slice (some ⟨g, 0, none⟩) 1 1 ∧ wi = [x] ∧ r = none) ∨ (w.ownsRow B 93 44 vw wi.length (wi.flatMap encInp) ∧ 0 < wi.length ∧ r = vw.ownBlock)
section
variable {w w' : World} {B g : Nat} {x : Inp} {vw : Value} {wi : List Inp} {r : Option Nat}
theorem WithV.lt (h : WithV w B g x vw wi r) : ∀ k, r = some k → B ≤ k ∧ k < w.heap.size := by
  rcases h with ⟨_, _, h⟩ | ⟨h1, _, h⟩
  · intro k hk; rw [h] at hk; cases hk
  · intro k hk; exact h1.lt k (by rw [← h]; exact hk)
theorem WithV.other (h : WithV w B g x vw wi r) {b : Nat} {c : Array Value} {T : TypeId} {fr : Nat × Nat} (hb : w.heap[b]? = some (.cells c T fr)) (hT : T ≠ 93) : r ≠ some b := by
  rcases h with ⟨_, _, h⟩ | ⟨h1, _, h⟩
  · rw [h]; simp
  · rw [h]; exact own_other h1 hb hT
theorem WithV.ext (h : WithV w B g x vw wi r) (he : Below w.heap.size w w') : WithV w' B g x vw wi r := by
  rcases h with h | ⟨h1, h2⟩
  · exact .inl h
  · exact .inr ⟨own_ext h1 he, h2⟩
theorem WithV.keep {row : Option Nat} (h : WithV w B g x vw wi r) (hg : w.grownBy w' row) (hne : r = none ∨ r ≠ row) : WithV w' B g x vw wi r := by
  rcases h with h | ⟨h1, h2, h3⟩
  · exact .inl h
  · exact .inr ⟨h1.kept hg (by rw [← h3]; exact hne), h2, h3⟩
theorem WithV.pos (h : WithV w B g x vw wi r) : 0 < wi.length := by
  rcases h with ⟨_, h, _⟩ | ⟨_, h, _⟩
  · rw [h]; simp
  · exact h
theorem append_with (h : WithV w B g x vw wi r) (hrow : RowAt w g 0 (encInp x)) (hB : B ≤ w.heap.size) (ty : TypeId) {b c : Nat} {y : Inp} (hy : RowAt w b 0 (encInp y)) (hl : wi.length ≤ 1000) :
    ∃ v' w', (Builtin.append_ #[41, 41] ty #[vw, .slice (some ⟨b, 0, none⟩) 1 c]).run Try.prog w = .ok v' w' ∧ w'.ownsRow B 93 44 v' (wi.length + 1) ((wi ++ [y]).flatMap encInp) ∧ w.grownBy w' r ∧ MovedO w r v'.ownBlock ∧ WithV w' B g x vw wi r := by
  have e2 : (wi ++ [y]).flatMap encInp = wi.flatMap encInp ++ encInp y := by rw [List.flatMap_append]; simp
  have hnews : ∀ j u, (encInp y)[j]? = some u → w.cell? ((⟨b, 0, none⟩ : Addr).add j) = some u := fun j u hj => by rw [Addr.add_lit]; exact hy j u hj
  rw [e2]
  rcases h with ⟨rfl, rfl, rfl⟩ | ⟨h1, h2, h3⟩
  · obtain ⟨ht, hsz, i, z, hi, hz, hsize, hby, hzs⟩ := apB_spec ap_inp
    have hr := run_append_grow (P := Try.prog) w 41 ty 93 i z ht hi hz ⟨g, 0, none⟩ 1 1 (encInp x) (by rw [hsize]; rfl) (fun j u hj => by rw [Addr.add_lit]; exact hrow j u hj) ⟨b, 0, none⟩ 1 c (encInp y) (by rw [hsize]; rfl) hnews (by omega) (by omega) (growslice_fits (by omega) (by rw [hby]; omega))
    have hge := grownCap_ge w (1 + 1) 1 93
    have hcm : grownCap w (1 + 1) 1 93 ≤ maxLen := grownCap_le_maxLen w (1 + 1) 1 _ (le_maxLen (by omega))
    refine ⟨_, _, hr, ⟨by simp [encInp_length], .inr ⟨w.heap.size, _, _, rfl, hB, heap_alloc_new w.drew _, hge, hcm, ?_, ?_⟩⟩, ⟨rfl, rfl, rfl, by simp, fun k hk _ => heap_alloc_old w.drew _ hk⟩, .inr ⟨_, rfl, Nat.le_refl _⟩, .inl ⟨rfl, rfl, rfl⟩⟩
    · simp only [Array.size_append, List.size_toArray, size_zeroCells, hzs, encInp_length]
      omega
    · simp only [Array.toList_append, List.append_assoc]
      rw [← List.append_assoc]
      have : ([x].flatMap encInp ++ encInp y).length = ([x].length + 1) * 44 := by simp [encInp_length]
      have e3 : [x].flatMap encInp = encInp x := by simp
      rw [e3] at this ⊢
      rw [← this]
      exact List.take_left
  · obtain ⟨v', w', hr, h5, h6, h7, h8⟩ := run_append_at w B 41 ty 93 44 136 ap_inp vw wi.length _ h1 ⟨b, 0, none⟩ 1 c (encInp y) rfl hnews (encInp_one y) (le_maxLen (by omega)) (by omega) hB
    exact ⟨v', w', hr, h5, by rw [h3]; exact h6, by rw [h3]; exact h7, .inr ⟨h8, h2, h3⟩⟩
theorem BatAt.ext {base : Nat} {b : Bat} {cs : List Value} (h : BatAt base w b cs) (he : Below w.heap.size w w') : BatAt base w' b cs := by
  obtain ⟨g, c, g2, c2, h1, h2, h3, h4, h5, h6, h7, h8, ⟨c3, h9⟩, ⟨c4, h10⟩⟩ := h
  exact ⟨g, c, g2, c2, h1, h2, Nat.lt_of_lt_of_le h3 he.size, h4, Nat.lt_of_lt_of_le h5 he.size, h6.below he h3, h7.below he h5, h8, ⟨c3, (he.block _ h3).trans h9⟩, ⟨c4, (he.block _ h5).trans h10⟩⟩
/-- a batch stays where a row of another type grows -/
theorem BatAt.keep {base : Nat} {b : Bat} {cs : List Value} {row : Option Nat} (h : BatAt base w b cs) (hg : w.grownBy w' row) (hne : ∀ k cur T, w.heap[k]? = some (.cells cur T (0, 0)) → (T = 65 ∨ T = 55) → some k ≠ row) : BatAt base w' b cs := by
  obtain ⟨g, c, g2, c2, h1, h2, h3, h4, h5, h6, h7, h8, ⟨c3, h9⟩, ⟨c4, h10⟩⟩ := h
  have b1 := hg.block g h3 (hne g _ _ h9 (.inl rfl))
  have b2 := hg.block g2 h5 (hne g2 _ _ h10 (.inr rfl))
  exact ⟨g, c, g2, c2, h1, h2, Nat.lt_of_lt_of_le h3 hg.size, h4, Nat.lt_of_lt_of_le h5 hg.size, h6.mono b1, h7.mono b2, h8, ⟨c3, b1.trans h9⟩, ⟨c4, b2.trans h10⟩⟩
theorem BatAt.mono {base base' : Nat} {b : Bat} {cs : List Value} (h : BatAt base w b cs) (hb : base' ≤ base) : BatAt base' w b cs := by
  obtain ⟨g, c, g2, c2, h1, h2, h3, h4, h5, h6⟩ := h
  exact ⟨g, c, g2, c2, h1, by omega, h3, by omega, h5, h6⟩
end
/-- the memory at the label of one -/
structure OneW (w wr : World) (g : Nat) (x : Inp) (next limit key : Int) (ob : Option Bat) (wi left : List Inp) (vw vl : Value) (r : Option Nat) : Prop where
  below : Below w.heap.size w wr
  mkr : wr.heap[w.heap.size]? = some (.cells #[.int .i64 next, .int .i64 limit, .int .i64 key] 99 (0, 0))
  box : ∃ cs : List Value, wr.heap[w.heap.size + 1]? = some (.cells cs.toArray 49 (0, 0)) ∧ cs.length = 5 ∧ cs.all Value.oneCell' = true ∧ ∀ b, ob = some b → BatAt w.heap.size wr b cs
  left : wr.ownsRow (w.heap.size + 2) 93 44 vl left.length (left.flatMap encInp)
  wi : WithV wr (w.heap.size + 2) g x vw wi r
  ap : vl.ownBlock = none ∨ vl.ownBlock ≠ r
section
variable {w wr w2 : World} {g : Nat} {x : Inp} {next limit key : Int} {ob : Option Bat} {wi left : List Inp} {vw vl : Value} {r : Option Nat}
theorem OneW.size (h : OneW w wr g x next limit key ob wi left vw vl r) : w.heap.size + 2 ≤ wr.heap.size := by
  obtain ⟨cs, h1, _⟩ := h.box
  have := (Array.getElem?_eq_some_iff.1 h1).1; omega
theorem OneW.ext (h : OneW w wr g x next limit key ob wi left vw vl r) (he : Below wr.heap.size wr w2) : OneW w w2 g x next limit key ob wi left vw vl r := by
  have hs := h.size
  obtain ⟨cs, h1, h2, h3, h4⟩ := h.box
  exact ⟨h.below.trans (he.mono (by omega)), (he.block _ (by omega)).trans h.mkr, ⟨cs, (he.block _ (by omega)).trans h1, h2, h3, fun b hb => (h4 b hb).ext he⟩, own_ext h.left he, h.wi.ext he, h.ap⟩
theorem OneW.mkRow (h : OneW w wr g x next limit key ob wi left vw vl r) : RowAt wr w.heap.size 0 [.int .i64 next, .int .i64 limit, .int .i64 key] := RowAt.whole h.mkr
theorem flat_snoc (l : List Inp) (y : Inp) : (l ++ [y]).flatMap encInp = l.flatMap encInp ++ encInp y := by rw [List.flatMap_append]; simp
/-- what is left has grown -/
theorem OneW.grownLeft (h : OneW w wr g x next limit key ob wi left vw vl r) {vl' : Value} {y : Inp} (ho : w2.ownsRow (w.heap.size + 2) 93 44 vl' (left.length + 1) (left.flatMap encInp ++ encInp y)) (hg : wr.grownBy w2 vl.ownBlock) (hm : Moved wr vl vl') :
    OneW w w2 g x next limit key ob wi (left ++ [y]) vw vl' r := by
  have hs := h.size
  obtain ⟨cs, h1, h2, h3, h4⟩ := h.box
  have hw := h.wi.lt
  refine ⟨ext_grow h.below (by omega) hg (fun k hk => by have := (h.left.lt k hk).1; omega), (grown_block hg (by omega) (own_other h.left h.mkr (by decide))).trans h.mkr,
    ⟨cs, (grown_block hg (by omega) (own_other h.left h1 (by decide))).trans h1, h2, h3, fun b hb => (h4 b hb).keep hg (fun k cur T hk hT => fun e => own_other h.left hk (by rcases hT with rfl | rfl <;> decide) e.symm)⟩, ?_, h.wi.keep hg ?_, ?_⟩
  · rw [List.length_append, flat_snoc]; exact ho
  · cases hr : r with
    | none => exact .inl rfl
    | some k =>
      refine .inr fun e => ?_
      rcases h.ap with h5 | h5
      · rw [h5] at e; cases e
      · exact h5 (by rw [hr, e])
  · rcases hm with hm | ⟨k, hm, hk⟩
    · rw [hm]; exact h.ap
    · refine .inr fun e => ?_
      rw [hm] at e
      have := (hw k e.symm).2
      omega
/-- the inputs of the batch have grown -/
theorem OneW.grownWi (h : OneW w wr g x next limit key ob wi left vw vl r) {vw' : Value} {y : Inp} (ho : w2.ownsRow (w.heap.size + 2) 93 44 vw' (wi.length + 1) ((wi ++ [y]).flatMap encInp)) (hg : wr.grownBy w2 r) (hm : MovedO wr r vw'.ownBlock) :
    OneW w w2 g x next limit key ob (wi ++ [y]) left vw' vl vw'.ownBlock := by
  have hs := h.size
  obtain ⟨cs, h1, h2, h3, h4⟩ := h.box
  have hw := h.wi.lt
  refine ⟨ext_grow h.below (by omega) hg (fun k hk => by have := (hw k hk).1; omega), (hg.block _ (by omega) (fun e => h.wi.other h.mkr (by decide) e.symm)).trans h.mkr,
    ⟨cs, (hg.block _ (by omega) (fun e => h.wi.other h1 (by decide) e.symm)).trans h1, h2, h3, fun b hb => (h4 b hb).keep hg (fun k cur T hk hT => fun e => h.wi.other hk (by rcases hT with rfl | rfl <;> decide) e.symm)⟩, h.left.kept hg h.ap, .inr ⟨?_, by simp, rfl⟩, ?_⟩
  · rw [List.length_append]; exact ho
  · rcases hm with hm | ⟨k, hm, hk⟩
    · rw [hm]; exact h.ap
    · cases hv : vl.ownBlock with
      | none => exact .inl rfl
      | some j =>
        refine .inr fun e => ?_
        rw [hm] at e
        injection e with e
        have := (h.left.lt j hv).2
        omega
/-- a batch is stored -/
theorem OneW.setBox (h : OneW w wr g x next limit key ob wi left vw vl r) {ob' : Option Bat} {cs : List Value} (hl : cs.length = 5) (h1 : cs.all Value.oneCell' = true) (hB : ∀ b, ob' = some b → BatAt w.heap.size wr b cs) :
    OneW w (wr.setRow (w.heap.size + 1) cs.toArray) g x next limit key ob' wi left vw vl r := by
  have hs := h.size
  obtain ⟨cs0, h2, _⟩ := h.box
  have hg : wr.grownBy (wr.setRow (w.heap.size + 1) cs.toArray) (some (w.heap.size + 1)) := GrowR.setRow _ _
  refine ⟨below_setRow h.below (by omega) _, (hg.block _ (by omega) (fun e => by injection e with e; omega)).trans h.mkr, ⟨cs, setRow_heap _ _ _ _ _ _ h2, hl, h1, fun b hb => (hB b hb).keep hg (fun k cur T hk hT => fun e => ?_)⟩, h.left.kept hg ?_, h.wi.keep hg ?_, h.ap⟩
  · injection e with e
    subst e
    rw [h2] at hk
    injection hk with hk
    injection hk with _ hk _
    rcases hT with hT | hT <;> rw [hT] at hk <;> exact absurd hk (by decide)
  · exact .inr (own_other h.left h2 (by decide))
  · exact .inr (h.wi.other h2 (by decide))
end

end Go.Proofs.Ytjlledljancafaa
