/- What the drawn statements of maker.one may do to the memory. -/
import Derived.Test.YtjlledljancafaaON0
import Derived.Test.YtjlledljancafaaB5
set_option linter.unusedSimpArgs false
set_option linter.unusedVariables false
namespace Go.Proofs.Ytjlledljancafaa
open Go.RowKit Go.XB

theorem ne_type {w : World} {a b : Nat} {c c' : Array Value} {T T' : TypeId} (ha : w.heap[a]? = some (.cells c T (0, 0))) (hb : w.heap[b]? = some (.cells c' T' (0, 0))) (h : T ≠ T') : a ≠ b := by
  intro e
  subst e
  rw [ha] at hb
  injection hb with hb
  injection hb with _ hb _
  exact h hb
theorem lt_of {w : World} {a : Nat} {o : Obj} (h : w.heap[a]? = some o) : a < w.heap.size := (Array.getElem?_eq_some_iff.1 h).1
/-- blocks below N stay, but for r and b -/
def FixR (N : Nat) (r : Option Nat) (b : Option Nat) (u v : World) : Prop := v.os = u.os ∧ v.tape = u.tape ∧ v.output = u.output ∧ u.heap.size ≤ v.heap.size ∧ ∀ k, k < N → k < u.heap.size → some k ≠ r → some k ≠ b → v.heap[k]? = u.heap[k]?
theorem FixR.refl {N : Nat} {r b : Option Nat} (u : World) : FixR N r b u u := ⟨rfl, rfl, rfl, Nat.le_refl _, fun _ _ _ _ _ => rfl⟩
theorem FixR.trans {N : Nat} {r b : Option Nat} {u v x : World} (h : FixR N r b u v) (h2 : FixR N r b v x) : FixR N r b u x :=
  ⟨h2.1.trans h.1, h2.2.1.trans h.2.1, h2.2.2.1.trans h.2.2.1, Nat.le_trans h.2.2.2.1 h2.2.2.2.1, fun k hk hu hr hb => (h2.2.2.2.2 k hk (Nat.lt_of_lt_of_le hu h.2.2.2.1) hr hb).trans (h.2.2.2.2 k hk hu hr hb)⟩
theorem FixR.grown {N : Nat} {r b row : Option Nat} {u v : World} (h : u.grownBy v row) (hr : ∀ k, row = some k → k < N → row = r ∨ row = b) : FixR N r b u v :=
  ⟨h.os, h.tape, h.output, h.size, fun k hk hu hr1 hb1 => h.block k hu (fun e => by rcases hr k e.symm hk with h2 | h2 <;> rw [h2] at e <;> first | exact hr1 e | exact hb1 e)⟩
theorem FixR.ext {N : Nat} {r b : Option Nat} {u v : World} (h : Below u.heap.size u v) : FixR N r b u v := ⟨h.os, h.tape, h.output, h.size, fun k _ hu _ _ => h.block k hu⟩
/-- the drawn statements of one -/
def OneR (N B g : Nat) (x : Inp) (vw : Value) (wi : List Inp) (r b : Option Nat) (u v : World) : Prop := FixR N r b u v ∧ (WithV u B g x vw wi r → WithV v B g x vw wi r) ∧
  (∀ k c, b = some k → u.heap[k]? = some (.cells c 49 (0, 0)) → c.size = 5 → ∃ c', v.heap[k]? = some (.cells c' 49 (0, 0)) ∧ c'.size = 5)
section
variable {N B g : Nat} {x : Inp} {vw : Value} {wi : List Inp} {r b : Option Nat}
theorem OneR.refl (u : World) : OneR N B g x vw wi r b u u := ⟨FixR.refl u, id, fun k c hb h1 h2 => ⟨c, h1, h2⟩⟩
theorem OneR.trans (u v y : World) (h : OneR N B g x vw wi r b u v) (h2 : OneR N B g x vw wi r b v y) : OneR N B g x vw wi r b u y :=
  ⟨h.1.trans h2.1, fun hw => h2.2.1 (h.2.1 hw), fun k c hb h3 h4 => by obtain ⟨c', h5, h6⟩ := h.2.2 k c hb h3 h4; exact h2.2.2 k c' hb h5 h6⟩
theorem OneR.ext {u v : World} (h : Below u.heap.size u v) : OneR N B g x vw wi r b u v := ⟨FixR.ext h, fun hw => hw.ext h, fun k c _ h3 h4 => ⟨c, (h.block k (lt_of h3)).trans h3, h4⟩⟩
/-- the append -/
def AppS (B g : Nat) (x : Inp) (vw : Value) (wi : List Inp) (r b : Option Nat) (u v : World) : Prop := u.grownBy v r ∧ (WithV u B g x vw wi r → WithV v B g x vw wi r) ∧
  (∀ k c, b = some k → u.heap[k]? = some (.cells c 49 (0, 0)) → v.heap[k]? = some (.cells c 49 (0, 0)))
theorem AppS.refl (u : World) : AppS B g x vw wi r b u u := ⟨⟨rfl, rfl, rfl, Nat.le_refl _, fun _ _ _ => rfl⟩, id, fun _ _ _ h => h⟩
theorem OneR.app {u v : World} (h : AppS B g x vw wi r b u v) : OneR N B g x vw wi r b u v := ⟨FixR.grown h.1 (fun _ _ _ => .inl rfl), h.2.1, fun k c hb h3 h4 => ⟨c, h.2.2 k c hb h3, h4⟩⟩
/-- a store into a batch's variable -/
def BoxS (N : Nat) (u v : World) : Prop := u = v ∨ ∃ k c, N ≤ k ∧ u.heap[k]? = some (.cells c 49 (0, 0)) ∧ BoxR k 49 5 u v
theorem BoxS.refl {N : Nat} (u : World) : BoxS N u u := .inl rfl
def BoxB (k : Nat) (u v : World) : Prop := u = v ∨ (BoxR k 49 5 u v ∧ ∃ c : Array Value, u.heap[k]? = some (.cells c 49 (0, 0)))
theorem BoxB.refl {k : Nat} (u : World) : BoxB k u u := .inl rfl
theorem WithV.boxS {u v : World} {k : Nat} {c : Array Value} (h : WithV u B g x vw wi r) (hk : u.heap[k]? = some (.cells c 49 (0, 0))) (hb : BoxR k 49 5 u v) : WithV v B g x vw wi r :=
  h.keep hb.1 (.inr (h.other hk (by decide)))
theorem OneR.box {u v : World} (h : BoxS N u v) (hbN : ∀ k, b = some k → k < N) : OneR N B g x vw wi r b u v := by
  rcases h with rfl | ⟨k, c, hN, hk, hb⟩
  · exact OneR.refl _
  · refine ⟨FixR.grown hb.1 (fun j hj hlt => by injection hj with hj; omega), fun hw => hw.boxS hk hb, fun j cj hj h3 h4 => ?_⟩
    have := hbN j hj
    exact ⟨cj, (hb.1.block j (lt_of h3) (fun e => by injection e with e; omega)).trans h3, h4⟩
theorem OneR.boxB {u v : World} {k : Nat} (h : BoxR k 49 5 u v) (hc : ∃ c : Array Value, u.heap[k]? = some (.cells c 49 (0, 0))) : OneR N B g x vw wi r (some k) u v := by
  obtain ⟨c, hc⟩ := hc
  exact ⟨FixR.grown h.1 (fun j hj hlt => .inr rfl), fun hw => hw.boxS hc h, fun j cj hj h3 h4 => by injection hj with hj; subst hj; exact h.2 cj h3 h4⟩
end
section
variable {w wS w1 : World} {g : Nat} {x : Inp} {next limit key : Int} {ob : Option Bat} {wi left : List Inp} {vw vl : Value} {r : Option Nat}
theorem OneW.keepR (M : OneW w wS g x next limit key ob wi left vw vl r) (h : OneR wS.heap.size (w.heap.size + 2) g x vw wi r none wS.drew w1) : OneW w w1 g x next limit key ob wi left vw vl r := by
  have hs := M.size
  have hw := M.wi.lt
  obtain ⟨cs, h1, h2, h3, h4⟩ := M.box
  have hblk : ∀ k, k < wS.heap.size → some k ≠ r → w1.heap[k]? = wS.heap[k]? := fun k hk hr => h.1.2.2.2.2 k hk hk hr (by simp)
  have hg : wS.grownBy w1 r := ⟨h.1.1, h.1.2.1, h.1.2.2.1, h.1.2.2.2.1, fun k hk hr => hblk k hk hr⟩
  refine ⟨ext_grow M.below (by omega) hg (fun k hk => by have := (hw k hk).1; omega), (hg.block _ (by omega) (fun e => by have := (hw _ e.symm).1; omega)).trans M.mkr, ⟨cs, (hg.block _ (by omega) (fun e => by have := (hw _ e.symm).1; omega)).trans h1, h2, h3, fun b hb => (h4 b hb).keep hg (fun k cur T hk hT => fun e => M.wi.other hk (by rcases hT with rfl | rfl <;> decide) e.symm)⟩,
    M.left.kept hg M.ap, h.2.1 M.wi, M.ap⟩
theorem oneR_row (M : OneW w wS g x next limit key ob wi left vw vl r) {b : Option Nat} (h : OneR wS.heap.size (w.heap.size + 2) g x vw wi r b wS.drew w1) {k o : Nat} {cs : List Value} (hk : k < wS.heap.size) (hr : k < w.heap.size + 2) (hb : some k ≠ b) (hrow : RowAt wS k o cs) : RowAt w1 k o cs :=
  hrow.mono (h.1.2.2.2.2 k hk hk (fun e => by have := (M.wi.lt k e.symm).1; omega) hb)
/-- the larger batch is taken -/
theorem OneW.taken (M : OneW w wS g x next limit key ob wi left vw vl r) (h : OneR wS.heap.size (w.heap.size + 2) g x vw wi r (some (w.heap.size + 1)) wS.drew w1) {y : Inp} {vw' : Value} {m : Bat} {cs : List Value}
    (ho : w1.ownsRow (w.heap.size + 2) 93 44 vw' (wi.length + 1) ((wi ++ [y]).flatMap encInp)) (hm : MovedO wS r vw'.ownBlock) (hb : w1.heap[w.heap.size + 1]? = some (.cells cs.toArray 49 (0, 0))) (hl : cs.length = 5) (h1 : cs.all Value.oneCell' = true) (hB : BatAt w.heap.size wS m cs) :
    OneW w w1 g x next limit key (some m) (wi ++ [y]) left vw' vl vw'.ownBlock := by
  have hs := M.size
  have hw := M.wi.lt
  obtain ⟨cs0, hb0, _⟩ := M.box
  have hblk : ∀ k, k < wS.heap.size → some k ≠ r → k ≠ w.heap.size + 1 → w1.heap[k]? = wS.heap[k]? := fun k hk hr hne => h.1.2.2.2.2 k hk hk hr (fun e => hne (by injection e))
  have hltB : ∀ k, k < wS.heap.size → ∀ cur T, wS.heap[k]? = some (.cells cur T (0, 0)) → T ≠ 49 → k ≠ w.heap.size + 1 := fun k hk cur T hc hT => ne_type hc hb0 hT
  refine ⟨?_, (hblk _ (by omega) (fun e => by have := (hw _ e.symm).1; omega) (by omega)).trans M.mkr, ⟨cs, hb, hl, h1, fun b hbb => ?_⟩, ?_, .inr ⟨?_, by simp, rfl⟩, ?_⟩
  · exact ⟨h.1.1.trans M.below.os, h.1.2.1.trans M.below.tape, h.1.2.2.1.trans M.below.output, Nat.le_trans M.below.size h.1.2.2.2.1, fun k hk => (hblk k (by have := M.below.size; omega) (fun e => by have := (hw _ e.symm).1; omega) (by omega)).trans (M.below.block k hk)⟩
  · injection hbb with hbb
    subst hbb
    obtain ⟨g1, c1, g2, c2, e1, e2, e3, e4, e5, e6, e7, e8, ⟨c3, e9⟩, ⟨c4, e10⟩⟩ := hB
    have b1 := hblk g1 e3 (fun e => M.wi.other e9 (by decide) e.symm) (hltB g1 e3 _ _ e9 (by decide))
    have b2 := hblk g2 e5 (fun e => M.wi.other e10 (by decide) e.symm) (hltB g2 e5 _ _ e10 (by decide))
    have hsz := h.1.2.2.2.1
    simp only [World.size_drew] at hsz
    exact ⟨g1, c1, g2, c2, e1, e2, by omega, e4, by omega, e6.mono b1, e7.mono b2, e8, ⟨c3, b1.trans e9⟩, ⟨c4, b2.trans e10⟩⟩
  · refine ⟨M.left.1, ?_⟩
    rcases M.left.2 with h5 | ⟨gl, cap, cur, h5, h6, h7, h8⟩
    · exact .inl h5
    · refine .inr ⟨gl, cap, cur, h5, h6, ?_, h8⟩
      rw [hblk gl (lt_of h7) (fun e => by
        rcases M.ap with h9 | h9
        · rw [h5] at h9; cases h9
        · exact h9 (by rw [h5]; exact e)) (hltB gl (lt_of h7) _ _ h7 (by decide))]
      exact h7
  · rw [List.length_append]; exact ho
  · rcases hm with hm | ⟨k, hm, hk⟩
    · rw [hm]; exact M.ap
    · cases hv : vl.ownBlock with
      | none => exact .inl rfl
      | some j =>
        refine .inr fun e => ?_
        rw [hm] at e
        injection e with e
        have := (M.left.lt j hv).2
        omega
end

end Go.Proofs.Ytjlledljancafaa
