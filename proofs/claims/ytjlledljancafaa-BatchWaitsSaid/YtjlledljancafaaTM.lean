/- A map of outpoints: its entries, one for each, in the order in which they came. -/
import Derived.Test.YtjlledljancafaaS
import Derived.Test.YtjlledljancafaaB3
import Derived.ChangeMaps4
import Derived.MapKept
import Derived.WideKeyEntry
set_option linter.unusedSimpArgs false
set_option linter.unusedVariables false
namespace Go.Proofs.Ytjlledljancafaa
open Go.RowKit Go.XB
open Go.ChangeMaps
theorem u8_inj : ∀ {l m : List UInt8}, l.map Extern.Stop.cell = m.map Extern.Stop.cell → l = m
  | [], [], _ => rfl
  | [], _ :: _, h => by simp at h
  | _ :: _, [], h => by simp at h
  | a :: l, b :: m, h => by
    simp only [List.map_cons, List.cons.injEq, Extern.Stop.cell, Value.int.injEq, true_and] at h
    obtain ⟨h1, h2⟩ := h
    rw [u8_inj h2]
    have hab : a = b := UInt8.toNat_inj.1 (Int.ofNat.inj h1)
    rw [hab]
theorem ptEq_enc {p q : Pt} : ptEq p q = true ↔ encPt p = encPt q := by
  unfold ptEq encPt
  rw [encHash_u8, encHash_u8]
  simp only [Bool.and_eq_true, beq_iff_eq]
  constructor
  · rintro ⟨h1, h2⟩; rw [h1, h2]
  · intro h
    obtain ⟨h1, h2⟩ := List.append_inj h (by simp [hu8])
    refine ⟨u8_inj h1, ?_⟩
    simpa using h2
theorem ptEq_refl (p : Pt) : ptEq p p = true := ptEq_enc.2 rfl
theorem ptEq_symm {p q : Pt} (h : ptEq p q = true) : ptEq q p = true := ptEq_enc.2 (ptEq_enc.1 h).symm
theorem ptEq_trans {p q r : Pt} (h : ptEq p q = true) (h2 : ptEq q r = true) : ptEq p r = true := ptEq_enc.2 ((ptEq_enc.1 h).trans (ptEq_enc.1 h2))
def keyV (p : Pt) : Value := .agg (encPt p).toArray
theorem keyV_eq {p q : Pt} (h : ptEq p q = true) : keyV p = keyV q := by unfold keyV; rw [ptEq_enc.1 h]
set_option maxRecDepth 100000 in
theorem key_check (em : Bool) (p : Pt) (W : World) : (Instr.checkKey em 10000 57 (keyV p)).run Try.prog W = .ok () W := by kernel_rfl
theorem same_ints : ∀ (cs : List Value) (n : Nat), (∀ c ∈ cs, ∃ k a, c = .int k a) → (cs.zip cs).all (fun x => Instr.sameBits (n + 1) x.1 x.2) = true
  | [], _, _ => rfl
  | c :: cs, n, h => by
    obtain ⟨k, a, rfl⟩ := h c (by simp)
    rw [List.zip_cons_cons, List.all_cons, same_ints cs n (fun c hc => h c (by simp [hc]))]
    have hk : (k == k) = true := by cases k <;> rfl
    simp [Instr.sameBits, hk]
theorem enc_ints (p : Pt) : ∀ c ∈ encPt p, ∃ k a, c = .int k a := by
  intro c hc
  unfold encPt encHash at hc
  rw [List.mem_append] at hc
  rcases hc with h | h
  · obtain ⟨j, _, rfl⟩ := List.mem_map.1 h; exact ⟨_, _, rfl⟩
  · simp only [List.mem_singleton] at h; exact ⟨_, _, h⟩
theorem key_stays (p : Pt) (W : World) : (Instr.keyThatStays (keyV p) (keyV p)).run Try.prog W = .ok (keyV p) W := by
  have h : Instr.sameBits 10000 (keyV p) (keyV p) = true := by
    have h1 := same_ints (encPt p) 9998 (enc_ints p)
    show ((encPt p).toArray.size == (encPt p).toArray.size && ((encPt p).toArray.toList.zip (encPt p).toArray.toList).all fun (x, y) => Instr.sameBits 9999 x y) = true
    simp only [beq_self_eq_true, Bool.true_and]
    exact h1
  unfold Instr.keyThatStays
  rw [if_pos h]
  rfl
def idxP (p : Pt) : List Pt → Nat → Option Nat
  | [], _ => none
  | q :: l, i => if ptEq p q = true then some i else idxP p l (i + 1)
theorem idxP_spec {p : Pt} : ∀ {l : List Pt} {i : Nat}, (idxP p l i = none ∧ l.any (ptEq p) = false) ∨ ∃ j, idxP p l i = some (i + j) ∧ ∃ h : j < l.length, ptEq p l[j] = true
  | [], i => .inl ⟨rfl, rfl⟩
  | q :: l, i => by
    unfold idxP
    by_cases h : ptEq p q = true
    · rw [if_pos h]; exact .inr ⟨0, rfl, by simp, h⟩
    · rw [if_neg h]
      rcases idxP_spec (p := p) (l := l) (i := i + 1) with ⟨h1, h2⟩ | ⟨j, h1, h2, h3⟩
      · refine .inl ⟨h1, ?_⟩
        rw [List.any_cons, h2]
        simpa using h
      · exact .inr ⟨j + 1, by rw [h1]; congr 1; omega, by simp; omega, by simpa using h3⟩
/-- the entries of a map: these keys, in this order -/
def MapI (es : Array MapEntry) (clock : Nat) (qs : List Pt) : Prop := es.size = qs.length ∧ clock = qs.length ∧ ∀ i, (h : i < qs.length) → ∃ c : Int, es[i]? = some ⟨keyV qs[i], .int .i64 c, i⟩
theorem find_at (p : Pt) (W : World) : ∀ (es : List MapEntry) (qs : List Pt) (i : Nat), es.length = qs.length → (∀ j, (h : j < qs.length) → ∃ e, es[j]? = some e ∧ e.key = keyV qs[j]) →
    (Instr.findAsking 57 (keyV p) es i).run Try.prog W = .ok (match idxP p qs i with | some j => some (j, ((es[j - i]?).map (·.val)).getD (.tuple #[])) | none => none) W
  | [], [], i, _, _ => rfl
  | [], _ :: _, _, h, _ => by simp at h
  | _ :: _, [], _, h, _ => by simp at h
  | e :: es, q :: qs, i, hl, hk => by
    obtain ⟨e', he, hkey⟩ := hk 0 (by simp)
    simp only [List.getElem?_cons_zero, Option.some.injEq] at he
    subst he
    simp only [List.getElem_cons_zero] at hkey
    have hq : (Op.equal 57 (keyV p) (keyV q)).run Try.prog W = .ok (ptEq p q) W := eqIn_pt 9997 p q W
    unfold Instr.findAsking
    simp only [Sem.run_bind, hkey, hq, Result.andThen_ok]
    unfold idxP
    by_cases h : ptEq p q = true
    · rw [if_pos h, h]
      simp
    · rw [if_neg h]
      simp only [Bool.not_eq_true] at h
      rw [h]
      have ih := find_at p W es qs (i + 1) (by simpa using hl) (fun j hj => by
        obtain ⟨e', h1, h2⟩ := hk (j + 1) (by simp; omega)
        exact ⟨e', by simpa using h1, by simpa using h2⟩)
      simp only [Bool.false_eq_true, if_false]
      rw [ih]
      rcases idxP_spec (p := p) (l := qs) (i := i + 1) with ⟨h1, _⟩ | ⟨j, h1, _, _⟩
      · rw [h1]
      · rw [h1]
        have e1 : i + 1 + j - (i + 1) = j := by omega
        have e2 : i + 1 + j - i = j + 1 := by omega
        simp only [e1, e2, List.getElem?_cons_succ]
theorem u_pt : ∃ fs, Try.prog.underlying 57 = some (.struct fs) := by
  obtain ⟨f1, f2, hu, _⟩ := twoF_spec (P := Try.prog) (t := 57) (t1 := 32) (o1 := 0) (t2 := 3) (o2 := 32) (by kernel_rfl)
  exact ⟨_, hu⟩
theorem find_key (p : Pt) (W : World) {es : Array MapEntry} {clock : Nat} {qs : List Pt} (h : MapI es clock qs) :
    (idxP p qs 0 = none ∧ qs.any (ptEq p) = false ∧ (Instr.findKey 57 (keyV p) es.toList).run Try.prog W = .ok none W) ∨
    ∃ j c, ∃ hj : j < qs.length, ptEq p qs[j] = true ∧ es[j]? = some ⟨keyV qs[j], .int .i64 c, j⟩ ∧ (Instr.findKey 57 (keyV p) es.toList).run Try.prog W = .ok (some (j, .int .i64 c)) W := by
  obtain ⟨fs, hu⟩ := u_pt
  have hrun : (Instr.findKey 57 (keyV p) es.toList).run Try.prog W = (Instr.findAsking 57 (keyV p) es.toList 0).run Try.prog W := by
    unfold Instr.findKey
    simp only [Sem.run_bind, run_underlying hu, Result.andThen_ok]
    cases hes : es.toList with
    | nil => rfl
    | cons e l => rfl
  have hf := find_at p W es.toList qs 0 (by simpa using h.1) (fun j hj => by
    obtain ⟨c, hc⟩ := h.2.2 j hj
    exact ⟨_, by simpa using hc, rfl⟩)
  rw [hrun, hf]
  rcases idxP_spec (p := p) (l := qs) (i := 0) with ⟨h1, h2⟩ | ⟨j, h1, h2, h3⟩
  · rw [h1]; exact .inl ⟨rfl, h2, rfl⟩
  · obtain ⟨c, hc⟩ := h.2.2 j h2
    refine .inr ⟨j, c, h2, h3, hc, ?_⟩
    rw [h1]
    simp [hc]
/-- a key more, if it is a new one -/
def addP (qs : List Pt) (p : Pt) : List Pt := if qs.any (ptEq p) = true then qs else qs ++ [p]
theorem addP_twice (qs : List Pt) (p : Pt) : addP (addP qs p) p = addP qs p := by
  unfold addP
  by_cases h : qs.any (ptEq p) = true
  · rw [if_pos h, if_pos h]
  · rw [if_neg h, if_pos]
    rw [List.any_append]; simp [ptEq_refl]
section
variable {W : World} {m : Nat} {es : Array MapEntry} {clock : Nat} {qs : List Pt}
theorem u_map : Try.prog.underlying 134 = some (.map 57 3) := by kernel_rfl
theorem zero_int (W : World) : (zeroValue 3).run Try.prog W = .ok (.int .i64 0) W := by kernel_rfl
theorem map_lookup (hb : W.heap[m]? = some (.map es clock)) (h : MapI es clock qs) (p : Pt) : ∃ c : Int, (Instr.lookup 134 (.map (some m)) (keyV p) false).run Try.prog W = .ok (.int .i64 c) W := by
  rcases find_key p W h with ⟨_, _, h3⟩ | ⟨j, c, hj, h1, h2, h3⟩
  · refine ⟨0, ?_⟩
    simp [Instr.lookup, run_underlying u_map, MapKept.run_getObj_map hb, key_check, h3, zero_int, Result.andThen]
  · refine ⟨c, ?_⟩
    simp [Instr.lookup, run_underlying u_map, MapKept.run_getObj_map hb, key_check, h3, Result.andThen]
theorem map_entry (hb : W.heap[m]? = some (.map es clock)) (h : MapI es clock qs) (p : Pt) : ∃ (v : Value) (st : Nat) (es1 : Array MapEntry) (clock1 : Nat),
    (Instr.mapEntry 134 (.map (some m)) (keyV p)).run Try.prog W = .ok (.tuple #[v, .int .i64 (st : Int)]) (setBlock W m (.map es1 clock1)) ∧ MapI es1 clock1 (addP qs p) ∧ st < (addP qs p).length := by
  rcases find_key p W h with ⟨_, h2, h3⟩ | ⟨j, c, hj, h1, h2, h3⟩
  · refine ⟨.int .i64 0, clock, es.push ⟨keyV p, .int .i64 0, clock⟩, clock + 1, ?_, ?_, ?_⟩
    · simp [Instr.mapEntry, run_underlying u_map, MapKept.run_getObj_map hb, key_check, h3, zero_int, MapKept.run_setObj_map _ hb, Result.andThen, setBlock, goInt]
    · obtain ⟨e1, e2, e3⟩ := h
      unfold addP
      rw [h2, if_neg (by simp)]
      refine ⟨by simp [e1], by simp [e2], fun i hi => ?_⟩
      simp only [List.length_append, List.length_cons, List.length_nil] at hi
      by_cases hlt : i < qs.length
      · obtain ⟨c, hc⟩ := e3 i hlt
        refine ⟨c, ?_⟩
        rw [Array.getElem?_push, if_neg (by omega), hc, List.getElem_append_left hlt]
      · have : i = qs.length := by omega
        subst this
        refine ⟨0, ?_⟩
        rw [Array.getElem?_push, if_pos (by omega), e2]
        simp
    · unfold addP
      rw [h2, if_neg (by simp), h.2.1]
      simp
  · have hany : qs.any (ptEq p) = true := List.any_eq_true.2 ⟨_, List.getElem_mem hj, h1⟩
    have hsame : es.modify j (fun e => { e with key := keyV p }) = es := by
      apply Array.ext_getElem?
      intro i
      rw [Array.getElem?_modify]
      split
      · rename_i hij
        subst hij
        rw [h2, Option.map_some, keyV_eq h1]
      · rfl
    refine ⟨.int .i64 c, j, es, clock, ?_, ?_, ?_⟩
    · have hst : (Instr.keyThatStays (keyV qs[j]) (keyV p)).run Try.prog W = .ok (keyV p) W := by rw [← keyV_eq h1]; exact key_stays p W
      simp [Instr.mapEntry, run_underlying u_map, MapKept.run_getObj_map hb, key_check, h3, h2, hst, hsame, MapKept.run_setObj_map _ hb, Result.andThen, setBlock, goInt]
    · unfold addP; rw [if_pos hany]; exact h
    · unfold addP; rw [if_pos hany]; exact hj
theorem map_store (hb : W.heap[m]? = some (.map es clock)) (h : MapI es clock qs) {st : Nat} (hs : st < qs.length) (x : Int) : ∃ (es1 : Array MapEntry),
    (Instr.entryStore 134 (.map (some m)) (.int .i64 (st : Int)) (.int .i64 x)).run Try.prog W = .ok () (setBlock W m (.map es1 clock)) ∧ MapI es1 clock qs := by
  obtain ⟨e1, e2, e3⟩ := h
  obtain ⟨c, hc⟩ := e3 st hs
  have hidx : es.findIdx? (fun e => ((e.born : Nat) : Int) == ((st : Nat) : Int)) = some st := by
    rw [WideElems.findIdx_arr]
    have hn : (es.toList.map (·.born)).Nodup := by
      have he : es.toList.map (·.born) = List.range qs.length := by
        apply List.ext_getElem?
        intro i
        by_cases hi : i < qs.length
        · obtain ⟨c1, h1⟩ := e3 i hi
          simp [h1, hi]
        · rw [List.getElem?_eq_none (by simp; omega), List.getElem?_eq_none (by simp; omega)]
      rw [he]; exact List.nodup_range
    exact WideElems.findIdx_born (l := es.toList) (j := st) (e0 := ⟨keyV qs[st], .int .i64 c, st⟩) hn (by simpa using hc)
  refine ⟨es.modify st (fun e => { e with val := .int .i64 x }), ?_, by simpa using e1, e2, fun i hi => ?_⟩
  · simp [Instr.entryStore, MapKept.run_getObj_map hb, asInt, asIntOf, hidx, MapKept.run_setObj_map _ hb, Result.andThen, setBlock]
  · obtain ⟨c2, h2⟩ := e3 i hi
    rw [Array.getElem?_modify]
    split
    · rename_i hij
      subst hij
      exact ⟨x, by rw [h2]; rfl⟩
    · exact ⟨c2, h2⟩
theorem map_len (hb : W.heap[m]? = some (.map es clock)) (h : MapI es clock qs) (ty : TypeId) : (Builtin.len_ #[134] ty #[.map (some m)]).run Try.prog W = .ok (.int .i64 (qs.length : Int)) W := by
  simp [Builtin.len_, run_underlying u_map, MapKept.run_getObj_map hb, goInt, h.1]
theorem setBlock_new {W : World} {m : Nat} {o o' : Obj} (h : W.heap[m]? = some o) : (setBlock W m o').heap[m]? = some o' := by
  have := (Array.getElem?_eq_some_iff.1 h).1
  simp [setBlock, this]
theorem setBlock_grow {W : World} {m : Nat} {o' : Obj} : GrowR m W (setBlock W m o') :=
  ⟨rfl, rfl, rfl, by simp [setBlock], fun k _ hk => by simp only [setBlock]; rw [Array.getElem?_setIfInBounds, if_neg (fun e => hk (by rw [e]))]⟩
end

end Go.Proofs.Ytjlledljancafaa
