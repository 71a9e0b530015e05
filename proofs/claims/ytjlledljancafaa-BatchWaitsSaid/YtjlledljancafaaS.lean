/- Pay; equal outpoints; Spends. -/
import Derived.Test.YtjlledljancafaaR
import Derived.Laws.StructEq
import Derived.Stop.BytesEq
set_option linter.unusedSimpArgs false
set_option linter.unusedVariables false
namespace Go.Proofs.Ytjlledljancafaa
open Go.RowKit Go.XB

theorem z_scr : zeroB Try.prog 53 38 = true := by kernel_rfl
theorem sz_scr : (Try.prog.info? 53).map (·.size) = some 38 := by kernel_rfl
theorem build_pay (k : Int) (W : World) : (Instr.build 53 #[(0, .int .i64 1), (1, .int .i64 k)]).run Try.prog W = .ok (.agg (encScr ⟨1, k, 0, 0, 0, 0, 0⟩).toArray) W := by kernel_rfl
set_option maxRecDepth 100000 in
set_option maxHeartbeats 400000 in
theorem pay_any (k : Int) (w : World) :
    Calls Try.prog 60 #[.int .i64 k] w fun e w' => e = .returned (.agg (encScr ⟨1, k, 0, 0, 0, 0, 0⟩).toArray) ∧ Below w.heap.size w w' := by
  go_enter Try.func60, Try.ntmps60
  go_wp2_with (first
      | (with_reducible refine at_alloc 53 rfl ?_; refine wpl_alloc_any rfl rfl z_scr ?_; intro cur hcur; (try simp only [Act.put, List.setIfInBounds_toArray, List.set_cons_zero, List.set_cons_succ, World.size_alloc]))
      | (with_reducible refine at_build 53 rfl ?_; refine wpl_build rfl rfl (build_pay k _) (by kernel_rfl) ?_; (try simp only [Act.put, List.setIfInBounds_toArray, List.set_cons_zero, List.set_cons_succ, World.size_alloc]))
      | (with_reducible refine at_store 53 rfl ?_; refine wpl_store_new (cs := encScr ⟨1, k, 0, 0, 0, 0, 0⟩) rfl rfl rfl rfl (by simp) rfl sz_scr (encScr_length _) hcur rfl ?_; (try simp only [Act.put, List.setIfInBounds_toArray, List.set_cons_zero, List.set_cons_succ, World.size_alloc])))
  refine ret_agg (cs := encScr ⟨1, k, 0, 0, 0, 0, 0⟩) rfl rfl rfl agg_scr (encScr_length _) (by (repeat (first | assumption | (with_reducible refine RowAt.new ?_; kernel_rfl) | (with_reducible refine RowAt.new1 ?_; kernel_rfl) | (with_reducible refine RowAt.new2 ?_; kernel_rfl) | (with_reducible refine RowAt.alloc ?_ _) | (with_reducible refine RowAt.drew ?_)))) ⟨rfl, ?_⟩
  exact (Below.refl _ _).alloc (Nat.le_refl _) _


def twoF (P : Program) (t t1 o1 t2 o2 : Nat) : Bool := match P.underlying t with
  | some (.struct fs) => match fs.toList with
    | [f1, f2] => (f1.name == "_") == false && f1.type == t1 && f1.offset == o1 && (f2.name == "_") == false && f2.type == t2 && f2.offset == o2
    | _ => false
  | _ => false
theorem twoF_spec {P : Program} {t t1 o1 t2 o2 : Nat} (h : twoF P t t1 o1 t2 o2 = true) : ∃ f1 f2 : Field, P.underlying t = some (.struct #[f1, f2]) ∧ (f1.name == "_") = false ∧ f1.type = t1 ∧ f1.offset = o1 ∧ (f2.name == "_") = false ∧ f2.type = t2 ∧ f2.offset = o2 := by
  unfold twoF at h
  split at h
  · rename_i fs hu
    split at h
    · rename_i f1 f2 hf
      simp only [Bool.and_eq_true, beq_iff_eq] at h
      obtain ⟨⟨⟨⟨⟨h1, h2⟩, h3⟩, h4⟩, h5⟩, h6⟩ := h
      exact ⟨f1, f2, by rw [hu]; congr 2; exact Array.ext' hf, h1, h2, h3, h4, h5, h6⟩
    · cases h
  · cases h
def hu8 (h : Nat) : List UInt8 := (List.range 32).map fun j => UInt8.ofNat (hb h j)
def ptEq (p q : Pt) : Bool := (hu8 p.h == hu8 q.h) && (p.n == q.n)
theorem encHash_u8 (h : Nat) : encHash h = (hu8 h).map Extern.Stop.cell := by
  unfold encHash hu8
  rw [List.map_map]
  refine List.map_congr_left fun j _ => ?_
  simp only [Function.comp, Extern.Stop.cell]
  congr 1
  have : hb h j < 256 := Nat.mod_lt _ (by decide)
  simp [UInt8.toNat_ofNat, Nat.mod_eq_of_lt this]
set_option maxRecDepth 100000 in
theorem part_h (p : Pt) (W : World) : (part 32 (encPt p).toArray 0).run Try.prog W = .ok (.agg (encHash p.h).toArray) W := by kernel_rfl
set_option maxRecDepth 100000 in
theorem part_n (p : Pt) (W : World) : (part 3 (encPt p).toArray 32).run Try.prog W = .ok (.int .i64 p.n) W := by kernel_rfl
set_option maxRecDepth 100000 in
theorem eqIn_hash (d : Nat) (h k : Nat) (W : World) : (Op.equalIn (d + 2) 32 (.agg (encHash h).toArray) (.agg (encHash k).toArray)).run Try.prog W = .ok (hu8 h == hu8 k) W := by
  rw [encHash_u8, encHash_u8]
  exact run_equalIn_bytes W d 32 5 32 (by kernel_rfl) (by kernel_rfl) (fun w => rfl) _ _ (by simp [hu8]) (by simp [hu8])
set_option maxRecDepth 100000 in
theorem eqIn_pt (d : Nat) (p q : Pt) (W : World) : (Op.equalIn (d + 3) 57 (.agg (encPt p).toArray) (.agg (encPt q).toArray)).run Try.prog W = .ok (ptEq p q) W := by
  obtain ⟨f1, f2, hu, n1, t1, o1, n2, t2, o2⟩ := twoF_spec (P := Try.prog) (t := 57) (t1 := 32) (o1 := 0) (t2 := 3) (o2 := 32) (by kernel_rfl)
  have hf : Try.prog.fieldsOf 57 = #[f1, f2] := by simp [Program.fieldsOf, hu]
  rw [run_equalIn_struct W (d + 2) 57 _ _ (by rw [hf]; exact hu) (by kernel_rfl), hf]
  have m1 : f1.name ≠ "_" := by simpa using n1
  have m2 : f2.name ≠ "_" := by simpa using n2
  have e2 : (Op.equalIn (d + 2) 3 (.int .i64 p.n) (.int .i64 q.n)).run Try.prog W = .ok (p.n == q.n) W := run_equalIn_int W (d + 1) 3 .i64 .i64 _ _ (by kernel_rfl)
  simp only [Op.eqFields, if_pos m1, if_pos m2, t1, o1, t2, o2, Sem.run_bind, part_h, part_n, eqIn_hash, e2, Result.andThen_ok]
  unfold ptEq
  cases (hu8 p.h == hu8 q.h) <;> cases h2 : (p.n == q.n) <;> simp [part_n, e2, h2]
theorem eq_pt (p q : Pt) (W : World) : (binOp .eql 57 (.agg (encPt p).toArray) (.agg (encPt q).toArray)).run Try.prog W = .ok (.bool (ptEq p q)) W := by
  rw [run_eql_struct, eqIn_pt 9997 p q W]
  rfl

end Go.Proofs.Ytjlledljancafaa
