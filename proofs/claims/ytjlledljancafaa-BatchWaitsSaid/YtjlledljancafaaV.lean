/- batch.Make. -/
import Derived.Test.YtjlledljancafaaV0
import Derived.Test.YtjlledljancafaaAP
import Derived.Test.YtjlledljancafaaB2
import Derived.Deep.Cut
set_option linter.unusedSimpArgs false
set_option linter.unusedVariables false
namespace Go.Proofs.Ytjlledljancafaa
open Go.RowKit Go.XB

theorem ap_in : apB Try.prog 44 65 37 80 = true := by kernel_rfl
theorem ap_int : apB Try.prog 73 3 1 8 = true := by kernel_rfl
theorem agg_bat : aggB Try.prog 49 5 = true := by kernel_rfl
theorem z_bat : zeroB Try.prog 49 5 = true := by kernel_rfl
theorem sz_bat : (Try.prog.info? 49).map (·.size) = some 5 := by kernel_rfl
theorem encTIn_one (x : TIn) : ∀ v ∈ encTIn x, v.oneCell' = true := by
  have h : (encTIn x).all Value.oneCell' = true := by kernel_rfl
  simpa using h
theorem build_out1 (k : Int) (W : World) : (Instr.build 55 #[(1, .agg (encScr (payS k)).toArray)]).run Try.prog W = .ok (.agg (encTOut ⟨0, payS k⟩).toArray) W := by kernel_rfl
theorem build_tx0 (a1 : Option Addr) (n1 c1 : Nat) (W : World) : (Instr.build 47 #[(1, .slice a1 n1 c1)]).run Try.prog W = .ok (.agg #[.slice none 0 0, .slice a1 n1 c1, .int .i64 0]) W := by kernel_rfl
theorem build_bat (a1 : Option Addr) (n1 c1 : Nat) (r : Int) (W : World) : (Instr.build 49 #[(2, .int .i64 r), (0, .agg #[.slice none 0 0, .slice a1 n1 c1, .int .i64 0])]).run Try.prog W = .ok (.agg #[.slice none 0 0, .slice a1 n1 c1, .int .i64 0, .int .i64 0, .int .i64 r]) W := by kernel_rfl
theorem build_bat0 (W : World) : (Instr.build 49 #[]).run Try.prog W = .ok (.agg #[.slice none 0 0, .slice none 0 0, .int .i64 0, .int .i64 0, .int .i64 0]) W := by kernel_rfl
/-- the memory of Make's round -/
structure MkW (w wr : World) (l : List Inp) (ki kv gO : Nat) (vi vv : Value) (lk rate key : Int) : Prop where
  below : Below w.heap.size w wr
  box : wr.heap[w.heap.size]? = some (.cells #[vi, .slice (some ⟨gO, 0, none⟩) 1 1, .int .i64 lk, .int .i64 0, .int .i64 rate] 49 (0, 0))
  ins : wr.ownsRow (w.heap.size + 1) 65 37 vi ki (((l.take ki).map Inp.tin).flatMap encTIn)
  vals : wr.ownsRow (w.heap.size + 1) 3 1 vv kv (ints ((l.take kv).map fun i => i.value))
  out : wr.heap[gO]? = some (.cells (encTOut ⟨0, payS key⟩).toArray 55 (0, 0))
  gO1 : w.heap.size < gO
  ai : vi.ownBlock ≠ some gO
  av : vv.ownBlock ≠ some gO
  ap : Apart vi vv
section
variable {w wr w2 : World} {l : List Inp} {ki kv gO : Nat} {vi vv : Value} {lk rate key : Int}
theorem MkW.size (h : MkW w wr l ki kv gO vi vv lk rate key) : w.heap.size + 1 ≤ wr.heap.size := by
  have := (Array.getElem?_eq_some_iff.1 h.box).1; omega
theorem MkW.gO2 (h : MkW w wr l ki kv gO vi vv lk rate key) : gO < wr.heap.size := (Array.getElem?_eq_some_iff.1 h.out).1
theorem MkW.ext (h : MkW w wr l ki kv gO vi vv lk rate key) (he : Below wr.heap.size wr w2) : MkW w w2 l ki kv gO vi vv lk rate key :=
  ⟨h.below.trans (he.mono (by have := h.size; omega)), (he.block _ (by have := h.size; omega)).trans h.box, own_ext h.ins he, own_ext h.vals he, (he.block _ h.gO2).trans h.out, h.gO1, h.ai, h.av, h.ap⟩
theorem MkW.cell (h : MkW w wr l ki kv gO vi vv lk rate key) (j : Nat) {u : Value} (hu : [vi, .slice (some ⟨gO, 0, none⟩) 1 1, .int .i64 lk, .int .i64 0, .int .i64 rate][j]? = some u) : wr.cell? ⟨w.heap.size, j, none⟩ = some u := by
  have := (RowAt.whole (cs := [vi, .slice (some ⟨gO, 0, none⟩) 1 1, .int .i64 lk, .int .i64 0, .int .i64 rate]) h.box) j u hu
  rwa [Nat.zero_add] at this
theorem MkW.free (h : MkW w wr l ki kv gO vi vv lk rate key) (j : Nat) : wr.frozen? ⟨w.heap.size, j, none⟩ = false := by simp [World.frozen?, h.box]
/-- the row of inputs has grown, and is stored -/
theorem MkW.grownIns (h : MkW w wr l ki kv gO vi vv lk rate key) {vi' : Value} {x : Inp} (hx : l[ki]? = some x) (ho : w2.ownsRow (w.heap.size + 1) 65 37 vi' (ki + 1) (((l.take ki).map Inp.tin).flatMap encTIn ++ encTIn x.tin)) (hg : wr.grownBy w2 vi.ownBlock) (hm : Moved wr vi vi') :
    MkW w (w2.setCell ⟨w.heap.size, 0, none⟩ vi') l (ki + 1) kv gO vi' vv lk rate key := by
  have hs := h.size
  have hb : vi.ownBlock ≠ some w.heap.size := fun e => by have := (h.ins.lt _ e).1; omega
  have hb' : vi'.ownBlock ≠ some w.heap.size := hm.apart hb (by omega)
  have hv : vv.ownBlock ≠ some w.heap.size := fun e => by have := (h.vals.lt _ e).1; omega
  have e1 : w2.heap[w.heap.size]? = some (.cells #[vi, .slice (some ⟨gO, 0, none⟩) 1 1, .int .i64 lk, .int .i64 0, .int .i64 rate] 49 (0, 0)) := (grown_block hg (by omega) hb).trans h.box
  have e2 : ((l.take (ki + 1)).map Inp.tin).flatMap encTIn = ((l.take ki).map Inp.tin).flatMap encTIn ++ encTIn x.tin := by
    have hk : ki < l.length := (List.getElem?_eq_some_iff.1 hx).1
    rw [List.take_succ_eq_append_getElem hk, List.map_append, List.flatMap_append]
    have : l[ki] = x := by rw [List.getElem?_eq_getElem hk] at hx; exact Option.some.inj hx
    simp [this]
  refine ⟨?_, by simp only [World.setCell, Array.getElem?_modify, if_pos, e1, Option.map_some]; rfl, ?_, ?_, ?_, h.gO1, hm.apart h.ai h.gO2, h.av, (h.ap.symm.moved hm (fun k hk => (h.vals.lt k hk).2)).symm⟩
  · exact Below.setCell (ext_grow h.below (by omega) hg (fun k hk => by have := (h.ins.lt k hk).1; omega)) (Nat.le_refl _) _
  · rw [e2]; exact own_setCell ho hb' _
  · exact own_setCell (h.vals.kept hg (h.ap.symm)) hv _
  · rw [Below.heap_setCell _ _ _ _ (by show gO ≠ w.heap.size; have := h.gO1; omega)]
    exact (grown_block hg h.gO2 h.ai).trans h.out
theorem MkW.lock (h : MkW w wr l ki kv gO vi vv lk rate key) (m : Int) : MkW w (wr.setCell ⟨w.heap.size, 2, none⟩ (.int .i64 m)) l ki kv gO vi vv m rate key := by
  have hs := h.size
  have hv : vv.ownBlock ≠ some w.heap.size := fun e => by have := (h.vals.lt _ e).1; omega
  have hb : vi.ownBlock ≠ some w.heap.size := fun e => by have := (h.ins.lt _ e).1; omega
  refine ⟨h.below.setCell (Nat.le_refl _) _, ?_, own_setCell h.ins hb _, own_setCell h.vals hv _, ?_, h.gO1, h.ai, h.av, h.ap⟩
  · have h1 := h.box
    simp only [World.setCell, Array.getElem?_modify, if_pos, h1, Option.map_some]
    rfl
  · rw [Below.heap_setCell _ _ _ _ (by show gO ≠ w.heap.size; have := h.gO1; omega)]
    exact h.out
theorem MkW.grownVals (h : MkW w wr l ki kv gO vi vv lk rate key) {vv' : Value} {x : Inp} (hx : l[kv]? = some x) (ho : w2.ownsRow (w.heap.size + 1) 3 1 vv' (kv + 1) (ints ((l.take kv).map fun i => i.value) ++ [.int .i64 x.value])) (hg : wr.grownBy w2 vv.ownBlock) (hm : Moved wr vv vv') :
    MkW w w2 l ki (kv + 1) gO vi vv' lk rate key := by
  have hs := h.size
  have hv : vv.ownBlock ≠ some w.heap.size := fun e => by have := (h.vals.lt _ e).1; omega
  have e2 : ints ((l.take (kv + 1)).map fun i => i.value) = ints ((l.take kv).map fun i => i.value) ++ [.int .i64 x.value] := by
    have hk : kv < l.length := (List.getElem?_eq_some_iff.1 hx).1
    rw [List.take_succ_eq_append_getElem hk, List.map_append]
    have : l[kv] = x := by rw [List.getElem?_eq_getElem hk] at hx; exact Option.some.inj hx
    simp [ints, this]
  refine ⟨ext_grow h.below (by omega) hg (fun k hk => by have := (h.vals.lt k hk).1; omega), (grown_block hg (by omega) hv).trans h.box, h.ins.kept hg h.ap, ?_, (grown_block hg h.gO2 h.av).trans h.out, h.gO1, h.ai, hm.apart h.av h.gO2, h.ap.moved hm (fun k hk => (h.ins.lt k hk).2)⟩
  rw [e2]; exact ho
theorem MkW.start {w w1 : World} {cur : Array Value} {l : List Inp} {rate key : Int} (hb : Below (w.heap.size + 1) (w.alloc (.cells cur 49)) w1) :
    MkW w ((w1.alloc (.cells (encTOut ⟨0, payS key⟩).toArray 55)).setRow w.heap.size #[.slice none 0 0, .slice (some ⟨w1.heap.size, 0, none⟩) 1 1, .int .i64 0, .int .i64 0, .int .i64 rate]) l 0 0 w1.heap.size (.slice none 0 0) (.slice none 0 0) 0 rate key := by
  have hs : w.heap.size + 1 ≤ w1.heap.size := by have := hb.size; simpa using this
  have e1 : (w1.alloc (.cells (encTOut ⟨0, payS key⟩).toArray 55)).heap[w.heap.size]? = some (.cells cur 49 (0, 0)) := (Below.heap_alloc w1 _ _ (by omega)).trans ((hb.block _ (by omega)).trans (heap_alloc_new w _))
  refine ⟨?_, setRow_heap _ _ _ _ _ _ e1, ?_, ?_, ?_, by omega, by simp [Value.ownBlock], by simp [Value.ownBlock], Apart.nil _⟩
  · exact below_setRow (((((Below.refl _ _).alloc (Nat.le_refl _) _).trans (hb.mono (by omega)))).alloc (by omega) _) (Nat.le_refl _) _
  · exact World.ownsRow_nil _ _ _ _
  · exact World.ownsRow_nil _ _ _ _
  · rw [_root_.Go.setRow_other _ _ _ _ (by omega)]
    exact heap_alloc_new w1 _
/-- the memory at the end of Make -/
structure MkE (w wr : World) (ins : List TIn) (o : TOut) (n gi ci gO : Nat) (lk fee rate : Int) : Prop where
  below : Below w.heap.size w wr
  box : wr.heap[w.heap.size]? = some (.cells #[.slice (some ⟨gi, 0, none⟩) n ci, .slice (some ⟨gO, 0, none⟩) 1 1, .int .i64 lk, .int .i64 fee, .int .i64 rate] 49 (0, 0))
  ins : RowAt wr gi 0 (ins.flatMap encTIn)
  out : wr.heap[gO]? = some (.cells (encTOut o).toArray 55 (0, 0))
  gO1 : w.heap.size < gO
  gi1 : w.heap.size < gi
  gi2 : gi < wr.heap.size
  insT : ∃ cur, wr.heap[gi]? = some (.cells cur 65 (0, 0))
section
variable {w wr w2 : World} {ins : List TIn} {o : TOut} {n gi ci gO : Nat} {lk fee rate : Int}
theorem MkE.size (h : MkE w wr ins o n gi ci gO lk fee rate) : w.heap.size + 1 ≤ wr.heap.size := by
  have := (Array.getElem?_eq_some_iff.1 h.box).1; omega
theorem MkE.gO2 (h : MkE w wr ins o n gi ci gO lk fee rate) : gO < wr.heap.size := (Array.getElem?_eq_some_iff.1 h.out).1
theorem MkE.ext (h : MkE w wr ins o n gi ci gO lk fee rate) (he : Below wr.heap.size wr w2) : MkE w w2 ins o n gi ci gO lk fee rate :=
  ⟨h.below.trans (he.mono (by have := h.size; omega)), (he.block _ (by have := h.size; omega)).trans h.box, h.ins.below he h.gi2, (he.block _ h.gO2).trans h.out, h.gO1, h.gi1, Nat.lt_of_lt_of_le h.gi2 he.size, h.insT.imp fun c hc => (he.block _ h.gi2).trans hc⟩
theorem MkE.row (h : MkE w wr ins o n gi ci gO lk fee rate) : RowAt wr w.heap.size 0 [.slice (some ⟨gi, 0, none⟩) n ci, .slice (some ⟨gO, 0, none⟩) 1 1, .int .i64 lk, .int .i64 fee, .int .i64 rate] := RowAt.whole h.box
theorem MkE.row3 (h : MkE w wr ins o n gi ci gO lk fee rate) : RowAt wr w.heap.size 0 [.slice (some ⟨gi, 0, none⟩) n ci, .slice (some ⟨gO, 0, none⟩) 1 1, .int .i64 lk] := RowAt.sub (pre := []) (post := [.int .i64 fee, .int .i64 rate]) h.row
theorem MkE.outs (h : MkE w wr ins o n gi ci gO lk fee rate) : RowAt wr gO 0 (encTOut o) := RowAt.whole h.out
theorem MkE.free (h : MkE w wr ins o n gi ci gO lk fee rate) (j : Nat) : wr.frozen? ⟨w.heap.size, j, none⟩ = false := by simp [World.frozen?, h.box]
theorem MkE.freeO (h : MkE w wr ins o n gi ci gO lk fee rate) (j : Nat) : wr.frozen? ⟨gO, j, none⟩ = false := by simp [World.frozen?, h.out]
theorem MkE.cell (h : MkE w wr ins o n gi ci gO lk fee rate) (j : Nat) {u : Value} (hu : [.slice (some ⟨gi, 0, none⟩) n ci, .slice (some ⟨gO, 0, none⟩) 1 1, .int .i64 lk, .int .i64 fee, .int .i64 rate][j]? = some u) : wr.cell? ⟨w.heap.size, j, none⟩ = some u := by
  have := h.row j u hu
  rwa [Nat.zero_add] at this
/-- the fee is stored -/
theorem MkE.setFee (h : MkE w wr ins o n gi ci gO lk fee rate) (f : Int) : MkE w (wr.setCell ⟨w.heap.size, 3, none⟩ (.int .i64 f)) ins o n gi ci gO lk f rate := by
  have hs := h.size
  refine ⟨h.below.setCell (Nat.le_refl _) _, ?_, h.ins.mono (Below.heap_setCell _ _ _ _ (by show gi ≠ w.heap.size; have := h.gi1; omega)), ?_, h.gO1, h.gi1, by simpa [World.setCell] using h.gi2, h.insT.imp fun c hc => (Below.heap_setCell _ _ _ _ (by show gi ≠ w.heap.size; have := h.gi1; omega)).trans hc⟩
  · have h1 := h.box
    simp only [World.setCell, Array.getElem?_modify, if_pos, h1, Option.map_some]
    rfl
  · rw [Below.heap_setCell _ _ _ _ (by show gO ≠ w.heap.size; have := h.gO1; omega)]
    exact h.out
/-- the value is stored -/
theorem MkE.setValue (h : MkE w wr ins o n gi ci gO lk fee rate) (hne : gi ≠ gO) (v : Int) : MkE w (wr.setCell ⟨gO, 0, none⟩ (.int .i64 v)) ins ⟨v, o.scr⟩ n gi ci gO lk fee rate := by
  have hs := h.size
  refine ⟨h.below.setCell (by show w.heap.size ≤ gO; have := h.gO1; omega) _, ?_, h.ins.mono (Below.heap_setCell _ _ _ _ (by show gi ≠ gO; exact hne)), ?_, h.gO1, h.gi1, by simpa [World.setCell] using h.gi2, h.insT.imp fun c hc => (Below.heap_setCell _ _ _ _ (by show gi ≠ gO; exact hne)).trans hc⟩
  · rw [Below.heap_setCell _ _ _ _ (by show w.heap.size ≠ gO; have := h.gO1; omega)]
    exact h.box
  · have h1 := h.out
    simp only [World.setCell, Array.getElem?_modify, if_pos, h1, Option.map_some]
    rfl
end
/-- what the append of an input may do -/
def InsR (B k : Nat) (vi : Value) (xs : List Value) (u v : World) : Prop := u.grownBy v vi.ownBlock ∧ (u.ownsRow B 65 37 vi k xs → v.ownsRow B 65 37 vi k xs)
theorem InsR.refl {B k : Nat} {vi : Value} {xs : List Value} (u : World) : InsR B k vi xs u u := ⟨⟨rfl, rfl, rfl, Nat.le_refl _, fun _ _ _ => rfl⟩, id⟩
theorem InsR.trans {B k : Nat} {vi : Value} {xs : List Value} (a b c : World) (h : InsR B k vi xs a b) (h2 : InsR B k vi xs b c) : InsR B k vi xs a c :=
  ⟨⟨h2.1.os.trans h.1.os, h2.1.tape.trans h.1.tape, h2.1.output.trans h.1.output, Nat.le_trans h.1.size h2.1.size, fun j hj hr => (h2.1.block j (Nat.lt_of_lt_of_le hj h.1.size) hr).trans (h.1.block j hj hr)⟩, fun ho => h2.2 (h.2 ho)⟩
theorem InsR.ext {B k : Nat} {vi : Value} {xs : List Value} {u v : World} (h : Below u.heap.size u v) : InsR B k vi xs u v :=
  ⟨⟨h.os, h.tape, h.output, h.size, fun j hj _ => h.block j hj⟩, fun ho => own_ext ho h⟩
theorem MkW.insR {w w2 w1 : World} {l : List Inp} {k kv gO : Nat} {vi vv : Value} {lk rate key : Int} (M : MkW w w2 l k kv gO vi vv lk rate key) (h : InsR (w.heap.size + 1) k vi (((l.take k).map Inp.tin).flatMap encTIn) w2.drew w1) :
    MkW w w1 l k kv gO vi vv lk rate key ∧ w2.heap.size ≤ w1.heap.size ∧ ∀ g cs, g < w2.heap.size → vi.ownBlock ≠ some g → RowAt w2 g 0 cs → RowAt w1 g 0 cs := by
  have hs := M.size
  have hb : vi.ownBlock ≠ some w.heap.size := fun e => by have := (M.ins.lt _ e).1; omega
  have hg : w2.grownBy w1 vi.ownBlock := ⟨h.1.os, h.1.tape, h.1.output, h.1.size, h.1.block⟩
  exact ⟨⟨ext_grow M.below (by omega) hg (fun k hk => by have := (M.ins.lt k hk).1; omega), (grown_block hg (by omega) hb).trans M.box, h.2 M.ins, M.vals.kept hg M.ap.symm, (grown_block hg M.gO2 M.ai).trans M.out, M.gO1, M.ai, M.av, M.ap⟩,
    hg.size, fun g cs hgl hne hr => hr.mono (grown_block hg hgl hne)⟩
end
/-- a batch in memory -/
def BatAt (base : Nat) (w : World) (b : Bat) (cs : List Value) : Prop :=
  ∃ g c g2 c2, cs = [.slice (some ⟨g, 0, none⟩) b.ins.length c, .slice (some ⟨g2, 0, none⟩) 1 c2, .int .i64 b.lock, .int .i64 b.fee, .int .i64 b.rate] ∧ base ≤ g ∧ g < w.heap.size ∧ base ≤ g2 ∧ g2 < w.heap.size ∧
    RowAt w g 0 (b.ins.flatMap encTIn) ∧ RowAt w g2 0 (encTOut b.out) ∧ b.ins.length ≤ c ∧ (∃ cur, w.heap[g]? = some (.cells cur 65 (0, 0))) ∧ (∃ cur, w.heap[g2]? = some (.cells cur 55 (0, 0)))
def MakeQ (w : World) (r : Option Bat) (e : Ending) (w' : World) : Prop :=
  ∃ cs : List Value, e = .returned (.tuple #[.agg cs.toArray, .bool r.isSome]) ∧ cs.length = 5 ∧ cs.all Value.oneCell' = true ∧ Below w.heap.size w w' ∧ ∀ b, r = some b → BatAt w.heap.size w' b cs

theorem MkW.fin {w wr : World} {l : List Inp} {n gO gi ci : Nat} {vv : Value} {lk rate key : Int} (h : MkW w wr l n n gO (.slice (some ⟨gi, 0, none⟩) n ci) vv lk rate key) (hl : l.length = n) (h0 : 0 < n) : MkE w wr (l.map Inp.tin) ⟨0, payS key⟩ n gi ci gO lk 0 rate ∧ gi ≠ gO := by
  have hi := h.ins
  rw [List.take_of_length_le (by omega)] at hi
  obtain ⟨g, c, hv, hg1, hg2, _, hr⟩ := own_row hi h0
  obtain ⟨cur, hcur⟩ := own_type hi h0 hv
  injection hv with e1 e2 e3
  injection e1 with e1
  injection e1 with e1
  subst e1
  exact ⟨⟨h.below, h.box, hr, h.out, h.gO1, by omega, hg2, cur, hcur⟩, fun e => h.ai (by rw [e]; rfl)⟩
theorem RowAt.cell0 {w : World} {b : Nat} {cs : List Value} (h : RowAt w b 0 cs) (j : Nat) {u : Value} (hu : cs[j]? = some u) : w.cell? ⟨b, j, none⟩ = some u := by
  have := h j u hu
  rwa [Nat.zero_add] at this
theorem one_int (x : Int) : ∀ u ∈ [Value.int .i64 x], u.oneCell' = true := by
  intro u hu; simp only [List.mem_singleton] at hu; subst hu; rfl
theorem le_maxLen {n : Nat} (h : n ≤ 1000000) : n ≤ maxLen := by unfold maxLen; omega
theorem MakeQ.none {w w' : World} {r : Option Bat} (h : r = none) (hb : Below w.heap.size w w') : MakeQ w r (.returned (.tuple #[.agg [.slice none 0 0, .slice none 0 0, .int .i64 0, .int .i64 0, .int .i64 0].toArray, .bool false])) w' := by
  subst h
  exact ⟨_, rfl, rfl, rfl, hb, fun b h => by cases h⟩
theorem check_budget {x : Inp} (h : checkE x = 0) : 0 ≤ x.budget ∧ x.budget ≤ 2100000000000000 := by
  have h2 := (checkE_cv h).2.1
  unfold curveOk at h2
  simp only [Bool.and_eq_true, decide_eq_true_eq] at h2
  have h3 := h2.1.2
  unfold rateA at h3
  split at h3
  · rename_i hc
    simp only [Bool.and_eq_true] at hc
    exact inB_iff.1 (show inB x.budget 0 2100000000000000 = true from hc.1)
  · cases h3
theorem heldA_bd (a : Int) (ok : Bool) : 0 ≤ (heldA a ok).1 ∧ (heldA a ok).1 ≤ 2100000000000000 := by
  unfold heldA
  split
  · rename_i h
    simp only [Bool.and_eq_true] at h
    exact inB_iff.1 (show inB a 0 2100000000000000 = true from h.2)
  · omega
theorem totalA_bd : ∀ (xs : List Int) (s : Int), 0 ≤ s ∧ s ≤ 2100000000000000 → 0 ≤ (totalA xs s).1 ∧ (totalA xs s).1 ≤ 2100000000000000
  | [], s, h => h
  | a :: l, s, h => by
    unfold totalA
    split
    · exact totalA_bd l _ (heldA_bd _ _)
    · simp
theorem makeV_bd (l : List Inp) : 0 ≤ (makeV l).1 ∧ (makeV l).1 ≤ 2100000000000000 := totalA_bd _ 0 (by omega)
theorem makeF_bd (l : List Inp) (r : Int) : 0 ≤ (makeF l r).1 ∧ (makeF l r).1 ≤ 2100000000000000 := by
  unfold makeF feeA
  split
  · exact heldA_bd _ _
  · simp
theorem okAll_cons {x : Inp} {l : List Inp} : okAll (x :: l) = (decide (checkE x = 0) && okAll l) := by unfold okAll; rw [List.all_cons]
theorem makeA_bad {l : List Inp} {rate key : Int} (h : okAll l = false) : makeA l rate key = none := by unfold makeA; rw [if_pos (.inr (.inr h))]
theorem makeA_no {l : List Inp} {rate key : Int} (h : max (makeV l).2 (makeF l rate).2 ≠ 0 ∨ budA l 0 < (makeF l rate).1 ∨ (makeV l).1 - (makeF l rate).1 < 330) : makeA l rate key = none := by
  unfold makeA
  split
  · rfl
  · first | rfl | rw [if_pos h]
theorem makeA_un {l : List Inp} {rate key : Int} (h : txE (l.map Inp.tin) [⟨(makeV l).1 - (makeF l rate).1, payS key⟩] (lockA l 0) ≠ 0) : makeA l rate key = none := by
  unfold makeA
  split
  · rfl
  · split
    · rfl
    · first | rfl | rw [if_pos h]
theorem makeA_yes {l : List Inp} {rate key : Int} (h0 : 0 < l.length) (hk : inB key 0 1073741824 = true) (ho : okAll l = true) (h : ¬ (max (makeV l).2 (makeF l rate).2 ≠ 0 ∨ budA l 0 < (makeF l rate).1 ∨ (makeV l).1 - (makeF l rate).1 < 330))
    (ht : txE (l.map Inp.tin) [⟨(makeV l).1 - (makeF l rate).1, payS key⟩] (lockA l 0) = 0) : makeA l rate key = some ⟨l.map Inp.tin, (makeV l).1 - (makeF l rate).1, key, lockA l 0, (makeF l rate).1, rate⟩ := by
  unfold makeA
  rw [if_neg (by rw [hk, ho]; cases l <;> simp at h0 ⊢), if_neg h, if_neg (by rw [ht]; simp)]

set_option maxRecDepth 100000 in
set_option maxHeartbeats 4000000 in
theorem make_any (l : List Inp) (b n c : Nat) (rate key : Int) (h0 : 0 < n) (h1 : n ≤ 100) (w : World) (hl : l.length = n) (hr : RowAt w b 0 (l.flatMap encInp)) (hb : b < w.heap.size) :
    Calls Try.prog 34 #[.slice (some ⟨b, 0, none⟩) n c, .int .i64 rate, .int .i64 key] w (MakeQ w (makeA l rate key)) := by
  have HL := hidI hl
  have HR := hidI (And.intro hr hb)
  clear hl hr hb
  have a3 : ((n : Int) == 0) = false := by simp; omega
  cases hk : inB key 0 1073741824 with
  | false =>
    have HK := hidI hk
    have HM := hidI (show makeA l rate key = none by unfold makeA; rw [if_pos (.inr (.inl hk))])
    clear hk
    go_enter Try.func34, Try.ntmps34
    go_wp2_with (first
      | (with_reducible refine at_alloc 49 rfl ?_; refine wpl_alloc_any rfl rfl z_bat ?_; intro cur hcur; (try simp only [Act.put, List.setIfInBounds_toArray, List.set_cons_zero, List.set_cons_succ, World.size_alloc]))
      | (go_at_call 36; (with_reducible refine (within_batch _ _ _ _).mono ?_); rintro e w' ⟨rfl, rfl⟩; rw [HK.out])
      | (with_reducible refine at_build 49 rfl ?_; refine wpl_build rfl rfl (build_bat0 _) (by kernel_rfl) ?_; (try simp only [Act.put, List.setIfInBounds_toArray, List.set_cons_zero, List.set_cons_succ, World.size_alloc]))
      | (with_reducible refine at_store 49 rfl ?_; refine wpl_store_new (cs := [.slice none 0 0, .slice none 0 0, .int .i64 0, .int .i64 0, .int .i64 0]) rfl rfl rfl rfl (by simp) rfl sz_bat (Eq.refl _) hcur rfl ?_; (try simp only [Act.put, List.setIfInBounds_toArray, List.set_cons_zero, List.set_cons_succ, World.size_alloc])))
    refine ret_agg2 (v := .bool false) (cs := [.slice none 0 0, .slice none 0 0, .int .i64 0, .int .i64 0, .int .i64 0]) rfl rfl rfl rfl agg_bat rfl (RowAt.new (by rfl)) (MakeQ.none HM.out ((Below.refl _ _).alloc (Nat.le_refl _) _))
  | true =>
    have HK := hidI hk
    clear hk
    go_enter Try.func34, Try.ntmps34
    go_wp2_with (first
      | (with_reducible refine at_alloc 49 rfl ?_; refine wpl_alloc_any rfl rfl z_bat ?_; intro cur hcur; (try simp only [Act.put, List.setIfInBounds_toArray, List.set_cons_zero, List.set_cons_succ, World.size_alloc]))
      | (go_at_call 36; (with_reducible refine (within_batch _ _ _ _).mono ?_); rintro e w' ⟨rfl, rfl⟩; rw [HK.out])
      | (go_at_call 60; (with_reducible refine (pay_any _ _).mono ?_); rintro e w1 ⟨rfl, hb1⟩; have HB1 := hidI hb1; have e6 := (hb1.block w.heap.size (by simp only [World.size_alloc]; omega)).trans (heap_alloc_new w _); have hz1 : w.heap.size + 1 ≤ w1.heap.size := (by have := hb1.size; simpa using this); have E6 := hidI e6; clear hb1 e6)
      | (with_reducible refine at_build 55 rfl ?_; refine wpl_build rfl rfl (build_out1 key _) (by kernel_rfl) ?_; (try simp only [Act.put, List.setIfInBounds_toArray, List.set_cons_zero, List.set_cons_succ, World.size_alloc]))
      | (with_reducible refine at_buildSlice 45 rfl ?_; refine wpl_buildSlice_one (cs := encTOut ⟨0, payS key⟩) (n := 39) rfl rfl rfl sl_out (by decide) (by decide) rfl ?_; (try simp only [Act.put, List.setIfInBounds_toArray, List.set_cons_zero, List.set_cons_succ, World.size_alloc]))
      | (with_reducible refine at_build 47 rfl ?_; refine wpl_build rfl rfl (build_tx0 _ _ _ _) (by kernel_rfl) ?_; (try simp only [Act.put, List.setIfInBounds_toArray, List.set_cons_zero, List.set_cons_succ, World.size_alloc]))
      | (with_reducible refine at_build 49 rfl ?_; refine wpl_build rfl rfl (build_bat _ _ _ rate _) (by kernel_rfl) ?_; (try simp only [Act.put, List.setIfInBounds_toArray, List.set_cons_zero, List.set_cons_succ, World.size_alloc]))
      | (with_reducible refine at_store 49 rfl ?_; refine wpl_store_own (e := 49) (cs := [.slice none 0 0, .slice (some ⟨w1.heap.size, 0, none⟩) 1 1, .int .i64 0, .int .i64 0, .int .i64 rate]) rfl rfl rfl rfl rfl sz_bat rfl ((Below.heap_alloc w1 _ _ (by omega)).trans E6.out) hcur rfl ?_; (try simp only [Act.put, List.setIfInBounds_toArray, List.set_cons_zero, List.set_cons_succ, World.size_alloc])))
    go_loopg [34, 8, 9] n (fun q i vv bb wr => ∃ (k gO : Nat) (vi : Value) (lk bd : Int), k ≤ n ∧ n - k ≤ q ∧ i = .int .i64 k ∧ bb = .int .i64 bd ∧ 0 ≤ bd ∧ bd ≤ 1152921504606846976 ∧ Hid (MkW w wr l k k gO vi vv lk rate key) ∧ Hid (okAll (l.drop k) = okAll l ∧ budA (l.drop k) bd = budA l 0 ∧ lockA (l.drop k) lk = lockA l 0))
    case atStart => exact ⟨0, w1.heap.size, .slice none 0 0, 0, 0, Nat.zero_le _, by omega, rfl, rfl, by omega, by omega, MkW.start (by have h := HB1.out; simpa using h), rfl, rfl, rfl⟩
    case round =>
      obtain ⟨k, gO, vi, lk, bd, hk, hgk, rfl, rfl, hbd0, hbd1, HM, HT⟩ := hrel
      have hz0 := HM.out.size
      by_cases hlt : k < n
      · have hlt2 : k < l.length := by rw [HL.out]; exact hlt
        obtain ⟨x, hx⟩ : ∃ x, x = l[k] := ⟨_, rfl⟩
        have HX := hidI (show l[k]? = some x ∧ l.drop k = x :: l.drop (k + 1) from ⟨by rw [hx]; exact List.getElem?_eq_getElem hlt2, by rw [hx]; exact List.drop_eq_getElem_cons hlt2⟩)
        have HROW := hidI (show RowAt wr b (k * 44) (encInp x) by rw [hx]; have := (RowAt.elem encInp_length HR.out.1 hlt2).below HM.out.below HR.out.2; rwa [Nat.zero_add] at this)
        clear hx hlt2
        have hkz : (k : Int) < (n : Int) := by omega
        have hk0 : ¬ (k : Int) < 0 := by omega
        have HBM := hidI (show ∀ w2, Below (wr.alloc (.cells (encInp x).toArray 93)).heap.size (wr.alloc (.cells (encInp x).toArray 93)) w2 → MkW w w2 l k k gO vi u8 lk rate key from fun w2 h2 => HM.out.ext (Ext.trans ((Below.refl _ _).alloc (Nat.le_refl _) _) h2))
        by_cases hc : checkE x = 0
        · have HC := hidI hc
          clear hc
          go_wp2_with (first
            | (with_reducible refine at_load 93 rfl ?_; refine wpl_load_agg (b := b) (cs := encInp x) rfl rfl rfl agg_inp (encInp_length x) (HROW.out) ?_; (try simp only [Act.put, List.setIfInBounds_toArray, List.set_cons_zero, List.set_cons_succ, World.size_alloc]))
            | (with_reducible refine at_load 93 rfl ?_; refine wpl_load_agg (b := wr.heap.size) (cs := encInp x) rfl rfl rfl agg_inp (encInp_length x) (RowAt.new (by kernel_rfl)) ?_; (try simp only [Act.put, List.setIfInBounds_toArray, List.set_cons_zero, List.set_cons_succ, World.size_alloc]))
            | (with_reducible refine at_alloc 93 rfl ?_; refine wpl_alloc_any rfl rfl z_inp ?_; intro ci hci; (try simp only [Act.put, List.setIfInBounds_toArray, List.set_cons_zero, List.set_cons_succ, World.size_alloc]))
            | (with_reducible refine at_store 93 rfl ?_; refine wpl_store_new (cs := encInp x) rfl rfl rfl rfl (by simp) rfl sz_inp (encInp_length _) hci rfl ?_; (try simp only [Act.put, List.setIfInBounds_toArray, List.set_cons_zero, List.set_cons_succ, World.size_alloc]))
            | (go_at_call 35; (with_reducible refine (check_any x _).mono ?_); rintro e w2 ⟨rfl, hb2⟩; rw [HC.out]; have HB2 := hidI hb2; have hz2 : wr.heap.size + 1 ≤ w2.heap.size := (by have := hb2.size; simpa using this); clear hb2))
          have M2 := hidI (HBM.out w2 HB2.out)
          have HI := hidI (show RowAt w2 wr.heap.size 0 (encInp x) from box_at HB2.out)
          have hvb := hidI (show vi.ownBlock ≠ some wr.heap.size from fun e => by have := (HM.out.ins.lt _ e).2; omega)
          refine wp_region_last _ [[], [0], [1], [], [3], [4], [2, 5], [], [7], []] (InsR (w.heap.size + 1) k vi (((l.take k).map Inp.tin).flatMap encTIn)) (fun ix u v => match ix with | 4 => Ext u v | 5 => Ext u v | 6 => InsR (w.heap.size + 1) k vi (((l.take k).map Inp.tin).flatMap encTIn) u v | _ => u = v) (fun ix v w' => match ix with | 0 => v = .pointer (some ⟨w.heap.size, 0, none⟩) | 1 => v = .pointer (some ⟨w.heap.size, 0, none⟩) | 2 => v = vi | 3 => v = .agg (encInp x).toArray | 4 => v = .agg (encTIn x.tin).toArray | 5 => ∃ g5, v = .slice (some ⟨g5, 0, none⟩) 1 1 ∧ RowAt w' g5 0 (encTIn x.tin) ∧ w2.heap.size ≤ g5 ∧ g5 < w'.heap.size | 6 => w'.ownsRow (w.heap.size + 1) 65 37 v (k + 1) ((((l.take k).map Inp.tin).flatMap encTIn) ++ encTIn x.tin) ∧ Moved w2 vi v ∧ w2.grownBy w' vi.ownBlock | 7 => v = .pointer (some ⟨w.heap.size, 0, none⟩) | 8 => v = .pointer (some ⟨w.heap.size, 0, none⟩) | _ => True) 9 (by kernel_rfl) (by kernel_rfl) (by kernel_rfl) (by kernel_rfl) (by kernel_rfl) (fun vs => by simp only [putAll, Act.put, List.setIfInBounds_toArray, List.set_cons_zero, List.set_cons_succ]; rfl) InsR.refl InsR.trans ?hsr ?hse ?stab ?steps
          case hsr =>
            intro i u u' h
            match i, h with
            | 4, h => exact InsR.ext h
            | 5, h => exact InsR.ext h
            | 6, h => exact h
            | 0, h => cases h; exact InsR.refl _
            | 1, h => cases h; exact InsR.refl _
            | 2, h => cases h; exact InsR.refl _
            | 3, h => cases h; exact InsR.refl _
            | n + 7, h => cases h; exact InsR.refl _
          case hse =>
            intro i u
            match i with
            | 4 => exact Ext.refl _
            | 5 => exact Ext.refl _
            | 6 => exact InsR.refl _
            | 0 => rfl
            | 1 => rfl
            | 2 => rfl
            | 3 => rfl
            | n + 7 => rfl
          case stab =>
            intro i j v u u' hij hi hj hp hv hs
            match i, hv with
            | 0, hv => exact hv
            | 1, hv => exact hv
            | 2, hv => exact hv
            | 3, hv => exact hv
            | 4, hv => exact hv
            | 7, hv => exact hv
            | 8, hv => exact hv
            | 5, ⟨g5, e5, h5, h6, h7⟩ =>
              match j, hs with
              | 0, hs => cases hs; exact ⟨g5, e5, h5, h6, h7⟩
              | 1, hs => cases hs; exact ⟨g5, e5, h5, h6, h7⟩
              | 2, hs => cases hs; exact ⟨g5, e5, h5, h6, h7⟩
              | 3, hs => cases hs; exact ⟨g5, e5, h5, h6, h7⟩
              | 4, hs => exact ⟨g5, e5, h5.below hs h7, h6, Nat.lt_of_lt_of_le h7 hs.size⟩
              | 5, hs => exact absurd rfl hij
              | 6, hs => exact ⟨g5, e5, h5.mono (hs.1.block _ h7 (fun e => by have := (M2.out.ins.lt _ e.symm).2; omega)), h6, Nat.lt_of_lt_of_le h7 hs.1.size⟩
              | 7, hs => cases hs; exact ⟨g5, e5, h5, h6, h7⟩
              | 8, hs => cases hs; exact ⟨g5, e5, h5, h6, h7⟩
              | n + 9, _ => omega
            | 6, hv =>
              match j, hs, hp with
              | 0, hs, _ => cases hs; exact hv
              | 1, hs, _ => cases hs; exact hv
              | 2, hs, _ => cases hs; exact hv
              | 3, hs, _ => cases hs; exact hv
              | 4, hs, hp => exact absurd (show false = true from hp.symm.trans (by kernel_rfl)) (by decide)
              | 5, hs, hp => exact absurd (show false = true from hp.symm.trans (by kernel_rfl)) (by decide)
              | 6, hs, _ => exact absurd rfl hij
              | 7, hs, _ => cases hs; exact hv
              | 8, hs, _ => cases hs; exact hv
              | n + 9, _, _ => omega
            | n + 9, hv => omega
          case steps =>
            simp only [StepAllP, List.headD, List.tail, AllV]
            refine ⟨⟨fun _ => ?_, fun h => absurd h (by decide)⟩, ⟨fun _ => ?_, fun h => absurd h (by decide)⟩, ⟨fun _ => ?_, fun h => absurd h (by decide)⟩, ⟨fun _ => ?_, fun h => absurd h (by decide)⟩, ⟨fun _ => ?_, fun h => absurd h (by decide)⟩, ⟨fun _ => ?_, fun h => absurd h (by decide)⟩, ⟨fun _ => ?_, fun h => absurd h (by decide)⟩, ⟨fun _ => ?_, fun h => absurd h (by decide)⟩, ⟨fun _ => ?_, fun h => absurd h (by decide)⟩, ⟨fun h => absurd rfl h, fun _ => ?_⟩, trivial⟩
            · intro vs w1 hR hp
              refine step_value (v := .pointer (some ⟨w.heap.size, 0, none⟩)) (by simp [go_sem]) (by rfl) rfl rfl
            · intro vs w1 hR hp; obtain ⟨p0, _⟩ := hp
              refine step_value (v := .pointer (some ⟨w.heap.size, 0, none⟩)) (by simp [go_sem, p0]) (by rfl) rfl rfl
            · intro vs w1 hR hp; obtain ⟨p1, _⟩ := hp
              obtain ⟨M1, hs1, hk1⟩ := M2.out.insR hR
              have q := M1.cell 0 rfl
              refine step_value (v := vi) (by simp [go_sem, q, p1]) (by rfl) rfl rfl
            · intro vs w1 hR hp
              obtain ⟨M1, hs1, hk1⟩ := M2.out.insR hR
              exact step_value (exec_load_agg (b := wr.heap.size) (off := 0) rfl rfl agg_inp (encInp_length x) (hk1 _ _ (by omega) hvb.out HI.out)) (by rfl) rfl rfl
            · intro vs w1 hR hp; obtain ⟨p3, _⟩ := hp
              refine step_call (f := 61) (args := #[.agg (encInp x).toArray]) (w' := w1) (by simp [go_sem, p3]) (by rfl) (in_any x w1) (fun e w3 hc => ?_)
              obtain ⟨rfl, hb2⟩ := hc
              exact ⟨_, rfl, hb2, rfl⟩
            · intro vs w1 hR hp; obtain ⟨p4, _⟩ := hp
              obtain ⟨M1, hs1, hk1⟩ := M2.out.insR hR
              refine step_value (exec_buildSlice_one (cs := encTIn x.tin) rfl (by simp [go_sem, p4]) sl_in (by omega) (by omega) (encTIn_length _) w1) (by rfl) ((Below.refl _ _).alloc (Nat.le_refl _) _) ⟨_, rfl, RowAt.new (by kernel_rfl), hs1, by simp⟩
            · intro vs w1 hR hp; obtain ⟨p2, p5, _⟩ := hp
              obtain ⟨M1, hs1, hk1⟩ := M2.out.insR hR
              obtain ⟨g5, e5, hr5, _, _⟩ := p5
              obtain ⟨v', w3, hrun, ho3, hg3, hm3, hs3⟩ := run_append_at w1 (w.heap.size + 1) 44 44 65 37 80 ap_in vi k _ M1.ins ⟨g5, 0, none⟩ 1 1 (encTIn x.tin) rfl (fun j u hj => by rw [Addr.add_lit]; exact hr5 j u hj) (encTIn_one _) (by unfold maxLen; omega) (by omega) (by have := M1.size; omega)
              refine step_value (v := v') (w' := w3) (exec_append_at rfl (by simp [go_sem, p2]) (by simp [go_sem, e5]) hrun) (by rfl) ⟨hg3, fun _ => hs3⟩ ⟨ho3, hm3.imp id (fun ⟨g, h1, h2⟩ => ⟨g, h1, Nat.le_trans hs1 h2⟩), ?_⟩
              exact ⟨hg3.os.trans hR.1.os, hg3.tape.trans hR.1.tape, hg3.output.trans hR.1.output, Nat.le_trans hs1 hg3.size, fun j hj hr => (hg3.block j (by omega) hr).trans (hR.1.block j hj hr)⟩
            · intro vs w1 hR hp
              refine step_value (v := .pointer (some ⟨w.heap.size, 0, none⟩)) (by simp [go_sem]) (by rfl) rfl rfl
            · intro vs w1 hR hp; obtain ⟨p7, _⟩ := hp
              refine step_value (v := .pointer (some ⟨w.heap.size, 0, none⟩)) (by simp [go_sem, p7]) (by rfl) rfl rfl
            · simp only [List.range_succ, List.range_zero, List.nil_append, List.cons_append, AllV]
              intro vs w1 hR hp
              obtain ⟨p0, p1, p2, p3, p4, p5, p6, p7, p8, _⟩ := hp
              obtain ⟨M1, hs1, hk1⟩ := M2.out.insR hR
              obtain ⟨ho6, hm6, hg6⟩ := p6
              obtain ⟨g5, e5, _⟩ := p5
              obtain ⟨gi, ci, p6, _⟩ := own_row ho6 (by omega)
              rw [p6] at ho6 hm6
              have hMB := M2.out.grownIns HX.out.1 ho6 hg6 hm6
              have HIB := hidI ((hk1 _ _ (by omega) hvb.out HI.out).mono (Below.heap_setCell w1 ⟨w.heap.size, 0, none⟩ (.slice (some ⟨gi, 0, none⟩) (k + 1) ci) wr.heap.size (by show wr.heap.size ≠ w.heap.size; omega)))
              have q := M1.cell 0 rfl
              have qf := M1.free 0
              refine last_skip rfl (w' := w1.setCell ⟨w.heap.size, 0, none⟩ (.slice (some ⟨gi, 0, none⟩) (k + 1) ci)) (by simp [go_sem, q, qf, p8, p6]) (by rfl) ?_
              simp only [p0, p1, p2, p3, p4, e5, p7, p8, p6]
              have hsB : w2.heap.size ≤ (w1.setCell ⟨w.heap.size, 0, none⟩ (.slice (some ⟨gi, 0, none⟩) (k + 1) ci)).heap.size := by simpa [World.setCell] using hs1
              clear hR hk1 M1 hs1 ho6 hm6 hg6 q qf p0 p1 p2 p3 p4 e5 p6 p7 p8
              obtain ⟨wB, hwB⟩ : ∃ wB, wB = w1.setCell ⟨w.heap.size, 0, none⟩ (.slice (some ⟨gi, 0, none⟩) (k + 1) ci) := ⟨_, rfl⟩
              rw [← hwB] at hMB HIB hsB
              rw [← hwB]
              clear hwB
              have MB := hidI hMB
              have qa := hMB.cell 2 rfl
              have qb := hMB.free 2
              have qc := HIB.out 38 _ (show (encInp x)[38]? = some (.int .i64 x.clm.lock) from rfl)
              rw [Nat.zero_add] at qc
              clear hMB
              go_upto_region 13 with (first
                | (with_reducible refine at_bi .max rfl ?_; refine wpl_max2 rfl rfl rfl rfl ?_; (try simp only [Act.put, List.setIfInBounds_toArray, List.set_cons_zero, List.set_cons_succ, World.size_alloc])))
              obtain ⟨wC, hwC⟩ : ∃ wC, wC = wB.setCell ⟨w.heap.size, 2, none⟩ (.int .i64 (max lk x.clm.lock)) := ⟨_, rfl⟩
              have MC := hidI (show MkW w wC l (k + 1) k gO (.slice (some ⟨gi, 0, none⟩) (k + 1) ci) u8 (max lk x.clm.lock) rate key by rw [hwC]; exact MB.out.lock _)
              have HIC := hidI (show RowAt wC wr.heap.size 0 (encInp x) by rw [hwC]; exact HIB.out.mono (Below.heap_setCell wB ⟨w.heap.size, 2, none⟩ _ wr.heap.size (by show wr.heap.size ≠ w.heap.size; omega)))
              have hsC : w2.heap.size ≤ wC.heap.size := by rw [hwC]; simpa [World.setCell] using hsB
              have hbl := hidI (check_budget HC.out)
              have hbl0 := hbl.out.1
              have hbl1 := hbl.out.2
              rw [← hwC]
              clear hwC qa qb qc
              have qd := HIC.out 33 _ (show (encInp x)[33]? = some (.int .i64 x.value) from rfl)
              rw [Nat.zero_add] at qd
              have H43 := hidI (show (encInp x)[43]? = some (.int .i64 x.budget) from rfl)
              have hvv := hidI (show u8.ownBlock ≠ some wr.heap.size from fun e => by have := (HM.out.vals.lt _ e).2; omega)
              go_wp2_with (first
                | (with_reducible refine at_bi .append rfl ?_; refine wpl_append (t := 73) rfl rfl (w.heap.size + 1) 3 1 8 ap_int (MC.out.vals.alloc _) (news := [.int .i64 x.value]) rfl rfl rfl (RowAt.new (by simp)) (one_int _) (le_maxLen (by omega)) (by omega) (by simp only [World.size_alloc]; have := MC.out.size; omega) ?_; intro vv' wD hown hgrow hmov; (try simp only [Act.put, List.setIfInBounds_toArray, List.set_cons_zero, List.set_cons_succ, World.size_alloc]); have MD := hidI ((MC.out.ext ((Below.refl _ _).alloc (Nat.le_refl _) _)).grownVals HX.out.1 hown hgrow hmov); have qe := RowAt.cell0 ((HIC.out.alloc (.cells #[.int .i64 x.value] 3)).mono (grown_block hgrow (by simp only [World.size_alloc]; omega) hvv.out)) 43 H43.out; clear hown hgrow hmov)
                | (with_reducible refine at_bi .min rfl ?_; refine wpl_min2 rfl rfl rfl rfl ?_; (try simp only [Act.put, List.setIfInBounds_toArray, List.set_cons_zero, List.set_cons_succ, World.size_alloc])))
              go_roundg (n - (k + 1))
              case measure => omega
              case rel => exact ⟨k + 1, gO, .slice (some ⟨gi, 0, none⟩) (k + 1) ci, max lk x.clm.lock, min (bd + x.budget) 1152921504606846976, by omega, by omega, by go_num, rfl, by omega, by omega, MD.out, by have h := HT.out.1; rw [HX.out.2, okAll_cons, decide_eq_true HC.out, Bool.true_and] at h; exact h, by have h := HT.out.2.1; rw [HX.out.2] at h; exact h, by have h := HT.out.2.2; rw [HX.out.2] at h; exact h⟩

        · obtain ⟨er, her⟩ : ∃ er, checkE x = er := ⟨_, rfl⟩
          rw [her] at hc
          have HC := hidI her
          have HM0 := hidI (show makeA l rate key = none from makeA_bad (by rw [← HT.out.1, HX.out.2, okAll_cons, her, decide_eq_false hc]; rfl))
          have hcb : (er != 0) = true := by simpa using hc
          clear her
          go_wp2_with (first
            | (with_reducible refine at_load 93 rfl ?_; refine wpl_load_agg (b := b) (cs := encInp x) rfl rfl rfl agg_inp (encInp_length x) (HROW.out) ?_; (try simp only [Act.put, List.setIfInBounds_toArray, List.set_cons_zero, List.set_cons_succ, World.size_alloc]))
            | (with_reducible refine at_load 93 rfl ?_; refine wpl_load_agg (b := wr.heap.size) (cs := encInp x) rfl rfl rfl agg_inp (encInp_length x) (RowAt.new (by kernel_rfl)) ?_; (try simp only [Act.put, List.setIfInBounds_toArray, List.set_cons_zero, List.set_cons_succ, World.size_alloc]))
            | (with_reducible refine at_alloc 93 rfl ?_; refine wpl_alloc_any rfl rfl z_inp ?_; intro ci hci; (try simp only [Act.put, List.setIfInBounds_toArray, List.set_cons_zero, List.set_cons_succ, World.size_alloc]))
            | (with_reducible refine at_store 93 rfl ?_; refine wpl_store_new (cs := encInp x) rfl rfl rfl rfl (by simp) rfl sz_inp (encInp_length _) hci rfl ?_; (try simp only [Act.put, List.setIfInBounds_toArray, List.set_cons_zero, List.set_cons_succ, World.size_alloc]))
            | (go_at_call 35; (with_reducible refine (check_any x _).mono ?_); rintro e w2 ⟨rfl, hb2⟩; rw [HC.out]; have HB2 := hidI hb2; have hz2 : wr.heap.size + 1 ≤ w2.heap.size := (by have := hb2.size; simpa using this); clear hb2)
            | (with_reducible refine at_build 49 rfl ?_; refine wpl_build rfl rfl (build_bat0 _) (by kernel_rfl) ?_; (try simp only [Act.put, List.setIfInBounds_toArray, List.set_cons_zero, List.set_cons_succ, World.size_alloc]))
            | (with_reducible refine at_store 49 rfl ?_; refine wpl_store_own (e := 49) (cs := [.slice none 0 0, .slice none 0 0, .int .i64 0, .int .i64 0, .int .i64 0]) rfl rfl rfl rfl rfl sz_bat rfl (HBM.out w2 HB2.out).box rfl rfl ?_; (try simp only [Act.put, List.setIfInBounds_toArray, List.set_cons_zero, List.set_cons_succ, World.size_alloc])))
          have M2 := HBM.out w2 HB2.out
          refine ret_agg2 (v := .bool false) (cs := [.slice none 0 0, .slice none 0 0, .int .i64 0, .int .i64 0, .int .i64 0]) rfl rfl rfl rfl agg_bat rfl (RowAt.setRow M2.box) (MakeQ.none HM0.out (below_setRow M2.below (Nat.le_refl _) _))
      · have hke : k = n := by omega
        subst hke
        obtain ⟨gv, cv, hv, _, hgv, _, hrv⟩ := own_row HM.out.vals h0
        obtain ⟨gi, ci, hvi, _, _, hci, _⟩ := own_row HM.out.ins h0
        subst hv
        subst hvi
        obtain ⟨hE, hne⟩ := HM.out.fin HL.out h0
        rw [List.take_of_length_le (by rw [HL.out]; exact Nat.le_refl _)] at hrv
        have hT := HT.out
        rw [List.drop_of_length_le (by rw [HL.out]; exact Nat.le_refl _)] at hT
        have hbe : bd = budA l 0 := hT.2.1
        have hle : lk = lockA l 0 := hT.2.2
        have HOK := hidI (show okAll l = true from hT.1.symm)
        obtain ⟨tv, htv⟩ : ∃ p, p = (makeV l).1 := ⟨_, rfl⟩
        obtain ⟨te, hte⟩ : ∃ p, p = (makeV l).2 := ⟨_, rfl⟩
        obtain ⟨fv, hfv⟩ : ∃ p, p = (makeF l rate).1 := ⟨_, rfl⟩
        obtain ⟨fe, hfe⟩ : ∃ p, p = (makeF l rate).2 := ⟨_, rfl⟩
        obtain ⟨wt, hwt⟩ : ∃ p, p = weightT (l.map Inp.tin) 1 := ⟨_, rfl⟩
        obtain ⟨hv0, hv1⟩ := makeV_bd l
        obtain ⟨hf0, hf1⟩ := makeF_bd l rate
        rw [← htv] at hv0 hv1
        rw [← hfv] at hf0 hf1
        have HTO := hidI (show Calls Try.prog 43 #[.slice (some ⟨gv, 0, none⟩) k cv] wr fun e w' => e = .returned (.tuple #[.int .i64 tv, .int .i64 te]) ∧ wr = w' by
          have h := total_amount (l.map fun i => i.value) gv cv (by rw [List.length_map, HL.out]; omega) wr hrv
          rw [List.length_map, HL.out] at h
          rw [htv, hte]; exact h)
        have HWT := hidI (show Calls Try.prog 21 #[.agg #[.slice (some ⟨gi, 0, none⟩) k ci, .slice (some ⟨gO, 0, none⟩) 1 1, .int .i64 lk]] wr fun e w' => e = .returned (.int .i64 wt) ∧ Below wr.heap.size wr w' by
          have h := weight_any (l.map Inp.tin) gi 0 ci 1 1 (some ⟨gO, 0, none⟩) (.int .i64 lk) (by rw [List.length_map, HL.out]; omega) (by omega) wr hE.ins hE.gi2
          rw [List.length_map, HL.out] at h
          rw [hwt]; exact h)
        have HFE := hidI (show ∀ W : World, Calls Try.prog 62 #[.int .i64 wt, .int .i64 rate] W fun e w' => e = .returned (.tuple #[.int .i64 fv, .int .i64 fe]) ∧ W = w' from fun W => by
          have h := fee_amount wt rate W
          rw [hfv, hfe, hwt]
          rw [hwt] at h
          exact h)
        have HNO := hidI (show (max te fe ≠ 0 ∨ bd < fv ∨ tv - fv < 330) → makeA l rate key = none from fun h => makeA_no (by rw [← hte, ← hfe, ← hbe, ← hfv, ← htv]; exact h))
        have HUN := hidI (show txE (l.map Inp.tin) [⟨tv - fv, payS key⟩] lk ≠ 0 → makeA l rate key = none from fun h => makeA_un (by rw [← hle, ← hfv, ← htv]; exact h))
        have HYE := hidI (show ¬ (max te fe ≠ 0 ∨ bd < fv ∨ tv - fv < 330) → txE (l.map Inp.tin) [⟨tv - fv, payS key⟩] lk = 0 → makeA l rate key = some ⟨l.map Inp.tin, tv - fv, key, lk, fv, rate⟩ from fun h1 h2 => by
          have h := makeA_yes (l := l) (rate := rate) (key := key) (by rw [HL.out]; exact h0) HK.out HOK.out (by rw [← hte, ← hfe, ← hbe, ← hfv, ← htv]; exact h1) (by rw [← hle, ← hfv, ← htv]; exact h2)
          rw [← hle, ← hfv, ← htv] at h
          exact h)
        have HE := hidI hE
        have HN := hidI (And.intro hne hci)
        have HMW := hidI HM.out
        clear HM HT hT hbe hle htv hte hfv hfe hwt hE hne hci hrv
        have hkz : ¬ (k : Int) < (k : Int) := by omega
        go_upto_region 18 with (first
          | (go_at_call 43; (with_reducible refine (HTO.out).mono ?_); rintro e w' ⟨rfl, rfl⟩)
          | (with_reducible refine at_load 47 rfl ?_; refine wpl_load_agg (b := w.heap.size) (cs := [.slice (some ⟨gi, 0, none⟩) k ci, .slice (some ⟨gO, 0, none⟩) 1 1, .int .i64 lk]) rfl rfl rfl agg_tx rfl HE.out.row3 ?_; (try simp only [Act.put, List.setIfInBounds_toArray, List.set_cons_zero, List.set_cons_succ, World.size_alloc]))
          | (go_at_call 21; (with_reducible refine (HWT.out).mono ?_); rintro e w3 ⟨rfl, hb3⟩; have HE3 := hidI (HE.out.ext hb3); have hz3 : wr.heap.size ≤ w3.heap.size := hb3.size; clear hb3)
          | (go_at_call 62; (with_reducible refine (HFE.out _).mono ?_); rintro e w' ⟨rfl, rfl⟩))
        by_cases hA : max te fe ≠ 0
        · have HR0 := hidI (HNO.out (.inl hA))
          have hA1 : (max te fe != 0) = true := by simpa using hA
          clear hA
          go_wp2_with (first
            | (with_reducible refine at_bi .max rfl ?_; refine wpl_max2 rfl rfl rfl rfl ?_; (try simp only [Act.put, List.setIfInBounds_toArray, List.set_cons_zero, List.set_cons_succ, World.size_alloc]))
            | (with_reducible refine at_build 49 rfl ?_; refine wpl_build rfl rfl (build_bat0 _) (by kernel_rfl) ?_; (try simp only [Act.put, List.setIfInBounds_toArray, List.set_cons_zero, List.set_cons_succ, World.size_alloc]))
            | (with_reducible refine at_store 49 rfl ?_; refine wpl_store_own (e := 49) (cs := [.slice none 0 0, .slice none 0 0, .int .i64 0, .int .i64 0, .int .i64 0]) rfl rfl rfl rfl rfl sz_bat rfl HE3.out.box rfl rfl ?_; (try simp only [Act.put, List.setIfInBounds_toArray, List.set_cons_zero, List.set_cons_succ, World.size_alloc])))
          refine ret_agg2 (v := .bool false) (cs := [.slice none 0 0, .slice none 0 0, .int .i64 0, .int .i64 0, .int .i64 0]) rfl rfl rfl rfl agg_bat rfl (RowAt.setRow HE3.out.box) (MakeQ.none HR0.out (below_setRow HE3.out.below (Nat.le_refl _) _))
        have hA1 : (max te fe != 0) = false := by simpa using hA
        by_cases hB : bd < fv
        · have HR0 := hidI (HNO.out (.inr (.inl hB)))
          have hB1 : decide (bd < fv) = true := by simpa using hB
          clear hA hB
          go_wp2_with (first
            | (with_reducible refine at_bi .max rfl ?_; refine wpl_max2 rfl rfl rfl rfl ?_; (try simp only [Act.put, List.setIfInBounds_toArray, List.set_cons_zero, List.set_cons_succ, World.size_alloc]))
            | (with_reducible refine at_build 49 rfl ?_; refine wpl_build rfl rfl (build_bat0 _) (by kernel_rfl) ?_; (try simp only [Act.put, List.setIfInBounds_toArray, List.set_cons_zero, List.set_cons_succ, World.size_alloc]))
            | (with_reducible refine at_store 49 rfl ?_; refine wpl_store_own (e := 49) (cs := [.slice none 0 0, .slice none 0 0, .int .i64 0, .int .i64 0, .int .i64 0]) rfl rfl rfl rfl rfl sz_bat rfl HE3.out.box rfl rfl ?_; (try simp only [Act.put, List.setIfInBounds_toArray, List.set_cons_zero, List.set_cons_succ, World.size_alloc])))
          refine ret_agg2 (v := .bool false) (cs := [.slice none 0 0, .slice none 0 0, .int .i64 0, .int .i64 0, .int .i64 0]) rfl rfl rfl rfl agg_bat rfl (RowAt.setRow HE3.out.box) (MakeQ.none HR0.out (below_setRow HE3.out.below (Nat.le_refl _) _))
        have hB1 : decide (bd < fv) = false := by simpa using hB
        by_cases hC : tv - fv < 330
        · have HR0 := hidI (HNO.out (.inr (.inr hC)))
          have hC1 : decide (tv - fv < 330) = true := by simpa using hC
          clear hA hB hC
          go_wp2_with (first
            | (with_reducible refine at_bi .max rfl ?_; refine wpl_max2 rfl rfl rfl rfl ?_; (try simp only [Act.put, List.setIfInBounds_toArray, List.set_cons_zero, List.set_cons_succ, World.size_alloc]))
            | (with_reducible refine at_build 49 rfl ?_; refine wpl_build rfl rfl (build_bat0 _) (by kernel_rfl) ?_; (try simp only [Act.put, List.setIfInBounds_toArray, List.set_cons_zero, List.set_cons_succ, World.size_alloc]))
            | (with_reducible refine at_store 49 rfl ?_; refine wpl_store_own (e := 49) (cs := [.slice none 0 0, .slice none 0 0, .int .i64 0, .int .i64 0, .int .i64 0]) rfl rfl rfl rfl rfl sz_bat rfl HE3.out.box rfl rfl ?_; (try simp only [Act.put, List.setIfInBounds_toArray, List.set_cons_zero, List.set_cons_succ, World.size_alloc])))
          refine ret_agg2 (v := .bool false) (cs := [.slice none 0 0, .slice none 0 0, .int .i64 0, .int .i64 0, .int .i64 0]) rfl rfl rfl rfl agg_bat rfl (RowAt.setRow HE3.out.box) (MakeQ.none HR0.out (below_setRow HE3.out.below (Nat.le_refl _) _))
        have hC1 : decide (tv - fv < 330) = false := by simpa using hC
        have HY := hidI (HYE.out (by simp only [not_or]; exact ⟨hA, hB, hC⟩))
        clear hA hB hC
        have HF4 := hidI (HE3.out.setFee fv)
        have q1 := HE3.out.cell 1 rfl
        have q3 := HE3.out.cell 3 rfl
        have q4 := HE3.out.free 3
        have q5 := RowAt.cell0 HF4.out.outs 0 rfl
        have q6 := HF4.out.freeO 0
        go_upto_region 21 with (first
          | (with_reducible refine at_bi .max rfl ?_; refine wpl_max2 rfl rfl rfl rfl ?_; (try simp only [Act.put, List.setIfInBounds_toArray, List.set_cons_zero, List.set_cons_succ, World.size_alloc]))
            | (with_reducible refine at_build 49 rfl ?_; refine wpl_build rfl rfl (build_bat0 _) (by kernel_rfl) ?_; (try simp only [Act.put, List.setIfInBounds_toArray, List.set_cons_zero, List.set_cons_succ, World.size_alloc]))
            | (with_reducible refine at_store 49 rfl ?_; refine wpl_store_own (e := 49) (cs := [.slice none 0 0, .slice none 0 0, .int .i64 0, .int .i64 0, .int .i64 0]) rfl rfl rfl rfl rfl sz_bat rfl HE3.out.box rfl rfl ?_; (try simp only [Act.put, List.setIfInBounds_toArray, List.set_cons_zero, List.set_cons_succ, World.size_alloc])))
        clear q1 q3 q4 q5 q6
        obtain ⟨w4, hw4⟩ : ∃ w4, w4 = (w3.setCell ⟨w.heap.size, 3, none⟩ (.int .i64 fv)).setCell ⟨gO, 0, none⟩ (.int .i64 (tv - fv)) := ⟨_, rfl⟩
        have HE4 := hidI (show MkE w w4 (l.map Inp.tin) ⟨tv - fv, payS key⟩ k gi ci gO lk fv rate by rw [hw4]; exact HF4.out.setValue HN.out.1 _)
        rw [← hw4]
        clear hw4
        obtain ⟨E, hE⟩ : ∃ E, E = txE (l.map Inp.tin) [⟨tv - fv, payS key⟩] lk := ⟨_, rfl⟩
        have HCT := hidI (show Calls Try.prog 20 #[.agg #[.slice (some ⟨gi, 0, none⟩) k ci, .slice (some ⟨gO, 0, none⟩) 1 1, .int .i64 lk]] w4 fun e w' => e = .returned (.int .i64 E) ∧ Below w4.heap.size w4 w' by
          rw [hE]
          exact check_tx (l.map Inp.tin) [⟨tv - fv, payS key⟩] lk gi k ci gO 1 1 h1 (by omega) h0 (by omega) HN.out.2 w4 (by rw [List.length_map, HL.out]) rfl HE4.out.ins (by simpa using HE4.out.outs) HE4.out.gi2 HE4.out.gO2)
        by_cases hz : E = 0
        · subst hz
          have HR0 := hidI (HY.out hE.symm)
          clear hE
          go_wp2_with (first
            | (with_reducible refine at_load 47 rfl ?_; refine wpl_load_agg (b := w.heap.size) (cs := [.slice (some ⟨gi, 0, none⟩) k ci, .slice (some ⟨gO, 0, none⟩) 1 1, .int .i64 lk]) rfl rfl rfl agg_tx rfl HE4.out.row3 ?_; (try simp only [Act.put, List.setIfInBounds_toArray, List.set_cons_zero, List.set_cons_succ, World.size_alloc]))
            | (go_at_call 20; (with_reducible refine (HCT.out).mono ?_); rintro e w5 ⟨rfl, hb5⟩; have HE5 := hidI (HE4.out.ext hb5); clear hb5)
            | (with_reducible refine at_load 49 rfl ?_; refine wpl_load_agg (b := w.heap.size) (cs := [.slice (some ⟨gi, 0, none⟩) k ci, .slice (some ⟨gO, 0, none⟩) 1 1, .int .i64 lk, .int .i64 fv, .int .i64 rate]) rfl rfl rfl agg_bat rfl HE5.out.row ?_; (try simp only [Act.put, List.setIfInBounds_toArray, List.set_cons_zero, List.set_cons_succ, World.size_alloc]))
            | (with_reducible refine at_store 49 rfl ?_; refine wpl_store_own (e := 49) (cs := [.slice (some ⟨gi, 0, none⟩) k ci, .slice (some ⟨gO, 0, none⟩) 1 1, .int .i64 lk, .int .i64 fv, .int .i64 rate]) rfl rfl rfl rfl rfl sz_bat rfl HE5.out.box rfl rfl ?_; (try simp only [Act.put, List.setIfInBounds_toArray, List.set_cons_zero, List.set_cons_succ, World.size_alloc])))
          have hE5 := HE5.out
          refine ret_agg2 (v := .bool true) (cs := [.slice (some ⟨gi, 0, none⟩) k ci, .slice (some ⟨gO, 0, none⟩) 1 1, .int .i64 lk, .int .i64 fv, .int .i64 rate]) rfl rfl rfl rfl agg_bat rfl (RowAt.setRow hE5.box) ?_
          rw [HR0.out]
          refine ⟨_, rfl, rfl, rfl, below_setRow hE5.below (Nat.le_refl _) _, fun b hb => ?_⟩
          injection hb with hb
          subst hb
          have hg1 := hE5.gi1
          have hg2 := hE5.gO1
          exact ⟨gi, ci, gO, 1, by rw [show (⟨l.map Inp.tin, tv - fv, key, lk, fv, rate⟩ : Bat).ins.length = k by show (l.map Inp.tin).length = k; rw [List.length_map, HL.out]], by omega, by simpa using hE5.gi2, by omega, by simpa using hE5.gO2, hE5.ins.setRow_other (by omega), hE5.outs.setRow_other (by omega), by show (l.map Inp.tin).length ≤ ci; rw [List.length_map, HL.out]; exact HN.out.2, hE5.insT.imp fun cc hcc => by rw [_root_.Go.setRow_other _ _ _ _ (by omega)]; exact hcc, ⟨_, by rw [_root_.Go.setRow_other _ _ _ _ (by omega)]; exact hE5.out⟩⟩
        · have HR0 := hidI (HUN.out (by rw [← hE]; exact hz))
          have hz1 : (E != 0) = true := by simpa using hz
          clear hE hz
          go_wp2_with (first
            | (with_reducible refine at_load 47 rfl ?_; refine wpl_load_agg (b := w.heap.size) (cs := [.slice (some ⟨gi, 0, none⟩) k ci, .slice (some ⟨gO, 0, none⟩) 1 1, .int .i64 lk]) rfl rfl rfl agg_tx rfl HE4.out.row3 ?_; (try simp only [Act.put, List.setIfInBounds_toArray, List.set_cons_zero, List.set_cons_succ, World.size_alloc]))
            | (go_at_call 20; (with_reducible refine (HCT.out).mono ?_); rintro e w5 ⟨rfl, hb5⟩; have HE5 := hidI (HE4.out.ext hb5); clear hb5)
            | (with_reducible refine at_build 49 rfl ?_; refine wpl_build rfl rfl (build_bat0 _) (by kernel_rfl) ?_; (try simp only [Act.put, List.setIfInBounds_toArray, List.set_cons_zero, List.set_cons_succ, World.size_alloc]))
            | (with_reducible refine at_store 49 rfl ?_; refine wpl_store_own (e := 49) (cs := [.slice none 0 0, .slice none 0 0, .int .i64 0, .int .i64 0, .int .i64 0]) rfl rfl rfl rfl rfl sz_bat rfl HE5.out.box rfl rfl ?_; (try simp only [Act.put, List.setIfInBounds_toArray, List.set_cons_zero, List.set_cons_succ, World.size_alloc])))
          refine ret_agg2 (v := .bool false) (cs := [.slice none 0 0, .slice none 0 0, .int .i64 0, .int .i64 0, .int .i64 0]) rfl rfl rfl rfl agg_bat rfl (RowAt.setRow HE5.out.box) (MakeQ.none HR0.out (below_setRow HE5.out.below (Nat.le_refl _) _))

end Go.Proofs.Ytjlledljancafaa
