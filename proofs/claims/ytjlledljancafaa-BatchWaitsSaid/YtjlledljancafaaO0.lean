/- clear of a part of a row of structs. -/
import Derived.Test.YtjlledljancafaaK0
namespace Go.XB
open Go.RowKit
/-- a type's zero value, its size, and that each of its cells is one -/
def zeroOk (P : Program) (e : TypeId) (s : Nat) : Bool := match P.info? e with
  | some i => match i.zero with
    | some z => (z.cells.size == s) && z.cells.toList.all Value.oneCell'
    | none => false
  | none => false
theorem run_clear_agg {P : Program} {t e ty tt : TypeId} {s : Nat} (hu : P.underlying t = some (.slice e)) (hz : zeroOk P e s = true) (hs : 0 < s) {W : World} {g off n c : Nat} {cs : List Value} (hn : 0 < n) (hg : RowB W g tt cs) (hfit : off + n * s ≤ cs.length) :
    ∃ zs : List Value, zs.length = n * s ∧ (Builtin.clear_ #[t] ty #[.slice (some ⟨g, off, none⟩) n c]).run P W = .ok (.tuple #[]) (W.setRow g (cs.take off ++ zs ++ cs.drop (off + n * s)).toArray) := by
  unfold zeroOk at hz
  split at hz
  · rename_i i hi
    split at hz
    · rename_i z hzz
      simp only [Bool.and_eq_true, beq_iff_eq] at hz
      obtain ⟨hz1, hz2⟩ := hz
      have hlen : (Builtin.zeroCells z.cells n).toList.length = n * s := by simp [Builtin.zeroCells, hz1]
      refine ⟨(Builtin.zeroCells z.cells n).toList, hlen, ?_⟩
      have hone : ∀ v ∈ (Builtin.zeroCells z.cells n).toList, v.oneCell' = true := by
        intro v hv
        rw [List.all_eq_true] at hz2
        refine hz2 v ?_
        simp only [Builtin.zeroCells, Array.toList_map, List.mem_map, Array.toList_range, List.mem_range] at hv
        obtain ⟨k, hk, rfl⟩ := hv
        have : k % z.cells.size < z.cells.size := Nat.mod_lt _ (by omega)
        rw [getElem!_pos z.cells _ this]
        simp
      have hst := run_storeCells_at P g off tt (Builtin.zeroCells z.cells n).toList 0 cs.toArray W hg (by rw [hlen]; simpa using hfit) hone
      simp only [Nat.add_zero, hlen] at hst
      obtain ⟨m, rfl⟩ : ∃ m, n = m + 1 := ⟨n - 1, by omega⟩
      have hzv : (zeroValue e).run P W = .ok z W := by simp [zeroValue, typeInfo, hi, hzz, Sem.run_bind]
      simp [Builtin.clear_, run_underlying hu, hzv, hst, Sem.run_bind]
    · cases hz
  · cases hz
end Go.XB
