/-
  No cell of these rows narrows 'for every input' (looked for: loops, veiled, ifaces, maps, wideKeys, modest, calm, conditions, laid).
  DERIVED. THE GIVEN ROWS OF THIS SEAT. 5 by the template 'for every input the law returns true; each argument reads behind the call as it read before'; 0 by the template 'total and deterministic' (their statements: YtjlledljancafaaTotals.lean).
  GIVEN WITH THE SEED: the statements are not yours to turn. If you find one false, say at which input.
  Laid BY PROGRAM, IN A SANDBOX (cutbox-rows.mjs): the forced cells as the released guide's own fill.sh prints them over the translation 41152cf9888366d2… (all of the seat's roots in one cut). By AI agents, Wed Nov 11 2026. No macro, syntax, notation, axiom, sorry.
-/
import Derived.Test.YtjlledljancafaaChecked
import GoSem.Claim
import GoSem.ClaimJoined
import GoSem.ClaimMapViews
import Derived.JoinedTies
import Derived.KernelRfl
namespace Go.Proofs.Ytjlledljancafaa
/- THE CELL 'sum', in the pinned program and in every row, IS THE sha256 OF THE DUMP (.gsa) THAT YtjlledljancafaaProg.lean LOADS. Nothing in Lean hashes anything: it is a label: what it is worth is what the hold of that sum in a sandbox is worth. -/
noncomputable def Try.pinned : Pinned := { name := "ytjlledljancafaa", sum := "41152cf9888366d2ad626a4a7afaa68a3cb6cb330ce92e57053d77af0be27a21", checked := Try.checked }
namespace Rows
def none {H : Type} : Left H := { results := [], args := [] }

/-- 'coraclelaw22.BookFull': WHATEVER THE INPUT: true; the input reads as it did. -/
def bookFullSpec : ChangeSpec := { name := "bookFull", fn := fun _ => fun
  | [d1, d2] => { results := [.lit (.bool true)], args := [d1, d2] }
  | _ => none }
def bookFullRow : OpenClaim := { program := "ytjlledljancafaa", sum := "41152cf9888366d2ad626a4a7afaa68a3cb6cb330ce92e57053d77af0be27a21", func := "coracle/coraclelaw22.BookFull", spec := "bookFull", unfollowed := true, recurses := true, plainKeys := false, apart := false }
def BookFullSaid : Prop := bookFullRow.holds Try.pinned (OpenSpec.ofChange bookFullSpec)

/-- ITS FALSE NEIGHBOUR: 'it returns false'. Refute it at one input. -/
def bookFullWrong : ChangeSpec := { name := "bookFull", fn := fun _ => fun
  | [d1, d2] => { results := [.lit (.bool false)], args := [d1, d2] }
  | _ => none }
def BookFullWrongFalsely : Prop := bookFullRow.holds Try.pinned (OpenSpec.ofChange bookFullWrong)

/-- 'coraclelaw17.BatchSound': WHATEVER THE INPUT: true; the input reads as it did. -/
def batchSoundSpec : ChangeSpec := { name := "batchSound", fn := fun _ => fun
  | [d1, d2, d3, d4] => { results := [.lit (.bool true)], args := [d1, d2, d3, d4] }
  | _ => none }
def batchSoundRow : OpenClaim := { program := "ytjlledljancafaa", sum := "41152cf9888366d2ad626a4a7afaa68a3cb6cb330ce92e57053d77af0be27a21", func := "coracle/coraclelaw17.BatchSound", spec := "batchSound", inPlace := ["math.archTrunc", "math.Float64bits", "math.Float64frombits"], unfollowed := true, recurses := true, named := ["math/bits.divideError", "math/bits.overflowError"], plainKeys := false, apart := false }
def BatchSoundSaid : Prop := batchSoundRow.holds Try.pinned (OpenSpec.ofChange batchSoundSpec)

/-- ITS FALSE NEIGHBOUR: 'it returns false'. Refute it at one input. -/
def batchSoundWrong : ChangeSpec := { name := "batchSound", fn := fun _ => fun
  | [d1, d2, d3, d4] => { results := [.lit (.bool false)], args := [d1, d2, d3, d4] }
  | _ => none }
def BatchSoundWrongFalsely : Prop := batchSoundRow.holds Try.pinned (OpenSpec.ofChange batchSoundWrong)

/-- 'coraclelaw17.BatchAlone': WHATEVER THE INPUT: true; the input reads as it did. -/
def batchAloneSpec : ChangeSpec := { name := "batchAlone", fn := fun _ => fun
  | [d1, d2, d3, d4] => { results := [.lit (.bool true)], args := [d1, d2, d3, d4] }
  | _ => none }
def batchAloneRow : OpenClaim := { program := "ytjlledljancafaa", sum := "41152cf9888366d2ad626a4a7afaa68a3cb6cb330ce92e57053d77af0be27a21", func := "coracle/coraclelaw17.BatchAlone", spec := "batchAlone", inPlace := ["math.archTrunc", "math.Float64bits", "math.Float64frombits"], unfollowed := true, recurses := true, named := ["math/bits.divideError", "math/bits.overflowError"], plainKeys := false, apart := false }
def BatchAloneSaid : Prop := batchAloneRow.holds Try.pinned (OpenSpec.ofChange batchAloneSpec)

/-- ITS FALSE NEIGHBOUR: 'it returns false'. Refute it at one input. -/
def batchAloneWrong : ChangeSpec := { name := "batchAlone", fn := fun _ => fun
  | [d1, d2, d3, d4] => { results := [.lit (.bool false)], args := [d1, d2, d3, d4] }
  | _ => none }
def BatchAloneWrongFalsely : Prop := batchAloneRow.holds Try.pinned (OpenSpec.ofChange batchAloneWrong)

/-- 'coraclelaw17.BatchFits': WHATEVER THE INPUT: true; the input reads as it did. -/
def batchFitsSpec : ChangeSpec := { name := "batchFits", fn := fun _ => fun
  | [d1, d2, d3] => { results := [.lit (.bool true)], args := [d1, d2, d3] }
  | _ => none }
def batchFitsRow : OpenClaim := { program := "ytjlledljancafaa", sum := "41152cf9888366d2ad626a4a7afaa68a3cb6cb330ce92e57053d77af0be27a21", func := "coracle/coraclelaw17.BatchFits", spec := "batchFits", inPlace := ["math.archTrunc", "math.Float64bits", "math.Float64frombits"], unfollowed := true, recurses := true, named := ["math/bits.divideError", "math/bits.overflowError"], plainKeys := false, apart := false }
def BatchFitsSaid : Prop := batchFitsRow.holds Try.pinned (OpenSpec.ofChange batchFitsSpec)

/-- ITS FALSE NEIGHBOUR: 'it returns false'. Refute it at one input. -/
def batchFitsWrong : ChangeSpec := { name := "batchFits", fn := fun _ => fun
  | [d1, d2, d3] => { results := [.lit (.bool false)], args := [d1, d2, d3] }
  | _ => none }
def BatchFitsWrongFalsely : Prop := batchFitsRow.holds Try.pinned (OpenSpec.ofChange batchFitsWrong)

/-- 'coraclelaw17.BatchWaits': WHATEVER THE INPUT: true; the input reads as it did. -/
def batchWaitsSpec : ChangeSpec := { name := "batchWaits", fn := fun _ => fun
  | [d1, d2, d3] => { results := [.lit (.bool true)], args := [d1, d2, d3] }
  | _ => none }
def batchWaitsRow : OpenClaim := { program := "ytjlledljancafaa", sum := "41152cf9888366d2ad626a4a7afaa68a3cb6cb330ce92e57053d77af0be27a21", func := "coracle/coraclelaw17.BatchWaits", spec := "batchWaits", inPlace := ["math.archTrunc", "math.Float64bits", "math.Float64frombits"], unfollowed := true, recurses := true, named := ["math/bits.divideError", "math/bits.overflowError"], plainKeys := false, apart := false }
def BatchWaitsSaid : Prop := batchWaitsRow.holds Try.pinned (OpenSpec.ofChange batchWaitsSpec)

/-- ITS FALSE NEIGHBOUR: 'it returns false'. Refute it at one input. -/
def batchWaitsWrong : ChangeSpec := { name := "batchWaits", fn := fun _ => fun
  | [d1, d2, d3] => { results := [.lit (.bool false)], args := [d1, d2, d3] }
  | _ => none }
def BatchWaitsWrongFalsely : Prop := batchWaitsRow.holds Try.pinned (OpenSpec.ofChange batchWaitsWrong)

/- THE SECOND FORM. 'bulk': how many values and letters a reading holds, each counted each time it is reached (what is shared counts as often as it is met; a slice's spare places count too). A statement '..UptoSaid' is the law's where the arguments, and the package variables that the reading takes, are together of bulk at most 1048576: NARROWER than '..Said'. Prove '..Said' where nothing that the law and all that it calls make is longer than what came in: it says more and counts as full. Else prove '..UptoSaid'. A law counts once. -/
mutual
def uptoBulk {H : Type} : DataW H → Nat
  | .lit (.string bytes) => bytes.length + 1
  | .lit _ => 1
  | .nil => 1
  | .ptr d => uptoBulk d + 1
  | .slice elems spare => uptoBulkAll elems + uptoBulkAll spare + 1
  | .agg parts => uptoBulkAll parts + 1
  | .iface _ d => uptoBulk d + 1
  | .map entries => uptoBulkEntries entries + 1
  | .held _ => 1
def uptoBulkAll {H : Type} : List (DataW H) → Nat
  | [] => 0
  | d :: r => uptoBulk d + uptoBulkAll r
def uptoBulkEntries {H : Type} : List (Lit × DataW H) → Nat
  | [] => 0
  | x :: r => uptoBulkEntry x + uptoBulkEntries r
def uptoBulkEntry {H : Type} : Lit × DataW H → Nat
  | (.string bytes, d) => bytes.length + uptoBulk d + 1
  | (_, d) => uptoBulk d + 1
 end
def uptoSmall : (H : Type) → List (DataW H) → Bool := fun _ ds => decide (uptoBulkAll ds ≤ 1048576)
def OpenSpec.upto (s : _root_.Go.ChangeSpec) : _root_.Go.OpenSpec := { _root_.Go.OpenSpec.ofChange s with cond := some uptoSmall }

/-- 'coraclelaw22.BookFull', WHERE WHAT IT READS IS OF BULK AT MOST 1048576: true; the input reads as it did. -/
def bookFullUptoRow : OpenClaim := { program := "ytjlledljancafaa", sum := "41152cf9888366d2ad626a4a7afaa68a3cb6cb330ce92e57053d77af0be27a21", func := "coracle/coraclelaw22.BookFull", spec := "bookFull", unfollowed := true, recurses := true, plainKeys := false, apart := false, narrowed := true }
def BookFullUptoSaid : Prop := bookFullUptoRow.holds Try.pinned (OpenSpec.upto bookFullSpec)

/-- 'coraclelaw17.BatchSound', WHERE WHAT IT READS IS OF BULK AT MOST 1048576: true; the input reads as it did. -/
def batchSoundUptoRow : OpenClaim := { program := "ytjlledljancafaa", sum := "41152cf9888366d2ad626a4a7afaa68a3cb6cb330ce92e57053d77af0be27a21", func := "coracle/coraclelaw17.BatchSound", spec := "batchSound", inPlace := ["math.archTrunc", "math.Float64bits", "math.Float64frombits"], unfollowed := true, recurses := true, named := ["math/bits.divideError", "math/bits.overflowError"], plainKeys := false, apart := false, narrowed := true }
def BatchSoundUptoSaid : Prop := batchSoundUptoRow.holds Try.pinned (OpenSpec.upto batchSoundSpec)

/-- 'coraclelaw17.BatchAlone', WHERE WHAT IT READS IS OF BULK AT MOST 1048576: true; the input reads as it did. -/
def batchAloneUptoRow : OpenClaim := { program := "ytjlledljancafaa", sum := "41152cf9888366d2ad626a4a7afaa68a3cb6cb330ce92e57053d77af0be27a21", func := "coracle/coraclelaw17.BatchAlone", spec := "batchAlone", inPlace := ["math.archTrunc", "math.Float64bits", "math.Float64frombits"], unfollowed := true, recurses := true, named := ["math/bits.divideError", "math/bits.overflowError"], plainKeys := false, apart := false, narrowed := true }
def BatchAloneUptoSaid : Prop := batchAloneUptoRow.holds Try.pinned (OpenSpec.upto batchAloneSpec)

/-- 'coraclelaw17.BatchFits', WHERE WHAT IT READS IS OF BULK AT MOST 1048576: true; the input reads as it did. -/
def batchFitsUptoRow : OpenClaim := { program := "ytjlledljancafaa", sum := "41152cf9888366d2ad626a4a7afaa68a3cb6cb330ce92e57053d77af0be27a21", func := "coracle/coraclelaw17.BatchFits", spec := "batchFits", inPlace := ["math.archTrunc", "math.Float64bits", "math.Float64frombits"], unfollowed := true, recurses := true, named := ["math/bits.divideError", "math/bits.overflowError"], plainKeys := false, apart := false, narrowed := true }
def BatchFitsUptoSaid : Prop := batchFitsUptoRow.holds Try.pinned (OpenSpec.upto batchFitsSpec)

/-- 'coraclelaw17.BatchWaits', WHERE WHAT IT READS IS OF BULK AT MOST 1048576: true; the input reads as it did. -/
def batchWaitsUptoRow : OpenClaim := { program := "ytjlledljancafaa", sum := "41152cf9888366d2ad626a4a7afaa68a3cb6cb330ce92e57053d77af0be27a21", func := "coracle/coraclelaw17.BatchWaits", spec := "batchWaits", inPlace := ["math.archTrunc", "math.Float64bits", "math.Float64frombits"], unfollowed := true, recurses := true, named := ["math/bits.divideError", "math/bits.overflowError"], plainKeys := false, apart := false, narrowed := true }
def BatchWaitsUptoSaid : Prop := batchWaitsUptoRow.holds Try.pinned (OpenSpec.upto batchWaitsSpec)

end Rows
end Go.Proofs.Ytjlledljancafaa
