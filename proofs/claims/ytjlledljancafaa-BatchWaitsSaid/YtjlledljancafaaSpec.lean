/- What the functions answer, in plain Lean: no program, no memory. -/
import Derived.Test.YtjlledljancafaaEnc
namespace Go.XB
def inB (n lo hi : Int) : Bool := decide (lo ≤ n) && decide (n ≤ hi)
theorem inB_t {n lo hi : Int} (h : lo ≤ n ∧ n ≤ hi) : inB n lo hi = true := by simp [inB, h]
theorem inB_f {n lo hi : Int} (h : ¬ (lo ≤ n ∧ n ≤ hi)) : inB n lo hi = false := by simp [inB]; omega
theorem inB_iff {n lo hi : Int} : inB n lo hi = true ↔ lo ≤ n ∧ n ≤ hi := by simp [inB]
def money (n : Int) : Bool := inB n 0 2100000000000000
def heldA (a : Int) (ok : Bool) : Int × Int := if ok && money a then (a, 0) else (0, 11)
def addA (a b : Int) : Int × Int := heldA (a + b) (money a && money b)
def feeA (weight rate : Int) : Int × Int := if inB weight 0 4000000 && inB rate 0 1000000000 then heldA ((weight * rate + 1000 - 1) / 1000) true else (0, 11)
def rateA (fee weight : Int) : Int × Int := if money fee && inB weight 1 4000000 then (min (fee * 1000 / weight) 1000000000, 0) else (0, 11)
def witW (k : Int) : Int := if k = 1 then 74 else if k = 2 then 107 else if k = 3 then 76 else if k = 4 then 1 else 0
def heldW (n : Int) : Int := min (max n 0) 1099511627776
def cmpI (a b : Int) : Int := if a < b then -1 else if b < a then 1 else 0
def ints (xs : List Int) : List Value := xs.map fun x => .int .i64 x
def totalA : List Int → Int → Int × Int
  | [], s => (s, 0)
  | a :: l, s => if (addA s a).2 = 0 then totalA l (addA s a).1 else (0, 11)
theorem totalA_drop {xs : List Int} {k : Nat} {s : Int} (h : k < xs.length) : totalA (xs.drop k) s = if (addA s (xs.getD k 0)).2 = 0 then totalA (xs.drop (k + 1)) (addA s (xs.getD k 0)).1 else (0, 11) := by
  rw [List.drop_eq_getElem_cons h]
  simp [totalA, List.getD, h]
theorem heldA_two (a : Int) (ok : Bool) : ((heldA a ok).2 = 0) ∨ (heldA a ok = (0, 11)) := by unfold heldA; split <;> simp
/-- the first that is not 0 -/
def orI : List Int → Int
  | [] => 0
  | a :: l => if a = 0 then orI l else a
theorem orI_drop {xs : List Int} {k : Nat} (h : k < xs.length) : orI (xs.drop k) = if xs.getD k 0 = 0 then orI (xs.drop (k + 1)) else xs.getD k 0 := by
  rw [List.drop_eq_getElem_cons h]
  simp [orI, List.getD, h]
def witB (x : Wit) : Bool := inB x.kind 1 4 && inB x.key 0 1073741824 && decide ((x.pre.size : Int) ≤ 64) && ((x.kind == 2) == !x.pre.toList.isEmpty)
def tinB (i : TIn) : Bool := inB i.prev.n 0 99 && inB i.seq 0 65535 && witB i.wit
def scrB (s : Scr) : Bool := inB s.key 0 1073741824 && inB s.other 0 1073741824 && inB s.rev 0 1073741824 && inB s.kind 1 6 && inB s.delay 0 65535 && inB s.expiry 0 1000000
def ripensW (c : Clm) (conf : Int) : Int := heldW (max (max (heldW conf + heldW c.wait) (heldW conf + 1)) (heldW c.lock))
def ripeW (c : Clm) (conf next : Int) : Bool := decide (ripensW c conf ≤ next)
def wsum (l : List TIn) : Int := (l.map fun i => witW i.wit.kind).sum
theorem witW_bd (k : Int) : 0 ≤ witW k ∧ witW k ≤ 107 := by unfold witW; (repeat' split) <;> omega
theorem wsum_bd : ∀ l : List TIn, 0 ≤ wsum l ∧ wsum l ≤ 107 * l.length
  | [] => by simp [wsum]
  | x :: l => by
    have h := wsum_bd l
    have h2 := witW_bd x.wit.kind
    unfold wsum at h ⊢
    simp only [List.map_cons, List.sum_cons, List.length_cons]
    omega
theorem wsum_take {l : List TIn} {k : Nat} (h : k < l.length) : wsum (l.take (k + 1)) = wsum (l.take k) + witW l[k].wit.kind := by
  unfold wsum
  rw [List.take_succ_eq_append_getElem h, List.map_append, List.sum_append]
  simp
def weightT (ins : List TIn) (outs : Nat) : Int := 4 * (10 + 41 * ins.length + 34 * outs) + wsum ins
def alone (i : Inp) : Int := weightT [i.tin] 1
theorem heldW_bd (n : Int) : 0 ≤ heldW n ∧ heldW n ≤ 1099511627776 := by unfold heldW; omega
end Go.XB
