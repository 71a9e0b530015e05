/- What Make, one and All answer, in plain Lean. -/
import Derived.Test.YtjlledljancafaaU
set_option linter.unusedSimpArgs false
set_option linter.unusedVariables false
namespace Go.Proofs.Ytjlledljancafaa
open Go.RowKit Go.XB

/-- a batch -/
structure Bat where
  ins : List TIn
  value : Int
  key : Int
  lock : Int
  fee : Int
  rate : Int
  deriving DecidableEq
def payS (k : Int) : Scr := ⟨1, k, 0, 0, 0, 0, 0⟩
def Bat.out (b : Bat) : TOut := ⟨b.value, payS b.key⟩
def lockA : List Inp → Int → Int
  | [], s => s
  | i :: l, s => lockA l (max s i.clm.lock)
def budA : List Inp → Int → Int
  | [], s => s
  | i :: l, s => budA l (min (s + i.budget) 1152921504606846976)
def okAll (l : List Inp) : Bool := l.all fun i => decide (checkE i = 0)
def makeV (l : List Inp) : Int × Int := totalA (l.map fun i => i.value) 0
def makeF (l : List Inp) (rate : Int) : Int × Int := feeA (weightT (l.map Inp.tin) 1) rate
def makeA (l : List Inp) (rate key : Int) : Option Bat :=
  if l.isEmpty = true ∨ inB key 0 1073741824 = false ∨ okAll l = false then none
  else if max (makeV l).2 (makeF l rate).2 ≠ 0 ∨ budA l 0 < (makeF l rate).1 ∨ (makeV l).1 - (makeF l rate).1 < 330 then none
  else if txE (l.map Inp.tin) [⟨(makeV l).1 - (makeF l rate).1, payS key⟩] (lockA l 0) ≠ 0 then none
  else some ⟨l.map Inp.tin, (makeV l).1 - (makeF l rate).1, key, lockA l 0, (makeF l rate).1, rate⟩
def fitsA (limit key : Int) (l : List Inp) (rate : Int) : Option Bat :=
  match makeA l rate key with
  | some b => if weightT b.ins 1 ≤ limit then some b else none
  | none => none
/-- the batch that the first begins: what is still to come, the batch, its inputs, what is left -/
def oneA (next limit key rate : Int) : List Inp → Option Bat → List Inp → List Inp → Option Bat × List Inp
  | [], b, _, left => (b, left)
  | x :: l, b, wi, left =>
    if rate / 2 ≤ rateI x next then
      match fitsA limit key (wi ++ [x]) rate with
      | some m => oneA next limit key rate l (some m) (wi ++ [x]) left
      | none => oneA next limit key rate l b wi (left ++ [x])
    else oneA next limit key rate l b wi (left ++ [x])
def oneL (next limit key : Int) (x : Inp) (l : List Inp) : Option Bat × List Inp := oneA next limit key (rateI x next) l (fitsA limit key [x] (rateI x next)) [x] []
def allA (next limit key : Int) : Nat → List Inp → List Bat
  | 0, _ => []
  | _ + 1, [] => []
  | f + 1, x :: l => (oneL next limit key x l).1.toList ++ allA next limit key f (oneL next limit key x l).2
theorem oneA_left (next limit key rate : Int) : ∀ (l : List Inp) (b : Option Bat) (wi left : List Inp), (oneA next limit key rate l b wi left).2.length ≤ left.length + l.length
  | [], _, _, _ => by simp [oneA]
  | x :: l, b, wi, left => by
    unfold oneA
    split
    · split
      · have := oneA_left next limit key rate l (some (by assumption)) (wi ++ [x]) left
        rename_i m _
        have h2 := oneA_left next limit key rate l (some m) (wi ++ [x]) left
        simp only [List.length_cons]; omega
      · have h2 := oneA_left next limit key rate l b wi (left ++ [x])
        simp only [List.length_cons, List.length_append, List.length_nil] at h2 ⊢; omega
    · have h2 := oneA_left next limit key rate l b wi (left ++ [x])
      simp only [List.length_cons, List.length_append, List.length_nil] at h2 ⊢; omega
def dupB : List Pt → Bool
  | [] => false
  | p :: l => l.any (fun q => ptEq p q) || dupB l
def allE (l : List Inp) (next limit key : Int) : List Bat × Int :=
  if (inB next 0 1000000 && inB limit 1 400000 && inB key 0 1073741824) = false then ([], 1)
  else if 200 < l.length then ([], 3)
  else if dupB (l.map fun i => i.pt) = true then ([], 6)
  else (allA next limit key (orderL next l).length (orderL next l), 0)

end Go.Proofs.Ytjlledljancafaa
