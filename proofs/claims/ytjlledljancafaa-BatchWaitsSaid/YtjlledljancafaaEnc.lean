import Derived.Test.YtjlledljancafaaB1
namespace Go.XB
/-- byte j of a hash, the first one first -/
def hb (h j : Nat) : Nat := h / 256 ^ (31 - j) % 256
def encHash (h : Nat) : List Value := (List.range 32).map fun j => .int .u8 (hb h j : Nat)
structure Pt where
  h : Nat
  n : Int
  deriving DecidableEq, Inhabited
def encPt (p : Pt) : List Value := encHash p.h ++ [.int .i64 p.n]
structure Wit where
  kind : Int
  key : Int
  pre : ByteArray
  deriving DecidableEq, Inhabited
def encWit (w : Wit) : List Value := [.int .i64 w.kind, .int .i64 w.key, .string w.pre]
structure Clm where
  wit : Wit
  seq : Int
  lock : Int
  wait : Int
  deriving DecidableEq, Inhabited
def encClm (c : Clm) : List Value := encWit c.wit ++ [.int .i64 c.seq, .int .i64 c.lock, .int .i64 c.wait]
structure Inp where
  pt : Pt
  value : Int
  clm : Clm
  conf : Int
  since : Int
  dead : Int
  budget : Int
  deriving DecidableEq, Inhabited
def encInp (i : Inp) : List Value := encPt i.pt ++ ([.int .i64 i.value] ++ (encClm i.clm ++ [.int .i64 i.conf, .int .i64 i.since, .int .i64 i.dead, .int .i64 i.budget]))
structure TIn where
  prev : Pt
  seq : Int
  wit : Wit
  deriving DecidableEq, Inhabited
def encTIn (i : TIn) : List Value := encPt i.prev ++ ([.int .i64 i.seq] ++ encWit i.wit)
structure Scr where
  kind : Int
  key : Int
  other : Int
  rev : Int
  delay : Int
  expiry : Int
  hash : Nat
  deriving DecidableEq, Inhabited
def encScr (s : Scr) : List Value := [.int .i64 s.kind, .int .i64 s.key, .int .i64 s.other, .int .i64 s.rev, .int .i64 s.delay, .int .i64 s.expiry] ++ encHash s.hash
structure TOut where
  value : Int
  scr : Scr
  deriving DecidableEq, Inhabited
def encTOut (o : TOut) : List Value := [.int .i64 o.value] ++ encScr o.scr

theorem encHash_length (h : Nat) : (encHash h).length = 32 := rfl
theorem encPt_length (p : Pt) : (encPt p).length = 33 := rfl
theorem encWit_length (p : Wit) : (encWit p).length = 3 := rfl
theorem encClm_length (p : Clm) : (encClm p).length = 6 := rfl
theorem encInp_length (p : Inp) : (encInp p).length = 44 := rfl
theorem encTIn_length (p : TIn) : (encTIn p).length = 37 := rfl
theorem encScr_length (p : Scr) : (encScr p).length = 38 := rfl
theorem encTOut_length (p : TOut) : (encTOut p).length = 39 := rfl

def Inp.tin (i : Inp) : TIn := ⟨i.pt, i.clm.seq, i.clm.wit⟩
end Go.XB
