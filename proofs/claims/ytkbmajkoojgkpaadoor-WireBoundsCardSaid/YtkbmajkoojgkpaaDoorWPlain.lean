/- Wire's decoder as plain functions on lists of bytes. -/
import Derived.Test.YtkbmajkoojgkpaaDoorField8
import Derived.Test.YtkbmajkoojgkpaaDoorField4
import Derived.Test.YtkbmajkoojgkpaaDoorPlain5
namespace Go.Proofs.YtkbmajkoojgkpaaDoor

def verB : List UInt8 := [72, 84, 84, 80, 47, 49, 46, 49]
def upA (c : UInt8) : Bool := decide (65 ≤ c.toNat ∧ c.toNat ≤ 90)
def tgC (c : UInt8) : Bool := decide (33 ≤ c.toNat ∧ c.toNat ≤ 126)
def digC (c : UInt8) : Bool := decide (48 ≤ c.toNat ∧ c.toNat ≤ 57)

/-- What a request's line says: of the three parts. -/
def firstP (m t v : List UInt8) (f1 f2 : Bool) : Option (List UInt8 × List UInt8) :=
  if f1 = true ∧ f2 = true ∧ v = verB ∧ 1 ≤ m.length ∧ m.length ≤ 10 ∧ t ≠ [] ∧ m.all upA = true ∧ t.all tgC = true then some (m, t) else none
def firstF (s : List UInt8) : Option (List UInt8 × List UInt8) :=
  firstP (cutL 32 s).1 (cutL 32 (cutL 32 s).2.1).1 (cutL 32 (cutL 32 s).2.1).2.1 (cutL 32 s).2.2 (cutL 32 (cutL 32 s).2.1).2.2

def numC (n : Nat) (c : UInt8) : Nat := 10 * n + (c.toNat - 48)
def numF (n : Nat) (l : List UInt8) : Nat := l.foldl numC n
def lengthF (s : List UInt8) : Option Nat := if 1 ≤ s.length ∧ s.length ≤ 18 ∧ s.all digC = true then some (numF 0 s) else none

def hostN : List UInt8 := [104, 111, 115, 116]
def teN : List UInt8 := [116, 114, 97, 110, 115, 102, 101, 114, 45, 101, 110, 99, 111, 100, 105, 110, 103]
def clN : List UInt8 := [99, 111, 110, 116, 101, 110, 116, 45, 108, 101, 110, 103, 116, 104]
def connN : List UInt8 := [99, 111, 110, 110, 101, 99, 116, 105, 111, 110]
def closeN : List UInt8 := [99, 108, 111, 115, 101]
def chunkedN : List UInt8 := [99, 104, 117, 110, 107, 101, 100]

/-- Whether a value has the word. -/
def saysF (v : List UInt8) : Bool := (wordsF v).any (fun w => decide (w = closeN))
def closesF : List Fld → Bool
  | [] => false
  | f :: fs => (decide (f.1 = connN) && saysF f.2) || closesF fs

/-- A whole head's body: an error, or how it begins. -/
def emptyF (fs : List Fld) : Int × St :=
  if cntF hostN fs ≠ 1 ∨ 1 < cntF teN fs ∨ 1 < cntF clN fs ∨ (cntF teN fs = 1 ∧ cntF clN fs = 1) ∨ (cntF clN fs = 1 ∧ lengthF (findF clN fs) = none) then (4, sN 0 0 0 [])
  else if cntF teN fs = 1 then (if (findF teN fs).map low = chunkedN then (0, sN 2 0 0 []) else (4, sN 0 0 0 []))
  else if cntF clN fs = 1 then (if 4096 < (lengthF (findF clN fs)).getD 0 then (9, sN 0 0 0 []) else (0, sized0 ((lengthF (findF clN fs)).getD 0)))
  else (0, sized0 0)

/-- What stands in a Wire. -/
structure WSt where
  next : Int
  line : List UInt8
  m : List UInt8
  t : List UInt8
  fs : List Fld
  keep : Bool
  bd : St
/-- A request that came. -/
structure Req where
  m : List UInt8
  t : List UInt8
  fs : List Fld
  body : List UInt8
  keep : Bool
def WSt.new : WSt := { next := 1, line := [], m := [], t := [], fs := [], keep := false, bd := sN 0 0 0 [] }
def WSt.dead : WSt := { next := 5, line := [], m := [], t := [], fs := [], keep := false, bd := sN 0 0 0 [] }

/-- A line without its end. -/
def bareF (l : List UInt8) : Option (List UInt8) := if [13, 10].isSuffixOf l then some (l.take (l.length - 2)) else none
/-- The head is whole. -/
def closeF (s : WSt) : Int × WSt :=
  if (emptyF s.fs).1 = 0 then (0, { s with next := 3, keep := s.keep && !closesF s.fs, bd := (emptyF s.fs).2 }) else ((emptyF s.fs).1, s)
def fieldW (s : WSt) (l : List UInt8) : Int × WSt :=
  if s.fs.length = 32 then (2, s) else match fieldF l with
    | some f => (0, { s with fs := s.fs ++ [f] })
    | none => (4, s)
def beginW (s : WSt) : Option (List UInt8 × List UInt8) → Int × WSt
  | some (m, t) => (0, { s with next := 2, m := m, t := t, fs := [], keep := true })
  | none => (4, s)
/-- A line without its end is looked at. -/
def judgeB (s : WSt) (b : List UInt8) : Int × WSt :=
  if s.next = 1 then beginW s (firstF b) else if b = [] then closeF s else fieldW s b
/-- A line is whole. -/
def judgeF (s : WSt) (l : List UInt8) : Int × WSt :=
  match bareF l with
  | none => (4, s)
  | some b => judgeB s b
/-- A byte of a line. -/
def takeW (s : WSt) (c : UInt8) : Int × WSt :=
  if c = 10 then ((judgeF s (s.line ++ [c])).1, { (judgeF s (s.line ++ [c])).2 with line := [] })
  else if s.line.length = 1023 then (2, { s with line := s.line ++ [c] }) else (0, { s with line := s.line ++ [c] })
/-- The request, if it is whole. -/
def wholeW (s : WSt) : Option Req × WSt :=
  if s.next = 3 ∧ s.bd.next = 9 then
    (some { m := s.m, t := s.t, fs := s.fs, body := s.bd.got, keep := s.keep }, { next := if s.keep then 1 else 4, line := s.line, m := [], t := [], fs := [], keep := false, bd := sN 0 0 0 [] })
  else (none, s)
def errW (e : Int) : Int := if e = 2 then 9 else e
/-- A byte: an error, a request, the state behind it. -/
def byteW (s : WSt) (c : UInt8) : Int × Option Req × WSt :=
  if s.next = 3 then
    if (stepF s.bd c).bad = 0 then (0, wholeW { s with bd := stepF s.bd c }) else (errW (stepF s.bd c).bad, none, WSt.dead)
  else if (takeW s c).1 = 0 then (0, wholeW (takeW s c).2) else ((takeW s c).1, none, WSt.dead)
/-- Bytes are fed: the requests, an error, the state behind them. -/
def runW : WSt → List UInt8 → List Req × Int × WSt
  | s, [] => ([], 0, s)
  | s, c :: cs =>
    if s.next = 4 then ([], 0, s)
    else if (byteW s c).1 ≠ 0 then ([], (byteW s c).1, WSt.dead)
    else ((byteW s c).2.1.toList ++ (runW (byteW s c).2.2 cs).1, (runW (byteW s c).2.2 cs).2)
/-- What follows behind a step that may have made a request. -/
def thenW (r : Option Req × WSt) (ys : List UInt8) : List Req × Int × WSt := (r.1.toList ++ (runW r.2 ys).1, (runW r.2 ys).2)
/-- A piece is fed. -/
def feedW (s : WSt) (xs : List UInt8) : List Req × Int × WSt := if s.next = 0 then ([], 1, s) else if s.next = 5 then ([], 8, s) else runW s xs

/-- What always holds of a wire. -/
structure WSt.Ok (s : WSt) : Prop where
  nx : 1 ≤ s.next ∧ s.next ≤ 5
  ln : s.line.length < 1024
  fl : s.fs.length ≤ 32
  asc : ∀ f, f ∈ s.fs → f.1.length ≤ 1024 ∧ f.2.length ≤ 1024 ∧ f.2.all valC = true
  body : s.next = 3 → s.bd.Ok ∧ s.bd.next ≠ 0 ∧ s.bd.next ≠ 9 ∧ s.bd.bad = 0
  emp : s.next = 3 ∨ s.next = 4 ∨ s.next = 5 → s.line = []
  zero : s.next = 1 ∨ s.next = 4 ∨ s.next = 5 → s.m = [] ∧ s.t = [] ∧ s.fs = [] ∧ s.keep = false
end Go.Proofs.YtkbmajkoojgkpaaDoor
