/- Chunk's decoder as plain functions on lists of bytes: what a byte does, what a piece does. No Go here. -/
namespace Go.Proofs.YtkbmajkoojgkpaaDoor

/-- What stands in a Body. -/
structure St where
  next : Int
  left : Int
  digits : Int
  got : List UInt8
  bad : Int

def digV (c : Int) : Option Int :=
  if 48 ≤ c ∧ c ≤ 57 then some (c - 48) else if 97 ≤ c ∧ c ≤ 102 then some (c - 87) else if 65 ≤ c ∧ c ≤ 70 then some (c - 55) else none

def wantF (s : St) (c m nx : Int) : Int × St := if c = m then (0, { s with next := nx }) else (4, s)

def sizeF (s : St) (c : Int) : Int × St :=
  match digV c with
  | some n => if s.digits < 8 then (0, { s with left := s.left * 16 + n, digits := s.digits + 1 }) else wantF s c 13 3
  | none => if s.digits = 0 then (4, s) else wantF s c 13 3

def lineF (s : St) (c : Int) : Int × St :=
  if c = 10 then
    if 4096 - (s.got.length : Int) < s.left then (2, { s with digits := 0 })
    else if s.left = 0 then (0, { s with digits := 0, next := 7 }) else (0, { s with digits := 0, next := 4 })
  else (4, { s with digits := 0 })

def dataF (s : St) (c : UInt8) : St :=
  { s with got := s.got ++ [c], left := s.left - 1, next := if 0 < s.left - 1 then s.next else if s.next = 1 then 9 else 5 }

/-- What a byte does. -/
def takeF (s : St) (c : UInt8) : Int × St :=
  if s.next = 1 ∨ s.next = 4 then (0, dataF s c)
  else if s.next = 2 then sizeF s c.toNat
  else if s.next = 3 then lineF s c.toNat
  else if s.next = 5 then wantF s c.toNat 13 6
  else if s.next = 6 then wantF s c.toNat 10 2
  else if s.next = 7 then wantF s c.toNat 13 8
  else if s.next = 8 then wantF s c.toNat 10 9
  else (0, s)

/-- Whether another byte is looked at. -/
def St.on (s : St) : Bool := decide (s.next ≠ 9) && decide (s.bad = 0)

/-- A byte is taken: the state behind it. -/
def stepF (s : St) (c : UInt8) : St := { (takeF s c).2 with bad := (takeF s c).1 }

def feedL : St → List UInt8 → Nat × St
  | s, [] => (0, s)
  | s, c :: cs => if s.on then ((feedL (stepF s c) cs).1 + 1, (feedL (stepF s c) cs).2) else (0, s)

/-- A piece is fed: the number, the error, the state. -/
def feedF (s : St) (xs : List UInt8) : Int × Int × St :=
  if s.next = 0 then (0, 1, s)
  else if (feedL s xs).2.bad = 0 then ((feedL s xs).1, 0, (feedL s xs).2)
  else (0, (feedL s xs).2.bad, { (feedL s xs).2 with got := [] })

/-- What always holds of a state. -/
structure St.Ok (s : St) : Prop where
  n0 : 0 ≤ s.next
  n9 : s.next ≤ 9
  l0 : 0 ≤ s.left
  l1 : s.left < 4294967296
  d0 : 0 ≤ s.digits
  d8 : s.digits ≤ 8
  g : s.got.length ≤ 4096
  room : s.next = 1 ∨ s.next = 4 → 0 < s.left ∧ s.got.length + s.left ≤ 4096
  size : s.next = 2 → s.left < 16 ^ s.digits.toNat
  b0 : 0 ≤ s.bad
  b1 : s.bad ≤ 4
  fresh : s.next = 5 ∨ s.next = 6 → s.left = 0 ∧ s.digits = 0
  dig : s.next = 4 → s.digits = 0

theorem digV_range {c n : Int} (h : digV c = some n) : 0 ≤ n ∧ n < 16 := by
  unfold digV at h
  split at h
  · injection h with h; omega
  · split at h
    · injection h with h; omega
    · split at h
      · injection h with h; omega
      · cases h
end Go.Proofs.YtkbmajkoojgkpaaDoor
