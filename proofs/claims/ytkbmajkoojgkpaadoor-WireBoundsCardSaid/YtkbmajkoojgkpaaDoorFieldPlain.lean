/- Fields as plain functions on lists of bytes. No Go here. -/
import Derived.Lib.SlTrimSet
import Derived.Lib.IndexMore
namespace Go.Proofs.YtkbmajkoojgkpaaDoor

def low (c : UInt8) : UInt8 := if 65 ≤ c.toNat ∧ c.toNat ≤ 90 then c + 32 else c
def isLet (c : UInt8) : Bool := decide (65 ≤ c.toNat ∧ c.toNat ≤ 90) || decide (97 ≤ c.toNat ∧ c.toNat ≤ 122)
def nameC (c : UInt8) : Bool := isLet c || decide (48 ≤ c.toNat ∧ c.toNat ≤ 57) || decide (c.toNat = 45)
def valC (c : UInt8) : Bool := decide (c.toNat = 9) || decide (32 ≤ c.toNat ∧ c.toNat ≤ 126)
def blank2 : List UInt8 := [32, 9]
def trimF (l : List UInt8) : List UInt8 := Lib.trimS l blank2

/-- Around the first c. -/
def cutL (c : UInt8) : List UInt8 → List UInt8 × List UInt8 × Bool
  | [] => ([], [], false)
  | b :: l => if b = c then ([], l, true) else (b :: (cutL c l).1, (cutL c l).2.1, (cutL c l).2.2)
theorem index_cons (c b : UInt8) (l : List UInt8) : Lib.index (b :: l) [c] = if b = c then 0 else if Lib.index l [c] == -1 then -1 else Lib.index l [c] + 1 := by
  rw [Lib.index]
  by_cases h : b = c
  · subst h
    simp [List.isPrefixOf]
  · have : (c == b) = false := by simp; exact fun e => h e.symm
    simp [List.isPrefixOf, this, h]
theorem cut_eq (c : UInt8) : ∀ l : List UInt8, Lib.cut l [c] = cutL c l
  | [] => by simp [Lib.cut, Lib.index, cutL]
  | b :: l => by
    have ih := cut_eq c l
    unfold Lib.cut at ih ⊢
    rw [index_cons, cutL]
    by_cases h : b = c
    · subst h
      simp
    · rw [if_neg h, if_neg h]
      have hge := Lib.index_ge l [c]
      by_cases h1 : Lib.index l [c] = -1
      · rw [h1] at ih ⊢
        simp at ih ⊢
        rw [← ih]
        simp
      · have h2 : 0 ≤ Lib.index l [c] := by omega
        rw [if_pos h2] at ih
        rw [← ih]
        have h3 : (Lib.index l [c] == -1) = false := by simpa using h1
        rw [h3]
        simp only [Bool.false_eq_true, if_false]
        rw [if_pos (by omega)]
        have e1 : (Lib.index l [c] + 1).toNat = (Lib.index l [c]).toNat + 1 := by omega
        rw [e1]
        simp
/-- The pieces between the c's. -/
def splitL (c : UInt8) : List UInt8 → List (List UInt8)
  | [] => [[]]
  | b :: l => if b = c then [] :: splitL c l else match splitL c l with
    | [] => [[b]]
    | p :: ps => (b :: p) :: ps
theorem splitL_ne (c : UInt8) : ∀ l, splitL c l ≠ []
  | [] => by simp [splitL]
  | b :: l => by
    rw [splitL]
    split
    · simp
    · split <;> simp
theorem splitL_miss (c : UInt8) : ∀ p : List UInt8, (∀ x, x ∈ p → x ≠ c) → splitL c p = [p]
  | [], _ => rfl
  | b :: l, h => by
    rw [splitL, if_neg (h b (by simp)), splitL_miss c l (fun x hx => h x (by simp [hx]))]
theorem splitL_hit (c : UInt8) (r : List UInt8) : ∀ p : List UInt8, (∀ x, x ∈ p → x ≠ c) → splitL c (p ++ c :: r) = p :: splitL c r
  | [], _ => by simp [splitL]
  | b :: l, h => by
    rw [List.cons_append, splitL, if_neg (h b (by simp)), splitL_hit c r l (fun x hx => h x (by simp [hx]))]
/-- The name and the value, or an error. -/
def fieldF (s : List UInt8) : Option (List UInt8 × List UInt8) :=
  if (cutL 58 s).2.2 = true ∧ (cutL 58 s).1 ≠ [] ∧ (cutL 58 s).1.all nameC = true ∧ (cutL 58 s).2.1.all valC = true then some ((cutL 58 s).1.map low, trimF (cutL 58 s).2.1) else none
/-- The words of a value. -/
def wordsF (s : List UInt8) : List (List UInt8) := (((splitL 44 s).map trimF).filter (fun w => !w.isEmpty)).map (·.map low)
end Go.Proofs.YtkbmajkoojgkpaaDoor
