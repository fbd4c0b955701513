/- However bytes are cut, the same comes of them: plain laws of chunk's decoder. -/
import Derived.Test.YtkbmajkoojgkpaaDoorPlain2
namespace Go.Proofs.YtkbmajkoojgkpaaDoor

theorem feedL_off {s : St} (h : s.on = false) (xs : List UInt8) : feedL s xs = (0, s) := by
  cases xs with
  | nil => rfl
  | cons c cs => simp [feedL, h]

theorem feedL_append : ∀ (xs ys : List UInt8) (s : St), feedL s (xs ++ ys) = ((feedL s xs).1 + (feedL (feedL s xs).2 ys).1, (feedL (feedL s xs).2 ys).2)
  | [], ys, s => by simp [feedL]
  | c :: cs, ys, s => by
    by_cases h : s.on = true
    · simp only [List.cons_append, feedL, h, if_true]
      rw [feedL_append cs ys]
      simp only [Prod.mk.injEq, and_true]
      omega
    · have h' : s.on = false := by simpa using h
      simp [feedL, h', feedL_off h']

theorem feedL_le : ∀ (xs : List UInt8) (s : St), (feedL s xs).1 ≤ xs.length
  | [], s => by simp [feedL]
  | c :: cs, s => by
    unfold feedL
    split
    · have := feedL_le cs (stepF s c)
      simp only [List.length_cons]; omega
    · simp

theorem step_ne0 {s : St} (h : s.next ≠ 0) (c : UInt8) : (stepF s c).next ≠ 0 := by
  unfold stepF takeF
  have w : ∀ m nx : Int, nx ≠ 0 → (wantF s c.toNat m nx).2.next ≠ 0 := fun m nx hx => by unfold wantF; split <;> simp [hx, h]
  split
  · unfold dataF; simp only; split
    · exact h
    · split <;> decide
  split
  · unfold sizeF
    split
    · split
      · exact h
      · exact w _ _ (by decide)
    · split
      · exact h
      · exact w _ _ (by decide)
  split
  · unfold lineF
    split
    · split
      · exact h
      · split <;> (simp only; decide)
    · exact h
  split
  · exact w _ _ (by decide)
  split
  · exact w _ _ (by decide)
  split
  · exact w _ _ (by decide)
  split
  · exact w _ _ (by decide)
  · exact h

theorem feed_ne0 : ∀ (xs : List UInt8) {s : St}, s.next ≠ 0 → (feedL s xs).2.next ≠ 0
  | [], _, h => h
  | c :: cs, s, h => by
    unfold feedL
    split
    · exact feed_ne0 cs (step_ne0 h c)
    · exact h

/-- What is left of a state when an error is told. -/
def St.told (s : St) : St := if s.bad = 0 then s else { s with got := [] }
theorem feedF_eq {s : St} (h : s.next ≠ 0) (xs : List UInt8) :
    feedF s xs = (if (feedL s xs).2.bad = 0 then ((feedL s xs).1 : Int) else 0, (feedL s xs).2.bad, (feedL s xs).2.told) := by
  unfold feedF St.told
  rw [if_neg h]
  split
  · rename_i hb
    rw [hb]
  · rfl
theorem feedF_ok {s : St} (h : s.Ok) (h0 : s.next ≠ 0) (xs : List UInt8) : (feedF s xs).2.2.Ok := by
  rw [feedF_eq h0]
  have hk := feed_ok xs h
  unfold St.told
  simp only
  split
  · exact hk
  · exact ⟨hk.n0, hk.n9, hk.l0, hk.l1, hk.d0, hk.d8, Nat.zero_le _, fun h1 => ⟨(hk.room h1).1, by have := (hk.room h1).2; simp only [List.length_nil]; omega⟩, hk.size, hk.b0, hk.b1, hk.fresh, hk.dig⟩
theorem feedF_ne0 {s : St} (h0 : s.next ≠ 0) (xs : List UInt8) : (feedF s xs).2.2.next ≠ 0 := by
  rw [feedF_eq h0]
  have := feed_ne0 xs h0
  unfold St.told
  simp only
  split <;> exact this

/-- Pieces are fed, up to an error: the number so far, an error, the state. -/
def piecesF : Int → St → List (List UInt8) → Int × Int × St
  | n, s, [] => (n, 0, s)
  | n, s, p :: ps => if (feedF s p).2.1 = 0 then piecesF (n + (feedF s p).1) (feedF s p).2.2 ps else (0, (feedF s p).2.1, (feedF s p).2.2)

theorem off_of_bad {s : St} (h : s.bad ≠ 0) : s.on = false := by simp [St.on, h]

theorem piecesF_eq : ∀ (ps : List (List UInt8)) (n : Int) (s : St), s.next ≠ 0 → s.bad = 0 →
    piecesF n s ps = (if (feedL s ps.flatten).2.bad = 0 then n + (feedL s ps.flatten).1 else 0, (feedL s ps.flatten).2.bad, (feedL s ps.flatten).2.told)
  | [], n, s, _, hb => by simp [piecesF, feedL, hb, St.told]
  | p :: ps, n, s, h0, hb => by
    rw [List.flatten_cons, feedL_append]
    unfold piecesF
    rw [feedF_eq h0]
    by_cases h : (feedL s p).2.bad = 0
    · simp only [h, if_true]
      rw [show (feedL s p).2.told = (feedL s p).2 from by simp [St.told, h], piecesF_eq ps _ _ (feed_ne0 p h0) h]
      simp only [Prod.mk.injEq, and_true]
      split <;> omega
    · simp only [h, if_false, feedL_off (off_of_bad h)]
end Go.Proofs.YtkbmajkoojgkpaaDoor
