/- Plain laws for a body that is fed piece by piece beside the reference. -/
import Derived.Test.YtkbmajkoojgkpaaDoorPlain4
namespace Go.Proofs.YtkbmajkoojgkpaaDoor

theorem feedL_take : ∀ (xs : List UInt8) (s : St), feedL s (xs.take (feedL s xs).1) = feedL s xs
  | [], s => by simp [feedL]
  | c :: cs, s => by
    by_cases h : s.on = true
    · simp only [feedL, h, if_true, List.take_succ_cons]
      rw [feedL_take cs]
    · have h' : s.on = false := by simpa using h
      simp [feedL, h']

theorem feed_on_all : ∀ (xs : List UInt8) (s : St), (feedL s xs).2.on = true → (feedL s xs).1 = xs.length
  | [], s, _ => by simp [feedL]
  | c :: cs, s, h => by
    by_cases ho : s.on = true
    · simp only [feedL, ho, if_true] at h ⊢
      rw [feed_on_all cs _ h]
      simp
    · have h' : s.on = false := by simpa using ho
      simp [feedL, h'] at h

theorem step_bad_next {s : St} (c : UInt8) (h9 : s.next ≠ 9) (hb : (stepF s c).bad ≠ 0) : (stepF s c).next ≠ 9 := by
  unfold stepF takeF at *
  have w : ∀ m nx : Int, (wantF s c.toNat m nx).1 ≠ 0 → (wantF s c.toNat m nx).2.next ≠ 9 := fun m nx hx => by
    unfold wantF at *
    split
    · rename_i h; rw [if_pos h] at hx; exact absurd rfl hx
    · exact h9
  split
  · rename_i h; rw [if_pos h] at hb; exact absurd rfl hb
  rename_i h1
  rw [if_neg h1] at hb
  split
  · rename_i h; rw [if_pos h] at hb
    unfold sizeF at *
    split
    · rename_i n hn
      rw [hn] at hb
      simp only at hb
      split
      · exact h9
      · rename_i h8; rw [if_neg h8] at hb; exact w _ _ hb
    · rename_i hn
      rw [hn] at hb
      simp only at hb
      split
      · exact h9
      · rename_i h8; rw [if_neg h8] at hb; exact w _ _ hb
  rename_i h2
  rw [if_neg h2] at hb
  split
  · rename_i h; rw [if_pos h] at hb
    unfold lineF at *
    split
    · rename_i h10; rw [if_pos h10] at hb
      split
      · exact h9
      · rename_i hl; rw [if_neg hl] at hb
        split
        · simp
        · simp
    · exact h9
  rename_i h3
  rw [if_neg h3] at hb
  split
  · rename_i h; rw [if_pos h] at hb; exact w _ _ hb
  rename_i h4
  rw [if_neg h4] at hb
  split
  · rename_i h; rw [if_pos h] at hb; exact w _ _ hb
  rename_i h5
  rw [if_neg h5] at hb
  split
  · rename_i h; rw [if_pos h] at hb; exact w _ _ hb
  rename_i h6
  rw [if_neg h6] at hb
  split
  · rename_i h; rw [if_pos h] at hb; exact w _ _ hb
  · exact h9

theorem feed_bad_next : ∀ (xs : List UInt8) (s : St), s.bad = 0 → (feedL s xs).2.bad ≠ 0 → (feedL s xs).2.next ≠ 9
  | [], s, h0, hb => absurd h0 (by simpa [feedL] using hb)
  | c :: cs, s, h0, hb => by
    by_cases ho : s.on = true
    · simp only [feedL, ho, if_true] at hb ⊢
      by_cases h1 : (stepF s c).bad = 0
      · exact feed_bad_next cs _ h1 hb
      · rw [feedL_off (off_of_bad h1)]
        have h9 : s.next ≠ 9 := by simp [St.on] at ho; exact ho.1
        exact step_bad_next c h9 h1
    · have h' : s.on = false := by simpa using ho
      simp [feedL, h'] at hb
      exact absurd h0 hb

/-- The state of a sized body of so many bytes before anything has come. -/
def sized0 (n : Nat) : St := if n = 0 then sN 9 0 0 [] else sN 1 n 0 []
theorem feed_sized : ∀ (xs : List UInt8) (n : Nat) (d : List UInt8), 0 < n →
    feedL (sN 1 n 0 d) xs = if n ≤ xs.length then (n, sN 9 0 0 (d ++ xs.take n)) else (xs.length, sN 1 ((n : Int) - xs.length) 0 (d ++ xs))
  | [], n, d, h => by
    rw [if_neg (by simp; omega)]
    simp [feedL]
  | c :: cs, n, d, h => by
    simp only [feedL, sN_on (by decide : (1 : Int) ≠ 9), if_true]
    have hs : stepF (sN 1 n 0 d) c = if 1 < n then sN 1 ((n - 1 : Nat) : Int) 0 (d ++ [c]) else sN 9 0 0 (d ++ [c]) := by
      unfold stepF takeF
      rw [if_pos (.inl rfl)]
      unfold dataF sN
      by_cases h1 : 1 < n
      · rw [if_pos h1]
        simp only
        rw [if_pos (by omega)]
        congr 1
        omega
      · rw [if_neg h1]
        have : n = 1 := by omega
        subst this
        simp
    rw [hs]
    by_cases h1 : 1 < n
    · rw [if_pos h1, feed_sized cs (n - 1) (d ++ [c]) (by omega)]
      by_cases hl : n ≤ (c :: cs).length
      · rw [if_pos hl, if_pos (by simp at hl; omega)]
        obtain ⟨m, rfl⟩ : ∃ m, n = m + 1 := ⟨n - 1, by omega⟩
        simp
      · rw [if_neg hl, if_neg (by simp at hl; omega)]
        simp only [List.length_cons, List.append_assoc, List.singleton_append, Prod.mk.injEq, true_and]
        congr 1
        simp at hl
        omega
    · have : n = 1 := by omega
      subst this
      rw [if_neg (by omega), feedL_off (by rfl), if_pos (by simp)]
      simp

/-- What the reference tells, for both kinds of bodies: how many bytes (-1: not there whole), what it has, an error. -/
def toldU (r : Nat × St) : Int := if r.2.bad ≠ 0 then 0 else if r.2.next = 9 then r.1 else -1
theorem feed_sized0 (xs : List UInt8) (n : Nat) : feedL (sized0 n) xs = if n ≤ xs.length then (n, sN 9 0 0 (xs.take n)) else (xs.length, sN 1 ((n : Int) - xs.length) 0 xs) := by
  unfold sized0
  by_cases h : n = 0
  · subst h
    rw [if_pos rfl, feedL_off (by rfl), if_pos (Nat.zero_le _)]
    simp
  · rw [if_neg h, feed_sized xs n [] (by omega)]
    simp
end Go.Proofs.YtkbmajkoojgkpaaDoor
