/- What a body that is fed piece by piece answers beside the reference: the plain law of a round. -/
import Derived.Test.YtkbmajkoojgkpaaPlain5
namespace Go.Proofs.Ytkbmajkoojgkpaa

/-- The three ways of a round: an error (a), there whole (b), more is to come (c). -/
theorem round_ways {s0 sk : St} {ys x : List UInt8} (h : feedL s0 ys = (ys.length, sk)) (hb : sk.bad = 0) (h0 : sk.next ≠ 0) :
    ∃ (U N E : Int) (s1 : St), (feedF sk x).1 = N ∧ (feedF sk x).2.1 = E ∧ (feedF sk x).2.2 = s1 ∧ toldU (feedL s0 (ys ++ x)) = U ∧ (feedL s0 (ys ++ x)).2.bad = E ∧ s1.bad = E ∧ (feedL s0 (ys ++ x)).2.told = s1 ∧
      ((E ≠ 0 ∧ U = 0 ∧ N = 0 ∧ s1.next ≠ 9 ∧ s1.got = []) ∨
       (E = 0 ∧ ∃ j : Nat, N = j ∧ j ≤ x.length ∧ feedL s0 ((ys ++ x).take (ys.length + j)) = (ys.length + j, s1) ∧ ((U = ys.length + j ∧ s1.next = 9) ∨ (U = -1 ∧ j = x.length ∧ s1.next ≠ 9)))) := by
  have ha := feedL_append ys x s0
  rw [h] at ha
  simp only at ha
  refine ⟨_, _, _, _, rfl, rfl, rfl, rfl, ?_, ?_, ?_, ?_⟩
  · rw [ha, feedF_eq h0]
  · rw [feedF_eq h0]
    simp only [St.told]
    split <;> simp_all
  · rw [ha, feedF_eq h0]
  · rw [feedF_eq h0]
    by_cases hE : (feedL sk x).2.bad = 0
    · right
      refine ⟨hE, (feedL sk x).1, by simp [hE], feedL_le x sk, ?_, ?_⟩
      · have ht := feedL_take (ys ++ x) s0
        rw [ha] at ht
        simp only at ht
        rw [ht]
        simp [St.told, hE]
      · simp only [St.told, hE, if_true]
        by_cases h9 : (feedL sk x).2.next = 9
        · left
          refine ⟨?_, h9⟩
          rw [ha]
          simp [toldU, hE, h9]
        · right
          refine ⟨?_, feed_on_all x sk (by simp [St.on, h9, hE]), h9⟩
          rw [ha]
          simp [toldU, hE, h9]
    · left
      refine ⟨hE, ?_, by simp [hE], ?_, ?_⟩
      · rw [ha]; simp [toldU, hE]
      · simp only [St.told, hE, if_false]
        exact feed_bad_next x sk hb hE
      · simp [St.told, hE]

theorem feed_off_same {sk : St} (hb : sk.bad ≠ 0) (h0 : sk.next ≠ 0) (hg : sk.got = []) (x : List UInt8) : feedF sk x = (0, sk.bad, sk) := by
  rw [feedF_eq h0, feedL_off (off_of_bad hb)]
  simp only [hb, if_false, St.told]
  simp only [Prod.mk.injEq, true_and]
  cases sk
  simp_all
end Go.Proofs.Ytkbmajkoojgkpaa
