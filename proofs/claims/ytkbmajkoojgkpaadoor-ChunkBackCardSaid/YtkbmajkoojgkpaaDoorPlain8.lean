/- A body that comes back piece by piece: the plain law of a round. -/
import Derived.Test.YtkbmajkoojgkpaaDoorPlain7
namespace Go.Proofs.YtkbmajkoojgkpaaDoor

theorem back_round {s0 sk s9 : St} {front p tail : List UInt8} {n : Nat} (hz : feedL s0 (front ++ (p ++ tail)) = (n, s9)) (h9 : s9.bad = 0) (hf : feedL s0 front = (front.length, sk)) (h0 : sk.next ≠ 0) :
    ∃ (N : Nat) (s1 : St), feedF sk p = ((N : Int), 0, s1) ∧ N ≤ p.length ∧ ((N < p.length ∧ front.length + N = n ∧ s1 = s9) ∨ (N = p.length ∧ feedL s0 (front ++ p) = ((front ++ p).length, s1))) := by
  have ha := feedL_append front (p ++ tail) s0
  rw [hz, hf] at ha
  simp only at ha
  rw [feedL_append p tail sk] at ha
  have hap := feedL_append front p s0
  rw [hf] at hap
  simp only at hap
  obtain ⟨e1, e2⟩ := Prod.mk.inj ha
  have hb : (feedL sk p).2.bad = 0 := by
    by_cases hb : (feedL sk p).2.bad = 0
    · exact hb
    · rw [feedL_off (off_of_bad hb)] at e2
      rw [e2] at h9
      exact h9
  have hle := feedL_le p sk
  refine ⟨(feedL sk p).1, (feedL sk p).2, ?_, hle, ?_⟩
  · rw [feedF_eq h0]
    simp [hb, St.told]
  · by_cases hlt : (feedL sk p).1 < p.length
    · left
      have hoff : (feedL sk p).2.on = false := by
        cases ho : (feedL sk p).2.on with
        | false => rfl
        | true => have := feed_on_all p sk ho; omega
      rw [feedL_off hoff] at e1 e2
      exact ⟨hlt, by simp only at e1; omega, e2.symm⟩
    · right
      refine ⟨by omega, ?_⟩
      rw [hap, List.length_append]
      simp only [Prod.mk.injEq, and_true]
      omega

/-- What comes of the whole at once. -/
theorem feed_whole (sz : Nat) (s rest : List UInt8) (hs : s.length ≤ 4096) : feedL (sN 2 0 0 []) ((chunkW sz s ++ lastW) ++ rest) = ((chunkW sz s ++ lastW).length, sN 9 0 0 s) := by
  have := feed_chunkW s.length sz s [] rest (Nat.le_refl _) (by simpa using hs)
  rw [List.append_assoc, this]
  simp [lastW]
theorem feedF_whole (sz : Nat) (s : List UInt8) (hs : s.length ≤ 4096) : ∃ N : Int, feedF (sN 2 0 0 []) (chunkW sz s ++ lastW) = (N, 0, sN 9 0 0 s) := by
  have := feed_whole sz s [] hs
  rw [List.append_nil] at this
  refine ⟨((chunkW sz s ++ lastW).length : Int), ?_⟩
  unfold feedF
  rw [this]
  rfl
theorem feedF_long (sz : Nat) (s : List UInt8) (hs : 4096 < s.length) (hs2 : s.length ≤ 65535) : ∃ s1 : St, feedF (sN 2 0 0 []) (chunkW sz s ++ lastW) = (0, 2, s1) ∧ s1.got = [] ∧ s1.next ≠ 9 := by
  have h := feed_chunkW_long s.length sz s [] [] (Nat.le_refl _) (by simp) (by simpa using hs) hs2
  rw [List.append_nil] at h
  have hn := feed_bad_next (chunkW sz s ++ lastW) (sN 2 0 0 []) rfl (by rw [h]; decide)
  refine ⟨{ (feedL (sN 2 0 0 []) (chunkW sz s ++ lastW)).2 with got := [] }, ?_, ?_, hn⟩
  · unfold feedF
    rw [if_neg (by decide), if_neg (by rw [h]; decide), h]
  · rfl
end Go.Proofs.YtkbmajkoojgkpaaDoor
