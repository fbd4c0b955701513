/- What strings.Split hands back at one byte, in plain words. -/
import Derived.Test.YtkbmajkoojgkpaaDoorFieldPlain
import Derived.Lib.Split
namespace Go.Proofs.YtkbmajkoojgkpaaDoor

theorem split_eq (c : UInt8) : ∀ l : List UInt8, Lib.split l [c] = splitL c l ∧ (splitL c l).length = Lib.count l [c] + 1
  | [] => by
    have h : Lib.index ([] : List UInt8) [c] = -1 := rfl
    unfold Lib.split
    rw [Lib.count_miss h]
    exact ⟨rfl, rfl⟩
  | b :: l => by
    obtain ⟨ih1, ih2⟩ := split_eq c l
    have hix := index_cons c b l
    have hge := Lib.index_ge l [c]
    rw [splitL]
    by_cases h : b = c
    · rw [if_pos h] at hix ⊢
      have hc := Lib.count_hit (s := b :: l) (sub := [c]) (i := 0) (by simp) (by simpa using hix)
      simp only [List.length_cons, List.length_nil, Nat.zero_add, List.drop_succ_cons, List.drop_zero] at hc
      refine ⟨?_, by rw [hc, List.length_cons, ih2]; omega⟩
      unfold Lib.split at ih1 ⊢
      rw [hc, Nat.add_comm, Lib.splitK, hix]
      simp [ih1]
    · rw [if_neg h] at hix ⊢
      by_cases h1 : Lib.index l [c] = -1
      · rw [h1] at hix
        simp at hix
        have hc := Lib.count_miss hix
        have hc2 := Lib.count_miss h1
        unfold Lib.split at ih1 ⊢
        rw [hc2, Lib.splitK] at ih1
        rw [hc, Lib.splitK, ← ih1]
        exact ⟨rfl, rfl⟩
      · obtain ⟨i, hi⟩ : ∃ i : Nat, Lib.index l [c] = i := ⟨(Lib.index l [c]).toNat, by omega⟩
        have h3 : (Lib.index l [c] == -1) = false := by simpa using h1
        rw [h3, hi] at hix
        simp only [Bool.false_eq_true, if_false] at hix
        have hc := Lib.count_hit (s := b :: l) (sub := [c]) (i := i + 1) (by simp) (by rw [hix]; simp)
        have hc2 := Lib.count_hit (s := l) (sub := [c]) (i := i) (by simp) hi
        simp only [List.length_cons, List.length_nil, Nat.zero_add, List.drop_succ_cons] at hc hc2
        unfold Lib.split at ih1 ⊢
        rw [hc2, Nat.add_comm, Lib.splitK, h3, hi] at ih1
        simp only [Bool.false_eq_true, if_false, Int.toNat_natCast, Nat.add_zero, List.length_cons, List.length_nil, Nat.zero_add] at ih1
        have h4 : (Lib.index (b :: l) [c] == -1) = false := by rw [hix]; simp; omega
        have h5 : (Lib.index (b :: l) [c]).toNat = i + 1 := by rw [hix]; omega
        rw [hc, Nat.add_comm, Lib.splitK, h4, h5]
        simp only [Bool.false_eq_true, if_false, Nat.add_zero, List.length_cons, List.length_nil, Nat.zero_add, List.drop_succ_cons, List.take_succ_cons]
        rw [← ih1] at ih2 ⊢
        refine ⟨rfl, ?_⟩
        simp only [List.length_cons] at ih2 ⊢
        rw [hc2] at ih2
        omega
end Go.Proofs.YtkbmajkoojgkpaaDoor
