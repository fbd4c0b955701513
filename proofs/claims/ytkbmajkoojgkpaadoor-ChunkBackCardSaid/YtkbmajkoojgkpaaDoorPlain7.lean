/- How bytes are chunked, as plain functions on lists, and that the decoder takes back what was chunked. -/
import Derived.Test.YtkbmajkoojgkpaaDoorPlain5
namespace Go.Proofs.YtkbmajkoojgkpaaDoor

/-- A digit's byte. -/
def hexC (k : Nat) : UInt8 := UInt8.ofNat (if k < 10 then 48 + k else 87 + k)
/-- The digits of a number (none of 0). -/
def hexOf (v : Nat) : List UInt8 := if _h : v = 0 then [] else hexOf (v / 16) ++ [hexC (v % 16)]
termination_by v
decreasing_by omega
theorem hexOf_zero : hexOf 0 = [] := by rw [hexOf]; simp
theorem hexOf_step {v : Nat} (h : v ≠ 0) : hexOf v = hexOf (v / 16) ++ [hexC (v % 16)] := by rw [hexOf]; simp [h]
theorem hexC_toNat {k : Nat} (h : k < 16) : (hexC k).toNat = if k < 10 then 48 + k else 87 + k := by
  unfold hexC
  split
  · rw [UInt8.toNat_ofNat']; omega
  · rw [UInt8.toNat_ofNat']; omega
theorem hexC_digV {k : Nat} (h : k < 16) : digV ((hexC k).toNat : Int) = some (k : Int) := by
  rw [hexC_toNat h]
  unfold digV
  by_cases h1 : k < 10
  · rw [if_pos h1, if_pos (by omega)]
    congr 1
    omega
  · rw [if_neg h1, if_neg (by omega), if_pos (by omega)]
    congr 1
    omega
theorem hexOf_le : ∀ (d v : Nat), v < 16 ^ d → (hexOf v).length ≤ d
  | 0, v, h => by
    have : v = 0 := by simpa using h
    subst this
    simp [hexOf_zero]
  | d + 1, v, h => by
    by_cases h0 : v = 0
    · subst h0; simp [hexOf_zero]
    · rw [hexOf_step h0, List.length_append]
      have := hexOf_le d (v / 16) (by rw [Nat.pow_succ] at h; omega)
      simp
      omega
theorem hexOf_pos {v : Nat} (h : v ≠ 0) : 0 < (hexOf v).length := by rw [hexOf_step h]; simp

/-- What a body is written as, ahead of the last chunk. -/
def chunkW (sz : Nat) (s : List UInt8) : List UInt8 :=
  if h : s = [] then [] else hexOf (min (max sz 1) s.length) ++ ([13, 10] ++ (s.take (min (max sz 1) s.length) ++ ([13, 10] ++ chunkW sz (s.drop (min (max sz 1) s.length)))))
termination_by s.length
decreasing_by
  rw [List.length_drop]
  have : 0 < s.length := List.length_pos_iff.2 h
  omega
def lastW : List UInt8 := [48, 13, 10, 13, 10]
theorem chunkW_nil (sz : Nat) : chunkW sz [] = [] := by rw [chunkW]; simp
theorem chunkW_step {sz n : Nat} {s : List UInt8} (h : 0 < s.length) (hn : n = min (max sz 1) s.length) :
    chunkW sz s = hexOf n ++ ([13, 10] ++ (s.take n ++ ([13, 10] ++ chunkW sz (s.drop n)))) := by
  subst hn
  rw [chunkW]
  have : s ≠ [] := List.length_pos_iff.1 h
  simp [this]
theorem chunkW_len : ∀ (m sz : Nat) (s : List UInt8), s.length ≤ m → s.length ≤ 1048575 → (chunkW sz s).length ≤ 10 * s.length
  | m, sz, s, hm, hs => by
    by_cases h : 0 < s.length
    · rw [chunkW_step h rfl]
      have hl := hexOf_le 5 (min (max sz 1) s.length) (by omega)
      obtain ⟨m, rfl⟩ : ∃ k, m = k + 1 := ⟨m - 1, by omega⟩
      have ih := chunkW_len m sz (s.drop (min (max sz 1) s.length)) (by rw [List.length_drop]; omega) (by rw [List.length_drop]; omega)
      simp only [List.length_append, List.length_cons, List.length_nil, List.length_take]
      rw [List.length_drop] at ih
      omega
    · have : s = [] := List.length_eq_zero_iff.1 (by omega)
      subst this
      simp [chunkW_nil]

/-! ### The decoder takes it back -/
theorem feed_hex : ∀ (j v : Nat) (d rest : List UInt8), (hexOf v).length ≤ j → j ≤ 8 →
    feedL (sN 2 0 0 d) (hexOf v ++ rest) = ((hexOf v).length + (feedL (sN 2 v (hexOf v).length d) rest).1, (feedL (sN 2 v (hexOf v).length d) rest).2)
  | j, v, d, rest, hj, h8 => by
    by_cases h0 : v = 0
    · subst h0
      simp [hexOf_zero]
    · rw [hexOf_step h0] at hj ⊢
      simp only [List.length_append, List.length_cons, List.length_nil, Nat.zero_add, List.append_assoc] at hj ⊢
      rw [feed_hex (j - 1) (v / 16) d ([hexC (v % 16)] ++ rest) (by omega) (by omega)]
      have hs := step2_dig (m := (v / 16 : Nat)) (j := ((hexOf (v / 16)).length : Nat)) (d := d) (c := hexC (v % 16)) (n := ((v % 16 : Nat) : Int)) (by omega) (hexC_digV (by omega))
      rw [show ([hexC (v % 16)] ++ rest) = hexC (v % 16) :: rest from rfl]
      simp only [feedL, sN_on (by decide : (2 : Int) ≠ 9), if_true]
      rw [hs]
      have e1 : ((v / 16 : Nat) : Int) * 16 + ((v % 16 : Nat) : Int) = (v : Int) := by omega
      have e2 : (((hexOf (v / 16)).length : Nat) : Int) + 1 = (((hexOf (v / 16)).length + 1 : Nat) : Int) := by omega
      rw [e1, e2]
      simp only [Prod.mk.injEq, and_true]
      omega

theorem feed_data : ∀ (xs : List UInt8) (d rest : List UInt8), 0 < xs.length →
    feedL (sN 4 xs.length 0 d) (xs ++ rest) = (xs.length + (feedL (sN 5 0 0 (d ++ xs)) rest).1, (feedL (sN 5 0 0 (d ++ xs)) rest).2)
  | [], d, rest, h => absurd h (by simp)
  | c :: cs, d, rest, _ => by
    rw [List.cons_append]
    simp only [feedL, sN_on (by decide : (4 : Int) ≠ 9), if_true]
    by_cases h0 : 0 < cs.length
    · rw [step4_more (by simp; omega), show (((c :: cs).length : Nat) : Int) - 1 = (cs.length : Int) from by simp, feed_data cs (d ++ [c]) rest h0]
      simp only [List.append_assoc, List.singleton_append, List.length_cons, Prod.mk.injEq, and_true]
      omega
    · have : cs = [] := List.length_eq_zero_iff.1 (by omega)
      subst this
      rw [show ((([c] : List UInt8).length : Nat) : Int) = 1 from rfl, step4_last]
      simp only [List.nil_append, List.length_cons, List.length_nil, Prod.mk.injEq, and_true]
      omega

/-- A line that ends and is not too long. -/
theorem feed_line {v j : Nat} {d rest : List UInt8} (hj : j ≠ 0) (hv : d.length + v ≤ 4096) (h0 : v ≠ 0) :
    feedL (sN 2 v j d) ([13, 10] ++ rest) = (2 + (feedL (sN 4 v 0 d) rest).1, (feedL (sN 4 v 0 d) rest).2) := by
  rw [show ([13, 10] ++ rest : List UInt8) = 13 :: 10 :: rest from rfl]
  simp only [feedL, sN_on (by decide : (2 : Int) ≠ 9), if_true]
  rw [step2_cr (by decide) (by omega)]
  simp only [sN_on (by decide : (3 : Int) ≠ 9), if_true]
  rw [step3_data (by decide) (by omega) (by omega)]
  simp only [Prod.mk.injEq, and_true]
  omega
theorem feed_back {d rest : List UInt8} : feedL (sN 5 0 0 d) ([13, 10] ++ rest) = (2 + (feedL (sN 2 0 0 d) rest).1, (feedL (sN 2 0 0 d) rest).2) := by
  rw [show ([13, 10] ++ rest : List UInt8) = 13 :: 10 :: rest from rfl]
  simp only [feedL, sN_on (by decide : (5 : Int) ≠ 9), if_true]
  rw [step5 (by decide)]
  simp only [sN_on (by decide : (6 : Int) ≠ 9), if_true]
  rw [step6 (by decide)]
  simp only [Prod.mk.injEq, and_true]
  omega
theorem feed_last {d rest : List UInt8} (hd : d.length ≤ 4096) : feedL (sN 2 0 0 d) (lastW ++ rest) = (5, sN 9 0 0 d) := by
  rw [show (lastW ++ rest : List UInt8) = 48 :: 13 :: 10 :: 13 :: 10 :: rest from rfl]
  simp only [feedL, sN_on (by decide : (2 : Int) ≠ 9), if_true]
  rw [step2_dig (n := 0) (by decide) (by decide)]
  simp only [sN_on (by decide : (2 : Int) ≠ 9), if_true]
  rw [step2_cr (by decide) (by decide), show (0 : Int) * 16 + 0 = 0 from rfl]
  simp only [sN_on (by decide : (3 : Int) ≠ 9), if_true]
  rw [step3_last (by decide) (by omega)]
  simp only [sN_on (by decide : (7 : Int) ≠ 9), if_true]
  rw [step7 (by decide)]
  simp only [sN_on (by decide : (8 : Int) ≠ 9), if_true]
  rw [step8 (by decide), feedL_off (by rfl)]

theorem feed_chunkW : ∀ (m sz : Nat) (s d rest : List UInt8), s.length ≤ m → d.length + s.length ≤ 4096 →
    feedL (sN 2 0 0 d) (chunkW sz s ++ (lastW ++ rest)) = ((chunkW sz s).length + 5, sN 9 0 0 (d ++ s))
  | m, sz, s, d, rest, hm, hs => by
    by_cases h : 0 < s.length
    · obtain ⟨n, hn⟩ : ∃ n, n = min (max sz 1) s.length := ⟨_, rfl⟩
      rw [chunkW_step h hn]
      obtain ⟨m, rfl⟩ : ∃ k, m = k + 1 := ⟨m - 1, by omega⟩
      have ih := feed_chunkW m sz (s.drop n) (d ++ s.take n) rest (by rw [List.length_drop]; omega) (by rw [List.length_append, List.length_drop, List.length_take]; omega)
      have hl := hexOf_le 4 n (by omega)
      have hp := hexOf_pos (v := n) (by omega)
      have htl : (s.take n).length = n := by rw [List.length_take]; omega
      simp only [List.append_assoc]
      rw [feed_hex 4 n d _ hl (by decide), feed_line (by omega) (by omega) (by omega)]
      have hd := feed_data (s.take n) d ([13, 10] ++ (chunkW sz (s.drop n) ++ (lastW ++ rest))) (by omega)
      rw [htl] at hd
      rw [hd, feed_back, ih]
      simp only [List.append_assoc, List.take_append_drop, List.length_append, htl, List.length_cons, List.length_nil, Prod.mk.injEq, and_true]
      omega
    · have : s = [] := List.length_eq_zero_iff.1 (by omega)
      subst this
      rw [chunkW_nil, List.nil_append, feed_last (by omega)]
      simp

/-- One byte more than there may be. -/
theorem feed_chunkW_long : ∀ (m sz : Nat) (s d rest : List UInt8), s.length ≤ m → d.length ≤ 4096 → 4096 < d.length + s.length → s.length ≤ 65535 →
    (feedL (sN 2 0 0 d) (chunkW sz s ++ (lastW ++ rest))).2.bad = 2
  | m, sz, s, d, rest, hm, hd0, hs, hs2 => by
    have h : 0 < s.length := by omega
    obtain ⟨n, hn⟩ : ∃ n, n = min (max sz 1) s.length := ⟨_, rfl⟩
    rw [chunkW_step h hn]
    obtain ⟨m, rfl⟩ : ∃ k, m = k + 1 := ⟨m - 1, by omega⟩
    have hl := hexOf_le 4 n (by omega)
    have hp := hexOf_pos (v := n) (by omega)
    have htl : (s.take n).length = n := by rw [List.length_take]; omega
    simp only [List.append_assoc]
    rw [feed_hex 4 n d _ hl (by decide)]
    by_cases hlong : d.length + n ≤ 4096
    · have ih := feed_chunkW_long m sz (s.drop n) (d ++ s.take n) rest (by rw [List.length_drop]; omega) (by rw [List.length_append, htl]; omega) (by rw [List.length_append, List.length_drop, htl]; omega) (by rw [List.length_drop]; omega)
      rw [feed_line (by omega) (by omega) (by omega)]
      have hd := feed_data (s.take n) d ([13, 10] ++ (chunkW sz (s.drop n) ++ (lastW ++ rest))) (by omega)
      rw [htl] at hd
      rw [hd, feed_back]
      exact ih
    · rw [show ([13, 10] ++ (s.take n ++ ([13, 10] ++ (chunkW sz (s.drop n) ++ (lastW ++ rest)))) : List UInt8) = 13 :: 10 :: (s.take n ++ ([13, 10] ++ (chunkW sz (s.drop n) ++ (lastW ++ rest)))) from rfl]
      simp only [feedL, sN_on (by decide : (2 : Int) ≠ 9), if_true]
      rw [step2_cr (by decide) (by omega)]
      simp only [sN_on (by decide : (3 : Int) ≠ 9), if_true]
      have h2 := step3_long (m := (n : Int)) (j := ((hexOf n).length : Int)) (d := d) (c := 10) (by decide) (by omega)
      rw [feedL_off (off_of_bad (by rw [h2]; decide))]
      exact h2
end Go.Proofs.YtkbmajkoojgkpaaDoor
