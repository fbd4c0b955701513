/- Steps of chunk's decoder, state by state. -/
import Derived.Test.YtkbmajkoojgkpaaDoorPlain3
namespace Go.Proofs.YtkbmajkoojgkpaaDoor

def sN (n l j : Int) (d : List UInt8) : St := { next := n, left := l, digits := j, got := d, bad := 0 }
theorem sN_on {n l j : Int} {d : List UInt8} (h : n ≠ 9) : (sN n l j d).on = true := by simp [sN, St.on, h]

section
variable {m j n : Int} {d : List UInt8} {c : UInt8}
theorem step2_dig (h8 : j < 8) (hd : digV c.toNat = some n) : stepF (sN 2 m j d) c = sN 2 (m * 16 + n) (j + 1) d := by
  simp [stepF, takeF, sN, sizeF, hd, h8]
theorem step2_none (hd : digV c.toNat = none) : (stepF (sN 2 m 0 d) c).bad = 4 := by
  simp [stepF, takeF, sN, sizeF, hd]
theorem step2_bad (hc : c.toNat ≠ 13) (hd : digV c.toNat = none ∨ ¬ j < 8) : (stepF (sN 2 m j d) c).bad = 4 := by
  have h : (c.toNat : Int) ≠ 13 := by omega
  rcases hd with hd | hd
  · by_cases h0 : j = 0 <;> simp [stepF, takeF, sN, sizeF, hd, wantF, h, h0]
  · cases hv : digV (c.toNat : Int) with
    | none => by_cases h0 : j = 0 <;> simp [stepF, takeF, sN, sizeF, hv, wantF, h, h0]
    | some n => simp [stepF, takeF, sN, sizeF, hv, hd, wantF, h]
theorem step2_cr (hc : c.toNat = 13) (h0 : j ≠ 0) : stepF (sN 2 m j d) c = sN 3 m j d := by
  have hd : digV ((13 : Nat) : Int) = none := by decide
  simp [stepF, takeF, sN, sizeF, wantF, h0, hc]
  simp at hd
  simp [hd]
theorem step3_bad (hc : c.toNat ≠ 10) : (stepF (sN 3 m j d) c).bad = 4 := by
  have h : (c.toNat : Int) ≠ 10 := by omega
  simp [stepF, takeF, sN, lineF, h]
theorem step3_long (hc : c.toNat = 10) (h : 4096 - (d.length : Int) < m) : (stepF (sN 3 m j d) c).bad = 2 := by
  simp [stepF, takeF, sN, lineF, hc, h]
theorem step3_last (hc : c.toNat = 10) (h : ¬ 4096 - (d.length : Int) < 0) : stepF (sN 3 0 j d) c = sN 7 0 0 d := by
  simp [stepF, takeF, sN, lineF, hc, h]
theorem step3_data (hc : c.toNat = 10) (h : ¬ 4096 - (d.length : Int) < m) (hm : m ≠ 0) : stepF (sN 3 m j d) c = sN 4 m 0 d := by
  simp [stepF, takeF, sN, lineF, hc, h, hm]
theorem step4_more (h : 1 < m) : stepF (sN 4 m 0 d) c = sN 4 (m - 1) 0 (d ++ [c]) := by
  simp [stepF, takeF, sN, dataF, h]
theorem step4_last : stepF (sN 4 1 0 d) c = sN 5 0 0 (d ++ [c]) := by
  simp [stepF, takeF, sN, dataF]
theorem step5 (hc : c.toNat = 13) : stepF (sN 5 0 0 d) c = sN 6 0 0 d := by simp [stepF, takeF, sN, wantF, hc]
theorem step6 (hc : c.toNat = 10) : stepF (sN 6 0 0 d) c = sN 2 0 0 d := by simp [stepF, takeF, sN, wantF, hc]
theorem step7 (hc : c.toNat = 13) : stepF (sN 7 0 0 d) c = sN 8 0 0 d := by simp [stepF, takeF, sN, wantF, hc]
theorem step8 (hc : c.toNat = 10) : stepF (sN 8 0 0 d) c = sN 9 0 0 d := by simp [stepF, takeF, sN, wantF, hc]
theorem step5_bad (hc : c.toNat ≠ 13) : (stepF (sN 5 0 0 d) c).bad = 4 := by
  have h : (c.toNat : Int) ≠ 13 := by omega
  simp [stepF, takeF, sN, wantF, h]
theorem step6_bad (hc : c.toNat ≠ 10) : (stepF (sN 6 0 0 d) c).bad = 4 := by
  have h : (c.toNat : Int) ≠ 10 := by omega
  simp [stepF, takeF, sN, wantF, h]
theorem step7_bad (hc : c.toNat ≠ 13) : (stepF (sN 7 0 0 d) c).bad = 4 := by
  have h : (c.toNat : Int) ≠ 13 := by omega
  simp [stepF, takeF, sN, wantF, h]
theorem step8_bad (hc : c.toNat ≠ 10) : (stepF (sN 8 0 0 d) c).bad = 4 := by
  have h : (c.toNat : Int) ≠ 10 := by omega
  simp [stepF, takeF, sN, wantF, h]
end

/-- The state behind kk of the M bytes of a chunk. -/
def stD (M kk : Nat) (d : List UInt8) : St := if kk < M then sN 4 ((M : Int) - kk) 0 d else if M = 0 then sN 7 0 0 d else sN 5 0 0 d
/-- The state behind q of the two bytes that end a chunk. -/
def stE (M q : Nat) (d : List UInt8) : St := if M = 0 then (if q = 0 then sN 7 0 0 d else if q = 1 then sN 8 0 0 d else sN 9 0 0 d) else (if q = 0 then sN 5 0 0 d else if q = 1 then sN 6 0 0 d else sN 2 0 0 d)
theorem stD_start {M : Nat} {j : Int} {d : List UInt8} {c : UInt8} (hc : c.toNat = 10) (h : ¬ 4096 - (d.length : Int) < M) : stepF (sN 3 M j d) c = stD M 0 d := by
  unfold stD
  by_cases h0 : M = 0
  · subst h0
    simp only [Nat.lt_irrefl, if_false, if_true]
    exact step3_last hc (by simpa using h)
  · rw [if_pos (by omega), step3_data hc h (by omega)]
    simp
theorem stD_step {M kk : Nat} {d : List UInt8} {c : UInt8} (h : kk < M) : stepF (stD M kk d) c = stD M (kk + 1) (d ++ [c]) := by
  unfold stD
  rw [if_pos h]
  by_cases h1 : kk + 1 < M
  · rw [if_pos h1, step4_more (by omega)]
    congr 1
    omega
  · rw [if_neg h1, if_neg (by omega), show (M : Int) - kk = 1 from by omega]
    exact step4_last
theorem stD_on (M kk : Nat) (d : List UInt8) : (stD M kk d).on = true := by
  unfold stD
  split
  · exact sN_on (by decide)
  · split <;> exact sN_on (by decide)
theorem stD_more {M kk : Nat} {d : List UInt8} (h : kk < M) : stD M kk d = sN 4 ((M : Int) - kk) 0 d := by unfold stD; rw [if_pos h]
theorem stD_end {M : Nat} {d : List UInt8} : stD M M d = stE M 0 d := by
  unfold stD stE
  rw [if_neg (Nat.lt_irrefl _)]
  simp
theorem stE_on {M q : Nat} {d : List UInt8} (h : q < 2) : (stE M q d).on = true := by
  unfold stE
  have : q = 0 ∨ q = 1 := by omega
  rcases this with rfl | rfl <;> split <;> exact sN_on (by decide)
theorem stE_form {M q : Nat} {d : List UInt8} (h : q < 2) : ∃ nx : Int, nx ≠ 9 ∧ stE M q d = sN nx 0 0 d := by
  unfold stE
  have : q = 0 ∨ q = 1 := by omega
  rcases this with rfl | rfl <;> split
  · exact ⟨7, by decide, rfl⟩
  · exact ⟨5, by decide, rfl⟩
  · exact ⟨8, by decide, rfl⟩
  · exact ⟨6, by decide, rfl⟩
theorem stE_step0 {M : Nat} {d : List UInt8} {c : UInt8} (hc : c.toNat = 13) : stepF (stE M 0 d) c = stE M 1 d := by
  unfold stE
  split
  · exact step7 hc
  · exact step5 hc
theorem stE_step1 {M : Nat} {d : List UInt8} {c : UInt8} (hc : c.toNat = 10) : stepF (stE M 1 d) c = stE M 2 d := by
  unfold stE
  split
  · exact step8 hc
  · exact step6 hc
theorem stE_bad0 {M : Nat} {d : List UInt8} {c : UInt8} (hc : c.toNat ≠ 13) : (stepF (stE M 0 d) c).bad = 4 := by
  unfold stE
  split
  · exact step7_bad hc
  · exact step5_bad hc
theorem stE_bad1 {M : Nat} {d : List UInt8} {c : UInt8} (hc : c.toNat ≠ 10) : (stepF (stE M 1 d) c).bad = 4 := by
  unfold stE
  split
  · exact step8_bad hc
  · exact step6_bad hc

/-- Behind k bytes of a chunked body the state is sk: what is still to come decides the rest. -/
structure Rest (xs : List UInt8) (k : Nat) (sk : St) : Prop where mk :: (out : feedL (sN 2 0 0 []) xs = ((feedL sk (xs.drop k)).1 + k, (feedL sk (xs.drop k)).2))
section
variable {xs : List UInt8} {k : Nat} {sk s' : St}
theorem Rest.start (xs : List UInt8) : Rest xs 0 (sN 2 0 0 []) := ⟨by simp⟩
theorem Rest.step (h : Rest xs k sk) (hk : k < xs.length) (hon : sk.on = true) (he : stepF sk xs[k] = s') : Rest xs (k + 1) s' := by
  refine ⟨?_⟩
  rw [h.out, List.drop_eq_getElem_cons hk]
  simp only [feedL, hon, if_true, he]
  rw [Nat.add_assoc, Nat.add_comm 1 k]
theorem Rest.bad {b : Int} (h : Rest xs k sk) (hk : k < xs.length) (hon : sk.on = true) (he : (stepF sk xs[k]).bad = b) (hb : b ≠ 0) : (feedL (sN 2 0 0 []) xs).2.bad = b := by
  rw [h.out, List.drop_eq_getElem_cons hk]
  simp only [feedL, hon, if_true]
  rw [feedL_off (off_of_bad (by rw [he]; exact hb))]
  exact he
theorem Rest.all (h : Rest xs k sk) (hk : xs.length ≤ k) : feedL (sN 2 0 0 []) xs = (k, sk) := by
  rw [h.out, List.drop_eq_nil_of_le hk]
  simp [feedL]
theorem Rest.off (h : Rest xs k sk) (ho : sk.on = false) : feedL (sN 2 0 0 []) xs = (k, sk) := by
  rw [h.out, feedL_off ho]
  simp
end
end Go.Proofs.YtkbmajkoojgkpaaDoor
