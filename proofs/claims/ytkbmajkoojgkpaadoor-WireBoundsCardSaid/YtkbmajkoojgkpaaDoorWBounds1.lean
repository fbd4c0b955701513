/- Plain laws for requests that are written out: a line that is whole; too long a line; too many fields. -/
import Derived.Test.YtkbmajkoojgkpaaDoorWEmpty
namespace Go.Proofs.YtkbmajkoojgkpaaDoor

theorem bareF_crlf (p : List UInt8) : bareF ((p ++ [13]) ++ [10]) = some p := by
  have e : (p ++ [13]) ++ [10] = p ++ [13, 10] := by simp
  unfold bareF
  rw [e, if_pos (List.isSuffixOf_iff_suffix.2 (List.suffix_append p [13, 10]))]
  simp
theorem lineR_ok : ∀ (l pre rest : List UInt8), (∀ c, c ∈ l → c ≠ 10) → pre.length + l.length + 2 ≤ 1024 → lineR pre (l ++ 13 :: 10 :: rest) = .ok (pre ++ l) (pre.length + l.length + 2)
  | [], pre, rest, _, hl => by
    simp at hl
    rw [List.nil_append, lineR, if_neg (by decide), if_neg (by omega), lineR, if_pos rfl, bareF_crlf]
    simp
  | c :: l, pre, rest, h, hl => by
    simp only [List.length_cons] at hl
    rw [List.cons_append, lineR, if_neg (h c (by simp)), if_neg (by omega), lineR_ok l (pre ++ [c]) rest (fun x hx => h x (by simp [hx])) (by simp; omega)]
    simp
    omega
theorem lineR_long : ∀ (l pre rest : List UInt8), (∀ c, c ∈ l → c ≠ 10) → pre.length + l.length = 1024 → 0 < l.length → lineR pre (l ++ rest) = .err 2
  | [], _, _, _, _, h0 => by simp at h0
  | c :: l, pre, rest, h, hl, _ => by
    simp only [List.length_cons] at hl
    rw [List.cons_append, lineR, if_neg (h c (by simp))]
    by_cases hp : pre.length = 1023
    · rw [if_pos hp]
    · rw [if_neg hp]
      exact lineR_long l (pre ++ [c]) rest (fun x hx => h x (by simp [hx])) (by simp; omega) (by omega)
theorem lineR_more : ∀ (l pre : List UInt8), (∀ c, c ∈ l → c ≠ 10) → pre.length + l.length ≤ 1023 → lineR pre l = .more
  | [], _, _, _ => rfl
  | c :: l, pre, h, hl => by
    simp only [List.length_cons] at hl
    rw [lineR, if_neg (h c (by simp)), if_neg (by omega)]
    exact lineR_more l (pre ++ [c]) (fun x hx => h x (by simp [hx])) (by simp; omega)
theorem run_crlf {s : WSt} (hn : s.next = 1 ∨ s.next = 2) (hl : s.line = []) {l : List UInt8} (h : ∀ c, c ∈ l → c ≠ 10) (h2 : l.length + 2 ≤ 1024) (rest : List UInt8) : runW s (l ++ 13 :: 10 :: rest) = lineW s l rest := by
  have e := run_line (l ++ 13 :: 10 :: rest) [] s hn
  rw [lineR_ok l [] rest h (by simpa using h2)] at e
  have es : ({ s with line := [] } : WSt) = s := by rw [← hl]
  rw [es] at e
  rw [e]
  simp only [List.length_nil, Nat.zero_add, List.nil_append, Nat.sub_zero]
  rw [show l ++ 13 :: 10 :: rest = (l ++ [13, 10]) ++ rest from by simp, show l.length + 2 = (l ++ [(13 : UInt8), 10]).length from by simp, List.drop_left]

def getL : List UInt8 := [71, 69, 84, 32, 47, 32, 72, 84, 84, 80, 47, 49, 46, 49]
def hostL : List UInt8 := [72, 111, 115, 116, 58, 32, 97]
def hostF : Fld := ([104, 111, 115, 116], [97])
def xyL : List UInt8 := [120, 58, 121]
def xyF : Fld := ([120], [121])
theorem first_get : firstF getL = some ([71, 69, 84], [47]) := by kernel_rfl
theorem field_host : fieldF hostL = some hostF := by kernel_rfl
theorem field_xy : fieldF xyL = some xyF := by kernel_rfl
theorem run_get (rest : List UInt8) : runW WSt.new (getL ++ 13 :: 10 :: (hostL ++ 13 :: 10 :: rest)) = runW (hst [71, 69, 84] [47] [hostF]) rest := by
  rw [run_crlf (.inl rfl) rfl (by decide) (by decide), lineW_new_some first_get, run_crlf (.inr rfl) rfl (by decide) (by decide), lineW_field (by decide) (by decide) field_host]
  rfl
def xyB (j : Nat) : List UInt8 := (List.replicate j (xyL ++ [13, 10])).flatten
theorem xyB_succ (j : Nat) : xyB (j + 1) = xyL ++ 13 :: 10 :: xyB j := by
  unfold xyB
  rw [List.replicate_succ, List.flatten_cons]
  simp
theorem xyB_next (j : Nat) : xyB (j + 1) = xyB j ++ (xyL ++ [13, 10]) := by
  unfold xyB
  rw [List.replicate_succ', List.flatten_append, List.flatten_singleton]
theorem run_xy {m t : List UInt8} (rest : List UInt8) : ∀ (j : Nat) (fs : List Fld), fs.length + j ≤ 32 → runW (hst m t fs) (xyB j ++ rest) = runW (hst m t (fs ++ List.replicate j xyF)) rest
  | 0, fs, _ => by simp [xyB]
  | j + 1, fs, h => by
    rw [xyB_succ, List.append_assoc, List.cons_append, List.cons_append, run_crlf (.inr rfl) rfl (by decide) (by decide), lineW_field (by decide) (by omega) field_xy, run_xy rest j _ (by simp; omega)]
    rw [List.append_assoc, List.singleton_append, ← List.replicate_succ]
theorem cnt_rep {name : List UInt8} {f : Fld} (h : f.1 ≠ name) : ∀ j, cntF name (List.replicate j f) = 0
  | 0 => rfl
  | j + 1 => by rw [List.replicate_succ, cntF, if_neg h, cnt_rep h j]
theorem empty_plain {fs : List Fld} (h1 : cntF teN fs = 0) (h2 : cntF clN fs = 0) (h0 : cntF hostN fs = 1) : emptyF fs = (0, sized0 0) := by
  rw [emptyF_good h0 (by omega) (by omega) (by omega) (by omega), if_neg (by omega), if_neg (by omega)]
theorem head_ok {m t : List UInt8} {fs : List Fld} (h : emptyF fs = (0, sized0 0)) : (headW m t fs []).2.1 = 0 := by
  unfold headW
  rw [h]
  simp only [ne_eq, not_true_eq_false, if_false]
  unfold bodyW
  rfl

/-- So many fields. -/
theorem bounds_fields (j : Nat) : (runW WSt.new ((getL ++ 13 :: 10 :: (hostL ++ [13, 10])) ++ xyB j ++ [13, 10])).2.1 = if j ≤ 31 then 0 else 2 := by
  have e : (getL ++ 13 :: 10 :: (hostL ++ [13, 10])) ++ xyB j ++ [13, 10] = getL ++ 13 :: 10 :: (hostL ++ 13 :: 10 :: (xyB j ++ [13, 10])) := by simp
  rw [e, run_get]
  by_cases h : j ≤ 31
  · rw [if_pos h, run_xy _ j _ (by simp; omega)]
    have hc : ([13, 10] : List UInt8) = [] ++ 13 :: 10 :: [] := rfl
    rw [hc, run_crlf (.inr rfl) rfl (by simp) (by decide), lineW_empty]
    refine head_ok (empty_plain ?_ ?_ ?_)
    · rw [cntF_append, cnt_rep (by decide)]; decide
    · rw [cntF_append, cnt_rep (by decide)]; decide
    · rw [cntF_append, cnt_rep (by decide)]; decide
  · rw [if_neg h]
    obtain ⟨i, rfl⟩ : ∃ i, j = 31 + (i + 1) := ⟨j - 32, by omega⟩
    have e2 : xyB (31 + (i + 1)) = xyB 31 ++ xyB (i + 1) := by unfold xyB; rw [← List.flatten_append, List.replicate_append_replicate]
    rw [e2, List.append_assoc, run_xy _ 31 _ (by decide), xyB_succ, List.append_assoc, List.cons_append, List.cons_append, List.cons_append, run_crlf (.inr rfl) rfl (by decide) (by decide), lineW_long (by decide) (by simp)]

/-- A line of so many bytes. -/
def lineA (n : Nat) : List UInt8 := 97 :: 58 :: List.replicate n 97
theorem lineA_ne (n : Nat) : ∀ c, c ∈ lineA n → c ≠ 10 := by
  intro c hc
  simp only [lineA, List.mem_cons, List.mem_replicate] at hc
  rcases hc with rfl | rfl | ⟨_, rfl⟩ <;> decide
theorem field_lineA (n : Nat) : ∃ v, fieldF (lineA n) = some ([97], v) := by
  have hc : cutL 58 (lineA n) = ([97], List.replicate n 97, true) := by simp [lineA, cutL]
  have hv : (List.replicate n (97 : UInt8)).all valC = true := by
    rw [List.all_eq_true]
    intro c h
    rw [(List.mem_replicate.1 h).2]
    decide
  refine ⟨trimF (List.replicate n 97), ?_⟩
  unfold fieldF
  rw [hc]
  exact if_pos ⟨rfl, by simp, (show ([97] : List UInt8).all nameC = true by decide), hv⟩
theorem bounds_line (n : Nat) (hn : 2 ≤ n) : (runW WSt.new ((getL ++ 13 :: 10 :: (hostL ++ [13, 10])) ++ lineA (n - 2) ++ [13, 10, 13, 10])).2.1 = if n + 2 ≤ 1024 then 0 else 2 := by
  have e : (getL ++ 13 :: 10 :: (hostL ++ [13, 10])) ++ lineA (n - 2) ++ [13, 10, 13, 10] = getL ++ 13 :: 10 :: (hostL ++ 13 :: 10 :: (lineA (n - 2) ++ 13 :: 10 :: [13, 10])) := by simp
  have hl : (lineA (n - 2)).length = n := by simp [lineA]; omega
  rw [e, run_get]
  by_cases h : n + 2 ≤ 1024
  · obtain ⟨v, hv⟩ := field_lineA (n - 2)
    rw [if_pos h, run_crlf (.inr rfl) rfl (lineA_ne _) (by rw [hl]; exact h), lineW_field (by simp [lineA]) (by decide) hv]
    have hc : ([13, 10] : List UInt8) = [] ++ 13 :: 10 :: [] := rfl
    rw [hc, run_crlf (.inr rfl) rfl (by simp) (by decide), lineW_empty]
    refine head_ok (empty_plain ?_ ?_ ?_)
    · rw [cntF_append, cntF]; simp [teN, cntF, hostF]
    · rw [cntF_append, cntF]; simp [clN, cntF, hostF]
    · rw [cntF_append, cntF]; simp [hostN, cntF, hostF]
  · rw [if_neg h]
    have e2 := run_line (lineA (n - 2) ++ 13 :: 10 :: [13, 10]) [] (hst [71, 69, 84] [47] [hostF]) (.inr rfl)
    have e3 : lineA (n - 2) ++ 13 :: 10 :: [13, 10] = ((lineA (n - 2) ++ [13]).take 1024) ++ ((lineA (n - 2) ++ [13]).drop 1024 ++ 10 :: [13, 10]) := by
      rw [← List.append_assoc, List.take_append_drop]; simp
    have h4 : lineR [] (lineA (n - 2) ++ 13 :: 10 :: [13, 10]) = .err 2 := by
      rw [e3]
      refine lineR_long _ _ _ (fun c hc => ?_) (by simp [hl]; omega) (by simp [hl]; omega)
      have hm := List.mem_of_mem_take hc
      rcases List.mem_append.1 hm with hm | hm
      · exact lineA_ne _ c hm
      · simp at hm; rw [hm]; decide
    rw [h4] at e2
    have es : ({ hst [71, 69, 84] [47] [hostF] with line := [] } : WSt) = hst [71, 69, 84] [47] [hostF] := rfl
    rw [es] at e2
    rw [e2]
theorem bounds_more {l : List UInt8} (h : ∀ c, c ∈ l → c ≠ 10) (hl : l.length ≤ 1023) : (runW WSt.new l).2.1 = 0 := by
  have e := run_line l [] WSt.new (.inl rfl)
  rw [lineR_more l [] h (by simpa using hl)] at e
  have es : ({ WSt.new with line := [] } : WSt) = WSt.new := rfl
  rw [es] at e
  rw [e]
end Go.Proofs.YtkbmajkoojgkpaaDoor
