/- Plain laws of a request's head. -/
import Derived.Test.YtkbmajkoojgkpaaDoorWPlain2
namespace Go.Proofs.YtkbmajkoojgkpaaDoor

theorem whole_body {s : WSt} (h3 : s.next = 3) (hb : s.bd.bad = 0) (ys : List UInt8) : thenW (wholeW s) ys = bodyW s ys := by
  by_cases h9 : s.bd.next = 9
  · unfold bodyW
    rw [feedL_off (by simp [St.on, h9])]
    simp [hb]
  · rw [wholeW_off (fun h => h9 h.2), ← run_body ys s h3 h9 hb]
    simp [thenW]

/-- Behind the first line and some fields. -/
def hst (m t : List UInt8) (fs : List Fld) : WSt := { next := 2, line := [], m := m, t := t, fs := fs, keep := true, bd := sN 0 0 0 [] }
/-- Behind the empty line. -/
def headW (m t : List UInt8) (fs : List Fld) (ys : List UInt8) : List Req × Int × WSt :=
  if (emptyF fs).1 ≠ 0 then ([], (emptyF fs).1, WSt.dead) else bodyW { next := 3, line := [], m := m, t := t, fs := fs, keep := !closesF fs, bd := (emptyF fs).2 } ys

theorem lineW_new_none {l : List UInt8} (h : firstF l = none) (ys : List UInt8) : lineW WSt.new l ys = ([], 4, WSt.dead) := by
  unfold lineW judgeB
  simp [WSt.new, h, beginW]
theorem lineW_new_some {l m t : List UInt8} (h : firstF l = some (m, t)) (ys : List UInt8) : lineW WSt.new l ys = runW (hst m t []) ys := by
  unfold lineW judgeB
  simp only [WSt.new, h, beginW, if_true, ne_eq, not_true_eq_false, if_false]
  rw [wholeW_off (by simp)]
  simp [thenW, hst]
theorem judgeB_empty (m t : List UInt8) (fs : List Fld) : judgeB (hst m t fs) [] = closeF (hst m t fs) := by
  unfold judgeB
  rw [if_neg (by simp [hst]), if_pos rfl]
theorem judgeB_field (m t : List UInt8) (fs : List Fld) {l : List UInt8} (hl : l ≠ []) : judgeB (hst m t fs) l = fieldW (hst m t fs) l := by
  unfold judgeB
  rw [if_neg (by simp [hst]), if_neg hl]
theorem lineW_empty (m t : List UInt8) (fs : List Fld) (ys : List UInt8) : lineW (hst m t fs) [] ys = headW m t fs ys := by
  unfold lineW headW
  rw [judgeB_empty]
  have hf : (hst m t fs).fs = fs := rfl
  unfold closeF
  rw [hf]
  by_cases h0 : (emptyF fs).1 = 0
  · simp only [h0, if_true, ne_eq, not_true_eq_false, if_false, hst, Bool.true_and]
    exact whole_body rfl (emptyF_ok fs h0).2.2.1 ys
  · simp [h0]
theorem lineW_long {m t : List UInt8} {fs : List Fld} {l : List UInt8} (hl : l ≠ []) (h : fs.length = 32) (ys : List UInt8) : lineW (hst m t fs) l ys = ([], 2, WSt.dead) := by
  unfold lineW
  have hw : fieldW (hst m t fs) l = (2, hst m t fs) := by unfold fieldW; exact if_pos h
  rw [judgeB_field m t fs hl, hw]
  rfl
theorem lineW_bad {m t : List UInt8} {fs : List Fld} {l : List UInt8} (hl : l ≠ []) (h : fs.length ≠ 32) (hf : fieldF l = none) (ys : List UInt8) : lineW (hst m t fs) l ys = ([], 4, WSt.dead) := by
  unfold lineW
  have hw : fieldW (hst m t fs) l = (4, hst m t fs) := by unfold fieldW; rw [if_neg (show ¬ (hst m t fs).fs.length = 32 from h), hf]
  rw [judgeB_field m t fs hl, hw]
  rfl
theorem lineW_field {m t : List UInt8} {fs : List Fld} {l : List UInt8} {f : Fld} (hl : l ≠ []) (h : fs.length ≠ 32) (hf : fieldF l = some f) (ys : List UInt8) : lineW (hst m t fs) l ys = runW (hst m t (fs ++ [f])) ys := by
  unfold lineW
  have hw : fieldW (hst m t fs) l = (0, { hst m t fs with fs := fs ++ [f] }) := by unfold fieldW; rw [if_neg (show ¬ (hst m t fs).fs.length = 32 from h), hf]; rfl
  rw [judgeB_field m t fs hl, hw]
  simp only [ne_eq, not_true_eq_false, if_false]
  rw [wholeW_off (by simp [hst])]
  simp [thenW, hst]

/-! ### a request's line -/
theorem cutL_hit {c : UInt8} : ∀ {a : List UInt8}, (∀ x, x ∈ a → x ≠ c) → ∀ r : List UInt8, cutL c (a ++ c :: r) = (a, r, true)
  | [], _, r => by simp [cutL]
  | x :: a, h, r => by
    rw [List.cons_append, cutL, if_neg (h x (by simp)), cutL_hit (fun y hy => h y (by simp [hy])) r]
theorem cutL_some {c : UInt8} : ∀ {l : List UInt8}, (cutL c l).2.2 = true → l = (cutL c l).1 ++ c :: (cutL c l).2.1
  | [], h => by simp [cutL] at h
  | b :: l, h => by
    rw [cutL] at h ⊢
    by_cases hb : b = c
    · simp [hb]
    · rw [if_neg hb] at h ⊢
      simp only at h ⊢
      rw [List.cons_append, ← cutL_some h]

theorem first_yes {a t : List UInt8} (h1 : 1 ≤ a.length) (h2 : a.length ≤ 10) (h3 : a.all upA = true) (h4 : t ≠ []) (h5 : t.all tgC = true) : firstF (a ++ 32 :: (t ++ 32 :: verB)) = some (a, t) := by
  have ha : ∀ x, x ∈ a → x ≠ 32 := fun x hx e => by
    have := List.all_eq_true.1 h3 x hx
    rw [e] at this
    revert this
    decide
  have ht : ∀ x, x ∈ t → x ≠ 32 := fun x hx e => by
    have := List.all_eq_true.1 h5 x hx
    rw [e] at this
    revert this
    decide
  unfold firstF
  rw [cutL_hit ha, cutL_hit ht]
  unfold firstP
  rw [if_pos ⟨rfl, rfl, rfl, h1, h2, h4, h3, h5⟩]
theorem first_some {s a t : List UInt8} (h : firstF s = some (a, t)) : s = a ++ 32 :: (t ++ 32 :: verB) ∧ 1 ≤ a.length ∧ a.length ≤ 10 ∧ a.all upA = true ∧ t ≠ [] ∧ t.all tgC = true := by
  unfold firstF firstP at h
  split at h
  · rename_i hc
    obtain ⟨c1, c2, c3, c4, c5, c6, c7, c8⟩ := hc
    injection h with h
    injection h with e1 e2
    subst e1 e2
    have k1 := cutL_some c1
    have k2 := cutL_some c2
    rw [c3] at k2
    rw [← k2]
    exact ⟨k1, c4, c5, c7, c6, c8⟩
  · cases h

def endB : List UInt8 := [32, 72, 84, 84, 80, 47, 49, 46, 49]
theorem endB_eq : endB = 32 :: verB := rfl
/-- The place where the method ends. -/
theorem first_at {s a t : List UInt8} (h : firstF s = some (a, t)) {n : Nat} (hn : n ≤ s.length) (hup : (s.take n).all upA = true) (hstop : ∀ h : n < s.length, upA s[n] = false) :
    n = a.length ∧ s.length = n + 1 + t.length + 9 ∧ s[n]? = some 32 ∧ s.drop (s.length - 9) = endB ∧ a = s.take n ∧ t = (s.drop (n + 1)).take (s.length - 9 - (n + 1)) := by
  obtain ⟨e, h1, h2, h3, h4, h5⟩ := first_some h
  have hlen : s.length = a.length + 1 + t.length + 9 := by rw [e]; simp [verB]; omega
  have hna : n = a.length := by
    rcases Nat.lt_trichotomy n a.length with hlt | he | hgt
    · have hs : n < s.length := by omega
      have := hstop hs
      have h6 : s[n] = a[n] := by
        have : s[n]? = a[n]? := by rw [e, List.getElem?_append_left hlt]
        rw [List.getElem?_eq_getElem hs, List.getElem?_eq_getElem hlt] at this
        injection this
      rw [h6, List.all_eq_true.1 h3 _ (List.getElem_mem hlt)] at this
      cases this
    · exact he
    · have hs : a.length < s.length := by omega
      have h6 : s[a.length]? = some 32 := by rw [e, List.getElem?_append_right (Nat.le_refl _)]; simp
      have h7 : (32 : UInt8) ∈ s.take n := by
        refine List.mem_of_getElem? (i := a.length) ?_
        rw [List.getElem?_take, if_pos hgt, h6]
      have := List.all_eq_true.1 hup _ h7
      exact absurd this (by decide)
  subst hna
  refine ⟨rfl, hlen, ?_, ?_, ?_, ?_⟩
  · rw [e, List.getElem?_append_right (Nat.le_refl _)]; simp
  · have : s = (a ++ 32 :: t) ++ endB := by rw [e, endB_eq]; simp
    rw [hlen]
    rw [show a.length + 1 + t.length + 9 - 9 = (a ++ 32 :: t).length from by simp; omega]
    rw [this, List.drop_left]
  · rw [e, List.take_left]
  · rw [hlen, show a.length + 1 + t.length + 9 - 9 - (a.length + 1) = t.length from by omega]
    have : s = (a ++ [32]) ++ (t ++ 32 :: verB) := by rw [e]; simp
    rw [this, show a.length + 1 = (a ++ [(32 : UInt8)]).length from by simp, List.drop_left, List.take_left]

theorem first_none {s : List UInt8} {n : Nat} (hn : n ≤ s.length) (hup : (s.take n).all upA = true) (hstop : ∀ h : n < s.length, upA s[n] = false)
    (hbad : n < 1 ∨ 10 < n ∨ s.length < n + 11 ∨ s[n]? ≠ some 32 ∨ s.drop (s.length - 9) ≠ endB ∨ ((s.drop (n + 1)).take (s.length - 9 - (n + 1))).all tgC = false) : firstF s = none := by
  cases h : firstF s with
  | none => rfl
  | some r =>
    exfalso
    obtain ⟨a, t⟩ := r
    obtain ⟨e1, e2, e3, e4, e5, e6⟩ := first_at h hn hup hstop
    obtain ⟨-, h1, h2, h3, h4, h5⟩ := first_some h
    have : 0 < t.length := by cases t with | nil => exact absurd rfl h4 | cons a b => simp
    rcases hbad with b | b | b | b | b | b
    · omega
    · omega
    · omega
    · exact b e3
    · exact b e4
    · rw [← e6, h5] at b
      cases b
theorem first_this {s : List UInt8} {n : Nat} (hup : (s.take n).all upA = true) (h1 : 1 ≤ n) (h2 : n ≤ 10) (hl : n + 11 ≤ s.length) (h32 : s[n]? = some 32) (he : s.drop (s.length - 9) = endB)
    (ht : ((s.drop (n + 1)).take (s.length - 9 - (n + 1))).all tgC = true) : firstF s = some (s.take n, (s.drop (n + 1)).take (s.length - 9 - (n + 1))) := by
  have e : s = s.take n ++ 32 :: ((s.drop (n + 1)).take (s.length - 9 - (n + 1)) ++ 32 :: verB) := by
    have h3 : s = s.take n ++ s.drop n := (List.take_append_drop n s).symm
    have h4 : s.drop n = 32 :: s.drop (n + 1) := by
      rw [List.drop_eq_getElem_cons (by omega)]
      rw [List.getElem?_eq_getElem (by omega)] at h32
      injection h32 with h32
      rw [h32]
    have h5 : s.drop (n + 1) = (s.drop (n + 1)).take (s.length - 9 - (n + 1)) ++ 32 :: verB := by
      have := (List.take_append_drop (s.length - 9 - (n + 1)) (s.drop (n + 1))).symm
      rw [List.drop_drop, show n + 1 + (s.length - 9 - (n + 1)) = s.length - 9 from by omega, he, endB_eq] at this
      exact this
    rw [← h5, ← h4, ← h3]
  have hla : (s.take n).length = n := by rw [List.length_take]; omega
  have hlt : ((s.drop (n + 1)).take (s.length - 9 - (n + 1))).length = s.length - 9 - (n + 1) := by rw [List.length_take, List.length_drop]; omega
  have hy := first_yes (a := s.take n) (t := (s.drop (n + 1)).take (s.length - 9 - (n + 1))) (by omega) (by omega) hup (fun h => by rw [h] at hlt; simp at hlt; omega) ht
  rw [← e] at hy
  exact hy

/-! ### a content-length -/
theorem numF_snoc (c : UInt8) (l : List UInt8) (n : Nat) : numF n (l ++ [c]) = 10 * numF n l + (c.toNat - 48) := by
  unfold numF
  rw [List.foldl_append, List.foldl_cons, List.foldl_nil, numC]
theorem numF_next {l : List UInt8} {k : Nat} (h : k < l.length) : numF 0 (l.take (k + 1)) = 10 * numF 0 (l.take k) + ((l[k]).toNat - 48) := by
  rw [List.take_succ_eq_append_getElem h, numF_snoc]
theorem numF_take {l : List UInt8} {k : Nat} (h : (l.take k).all digC = true) (hk : k ≤ 18) : numF 0 (l.take k) < 1000000000000000000 := by
  refine Nat.lt_of_lt_of_le (numF_lt _ 0 h) ?_
  rw [Nat.zero_add, Nat.one_mul]
  have : (l.take k).length ≤ 18 := by rw [List.length_take]; omega
  exact Nat.pow_le_pow_right (by decide) this
theorem digC_iff (c : UInt8) : digC c = decide (48 ≤ c.toNat ∧ c.toNat ≤ 57) := rfl
theorem upA_iff (c : UInt8) : upA c = decide (65 ≤ c.toNat ∧ c.toNat ≤ 90) := rfl
theorem tgC_iff (c : UInt8) : tgC c = decide (33 ≤ c.toNat ∧ c.toNat ≤ 126) := rfl
theorem lengthF_some {s : List UInt8} (h1 : 1 ≤ s.length) (h2 : s.length ≤ 18) (h3 : s.all digC = true) : lengthF s = some (numF 0 s) := by unfold lengthF; rw [if_pos ⟨h1, h2, h3⟩]
theorem lengthF_none {s : List UInt8} (h : s.length < 1 ∨ 18 < s.length ∨ s.all digC = false) : lengthF s = none := by
  unfold lengthF
  rw [if_neg]
  rintro ⟨h1, h2, h3⟩
  rcases h with h | h | h
  · omega
  · omega
  · rw [h3] at h; cases h

theorem closesF_append (b : List Fld) : ∀ a : List Fld, closesF (a ++ b) = (closesF a || closesF b)
  | [] => rfl
  | f :: fs => by rw [List.cons_append, closesF, closesF, closesF_append b fs, Bool.or_assoc]
theorem closesF_next {fs : List Fld} {k : Nat} (hk : k < fs.length) : closesF (fs.take (k + 1)) = (closesF (fs.take k) || (decide (fs[k].1 = connN) && saysF fs[k].2)) := by
  rw [List.take_succ_eq_append_getElem hk, closesF_append]
  simp [closesF]
theorem closesF_hit {fs : List Fld} {k : Nat} (hk : k < fs.length) (h1 : fs[k].1 = connN) (h2 : saysF fs[k].2 = true) : closesF fs = true := by
  rw [← List.take_append_drop (k + 1) fs, closesF_append, closesF_next hk, h1, h2]
  simp
theorem findF_mem {name : List UInt8} : ∀ {fs : List Fld}, cntF name fs ≠ 0 → ∃ f, f ∈ fs ∧ findF name fs = f.2
  | [], h => absurd rfl h
  | f :: fs, h => by
    rw [findF]
    by_cases hf : f.1 = name
    · exact ⟨f, by simp, by rw [if_pos hf]⟩
    · rw [cntF, if_neg hf] at h
      obtain ⟨g, hg, he⟩ := findF_mem (name := name) (fs := fs) (by omega)
      exact ⟨g, by simp [hg], by rw [if_neg hf]; exact he⟩
end Go.Proofs.YtkbmajkoojgkpaaDoor
