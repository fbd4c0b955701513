/- Plain laws of wire's decoder: what always holds; however bytes are cut; a body's bytes at once; a line's bytes at once. -/
import Derived.Test.YtkbmajkoojgkpaaDoorWPlain
namespace Go.Proofs.YtkbmajkoojgkpaaDoor

theorem new_ok : WSt.new.Ok := ⟨by decide, by decide, by decide, by simp [WSt.new], by simp [WSt.new], by simp [WSt.new], by simp [WSt.new]⟩
theorem dead_ok : WSt.dead.Ok := ⟨by decide, by decide, by decide, by simp [WSt.dead], by simp [WSt.dead], by simp [WSt.dead], by simp [WSt.dead]⟩

theorem trimF_sub (l : List UInt8) : ∀ c, c ∈ trimF l → c ∈ l := by
  intro c hc
  rw [trimF_eq] at hc
  unfold dropR at hc
  rw [List.mem_reverse] at hc
  have h1 := (List.dropWhile_sublist (l := (l.dropWhile isBl).reverse) isBl).subset hc
  rw [List.mem_reverse] at h1
  exact (List.dropWhile_sublist (l := l) isBl).subset h1

theorem fieldF_ok {l : List UInt8} {f : Fld} (h : fieldF l = some f) : f.1.length ≤ l.length ∧ f.2.length ≤ l.length ∧ f.2.all valC = true := by
  unfold fieldF at h
  split at h
  · rename_i hc
    injection h with h
    subst h
    have h1 := cutL_len 58 l
    have h2 := trimF_len (cutL 58 l).2.1
    refine ⟨by simp; omega, by simp only; omega, ?_⟩
    rw [List.all_eq_true]
    intro c hm
    exact List.all_eq_true.1 hc.2.2.2 c (trimF_sub _ c hm)
  · cases h

theorem numF_lt (s : List UInt8) : ∀ n : Nat, s.all digC = true → numF n s < (n + 1) * 10 ^ s.length := by
  induction s with
  | nil =>
    intro n _
    unfold numF
    rw [List.length_nil, Nat.pow_zero, Nat.mul_one, List.foldl_nil]
    exact Nat.lt_succ_self n
  | cons c cs ih =>
    intro n h
    simp only [List.all_cons, Bool.and_eq_true] at h
    have hd : 48 ≤ c.toNat ∧ c.toNat ≤ 57 := of_decide_eq_true h.1
    have hi := ih (10 * n + (c.toNat - 48)) h.2
    have e : numF n (c :: cs) = numF (10 * n + (c.toNat - 48)) cs := by unfold numF; rw [List.foldl_cons, numC]
    rw [e]
    refine Nat.lt_of_lt_of_le hi ?_
    rw [List.length_cons, Nat.pow_succ]
    have h1 : (10 * n + (c.toNat - 48) + 1) * 10 ^ cs.length ≤ ((n + 1) * 10) * 10 ^ cs.length := Nat.mul_le_mul_right _ (by omega)
    have h2 : (n + 1) * 10 * 10 ^ cs.length = (n + 1) * (10 ^ cs.length * 10) := by rw [Nat.mul_assoc, Nat.mul_comm 10]
    exact Nat.le_trans h1 (Nat.le_of_eq h2)

theorem sN_ok (n l : Int) (hn : 0 ≤ n ∧ n ≤ 9) (hl : 0 ≤ l ∧ l ≤ 4096) (h1 : n = 1 → 0 < l) (h4 : n ≠ 4) (h2 : n ≠ 1 → l = 0) : (sN n l 0 []).Ok := by
  refine ⟨hn.1, hn.2, hl.1, ?_, ?_, ?_, ?_, ?_, ?_, ?_, ?_, ?_, ?_⟩ <;> simp only [sN] <;> first | omega | (simp; done) | (intro h; simp; omega)

theorem emptyF_ok (fs : List Fld) (h : (emptyF fs).1 = 0) : (emptyF fs).2.Ok ∧ (emptyF fs).2.next ≠ 0 ∧ (emptyF fs).2.bad = 0 ∧ ((emptyF fs).2.next = 9 → (emptyF fs).2.got = []) := by
  have hz : ∀ n : Nat, n ≤ 4096 → (sized0 n).Ok ∧ (sized0 n).next ≠ 0 ∧ (sized0 n).bad = 0 ∧ ((sized0 n).next = 9 → (sized0 n).got = []) := fun n hn => by
    unfold sized0
    split
    · exact ⟨sN_ok 9 0 (by decide) (by decide) (by decide) (by decide) (by decide), by decide, rfl, fun _ => rfl⟩
    · exact ⟨sN_ok 1 n (by decide) (by omega) (by omega) (by decide) (by omega), by simp [sN], rfl, fun _ => rfl⟩
  unfold emptyF at h ⊢
  split
  · rename_i hc
    rw [if_pos hc] at h
    cases h
  · rename_i hc
    rw [if_neg hc] at h
    split
    · rename_i h1
      rw [if_pos h1] at h
      split
      · exact ⟨sN_ok 2 0 (by decide) (by decide) (by decide) (by decide) (by decide), by decide, rfl, fun _ => rfl⟩
      · rename_i h2
        rw [if_neg h2] at h
        cases h
    · rename_i h1
      rw [if_neg h1] at h
      split
      · rename_i h2
        rw [if_pos h2] at h
        split
        · rename_i h3
          rw [if_pos h3] at h
          cases h
        · rename_i h3
          exact hz _ (by omega)
      · exact hz 0 (by decide)

/-- A state that may have a body that is whole. -/
structure WSt.Pre (s : WSt) : Prop where
  nx : 1 ≤ s.next ∧ s.next ≤ 3
  ln : s.line.length < 1024
  fl : s.fs.length ≤ 32
  asc : ∀ f, f ∈ s.fs → f.1.length ≤ 1024 ∧ f.2.length ≤ 1024 ∧ f.2.all valC = true
  body : s.next = 3 → s.bd.Ok ∧ s.bd.next ≠ 0 ∧ s.bd.bad = 0
  emp : s.next = 3 → s.line = []
  zero : s.next = 1 → s.m = [] ∧ s.t = [] ∧ s.fs = [] ∧ s.keep = false

theorem whole_ok {s : WSt} (h : s.Pre) : (wholeW s).2.Ok := by
  unfold wholeW
  split
  · rename_i h1
    have hl := h.emp h1.1
    refine ⟨?_, h.ln, by simp, by simp, ?_, fun _ => hl, fun _ => ⟨rfl, rfl, rfl, rfl⟩⟩
    · simp only; split <;> decide
    · simp only; intro h3; split at h3 <;> cases h3
  · rename_i h1
    have h5 := h.nx
    refine ⟨⟨h5.1, Int.le_trans h5.2 (by decide)⟩, h.ln, h.fl, h.asc, fun h3 => ?_, fun h3 => h.emp (by simp only at h3; omega), fun h3 => h.zero (by simp only at h3; omega)⟩
    obtain ⟨a, b, c⟩ := h.body h3
    exact ⟨a, b, fun e => h1 ⟨h3, e⟩, c⟩

theorem bareF_len {l b : List UInt8} (h : bareF l = some b) : b.length + 2 = l.length := by
  unfold bareF at h
  split at h
  · rename_i hs
    injection h with h
    subst h
    have := (List.isSuffixOf_iff_suffix.1 hs).length_le
    simp at this ⊢
    omega
  · cases h

theorem judgeB_pre {s : WSt} (h : s.Ok) (hn : s.next = 1 ∨ s.next = 2) {b : List UInt8} (hb : b.length ≤ 1024) (h0 : (judgeB s b).1 = 0) : ({ (judgeB s b).2 with line := [] } : WSt).Pre := by
  unfold judgeB at h0 ⊢
  by_cases h1 : s.next = 1
  · rw [if_pos h1] at h0 ⊢
    cases hf : firstF b with
    | none => rw [hf] at h0; cases h0
    | some r =>
      obtain ⟨m, t⟩ := r
      exact ⟨by simp [beginW], by simp, by simp [beginW], by simp [beginW], by simp [beginW], by simp, by simp [beginW]⟩
  · rw [if_neg h1] at h0 ⊢
    have h2 : s.next = 2 := by omega
    by_cases hb0 : b = []
    · rw [if_pos hb0] at h0 ⊢
      unfold closeF at h0 ⊢
      by_cases he : (emptyF s.fs).1 = 0
      · rw [if_pos he]
        obtain ⟨a, b, c, d⟩ := emptyF_ok s.fs he
        exact ⟨by simp, by simp, h.fl, h.asc, fun _ => ⟨a, b, c⟩, fun _ => rfl, by simp⟩
      · rw [if_neg he] at h0
        exact absurd h0 he
    · rw [if_neg hb0] at h0 ⊢
      unfold fieldW at h0 ⊢
      by_cases hl : s.fs.length = 32
      · rw [if_pos hl] at h0
        cases h0
      · rw [if_neg hl] at h0 ⊢
        cases hf : fieldF b with
        | none => rw [hf] at h0; cases h0
        | some f =>
          obtain ⟨f1, f2, f3⟩ := fieldF_ok hf
          have := h.fl
          refine ⟨by simp only; omega, by simp, by simp; omega, ?_, by simp only; omega, fun _ => rfl, by simp only; omega⟩
          intro g hg
          simp only [List.mem_append, List.mem_singleton] at hg
          rcases hg with hg | rfl
          · exact h.asc g hg
          · exact ⟨by omega, by omega, f3⟩

theorem take_pre {s : WSt} (h : s.Ok) (hn : s.next = 1 ∨ s.next = 2) (c : UInt8) (h0 : (takeW s c).1 = 0) : (takeW s c).2.Pre := by
  unfold takeW at h0 ⊢
  by_cases hc : c = 10
  · rw [if_pos hc] at h0 ⊢
    simp only at h0 ⊢
    unfold judgeF at h0 ⊢
    cases hb : bareF (s.line ++ [c]) with
    | none => rw [hb] at h0; cases h0
    | some b =>
      rw [hb] at h0
      have := bareF_len hb
      have hl := h.ln
      simp at this
      exact judgeB_pre h hn (by omega) h0
  · rw [if_neg hc] at h0 ⊢
    by_cases hl : s.line.length = 1023
    · rw [if_pos hl] at h0
      cases h0
    · rw [if_neg hl]
      have h1 := h.ln
      exact ⟨by simp only; omega, by simp; omega, h.fl, h.asc, by simp only; omega, by simp only; omega, fun e => h.zero (.inl e)⟩

theorem body_pre {s : WSt} (h : s.Ok) (hn : s.next = 3) {b : St} (hb : b.Ok) (h0 : b.next ≠ 0) (h1 : b.bad = 0) : ({ s with bd := b } : WSt).Pre :=
  ⟨by simp only; omega, h.ln, h.fl, h.asc, fun _ => ⟨hb, h0, h1⟩, fun _ => h.emp (.inl hn), by simp only; omega⟩

theorem byte_ok {s : WSt} (h : s.Ok) (hn : s.next ≤ 3) (c : UInt8) : (byteW s c).2.2.Ok := by
  unfold byteW
  split
  · rename_i h3
    obtain ⟨a, b, -, d⟩ := h.body h3
    split
    · rename_i hb
      exact whole_ok (body_pre h h3 (step_ok a c) (step_ne0 b c) hb)
    · exact dead_ok
  · rename_i h3
    split
    · rename_i hb
      exact whole_ok (take_pre h (by have := h.nx; omega) c hb)
    · exact dead_ok

theorem run_ok : ∀ (xs : List UInt8) {s : WSt}, s.Ok → s.next ≤ 4 → (runW s xs).2.2.Ok
  | [], _, h, _ => h
  | c :: cs, s, h, hn => by
    unfold runW
    split
    · exact h
    · rename_i h4
      split
      · exact dead_ok
      · rename_i he
        have hb := byte_ok h (by omega) c
        by_cases h5 : (byteW s c).2.2.next ≤ 4
        · exact run_ok cs hb h5
        · exfalso
          have : (byteW s c).1 = 0 := by simpa using he
          revert h5 this
          unfold byteW
          have hw : ∀ t : WSt, t.next ≤ 3 → (wholeW t).2.next ≤ 4 := fun t ht => by
            unfold wholeW
            split
            · simp only; split <;> decide
            · simp only; omega
          split
          · rename_i h3
            split
            · intro h5 _; exact h5 (hw _ (by simp only; omega))
            · rename_i hb
              intro _ e
              unfold errW at e
              simp only at e
              split at e
              · cases e
              · exact hb e
          · rename_i h3
            split
            · rename_i h0
              intro h5 _
              exact h5 (hw _ (take_pre h (by have := h.nx; omega) c h0).nx.2)
            · rename_i hb
              intro _ e
              exact hb e

theorem run_append : ∀ (xs ys : List UInt8) (s : WSt),
    runW s (xs ++ ys) = if (runW s xs).2.1 ≠ 0 then runW s xs else ((runW s xs).1 ++ (runW (runW s xs).2.2 ys).1, (runW (runW s xs).2.2 ys).2)
  | [], ys, s => by simp [runW]
  | c :: cs, ys, s => by
    have ho : s.next = 4 → runW s ys = ([], 0, s) := fun h => by
      cases ys with
      | nil => rfl
      | cons y ys => rw [runW, if_pos h]
    rw [List.cons_append]
    by_cases h4 : s.next = 4
    · simp only [runW, h4, if_true]
      simp [ho h4]
    · simp only [runW, h4, if_false]
      by_cases he : (byteW s c).1 = 0
      · simp only [he, ne_eq, not_true_eq_false, if_false]
        rw [run_append cs ys]
        by_cases h1 : (runW (byteW s c).2.2 cs).2.1 = 0
        · simp [h1, List.append_assoc]
        · simp [h1]
      · simp [he]

theorem wholeW_off {s : WSt} (h : ¬ (s.next = 3 ∧ s.bd.next = 9)) : wholeW s = (none, s) := by unfold wholeW; rw [if_neg h]
theorem errW_ne {e : Int} (h : e ≠ 0) : errW e ≠ 0 := by unfold errW; split <;> simp_all

/-- A body's bytes at once. -/
def bodyW (s : WSt) (xs : List UInt8) : List Req × Int × WSt :=
  if (feedL s.bd xs).2.bad ≠ 0 then ([], errW (feedL s.bd xs).2.bad, WSt.dead) else thenW (wholeW { s with bd := (feedL s.bd xs).2 }) (xs.drop (feedL s.bd xs).1)
theorem run_body : ∀ (xs : List UInt8) (s : WSt), s.next = 3 → s.bd.next ≠ 9 → s.bd.bad = 0 → runW s xs = bodyW s xs
  | [], s, h3, h9, hb => by
    unfold bodyW
    simp only [feedL, hb, ne_eq, not_true_eq_false, if_false, List.drop_nil]
    rw [wholeW_off (fun h => h9 h.2)]
    rfl
  | c :: cs, s, h3, h9, hb => by
    have hon : s.bd.on = true := by simp [St.on, h9, hb]
    have h4 : s.next ≠ 4 := by omega
    unfold bodyW
    simp only [feedL, hon, if_true, List.drop_succ_cons]
    rw [runW, if_neg h4]
    unfold byteW
    rw [if_pos h3]
    by_cases hb1 : (stepF s.bd c).bad = 0
    · rw [if_pos hb1]
      simp only [ne_eq, not_true_eq_false, if_false]
      by_cases h91 : (stepF s.bd c).next = 9
      · rw [feedL_off (by simp [St.on, h91])]
        simp only [hb1, not_true_eq_false, if_false, List.drop_zero]
        rfl
      · rw [wholeW_off (fun h => h91 h.2)]
        have ih := run_body cs { s with bd := stepF s.bd c } h3 h91 hb1
        simp only [Option.toList_none, List.nil_append]
        rw [ih]
        rfl
    · rw [if_neg hb1]
      simp only
      rw [if_pos (errW_ne hb1), feedL_off (off_of_bad hb1)]
      simp only [hb1, ne_eq, not_false_eq_true, if_true]

/-- What a line's first bytes say: the line and how many bytes it has. -/
inductive LR where
  | more
  | err (e : Int)
  | ok (l : List UInt8) (n : Nat)
def lineR (pre : List UInt8) : List UInt8 → LR
  | [] => .more
  | c :: cs => if c = 10 then (match bareF (pre ++ [c]) with
      | none => .err 4
      | some l => .ok l (pre.length + 1)) else if pre.length = 1023 then .err 2 else lineR (pre ++ [c]) cs
/-- Behind a line. -/
def lineW (s : WSt) (l : List UInt8) (ys : List UInt8) : List Req × Int × WSt :=
  if (judgeB s l).1 ≠ 0 then ([], (judgeB s l).1, WSt.dead) else thenW (wholeW { (judgeB s l).2 with line := [] }) ys
theorem beginW_line (s : WSt) (p : List UInt8) (o : Option (List UInt8 × List UInt8)) : beginW { s with line := p } o = ((beginW s o).1, { (beginW s o).2 with line := p }) := by
  cases o <;> rfl
theorem judgeB_line (s : WSt) (p b : List UInt8) : judgeB { s with line := p } b = ((judgeB s b).1, { (judgeB s b).2 with line := p }) := by
  unfold judgeB
  simp only
  split
  · exact beginW_line _ _ _
  · split
    · unfold closeF; simp only; split <;> rfl
    · unfold fieldW
      simp only
      split
      · rfl
      · cases fieldF b <;> rfl
theorem run_line : ∀ (ys pre : List UInt8) (s : WSt), s.next = 1 ∨ s.next = 2 →
    runW { s with line := pre } ys = match lineR pre ys with
      | .more => ([], 0, { s with line := pre ++ ys })
      | .err e => ([], e, WSt.dead)
      | .ok l n => lineW s l (ys.drop (n - pre.length))
  | [], pre, s, _ => by simp [runW, lineR]
  | c :: cs, pre, s, hn => by
    rw [runW, lineR]
    simp only
    rw [if_neg (show ¬ s.next = 4 by omega)]
    unfold byteW
    simp only
    have h3 : (s.next = 3) = False := by simp; omega
    simp only [h3, if_false]
    unfold takeW
    by_cases hc : c = 10
    · rw [if_pos hc, if_pos hc]
      simp only
      unfold judgeF
      cases hb : bareF (pre ++ [c]) with
      | none => simp
      | some l =>
        simp only
        rw [judgeB_line]
        simp only
        unfold lineW
        by_cases h0 : (judgeB s l).1 = 0
        · simp only [h0, if_true, ne_eq, not_true_eq_false, if_false]
          rw [show pre.length + 1 - pre.length = 1 from by omega]
          rfl
        · simp [h0]
    · rw [if_neg hc, if_neg hc]
      simp only
      by_cases hl : pre.length = 1023
      · simp [hl]
      · simp only [hl, if_false, if_true, ne_eq, not_true_eq_false]
        rw [wholeW_off (by simp only; omega)]
        simp only [Option.toList_none, List.nil_append]
        rw [run_line cs (pre ++ [c]) s hn]
        have hlen : (pre ++ [c]).length = pre.length + 1 := by simp
        have hge : ∀ (zs p : List UInt8) (l : List UInt8) (n : Nat), lineR p zs = .ok l n → p.length + 1 ≤ n := by
          intro zs
          induction zs with
          | nil => intro p l n h; cases h
          | cons z zs ih =>
            intro p l n h
            rw [lineR] at h
            split at h
            · split at h
              · cases h
              · injection h with _ h; omega
            · split at h
              · cases h
              · have := ih _ _ _ h
                simp at this
                omega
        cases hr : lineR (pre ++ [c]) cs with
        | more => simp
        | err e => rfl
        | ok l n =>
          have := hge _ _ _ _ hr
          simp only
          rw [hlen] at this ⊢
          rw [show n - pre.length = n - (pre.length + 1) + 1 from by omega, List.drop_succ_cons]
end Go.Proofs.YtkbmajkoojgkpaaDoor
