/- A row that grows in a region that draws its order, beside little rows that wait to be appended. -/
import Derived.Test.YtkbmajkoojgkpaaDoorApp
import Derived.Lib.AppendStr
import Derived.Deep.RegionLaw
namespace Go.Proofs.YtkbmajkoojgkpaaDoor
open Go.RowKit

theorem strCells_str (s : List UInt8) : Lib.strCells (str s) = Bs s := rfl

/- A string's bytes are appended. -/
set_option maxRecDepth 100000 in
theorem run_app_str (w0 w : World) (ty : TypeId) (A : Option Addr) (c : Nat) (xs s : List UInt8) (hown : Out w0 w A c xs) (h63 : xs.length + s.length ≤ 140737488355328) :
    ∃ A' c' w', (Builtin.append_ #[22, 9] ty #[.slice A xs.length c, .string (str s)]).run Tryd.prog w = .ok (.slice A' (xs ++ s).length c') w' ∧ Out w0 w' A' c' (xs ++ s) ∧
      Chg w w' (fun k => (Value.slice A xs.length c).ownBlock = some k) ∧ ((Value.slice A' (xs ++ s).length c').ownBlock = (Value.slice A xs.length c).ownBlock ∨ ∀ k, (Value.slice A' (xs ++ s).length c').ownBlock = some k → w.heap.size ≤ k) := by
  obtain ⟨i0, hi, hz0, hz1, hz2⟩ := info_parts u8_info
  have up : ∀ B, B ≤ w0.heap.size → w.ownsRow B 5 1 (.slice A xs.length c) xs.length (Bs xs) := fun B hB => by
    have h0 := hown.row.out
    refine ⟨h0.1, ?_⟩
    rcases h0.2 with h1 | ⟨g, cap, cur, e, hbg, r⟩
    · exact .inl h1
    · refine .inr ⟨g, cap, cur, e, ?_, r⟩
      rcases hown.foot g (by rw [e]; rfl) with h2 | h2
      · simp [Value.ownBlock] at h2
      · omega
  obtain ⟨v', w', hrun, h2, h3, _⟩ := Lib.run_append_own_string (P := Tryd.prog) w w0.heap.size 22 9 ty 5 i0 Tryd.underlying22 Tryd.underlying9 hi hz0 hz1 hz2 _ xs.length (Bs xs) (up _ (Nat.le_refl _)) (str s) (by rw [str_size]; unfold maxLen; omega) (by rw [str_size]; exact h63) hown.chg.size
  rw [strCells_str, str_size, ← Bs_append, ← List.length_append] at h2
  have hrow : Row w' v' (xs ++ s) := ⟨by
    refine ⟨h2.1, ?_⟩
    rcases h2.2 with h4 | ⟨g, cap, cur, e, _, r⟩
    · exact .inl h4
    · exact .inr ⟨g, cap, cur, e, Nat.zero_le _, r⟩⟩
  obtain ⟨A', c', e⟩ := row_shape hrow
  subst e
  have hfoot : NewFoot w0 (.slice none 0 0) (.slice A' (xs ++ s).length c') := fun k e => by
    rcases h2.2 with ⟨h4, _⟩ | ⟨g, cap, cur, e4, hg, _⟩
    · rw [h4] at e
      simp [Value.ownBlock] at e
    · rw [e4] at e
      simp [Value.ownBlock] at e
      subst e
      exact .inr hg
  refine ⟨A', c', w', hrun, ⟨hrow, (hown.chg.grown h3 (fun k e hk => (newFoot_nil hown.foot hk e).elim)), hfoot⟩, (Chg.refl w _).grown h3 fun k e _ => e, ?_⟩
  rcases hown.row.form with ⟨e, rfl⟩ | ⟨g, cap, cur, e, hb, h4, h5, h6, h7⟩
  · right
    rw [e] at hrun
    obtain ⟨v2, w2, hrun2, h8, _⟩ := Lib.run_append_own_string (P := Tryd.prog) w w.heap.size 22 9 ty 5 i0 Tryd.underlying22 Tryd.underlying9 hi hz0 hz1 hz2 (.slice none 0 0) 0 [] (World.ownsRow_nil w _ _ _) (str s) (by rw [str_size]; unfold maxLen; simp at h63; omega) (by rw [str_size]; simpa using h63) (Nat.le_refl _)
    rw [hrun2] at hrun
    injection hrun with e1 e2
    intro k hk
    rw [← e1] at hk
    exact (h8.lt k hk).1
  · rw [e] at hrun ⊢
    by_cases hroom : xs.length + (str s).size ≤ cap
    · left
      have hr := Lib.run_append_room_string (P := Tryd.prog) w 22 9 ty 5 i0 Tryd.underlying22 Tryd.underlying9 hi hz1 g xs.length cap cur hb.out (str s) hroom (by omega)
      rw [hr] at hrun
      injection hrun with e1 e2
      rw [← e1]
      rfl
    · right
      have hb0 := up 0 (Nat.zero_le _)
      rw [e] at hb0
      have holds : ∀ j u, (Bs xs)[j]? = some u → w.cell? ((⟨g, 0, none⟩ : Addr).add j) = some u := hb0.cells (g := g) rfl
      have hr := Lib.run_append_grow_string (P := Tryd.prog) w 22 9 ty 5 i0 (.int .u8 0) Tryd.underlying22 Tryd.underlying9 hi hz0 ⟨g, 0, none⟩ xs.length cap (Bs xs) (by rw [hz1, Bs_length]; omega) holds (str s) (by omega) (by rw [str_size]; omega) (by rw [hz2]; exact growslice_fits (by omega) (by rw [str_size]; omega))
      rw [hr] at hrun
      injection hrun with e1 e2
      intro k hk
      rw [← e1] at hk
      simp [Value.ownBlock] at hk
      omega

/-- A row that grows, and blocks that hold 13, 10 and wait. -/
structure Pend (w0 w : World) (A : Option Addr) (c : Nat) (z : List UInt8) (ps : List Nat) : Prop where
  out : Out w0 w A c z
  pend : ∀ g, g ∈ ps → Rd w (some ⟨g, 0, none⟩) [13, 10] ∧ (Value.slice A z.length c).ownBlock ≠ some g ∧ g < w.heap.size
theorem Pend.of {w0 w : World} {A : Option Addr} {c : Nat} {z : List UInt8} (h : Out w0 w A c z) : Pend w0 w A c z [] := ⟨h, fun g hg => by cases hg⟩
theorem Pend.to {w0 w w' : World} {A : Option Addr} {c : Nat} {z : List UInt8} {ps : List Nat} (h : Pend w0 w A c z ps) (hc : Chg w w' (fun _ => False)) : Pend w0 w' A c z ps :=
  ⟨h.out.to hc, fun g hg => by
    obtain ⟨h1, h2, h3⟩ := h.pend g hg
    exact ⟨h1.chg hc (fun _ _ _ => id), h2, Nat.lt_of_lt_of_le h3 hc.size⟩⟩
theorem Pend.drew {w0 w : World} {A : Option Addr} {c : Nat} {z : List UInt8} {ps : List Nat} (h : Pend w0 w A c z ps) : Pend w0 w.drew A c z ps := h.to (Chg.refl w _).drew
theorem Pend.build {w0 w : World} {A : Option Addr} {c : Nat} {z : List UInt8} {ps : List Nat} (h : Pend w0 w A c z ps) : Pend w0 (w.alloc (.cells #[.int .u8 13, .int .u8 10] 5)) A c z (w.heap.size :: ps) :=
  ⟨h.out.alloc _, fun g hg => by
    rcases List.mem_cons.1 hg with e | hg
    · subst e
      refine ⟨Rd.of_block (heap_alloc_new w _) rfl, fun e => ?_, by simp⟩
      exact absurd (h.out.row.lt e) (Nat.lt_irrefl _)
    · exact (h.to ((Chg.refl w _).alloc _)).pend g hg⟩
theorem Pend.grow {w0 w w' : World} {A A' : Option Addr} {c c' : Nat} {z z' : List UInt8} {ps : List Nat} (h : Pend w0 w A c z ps) (ho : Out w0 w' A' c' z') (hc : Chg w w' (fun k => (Value.slice A z.length c).ownBlock = some k))
    (hf : ∀ k, (Value.slice A' z'.length c').ownBlock = some k → (Value.slice A z.length c).ownBlock = some k ∨ w.heap.size ≤ k) : Pend w0 w' A' c' z' ps :=
  ⟨ho, fun g hg => by
    obtain ⟨h1, h2, h3⟩ := h.pend g hg
    refine ⟨h1.chg hc (fun ad e _ => by injection e with e; subst e; exact h2), fun e => ?_, Nat.lt_of_lt_of_le h3 hc.size⟩
    rcases hf g e with e | e
    · exact h2 e
    · omega⟩

theorem step_str {w0 w : World} {ops : Array Oper} {o : Oper} {a : Act} {K : Act → World → Prop} {Q : Exit → Act → World → Prop} {E : Prop} (hg : o.guard = none) (sl x : Operand)
    (ho : o.op = .call { callee := .builtin .append, args := #[sl, x], argTypes := #[22, 9] })
    (A : Option Addr) (c n : Nat) (xs : List UInt8) (ps : List Nat) (hn : xs.length = n) (hs : a.eval sl = .slice A n c) (hown : Pend w0 w A c xs ps) (s : List UInt8) (hx : a.eval x = .string (str s))
    (h63 : xs.length + s.length ≤ 140737488355328)
    (h : ∀ A' c' w' z, Pend w0 w' A' c' z ps → Hid (z = xs ++ s) → z.length ≤ xs.length + s.length → K (a.put o.dst (.slice A' (List.length z) c')) w') :
    if Region.wanted o (yielded ops a.tmps) = true then Oper.wp Tryd.prog o a w K Q else E := by
  subst hn
  have hw : Region.wanted o (yielded ops a.tmps) = true := by simp [Region.wanted, hg]
  rw [if_pos hw]
  obtain ⟨A', c', w', hrun, h1, h2, h3⟩ := run_app_str w0 w o.type A c xs s hown.out h63
  unfold Oper.wp execOp
  simp only [ho, resolve, invoke, builtin, Sem.run_bind, Sem.run_pure, Result.andThen_ok, List.map_toArray, List.map_cons, List.map_nil, hs, hx, hrun]
  refine h A' c' w' (xs ++ s) (hown.grow h1 h2 fun k e => ?_) rfl (by rw [List.length_append]; omega)
  rcases h3 with h3 | h3
  · exact .inl (by rw [← h3]; exact e)
  · exact .inr (h3 k e)

theorem step_byt {w0 w : World} {ops : Array Oper} {o : Oper} {a : Act} {K : Act → World → Prop} {Q : Exit → Act → World → Prop} {E : Prop} (hg : o.guard = none) (sl x : Operand)
    (ho : o.op = .call { callee := .builtin .append, args := #[sl, x], argTypes := #[22, 22] })
    (A : Option Addr) (c n : Nat) (xs : List UInt8) (ps : List Nat) (hn : xs.length = n) (hs : a.eval sl = .slice A n c) (hown : Pend w0 w A c xs ps) (B : Option Addr) (m d : Nat) (ys : List UInt8) (hm : ys.length = m) (hx : a.eval x = .slice B m d) (hr : Rd w B ys)
    (h63 : xs.length + ys.length ≤ 140737488355328)
    (h : ∀ A' c' w' z, Pend w0 w' A' c' z ps → Hid (z = xs ++ ys) → z.length ≤ xs.length + ys.length → K (a.put o.dst (.slice A' (List.length z) c')) w') :
    if Region.wanted o (yielded ops a.tmps) = true then Oper.wp Tryd.prog o a w K Q else E := by
  subst hn hm
  have hw : Region.wanted o (yielded ops a.tmps) = true := by simp [Region.wanted, hg]
  rw [if_pos hw]
  obtain ⟨A', c', w', hrun, h1, h2, h3⟩ := run_app w o.type _ xs hown.out.row B d ys hr h63
  unfold Oper.wp execOp
  simp only [ho, resolve, invoke, builtin, Sem.run_bind, Sem.run_pure, Result.andThen_ok, List.map_toArray, List.map_cons, List.map_nil, hs, hx, hrun]
  have ha := Appd.of h1 h2 h3
  rw [← List.length_append]
  exact h A' c' w' (xs ++ ys) (hown.grow (hown.out.app ha) h2 ha.foot) rfl (by rw [List.length_append]; omega)
end Go.Proofs.YtkbmajkoojgkpaaDoor
