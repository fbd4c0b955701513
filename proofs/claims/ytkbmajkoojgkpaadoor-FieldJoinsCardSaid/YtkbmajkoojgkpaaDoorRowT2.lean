/- append of many strings onto a row of one's own. -/
import Derived.Test.YtkbmajkoojgkpaaDoorRowT
namespace Go.Proofs.YtkbmajkoojgkpaaDoor
open Go.RowKit

theorem RowT.empty (w : World) : RowT (w.alloc (.cells #[] 9)) (.slice (some ⟨w.heap.size, 0, none⟩) 0 0) [] :=
  ⟨⟨rfl, .inr ⟨w.heap.size, 0, #[], rfl, Nat.zero_le _, heap_alloc_new w _, Nat.le_refl _, by unfold maxLen; omega, rfl, rfl⟩⟩⟩

set_option maxRecDepth 100000 in
theorem run_appT (w : World) (ty : TypeId) (v : Value) (us : List Value) (hown : RowT w v us) (A : Option Addr) (c : Nat) (ys : List Value) (hr : RdV w A ys) (h1c : ∀ u, u ∈ ys → u.oneCell' = true) (h63 : us.length + ys.length ≤ 1073741824) :
    ∃ A' c' w', (Builtin.append_ #[46, 46] ty #[v, .slice A ys.length c]).run Tryd.prog w = .ok (.slice A' (us ++ ys).length c') w' ∧
      RowT w' (.slice A' (us ++ ys).length c') (us ++ ys) ∧ Chg w w' (fun k => v.ownBlock = some k) ∧ NewFoot w v (.slice A' (us ++ ys).length c') := by
  obtain ⟨i0, hi, hz0, hz1, hz2⟩ := info_parts st_info
  rcases A with _ | ad
  · have hy : ys = [] := by
      rcases Nat.eq_zero_or_pos ys.length with h0 | h0
      · exact List.eq_nil_of_length_eq_zero h0
      · obtain ⟨ad, e, _⟩ := hr.out h0
        cases e
    subst hy
    obtain ⟨A', c', rfl⟩ := hown.shape
    have hx : (Builtin.append_ #[46, 46] ty #[.slice A' us.length c', .slice none 0 c]).run Tryd.prog w = .ok (.slice A' us.length c') w := by
      rcases hown.out.2 with ⟨e, h0⟩ | ⟨g, cap, cur, e, _, _, hnc, _⟩
      · injection e with e1 e2 e3
        subst e1 e3
        simp [Builtin.append_, run_underlying Tryd.underlying46, sizeOf, typeInfo, hi, Builtin.lenOf, Builtin.firstCells, h0]
      · injection e with e1 e2 e3
        subst e1 e3
        simp [Builtin.append_, run_underlying Tryd.underlying46, sizeOf, typeInfo, hi, Builtin.lenOf, Builtin.firstCells, hnc, storeCells]
    exact ⟨A', c', w, by simpa using hx, by simpa using hown, Chg.refl _ _, fun k e => .inl (by simpa using e)⟩
  · have hcells : ∀ j u, ys[j]? = some u → w.cell? (ad.add j) = some u := by
      intro j u hu
      have hj : j < ys.length := (List.getElem?_eq_some_iff.1 hu).1
      obtain ⟨ad', e, hc⟩ := hr.out (by omega)
      injection e with e
      subst e
      exact hc j u hu
    obtain ⟨v', w', hrun, h2, h3, _, h5⟩ := run_append_own_at (P := Tryd.prog) w 0 46 ty 9 i0 (.string ⟨#[]⟩) 1 16 Tryd.underlying46 hi hz0 hz1 hz2 rfl (by decide) v us.length us hown.out ad ys.length c ys
      (by simp) hcells h1c (by unfold maxLen; omega) (by omega) (Nat.zero_le _)
    have hrow : RowT w' v' (us ++ ys) := ⟨by rw [List.length_append]; exact h2⟩
    obtain ⟨A', c', hs⟩ := hrow.shape
    subst hs
    refine ⟨A', c', w', hrun, hrow, (Chg.refl w _).grown h3 fun k e _ => e, fun k e => ?_⟩
    rcases h5 with h5 | h5
    · exact .inl (by rw [← h5]; exact e)
    · rw [h5] at e
      injection e with e
      exact .inr (by omega)

theorem wpList_appTs {w : World} {ops : Array Oper} {rest : List Oper} {o : Oper} {a : Act} {Q : Exit → Act → World → Prop} (hgd : o.guard = none) (s x : Operand)
    (ho : o.op = .call { callee := .builtin .append, args := #[s, x], argTypes := #[46, 46] })
    (v : Value) (us : List Value) (hs : a.eval s = v) (hown : RowT w v us) (A : Option Addr) (n c : Nat) (ys : List Value) (hn : ys.length = n) (hx : a.eval x = .slice A n c) (hr : RdV w A ys) (h1c : ∀ u, u ∈ ys → u.oneCell' = true)
    (h63 : us.length + n ≤ 1073741824)
    (h : ∀ A' c' w' zs, zs = us ++ ys → RowT w' (.slice A' (List.length zs) c') zs → Chg w w' (fun k => v.ownBlock = some k) → NewFoot w v (.slice A' (List.length zs) c') →
      wpList Tryd.prog ops Q rest (a.put o.dst (.slice A' (List.length zs) c')) w') : wpList Tryd.prog ops Q (o :: rest) a w := by
  subst hn
  refine wpList_plain hgd fun K hK => ?_
  obtain ⟨A', c', w', hrun, h2, h3, h4⟩ := run_appT w o.type v us hown A c ys hr h1c h63
  unfold Oper.wp execOp
  simp only [ho, resolve, invoke, builtin, Sem.run_bind, Sem.run_pure, Result.andThen_ok, List.map_toArray, List.map_cons, List.map_nil, hs, hx, hrun]
  exact hK _ _ (h A' c' w' (us ++ ys) rfl h2 h3 h4)
end Go.Proofs.YtkbmajkoojgkpaaDoor
