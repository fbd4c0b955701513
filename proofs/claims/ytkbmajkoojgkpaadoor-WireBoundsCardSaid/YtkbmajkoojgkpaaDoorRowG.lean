/- Rows of structs of one's own, whatever their size; append onto them. -/
import Derived.Test.YtkbmajkoojgkpaaDoorPieces
namespace Go.Proofs.YtkbmajkoojgkpaaDoor
open Go.RowKit

/-- A row of n structs of k cells each, of one's own; its cells. -/
structure RowG (w : World) (e : TypeId) (k : Nat) (v : Value) (n : Nat) (us : List Value) : Prop where mk :: (out : w.ownsRow 0 e k v n us)
section
variable {w w' : World} {e : TypeId} {k n : Nat} {v : Value} {us : List Value}
theorem RowG.nil (w : World) (e : TypeId) (k : Nat) : RowG w e k (.slice none 0 0) 0 [] := ⟨World.ownsRow_nil _ _ _ _⟩
theorem RowG.lt (h : RowG w e k v n us) {i : Nat} (hk : v.ownBlock = some i) : i < w.heap.size := (h.out.lt i hk).2
theorem RowG.len (h : RowG w e k v n us) : us.length = n * k := h.out.1
theorem RowG.shape (h : RowG w e k v n us) : ∃ A c, v = .slice A n c ∧ n ≤ c ∧ c ≤ 9223372036854775807 := by
  rcases h.out.2 with ⟨rfl, h0⟩ | ⟨g, cap, cur, rfl, _, _, h1, h2, _⟩
  · rw [h0]; exact ⟨_, _, rfl, by omega, by omega⟩
  · exact ⟨_, _, rfl, h1, by unfold maxLen at h2; omega⟩
theorem RowG.chg {S : Nat → Prop} (h : RowG w e k v n us) (hc : Chg w w' S) (hS : ∀ i, v.ownBlock = some i → ¬ S i) : RowG w' e k v n us := by
  refine ⟨h.out.1, ?_⟩
  rcases h.out.2 with h0 | ⟨g, cap, cur, rfl, hb, hg, r⟩
  · exact .inl h0
  · exact .inr ⟨g, cap, cur, rfl, hb, (hc.block g (lt_of_block hg) (hS g rfl)).trans hg, r⟩
theorem RowG.ne_blk {g t : Nat} {cs : Array Value} (h : RowG w e k v n us) (hb : Blk w g t cs) (ht : t ≠ e) : v.ownBlock ≠ some g := by
  rcases h.out.2 with ⟨rfl, h0⟩ | ⟨g', cap, cur, rfl, _, hg, r⟩
  · simp [Value.ownBlock]
  · intro e'
    have : g' = g := by simpa [Value.ownBlock] using e'
    subst this
    exact Blk.ne hb ⟨hg⟩ ht rfl
theorem RowG.ne_row {xs : List UInt8} {u : Value} (h : RowG w e k v n us) (hr : Row w u xs) (ht : e ≠ 5) {i : Nat} (h1 : v.ownBlock = some i) : u.ownBlock ≠ some i := by
  rcases h.out.2 with ⟨rfl, h0⟩ | ⟨g', cap, cur, rfl, _, hg, r⟩
  · simp [Value.ownBlock] at h1
  · have : g' = i := by simpa [Value.ownBlock] using h1
    subst this
    exact hr.ne_blk ⟨hg⟩ ht
theorem RdV.of_rowG {A : Option Addr} {m c : Nat} (h : RowG w e k (.slice A m c) n us) : RdV w A us := by
  rcases h.out.2 with ⟨e', h0⟩ | ⟨g, cap, cur, e', hb, hg, r⟩
  · exact ⟨fun hn => by have := h.len; rw [h0] at this; omega⟩
  · injection e' with e1 e2 e3
    subst e1
    exact ⟨fun hn => ⟨_, rfl, h.out.cells (g := g) rfl⟩⟩
end

set_option maxRecDepth 100000 in
theorem run_appG {T e : TypeId} {k bytes : Nat} {z : Value} (hT : Tryd.prog.underlying T = some (.slice e)) (hI : (Tryd.prog.info? e).map (fun i => (i.zero, i.size, i.bytes)) = some (some z, k, bytes)) (hzk : z.cells.size = k) (hk : 0 < k)
    (w : World) (ty : TypeId) (v : Value) (n : Nat) (us : List Value) (hown : RowG w e k v n us) (A : Option Addr) (m c : Nat) (ys : List Value) (hm : ys.length = m * k) (hr : RdV w A ys) (h1c : ∀ u, u ∈ ys → u.oneCell' = true) (h63 : n + m ≤ 1073741824) (hb : bytes ≤ 65536) :
    ∃ A' c' w', (Builtin.append_ #[T, T] ty #[v, .slice A m c]).run Tryd.prog w = .ok (.slice A' (n + m) c') w' ∧
      RowG w' e k (.slice A' (n + m) c') (n + m) (us ++ ys) ∧ Chg w w' (fun i => v.ownBlock = some i) ∧ NewFoot w v (.slice A' (n + m) c') := by
  obtain ⟨i0, hi, hz0, hz1, hz2⟩ := info_parts hI
  rcases A with _ | ad
  · have hy : ys = [] := by
      rcases Nat.eq_zero_or_pos ys.length with h0 | h0
      · exact List.eq_nil_of_length_eq_zero h0
      · obtain ⟨ad, e, _⟩ := hr.out h0
        cases e
    have hm0 : m = 0 := by
      rw [hy] at hm
      simp only [List.length_nil] at hm
      rcases Nat.mul_eq_zero.1 hm.symm with h | h <;> omega
    subst hy hm0
    obtain ⟨A', c', rfl, h2, -⟩ := hown.shape
    have hx : (Builtin.append_ #[T, T] ty #[.slice A' n c', .slice none 0 c]).run Tryd.prog w = .ok (.slice A' n c') w := by
      rcases hown.out.2 with ⟨e, h0⟩ | ⟨g, cap, cur, e, _, _, hnc, _⟩
      · injection e with e1 e2 e3
        subst e1 e3 h0
        simp [Builtin.append_, run_underlying hT, sizeOf, typeInfo, hi, Builtin.lenOf, Builtin.firstCells]
      · injection e with e1 e2 e3
        subst e1 e3
        simp [Builtin.append_, run_underlying hT, sizeOf, typeInfo, hi, Builtin.lenOf, Builtin.firstCells, hnc, storeCells]
    exact ⟨A', c', w, by simpa using hx, by simpa using hown, Chg.refl _ _, fun k e => .inl (by simpa using e)⟩
  · have hcells : ∀ j u, ys[j]? = some u → w.cell? (ad.add j) = some u := by
      intro j u hu
      have hj : j < ys.length := (List.getElem?_eq_some_iff.1 hu).1
      obtain ⟨ad', e, hc⟩ := hr.out (by omega)
      injection e with e
      subst e
      exact hc j u hu
    have hbytes : (n + m) * bytes ≤ 140737488355328 := Nat.le_trans (Nat.mul_le_mul h63 hb) (by decide)
    obtain ⟨v', w', hrun, h2, h3, _, h5⟩ := run_append_own_at (P := Tryd.prog) w 0 T ty e i0 z k bytes hT hi hz0 hz1 hz2 hzk hk v n us hown.out ad m c ys
      hm hcells h1c (by unfold maxLen; omega) hbytes (Nat.zero_le _)
    have hrow : RowG w' e k v' (n + m) (us ++ ys) := ⟨h2⟩
    obtain ⟨A', c', hs, -, -⟩ := hrow.shape
    subst hs
    refine ⟨A', c', w', hrun, hrow, (Chg.refl w _).grown h3 fun k e _ => e, fun k e => ?_⟩
    rcases h5 with h5 | h5
    · exact .inl (by rw [← h5]; exact e)
    · rw [h5] at e
      injection e with e
      exact .inr (by omega)

theorem wp_appG {T e : TypeId} {k bytes : Nat} {z : Value} (hT : Tryd.prog.underlying T = some (.slice e)) (hI : (Tryd.prog.info? e).map (fun i => (i.zero, i.size, i.bytes)) = some (some z, k, bytes)) (hzk : z.cells.size = k) (hk : 0 < k) (hb : bytes ≤ 65536)
    {w : World} {o : Oper} {a : Act} {K : Act → World → Prop} {Q : Exit → Act → World → Prop} (s x : Operand)
    (ho : o.op = .call { callee := .builtin .append, args := #[s, x], argTypes := #[T, T] })
    (v : Value) (n : Nat) (us : List Value) (hs : a.eval s = v) (hown : RowG w e k v n us) (A : Option Addr) (m c : Nat) (ys : List Value) (hm : ys.length = m * k) (hx : a.eval x = .slice A m c) (hr : RdV w A ys) (h1c : ∀ u, u ∈ ys → u.oneCell' = true)
    (h63 : n + m ≤ 1073741824)
    (h : ∀ A' c' w', RowG w' e k (.slice A' (n + m) c') (n + m) (us ++ ys) → Chg w w' (fun i => v.ownBlock = some i) → NewFoot w v (.slice A' (n + m) c') →
      K (a.put o.dst (.slice A' (n + m) c')) w') : o.wp Tryd.prog a w K Q := by
  obtain ⟨A', c', w', hrun, h2, h3, h4⟩ := run_appG hT hI hzk hk w o.type v n us hown A m c ys hm hr h1c h63 hb
  unfold Oper.wp execOp
  simp only [ho, resolve, invoke, builtin, Sem.run_bind, Sem.run_pure, Result.andThen_ok, List.map_toArray, List.map_cons, List.map_nil, hs, hx, hrun]
  exact h A' c' w' h2 h3 h4

theorem wpList_appG {T e : TypeId} {k bytes : Nat} {z : Value} (hT : Tryd.prog.underlying T = some (.slice e)) (hI : (Tryd.prog.info? e).map (fun i => (i.zero, i.size, i.bytes)) = some (some z, k, bytes)) (hzk : z.cells.size = k) (hk : 0 < k) (hb : bytes ≤ 65536)
    {w : World} {ops : Array Oper} {rest : List Oper} {o : Oper} {a : Act} {Q : Exit → Act → World → Prop} (hgd : o.guard = none) (s x : Operand)
    (ho : o.op = .call { callee := .builtin .append, args := #[s, x], argTypes := #[T, T] })
    (v : Value) (n : Nat) (us : List Value) (hs : a.eval s = v) (hown : RowG w e k v n us) (A : Option Addr) (m c : Nat) (ys : List Value) (hm : ys.length = m * k) (hx : a.eval x = .slice A m c) (hr : RdV w A ys) (h1c : ∀ u, u ∈ ys → u.oneCell' = true)
    (h63 : n + m ≤ 1073741824)
    (h : ∀ A' c' w', RowG w' e k (.slice A' (n + m) c') (n + m) (us ++ ys) → Chg w w' (fun i => v.ownBlock = some i) → NewFoot w v (.slice A' (n + m) c') →
      wpList Tryd.prog ops Q rest (a.put o.dst (.slice A' (n + m) c')) w') : wpList Tryd.prog ops Q (o :: rest) a w :=
  wpList_plain hgd fun _ hK => wp_appG hT hI hzk hk hb s x ho v n us hs hown A m c ys hm hx hr h1c h63 fun A' c' w' h2 h3 h4 => hK _ _ (h A' c' w' h2 h3 h4)

theorem step_appG {T e : TypeId} {k bytes : Nat} {z : Value} (hT : Tryd.prog.underlying T = some (.slice e)) (hI : (Tryd.prog.info? e).map (fun i => (i.zero, i.size, i.bytes)) = some (some z, k, bytes)) (hzk : z.cells.size = k) (hk : 0 < k) (hb : bytes ≤ 65536)
    {w : World} {ops : Array Oper} {o : Oper} {a : Act} {K : Act → World → Prop} {Q : Exit → Act → World → Prop} {E : Prop} (hgd : o.guard = none) (s x : Operand)
    (ho : o.op = .call { callee := .builtin .append, args := #[s, x], argTypes := #[T, T] })
    (v : Value) (n : Nat) (us : List Value) (hs : a.eval s = v) (hown : RowG w e k v n us) (A : Option Addr) (m c : Nat) (ys : List Value) (hm : ys.length = m * k) (hx : a.eval x = .slice A m c) (hr : RdV w A ys) (h1c : ∀ u, u ∈ ys → u.oneCell' = true)
    (h63 : n + m ≤ 1073741824)
    (h : ∀ A' c' w', RowG w' e k (.slice A' (n + m) c') (n + m) (us ++ ys) → Chg w w' (fun i => v.ownBlock = some i) → NewFoot w v (.slice A' (n + m) c') →
      K (a.put o.dst (.slice A' (n + m) c')) w') : if Region.wanted o (yielded ops a.tmps) = true then Oper.wp Tryd.prog o a w K Q else E := by
  have hw : Region.wanted o (yielded ops a.tmps) = true := by simp [Region.wanted, hgd]
  rw [if_pos hw]
  exact wp_appG hT hI hzk hk hb s x ho v n us hs hown A m c ys hm hx hr h1c h63 h

/-- What is appended lies in a block of its own. -/
theorem RdV.one {w : World} {g t : Nat} {cs : Array Value} (h : Blk w g t cs) : RdV w (some ⟨g, 0, none⟩) cs.toList :=
  ⟨fun _ => ⟨_, rfl, fun j u hu => by
    rw [show (⟨g, 0, none⟩ : Addr).add j = ⟨g, j, none⟩ from by unfold Addr.add; split <;> simp_all, h.cell]
    simpa using hu⟩⟩
end Go.Proofs.YtkbmajkoojgkpaaDoor
