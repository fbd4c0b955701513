/- Words for memory that all walks of this seat use: what has changed, a block known whole, a row of bytes of one's own, a slice of bytes that is read. -/
import Derived.Test.YtkbmajkoojgkpaaDoorProg
import Derived.WalkKit
import Derived.Lib.Hide
import Derived.Maps.AppendAt
import Derived.Deep.Draws
import Derived.RegionTactic
import Derived.OwnWalk
import Derived.Deep.AppendLies
import Derived.Laws.AppendOwnNone
import Derived.Laws.BytesArg
import Derived.Lib.Strings
namespace Go.Proofs.YtkbmajkoojgkpaaDoor
open Go.RowKit

def B8 (x : UInt8) : Value := .int .u8 (x.toNat : Int)
def Bs (xs : List UInt8) : List Value := xs.map B8
theorem Bs_length (xs : List UInt8) : (Bs xs).length = xs.length := by simp [Bs]
theorem Bs_append (xs ys : List UInt8) : Bs (xs ++ ys) = Bs xs ++ Bs ys := by simp [Bs]
theorem Bs_one (xs : List UInt8) : ∀ u ∈ Bs xs, u.oneCell' = true := by
  intro u hu
  obtain ⟨x, _, rfl⟩ := List.mem_map.1 hu
  rfl
theorem Bs_get (xs : List UInt8) (j : Nat) (u : Value) (h : (Bs xs)[j]? = some u) : ∃ x, xs[j]? = some x ∧ u = B8 x := by
  unfold Bs at h
  rw [List.getElem?_map] at h
  obtain ⟨x, hx, rfl⟩ := Option.map_eq_some_iff.1 h
  exact ⟨x, hx, rfl⟩

theorem u8_info : (Tryd.prog.info? 5).map (fun i => (i.zero, i.size, i.bytes)) = some (some (.int .u8 0), 1, 1) := by kernel_rfl

/-! ### What has changed -/
/-- Of the blocks that were there only such in S have changed. -/
structure Chg (w w' : World) (S : Nat → Prop) : Prop where
  os : w'.os = w.os
  tape : w'.tape = w.tape
  output : w'.output = w.output
  size : w.heap.size ≤ w'.heap.size
  block : ∀ k, k < w.heap.size → ¬ S k → w'.heap[k]? = w.heap[k]?

section
variable {a b c w w' : World} {S S' : Nat → Prop}
theorem Chg.refl (w : World) (S : Nat → Prop) : Chg w w S := ⟨rfl, rfl, rfl, Nat.le_refl _, fun _ _ _ => rfl⟩
theorem Chg.trans (h : Chg a b S) (k : Chg b c S') (hs : ∀ i, i < a.heap.size → S' i → S i) : Chg a c S :=
  ⟨k.os.trans h.os, k.tape.trans h.tape, k.output.trans h.output, Nat.le_trans h.size k.size,
    fun i hi hn => (k.block i (Nat.lt_of_lt_of_le hi h.size) (fun e => hn (hs i hi e))).trans (h.block i hi hn)⟩
theorem Chg.mono (h : Chg a b S) (hs : ∀ i, i < a.heap.size → S i → S' i) : Chg a b S' :=
  ⟨h.os, h.tape, h.output, h.size, fun i hi hn => h.block i hi (fun e => hn (hs i hi e))⟩
theorem Chg.drew (h : Chg a w S) : Chg a w.drew S := ⟨h.os, h.tape, h.output, h.size, h.block⟩
theorem Chg.drewN (h : Chg a w S) (n : Nat) : Chg a (w.drewN n) S := ⟨h.os, h.tape, h.output, h.size, h.block⟩
theorem Chg.alloc (h : Chg a w S) (o : Obj) : Chg a (w.alloc o) S :=
  ⟨h.os, h.tape, h.output, Nat.le_trans h.size (by simp), fun k hk hn => (Below.heap_alloc w o k (Nat.lt_of_lt_of_le hk h.size)).trans (h.block k hk hn)⟩
theorem Chg.setCell (h : Chg a w S) {p : Addr} (hp : p.block < a.heap.size → S p.block) (u : Value) : Chg a (w.setCell p u) S :=
  ⟨h.os, h.tape, h.output, by simpa [World.setCell] using h.size, fun k hk hn =>
    (Below.heap_setCell w p u k (by rintro rfl; exact hn (hp hk))).trans (h.block k hk hn)⟩
theorem Chg.grown (h : Chg a w S) {row : Option Nat} (hg : w.grownBy w' row) (hr : ∀ k, row = some k → k < a.heap.size → S k) : Chg a w' S :=
  h.trans (S' := fun k => row = some k) ⟨hg.os, hg.tape, hg.output, hg.size, fun k hk hn => hg.block k hk (fun e => hn e.symm)⟩ (fun i hi e => hr i e hi)
theorem Chg.of_below (h : Below w.heap.size w w') (S : Nat → Prop) : Chg w w' S := ⟨h.os, h.tape, h.output, h.size, fun k hk _ => h.block k hk⟩
theorem Chg.below (h : Chg w w' S) {B : Nat} (hB : B ≤ w.heap.size) (hS : ∀ k, k < B → ¬ S k) : Below B w w' :=
  ⟨h.os, h.tape, h.output, h.size, fun k hk => h.block k (by omega) (hS k hk)⟩
theorem Chg.cell (h : Chg w w' S) {p : Addr} {v : Value} (hc : w.cell? p = some v) (hp : ¬ S p.block) : w'.cell? p = some v :=
  (World.cell?_of_block (h.block p.block (World.block_lt_of_cell? _ _ hc) hp)).trans hc
end

/-! ### A block that is known whole -/
structure Blk (w : World) (g t : Nat) (cs : Array Value) : Prop where mk :: (out : w.heap[g]? = some (.cells cs t (0, 0)))

section
variable {w w' : World} {g t : Nat} {cs : Array Value}
theorem Blk.lt (h : Blk w g t cs) : g < w.heap.size := lt_of_block h.out
theorem Blk.cell (h : Blk w g t cs) (i : Nat) : w.cell? ⟨g, i, none⟩ = cs[i]? := cell_of_row w g i cs t (0, 0) h.out
theorem Blk.free (h : Blk w g t cs) (i : Nat) : w.frozen? ⟨g, i, none⟩ = false := by simp [World.frozen?, h.out]
theorem Blk.new (w : World) (t : Nat) (cs : Array Value) : Blk (w.alloc (.cells cs t)) w.heap.size t cs := ⟨heap_alloc_new w _⟩
theorem Blk.drew (h : Blk w g t cs) : Blk w.drew g t cs := ⟨h.out⟩
theorem Blk.drewN (h : Blk w g t cs) (n : Nat) : Blk (w.drewN n) g t cs := ⟨h.out⟩
theorem Blk.chg {S : Nat → Prop} (h : Blk w g t cs) (hc : Chg w w' S) (hS : ¬ S g) : Blk w' g t cs := ⟨(hc.block g h.lt hS).trans h.out⟩
theorem Blk.alloc (h : Blk w g t cs) (o : Obj) : Blk (w.alloc o) g t cs := h.chg ((Chg.refl w (fun _ => False)).alloc o) (fun h => h)
theorem Blk.set (h : Blk w g t cs) (i : Nat) (u : Value) : Blk (w.setCell ⟨g, i, none⟩ u) g t (cs.setIfInBounds i u) :=
  ⟨by simp [World.setCell, Array.getElem?_modify, h.out]⟩
theorem Blk.far (h : Blk w g t cs) {p : Addr} (hp : g ≠ p.block) (u : Value) : Blk (w.setCell p u) g t cs := ⟨(Below.heap_setCell w p u g hp).trans h.out⟩
theorem Blk.below {B : Nat} (h : Blk w g t cs) (hb : Below B w w') (hg : g < B) : Blk w' g t cs := ⟨(hb.block g hg).trans h.out⟩
theorem Blk.grown {row : Option Nat} (h : Blk w g t cs) (hb : w.grownBy w' row) (hg : some g ≠ row) : Blk w' g t cs := ⟨(hb.block g h.lt hg).trans h.out⟩
theorem Blk.ne {g' t' : Nat} {cs' : Array Value} (h : Blk w g t cs) (h' : Blk w g' t' cs') (hne : t ≠ t') : g ≠ g' := by
  rintro rfl
  have e := h.out
  rw [h'.out] at e
  injection e with e
  injection e with _ e
  exact hne e.symm
end

/-! ### A row of bytes of one's own -/
/-- v is nil and empty, or leads to the head of an unfrozen block of bytes whose first cells are xs. -/
structure Row (w : World) (v : Value) (xs : List UInt8) : Prop where mk :: (out : w.ownsRow 0 5 1 v xs.length (Bs xs))

section
variable {w w' : World} {v : Value} {xs : List UInt8} {S : Nat → Prop}
theorem Row.nil (w : World) : Row w (.slice none 0 0) [] := ⟨World.ownsRow_nil _ _ _ _⟩
theorem Row.form (h : Row w v xs) : (v = .slice none 0 0 ∧ xs = []) ∨ ∃ g cap cur, v = .slice (some ⟨g, 0, none⟩) xs.length cap ∧ Blk w g 5 cur ∧ xs.length ≤ cap ∧ cap ≤ maxLen ∧ cur.size = cap ∧ cur.toList.take xs.length = Bs xs := by
  obtain ⟨h1, h2⟩ := h.out
  rcases h2 with ⟨e1, e2⟩ | ⟨g, cap, cur, e, _, hb, h3, h4, h5, h6⟩
  · exact .inl ⟨e1, List.eq_nil_of_length_eq_zero e2⟩
  · exact .inr ⟨g, cap, cur, e, ⟨hb⟩, h3, h4, by simpa using h5, by simpa using h6⟩
theorem Row.of_form {g cap : Nat} {cur : Array Value} (hb : Blk w g 5 cur) (h1 : xs.length ≤ cap) (h2 : cap ≤ maxLen) (h3 : cur.size = cap) (h4 : cur.toList.take xs.length = Bs xs) : Row w (.slice (some ⟨g, 0, none⟩) xs.length cap) xs :=
  ⟨by simp [Bs_length], .inr ⟨g, cap, cur, rfl, Nat.zero_le _, hb.out, h1, h2, by simpa using h3, by simpa using h4⟩⟩
theorem Row.lt (h : Row w v xs) {k : Nat} (hk : v.ownBlock = some k) : k < w.heap.size := (h.out.lt k hk).2
theorem Row.chg (h : Row w v xs) (hc : Chg w w' S) (hS : ∀ k, v.ownBlock = some k → ¬ S k) : Row w' v xs := by
  rcases h.form with ⟨rfl, rfl⟩ | ⟨g, cap, cur, rfl, hb, h1, h2, h3, h4⟩
  · exact Row.nil _
  · exact Row.of_form (hb.chg hc (hS g rfl)) h1 h2 h3 h4
theorem Row.ne_blk {g t : Nat} {cs : Array Value} (h : Row w v xs) (hb : Blk w g t cs) (ht : t ≠ 5) : v.ownBlock ≠ some g := by
  rcases h.form with ⟨rfl, rfl⟩ | ⟨g', cap, cur, rfl, hb', _⟩
  · simp [Value.ownBlock]
  · intro e
    have : g' = g := by simpa [Value.ownBlock] using e
    subst this
    exact hb.ne hb' ht rfl
end

/-! ### A slice of bytes that is read -/
structure Rd (w : World) (A : Option Addr) (xs : List UInt8) : Prop where mk :: (out : 0 < xs.length → ∃ ad, A = some ad ∧ ∀ j u, xs[j]? = some u → w.cell? (ad.add j) = some (B8 u))

theorem block_add (a : Addr) (n : Nat) : (a.add n).block = a.block := by unfold Addr.add; split <;> rfl
theorem add_add (a : Addr) (i j : Nat) : (a.add i).add j = a.add (i + j) := by
  unfold Addr.add
  by_cases hi : i = 0 <;> by_cases hj : j = 0 <;> simp [hi, hj, Nat.add_assoc]

section
variable {w w' : World} {A : Option Addr} {xs : List UInt8} {S : Nat → Prop}
theorem Rd.nil (w : World) (A : Option Addr) : Rd w A [] := ⟨fun h => absurd h (by simp)⟩
theorem Rd.at {k : Nat} (h : Rd w A xs) (hk : k < xs.length) : ∃ ad, A = some ad ∧ ad.block < w.heap.size ∧ w.cell? (ad.add k) = some (B8 xs[k]) := by
  obtain ⟨ad, e, hc⟩ := h.out (by omega)
  have := hc k _ (List.getElem?_eq_getElem hk)
  exact ⟨ad, e, by rw [← block_add ad k]; exact World.block_lt_of_cell? _ _ this, this⟩
theorem Rd.chg (h : Rd w A xs) (hc : Chg w w' S) (hS : ∀ ad, A = some ad → 0 < xs.length → ¬ S ad.block) : Rd w' A xs :=
  ⟨fun hn => by
    obtain ⟨ad, e, hcell⟩ := h.out hn
    exact ⟨ad, e, fun j u hu => hc.cell (hcell j u hu) (by rw [block_add]; exact hS ad e hn)⟩⟩
theorem Rd.of_row {n c : Nat} (h : Row w (.slice A n c) xs) : Rd w A xs := by
  rcases h.form with ⟨e, rfl⟩ | ⟨g, cap, cur, e, hb, h1, h2, h3, h4⟩
  · exact Rd.nil _ _
  · injection e with e1 e2 e3
    subst e1
    refine ⟨fun hn => ⟨_, rfl, fun j u hu => ?_⟩⟩
    have hadd : (⟨g, 0, none⟩ : Addr).add j = ⟨g, j, none⟩ := by unfold Addr.add; split <;> simp_all
    rw [hadd, hb.cell]
    have hj : j < xs.length := (List.getElem?_eq_some_iff.1 hu).1
    have h5 : (cur.toList.take xs.length)[j]? = some (B8 u) := by rw [h4]; simp [Bs, hu]
    rw [List.getElem?_take, if_pos hj] at h5
    simpa using h5
theorem Rd.drop {k cap : Nat} (h : Rd w A xs) (hk : k ≤ xs.length) (hc : xs.length ≤ cap) : Rd w (if cap = k then A else A.map (·.add k)) (xs.drop k) :=
  ⟨fun hn => by
    rw [List.length_drop] at hn
    obtain ⟨ad, rfl, hcell⟩ := h.out (by omega)
    rw [if_neg (by omega)]
    refine ⟨_, rfl, fun j u hu => ?_⟩
    rw [add_add]
    exact hcell _ u (by rw [List.getElem?_drop] at hu; exact hu)⟩
theorem Rd.take (h : Rd w A xs) (k : Nat) : Rd w A (xs.take k) :=
  ⟨fun hn => by
    rw [List.length_take] at hn
    obtain ⟨ad, rfl, hcell⟩ := h.out (by omega)
    refine ⟨_, rfl, fun j u hu => hcell j u ?_⟩
    rw [List.getElem?_take] at hu
    split at hu
    · exact hu
    · cases hu⟩
end

/-! ### append onto a row of one's own, whatever the source -/
/-- The row of v' is that of v, or a new one. -/
def NewFoot (w : World) (v v' : Value) : Prop := ∀ k, v'.ownBlock = some k → v.ownBlock = some k ∨ w.heap.size ≤ k

theorem row_shape {w : World} {v : Value} {xs : List UInt8} (h : Row w v xs) : ∃ A c, v = .slice A xs.length c := by
  rcases h.form with ⟨rfl, rfl⟩ | ⟨g, cap, cur, rfl, _⟩
  · exact ⟨_, _, rfl⟩
  · exact ⟨_, _, rfl⟩

set_option maxRecDepth 10000 in
theorem run_app (w : World) (ty : TypeId) (v : Value) (xs : List UInt8) (hown : Row w v xs) (A : Option Addr) (c : Nat) (ys : List UInt8) (hr : Rd w A ys) (h63 : xs.length + ys.length ≤ 140737488355328) :
    ∃ A' c' w', (Builtin.append_ #[22, 22] ty #[v, .slice A ys.length c]).run Tryd.prog w = .ok (.slice A' (xs.length + ys.length) c') w' ∧
      Row w' (.slice A' (xs.length + ys.length) c') (xs ++ ys) ∧ Chg w w' (fun k => v.ownBlock = some k) ∧ NewFoot w v (.slice A' (xs.length + ys.length) c') := by
  obtain ⟨i0, hi, hz0, hz1, hz2⟩ := info_parts u8_info
  have key : ∀ (v' : Value) (w' : World), w'.ownsRow 0 5 1 v' (xs.length + ys.length) (Bs xs ++ Bs ys) → Row w' v' (xs ++ ys) := fun v' w' h => by
    refine ⟨?_⟩
    rw [Bs_append, List.length_append]
    exact h
  have chg : ∀ w' : World, w.grownBy w' v.ownBlock → Chg w w' (fun k => v.ownBlock = some k) := fun w' hg => (Chg.refl w _).grown hg fun k e _ => e
  rcases A with _ | ad
  · have hy : ys = [] := by
      rcases Nat.eq_zero_or_pos ys.length with h0 | h0
      · exact List.eq_nil_of_length_eq_zero h0
      · obtain ⟨ad, e, _⟩ := hr.out h0
        cases e
    subst hy
    have hx : (Builtin.append_ #[22, 22] ty #[v, .slice none 0 c]).run Tryd.prog w = .ok v w := by
      rcases hown.form with ⟨rfl, rfl⟩ | ⟨g, cap, cur, rfl, _, hnc, _⟩
      · simp [Builtin.append_, run_underlying Tryd.underlying22, sizeOf, typeInfo, hi, Builtin.lenOf, Builtin.firstCells]
      · simp [Builtin.append_, run_underlying Tryd.underlying22, sizeOf, typeInfo, hi, Builtin.lenOf, Builtin.firstCells, hnc, storeCells]
    obtain ⟨A', c', rfl⟩ := row_shape hown
    exact ⟨A', c', w, hx, by simpa using hown, Chg.refl _ _, fun k e => .inl e⟩
  · have hcells : ∀ j u, (Bs ys)[j]? = some u → w.cell? (ad.add j) = some u := by
      intro j u hu
      obtain ⟨x, hx, rfl⟩ := Bs_get _ _ _ hu
      have hj : j < ys.length := (List.getElem?_eq_some_iff.1 hx).1
      obtain ⟨ad', e, hc⟩ := hr.out (by omega)
      injection e with e
      subst e
      exact hc j x hx
    obtain ⟨v', w', hrun, h2, h3, _, h5⟩ := run_append_own_at (P := Tryd.prog) w 0 22 ty 5 i0 (.int .u8 0) 1 1 Tryd.underlying22 hi hz0 hz1 hz2 rfl (by decide) v xs.length (Bs xs) hown.out ad ys.length c (Bs ys)
      (by simp [Bs_length]) hcells (Bs_one _) (by unfold maxLen; omega) (by omega) (Nat.zero_le _)
    have hrow := key _ _ h2
    obtain ⟨A', c', hs⟩ := row_shape hrow
    rw [List.length_append] at hs
    subst hs
    refine ⟨A', c', w', hrun, hrow, chg _ h3, fun k e => ?_⟩
    rcases h5 with h5 | h5
    · exact .inl (by rw [← h5]; exact e)
    · rw [h5] at e
      injection e with e
      exact .inr (by omega)

theorem wp_app {w : World} {o : Oper} {a : Act} {K : Act → World → Prop} {Q : Exit → Act → World → Prop} (s x : Operand)
    (ho : o.op = .call { callee := .builtin .append, args := #[s, x], argTypes := #[22, 22] })
    (v : Value) (xs : List UInt8) (hs : a.eval s = v) (hown : Row w v xs) (A : Option Addr) (n c : Nat) (ys : List UInt8) (hn : ys.length = n) (hx : a.eval x = .slice A n c) (hr : Rd w A ys)
    (h63 : xs.length + n ≤ 140737488355328)
    (h : ∀ A' c' w', Row w' (.slice A' (xs.length + n) c') (xs ++ ys) → Chg w w' (fun k => v.ownBlock = some k) → NewFoot w v (.slice A' (xs.length + n) c') →
      K (a.put o.dst (.slice A' (xs.length + n) c')) w') : o.wp Tryd.prog a w K Q := by
  subst hn
  obtain ⟨A', c', w', hrun, h2, h3, h4⟩ := run_app w o.type v xs hown A c ys hr h63
  unfold Oper.wp execOp
  simp only [ho, resolve, invoke, builtin, Sem.run_bind, Sem.run_pure, Result.andThen_ok, List.map_toArray, List.map_cons, List.map_nil, hs, hx, hrun]
  exact h A' c' w' h2 h3 h4

theorem wpList_app {w : World} {ops : Array Oper} {rest : List Oper} {o : Oper} {a : Act} {Q : Exit → Act → World → Prop} (hgd : o.guard = none) (s x : Operand)
    (ho : o.op = .call { callee := .builtin .append, args := #[s, x], argTypes := #[22, 22] })
    (v : Value) (xs : List UInt8) (hs : a.eval s = v) (hown : Row w v xs) (A : Option Addr) (n c : Nat) (ys : List UInt8) (hn : ys.length = n) (hx : a.eval x = .slice A n c) (hr : Rd w A ys)
    (h63 : xs.length + n ≤ 140737488355328)
    (h : ∀ A' c' w', Row w' (.slice A' (xs.length + n) c') (xs ++ ys) → Chg w w' (fun k => v.ownBlock = some k) → NewFoot w v (.slice A' (xs.length + n) c') →
      wpList Tryd.prog ops Q rest (a.put o.dst (.slice A' (xs.length + n) c')) w') : wpList Tryd.prog ops Q (o :: rest) a w :=
  wpList_plain hgd fun _ hK => wp_app s x ho v xs hs hown A n c ys hn hx hr h63 fun A' c' w' h2 h3 h4 => hK _ _ (h A' c' w' h2 h3 h4)

theorem step_app {w : World} {ops : Array Oper} {o : Oper} {a : Act} {K : Act → World → Prop} {Q : Exit → Act → World → Prop} {E : Prop} (hgd : o.guard = none) (s x : Operand)
    (ho : o.op = .call { callee := .builtin .append, args := #[s, x], argTypes := #[22, 22] })
    (v : Value) (xs : List UInt8) (hs : a.eval s = v) (hown : Row w v xs) (A : Option Addr) (n c : Nat) (ys : List UInt8) (hn : ys.length = n) (hx : a.eval x = .slice A n c) (hr : Rd w A ys)
    (h63 : xs.length + n ≤ 140737488355328)
    (h : ∀ A' c' w', Row w' (.slice A' (xs.length + n) c') (xs ++ ys) → Chg w w' (fun k => v.ownBlock = some k) → NewFoot w v (.slice A' (xs.length + n) c') →
      K (a.put o.dst (.slice A' (xs.length + n) c')) w') : if Region.wanted o (yielded ops a.tmps) = true then Oper.wp Tryd.prog o a w K Q else E := by
  have hw : Region.wanted o (yielded ops a.tmps) = true := by simp [Region.wanted, hgd]
  rw [if_pos hw]
  exact wp_app s x ho v xs hs hown A n c ys hn hx hr h63 h

/-- The one byte that is appended lies in a block of its own. -/
theorem Rd.one {w : World} {g : Nat} {c : UInt8} {t : Nat} {fr : Nat × Nat} (h : w.heap[g]? = some (.cells #[.int .u8 (c.toNat : Int)] t fr)) : Rd w (some ⟨g, 0, none⟩) [c] :=
  ⟨fun _ => ⟨_, rfl, fun j u hu => by
    have hj : j < 1 := (List.getElem?_eq_some_iff.1 hu).1
    obtain rfl : j = 0 := by omega
    simp at hu
    subst hu
    simp [Addr.add, World.cell?, h, B8]⟩⟩

/-! ### Bytes as a string -/
def str (xs : List UInt8) : ByteArray := ⟨xs.toArray⟩
theorem str_toList (xs : List UInt8) : (str xs).toList = xs := by rw [Lib.toList_data]; rfl
theorem str_size (xs : List UInt8) : (str xs).size = xs.length := by simp [str, ByteArray.size]
theorem str_inj {xs ys : List UInt8} (h : str xs = str ys) : xs = ys := by rw [← str_toList xs, h, str_toList]
theorem str_data (s : ByteArray) : str s.data.toList = s := rfl

theorem conv_rd (w : World) (A : Option Addr) (c n : Nat) (xs : List UInt8) (hn : xs.length = n) (h : Rd w A xs) : (convert 22 9 (.slice A n c)).run Tryd.prog w = .ok (.string (str xs)) w := by
  subst hn
  rcases Nat.eq_zero_or_pos xs.length with h0 | h0
  · have hx : xs = [] := List.eq_nil_of_length_eq_zero h0
    subst hx
    rcases A with _ | ⟨b, o, sp⟩
    · exact run_convert_bytes_nil w 22 5 Tryd.underlying22 Tryd.underlying5 _ _ 9 Tryd.underlying9
    · rw [run_convert_bytes_string w 22 9 5 _ _ c Tryd.underlying22 Tryd.underlying5 Tryd.underlying9, run_bytesToString w ⟨b, o, sp⟩ _ c [] (by simp [loadCells, loadCellsFrom])]
      rfl
  · obtain ⟨ad, rfl, hc⟩ := h.out h0
    obtain ⟨b, o, sp⟩ := ad
    have h00 := hc 0 _ (List.getElem?_eq_getElem h0)
    have hsp : sp = none := by simpa [Addr.add] using World.cell?_spot h00
    subst hsp
    have e := run_convert_bytes_arg (P := Tryd.prog) w 22 5 Tryd.underlying22 Tryd.underlying5 b o xs.length c (xs.map fun x => (x.toNat : Int)) (by simp) (fun i hi => by
      have := hc i _ (List.getElem?_eq_getElem hi)
      have hadd : (⟨b, o, none⟩ : Addr).add i = ⟨b, o + i, none⟩ := by unfold Addr.add; split <;> simp_all
      rw [hadd] at this
      rw [this]
      simp [B8, List.getD, hi]) 9 Tryd.underlying9
    rw [e]
    simp [strOfNums, str, Function.comp_def]
end Go.Proofs.YtkbmajkoojgkpaaDoor
