/- Words for slices of strings. -/
import Derived.Test.YtkbmajkoojgkpaaDoorPieces
namespace Go.Proofs.YtkbmajkoojgkpaaDoor
open Go.RowKit

theorem st_info : (Tryd.prog.info? 9).map (fun i => (i.zero, i.size, i.bytes)) = some (some (.string ⟨#[]⟩), 1, 16) := by kernel_rfl

/-- A row of strings of one's own. -/
structure RowT (w : World) (v : Value) (us : List Value) : Prop where mk :: (out : w.ownsRow 0 9 1 v us.length us)
theorem RowT.nil (w : World) : RowT w (.slice none 0 0) [] := ⟨World.ownsRow_nil _ _ _ _⟩
theorem RowT.lt {w : World} {v : Value} {us : List Value} (h : RowT w v us) {k : Nat} (hk : v.ownBlock = some k) : k < w.heap.size := (h.out.lt k hk).2
theorem RowT.shape {w : World} {v : Value} {us : List Value} (h : RowT w v us) : ∃ A c, v = .slice A us.length c := by
  rcases h.out.2 with ⟨rfl, h0⟩ | ⟨g, cap, cur, rfl, _⟩
  · rw [h0]; exact ⟨_, _, rfl⟩
  · exact ⟨_, _, rfl⟩
theorem RowT.chg {w w' : World} {v : Value} {us : List Value} {S : Nat → Prop} (h : RowT w v us) (hc : Chg w w' S) (hS : ∀ k, v.ownBlock = some k → ¬ S k) : RowT w' v us := by
  refine ⟨h.out.1, ?_⟩
  rcases h.out.2 with h0 | ⟨g, cap, cur, rfl, hb, hg, r⟩
  · exact .inl h0
  · exact .inr ⟨g, cap, cur, rfl, hb, (hc.block g (lt_of_block hg) (hS g rfl)).trans hg, r⟩

theorem RdV.of_rowT {w : World} {A : Option Addr} {n c : Nat} {us : List Value} (h : RowT w (.slice A n c) us) : RdV w A us := by
  rcases h.out.2 with ⟨e, h0⟩ | ⟨g, cap, cur, e, hb, hg, r⟩
  · exact ⟨fun hn => by omega⟩
  · injection e with e1 e2 e3
    subst e1
    exact ⟨fun hn => ⟨_, rfl, h.out.cells (g := g) rfl⟩⟩

theorem wpList_appT {w : World} {ops : Array Oper} {rest : List Oper} {o : Oper} {a : Act} {Q : Exit → Act → World → Prop} (hgd : o.guard = none) (s x : Operand)
    (ho : o.op = .call { callee := .builtin .append, args := #[s, x], argTypes := #[46, 46] })
    (v : Value) (us : List Value) (hs : a.eval s = v) (hown : RowT w v us) (g c : Nat) (u : Value) (hx : a.eval x = .slice (some ⟨g, 0, none⟩) 1 c) (hg : w.cell? ⟨g, 0, none⟩ = some u) (h1 : u.oneCell' = true)
    (h63 : us.length ≤ 1073741824)
    (h : ∀ A' c' w', RowT w' (.slice A' (us.length + 1) c') (us ++ [u]) → Chg w w' (fun k => v.ownBlock = some k) → NewFoot w v (.slice A' (us.length + 1) c') →
      wpList Tryd.prog ops Q rest (a.put o.dst (.slice A' (us.length + 1) c')) w') : wpList Tryd.prog ops Q (o :: rest) a w := by
  obtain ⟨i0, hi, hz0, hz1, hz2⟩ := info_parts st_info
  refine wpList_append_own_at w hgd s x 46 ho 0 9 i0 (.string ⟨#[]⟩) 1 16 Tryd.underlying46 hi hz0 hz1 hz2 rfl (by decide) v us.length us hs hown.out ⟨g, 0, none⟩ 1 c [u] hx (by rfl) ?_ ?_ (by unfold maxLen; omega) (by omega) (Nat.zero_le _) ?_
  · intro j y hy
    have hj : j < 1 := (List.getElem?_eq_some_iff.1 hy).1
    obtain rfl : j = 0 := by omega
    simp at hy
    subst hy
    simpa [Addr.add] using hg
  · intro y hy
    simp at hy
    subst hy
    exact h1
  · intro v' w' hown' hgrow _ hat
    have hrow : RowT w' v' (us ++ [u]) := ⟨by rw [List.length_append]; exact hown'⟩
    obtain ⟨A', c', hv⟩ := hrow.shape
    rw [List.length_append] at hv
    change v' = .slice A' (us.length + 1) c' at hv
    subst hv
    refine h A' c' w' hrow ((Chg.refl w _).grown hgrow fun k e _ => e) fun k e => ?_
    rcases hat with hat | hat
    · exact .inl (by rw [← hat]; exact e)
    · rw [hat] at e
      injection e with e
      exact .inr (by omega)

end Go.Proofs.YtkbmajkoojgkpaaDoor
