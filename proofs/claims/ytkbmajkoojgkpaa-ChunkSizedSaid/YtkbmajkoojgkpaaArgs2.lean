/- A slice of slices of bytes, opened into the words of the walks. -/
import Derived.Test.YtkbmajkoojgkpaaArgs
import Derived.Deep.Slices
namespace Go.Proofs.Ytkbmajkoojgkpaa
open Go.ChangeShapes Go.WideShapes Go.ChangeAt Go.RowKit

section
variable {H : Type} {enc : TypeId × Value → H} {W : World} {base : Nat} {spare : Nat → Bool} {held : Bool}

theorem open_piece {v : Value} {fuel : Nat} {x : DataW H × List MemPlace} (hw : ∃ A n c, v = .slice A n c) (h : DataW.trod enc Try.prog W base spare held fuel 27 [v] = some x) :
    ∃ p : List UInt8, IsPiece W (fun k => k < W.heap.size) v p := by
  obtain ⟨A, n, c, rfl⟩ := hw
  obtain ⟨xs, rfl, hc, hm, hx⟩ := open_bytes h
  refine ⟨xs, A, c, rfl, hc, by unfold maxLen; omega, ⟨hx, fun ad e hn => ?_⟩⟩
  obtain ⟨ad', e', hlt, _⟩ := hx.at hn
  rw [e] at e'
  injection e' with e'
  subst e'
  exact hlt

theorem trod_slice_form {t e : TypeId} {v : Value} {fuel : Nat} {x : DataW H × List MemPlace} (ht : Try.prog.underlying t = some (.slice e)) (h : DataW.trod enc Try.prog W base spare held fuel t [v] = some x) : ∃ A n c, v = .slice A n c := by
  rcases Go.Deep.open_slice ht h with ⟨h0, _⟩ | ⟨a, len, cap, m, n, D, Pl, h0, _⟩
  · simp at h0; exact ⟨_, _, _, h0⟩
  · simp at h0; exact ⟨_, _, _, h0⟩

theorem open_pieces {a : Option Addr} {len cap fuel : Nat} {x : DataW H × List MemPlace} (h : DataW.trod enc Try.prog W base spare held fuel 22 [.slice a len cap] = some x) :
    ∃ us ps, us.length = len ∧ RdV W a us ∧ Pcs W (fun k => k < W.heap.size) us ps := by
  rcases Go.Deep.open_slice1 Try.underlying22 (by kernel_rfl) h with ⟨hcs, _⟩ | ⟨x, l, c, m, n, V, D, Pl, hcs, _, hl, hm, hmm, _, hx⟩
  · simp at hcs
    obtain ⟨rfl, rfl, rfl⟩ := hcs
    exact ⟨[], [], rfl, ⟨fun h => absurd h (by simp)⟩, Pcs.nil _ _⟩
  · simp at hcs
    obtain ⟨rfl, rfl, rfl⟩ := hcs
    have hlm : len ≤ m := by rw [hmm]; split <;> omega
    obtain ⟨f, hf⟩ := Go.Deep.choose_lt (α := List UInt8) (p := fun i p => IsPiece W (fun k => k < W.heap.size) (V i) p) (n := len) (fun i hi => by
      obtain ⟨h1, h2⟩ := hx i (by omega)
      exact open_piece (trod_slice_form Try.underlying27 h2) h2)
    refine ⟨(List.range len).map V, (List.range len).map f, by simp, ⟨fun _ => ⟨x, rfl, fun j u hu => ?_⟩⟩, ⟨by simp, fun j u p hu hp => ?_⟩⟩
    · have hj : j < len := by have := (List.getElem?_eq_some_iff.1 hu).1; simpa using this
      simp [hj] at hu
      subst hu
      exact (hx j (by omega)).1
    · have hj : j < len := by have := (List.getElem?_eq_some_iff.1 hu).1; simpa using this
      simp [hj] at hu hp
      subst hu hp
      exact hf j hj
end
end Go.Proofs.Ytkbmajkoojgkpaa
