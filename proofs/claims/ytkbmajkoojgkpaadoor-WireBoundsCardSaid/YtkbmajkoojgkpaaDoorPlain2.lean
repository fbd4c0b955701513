/- What always holds of a state of chunk's decoder. -/
import Derived.Test.YtkbmajkoojgkpaaDoorPlain
namespace Go.Proofs.YtkbmajkoojgkpaaDoor

theorem want_ok {s : St} (h : s.Ok) {c m nx : Int} (hx : nx = 3 ∨ nx = 6 ∨ nx = 8 ∨ nx = 9 ∨ (nx = 2 ∧ s.left = 0 ∧ s.digits = 0)) (hn : s.next = 2 ∨ 5 ≤ s.next) (hf : nx = 6 → s.left = 0 ∧ s.digits = 0) :
    ({ (wantF s c m nx).2 with bad := (wantF s c m nx).1 } : St).Ok := by
  unfold wantF
  split
  · refine ⟨?_, ?_, h.l0, h.l1, h.d0, h.d8, h.g, ?_, ?_, by simp, by simp, ?_, ?_⟩ <;> simp only
    · omega
    · omega
    · intro h1; omega
    · intro h1
      rcases hx with rfl | rfl | rfl | rfl | ⟨_, h2, h3⟩ <;> try omega
      rw [h2, h3]; decide
    · intro h1; exact hf (by omega)
    · intro h1; omega
  · exact ⟨h.n0, h.n9, h.l0, h.l1, h.d0, h.d8, h.g, h.room, h.size, by simp, by simp, h.fresh, h.dig⟩

theorem pow16 (d : Int) (h0 : 0 ≤ d) (h8 : d < 8) : (16 : Int) ^ (d + 1).toNat = 16 ^ d.toNat * 16 ∧ (16 : Int) ^ (d + 1).toNat ≤ 4294967296 := by
  have : d = 0 ∨ d = 1 ∨ d = 2 ∨ d = 3 ∨ d = 4 ∨ d = 5 ∨ d = 6 ∨ d = 7 := by omega
  rcases this with rfl | rfl | rfl | rfl | rfl | rfl | rfl | rfl <;> decide

theorem step_ok {s : St} (h : s.Ok) (c : UInt8) : (stepF s c).Ok := by
  unfold stepF takeF
  split
  · rename_i h1
    have hr := h.room h1
    unfold dataF
    refine ⟨?_, ?_, ?_, ?_, h.d0, h.d8, ?_, ?_, ?_, by simp, by simp, ?_, ?_⟩ <;> simp only
    · split
      · exact h.n0
      · split <;> omega
    · split
      · exact h.n9
      · split <;> omega
    · omega
    · have := h.l1; omega
    · simp only [List.length_append, List.length_cons, List.length_nil]; omega
    · intro h2
      simp only [List.length_append, List.length_cons, List.length_nil]
      split at h2
      · omega
      · split at h2 <;> omega
    · intro h2
      split at h2
      · omega
      · split at h2 <;> omega
    · intro h2
      split at h2
      · omega
      · split at h2
        · omega
        · exact ⟨by omega, h.dig (by omega)⟩
    · intro h2
      split at h2
      · exact h.dig h2
      · split at h2 <;> omega
  split
  · rename_i h1 h2
    unfold sizeF
    split
    · rename_i n hn
      have hv := digV_range hn
      split
      · rename_i h8
        obtain ⟨e1, e2⟩ := pow16 s.digits h.d0 h8
        have hs := h.size h2
        have h0 := h.l0
        have hd0 := h.d0
        refine ⟨h.n0, h.n9, ?_, ?_, ?_, ?_, h.g, ?_, ?_, by simp, by simp, ?_, ?_⟩ <;> simp only
        · omega
        · omega
        · omega
        · omega
        · intro h3; omega
        · intro h3; omega
        · intro h3; omega
        · intro h3; omega
      · exact want_ok h (by omega) (by omega) (by omega)
    · split
      · exact ⟨h.n0, h.n9, h.l0, h.l1, h.d0, h.d8, h.g, h.room, h.size, by simp, by simp, h.fresh, h.dig⟩
      · exact want_ok h (by omega) (by omega) (by omega)
  split
  · rename_i h1 h2 h3
    have h0 := h.l0
    have h4 := h.l1
    have h5 := h.g
    unfold lineF
    split
    · split
      · refine ⟨h.n0, h.n9, h.l0, h.l1, ?_, ?_, h.g, ?_, ?_, by simp, by simp, ?_, ?_⟩ <;> simp only <;> first | omega | (intro h6; first | omega | rfl)
      · split
        · refine ⟨?_, ?_, h.l0, h.l1, ?_, ?_, h.g, ?_, ?_, by simp, by simp, ?_, ?_⟩ <;> simp only <;> first | omega | (intro h6; first | omega | rfl)
        · refine ⟨?_, ?_, h.l0, h.l1, ?_, ?_, h.g, ?_, ?_, by simp, by simp, ?_, ?_⟩ <;> simp only <;> first | omega | (intro h6; first | omega | rfl)
    · refine ⟨h.n0, h.n9, h.l0, h.l1, ?_, ?_, h.g, ?_, ?_, by simp, by simp, ?_, ?_⟩ <;> simp only <;> first | omega | (intro h6; first | omega | rfl)
  split
  · rename_i h1 h2 h3 h4
    exact want_ok h (by omega) (by omega) (fun _ => h.fresh (by omega))
  split
  · exact want_ok h (by have := h.fresh; omega) (by omega) (by omega)
  split
  · exact want_ok h (by omega) (by omega) (by omega)
  split
  · exact want_ok h (by omega) (by omega) (by omega)
  · exact ⟨h.n0, h.n9, h.l0, h.l1, h.d0, h.d8, h.g, h.room, h.size, by simp, by simp, h.fresh, h.dig⟩

theorem feed_ok : ∀ (xs : List UInt8) {s : St}, s.Ok → (feedL s xs).2.Ok
  | [], _, h => h
  | c :: cs, s, h => by
    unfold feedL
    split
    · exact feed_ok cs (step_ok h c)
    · exact h
end Go.Proofs.YtkbmajkoojgkpaaDoor
