/- Arguments of a statement opened into the words of the walks. -/
import Derived.Test.YtkbmajkoojgkpaaDoorPieces
import Derived.ProofKit
import Derived.OpenShut
import Derived.ChangeOld
namespace Go.Proofs.YtkbmajkoojgkpaaDoor
open Go.ChangeShapes Go.WideShapes Go.ChangeAt Go.RowKit

section
variable {H : Type} {enc : TypeId × Value → H} {W : World} {base : Nat} {spare : Nat → Bool} {held : Bool}

theorem b8_of {z : Int} (h : (Lit.int .u8 z).wf = true) : B8 (UInt8.ofNat z.toNat) = .int .u8 z := by
  have h0 : 0 ≤ z ∧ z ≤ 255 := by simpa [Lit.wf, IntKind.min, IntKind.max, IntKind.signed, IntKind.bits] using h
  unfold B8
  congr 1
  simp
  omega

theorem open_bytes {a : Option Addr} {len cap fuel : Nat} {x : DataW H × List MemPlace} (h : DataW.trod enc Tryd.prog W base spare held fuel 22 [.slice a len cap] = some x) :
    ∃ xs : List UInt8, xs.length = len ∧ len ≤ cap ∧ cap ≤ 9223372036854775807 ∧ Rd W a xs := by
  rcases open_ints Tryd.underlying22 Tryd.underlying5 (by kernel_rfl) h with ⟨hcs, _⟩ | ⟨x, l, c, zs, hcs, _, hl, hm, hz, _, hcell, hwz⟩
  · simp at hcs
    obtain ⟨rfl, rfl, rfl⟩ := hcs
    exact ⟨[], rfl, Nat.le_refl _, by omega, Rd.nil _ _⟩
  · simp at hcs
    obtain ⟨rfl, rfl, rfl⟩ := hcs
    have hlz : len ≤ zs.length := by rw [hz]; split <;> omega
    refine ⟨(zs.take len).map fun z => UInt8.ofNat z.toNat, by simp; omega, hl, by unfold maxLen at hm; omega, ⟨fun _ => ⟨x, rfl, fun j u hu => ?_⟩⟩⟩
    have hj : j < len := by
      have := (List.getElem?_eq_some_iff.1 hu).1
      simp at this
      omega
    have hjz : j < zs.length := by omega
    rw [List.getElem?_map, List.getElem?_take, if_pos hj, List.getElem?_eq_getElem hjz] at hu
    simp at hu
    subst hu
    rw [hcell j hjz, b8_of (hwz _ (List.getElem_mem hjz))]
    simp [List.getD, hjz]

theorem open_numbers {a : Option Addr} {len cap fuel : Nat} {x : DataW H × List MemPlace} (h : DataW.trod enc Tryd.prog W base spare held fuel 29 [.slice a len cap] = some x) :
    ∃ zs : List Int, zs.length = len ∧ RdI W a zs := by
  rcases open_ints Tryd.underlying29 Tryd.underlying3 (by kernel_rfl) h with ⟨hcs, _⟩ | ⟨x, l, c, zs, hcs, _, hl, hm, hz, _, hcell, hwz⟩
  · simp at hcs
    obtain ⟨rfl, rfl, rfl⟩ := hcs
    exact ⟨[], rfl, ⟨fun h => absurd h (by simp)⟩⟩
  · simp at hcs
    obtain ⟨rfl, rfl, rfl⟩ := hcs
    have hlz : len ≤ zs.length := by rw [hz]; split <;> omega
    refine ⟨zs.take len, by simp; omega, ⟨fun _ => ⟨x, rfl, fun j u hu => ?_⟩⟩⟩
    have hj : j < len := by
      have := (List.getElem?_eq_some_iff.1 hu).1
      simp at this
      omega
    have hjz : j < zs.length := by omega
    rw [List.getElem?_take, if_pos hj, List.getElem?_eq_getElem hjz] at hu
    simp at hu
    subst hu
    rw [hcell j hjz]
    simp [List.getD, hjz]
end
end Go.Proofs.YtkbmajkoojgkpaaDoor
