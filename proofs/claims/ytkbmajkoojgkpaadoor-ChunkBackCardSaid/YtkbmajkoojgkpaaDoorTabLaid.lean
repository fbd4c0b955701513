/- From the listed tables to the one cell that is read; the world of the witness. -/
import Derived.Test.YtkbmajkoojgkpaaDoorRows
import Derived.Test.YtkbmajkoojgkpaaDoorHex
import Derived.ProofKit
import Derived.LaidMore
import Derived.OpenShut
import Derived.Stop.Joined
namespace Go.Proofs.YtkbmajkoojgkpaaDoor
open Go.ChangeShapes Go.WideShapes Go.ChangeAt Go.RowKit

def laid3 : List (String × DataW Unit) := [("math/bits.deBruijn32tab", Rows.laid_math_bits_deBruijn32tab), ("math/bits.deBruijn64tab", Rows.laid_math_bits_deBruijn64tab), ("internal/strconv.uint64pow10", Rows.laid_internal_strconv_uint64pow10)]

theorem door_met (os : Os) (args : Array Value) : laidMetH Tryd.prog laid3 ((World.doorLaid Tryd.prog 34 os).forCall (fun _ _ => 0) ⟨#[], args, []⟩).memory :=
  laidMetH_of_parts3 (fuel := 8) (laidMet_of_run' 8 (by kernel_rfl) (by kernel_rfl)) (by kernel_rfl) (by kernel_rfl)

theorem g32 : Tryd.prog.globalNamed "math/bits.deBruijn32tab" = some 4 := by kernel_rfl
theorem g64 : Tryd.prog.globalNamed "math/bits.deBruijn64tab" = some 5 := by kernel_rfl
theorem t64 : (Tryd.prog.globals[5]?).map (·.type) = some 152 := by kernel_rfl

set_option maxRecDepth 100000 in
theorem tab_of_laid {W : World} (h : laidMetH Tryd.prog laid3 W) : Tab W := by
  rw [MakeChecks.laidMetH_plain _ _ _ (by kernel_rfl)] at h
  obtain ⟨ps, ⟨g0, t0, cs0, f0, p0, q0, hg0, ht0, hv0, hd0, ⟨g1, t1, cs1, f1, p1, q1, hg1, ht1, hv1, hd1, _⟩, _⟩, _, _⟩ := h
  obtain rfl := Option.some.inj (g64.symm.trans hg1)
  obtain rfl := Option.some.inj (t64.symm.trans ht1)
  obtain ⟨xs, m1, rfl, hx1, hlen, hn3, hel⟩ := DataW.trod_array Tryd.underlying152 hd1
  have c5 : Tryd.prog.cellsOf 5 = 1 := by kernel_rfl
  have hagg : Rows.laid_math_bits_deBruijn64tab = DataW.agg (xs.map (·.1)) := congrArg Prod.fst hx1
  have h15 : (xs.map (·.1))[15]? = some (DataW.lit (.int .u8 4)) := by
    unfold Rows.laid_math_bits_deBruijn64tab at hagg
    injection hagg with hagg
    rw [← hagg]
    rfl
  rw [List.getElem?_map] at h15
  obtain ⟨x15, hx15, e15⟩ := Option.map_eq_some_iff.1 h15
  have h := hel 15 (by decide)
  rw [hx15, c5] at h
  obtain ⟨k, e1, e2, _⟩ := DataW.trod_int Tryd.underlying5 h
  have hk : k = 4 := by rw [e2] at e15; simpa using e15
  subst hk
  refine ⟨?_⟩
  rw [World.var?_cell hg1 hv1 15]
  have := congrArg (fun l : List Value => l[0]?) e1
  simpa [List.getElem?_take, List.getElem?_drop] using this
end Go.Proofs.YtkbmajkoojgkpaaDoor
