/- The walk of WireNone: what a nil wire, and a zero one, answers. -/
import Derived.Test.YtkbmajkoojgkpaaDoorWBegun
namespace Go.Proofs.YtkbmajkoojgkpaaDoor
open Go.RowKit

def zeroSt : WSt := { next := 0, line := [], m := [], t := [], fs := [], keep := false, bd := sN 0 0 0 [] }
set_option maxHeartbeats 2000000 in
set_option maxRecDepth 100000 in
theorem wnoneW (m : Int) (w : World) (hm : MaxL w m) : Calls Tryd.prog 13 #[] w fun e w' => e = .returned (.bool true) ∧ Chg w w' (fun _ => False) := by
  have hz : Wire (w.alloc (.cells (wireCells 0 (.slice none 0 0) [] [] (.slice none 0 0) false none) 68)) (newAt w.heap.size) zeroSt := ⟨Blk.new w _ _, Row.nil _, RowG.nil _ _ _, (fun h => by simp [zeroSt] at h), fun _ => ⟨rfl, rfl⟩⟩
  have hlt := hz.blk.lt
  simp only [newAt] at hlt
  go_enter Tryd.func13, Tryd.ntmps13
  go_wp2_with fail
  refine (wfeed_nil _ _ _ _).mono ?_
  rintro e w1 ⟨rfl, rfl⟩
  go_wp2_with fail
  have hz1 := hz.chg ((Chg.refl _ (fun _ => False)).alloc (.cells #[.int .u8 1] 5)) (fun _ _ => id)
  refine (wfeed_zero _ _ _ _ _ (hz1.blk.cell 0)).mono ?_
  rintro e w1 ⟨rfl, rfl⟩
  go_wp2_with fail
  refine (begun24_any m _ (hm.chg (((Chg.refl w (fun _ => False)).alloc _).alloc _) id)).mono ?_
  rintro e w1 ⟨rfl, hc1⟩
  have hz2 := hz1.chg hc1 (fun _ _ => id)
  have hov := over_any _ zeroSt w1 hz2 (by decide) (by decide)
  have hov2 : zeroSt.over = true := rfl
  rw [hov2] at hov
  simp only [newAt] at hov
  go_wp2_with (first
    | (go_at_call_of 41 (Value.pointer none); refine (over_nil _).mono ?_; rintro e w3 ⟨rfl, rfl⟩)
    | (go_at_call 41; refine hov.mono ?_; rintro e w3 ⟨rfl, rfl⟩))
  go_ret
  exact ⟨rfl, (((Chg.refl w _).alloc _).alloc _).trans hc1 (fun _ _ => id)⟩
end Go.Proofs.YtkbmajkoojgkpaaDoor
