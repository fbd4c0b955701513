/- ChunkNone's walk: what a nil body, and a zero one, answers. -/
import Derived.Test.YtkbmajkoojgkpaaBegun
namespace Go.Proofs.Ytkbmajkoojgkpaa
open Go.RowKit

theorem ret_true {b : Bool} (h : b = true) : Ending.returned (.bool b) = .returned (.bool true) := by rw [h]
theorem Chg.low {w w' : World} (h : Chg w w' (fun _ => False)) : Below w.heap.size w w' := h.below (Nat.le_refl _) (fun _ _ => id)

set_option maxHeartbeats 1000000 in
theorem none_walk (w : World) : Calls Try.prog 5 #[] w fun e w' => e = .returned (.bool true) ∧ Below w.heap.size w w' := by
  have hb : Body (w.alloc (.cells (cellsOf (st0 0 0) (.slice none 0 0)) 37)) w.heap.size (.slice none 0 0) (st0 0 0) := ⟨Blk.new w _ _, Row.nil _⟩
  go_enter Try.func5, Try.ntmps5
  go_wp2_with fail
  refine (nil_feed _ _ _ _).mono ?_
  rintro e w1 ⟨rfl, rfl⟩
  go_wp2_with fail
  refine (zero_feed _ _ (st0 0 0) _ _ _ _ ((hb.chg ((Chg.refl _ (fun _ => False)).alloc _) (fun _ _ => id)).chg ((Chg.refl _ (fun _ => False)).alloc _) (fun _ _ => id)) rfl).mono ?_
  rintro e w1 ⟨rfl, rfl⟩
  go_wp2_with fail
  refine (begun_any _).mono ?_
  rintro e w1 ⟨rfl, hc1⟩
  have hb1 := ((hb.chg ((Chg.refl _ (fun _ => False)).alloc (.cells #[.int .u8 1] 5)) (fun _ _ => id)).chg ((Chg.refl _ (fun _ => False)).alloc (.cells #[.int .u8 1] 5)) (fun _ _ => id)).chg hc1 (fun _ _ => id)
  go_wp2_with fail
  refine (nil_done _).mono ?_
  rintro e w2 ⟨rfl, rfl⟩
  go_wp2_with fail
  refine (done_any _ _ _ _ hb1).mono ?_
  rintro e w2 ⟨rfl, rfl⟩
  go_wp2_with fail
  refine (nil_data _).mono ?_
  rintro e w2 ⟨rfl, rfl⟩
  go_wp2_with fail
  refine (data_any _ _ _ _ hb1 (by decide)).mono ?_
  rintro e w2 ⟨A, c, rfl, hr, hc, hf⟩
  go_wp2_with fail
  go_ret
  exact ⟨ret_true (by simp [st0, wrap64]), (((((Chg.refl w _).alloc _).alloc _).alloc _).trans hc1 (fun _ _ => id) |>.trans hc (fun _ _ => id)).low⟩
end Go.Proofs.Ytkbmajkoojgkpaa
