/- The walk of ChunkWrites. -/
import Derived.Test.YtkbmajkoojgkpaaDoorWriteRef
import Derived.Test.YtkbmajkoojgkpaaDoorTwin
import Derived.Deep.RegionWith
namespace Go.Proofs.YtkbmajkoojgkpaaDoor
open Go.RowKit

set_option maxHeartbeats 4000000 in
set_option maxRecDepth 100000 in
theorem writesW (A : Option Addr) (n c : Nat) (xs : List UInt8) (sz : Int) (w : World) (hn : xs.length = n) (hx : Rd w A xs) (hnc : n ≤ c) (hc : c ≤ 9223372036854775807) (ht : Tab w) (hsz : sz ≤ 9223372036854775807) :
    Calls Tryd.prog 3 #[.slice A n c, .int .i64 sz] w fun e w' => e = .returned (.bool true) ∧ Chg w w' (fun _ => False) := by
  subst hn
  go_enter Tryd.func3, Tryd.ntmps3
  go_wp2_with fail
  refine (begun_any _).mono ?_
  rintro e w1 ⟨rfl, hc1⟩
  by_cases hlong : xs.length ≤ 8192
  · have hx1 := hx.chg hc1 (fun _ _ _ h => h)
    have hs1 := hc1.size
    go_wp2_with fail
    refine (twin_any A _ c xs w1 rfl hx1 (by omega)).mono ?_
    rintro e w2 ⟨rfl, hb2, hc2⟩
    have hc02 := hc1.trans hc2 (fun _ _ h => h)
    have hs2 := hc2.size
    go_wp2_with fail
    refine (chunks_any _ xs.length (xs.length + 3) sz xs w2 rfl (Rd.of_row (twin_row hb2 (by omega))) (by omega) (by omega) (by omega) (ht.chg hc02 id) hsz).mono ?_
    rintro e w3 ⟨A3, c3, rfl, hr3, hc3, hf3⟩
    obtain ⟨B, hB⟩ : ∃ B, B = chunkW sz.toNat xs ++ lastW := ⟨_, rfl⟩
    rw [← hB] at hr3 hf3 ⊢
    have hb3 := hb2.chg hc3 id
    have hc03 := hc02.trans hc3 (fun _ _ h => h)
    have hx3 := hx.chg hc03 (fun _ _ _ h => h)
    have hcv1 := conv_rd w3.drew A3 c3 _ B rfl (Rd.of_row (hr3.chg (Chg.refl w3 (fun _ => False)).drew (fun _ _ => id)))
    have hrc := ref_chunks_any A xs.length c sz xs w3.drew rfl (hx3.chg (Chg.refl w3 (fun _ => False)).drew (fun _ _ _ => id)) hnc hc (by omega) hsz
    rw [← hB] at hrc
    have HB := Lib.hid hB
    clear hB
    go_wp2_with fail
    go_region_with (first
      | (go_at_call 17; refine hrc.mono ?_; rintro e w4 ⟨A4, c4, rfl, hr4, hc4, hf4⟩; have hc34 : Chg w3 w4 (fun _ => False) := ((Chg.refl w3 _).drew).trans hc4 (fun _ _ h => h); have hcv2 := conv_rd w4 A4 c4 _ B rfl (Rd.of_row hr4); have hcv3 := conv_rd w4 A3 c3 _ B rfl (Rd.of_row (hr3.chg hc34 (fun _ _ => id))))
      | (go_at_call 18; refine (kept_any w1.heap.size A xs.length c xs _ rfl (hb3.chg hc34 id) (hx3.chg hc34 (fun _ _ _ => id)) (by omega)).mono ?_; rintro e w5 ⟨rfl, rfl⟩))
    all_goals
      go_wp2_with fail
      refine (spoil_any _ B w4 (hr3.chg hc34 (fun _ _ => id))).mono ?_
      rintro e w6 ⟨rfl, hc6⟩
      have hc36 : Chg w2 w6 (fun _ => False) := (hc3.trans hc34 (fun _ _ h => h)).trans hc6 (fun i hi e => by
        rcases hf3 i e with h | h
        · simp [Value.ownBlock] at h
        · omega)
      have hb6 := hb2.chg hc36 id
      have hc06 := hc02.trans hc36 (fun _ _ h => h)
      have hcv4 := conv_rd w6 _ (xs.length + 3) _ xs rfl (Rd.of_row (twin_row hb6 (by omega)))
      have hcv5 := conv_rd w6 A c _ xs rfl (hx.chg hc06 (fun _ _ _ h => h))
      go_wp2
      go_ret
      exact ⟨rfl, hc06⟩
  · go_wp2
    go_ret
    exact ⟨rfl, hc1⟩
end Go.Proofs.YtkbmajkoojgkpaaDoor
