/- The walk of ChunkBounds. -/
import Derived.Test.YtkbmajkoojgkpaaDoorWrite
import Derived.Test.YtkbmajkoojgkpaaDoorPlain8
import Derived.Test.YtkbmajkoojgkpaaDoorTwin
import Derived.Deep.RegionWith
namespace Go.Proofs.YtkbmajkoojgkpaaDoor
open Go.RowKit

theorem zeros_row (n : Nat) (w : World) (hn : n ≤ 1000000000) : Row (w.alloc (.cells (zeros n).toArray 5)) (.slice (some ⟨w.heap.size, 0, none⟩) n n) (List.replicate n 0) := by
  have := Row.of_form (w := w.alloc (.cells (zeros n).toArray 5)) (xs := List.replicate n 0) (Blk.new w 5 (zeros n).toArray) (cap := n) (by simp) (by unfold maxLen; omega) (by simp [zeros]) (by simp [zeros, Bs]; right; rfl)
  simpa using this

set_option maxHeartbeats 4000000 in
set_option maxRecDepth 100000 in
theorem boundsW (n sz : Int) (w : World) (ht : Tab w) :
    Calls Tryd.prog 5 #[.int .i64 n, .int .i64 sz] w fun e w' => e = .returned (.bool true) ∧ Chg w w' (fun _ => False) := by
  go_enter Tryd.func5, Tryd.ntmps5
  go_wp2_with fail
  refine (begun_any _).mono ?_
  rintro e w1 ⟨rfl, hc1⟩
  go_wp2_with fail
  have hk0 := Int.emod_nonneg n (b := 33) (by decide)
  have hk1 := Int.emod_lt_of_pos n (b := 33) (by decide)
  have hp0 := Int.emod_nonneg sz (b := 5000) (by decide)
  have hp1 := Int.emod_lt_of_pos sz (b := 5000) (by decide)
  obtain ⟨k, hk⟩ := Int.eq_ofNat_of_zero_le hk0
  obtain ⟨p, hp⟩ := Int.eq_ofNat_of_zero_le hp0
  have hpl1 := place_any n 33 w1 (by decide) (by decide)
  rw [hk] at hpl1 hk1
  refine hpl1.mono ?_
  rintro e w2 ⟨rfl, rfl⟩
  clear hpl1 hk hk0
  go_wp2_with fail
  refine (chunked_any _).mono ?_
  rintro e w2 ⟨g, rfl, hg, hb2, hc2⟩
  have hc02 := hc1.trans hc2 (fun _ _ h => h)
  have hpl2 := fun w => place_any sz 5000 w (by decide) (by decide)
  rw [hp] at hpl2 hp1
  clear hp hp0
  obtain ⟨q, hq⟩ : ∃ q : Nat, q = 4080 + k := ⟨_, rfl⟩
  have hmk := fun w => make_bytes q (by omega) w
  have hcast : (q : Int) = 4080 + (k : Int) := by omega
  rw [hcast] at hmk
  have Hq := Lib.hid hq
  have hq1 : 4080 ≤ q := by omega
  have hq2 : q ≤ 4112 := by omega
  clear hq
  have hz0 := zeros_row q w2 (by omega)
  have hz1 := zeros_row q w2.drew (by omega)
  have hca : Chg w2 (w2.alloc (.cells (zeros q).toArray 5)).drew (fun _ => False) := ((Chg.refl w2 _).alloc _).drew
  have hcb : Chg w2 (w2.drew.alloc (.cells (zeros q).toArray 5)) (fun _ => False) := ((Chg.refl w2 _).drew).alloc _
  have hs2 := hc2.size
  by_cases hlong : q ≤ 4096
  · obtain ⟨N, hfe⟩ := feedF_whole (1 + (p : Int)).toNat (List.replicate q 0) (by simpa using hlong)
    have hbl := chunkW_len q (1 + (p : Int)).toNat (List.replicate q 0) (by simp) (by simp; omega)
    have hbl5 : (chunkW (1 + (p : Int)).toNat (List.replicate q 0) ++ lastW).length ≤ 10 * q + 5 := by rw [List.length_append]; simp [lastW] at hbl ⊢; omega
    clear hbl
    have hch := fun (wz : World) (h1 : Row wz (.slice (some ⟨w2.heap.size, 0, none⟩) q q) (List.replicate q 0)) (h2 : Tab wz) => chunks_any (some ⟨w2.heap.size, 0, none⟩) q q (1 + (p : Int)) (List.replicate q 0) wz (by simp) (Rd.of_row (by simpa using h1)) (Nat.le_refl _) (by omega) (by omega) h2 (by omega)
    generalize chunkW (1 + (p : Int)).toNat (List.replicate q 0) ++ lastW = X at *
    have hwr : IntKind.i64.wrap (1 + (p : Int)) = 1 + (p : Int) := by rw [IntKind.wrap_i64]; omega
    have ht0 : Tab (w2.alloc (.cells (zeros q).toArray 5)).drew := ht.chg (hc02.trans hca (fun _ _ h => h)) id
    have hz2 : Row (w2.alloc (.cells (zeros q).toArray 5)).drew (.slice (some ⟨w2.heap.size, 0, none⟩) q q) (List.replicate q 0) := hz0.chg ((Chg.refl _ (fun _ => False)).drew) (fun _ _ => id)
    go_wp2_with fail
    go_region_with (first
      | (go_at_call 25; refine (hpl2 _).mono ?_; rintro e wp ⟨rfl, rfl⟩)
      | (go_at_call 16; refine (hch _ hz2 ht0).mono ?_; rintro e w3 ⟨A3, c3, rfl, hr3, hc3, hf3⟩; have hc23 : Chg w2 w3 (fun _ => False) := hca.trans hc3 (fun _ _ h => h))
      | (go_at_call 22; refine (feed_any g _ (st0 2 0) A3 X.length c3 X w3 (hb2.chg hc23 (fun _ _ => id)) st0_ok (by decide) (Rd.of_row hr3) rfl (by omega) (fun ad e hp hf => hr3.ne_blk (hb2.blk.chg hc23 id) (by decide) (by subst e; rcases hf with hf | hf; exact congrArg some hf; simp [Value.ownBlock] at hf))).mono ?_; rw [show feedF (st0 2 0) X = (N, 0, sN 9 0 0 (List.replicate q 0)) from hfe]; rintro e w4 ⟨rfl, v4, hb4, hc4, hf4⟩))
    all_goals
      have hlenB : (((sN 9 0 0 (List.replicate q 0)).got.length : Int) == 4080 + (k : Int)) = true := by simp [sN]; omega
      have hs1 := hc1.size
      have hc04 : Chg w w4 (fun _ => False) := (hc02.trans hc23 (fun _ _ h => h)).trans hc4 (fun i hi h => by
        rcases h with h | h
        · omega
        · simp [Value.ownBlock] at h)
      go_wp2_with (first | (go_at_call 23; refine (done_any g v4 _ w4 hb4).mono ?_; rintro e wd ⟨rfl, rfl⟩) | (go_at_call 24; refine (data_any g v4 _ w4 hb4 (by simp [sN]; omega)).mono ?_; rintro e w5 ⟨A5, c5, rfl, hr5, hc5, hf5⟩))
      go_ret
      exact ⟨rfl, hc04.trans hc5 (fun _ _ h => h)⟩
  · obtain ⟨s9, hfe, hg9, hn9⟩ := feedF_long (1 + (p : Int)).toNat (List.replicate q 0) (by simp; omega) (by simp; omega)
    have hbl := chunkW_len q (1 + (p : Int)).toNat (List.replicate q 0) (by simp) (by simp; omega)
    have hbl5 : (chunkW (1 + (p : Int)).toNat (List.replicate q 0) ++ lastW).length ≤ 10 * q + 5 := by rw [List.length_append]; simp [lastW] at hbl ⊢; omega
    clear hbl
    have hch := fun (wz : World) (h1 : Row wz (.slice (some ⟨w2.heap.size, 0, none⟩) q q) (List.replicate q 0)) (h2 : Tab wz) => chunks_any (some ⟨w2.heap.size, 0, none⟩) q q (1 + (p : Int)) (List.replicate q 0) wz (by simp) (Rd.of_row (by simpa using h1)) (Nat.le_refl _) (by omega) (by omega) h2 (by omega)
    generalize chunkW (1 + (p : Int)).toNat (List.replicate q 0) ++ lastW = X at *
    have hwr : IntKind.i64.wrap (1 + (p : Int)) = 1 + (p : Int) := by rw [IntKind.wrap_i64]; omega
    have ht0 : Tab (w2.alloc (.cells (zeros q).toArray 5)).drew := ht.chg (hc02.trans hca (fun _ _ h => h)) id
    have hz2 : Row (w2.alloc (.cells (zeros q).toArray 5)).drew (.slice (some ⟨w2.heap.size, 0, none⟩) q q) (List.replicate q 0) := hz0.chg ((Chg.refl _ (fun _ => False)).drew) (fun _ _ => id)
    go_wp2_with fail
    go_region_with (first
      | (go_at_call 25; refine (hpl2 _).mono ?_; rintro e wp ⟨rfl, rfl⟩)
      | (go_at_call 16; refine (hch _ hz2 ht0).mono ?_; rintro e w3 ⟨A3, c3, rfl, hr3, hc3, hf3⟩; have hc23 : Chg w2 w3 (fun _ => False) := hca.trans hc3 (fun _ _ h => h))
      | (go_at_call 22; refine (feed_any g _ (st0 2 0) A3 X.length c3 X w3 (hb2.chg hc23 (fun _ _ => id)) st0_ok (by decide) (Rd.of_row hr3) rfl (by omega) (fun ad e hp hf => hr3.ne_blk (hb2.blk.chg hc23 id) (by decide) (by subst e; rcases hf with hf | hf; exact congrArg some hf; simp [Value.ownBlock] at hf))).mono ?_; rw [show feedF (st0 2 0) X = (0, 2, s9) from hfe]; rintro e w4 ⟨rfl, v4, hb4, hc4, hf4⟩))
    all_goals
      have hlenB : ((s9.got.length : Int) == 0) = true := by rw [hg9]; rfl
      have hdnB : (s9.next == 9) = false := by simpa using hn9
      have hs1 := hc1.size
      have hc04 : Chg w w4 (fun _ => False) := (hc02.trans hc23 (fun _ _ h => h)).trans hc4 (fun i hi h => by
        rcases h with h | h
        · omega
        · simp [Value.ownBlock] at h)
      go_wp2_with (first | (go_at_call 23; refine (done_any g v4 _ w4 hb4).mono ?_; rintro e wd ⟨rfl, rfl⟩) | (go_at_call 24; refine (data_any g v4 _ w4 hb4 (by rw [hg9]; decide)).mono ?_; rintro e w5 ⟨A5, c5, rfl, hr5, hc5, hf5⟩))
      go_ret
      exact ⟨rfl, hc04.trans hc5 (fun _ _ h => h)⟩
end Go.Proofs.YtkbmajkoojgkpaaDoor
