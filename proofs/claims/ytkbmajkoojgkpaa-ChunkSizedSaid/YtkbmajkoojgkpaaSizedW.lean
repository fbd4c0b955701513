/- The walk of ChunkSized. -/
import Derived.Test.YtkbmajkoojgkpaaFeedsS
import Derived.Test.YtkbmajkoojgkpaaFeedsW
namespace Go.Proofs.Ytkbmajkoojgkpaa
open Go.RowKit

set_option maxHeartbeats 4000000 in
theorem sizedW (m : Int) (hm0 : -9223372036854775808 ≤ m) (hm1 : m ≤ 9223372036854775807) (A : Option Addr) (n c : Nat) (us : List Value) (ps : List (List UInt8)) (w : World) (hn : us.length = n) (hr : RdV w A us) (hp : Pcs w (fun k => k < w.heap.size) us ps) :
    Calls Try.prog 6 #[.int .i64 m, .slice A n c] w fun e w' => e = .returned (.bool true) ∧ Chg w w' (fun _ => False) := by
  go_enter Try.func6, Try.ntmps6
  go_wp2_with fail
  refine (begun_any _).mono ?_
  rintro e w1 ⟨rfl, hc1⟩
  have hr1 := hr.chg hc1 (fun _ _ _ h => h)
  have hp1 := hp.chg hc1 (fun _ _ h => h)
  go_wp2_with fail
  refine (light_any A n c us ps _ w1 hn hr1 hp1).mono ?_
  rintro e w2 ⟨b, rfl, hb, rfl⟩
  cases b
  · go_wp2
    go_ret
    exact ⟨rfl, hc1⟩
  · obtain ⟨h60, hsz⟩ := hb rfl
    go_wp2_with fail
    refine (sized_any m _).mono ?_
    rintro e w3 (⟨hlt, rfl, rfl⟩ | ⟨hgt, rfl, rfl⟩ | ⟨h0, h1, g, rfl, hg, hb3, hc3⟩)
    · go_wp2
      go_ret
      exact ⟨rfl, hc1⟩
    · go_wp2
      go_ret
      exact ⟨rfl, hc1⟩
    · obtain ⟨k, rfl⟩ := Int.eq_ofNat_of_zero_le h0
      have hst : (if (k : Int) = 0 then st0 9 0 else st0 1 k) = sized0 k := by
        unfold sized0 sN st0
        by_cases hk : k = 0
        · subst hk; rfl
        · rw [if_neg hk, if_neg (by omega)]
      rw [hst] at hb3
      have hnx : ((sized0 k).next == 9) = ((k : Int) == 0) := by
        unfold sized0 sN
        by_cases hk : k = 0
        · subst hk; rfl
        · rw [if_neg hk]
          simp [hk]
      have hs1 := hc1.size
      have hcw := hc1.trans hc3 (fun _ _ h => h)
      have hr3 := hr.chg hcw (fun _ _ _ h => h)
      have hp3 := hp.chg hcw (fun _ _ h => h)
      have hs3 := hcw.size
      have hdo := done_any g _ _ w3 hb3
      rw [hnx] at hdo
      have hfe := feeds_sized k (by omega) g A n c us ps _ w.heap.size w3 (by omega) hb3 hr3 hn hp3 hsz h60 (fun k h => by omega) (fun ad e h0 => by have := hr.below ad e h0; omega) (by omega)
      have Hdo := Lib.hid hdo
      have Hfe := Lib.hid hfe
      clear hdo hfe hnx hst
      by_cases hk : k = 0
      · subst hk
        go_wp2_with (first | (go_at_call 10; refine Hdo.out.mono ?_; rintro e w4 ⟨rfl, rfl⟩) | (go_at_call 12; refine Hfe.out.mono ?_; rintro e w6 ⟨rfl, hc6⟩))
        go_ret
        exact ⟨rfl, hcw.trans hc6 (fun i hi h => absurd h (by omega))⟩
      · have hkb : ((k : Int) == 0) = false := by simp [hk]
        go_wp2_with (first | (go_at_call 10; refine Hdo.out.mono ?_; rintro e w4 ⟨rfl, rfl⟩) | (go_at_call 12; refine Hfe.out.mono ?_; rintro e w6 ⟨rfl, hc6⟩))
        go_ret
        exact ⟨rfl, hcw.trans hc6 (fun i hi h => absurd h (by omega))⟩
end Go.Proofs.Ytkbmajkoojgkpaa
