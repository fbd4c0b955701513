/- The walk of ChunkChunked. -/
import Derived.Test.YtkbmajkoojgkpaaFeeds
import Derived.Test.YtkbmajkoojgkpaaLight
import Derived.Test.YtkbmajkoojgkpaaNone
namespace Go.Proofs.Ytkbmajkoojgkpaa
open Go.RowKit

theorem RdV.below {w : World} {A : Option Addr} {us : List Value} (h : RdV w A us) : ∀ ad, A = some ad → 0 < us.length → ad.block < w.heap.size := fun ad e hn => by
  obtain ⟨ad', e', hc⟩ := h.at hn
  rw [e] at e'
  injection e' with e'
  subst e'
  have := World.block_lt_of_cell? _ _ hc
  rwa [block_add] at this

set_option maxHeartbeats 2000000 in
theorem chunkedW (A : Option Addr) (n c : Nat) (us : List Value) (ps : List (List UInt8)) (w : World) (hn : us.length = n) (hr : RdV w A us) (hp : Pcs w (fun k => k < w.heap.size) us ps) :
    Calls Try.prog 3 #[.slice A n c] w fun e w' => e = .returned (.bool true) ∧ Chg w w' (fun _ => False) := by
  go_enter Try.func3, Try.ntmps3
  go_wp2_with fail
  refine (begun_any _).mono ?_
  rintro e w1 ⟨rfl, hc1⟩
  have hr1 := hr.chg hc1 (fun _ _ _ h => h)
  have hp1 := hp.chg hc1 (fun _ _ h => h)
  go_wp2_with fail
  refine (light_any A n c us ps _ w1 hn hr1 hp1).mono ?_
  rintro e w2 ⟨b, rfl, hb, rfl⟩
  cases b
  · go_wp2
    go_ret
    exact ⟨rfl, hc1⟩
  · obtain ⟨h60, hsz⟩ := hb rfl
    go_wp2_with fail
    refine (chunked_any _).mono ?_
    rintro e w3 ⟨g, rfl, hg, hb3, hc3⟩
    have hs1 := hc1.size
    have hcw := hc1.trans hc3 (fun _ _ h => h)
    have hr3 := hr.chg hcw (fun _ _ _ h => h)
    have hp3 := hp.chg hcw (fun _ _ h => h)
    have hs3 := hcw.size
    go_wp2_with fail
    refine (done_any g _ _ w3 hb3).mono ?_
    rintro e w4 ⟨rfl, rfl⟩
    go_wp2_with fail
    refine (data_any g _ _ w3 hb3 (by decide)).mono ?_
    rintro e w5 ⟨A5, c5, rfl, -, hc5, -⟩
    have hb5 := hb3.chg hc5 (fun _ _ => id)
    have hcw5 := hcw.trans hc5 (fun _ _ h => h)
    have hr5 := hr.chg hcw5 (fun _ _ _ h => h)
    have hp5 := hp.chg hcw5 (fun _ _ h => h)
    have hs5 := hcw5.size
    go_wp2_with fail
    refine (feeds_chunked g A n c us ps _ w.heap.size w5 (by omega) hb5 hr5 hn hp5 hsz h60 (fun k h => by omega) (fun ad e h0 => by have := hr.below ad e h0; omega) (by omega)).mono ?_
    rintro e w6 ⟨rfl, hc6⟩
    go_wp2
    go_ret
    exact ⟨rfl, hcw5.trans hc6 (fun i hi h => absurd h (by omega))⟩
end Go.Proofs.Ytkbmajkoojgkpaa
