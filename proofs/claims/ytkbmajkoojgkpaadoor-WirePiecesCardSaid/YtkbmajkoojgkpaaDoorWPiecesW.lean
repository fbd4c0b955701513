/- The walk of WirePieces: however bytes are cut, the same requests come, and the same error behind them. -/
import Derived.Test.YtkbmajkoojgkpaaDoorWAll
namespace Go.Proofs.YtkbmajkoojgkpaaDoor
open Go.RowKit

set_option maxHeartbeats 8000000 in
set_option maxRecDepth 100000 in
theorem wpiecesW (A : Option Addr) (n c : Nat) (xs : List UInt8) (B : Option Addr) (n1 c1 : Nat) (zs : List Int) (C : Option Addr) (n2 c2 : Nat) (ys : List Int) (m : Int) (w : World) (hn : xs.length = n) (hnc : n ≤ c) (hcm : c ≤ 9223372036854775807) (hx : Rd w A xs) (hz : zs.length = n1) (hzr : RdI w B zs) (hy : ys.length = n2) (hyr : RdI w C ys) (hm : MaxL w m) :
    Calls Tryd.prog 11 #[.slice A n c, .slice B n1 c1, .slice C n2 c2] w fun e w' => e = .returned (.bool true) ∧ Chg w w' (fun _ => False) := by
  go_enter Tryd.func11, Tryd.ntmps11
  go_wp2_with fail
  refine (begun24_any m w hm).mono ?_
  rintro e w0 ⟨rfl, hc0⟩
  by_cases h1 : 8192 < n
  · go_wp2
    go_ret
    exact ⟨rfl, hc0⟩
  by_cases h2 : 200 < n1
  · go_wp2
    go_ret
    exact ⟨rfl, hc0⟩
  by_cases h3 : 200 < n2
  · go_wp2
    go_ret
    exact ⟨rfl, hc0⟩
  have d1 : ¬ (8192 : Int) < (n : Int) := by omega
  have d2 : ¬ (200 : Int) < (n1 : Int) := by omega
  have d3 : ¬ (200 : Int) < (n2 : Int) := by omega
  go_wp2_with fail
  refine (cut_any A n c xs (fun _ => True) B n1 c1 zs w0 hn ⟨hx.chg hc0 (fun _ _ _ => id), fun _ _ _ => trivial⟩ hnc hcm hz (hzr.chg hc0) (by omega) (by omega)).mono ?_
  rintro e w1 ⟨A1, k1, us1, ps1, rfl, hrow1, hpc1, hfl1, hl1, hc1, hf1⟩
  have hc01 := hc0.trans hc1 (fun _ _ => id)
  have Hfl1 := Lib.hid hfl1
  have hal1 := all_any A1 us1.length k1 us1 ps1 (fun _ => True) m w1 rfl (RdV.of_row hrow1) hpc1 (by omega) (by rw [Hfl1.out]; omega) (hm.chg hc01 id)
  rw [Hfl1.out] at hal1
  clear hfl1
  have Hal1 := Lib.hid hal1
  clear hal1
  go_wp2_with fail
  refine Hal1.out.mono ?_
  rintro e w2 ⟨q1, A2, k2, rfl, hq1, hc2, hr1, hm1⟩
  have Hq1 := Lib.hid hq1
  clear hq1
  have hc02 := hc01.trans hc2 (fun _ _ => id)
  go_wp2_with fail
  refine (cut_any A n c xs (fun _ => True) C n2 c2 ys w2 hn ⟨hx.chg hc02 (fun _ _ _ => id), fun _ _ _ => trivial⟩ hnc hcm hy (hyr.chg hc02) (by omega) (by omega)).mono ?_
  rintro e w3 ⟨A3, k3, us3, ps3, rfl, hrow3, hpc3, hfl3, hl3, hc3, hf3⟩
  have hc03 := hc02.trans hc3 (fun _ _ => id)
  have Hfl3 := Lib.hid hfl3
  have hal3 := all_any A3 us3.length k3 us3 ps3 (fun _ => True) m w3 rfl (RdV.of_row hrow3) hpc3 (by omega) (by rw [Hfl3.out]; omega) (hm.chg hc03 id)
  rw [Hfl3.out] at hal3
  clear hfl3
  have Hal3 := Lib.hid hal3
  clear hal3
  go_wp2_with fail
  refine Hal3.out.mono ?_
  rintro e w4 ⟨q2, A4, k4, rfl, hq2, hc4, hr2, hm2⟩
  have Hq2 := Lib.hid hq2
  clear hq2
  have hc24 := hc3.trans hc4 (fun _ _ => id)
  have hle : q2.length = q1.length := by
    have e1 := congrArg List.length Hq1.out
    have e2 := congrArg List.length Hq2.out
    simp only [List.length_map] at e1 e2
    omega
  rw [hle]
  have hqn : q1.length ≤ 1000000 := by
    have e1 := congrArg List.length Hq1.out
    have := run_count xs WSt.new
    simp only [List.length_map] at e1
    omega
  have hsm := same_any A2 A4 k2 k4 q1.length q1 q2 w4 rfl (by rw [Hq1.out, Hq2.out]) ((RdR.of hr1 hm1).chg hc24) (RdR.of hr2 hm2) hqn
  have Hsm := Lib.hid hsm
  have bE : ((runW WSt.new xs).2.1 == (runW WSt.new xs).2.1) = true := by simp
  clear hsm hle
  go_wp2_with fail
  refine Hsm.out.mono ?_
  rintro e w5 ⟨rfl, hc5⟩
  go_wp2
  go_ret
  exact ⟨rfl, (hc02.trans hc24 (fun _ _ => id)).trans hc5 (fun _ _ => id)⟩
end Go.Proofs.YtkbmajkoojgkpaaDoor
