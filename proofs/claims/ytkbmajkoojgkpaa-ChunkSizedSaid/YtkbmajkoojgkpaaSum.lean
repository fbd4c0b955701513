/- The contract of Sum. -/
import Derived.Test.YtkbmajkoojgkpaaTwin
namespace Go.Proofs.Ytkbmajkoojgkpaa
open Go.RowKit

/-- What Sum answers. -/
def SumP (ps : List (List UInt8)) (most : Int) (w : World) (e : Ending) (w' : World) : Prop := ∃ r : Int, e = .returned (.int .i64 r) ∧ (r ≤ most → (ps.flatten.length : Int) ≤ most) ∧ w = w'

set_option maxHeartbeats 1000000 in
theorem sum_any (A : Option Addr) (n c : Nat) (us : List Value) (ps : List (List UInt8)) (D : Nat → Prop) (most : Int) (w : World) (hn : us.length = n) (hr : RdV w A us) (hp : Pcs w D us ps) (hm : n ≤ 1000000000) (h0 : 0 ≤ most) (h1 : most ≤ 1000000000) :
    Calls Try.prog 17 #[.slice A n c, .int .i64 most] w (SumP ps most w) := by
  subst hn
  go_enter Try.func17, Try.ntmps17
  go_wp2_with fail
  go_loop [5, 6] (fun nv iv => ∃ (k : Nat) (m : Int), k ≤ us.length ∧ iv = .int .i64 k ∧ nv = .int .i64 m ∧ m = (ps.take k).flatten.length ∧ m ≤ most + most) (fun _ iv => us.length - (intOf iv).toNat)
  case atStart => exact ⟨0, 0, Nat.zero_le _, rfl, rfl, by simp, by omega⟩
  case round =>
    obtain ⟨k, m, hk, rfl, rfl, hm1, hm2⟩ := hrel
    have hm0 : 0 ≤ m := by omega
    have HM := Lib.hid hm1
    clear hm1
    by_cases hlt : k < us.length
    · by_cases hmost : m ≤ most
      · have hkp : k < ps.length := by rw [← hp.len]; exact hlt
        obtain ⟨ad, rfl, hcell⟩ := hr.at hlt
        obtain ⟨A1, c1, hu, hl1, hl2, hrd⟩ := hp.at_ k us[k] ps[k] (List.getElem?_eq_getElem hlt) (List.getElem?_eq_getElem hkp)
        rw [hu] at hcell
        have HF := Lib.hid (take_flat ps k hkp)
        unfold maxLen at hl2
        clear hu
        by_cases hlen : most < ((ps[k]).length : Int)
        · go_wp2
          go_ret
          exact ⟨most + 1, rfl, fun h => by omega, rfl⟩
        · go_wp2
          go_round
          case rel => exact ⟨k + 1, m + (ps[k]).length, by omega, by go_num, rfl, by rw [HF.out, HM.out]; omega, by omega⟩
          case measure => simp [intOf]; omega
      · go_wp2
        go_ret
        exact ⟨m, rfl, fun h => by omega, rfl⟩
    · obtain rfl : k = us.length := by omega
      have hfl : (ps.take us.length).flatten.length = ps.flatten.length := by rw [hp.len, List.take_length]
      have HFL := Lib.hid hfl
      clear hfl
      go_wp2
      go_ret
      exact ⟨m, rfl, fun h => by rw [HM.out, HFL.out] at h; exact h, rfl⟩
end Go.Proofs.Ytkbmajkoojgkpaa
