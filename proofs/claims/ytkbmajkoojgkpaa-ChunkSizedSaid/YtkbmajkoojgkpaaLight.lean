/- The contract of light: are pieces not too great? -/
import Derived.Test.YtkbmajkoojgkpaaSum
namespace Go.Proofs.Ytkbmajkoojgkpaa
open Go.RowKit

/-- What light answers. -/
def LightP (n : Nat) (ps : List (List UInt8)) (w : World) (e : Ending) (w' : World) : Prop := ∃ b : Bool, e = .returned (.bool b) ∧ (b = true → n ≤ 60 ∧ ps.flatten.length ≤ 8192) ∧ w = w'

set_option maxHeartbeats 1000000 in
theorem light_any (A : Option Addr) (n c : Nat) (us : List Value) (ps : List (List UInt8)) (D : Nat → Prop) (w : World) (hn : us.length = n) (hr : RdV w A us) (hp : Pcs w D us ps) :
    Calls Try.prog 8 #[.slice A n c] w (LightP n ps w) := by
  by_cases h : n ≤ 60
  · have hsum := sum_any A n c us ps D 8192 w hn hr hp (by omega) (by decide) (by decide)
    have Hsum := Lib.hid hsum
    clear hsum
    go_enter Try.func8, Try.ntmps8
    go_wp2_with (go_at_call 17; refine Hsum.out.mono ?_; rintro e w' ⟨r, rfl, hr', rfl⟩; have HR := Lib.hid hr'; clear hr')
    go_ret
    refine ⟨decide (r ≤ 8192), rfl, fun hb => ⟨h, ?_⟩, rfl⟩
    have := HR.out (by simpa using hb)
    omega
  · go_enter Try.func8, Try.ntmps8
    go_wp2
    go_ret
    exact ⟨false, rfl, (fun hb => by cases hb), rfl⟩
end Go.Proofs.Ytkbmajkoojgkpaa
