/- The contracts of the references of chunk: digit, Sized, Chunked. -/
import Derived.Test.YtkbmajkoojgkpaaFeed
import Derived.Test.YtkbmajkoojgkpaaPieces
import Derived.Deep.LoopGhost
namespace Go.Proofs.Ytkbmajkoojgkpaa
open Go.RowKit

set_option maxHeartbeats 1000000 in
theorem ref_digit_any (c : UInt8) (w : World) :
    Calls Try.prog 26 #[.int .u8 c.toNat] w fun e w' => e = .returned (.int .i64 ((digV c.toNat).getD (-1))) ∧ w = w' := by
  have hlt : c.toNat < 256 := c.toNat_lt
  generalize hn : c.toNat = n at *
  clear hn
  go_enter Try.func26, Try.ntmps26
  go_wp2
  all_goals
    go_ret
    refine ⟨ret_i ?_, rfl⟩
    unfold digV
    by_cases h1 : 48 ≤ (n : Int) ∧ (n : Int) ≤ 57
    · rw [if_pos h1]; first | rfl | omega
    · rw [if_neg h1]
      by_cases h2 : 97 ≤ (n : Int) ∧ (n : Int) ≤ 102
      · rw [if_pos h2]; first | rfl | (simp only [Option.getD_some]; omega) | omega
      · rw [if_neg h2]
        by_cases h3 : 65 ≤ (n : Int) ∧ (n : Int) ≤ 70
        · rw [if_pos h3]; first | rfl | (simp only [Option.getD_some]; omega) | omega
        · rw [if_neg h3]; first | rfl | omega

/-- What the reference's Sized answers. -/
def SizedT (A : Option Addr) (n c m : Nat) (w : World) (e : Ending) (w' : World) : Prop :=
  e = .returned (if m ≤ n then .agg #[.int .i64 m, .slice A m c, .int .i64 0] else .agg #[.int .i64 (-1), .slice A n c, .int .i64 0]) ∧ Chg w w' (fun _ => False)

set_option maxHeartbeats 1000000 in
theorem ref_sized_any (A : Option Addr) (n c m : Nat) (w : World) (hnc : n ≤ c) (hm : m ≤ 4096) (hn : n ≤ 1000000000) (hc : c ≤ 9223372036854775807) :
    Calls Try.prog 22 #[.slice A n c, .int .i64 m] w (SizedT A n c m w) := by
  by_cases h : m ≤ n
  · go_enter Try.func22, Try.ntmps22
    go_wp2
    refine bodyPost_ret (v := .agg #[.int .i64 m, .slice A m c, .int .i64 0]) (by simp [results, Try.results22, go_sem]) rfl ?_
    exact ⟨by rw [if_pos h], (Chg.refl w _).alloc _⟩
  · go_enter Try.func22, Try.ntmps22
    go_wp2
    refine bodyPost_ret (v := .agg #[.int .i64 (-1), .slice A n c, .int .i64 0]) (by simp [results, Try.results22, go_sem]) rfl ?_
    exact ⟨by rw [if_neg h], (Chg.refl w _).alloc _⟩
end Go.Proofs.Ytkbmajkoojgkpaa
