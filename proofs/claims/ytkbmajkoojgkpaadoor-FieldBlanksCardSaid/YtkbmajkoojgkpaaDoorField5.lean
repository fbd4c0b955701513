/- begun: field does something yet. -/
import Derived.Test.YtkbmajkoojgkpaaDoorField4
namespace Go.Proofs.YtkbmajkoojgkpaaDoor
open Go.RowKit

def hostB : List UInt8 := [72, 111, 115, 116, 58, 32, 97, 32]
def closeB : List UInt8 := [67, 108, 111, 115, 101, 44, 32, 44, 98]
theorem host_line : fieldF hostB = some ([104, 111, 115, 116], [97]) := by kernel_rfl
theorem close_words : wordsF closeB = [[99, 108, 111, 115, 101], [98]] := by kernel_rfl

set_option maxHeartbeats 4000000 in
set_option maxRecDepth 20000 in
theorem begun22_any (m : Int) (w : World) (hm : MaxL w m) :
    Calls Tryd.prog 26 #[] w fun e w' => e = .returned (.bool true) ∧ Chg w w' (fun _ => False) := by
  have hli := line_any hostB m w hm (by decide)
  rw [host_line] at hli
  have hs1 : ((str [104, 111, 115, 116]).toList == [104, 111, 115, 116]) = true := by rw [str_toList]; decide
  have hs2 : ((str [97]).toList == [97]) = true := by rw [str_toList]; decide
  have hs3 : ((str [99, 108, 111, 115, 101]).toList == [99, 108, 111, 115, 101]) = true := by rw [str_toList]; decide
  go_enter Tryd.func26, Tryd.ntmps26
  go_wp2_with fail
  refine hli.mono ?_
  rintro e w1 ⟨rfl, hc1⟩
  clear hli
  unfold lineV
  go_wp2_with fail
  have hb2 : Blk (w1.alloc (.cells #[.string (str [104, 111, 115, 116]), .string (str [97])] 42)) w1.heap.size 42 #[.string (str [104, 111, 115, 116]), .string (str [97])] := Blk.new w1 _ _
  have hc2 : Chg w (w1.alloc (.cells #[.string (str [104, 111, 115, 116]), .string (str [97])] 42)) (fun _ => False) := hc1.alloc _
  have hwo := words_any closeB m (w1.alloc (.cells #[.string (str [104, 111, 115, 116]), .string (str [97])] 42)) (hm.chg hc2 id) (by decide)
  rw [close_words] at hwo
  refine hwo.mono ?_
  rintro e w3 ⟨A, c, rfl, hrow, hc3, hf3⟩
  clear hwo
  have hb3 := hb2.chg hc3 id
  obtain ⟨k0, k1, -, -⟩ := fld_cells hb3
  obtain ⟨ad, rfl, hcell⟩ := (RdV.of_rowT hrow).at (k := 0) (by simp)
  have h0 : ad.add 0 = ad := by unfold Addr.add; simp
  have hcell2 : w3.cell? ad = some (.string (str [99, 108, 111, 115, 101])) := by rw [← h0]; exact hcell
  clear hcell h0
  go_wp2
  go_ret
  exact ⟨rfl, hc2.trans hc3 (fun _ _ h => h)⟩
end Go.Proofs.YtkbmajkoojgkpaaDoor
