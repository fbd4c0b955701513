/- The walk of FieldLines. -/
import Derived.Test.YtkbmajkoojgkpaaDoorField5
import Derived.Test.YtkbmajkoojgkpaaDoorField6
namespace Go.Proofs.YtkbmajkoojgkpaaDoor
open Go.RowKit

theorem lineV_form (o : Option (List UInt8 × List UInt8)) : ∃ (n v : List UInt8) (z : Int), lineV o = .tuple #[.agg #[.string (str n), .string (str v)], .int .i64 z] := by
  cases o with
  | none => exact ⟨[], [], 4, rfl⟩
  | some p => exact ⟨p.1, p.2, 0, rfl⟩

set_option maxHeartbeats 4000000 in
set_option maxRecDepth 20000 in
theorem linesW (xs : List UInt8) (m : Int) (w : World) (hm : MaxL w m) :
    Calls Tryd.prog 6 #[.string (str xs)] w fun e w' => e = .returned (.bool true) ∧ Chg w w' (fun _ => False) := by
  have hsz := str_size xs
  go_enter Tryd.func6, Tryd.ntmps6
  go_wp2_with fail
  refine (begun22_any m w hm).mono ?_
  rintro e w1 ⟨rfl, hc1⟩
  by_cases hlong : xs.length ≤ 2048
  · obtain ⟨n, v, z, hv⟩ := lineV_form (fieldF xs)
    have hli := line_any xs m w1 (hm.chg hc1 id) (by omega)
    have hre := fun (wz : World) => ref_line_any xs wz (by omega)
    rw [hv] at hli hre
    clear hv
    have hs1 : ((str n).toList == (str n).toList) = true := by simp
    have hs2 : ((str v).toList == (str v).toList) = true := by simp
    go_wp2_with fail
    refine hli.mono ?_
    rintro e w2 ⟨rfl, hc2⟩
    have hc02 := hc1.trans hc2 (fun _ _ h => h)
    have hb3 : Blk (w2.alloc (.cells #[.string (str n), .string (str v)] 42)) w2.heap.size 42 #[.string (str n), .string (str v)] := Blk.new w2 _ _
    have hc3 : Chg w (w2.alloc (.cells #[.string (str n), .string (str v)] 42)) (fun _ => False) := hc02.alloc _
    go_wp2_with fail
    refine (hre _).mono ?_
    rintro e w4 ⟨rfl, hc4⟩
    have hb5 := (hb3.chg hc4 id).chg ((Chg.refl w4 (fun _ => False)).alloc (.cells #[.string (str n), .string (str v)] 42)) id
    have hb6 : Blk (w4.alloc (.cells #[.string (str n), .string (str v)] 42)) w4.heap.size 42 #[.string (str n), .string (str v)] := Blk.new w4 _ _
    have hc6 : Chg w (w4.alloc (.cells #[.string (str n), .string (str v)] 42)) (fun _ => False) := (hc3.trans hc4 (fun _ _ h => h)).alloc _
    obtain ⟨k0, k1, -, -⟩ := fld_cells hb5
    obtain ⟨k2, k3, -, -⟩ := fld_cells hb6
    go_wp2
    go_ret
    exact ⟨by simp, hc6⟩
  · go_wp2
    go_ret
    exact ⟨rfl, hc1⟩
end Go.Proofs.YtkbmajkoojgkpaaDoor
