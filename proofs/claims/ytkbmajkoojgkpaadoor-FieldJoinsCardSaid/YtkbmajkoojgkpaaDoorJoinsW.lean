/- The walk of FieldJoins. -/
import Derived.Test.YtkbmajkoojgkpaaDoorField5
import Derived.Test.YtkbmajkoojgkpaaDoorRowT2
import Derived.BigQuiet
namespace Go.Proofs.YtkbmajkoojgkpaaDoor
open Go.RowKit

theorem splitL_join (c : UInt8) (b : List UInt8) : ∀ a : List UInt8, splitL c (a ++ c :: b) = splitL c a ++ splitL c b
  | [] => by simp [splitL]
  | x :: l => by
    rw [List.cons_append, splitL, splitL_join c b l, splitL]
    by_cases h : x = c
    · rw [if_pos h, if_pos h]; rfl
    · rw [if_neg h, if_neg h]
      cases hs : splitL c l with
      | nil => exact absurd hs (splitL_ne c l)
      | cons p ps => rfl
theorem words_join (s t : List UInt8) : wordsF (s ++ [44] ++ t) = wordsF s ++ wordsF t := by
  rw [wordsF_eq, wordsF_eq, wordsF_eq, List.append_assoc, List.singleton_append, splitL_join, wordsOf_append]
theorem words_some (s : List UInt8) : ∀ x, x ∈ wordsF s → x ≠ [] := fun x hx => by
  unfold wordsF at hx
  obtain ⟨y, hy, rfl⟩ := List.mem_map.1 hx
  have := (List.mem_filter.1 hy).2
  intro h
  rw [List.map_eq_nil_iff.1 h] at this
  cases this
theorem words_count (s : List UInt8) : (wordsF s).length ≤ s.length + 1 := by
  rw [wordsF_eq]
  exact Nat.le_trans (wordsOf_len _) (splitL_count 44 s)
theorem str_append' (a b : List UInt8) : str a ++ str b = str (a ++ b) := by
  apply ByteArray.ext
  rw [ByteArray.data_append]
  simp [str]
theorem strV_one : ∀ (l : List (List UInt8)) u, u ∈ l.map strV → u.oneCell' = true := fun l u hu => by
  obtain ⟨x, _, rfl⟩ := List.mem_map.1 hu
  rfl

set_option maxHeartbeats 4000000 in
set_option maxRecDepth 100000 in
theorem joinsW (xs ts : List UInt8) (m : Int) (w : World) (hm : MaxL w m) :
    Calls Tryd.prog 9 #[.string (str xs), .string (str ts)] w fun e w' => e = .returned (.bool true) ∧ Chg w w' (fun _ => False) := by
  have hsz := str_size xs
  have hsz2 := str_size ts
  go_enter Tryd.func9, Tryd.ntmps9
  go_wp2_with fail
  refine (begun22_any m w hm).mono ?_
  rintro e w1 ⟨rfl, hc1⟩
  by_cases hl1 : xs.length ≤ 1024
  case neg =>
    go_wp2
    go_ret
    exact ⟨rfl, hc1⟩
  by_cases hl2 : ts.length ≤ 1024
  case neg =>
    go_wp2
    go_ret
    exact ⟨rfl, hc1⟩
  have hcn1 := words_count xs
  have hcn2 := words_count ts
  have hwa := words_any xs m w1 (hm.chg hc1 id) (by omega)
  have hwb := fun (wz : World) (h : MaxL wz m) => words_any ts m wz h (by omega)
  obtain ⟨mid, hmid⟩ : ∃ mid, mid = xs ++ [44] := ⟨_, rfl⟩
  obtain ⟨cat, hcat⟩ : ∃ cat, cat = xs ++ [44] ++ ts := ⟨_, rfl⟩
  have hcat1 : str xs ++ (⟨#[44]⟩ : ByteArray) = str mid := by rw [hmid]; exact str_append' xs [44]
  have hcat2 : str mid ++ str ts = str cat := by rw [hmid, hcat]; exact str_append' (xs ++ [44]) ts
  have hsz3 : (str mid).size = xs.length + 1 := by rw [str_size, hmid]; simp
  have hcl : cat.length ≤ 1000000 := by rw [hcat]; simp; omega
  have hwc := fun (wz : World) (h : MaxL wz m) => words_any cat m wz h hcl
  have hwj : wordsF cat = wordsF xs ++ wordsF ts := by rw [hcat]; exact words_join xs ts
  rw [hwj] at hwc
  clear hmid hcat hwj
  have hne : ∀ x, x ∈ wordsF xs ++ wordsF ts → x ≠ [] := fun x hx => by
    rcases List.mem_append.1 hx with h | h
    · exact words_some _ _ h
    · exact words_some _ _ h
  generalize wordsF xs = U at *
  generalize wordsF ts = V at *
  have Hne := Lib.hid hne
  clear hne
  go_wp2_with fail
  refine hwa.mono ?_
  rintro e w2 ⟨Aa, ca, rfl, hra, hca, hfa⟩
  have hc02 := hc1.trans hca (fun _ _ h => h)
  go_wp2_with fail
  refine (hwb _ (hm.chg hc02 id)).mono ?_
  rintro e w3 ⟨Ab, cb, rfl, hrb, hcb, hfb⟩
  have hc03 := hc02.trans hcb (fun _ _ h => h)
  go_wp2_with fail
  refine (hwc _ (hm.chg hc03 id)).mono ?_
  rintro e w4 ⟨Ac, cc, rfl, hrc, hcc, hfc⟩
  have hc04 := hc03.trans hcc (fun _ _ h => h)
  have hs4 := hc04.size
  clear hwa hwb hwc hcat1 hcat2
  obtain ⟨W, hW⟩ : ∃ W, W = U ++ V := ⟨_, rfl⟩
  rw [← hW] at hrc hfc ⊢
  have hWl : W.length = U.length + V.length := by rw [hW, List.length_append]
  have HWl := Lib.hid hWl
  have hWb : W.length ≤ 100000 := by omega
  have HW := Lib.hid hW
  clear hWl hW
  have hra4 := (hra.chg hcb (fun _ _ => id)).chg hcc (fun _ _ => id)
  have hrb4 := hrb.chg hcc (fun _ _ => id)
  go_wp2_with (at_builtin; first
    | (refine wpList_appTs rfl _ _ rfl _ [] (by rfl) (RowT.empty w4) Aa U.length ca (U.map strV) (by simp) (by rfl) (RdV.of_rowT (hra4.chg ((Chg.refl w4 (fun _ => False)).alloc _) (fun _ _ => id))) (strV_one U) (by simp; omega) ?_
       intro A5 c5 w5 z5 hz5 hr5 hc5 hf5
       have hc45 : Chg w4 w5 (fun _ => False) := ((Chg.refl w4 (fun _ => False)).alloc (.cells #[] 9)).trans hc5 (fun i hi e => by simp [Value.ownBlock] at e; omega)
       have hrb5 := hrb4.chg hc45 (fun _ _ => id)
       have hl5 : z5.length = U.length := by rw [hz5]; simp
       have Hz5 := Lib.hid hz5
       have Hl5 := Lib.hid hl5
       clear hz5 hl5)
    | (refine wpList_appTs rfl _ _ rfl _ z5 (by rfl) hr5 Ab V.length cb (V.map strV) (by simp) (by rfl) (RdV.of_rowT hrb5) (strV_one V) (by rw [Hl5.out]; omega) ?_
       intro A6 c6 w6 z6 hz6 hr6 hc6 hf6
       have hc46 : Chg w4 w6 (fun _ => False) := hc45.trans hc6 (fun i hi e => by
         rcases hf5 i e with h | h
         · simp [Value.ownBlock] at h; omega
         · simp at h; omega)
       obtain rfl : z6 = W.map strV := by rw [hz6, Hz5.out, HW.out]; simp
       have hrc6 := hrc.chg hc46 (fun _ _ => id)
       clear hz6))
  go_loopw [9] (fun iv wr => ∃ k : Nat, k ≤ W.length ∧ iv = .int .i64 k ∧ Chg w6 wr (fun _ => False)) (fun iv _ => W.length - (intOf iv).toNat)
  case atStart => exact ⟨0, Nat.zero_le _, rfl, Chg.refl _ _⟩
  case round =>
    obtain ⟨k, hk, rfl, hcr⟩ := hrel
    by_cases hlt : k < W.length
    · obtain ⟨ad6, rfl, hcell6⟩ := (RdV.of_rowT (hr6.chg hcr (fun _ _ => id))).at (k := k) (by simpa using hlt)
      obtain ⟨ad7, rfl, hcell7⟩ := (RdV.of_rowT (hrc6.chg hcr (fun _ _ => id))).at (k := k) (by simpa using hlt)
      have he1 : wr.cell? (ad6.add k) = some (.string (str W[k])) := by rw [hcell6]; simp [strV]
      have he2 : wr.cell? (ad7.add k) = some (.string (str W[k])) := by rw [hcell7]; simp [strV]
      have hse : (str W[k]).toList.isEmpty = false := by
        rw [str_toList]
        have := Hne.out W[k] (by rw [← HW.out]; exact List.getElem_mem hlt)
        cases hx : W[k] with
        | nil => exact absurd hx this
        | cons a b => rfl
      have hn2 : ((str W[k]).toList != (str W[k]).toList) = false := by simp
      clear hcell6 hcell7
      generalize W[k] = q at *
      go_wp2_with fail
      go_quiet (fail)
      go_wp2_with fail
      go_roundw
      case rel => exact ⟨k + 1, by omega, by go_num, hcr.drewN _⟩
      case measure => simp [intOf]; omega
    · obtain rfl : k = W.length := by omega
      go_wp2
      go_ret
      exact ⟨rfl, (hc04.trans hc46 (fun _ _ h => h)).trans hcr (fun _ _ h => h)⟩
end Go.Proofs.YtkbmajkoojgkpaaDoor
