/- The contracts of strings.Cut and strings.Trim as the fields want them, and of field.Line. -/
import Derived.Test.YtkbmajkoojgkpaaDoorField2
import Derived.Test.YtkbmajkoojgkpaaDoorShelf
namespace Go.Proofs.YtkbmajkoojgkpaaDoor
open Go.RowKit

/-- The variable that the library reads. -/
structure MaxL (w : World) (m : Int) : Prop where mk :: (out : w.cell? ⟨0, 0, none⟩ = some (.int .i64 m))
theorem MaxL.chg {w w' : World} {m : Int} {S : Nat → Prop} (h : MaxL w m) (hc : Chg w w' S) (hS : ¬ S 0) : MaxL w' m := ⟨hc.cell h.out hS⟩

theorem cut_58 (xs : List UInt8) (m : Int) (w : World) (hm : MaxL w m) (hl : xs.length ≤ 1000000) :
    Calls Tryd.prog 45 #[.string (str xs), .string ⟨#[58]⟩] w fun e w' => e = .returned (.tuple #[.string (str (cutL 58 xs).1), .string (str (cutL 58 xs).2.1), .bool (cutL 58 xs).2.2]) ∧ Chg w w' (fun _ => False) := by
  refine (Tryd.strings_Cut (str xs) ⟨#[58]⟩ m w (by rw [str_size]; omega) hm.out).mono ?_
  rintro e w' ⟨he, n, rfl⟩
  refine ⟨?_, (Chg.refl w _).drewN n⟩
  rw [he]
  have e1 : (str xs).data.toList = xs := rfl
  have e2 : (⟨#[58]⟩ : ByteArray).data.toList = [58] := rfl
  rw [e1, e2, cut_eq]
  rfl

theorem trim_any (xs : List UInt8) (w : World) (hl : xs.length ≤ 1000000) :
    Calls Tryd.prog 48 #[.string (str xs), .string ⟨#[32, 9]⟩] w fun e w' => e = .returned (.string (str (trimF xs))) ∧ Chg w w' (fun _ => False) := by
  refine (Any.strings_Trim_laid Tryd.lays160 (by kernel_rfl) (str xs) ⟨#[32, 9]⟩ w (by rw [str_size]; omega) (by decide) (ascii_of_all (by decide))).mono ?_
  rintro e w' ⟨he, hb⟩
  exact ⟨he, Chg.of_below hb _⟩

theorem trimF_len (xs : List UInt8) : (trimF xs).length ≤ xs.length := by
  rw [trimF_eq]
  unfold dropR
  rw [List.length_reverse]
  have h1 := (List.dropWhile_sublist (l := (xs.dropWhile isBl).reverse) isBl).length_le
  have h2 := (List.dropWhile_sublist (l := xs) isBl).length_le
  rw [List.length_reverse] at h1
  omega
theorem cutL_len (c : UInt8) : ∀ l : List UInt8, (cutL c l).1.length ≤ l.length ∧ (cutL c l).2.1.length ≤ l.length
  | [] => by simp [cutL]
  | b :: l => by
    have := cutL_len c l
    rw [cutL]
    split
    · simp
    · simp; omega

/-- What Line answers. -/
def lineV : Option (List UInt8 × List UInt8) → Value
  | none => .tuple #[.agg #[.string ⟨#[]⟩, .string ⟨#[]⟩], .int .i64 4]
  | some (n, v) => .tuple #[.agg #[.string (str n), .string (str v)], .int .i64 0]
theorem str_ne {xs : List UInt8} (h : xs ≠ []) : ((str xs).toList == (⟨#[]⟩ : ByteArray).toList) = false := by
  rw [str_toList]
  have : (⟨#[]⟩ : ByteArray).toList = [] := by rw [Lib.toList_data]
  rw [this]
  cases xs with
  | nil => exact absurd rfl h
  | cons a b => rfl
theorem all_step {p : UInt8 → Bool} {l : List UInt8} {k : Nat} (hk : k < l.length) (h : (l.take k).all p = true) (hp : p l[k] = true) : (l.take (k + 1)).all p = true := by
  rw [List.take_succ_eq_append_getElem hk, List.all_append, h]
  simp [hp]
theorem all_not {p : UInt8 → Bool} {l : List UInt8} {k : Nat} (hk : k < l.length) (hp : p l[k] = false) : l.all p = false := by
  cases h : l.all p with
  | false => rfl
  | true =>
    rw [List.all_eq_true] at h
    rw [h _ (List.getElem_mem hk)] at hp
    cases hp

theorem fld_cells {w : World} {g : Nat} {v0 v1 : Value} (h : Blk w g 42 #[v0, v1]) :
    w.cell? ⟨g, 0, none⟩ = some v0 ∧ w.cell? ⟨g, 1, none⟩ = some v1 ∧ w.frozen? ⟨g, 0, none⟩ = false ∧ w.frozen? ⟨g, 1, none⟩ = false := ⟨h.cell 0, h.cell 1, h.free 0, h.free 1⟩
theorem fld_set {w : World} {g : Nat} {v0 v1 : Value} (h : Blk w g 42 #[v0, v1]) (a b : Value) : Blk ((w.setCell ⟨g, 0, none⟩ a).setCell ⟨g, 1, none⟩ b) g 42 #[a, b] := by
  simpa using (h.set 0 a).set 1 b
theorem fld_chg {w0 w : World} {g : Nat} (h : Chg w0 w (fun _ => False)) (hg : w0.heap.size ≤ g) (a b : Value) : Chg w0 ((w.setCell ⟨g, 0, none⟩ a).setCell ⟨g, 1, none⟩ b) (fun _ => False) :=
  (h.setCell (fun h => absurd h (by simp; omega)) _).setCell (fun h => absurd h (by simp; omega)) _
theorem str_at (l : List UInt8) (k : Nat) (hk : k < l.length) (h : k < (str l).size) : (str l)[k]'h = l[k] := rfl
theorem nameC_iff (c : UInt8) : nameC c = (isLet c || decide (48 ≤ c.toNat ∧ c.toNat ≤ 57) || decide (c.toNat = 45)) := rfl
theorem valC_iff (c : UInt8) : valC c = (decide (c.toNat = 9) || decide (32 ≤ c.toNat ∧ c.toNat ≤ 126)) := rfl

set_option maxHeartbeats 4000000 in
set_option maxRecDepth 20000 in
theorem line_any (xs : List UInt8) (m : Int) (w : World) (hm : MaxL w m) (hl : xs.length ≤ 1000000) :
    Calls Tryd.prog 27 #[.string (str xs)] w fun e w' => e = .returned (lineV (fieldF xs)) ∧ Chg w w' (fun _ => False) := by
  have hcut := cut_58 xs m (w.alloc (.cells #[.string ⟨#[]⟩, .string ⟨#[]⟩] 42)) (hm.chg ((Chg.refl w (fun _ => False)).alloc _) id) hl
  have hcl := cutL_len 58 xs
  unfold fieldF
  generalize cutL 58 xs = r at *
  obtain ⟨nm, vl, fd⟩ := r
  simp only at hcut hcl ⊢
  obtain ⟨V, hV⟩ : ∃ V, V = lineV (if fd = true ∧ nm ≠ [] ∧ nm.all nameC = true ∧ vl.all valC = true then some (nm.map low, trimF vl) else none) := ⟨_, rfl⟩
  rw [← hV]
  have HV := Lib.hid hV
  clear hV
  go_enter Tryd.func27, Tryd.ntmps27
  go_wp2_with fail
  refine hcut.mono ?_
  rintro e w1 ⟨rfl, hc1⟩
  clear hcut
  have hc01 : Chg w w1 (fun _ => False) := ((Chg.refl w _).alloc _).trans hc1 (fun _ _ h => h)
  have hblk : Blk w1 w.heap.size 42 #[.string ⟨#[]⟩, .string ⟨#[]⟩] := (Blk.new w _ _).chg hc1 id
  obtain ⟨k0, k1, f0, f1⟩ := fld_cells hblk
  cases fd
  · go_wp2
    have hfin := fld_set hblk (.string ⟨#[]⟩) (.string ⟨#[]⟩)
    obtain ⟨q0, q1, -, -⟩ := fld_cells hfin
    refine bodyPost_ret (v := lineV none) (by simp [results, Tryd.results27, go_sem, q0, q1, lineV]) rfl ?_
    exact ⟨by rw [HV.out, if_neg (by simp)], fld_chg hc01 (Nat.le_refl _) _ _⟩
  by_cases hn0 : nm = []
  · subst hn0
    have hse : (str ([] : List UInt8)).toList.isEmpty = true := by rw [str_toList]; rfl
    go_wp2
    have hfin := fld_set hblk (.string ⟨#[]⟩) (.string ⟨#[]⟩)
    obtain ⟨q0, q1, -, -⟩ := fld_cells hfin
    refine bodyPost_ret (v := lineV none) (by simp [results, Tryd.results27, go_sem, q0, q1, lineV]) rfl ?_
    exact ⟨by rw [HV.out, if_neg (by simp)], fld_chg hc01 (Nat.le_refl _) _ _⟩
  have hsn : (str nm).toList.isEmpty = false := by rw [str_toList]; cases nm with | nil => exact absurd rfl hn0 | cons a b => rfl
  have hsz := str_size nm
  have hsv := str_size vl
  go_wp2_with fail
  go_loop [26] (fun iv => ∃ k : Nat, k ≤ nm.length ∧ iv = .int .i64 k ∧ Hid ((nm.take k).all nameC = true)) (fun iv => nm.length - (intOf iv).toNat)
  case atStart => exact ⟨0, Nat.zero_le _, rfl, (show ((nm.take 0).all nameC) = true by simp)⟩
  case round =>
    obtain ⟨k, hk, rfl, hall⟩ := hrel
    by_cases hlt : k < nm.length
    · have hix := str_at nm k hlt
      have hcl := (nm[k]).toNat_lt
      have HL := Lib.hid (letter_any nm[k] w1)
      have hnc := nameC_iff nm[k]
      cases hx : isLet nm[k]
      · rw [hx] at HL hnc
        clear hx
        have hp : (48 ≤ (nm[k]).toNat ∧ (nm[k]).toNat ≤ 57) ∨ (nm[k]).toNat = 45 ∨ ((nm[k]).toNat < 48 ∧ (nm[k]).toNat ≠ 45) ∨ 57 < (nm[k]).toNat := by omega
        rcases hp with ⟨c1, c2⟩ | c1 | ⟨c1, c2⟩ | c1
        · have Hs := Lib.hid (all_step hlt hall.out (by rw [hnc]; simp [c1, c2]))
          clear hnc
          go_wp2_with (go_at_call 46; refine HL.out.mono ?_; rintro e w' ⟨rfl, rfl⟩)
          go_round
          case rel => exact ⟨k + 1, by omega, by go_num, Hs.out⟩
          case measure => simp [intOf]; omega
        · have Hs := Lib.hid (all_step hlt hall.out (by rw [hnc]; simp [c1]))
          clear hnc
          go_wp2_with (go_at_call 46; refine HL.out.mono ?_; rintro e w' ⟨rfl, rfl⟩)
          go_round
          case rel => exact ⟨k + 1, by omega, by go_num, Hs.out⟩
          case measure => simp [intOf]; omega
        · have Hn := Lib.hid (all_not hlt (p := nameC) (by rw [hnc]; simp; omega))
          have c3 : (((nm[k]).toNat : Int) == 45) = false := by simp; omega
          have c4 : (((nm[k]).toNat : Int) != 45) = true := by simp; omega
          clear hnc
          go_wp2_with (go_at_call 46; refine HL.out.mono ?_; rintro e w' ⟨rfl, rfl⟩)
          have hfin := fld_set hblk (.string ⟨#[]⟩) (.string ⟨#[]⟩)
          obtain ⟨q0, q1, -, -⟩ := fld_cells hfin
          refine bodyPost_ret (v := lineV none) (by simp [results, Tryd.results27, go_sem, q0, q1, lineV]) rfl ?_
          exact ⟨by rw [HV.out, if_neg (by rw [Hn.out]; simp)], fld_chg hc01 (Nat.le_refl _) _ _⟩
          all_goals (rename_i hbad; rcases hbad with hbad | hbad <;> first | omega | (simp at hbad; omega) | (exact absurd (c4.symm.trans hbad) (by decide)))
        · have Hn := Lib.hid (all_not hlt (p := nameC) (by rw [hnc]; simp; omega))
          have c3 : (((nm[k]).toNat : Int) == 45) = false := by simp; omega
          have c4 : (((nm[k]).toNat : Int) != 45) = true := by simp; omega
          clear hnc
          go_wp2_with (go_at_call 46; refine HL.out.mono ?_; rintro e w' ⟨rfl, rfl⟩)
          have hfin := fld_set hblk (.string ⟨#[]⟩) (.string ⟨#[]⟩)
          obtain ⟨q0, q1, -, -⟩ := fld_cells hfin
          refine bodyPost_ret (v := lineV none) (by simp [results, Tryd.results27, go_sem, q0, q1, lineV]) rfl ?_
          exact ⟨by rw [HV.out, if_neg (by rw [Hn.out]; simp)], fld_chg hc01 (Nat.le_refl _) _ _⟩
          all_goals (rename_i hbad; rcases hbad with hbad | hbad <;> first | omega | (simp at hbad; omega) | (exact absurd (c4.symm.trans hbad) (by decide)))
      · rw [hx] at HL hnc
        clear hx
        have Hs := Lib.hid (all_step hlt hall.out (by rw [hnc]; rfl))
        clear hnc
        go_wp2_with (go_at_call 46; refine HL.out.mono ?_; rintro e w' ⟨rfl, rfl⟩)
        go_round
        case rel => exact ⟨k + 1, by omega, by go_num, Hs.out⟩
        case measure => simp [intOf]; omega
    · obtain rfl : k = nm.length := by omega
      have Hall : Hid (nm.all nameC = true) := by have := hall.out; rw [List.take_length] at this; exact this
      clear hall
      go_wp2_with fail
      go_loop [51] (fun iv => ∃ k : Nat, k ≤ vl.length ∧ iv = .int .i64 k ∧ Hid ((vl.take k).all valC = true)) (fun iv => vl.length - (intOf iv).toNat)
      case atStart => exact ⟨0, Nat.zero_le _, rfl, (show ((vl.take 0).all valC) = true by simp)⟩
      case round =>
        obtain ⟨k, hk, rfl, hall⟩ := hrel
        by_cases hlt : k < vl.length
        · have hix := str_at vl k hlt
          have hcl := (vl[k]).toNat_lt
          have hvc := valC_iff vl[k]
          have hp : (vl[k]).toNat = 9 ∨ ((vl[k]).toNat ≠ 9 ∧ (vl[k]).toNat < 32) ∨ (32 ≤ (vl[k]).toNat ∧ (vl[k]).toNat ≤ 126) ∨ 126 < (vl[k]).toNat := by omega
          rcases hp with c1 | ⟨c1, c2⟩ | ⟨c1, c2⟩ | c1
          · have Hs := Lib.hid (all_step hlt hall.out (by rw [hvc]; simp [c1]))
            clear hvc
            go_wp2
            go_round
            case rel => exact ⟨k + 1, by omega, by go_num, Hs.out⟩
            case measure => simp [intOf]; omega
          · have Hn := Lib.hid (all_not hlt (p := valC) (by rw [hvc]; simp; omega))
            have c3 : (((vl[k]).toNat : Int) == 9) = false := by simp; omega
            have c4 : (((vl[k]).toNat : Int) != 9) = true := by simp; omega
            clear hvc
            go_wp2
            have hfin := fld_set hblk (.string ⟨#[]⟩) (.string ⟨#[]⟩)
            obtain ⟨q0, q1, -, -⟩ := fld_cells hfin
            refine bodyPost_ret (v := lineV none) (by simp [results, Tryd.results27, go_sem, q0, q1, lineV]) rfl ?_
            exact ⟨by rw [HV.out, if_neg (by rw [Hn.out]; simp)], fld_chg hc01 (Nat.le_refl _) _ _⟩
            all_goals (rename_i hbad; rcases hbad with hbad | hbad <;> first | omega | (simp at hbad; omega) | (exact absurd (c4.symm.trans hbad) (by decide)))
          · have Hs := Lib.hid (all_step hlt hall.out (by rw [hvc]; simp [c1, c2]))
            have c3 : (((vl[k]).toNat : Int) == 9) = false := by simp; omega
            have c4 : (((vl[k]).toNat : Int) != 9) = true := by simp; omega
            clear hvc
            go_wp2
            go_round
            case rel => exact ⟨k + 1, by omega, by go_num, Hs.out⟩
            case measure => simp [intOf]; omega
          · have Hn := Lib.hid (all_not hlt (p := valC) (by rw [hvc]; simp; omega))
            have c3 : (((vl[k]).toNat : Int) == 9) = false := by simp; omega
            have c4 : (((vl[k]).toNat : Int) != 9) = true := by simp; omega
            clear hvc
            go_wp2
            have hfin := fld_set hblk (.string ⟨#[]⟩) (.string ⟨#[]⟩)
            obtain ⟨q0, q1, -, -⟩ := fld_cells hfin
            refine bodyPost_ret (v := lineV none) (by simp [results, Tryd.results27, go_sem, q0, q1, lineV]) rfl ?_
            exact ⟨by rw [HV.out, if_neg (by rw [Hn.out]; simp)], fld_chg hc01 (Nat.le_refl _) _ _⟩
            all_goals (rename_i hbad; rcases hbad with hbad | hbad <;> first | omega | (simp at hbad; omega) | (exact absurd (c4.symm.trans hbad) (by decide)))
        · obtain rfl : k = vl.length := by omega
          have Hallv : Hid (vl.all valC = true) := by have := hall.out; rw [List.take_length] at this; exact this
          clear hall
          go_wp2_with fail
          refine (small_any nm w1 (by omega)).mono ?_
          rintro e w2 ⟨rfl, hc2⟩
          go_wp2_with fail
          refine (trim_any vl w2 (by omega)).mono ?_
          rintro e w3 ⟨rfl, hc3⟩
          have hc13 := hc2.trans hc3 (fun _ _ h => h)
          have hc03 := hc01.trans hc13 (fun _ _ h => h)
          have hblk3 := hblk.chg hc13 id
          clear k0 k1 f0 f1
          obtain ⟨k0, k1, f0, f1⟩ := fld_cells hblk3
          go_wp2
          have hfin := fld_set hblk3 (.string (str (nm.map low))) (.string (str (trimF vl)))
          obtain ⟨q0, q1, -, -⟩ := fld_cells hfin
          refine bodyPost_ret (v := lineV (some (nm.map low, trimF vl))) (by simp [results, Tryd.results27, go_sem, q0, q1, lineV]) rfl ?_
          exact ⟨by rw [HV.out, if_pos (by simp [hn0, Hall.out, Hallv.out])], fld_chg hc03 (Nat.le_refl _) _ _⟩
end Go.Proofs.YtkbmajkoojgkpaaDoor
