/- The contract of the reference's Words. -/
import Derived.Test.YtkbmajkoojgkpaaDoorField4
namespace Go.Proofs.YtkbmajkoojgkpaaDoor
open Go.RowKit

/-- The pieces before place i, the last of them begun at fr. -/
def PieceR (xs : List UInt8) (D : List (List UInt8)) (i fr : Nat) : Prop :=
  (i ≤ xs.length ∧ fr ≤ i ∧ splitL 44 xs = D ++ splitL 44 (xs.drop fr) ∧ ∀ x, x ∈ (xs.drop fr).take (i - fr) → x ≠ 44) ∨ (i = xs.length + 1 ∧ fr ≤ i ∧ splitL 44 xs = D)
theorem PieceR.le {xs : List UInt8} {D : List (List UInt8)} {i fr : Nat} (h : PieceR xs D i fr) : fr ≤ i := by
  rcases h with ⟨_, h, _⟩ | ⟨_, h, _⟩ <;> exact h
theorem PieceR.on {xs : List UInt8} {D : List (List UInt8)} {i fr : Nat} (h : PieceR xs D i fr) (hi : i < xs.length) (hx : xs[i] ≠ 44) : PieceR xs D (i + 1) fr := by
  rcases h with ⟨h1, h2, h3, h4⟩ | ⟨h1, _⟩
  · refine .inl ⟨hi, by omega, h3, fun x hx2 => ?_⟩
    have e : i + 1 - fr = (i - fr) + 1 := by omega
    have hl : i - fr < (xs.drop fr).length := by rw [List.length_drop]; omega
    rw [e, List.take_succ_eq_append_getElem hl] at hx2
    rcases List.mem_append.1 hx2 with hx2 | hx2
    · exact h4 x hx2
    · rw [List.mem_singleton.1 hx2, List.getElem_drop]
      have e2 : fr + (i - fr) = i := by omega
      simp only [e2]
      exact hx
  · omega
theorem PieceR.cut {xs : List UInt8} {D : List (List UInt8)} {i fr : Nat} (h : PieceR xs D i fr) (hi : i < xs.length) (hx : xs[i] = 44) : PieceR xs (D ++ [(xs.drop fr).take (i - fr)]) (i + 1) (i + 1) := by
  rcases h with ⟨h1, h2, h3, h4⟩ | ⟨h1, _⟩
  · refine .inl ⟨hi, Nat.le_refl _, ?_, fun x hx2 => by simp at hx2⟩
    have e : xs.drop fr = (xs.drop fr).take (i - fr) ++ 44 :: xs.drop (i + 1) := by
      have e1 := (List.take_append_drop (i - fr) (xs.drop fr)).symm
      have e2 : (xs.drop fr).drop (i - fr) = 44 :: xs.drop (i + 1) := by
        rw [List.drop_drop, show fr + (i - fr) = i by omega, List.drop_eq_getElem_cons hi, hx]
      rw [e2] at e1
      exact e1
    have hs := splitL_hit 44 (xs.drop (i + 1)) _ h4
    rw [← e] at hs
    rw [h3, hs]
    simp
  · omega
theorem PieceR.last {xs : List UInt8} {D : List (List UInt8)} {fr : Nat} (h : PieceR xs D xs.length fr) : PieceR xs (D ++ [(xs.drop fr).take (xs.length - fr)]) (xs.length + 1) (xs.length + 1) := by
  rcases h with ⟨h1, h2, h3, h4⟩ | ⟨h1, _⟩
  · refine .inr ⟨rfl, Nat.le_refl _, ?_⟩
    have e : (xs.drop fr).take (xs.length - fr) = xs.drop fr := List.take_of_length_le (by rw [List.length_drop]; omega)
    rw [e] at h4 ⊢
    rw [h3, splitL_miss 44 _ h4]
  · omega
theorem str_mid (l : List UInt8) (a b : Nat) : (str l).extract a b = str ((l.drop a).take (b - a)) := by
  apply ByteArray.ext
  simp [str, ByteArray.data_extract]
theorem wordsOf_snoc (D : List (List UInt8)) (p : List UInt8) : wordsOf (D ++ [p]) = wordsOf D ++ (if (trimF p).isEmpty then [] else [(trimF p).map low]) := by
  rw [wordsOf_append]
  congr 1
  unfold wordsOf
  cases h : (trimF p).isEmpty <;> simp [h]
theorem eq_44 {c : UInt8} (h : c.toNat = 44) : c = 44 := UInt8.toNat_inj.1 (by rw [h]; rfl)
theorem ne_44 {c : UInt8} (h : c.toNat ≠ 44) : c ≠ 44 := fun e => h (by rw [e]; rfl)

set_option maxHeartbeats 4000000 in
set_option maxRecDepth 20000 in
theorem ref_words_any (xs : List UInt8) (w : World) (hl : xs.length ≤ 1000000) :
    Calls Tryd.prog 30 #[.string (str xs)] w (WordsP w (wordsF xs)) := by
  have hsz := str_size xs
  go_enter Tryd.func30, Tryd.ntmps30
  go_wp2_with fail
  go_loopw [3, 4, 5, 6] (fun lv fv iv _ wr => ∃ (i fr : Nat) (D : List (List UInt8)) (A : Option Addr) (c : Nat) (us : List Value), i ≤ xs.length + 1 ∧ fr ≤ i ∧ iv = .int .i64 i ∧ fv = .int .i64 fr ∧ Hid (PieceR xs D i fr) ∧ lv = .slice A (List.length us) c ∧ RowT wr (.slice A (List.length us) c) us ∧ us.length ≤ i ∧ Hid (us = (wordsOf D).map strV) ∧ Chg w wr (fun _ => False) ∧ NewFoot w (.slice none 0 0) (.slice A (List.length us) c)) (fun _ _ iv _ _ => xs.length + 1 - (intOf iv).toNat)
  case atStart => exact ⟨0, 0, [], none, 0, [], by omega, Nat.le_refl _, rfl, rfl, (show PieceR xs [] 0 0 from .inl ⟨Nat.zero_le _, Nat.le_refl _, by simp, by simp⟩), rfl, RowT.nil _, Nat.le_refl _, (show ([] : List Value) = (wordsOf []).map strV by simp [wordsOf]), Chg.refl _ _, fun _ e => .inl e⟩
  case round =>
    obtain ⟨i, fr, D, A, c, us, hi, hfi, rfl, rfl, HP, rfl, hrow, hul, Hus, hcr, hfr⟩ := hrel
    by_cases hlast : i ≤ xs.length
    · by_cases hcont : ∃ h : i < xs.length, (xs[i]).toNat ≠ 44
      · obtain ⟨hlt, h44⟩ := hcont
        have hix := str_at xs i hlt
        have m44 : (((xs[i]).toNat : Int) != 44) = true := by simp; omega
        have HP2 := Lib.hid (HP.out.on hlt (ne_44 h44))
        clear HP
        go_wp2
        go_roundw
        case rel => exact ⟨i + 1, fr, D, A, c, us, by omega, by omega, by go_num, rfl, HP2, rfl, hrow, by omega, Hus, hcr, hfr⟩
        case measure => simp [intOf]; omega
      · obtain ⟨p, hp⟩ : ∃ p, p = (xs.drop fr).take (i - fr) := ⟨_, rfl⟩
        have hpl : p.length ≤ xs.length := by rw [hp, List.length_take, List.length_drop]; omega
        have hst : (str xs).extract fr i = str p := by rw [str_mid, hp]
        have HP2 : Hid (PieceR xs (D ++ [p]) (i + 1) (i + 1)) := by
          rw [hp]
          by_cases hlt : i < xs.length
          · exact HP.out.cut hlt (eq_44 (Classical.not_not.1 fun h => hcont ⟨hlt, h⟩))
          · obtain rfl : i = xs.length := by omega
            exact HP.out.last
        have hex : (i : Int) < (xs.length : Int) → ∀ h : i < (str xs).size, (str xs)[i]'h = 44 := fun h1 h2 => by
          have hlt : i < xs.length := by omega
          rw [str_at xs i hlt h2]
          exact eq_44 (Classical.not_not.1 fun h => hcont ⟨hlt, h⟩)
        have hsn := wordsOf_snoc D p
        have htl := trimF_len p
        have Hsn := Lib.hid hsn
        clear HP hcont hp hsn
        have htr := fun (wz : World) => ref_trim_any p wz (by omega)
        generalize trimF p = q at *
        have key : ∀ (h : i < xs.length ∨ ¬ i < xs.length), True := fun _ => trivial
        rcases Nat.lt_or_ge i xs.length with hlt | hge
        all_goals
          (try have hix : ∀ h : i < (str xs).size, (str xs)[i]'h = 44 := hex (by omega))
          clear hex key
          go_wp2_with fail
          refine (htr _).mono ?_
          rintro e w2 ⟨rfl, rfl⟩
          go_wp2_with fail
          refine (ref_small_any q wr (by omega)).mono ?_
          rintro e w3 ⟨rfl, hc3⟩
          have hrow3 := hrow.chg hc3 (fun _ _ => id)
          by_cases hq : q = []
          · subst hq
            have hse : (str (([] : List UInt8).map low)).toList.isEmpty = true := by rw [str_toList]; rfl
            have hse2 : (str ([] : List UInt8)).toList.isEmpty = true := by rw [str_toList]; rfl
            go_wp2_with fail
            go_roundw
            case rel => exact ⟨i + 1, i + 1, D ++ [p], A, c, us, by omega, Nat.le_refl _, by go_num, by go_num, HP2, rfl, hrow3, by omega, (show us = (wordsOf (D ++ [p])).map strV by rw [Hsn.out]; simpa using Hus.out), hcr.trans hc3 (fun _ _ e => e), hfr⟩
            case measure => simp [intOf]; omega
          · obtain ⟨q2, hq2⟩ : ∃ q2, q2 = q.map low := ⟨_, rfl⟩
            rw [← hq2]
            have hse : (str q2).toList.isEmpty = false := by rw [str_toList, hq2]; cases q with | nil => exact absurd rfl hq | cons a b => rfl
            have hqe : q.isEmpty = false := by cases q with | nil => exact absurd rfl hq | cons a b => rfl
            have Hqe := Lib.hid hqe
            have Hq2 := Lib.hid hq2
            clear hqe hq2
            go_wp2_with (at_builtin; refine wpList_appT rfl _ _ rfl _ us (by rfl) (hrow3.chg ((Chg.refl w3 (fun _ => False)).alloc _) (fun _ _ => id)) w3.heap.size 1 (.string (str q2)) (by rfl) ((Blk.new w3 _ #[.string (str q2)]).cell 0) rfl (by omega) ?_; intro A4 c4 w4 hrow4 hc4 hf4)
            have hlu : (us ++ [Value.string (str q2)]).length = us.length + 1 := by simp
            have hcw : Chg w w4 (fun _ => False) := ((hcr.trans hc3 (fun _ _ e => e)).alloc _).trans hc4 (fun i hi e => newFoot_nil hfr hi e)
            go_roundw
            case rel =>
              refine ⟨i + 1, i + 1, D ++ [p], A4, c4, us ++ [.string (str q2)], by omega, Nat.le_refl _, by go_num, by go_num, HP2, by rw [hlu], by rw [hlu]; exact hrow4, by rw [hlu]; omega, ?_, hcw, by rw [hlu]; exact newFoot_nil_trans hfr hf4 (by have := (hcr.trans hc3 (fun _ _ e => e)).size; simp; omega)⟩
              show us ++ [Value.string (str q2)] = (wordsOf (D ++ [p])).map strV
              rw [Hsn.out, Hqe.out, Hus.out, Hq2.out]
              simp [strV]
            case measure => simp [intOf]; omega
    · have hD : splitL 44 xs = D := by
        rcases HP.out with ⟨h, _⟩ | ⟨_, _, h⟩
        · omega
        · exact h
      have hus : us = (wordsF xs).map strV := by rw [Hus.out, wordsF_eq, hD]
      have hul2 : us.length = (wordsF xs).length := by rw [hus]; simp
      have Hus2 := Lib.hid hus
      have Hul2 := Lib.hid hul2
      clear hus hul2 hD
      go_wp2
      go_ret
      rw [Hul2.out] at hrow hfr
      rw [Hus2.out] at hrow
      exact ⟨A, c, by rw [Hul2.out]; rfl, hrow, hcr, hfr⟩
end Go.Proofs.YtkbmajkoojgkpaaDoor
