/- The contract of the reference's Line. -/
import Derived.Test.YtkbmajkoojgkpaaDoorField3
import Derived.Deep.RegionWith
namespace Go.Proofs.YtkbmajkoojgkpaaDoor
open Go.RowKit

theorem cutL_pre (c : UInt8) (r : List UInt8) : ∀ p : List UInt8, (∀ x, x ∈ p → x ≠ c) → cutL c (p ++ r) = (p ++ (cutL c r).1, (cutL c r).2.1, (cutL c r).2.2)
  | [], _ => rfl
  | b :: l, h => by
    rw [List.cons_append, cutL, if_neg (h b (by simp)), cutL_pre c r l (fun x hx => h x (by simp [hx]))]
    rfl
theorem mem_take_step {p : UInt8 → Prop} {l : List UInt8} {k : Nat} (hk : k < l.length) (h : ∀ x, x ∈ l.take k → p x) (hp : p l[k]) : ∀ x, x ∈ l.take (k + 1) → p x := fun x hx => by
  rw [List.take_succ_eq_append_getElem hk] at hx
  rcases List.mem_append.1 hx with hx | hx
  · exact h x hx
  · rw [List.mem_singleton.1 hx]; exact hp
/-- A byte that may not stand in a name. -/
theorem field_bad {s : List UInt8} {k : Nat} (hk : k < s.length) (h : ∀ x, x ∈ s.take k → x ≠ 58) (h1 : s[k] ≠ 58) (h2 : nameC s[k] = false) : fieldF s = none := by
  have e : s = s.take k ++ s.drop k := (List.take_append_drop k s).symm
  have hc := cutL_pre 58 (s.drop k) (s.take k) h
  rw [← e] at hc
  have hd : s.drop k = s[k] :: s.drop (k + 1) := List.drop_eq_getElem_cons hk
  unfold fieldF
  rw [hc, hd, cutL, if_neg h1]
  rw [if_neg]
  rintro ⟨_, _, h3, _⟩
  rw [List.all_append] at h3
  simp [h2] at h3
/-- No colon. -/
theorem field_none {s : List UInt8} (h : ∀ x, x ∈ s → x ≠ 58) : fieldF s = none := by
  have hc := cutL_pre 58 [] s h
  rw [List.append_nil] at hc
  unfold fieldF
  rw [hc]
  rw [if_neg]
  rintro ⟨h1, _⟩
  simp [cutL] at h1
/-- The colon is found. -/
theorem field_at {s : List UInt8} {k : Nat} (hk : k < s.length) (h : ∀ x, x ∈ s.take k → x ≠ 58) (h1 : s[k] = 58) (h2 : (s.take k).all nameC = true) :
    fieldF s = if k ≠ 0 ∧ (s.drop (k + 1)).all valC = true then some ((s.take k).map low, trimF (s.drop (k + 1))) else none := by
  have e : s = s.take k ++ s.drop k := (List.take_append_drop k s).symm
  have hc := cutL_pre 58 (s.drop k) (s.take k) h
  rw [← e] at hc
  have hd : s.drop k = s[k] :: s.drop (k + 1) := List.drop_eq_getElem_cons hk
  unfold fieldF
  rw [hc, hd, cutL, if_pos h1]
  simp only [List.append_nil, h2]
  have h3 : s.take k ≠ [] ↔ k ≠ 0 := by
    constructor
    · intro h4 h5; subst h5; exact h4 rfl
    · intro h4 h5
      have h6 : (s.take k).length = 0 := by rw [h5]; rfl
      rw [List.length_take] at h6
      omega
  by_cases hk0 : k ≠ 0
  · have := h3.2 hk0
    simp [hk0, this]
  · have h4 : ¬ s.take k ≠ [] := fun h5 => hk0 (h3.1 h5)
    simp only [h4, hk0, false_and, and_false, if_false]

theorem nameC_out {c : UInt8} (h1 : ¬ (97 ≤ c.toNat ∧ c.toNat ≤ 122)) (h2 : ¬ (65 ≤ c.toNat ∧ c.toNat ≤ 90)) (h3 : ¬ (48 ≤ c.toNat ∧ c.toNat ≤ 57)) (h4 : c.toNat ≠ 45) : nameC c = false := by
  simp only [nameC, isLet, Bool.or_eq_false_iff, decide_eq_false_iff_not]
  omega
theorem nameC_in {c : UInt8} (h : (97 ≤ c.toNat ∧ c.toNat ≤ 122) ∨ (65 ≤ c.toNat ∧ c.toNat ≤ 90) ∨ (48 ≤ c.toNat ∧ c.toNat ≤ 57) ∨ c.toNat = 45) : nameC c = true := by
  simp only [nameC, isLet, Bool.or_eq_true, decide_eq_true_eq]
  omega
theorem str_take (l : List UInt8) (k : Nat) : (str l).extract 0 k = str (l.take k) := by
  apply ByteArray.ext
  simp [str, ByteArray.data_extract]
theorem str_drop (l : List UInt8) (k : Nat) : (str l).extract k l.length = str (l.drop k) := by
  apply ByteArray.ext
  simp [str, ByteArray.data_extract]
  rw [List.take_of_length_le (by simp)]
theorem ne_58 {c : UInt8} (h : c.toNat ≠ 58) : c ≠ 58 := fun e => h (by rw [e]; rfl)
theorem eq_58 {c : UInt8} (h : c.toNat = 58) : c = 58 := UInt8.toNat_inj.1 (by rw [h]; rfl)
set_option maxHeartbeats 4000000 in
set_option maxRecDepth 20000 in
theorem ref_line_any (xs : List UInt8) (w : World) (hl : xs.length ≤ 1000000) :
    Calls Tryd.prog 28 #[.string (str xs)] w fun e w' => e = .returned (lineV (fieldF xs)) ∧ Chg w w' (fun _ => False) := by
  obtain ⟨V, hV⟩ : ∃ V, V = lineV (fieldF xs) := ⟨_, rfl⟩
  rw [← hV]
  have HV := Lib.hid hV
  clear hV
  have hblk : Blk (w.alloc (.cells #[.string ⟨#[]⟩, .string ⟨#[]⟩] 42)) w.heap.size 42 #[.string ⟨#[]⟩, .string ⟨#[]⟩] := Blk.new w _ _
  have hc01 : Chg w (w.alloc (.cells #[.string ⟨#[]⟩, .string ⟨#[]⟩] 42)) (fun _ => False) := (Chg.refl w _).alloc _
  have hsz := str_size xs
  go_enter Tryd.func28, Tryd.ntmps28
  go_wp2_with fail
  go_loop [4] (fun nv => ∃ k : Nat, k ≤ xs.length ∧ nv = .int .i64 k ∧ Hid (∀ x, x ∈ xs.take k → x ≠ 58) ∧ Hid ((xs.take k).all nameC = true)) (fun nv => xs.length - (intOf nv).toNat)
  case atStart => exact ⟨0, Nat.zero_le _, rfl, (show ∀ x, x ∈ xs.take 0 → x ≠ 58 by simp), (show (xs.take 0).all nameC = true by simp)⟩
  case round =>
    obtain ⟨k, hk, rfl, hno, hall⟩ := hrel
    by_cases hlt : k < xs.length
    · have hix := str_at xs k hlt
      have hcl := (xs[k]).toNat_lt
      by_cases h58 : (xs[k]).toNat = 58
      · have Hat := Lib.hid (field_at hlt hno.out (eq_58 h58) hall.out)
        by_cases hk0 : k = 0
        · subst hk0
          go_wp2
          obtain ⟨q0, q1, -, -⟩ := fld_cells hblk
          refine bodyPost_ret (v := lineV none) (by simp [results, Tryd.results28, go_sem, q0, q1, lineV]) rfl ?_
          exact ⟨by rw [HV.out, Hat.out, if_neg (by simp)], hc01⟩
        · have hkb : ((k : Int) == 0) = false := by simp; omega
          have hkl : ((k : Int) == (xs.length : Int)) = false := by simp; omega
          go_wp2_with fail
          go_loop [6] (fun iv => ∃ j : Nat, k + 1 + j ≤ xs.length ∧ iv = .int .i64 ((k + 1 + j : Nat) : Int) ∧ Hid (((xs.drop (k + 1)).take j).all valC = true)) (fun iv => xs.length - (intOf iv).toNat)
          case atStart => exact ⟨0, by omega, by go_num, (show ((xs.drop (k + 1)).take 0).all valC = true by simp)⟩
          case round =>
            obtain ⟨j, hj, rfl, hallv⟩ := hrel
            by_cases hlj : k + 1 + j < xs.length
            · obtain ⟨i, hi⟩ : ∃ i, i = k + 1 + j := ⟨_, rfl⟩
              have hjd : j < (xs.drop (k + 1)).length := by simp; omega
              have hgd : (xs.drop (k + 1))[j] = xs[k + 1 + j] := by simp
              have Hstep : valC xs[k + 1 + j] = true → Hid (((xs.drop (k + 1)).take (j + 1)).all valC = true) := fun h => all_step hjd hallv.out (by rw [hgd]; exact h)
              have Hbad : valC xs[k + 1 + j] = false → Hid ((xs.drop (k + 1)).all valC = false) := fun h => all_not hjd (by rw [hgd]; exact h)
              have HI := Lib.hid (show k + 1 + (j + 1) = i + 1 by omega)
              have hi1 : k < i := by omega
              clear hgd hjd
              rw [← hi] at hlj hj ⊢
              have Hstep' : valC xs[i] = true → Hid (((xs.drop (k + 1)).take (j + 1)).all valC = true) := by subst hi; exact Hstep
              have Hbad' : valC xs[i] = false → Hid ((xs.drop (k + 1)).all valC = false) := by subst hi; exact Hbad
              clear Hstep Hbad hix hcl h58
              have hix := str_at xs i hlj
              have hcl := (xs[i]).toNat_lt
              have hvc := valC_iff xs[i]
              have hp : (xs[i]).toNat = 9 ∨ ((xs[i]).toNat ≠ 9 ∧ (xs[i]).toNat < 32) ∨ (32 ≤ (xs[i]).toNat ∧ (xs[i]).toNat ≤ 126) ∨ 126 < (xs[i]).toNat := by omega
              clear hi
              rcases hp with c1 | ⟨c1, c2⟩ | ⟨c1, c2⟩ | c1
              · have Hs := Hstep' (by rw [hvc]; simp [c1])
                clear hvc Hstep' Hbad'
                go_wp2
                go_round
                case rel => exact ⟨j + 1, by have := HI.out; omega, by rw [HI.out]; go_num, Hs⟩
                case measure => simp [intOf]; omega
              · have Hn := Hbad' (by rw [hvc]; simp; omega)
                have c3 : (((xs[i]).toNat : Int) == 9) = false := by simp; omega
                have c4 : (((xs[i]).toNat : Int) != 9) = true := by simp; omega
                clear hvc Hstep' Hbad'
                go_wp2
                obtain ⟨q0, q1, -, -⟩ := fld_cells hblk
                refine bodyPost_ret (v := lineV none) (by simp [results, Tryd.results28, go_sem, q0, q1, lineV]) rfl ?_
                exact ⟨by rw [HV.out, Hat.out, if_neg (by rw [Hn.out]; simp)], hc01⟩
                all_goals (rename_i hbad; rcases hbad with hbad | hbad <;> first | omega | (simp at hbad; omega) | (exact absurd (c4.symm.trans hbad) (by decide)))
              · have Hs := Hstep' (by rw [hvc]; simp [c1, c2])
                clear hvc Hstep' Hbad'
                go_wp2
                go_round
                case rel => exact ⟨j + 1, by have := HI.out; omega, by rw [HI.out]; go_num, Hs⟩
                case measure => simp [intOf]; omega
              · have Hn := Hbad' (by rw [hvc]; simp; omega)
                have c3 : (((xs[i]).toNat : Int) == 9) = false := by simp; omega
                have c4 : (((xs[i]).toNat : Int) != 9) = true := by simp; omega
                clear hvc Hstep' Hbad'
                go_wp2
                obtain ⟨q0, q1, -, -⟩ := fld_cells hblk
                refine bodyPost_ret (v := lineV none) (by simp [results, Tryd.results28, go_sem, q0, q1, lineV]) rfl ?_
                exact ⟨by rw [HV.out, Hat.out, if_neg (by rw [Hn.out]; simp)], hc01⟩
                all_goals (rename_i hbad; rcases hbad with hbad | hbad <;> first | omega | (simp at hbad; omega) | (exact absurd (c4.symm.trans hbad) (by decide)))
            · have hje : k + 1 + j = xs.length := by omega
              have hallv2 : Hid ((xs.drop (k + 1)).all valC = true) := by
                have := hallv.out
                rw [List.take_of_length_le (by simp; omega)] at this
                exact this
              have hst := str_take xs k
              have hsd := str_drop xs (k + 1)
              have hk1 : k + 1 ≤ xs.length := by omega
              have hkI : ((k : Int) + 1) ≤ (xs.length : Int) := by omega
              have hwr : IntKind.i64.wrap ((k : Int) + 1) = (k : Int) + 1 := by rw [IntKind.wrap_i64]; omega
              have htn : ((k : Int) + 1).toNat = k + 1 := by omega
              have hsm := fun (wz : World) => ref_small_any (xs.take k) wz (by rw [List.length_take]; omega)
              have htr := fun (wz : World) => ref_trim_any (xs.drop (k + 1)) wz (by rw [List.length_drop]; omega)
              obtain ⟨nv, hnv⟩ : ∃ nv, nv = (xs.take k).map low := ⟨_, rfl⟩
              obtain ⟨tv, htv⟩ : ∃ tv, tv = trimF (xs.drop (k + 1)) := ⟨_, rfl⟩
              rw [← hnv] at hsm
              rw [← htv] at htr
              have Hnv := Lib.hid hnv
              have Htv := Lib.hid htv
              clear hix hnv htv
              rw [hje]
              go_wp2_with fail
              go_region_with (first
                | (go_at_call 49; refine (hsm _).mono ?_; rintro e w3 ⟨rfl, hc3⟩; have hc13 : Chg (w.alloc (.cells #[.string ⟨#[]⟩, .string ⟨#[]⟩] 42)) w3 (fun _ => False) := ((Chg.refl (w.alloc (.cells #[.string ⟨#[]⟩, .string ⟨#[]⟩] 42)) _).drew).trans hc3 (fun _ _ h => h); have hblk3 := hblk.chg hc13 id; obtain ⟨p0, p1, g0, g1⟩ := fld_cells hblk3)
                | (go_at_call 50; refine (htr _).mono ?_; rintro e w4 ⟨rfl, rfl⟩))
              all_goals
                have hc03 := hc01.trans hc13 (fun _ _ h => h)
                go_wp2
                have hfin := fld_set hblk3 (.string (str nv)) (.string (str tv))
                obtain ⟨q0, q1, -, -⟩ := fld_cells hfin
                refine bodyPost_ret (v := lineV (some (nv, tv))) (by simp [results, Tryd.results28, go_sem, q0, q1, lineV]) rfl ?_
                exact ⟨by rw [HV.out, Hat.out, if_pos ⟨hk0, hallv2.out⟩, Hnv.out, Htv.out], fld_chg hc03 (Nat.le_refl _) _ _⟩
      · have m58 : (((xs[k]).toNat : Int) != 58) = true := by simp; omega
        have hp : (97 ≤ (xs[k]).toNat ∧ (xs[k]).toNat ≤ 122) ∨ (65 ≤ (xs[k]).toNat ∧ (xs[k]).toNat ≤ 90) ∨ (48 ≤ (xs[k]).toNat ∧ (xs[k]).toNat ≤ 57) ∨ (xs[k]).toNat = 45 ∨
          (¬ (97 ≤ (xs[k]).toNat ∧ (xs[k]).toNat ≤ 122) ∧ ¬ (65 ≤ (xs[k]).toNat ∧ (xs[k]).toNat ≤ 90) ∧ ¬ (48 ≤ (xs[k]).toNat ∧ (xs[k]).toNat ≤ 57) ∧ (xs[k]).toNat ≠ 45) := by omega
        rcases hp with c1 | c1 | c1 | c1 | ⟨c1, c2, c3, c4⟩
        · obtain ⟨c1, c2⟩ := c1
          have Hs := Lib.hid (all_step hlt hall.out (nameC_in (.inl ⟨c1, c2⟩)))
          have Hn := Lib.hid (mem_take_step hlt hno.out (ne_58 (by omega)))
          go_wp2
          all_goals
            first
              | (go_round
                 case rel => exact ⟨k + 1, by omega, by go_num, Hn.out, Hs.out⟩
                 case measure => simp [intOf]; omega)
              | (exfalso; rename_i hb; simp at hb; omega)
              | (exfalso; rename_i a1 a2 a3 a4 a5 a6; simp at a2; omega)
        · obtain ⟨c1, c2⟩ := c1
          have Hs := Lib.hid (all_step hlt hall.out (nameC_in (.inr (.inl ⟨c1, c2⟩))))
          have Hn := Lib.hid (mem_take_step hlt hno.out (ne_58 (by omega)))
          go_wp2
          all_goals
            first
              | (go_round
                 case rel => exact ⟨k + 1, by omega, by go_num, Hn.out, Hs.out⟩
                 case measure => simp [intOf]; omega)
              | (exfalso; rename_i hb; simp at hb; omega)
              | (exfalso; rename_i a1 a2 a3 a4 a5 a6; simp at a2; omega)
        · obtain ⟨c1, c2⟩ := c1
          have Hs := Lib.hid (all_step hlt hall.out (nameC_in (.inr (.inr (.inl ⟨c1, c2⟩)))))
          have Hn := Lib.hid (mem_take_step hlt hno.out (ne_58 (by omega)))
          go_wp2
          all_goals
            first
              | (go_round
                 case rel => exact ⟨k + 1, by omega, by go_num, Hn.out, Hs.out⟩
                 case measure => simp [intOf]; omega)
              | (exfalso; rename_i hb; simp at hb; omega)
              | (exfalso; rename_i a1 a2 a3 a4 a5 a6; simp at a2; omega)
        · skip
          have Hs := Lib.hid (all_step hlt hall.out (nameC_in (.inr (.inr (.inr c1)))))
          have Hn := Lib.hid (mem_take_step hlt hno.out (ne_58 (by omega)))
          go_wp2
          all_goals
            first
              | (go_round
                 case rel => exact ⟨k + 1, by omega, by go_num, Hn.out, Hs.out⟩
                 case measure => simp [intOf]; omega)
              | (exfalso; rename_i hb; simp at hb; omega)
              | (exfalso; rename_i a1 a2 a3 a4 a5 a6; simp at a2; omega)
        · have Hf := Lib.hid (field_bad hlt hno.out (ne_58 h58) (nameC_out c1 c2 c3 c4))
          have m45 : (((xs[k]).toNat : Int) == 45) = false := by simp; omega
          have d1 : (xs[k]).toNat < 65 ∨ (90 < (xs[k]).toNat ∧ (xs[k]).toNat < 97) ∨ 122 < (xs[k]).toNat := by omega
          have d3 : (xs[k]).toNat < 48 ∨ 57 < (xs[k]).toNat := by omega
          clear c1 c2 c3
          rcases d1 with d1 | ⟨d1, d2⟩ | d1
          all_goals
            rcases d3 with d3 | d3
            all_goals
              first
                | omega
                | (go_wp2
                   all_goals
                     first
                       | (exfalso; rename_i hb; simp at hb; omega)
                       | (obtain ⟨q0, q1, -, -⟩ := fld_cells hblk
                          refine bodyPost_ret (v := lineV none) (by simp [results, Tryd.results28, go_sem, q0, q1, lineV]) rfl ?_
                          exact ⟨by rw [HV.out, Hf.out], hc01⟩))
    · obtain rfl : k = xs.length := by omega
      have Hf := Lib.hid (field_none (by have := hno.out; rw [List.take_length] at this; exact this))
      go_wp2
      all_goals
        obtain ⟨q0, q1, -, -⟩ := fld_cells hblk
        refine bodyPost_ret (v := lineV none) (by simp [results, Tryd.results28, go_sem, q0, q1, lineV]) rfl ?_
        exact ⟨by rw [HV.out, Hf.out], hc01⟩
end Go.Proofs.YtkbmajkoojgkpaaDoor
