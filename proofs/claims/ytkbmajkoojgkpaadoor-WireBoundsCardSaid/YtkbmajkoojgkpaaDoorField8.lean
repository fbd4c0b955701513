/- The contracts of Count and Get, in field and in the reference. -/
import Derived.Test.YtkbmajkoojgkpaaDoorField3
namespace Go.Proofs.YtkbmajkoojgkpaaDoor
open Go.RowKit

abbrev Fld := List UInt8 × List UInt8
/-- A slice of fields that is read. -/
structure RdF (w : World) (A : Option Addr) (fs : List Fld) : Prop where mk :: (out : 0 < fs.length → ∃ ad, A = some ad ∧ ∀ (j : Nat) (h : j < fs.length), w.cell? (ad.add (j * 2)) = some (.string (str fs[j].1)) ∧ w.cell? ((ad.add (j * 2)).add 1) = some (.string (str fs[j].2)))
theorem RdF.chg {w w' : World} {A : Option Addr} {fs : List Fld} {S : Nat → Prop} (h : RdF w A fs) (hc : Chg w w' S) (hS : ∀ k, k < w.heap.size → ¬ S k) : RdF w' A fs :=
  ⟨fun hn => by
    obtain ⟨ad, e, hcell⟩ := h.out hn
    exact ⟨ad, e, fun j hj => ⟨hc.cell (hcell j hj).1 (hS _ (World.block_lt_of_cell? _ _ (hcell j hj).1)), hc.cell (hcell j hj).2 (hS _ (World.block_lt_of_cell? _ _ (hcell j hj).2))⟩⟩⟩
theorem RdF.at {w : World} {A : Option Addr} {fs : List Fld} {k : Nat} (h : RdF w A fs) (hk : k < fs.length) : ∃ ad, A = some ad ∧ w.cell? (ad.add (k * 2)) = some (.string (str fs[k].1)) ∧ w.cell? ((ad.add (k * 2)).add 1) = some (.string (str fs[k].2)) ∧ w.cell? ⟨(ad.add (k * 2)).block, (ad.add (k * 2)).off + 1, none⟩ = some (.string (str fs[k].2)) := by
  obtain ⟨ad, e, hc⟩ := h.out (by omega)
  have e1 : ∀ x : Addr, x.add 1 = ⟨x.block, x.off + 1, none⟩ := fun x => by unfold Addr.add; simp
  have h2 := (hc k hk).2
  exact ⟨ad, e, (hc k hk).1, h2, by rw [e1] at h2; exact h2⟩

/-- How many have the name. -/
def cntF (name : List UInt8) : List Fld → Nat
  | [] => 0
  | f :: fs => (if f.1 = name then 1 else 0) + cntF name fs
theorem cntF_append (name : List UInt8) (b : List Fld) : ∀ a : List Fld, cntF name (a ++ b) = cntF name a + cntF name b
  | [] => by simp [cntF]
  | f :: fs => by rw [List.cons_append, cntF, cntF, cntF_append name b fs]; omega
theorem cntF_next {name : List UInt8} {fs : List Fld} {k : Nat} (hk : k < fs.length) : cntF name (fs.take (k + 1)) = cntF name (fs.take k) + (if fs[k].1 = name then 1 else 0) := by
  rw [List.take_succ_eq_append_getElem hk, cntF_append]
  rfl
theorem cntF_le (name : List UInt8) : ∀ fs : List Fld, cntF name fs ≤ fs.length
  | [] => Nat.le_refl _
  | f :: fs => by
    have := cntF_le name fs
    rw [cntF, List.length_cons]
    split <;> omega
/-- The first one that has it. -/
def findF (name : List UInt8) : List Fld → List UInt8
  | [] => []
  | f :: fs => if f.1 = name then f.2 else findF name fs
theorem findF_at {name : List UInt8} {fs : List Fld} {k : Nat} (hk : k < fs.length) (h0 : cntF name (fs.take k) = 0) (h1 : fs[k].1 = name) : findF name fs = fs[k].2 := by
  induction fs generalizing k with
  | nil => simp at hk
  | cons f fs ih =>
    rw [findF]
    rcases k with _ | k
    · have h1' : f.1 = name := h1
      rw [if_pos h1']
      rfl
    · simp only [List.take_succ_cons, cntF] at h0
      rw [if_neg (by intro h; rw [if_pos h] at h0; omega)]
      simp only [List.getElem_cons_succ] at h1 ⊢
      exact ih (by simpa using hk) (by omega) h1
def getV (name : List UInt8) (fs : List Fld) : Value :=
  if cntF name fs = 0 then .tuple #[.string ⟨#[]⟩, .int .i64 5] else if cntF name fs = 1 then .tuple #[.string (str (findF name fs)), .int .i64 0] else .tuple #[.string ⟨#[]⟩, .int .i64 6]
theorem str_eq_true {a b : List UInt8} (h : a = b) : ((str a).toList == (str b).toList) = true := by rw [h]; simp
theorem str_eq_false {a b : List UInt8} (h : ¬ a = b) : ((str a).toList == (str b).toList) = false := by rw [str_toList, str_toList]; simpa using h

set_option maxHeartbeats 2000000 in
set_option maxRecDepth 20000 in
theorem ref_count_any (A : Option Addr) (n c : Nat) (fs : List Fld) (name : List UInt8) (w : World) (hn : fs.length = n) (hr : RdF w A fs) (hm : n ≤ 1000000) :
    Calls Tryd.prog 35 #[.slice A n c, .string (str name)] w fun e w' => e = .returned (.int .i64 (cntF name fs)) ∧ w = w' := by
  subst hn
  go_enter Tryd.func35, Tryd.ntmps35
  go_wp2_with fail
  go_loop [5, 6] (fun nv iv => ∃ k q : Nat, k ≤ fs.length ∧ iv = .int .i64 k ∧ nv = .int .i64 q ∧ q ≤ k ∧ Hid (q = cntF name (fs.take k))) (fun _ iv => fs.length - (intOf iv).toNat)
  case atStart => exact ⟨0, 0, Nat.zero_le _, rfl, rfl, Nat.le_refl _, (show 0 = cntF name (fs.take 0) by simp [cntF])⟩
  case round =>
    obtain ⟨k, q, hk, rfl, rfl, hqk, hq⟩ := hrel
    by_cases hlt : k < fs.length
    · obtain ⟨ad, rfl, hc0, hc1, hc2⟩ := hr.at hlt
      have HN := Lib.hid (cntF_next (name := name) hlt)
      by_cases hx : fs[k].1 = name
      · have he := str_eq_true hx
        have hq2 : Hid (q + 1 = cntF name (fs.take (k + 1))) := by rw [HN.out, if_pos hx, ← hq.out]; exact rfl
        clear hx
        go_wp2
        go_round
        case rel => exact ⟨k + 1, q + 1, by omega, by go_num, by go_num, by omega, hq2⟩
        case measure => simp [intOf]; omega
      · have he := str_eq_false hx
        have hq2 : Hid (q = cntF name (fs.take (k + 1))) := by rw [HN.out, if_neg hx, ← hq.out]; exact rfl
        clear hx
        go_wp2
        go_round
        case rel => exact ⟨k + 1, q, by omega, by go_num, rfl, by omega, hq2⟩
        case measure => simp [intOf]; omega
    · obtain rfl : k = fs.length := by omega
      have hq2 : Hid (q = cntF name fs) := by have := hq.out; rw [List.take_length] at this; exact this
      clear hq
      go_wp2
      go_ret
      exact ⟨by rw [← hq2.out]; rfl, rfl⟩

set_option maxHeartbeats 2000000 in
set_option maxRecDepth 20000 in
theorem count_any (A : Option Addr) (n c : Nat) (fs : List Fld) (name : List UInt8) (w : World) (hn : fs.length = n) (hr : RdF w A fs) (hm : n ≤ 1000000) :
    Calls Tryd.prog 34 #[.slice A n c, .string (str name)] w fun e w' => e = .returned (.int .i64 (cntF name fs)) ∧ Chg w w' (fun _ => False) := by
  subst hn
  go_enter Tryd.func34, Tryd.ntmps34
  go_wp2_with fail
  go_loopw [5, 7, 10] (fun nv _ iv wr => ∃ k q : Nat, k ≤ fs.length ∧ iv = .int .i64 k ∧ nv = .int .i64 q ∧ q ≤ k ∧ Hid (q = cntF name (fs.take k)) ∧ Chg w wr (fun _ => False)) (fun _ _ iv _ => fs.length - (intOf iv).toNat)
  case atStart => exact ⟨0, 0, Nat.zero_le _, rfl, rfl, Nat.le_refl _, (show 0 = cntF name (fs.take 0) by simp [cntF]), Chg.refl _ _⟩
  case round =>
    obtain ⟨k, q, hk, rfl, rfl, hqk, hq, hc⟩ := hrel
    by_cases hlt : k < fs.length
    · obtain ⟨ad, rfl, hc0, hc1, hc2⟩ := (hr.chg hc (fun _ _ => id)).at hlt
      have HN := Lib.hid (cntF_next (name := name) hlt)
      have hal := hc.alloc (.cells #[.string (str fs[k].1), .string (str fs[k].2)] 42)
      by_cases hx : fs[k].1 = name
      · have he := str_eq_true hx
        have hq2 : Hid (q + 1 = cntF name (fs.take (k + 1))) := by rw [HN.out, if_pos hx, ← hq.out]; exact rfl
        clear hx
        go_wp2
        go_roundw
        case rel => exact ⟨k + 1, q + 1, by omega, by go_num, by go_num, by omega, hq2, hal⟩
        case measure => simp [intOf]; omega
      · have he := str_eq_false hx
        have hq2 : Hid (q = cntF name (fs.take (k + 1))) := by rw [HN.out, if_neg hx, ← hq.out]; exact rfl
        clear hx
        go_wp2
        go_roundw
        case rel => exact ⟨k + 1, q, by omega, by go_num, rfl, by omega, hq2, hal⟩
        case measure => simp [intOf]; omega
    · obtain rfl : k = fs.length := by omega
      have hq2 : Hid (q = cntF name fs) := by have := hq.out; rw [List.take_length] at this; exact this
      clear hq
      go_wp2
      go_ret
      exact ⟨by rw [← hq2.out]; rfl, hc⟩

theorem getV_0 {name : List UInt8} {fs : List Fld} (h : cntF name fs = 0) : getV name fs = .tuple #[.string ⟨#[]⟩, .int .i64 5] := if_pos h
theorem getV_1 {name : List UInt8} {fs : List Fld} (h : cntF name fs = 1) : getV name fs = .tuple #[.string (str (findF name fs)), .int .i64 0] := by
  unfold getV
  rw [if_neg (by omega), if_pos h]
theorem getV_2 {name : List UInt8} {fs : List Fld} (h : 2 ≤ cntF name fs) : getV name fs = .tuple #[.string ⟨#[]⟩, .int .i64 6] := by
  unfold getV
  rw [if_neg (by omega), if_neg (by omega)]
theorem cnt_all {name : List UInt8} {fs : List Fld} (h : cntF name (fs.take fs.length) = 0) : cntF name fs = 0 := by rwa [List.take_length] at h

set_option maxHeartbeats 2000000 in
set_option maxRecDepth 20000 in
theorem ref_get_any (A : Option Addr) (n c : Nat) (fs : List Fld) (name : List UInt8) (w : World) (hn : fs.length = n) (hr : RdF w A fs) (hm : n ≤ 1000000) :
    Calls Tryd.prog 33 #[.slice A n c, .string (str name)] w fun e w' => e = .returned (getV name fs) ∧ w = w' := by
  subst hn
  have hcn := ref_count_any A fs.length c fs name w rfl hr hm
  obtain ⟨V, hV⟩ : ∃ V, V = getV name fs := ⟨_, rfl⟩
  rw [← hV]
  have HV := Lib.hid hV
  clear hV
  obtain ⟨q, hq⟩ : ∃ q, q = cntF name fs := ⟨_, rfl⟩
  rw [← hq] at hcn
  have Hq := Lib.hid hq
  clear hq
  go_enter Tryd.func33, Tryd.ntmps33
  go_wp2_with fail
  refine hcn.mono ?_
  rintro e w1 ⟨rfl, rfl⟩
  clear hcn
  have hp : q = 0 ∨ q = 1 ∨ 2 ≤ q := by omega
  rcases hp with rfl | rfl | h2
  · go_wp2
    go_ret2
    exact ⟨by rw [HV.out, getV_0 Hq.out.symm]; rfl, rfl⟩
  · go_wp2_with fail
    go_loop [6] (fun iv => ∃ k : Nat, k ≤ fs.length ∧ iv = .int .i64 k ∧ Hid (cntF name (fs.take k) = 0)) (fun iv => fs.length - (intOf iv).toNat)
    case atStart => exact ⟨0, Nat.zero_le _, rfl, (show cntF name (fs.take 0) = 0 by simp [cntF])⟩
    case round =>
      obtain ⟨k, hk, rfl, h0⟩ := hrel
      by_cases hlt : k < fs.length
      · obtain ⟨ad, rfl, hc0, hc1, hc2⟩ := hr.at hlt
        have HN := Lib.hid (cntF_next (name := name) hlt)
        by_cases hx : fs[k].1 = name
        · have he := str_eq_true hx
          have Hf := Lib.hid (findF_at hlt h0.out hx)
          clear hx
          go_wp2
          go_ret2
          exact ⟨by rw [HV.out, getV_1 Hq.out.symm, Hf.out]; rfl, rfl⟩
        · have he := str_eq_false hx
          have h1 : Hid (cntF name (fs.take (k + 1)) = 0) := by rw [HN.out, if_neg hx, h0.out]; exact rfl
          clear hx
          go_wp2
          go_round
          case rel => exact ⟨k + 1, by omega, by go_num, h1⟩
          case measure => simp [intOf]; omega
      · obtain rfl : k = fs.length := by omega
        have := cnt_all h0.out
        have := Hq.out
        omega
  · have b0 : ((q : Int) == 0) = false := by simp; omega
    have b1 : ((q : Int) == 1) = false := by simp; omega
    go_wp2
    go_ret2
    exact ⟨by rw [HV.out, getV_2 (by rw [← Hq.out]; exact h2)]; rfl, rfl⟩

set_option maxHeartbeats 2000000 in
set_option maxRecDepth 20000 in
theorem get_any (A : Option Addr) (n c : Nat) (fs : List Fld) (name : List UInt8) (w : World) (hn : fs.length = n) (hr : RdF w A fs) (hm : n ≤ 1000000) :
    Calls Tryd.prog 32 #[.slice A n c, .string (str name)] w fun e w' => e = .returned (getV name fs) ∧ Chg w w' (fun _ => False) := by
  subst hn
  have hcn := count_any A fs.length c fs name w rfl hr hm
  obtain ⟨V, hV⟩ : ∃ V, V = getV name fs := ⟨_, rfl⟩
  rw [← hV]
  have HV := Lib.hid hV
  clear hV
  obtain ⟨q, hq⟩ : ∃ q, q = cntF name fs := ⟨_, rfl⟩
  rw [← hq] at hcn
  have Hq := Lib.hid hq
  clear hq
  go_enter Tryd.func32, Tryd.ntmps32
  go_wp2_with fail
  refine hcn.mono ?_
  rintro e w1 ⟨rfl, hcw⟩
  clear hcn
  have hp : q = 0 ∨ q = 1 ∨ 2 ≤ q := by omega
  rcases hp with rfl | rfl | h2
  · go_wp2
    go_ret2
    exact ⟨by rw [HV.out, getV_0 Hq.out.symm]; rfl, hcw⟩
  · go_wp2_with fail
    go_loopw [7, 17] (fun _ iv wr => ∃ k : Nat, k ≤ fs.length ∧ iv = .int .i64 k ∧ Hid (cntF name (fs.take k) = 0) ∧ Chg w wr (fun _ => False)) (fun _ iv _ => fs.length - (intOf iv).toNat)
    case atStart => exact ⟨0, Nat.zero_le _, rfl, (show cntF name (fs.take 0) = 0 by simp [cntF]), hcw⟩
    case round =>
      obtain ⟨k, hk, rfl, h0, hc⟩ := hrel
      by_cases hlt : k < fs.length
      · obtain ⟨ad, rfl, hc0, hc1, hc2⟩ := (hr.chg hc (fun _ _ => id)).at hlt
        have HN := Lib.hid (cntF_next (name := name) hlt)
        have hal := hc.alloc (.cells #[.string (str fs[k].1), .string (str fs[k].2)] 42)
        by_cases hx : fs[k].1 = name
        · have he := str_eq_true hx
          have Hf := Lib.hid (findF_at hlt h0.out hx)
          clear hx
          go_wp2
          go_ret2
          exact ⟨by rw [HV.out, getV_1 Hq.out.symm, Hf.out]; rfl, hal⟩
        · have he := str_eq_false hx
          have h1 : Hid (cntF name (fs.take (k + 1)) = 0) := by rw [HN.out, if_neg hx, h0.out]; exact rfl
          clear hx
          go_wp2
          go_roundw
          case rel => exact ⟨k + 1, by omega, by go_num, h1, hal⟩
          case measure => simp [intOf]; omega
      · obtain rfl : k = fs.length := by omega
        have := cnt_all h0.out
        have := Hq.out
        omega
  · have b0 : ((q : Int) == 0) = false := by simp; omega
    have b1 : ((q : Int) == 1) = false := by simp; omega
    go_wp2
    go_ret2
    exact ⟨by rw [HV.out, getV_2 (by rw [← Hq.out]; exact h2)]; rfl, hcw⟩
end Go.Proofs.YtkbmajkoojgkpaaDoor
