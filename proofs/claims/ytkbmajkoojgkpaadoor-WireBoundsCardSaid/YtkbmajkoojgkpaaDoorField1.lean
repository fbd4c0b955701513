/- Letters: the contracts of letter, small and the reference's Small. -/
import Derived.Test.YtkbmajkoojgkpaaDoorTake
import Derived.Test.YtkbmajkoojgkpaaDoorFieldPlain
import Derived.Lib.ConvBytes
import Derived.Lib.Hide
namespace Go.Proofs.YtkbmajkoojgkpaaDoor
open Go.RowKit

/-- A row of bytes that a conversion made. -/
structure Low (w : World) (g : Nat) (xs : List UInt8) : Prop where mk ::
  (out : ∃ (cur : Array Value) (F : Nat), w.heap[g]? = some (.cells cur 5 (F, F + 1)) ∧ cur.size = F ∧ xs.length ≤ F ∧ cur.toList.take xs.length = Bs xs)
section
variable {w w' : World} {g : Nat} {xs : List UInt8}
theorem Low.start (w : World) (xs : List UInt8) : Low (Lib.bytesWorld w 5 (str xs)) w.heap.size xs := by
  refine ⟨Lib.bytesCells w 5 (str xs), _, Lib.bytesWorld_at_new w _ _, rfl, ?_, ?_⟩
  · simp [Lib.bytesCells, str]
  · simp [Lib.bytesCells, str, Bs, B8]
theorem Low.cell (h : Low w g xs) {k : Nat} (hk : k < xs.length) : w.cell? ⟨g, k, none⟩ = some (B8 xs[k]) := by
  obtain ⟨cur, F, hb, hF, hx, ht⟩ := h.out
  rw [cell_of_row w g k cur _ _ hb, ← Array.getElem?_toList]
  have : (cur.toList.take xs.length)[k]? = (Bs xs)[k]? := by rw [ht]
  rw [List.getElem?_take, if_pos hk] at this
  rw [this]
  simp [Bs, hk]
theorem Low.free (h : Low w g xs) {k : Nat} (hk : k < xs.length) : w.frozen? ⟨g, k, none⟩ = false := by
  obtain ⟨cur, F, hb, hF, hx, ht⟩ := h.out
  simp [World.frozen?, hb]
  omega
theorem Low.rd (h : Low w g xs) : Rd w (some ⟨g, 0, none⟩) xs :=
  ⟨fun _ => ⟨_, rfl, fun j u hu => by
    have hj := (List.getElem?_eq_some_iff.1 hu).1
    rw [show (⟨g, 0, none⟩ : Addr).add j = ⟨g, j, none⟩ from by unfold Addr.add; split <;> simp_all, h.cell hj]
    rw [List.getElem?_eq_getElem hj] at hu
    injection hu with hu
    rw [hu]⟩⟩
theorem Low.set (h : Low w g xs) (k : Nat) (c : UInt8) : Low (w.setCell ⟨g, k, none⟩ (B8 c)) g (xs.set k c) := by
  obtain ⟨cur, F, hb, hF, hx, ht⟩ := h.out
  refine ⟨cur.setIfInBounds k (B8 c), F, ?_, by simpa using hF, by simpa using hx, ?_⟩
  · simp only [World.setCell, Array.getElem?_modify]
    simp [hb]
  · rw [List.length_set, Array.toList_setIfInBounds, List.take_set, ht]
    simp [Bs, List.map_set]
end

/-- What the row holds when the bytes ahead of place k are small. -/
def mixed (xs : List UInt8) (k : Nat) : List UInt8 := (xs.take k).map low ++ xs.drop k
theorem mixed_len (xs : List UInt8) (k : Nat) : (mixed xs k).length = xs.length := by simp [mixed]; omega
theorem mixed_zero (xs : List UInt8) : mixed xs 0 = xs := by simp [mixed]
theorem mixed_all (xs : List UInt8) : mixed xs xs.length = xs.map low := by simp [mixed]
theorem mixed_get {xs : List UInt8} {k : Nat} (hk : k < xs.length) (h : k < (mixed xs k).length) : (mixed xs k)[k] = xs[k] := by
  have : (mixed xs k)[k]? = some xs[k] := by
    unfold mixed
    rw [List.getElem?_append_right (by simp; omega)]
    simp [Nat.min_eq_left (Nat.le_of_lt hk), hk]
  rw [List.getElem?_eq_getElem h] at this
  injection this
theorem mixed_set {xs : List UInt8} {k : Nat} (hk : k < xs.length) : (mixed xs k).set k (low xs[k]) = mixed xs (k + 1) := by
  unfold mixed
  rw [List.set_append_right _ _ (by simp; omega)]
  simp only [List.length_map, List.length_take, Nat.min_eq_left (Nat.le_of_lt hk), Nat.sub_self]
  rw [List.drop_eq_getElem_cons hk, List.set_cons_zero, List.take_succ_eq_append_getElem hk, List.map_append, List.append_assoc]
  rfl
theorem mixed_same {xs : List UInt8} {k : Nat} (hk : k < xs.length) (h : low xs[k] = xs[k]) : mixed xs (k + 1) = mixed xs k := by
  rw [← mixed_set hk, h]
  have hl : k < (mixed xs k).length := by rw [mixed_len]; exact hk
  have := mixed_get hk hl
  rw [← this]
  exact List.set_getElem_self hl

theorem or32_let : ∀ c : Fin 256, ((65 ≤ c.val ∧ c.val ≤ 90) ∨ (97 ≤ c.val ∧ c.val ≤ 122) → 97 ≤ (c.val ||| 32 : Nat) ∧ (c.val ||| 32 : Nat) ≤ 122 ∧ 65 ≤ c.val) ∧
    (97 ≤ (c.val ||| 32 : Nat) ∧ (c.val ||| 32 : Nat) ≤ 122 ∧ 65 ≤ c.val → (65 ≤ c.val ∧ c.val ≤ 90) ∨ (97 ≤ c.val ∧ c.val ≤ 122)) := by decide +kernel
theorem or32_low : ∀ c : Fin 256, isLet (UInt8.ofNat c.val) = true → (c.val ||| 32 : Nat) = (low (UInt8.ofNat c.val)).toNat := by decide +kernel
theorem low_not : ∀ c : Fin 256, isLet (UInt8.ofNat c.val) = false → low (UInt8.ofNat c.val) = UInt8.ofNat c.val := by decide +kernel
theorem ret_b {a b : Bool} (h : a = b) : Ending.returned (.bool a) = .returned (.bool b) := by rw [h]
theorem isLet_iff (c : UInt8) : isLet c = decide ((65 ≤ c.toNat ∧ c.toNat ≤ 90) ∨ (97 ≤ c.toNat ∧ c.toNat ≤ 122)) := by
  unfold isLet
  rw [Bool.decide_or]

set_option maxHeartbeats 1000000 in
theorem letter_any (c : UInt8) (w : World) : Calls Tryd.prog 46 #[.int .u8 c.toNat] w fun e w' => e = .returned (.bool (isLet c)) ∧ w = w' := by
  have hlt : c.toNat < 256 := c.toNat_lt
  have o1 := or32 ⟨c.toNat, hlt⟩
  have o2 := or32_let ⟨c.toNat, hlt⟩
  rw [isLet_iff]
  simp only at o1 o2
  generalize hn : c.toNat = n at *
  generalize hm : n ||| 32 = m at *
  have hm2 : m < 256 := by rw [← hm]; exact Nat.or_lt_two_pow (n := 8) (by omega) (by omega)
  clear hn hm
  have O2 := Lib.hid o2
  clear o2
  by_cases c1 : 97 ≤ m
  all_goals by_cases c2 : m ≤ 122
  all_goals by_cases c3 : 65 ≤ n
  all_goals
    go_enter Tryd.func46, Tryd.ntmps46
    go_wp2
    all_goals
      go_ret
      refine ⟨ret_b ?_, rfl⟩
      have := O2.out
      first
        | (symm; simp only [decide_eq_true_eq, decide_eq_false_iff_not]; omega)
        | (simp only [decide_eq_decide]; omega)
        | (rw [eq_comm]; simp; omega)

theorem low_isLet (c : UInt8) (h : isLet c = true) : (c.toNat ||| 32 : Nat) = (low c).toNat := by
  have := or32_low ⟨c.toNat, c.toNat_lt⟩
  simp only [UInt8.ofNat_toNat] at this
  exact this h
theorem low_other (c : UInt8) (h : isLet c = false) : low c = c := by
  have := low_not ⟨c.toNat, c.toNat_lt⟩
  simp only [UInt8.ofNat_toNat] at this
  exact this h

set_option maxHeartbeats 1000000 in
theorem small_any (xs : List UInt8) (w : World) (hm : xs.length ≤ 1000000000) : Calls Tryd.prog 47 #[.string (str xs)] w fun e w' => e = .returned (.string (str (xs.map low))) ∧ Chg w w' (fun _ => False) := by
  have hconv := Lib.run_convert_string_bytes (P := Tryd.prog) w 9 22 5 (str xs) Tryd.underlying9 Tryd.underlying22 Tryd.underlying5
  rw [str_size] at hconv
  have hlow := Low.start w xs
  have hcg : Chg w (Lib.bytesWorld w 5 (str xs)) (fun _ => False) := ⟨rfl, rfl, rfl, by rw [Lib.bytesWorld_size]; omega, fun i hi _ => Lib.bytesWorld_at_old w _ _ i hi⟩
  have hcap := grownCap_ge w xs.length 0 5
  generalize grownCap w xs.length 0 5 = G at *
  generalize Lib.bytesWorld w 5 (str xs) = w1 at *
  go_enter Tryd.func47, Tryd.ntmps47
  go_wp2_with fail
  go_loopw [10] (fun iv wr => ∃ k : Nat, k ≤ xs.length ∧ iv = .int .i64 k ∧ Low wr w.heap.size (mixed xs k) ∧ Chg w wr (fun _ => False)) (fun iv _ => xs.length - (intOf iv).toNat)
  case atStart => exact ⟨0, Nat.zero_le _, rfl, by rw [mixed_zero]; exact hlow, hcg⟩
  case round =>
    obtain ⟨k, hk, rfl, hl, hc⟩ := hrel
    by_cases hlt : k < xs.length
    · have hlm : k < (mixed xs k).length := by rw [mixed_len]; exact hlt
      have hcell := hl.cell hlm
      rw [mixed_get hlt hlm] at hcell
      have hcell2 : wr.cell? ⟨w.heap.size, k, none⟩ = some (.int .u8 ((xs[k]).toNat : Int)) := hcell
      clear hcell
      have hfree := hl.free hlm
      have hle := letter_any xs[k] wr
      have HL := Lib.hid hle
      have Hset := Lib.hid (hl.set k (low xs[k]))
      have hor := or32 ⟨(xs[k]).toNat, (xs[k]).toNat_lt⟩
      simp only at hor
      clear hle
      cases hx : isLet xs[k]
      · have Hx := Lib.hid hx
        have hsame := Lib.hid (mixed_same hlt (low_other _ hx))
        rw [hx] at HL
        clear hx
        go_wp2_with (go_at_call 46; refine HL.out.mono ?_; rintro e w' ⟨rfl, rfl⟩)
        go_roundw
        case rel => exact ⟨k + 1, by omega, by go_num, by rw [hsame.out]; exact hl, hc⟩
        case measure => simp [intOf]; omega
      · have hlo := Lib.hid (low_isLet _ hx)
        rw [hx] at HL
        clear hx
        go_wp2_with (go_at_call 46; refine HL.out.mono ?_; rintro e w' ⟨rfl, rfl⟩)
        go_roundw
        case rel =>
          refine ⟨k + 1, by omega, by go_num, ?_, hc.setCell (fun h => absurd h (Nat.lt_irrefl _)) _⟩
          rw [hlo.out, ← mixed_set hlt]
          exact Hset.out
        case measure => simp [intOf]; omega
    · obtain rfl : k = xs.length := by omega
      rw [mixed_all] at hl
      have hcv := conv_rd wr (some ⟨w.heap.size, 0, none⟩) G xs.length (xs.map low) (by simp) hl.rd
      go_wp2
      go_ret
      exact ⟨rfl, hc⟩
end Go.Proofs.YtkbmajkoojgkpaaDoor
