/- FieldBlanks: the plain law, the contract of blanks, and the bytes made great. -/
import Derived.Test.YtkbmajkoojgkpaaDoorField6
import Derived.Deep.Slices
import Derived.ProofKit
import Derived.OpenShut
import Derived.ChangeOld
namespace Go.Proofs.YtkbmajkoojgkpaaDoor
open Go.RowKit

def upC (c : UInt8) : UInt8 := if 97 ≤ c.toNat ∧ c.toNat ≤ 122 then c - 32 else c
theorem up_facts : ∀ c : Fin 256, low (upC (UInt8.ofNat c.val)) = low (UInt8.ofNat c.val) ∧ nameC (upC (UInt8.ofNat c.val)) = nameC (UInt8.ofNat c.val) ∧ (upC (UInt8.ofNat c.val) = 58 → UInt8.ofNat c.val = 58) ∧
    (97 ≤ c.val ∧ c.val ≤ 122 → (upC (UInt8.ofNat c.val)).toNat + 32 = c.val) := by decide +kernel
theorem up_low (c : UInt8) : low (upC c) = low c := by
  have := (up_facts ⟨c.toNat, c.toNat_lt⟩).1
  simpa only [UInt8.ofNat_toNat] using this
theorem up_name (c : UInt8) : nameC (upC c) = nameC c := by
  have := (up_facts ⟨c.toNat, c.toNat_lt⟩).2.1
  simpa only [UInt8.ofNat_toNat] using this
theorem up_58 (c : UInt8) (h : c ≠ 58) : upC c ≠ 58 := by
  have := (up_facts ⟨c.toNat, c.toNat_lt⟩).2.2.1
  simp only [UInt8.ofNat_toNat] at this
  exact fun e => h (this e)
theorem up_toNat (c : UInt8) (h : 97 ≤ c.toNat ∧ c.toNat ≤ 122) : (upC c).toNat + 32 = c.toNat := by
  have := (up_facts ⟨c.toNat, c.toNat_lt⟩).2.2.2
  simp only [UInt8.ofNat_toNat] at this
  exact this h
theorem up_same (c : UInt8) (h : ¬ (97 ≤ c.toNat ∧ c.toNat ≤ 122)) : upC c = c := if_neg h

theorem field_join (name v : List UInt8) (h : ∀ x, x ∈ name → x ≠ 58) : fieldF (name ++ 58 :: v) = if name ≠ [] ∧ name.all nameC = true ∧ v.all valC = true then some (name.map low, trimF v) else none := by
  have hc := cutL_pre 58 (58 :: v) name h
  unfold fieldF
  rw [hc]
  simp [cutL]
theorem drop_bl (X : List UInt8) : ∀ A : List UInt8, (∀ x, x ∈ A → isBl x = true) → (A ++ X).dropWhile isBl = X.dropWhile isBl
  | [], _ => rfl
  | a :: l, h => by
    rw [List.cons_append, List.dropWhile_cons, if_pos (h a (by simp))]
    exact drop_bl X l (fun x hx => h x (by simp [hx]))
theorem dropR_bl (X B : List UInt8) (h : ∀ x, x ∈ B → isBl x = true) : dropR (X ++ B) = dropR X := by
  unfold dropR
  rw [List.reverse_append, drop_bl _ _ (fun x hx => h x (by simpa using hx))]
theorem trim_bl (A v B : List UInt8) (hA : ∀ x, x ∈ A → isBl x = true) (hB : ∀ x, x ∈ B → isBl x = true) : trimF (A ++ v ++ B) = trimF v := by
  rw [trimF_eq, ← trim_comm, dropR_bl _ _ hB, trim_comm, drop_bl _ _ hA, ← trimF_eq]
theorem bl_val {x : UInt8} (h : isBl x = true) : valC x = true := by
  rw [isBl_iff] at h
  have h' : x.toNat = 32 ∨ x.toNat = 9 := by simpa using h
  rw [valC_iff]
  simp
  omega
theorem all_bl {A : List UInt8} (h : ∀ x, x ∈ A → isBl x = true) : A.all valC = true := List.all_eq_true.2 fun x hx => bl_val (h x hx)
/-- Blanks at both ends, and great letters of the name, tell nothing. -/
theorem field_blanks (name v A B n2 : List UInt8) (h : ∀ x, x ∈ name → x ≠ 58) (hA : ∀ x, x ∈ A → isBl x = true) (hB : ∀ x, x ∈ B → isBl x = true) (hn : n2 = name ∨ n2 = name.map upC) :
    fieldF (n2 ++ 58 :: (A ++ v ++ B)) = fieldF (name ++ 58 :: v) := by
  have h2 : ∀ x, x ∈ n2 → x ≠ 58 := by
    rcases hn with rfl | rfl
    · exact h
    · intro x hx
      obtain ⟨y, hy, rfl⟩ := List.mem_map.1 hx
      exact up_58 y (h y hy)
  have h3 : n2.map low = name.map low := by
    rcases hn with rfl | rfl
    · rfl
    · rw [List.map_map]
      exact List.map_congr_left fun x _ => up_low x
  have h4 : n2.all nameC = name.all nameC := by
    rcases hn with rfl | rfl
    · rfl
    · rw [List.all_map]
      congr 1
      funext x
      exact up_name x
  have h5 : (n2 ≠ []) ↔ (name ≠ []) := by
    rcases hn with rfl | rfl
    · rfl
    · simp
  have h6 : (A ++ v ++ B).all valC = v.all valC := by rw [List.all_append, List.all_append, all_bl hA, all_bl hB]; simp
  rw [field_join _ _ h2, field_join _ _ h, h3, h4, h6, trim_bl A v B hA hB]
  simp only [h5]

/-! ### blanks -/
def blankB (b : Bool) : UInt8 := if b then 32 else 9
theorem blankB_bl (bs : List Bool) : ∀ x, x ∈ bs.map blankB → isBl x = true := fun x hx => by
  obtain ⟨b, _, rfl⟩ := List.mem_map.1 hx
  cases b <;> decide
/-- A slice of bools that is read. -/
structure RdB (w : World) (A : Option Addr) (bs : List Bool) : Prop where mk :: (out : 0 < bs.length → ∃ ad, A = some ad ∧ ∀ (j : Nat) (h : j < bs.length), w.cell? (ad.add j) = some (.bool bs[j]))
theorem RdB.at {w : World} {A : Option Addr} {bs : List Bool} {k : Nat} (h : RdB w A bs) (hk : k < bs.length) : ∃ ad, A = some ad ∧ w.cell? (ad.add k) = some (.bool bs[k]) := by
  obtain ⟨ad, e, hc⟩ := h.out (by omega)
  exact ⟨ad, e, hc k hk⟩
theorem RdB.chg {w w' : World} {A : Option Addr} {bs : List Bool} (h : RdB w A bs) (hc : Chg w w' (fun _ => False)) : RdB w' A bs :=
  ⟨fun hn => by
    obtain ⟨ad, e, hcell⟩ := h.out hn
    exact ⟨ad, e, fun j hj => hc.cell (hcell j hj) id⟩⟩
theorem str_cat (a b : List UInt8) : str a ++ str b = str (a ++ b) := by
  apply ByteArray.ext
  rw [ByteArray.data_append]
  simp [str]

set_option maxHeartbeats 2000000 in
set_option maxRecDepth 20000 in
theorem blanks_any (A : Option Addr) (n c : Nat) (bs : List Bool) (w : World) (hn : bs.length = n) (hr : RdB w A bs) (hm : n ≤ 1000) :
    Calls Tryd.prog 31 #[.slice A n c] w fun e w' => e = .returned (.string (str (bs.map blankB))) ∧ w = w' := by
  subst hn
  go_enter Tryd.func31, Tryd.ntmps31
  go_wp2_with fail
  go_loop [3, 4] (fun sv iv => ∃ (k : Nat) (ys : List UInt8), k ≤ bs.length ∧ iv = .int .i64 k ∧ sv = .string (str ys) ∧ ys.length ≤ k ∧ Hid (ys = (bs.take k).map blankB)) (fun _ iv => bs.length - (intOf iv).toNat)
  case atStart => exact ⟨0, [], Nat.zero_le _, rfl, rfl, Nat.le_refl _, (show [] = (bs.take 0).map blankB by simp)⟩
  case round =>
    obtain ⟨k, ys, hk, rfl, rfl, hyl, hy⟩ := hrel
    by_cases hlt : k < bs.length
    · obtain ⟨ad, rfl, hcell⟩ := hr.at hlt
      have HN : Hid ((bs.take (k + 1)).map blankB = ys ++ [blankB bs[k]]) := by
        show (bs.take (k + 1)).map blankB = ys ++ [blankB bs[k]]
        rw [List.take_succ_eq_append_getElem hlt, List.map_append, ← hy.out]
        rfl
      have hsz := str_size ys
      cases hb : bs[k]
      · rw [hb] at hcell HN
        clear hb
        have hc2 : str ys ++ (⟨#[9]⟩ : ByteArray) = str (ys ++ [9]) := str_cat ys [9]
        obtain ⟨zs, hz⟩ : ∃ zs, zs = ys ++ [9] := ⟨_, rfl⟩
        have hzl : zs.length ≤ k + 1 := by rw [hz]; simp; omega
        rw [← hz] at hc2
        have Hz : Hid (zs = (bs.take (k + 1)).map blankB) := by rw [HN.out, hz]; exact rfl
        clear hz
        go_wp2
        go_round
        case rel => exact ⟨k + 1, zs, by omega, by go_num, rfl, hzl, Hz⟩
        case measure => simp [intOf]; omega
      · rw [hb] at hcell HN
        clear hb
        have hc2 : str ys ++ (⟨#[32]⟩ : ByteArray) = str (ys ++ [32]) := str_cat ys [32]
        obtain ⟨zs, hz⟩ : ∃ zs, zs = ys ++ [32] := ⟨_, rfl⟩
        have hzl : zs.length ≤ k + 1 := by rw [hz]; simp; omega
        rw [← hz] at hc2
        have Hz : Hid (zs = (bs.take (k + 1)).map blankB) := by rw [HN.out, hz]; exact rfl
        clear hz
        go_wp2
        go_round
        case rel => exact ⟨k + 1, zs, by omega, by go_num, rfl, hzl, Hz⟩
        case measure => simp [intOf]; omega
    · obtain rfl : k = bs.length := by omega
      have hy2 : ys = bs.map blankB := by have := hy.out; rw [List.take_length] at this; exact this
      subst hy2
      go_wp2
      go_ret
      exact ⟨rfl, rfl⟩
end Go.Proofs.YtkbmajkoojgkpaaDoor
