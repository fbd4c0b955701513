/- The contracts of the reference's Small and Trim. -/
import Derived.Test.YtkbmajkoojgkpaaDoorField1
namespace Go.Proofs.YtkbmajkoojgkpaaDoor
open Go.RowKit

theorem low_up (c : UInt8) (h : 65 ≤ c.toNat ∧ c.toNat ≤ 90) : (low c).toNat = c.toNat + 32 := by
  unfold low
  rw [if_pos h, UInt8.toNat_add]
  have : (32 : UInt8).toNat = 32 := rfl
  omega
theorem low_same (c : UInt8) (h : ¬ (65 ≤ c.toNat ∧ c.toNat ≤ 90)) : low c = c := by
  unfold low
  rw [if_neg h]

set_option maxHeartbeats 1000000 in
set_option maxRecDepth 20000 in
theorem ref_small_any (xs : List UInt8) (w : World) (hm : xs.length ≤ 1000000000) : Calls Tryd.prog 49 #[.string (str xs)] w fun e w' => e = .returned (.string (str (xs.map low))) ∧ Chg w w' (fun _ => False) := by
  have hconv := Lib.run_convert_string_bytes (P := Tryd.prog) w 9 22 5 (str xs) Tryd.underlying9 Tryd.underlying22 Tryd.underlying5
  rw [str_size] at hconv
  have hlow := Low.start w xs
  have hcg : Chg w (Lib.bytesWorld w 5 (str xs)) (fun _ => False) := ⟨rfl, rfl, rfl, by rw [Lib.bytesWorld_size]; omega, fun i hi _ => Lib.bytesWorld_at_old w _ _ i hi⟩
  have hcap := grownCap_ge w xs.length 0 5
  generalize grownCap w xs.length 0 5 = G at *
  generalize Lib.bytesWorld w 5 (str xs) = w1 at *
  go_enter Tryd.func49, Tryd.ntmps49
  go_wp2_with fail
  go_loopw [4] (fun iv wr => ∃ k : Nat, k ≤ xs.length ∧ iv = .int .i64 k ∧ Low wr w.heap.size (mixed xs k) ∧ Chg w wr (fun _ => False)) (fun iv _ => xs.length - (intOf iv).toNat)
  case atStart => exact ⟨0, Nat.zero_le _, rfl, by rw [mixed_zero]; exact hlow, hcg⟩
  case round =>
    obtain ⟨k, hk, rfl, hl, hc⟩ := hrel
    by_cases hlt : k < xs.length
    · have hlm : k < (mixed xs k).length := by rw [mixed_len]; exact hlt
      have hcell := hl.cell hlm
      rw [mixed_get hlt hlm] at hcell
      have hcell2 : wr.cell? ⟨w.heap.size, k, none⟩ = some (.int .u8 ((xs[k]).toNat : Int)) := hcell
      clear hcell
      have hfree := hl.free hlm
      have Hset := Lib.hid (hl.set k (low xs[k]))
      by_cases hup : 65 ≤ (xs[k]).toNat ∧ (xs[k]).toNat ≤ 90
      · have hlo := Lib.hid (low_up _ hup)
        obtain ⟨h1, h2⟩ := hup
        go_wp2
        go_roundw
        case rel =>
          refine ⟨k + 1, by omega, by go_num, ?_, hc.setCell (fun h => absurd h (Nat.lt_irrefl _)) _⟩
          rw [← mixed_set hlt]
          have e : (Value.int .u8 (((xs[k]).toNat : Int) + 97 - 65)) = B8 (low xs[k]) := by
            unfold B8
            rw [hlo.out]
            congr 1
            omega
          rw [e]
          exact Hset.out
        case measure => simp [intOf]; omega
      · have hsame := Lib.hid (mixed_same hlt (low_same _ hup))
        have hup2 : (xs[k]).toNat < 65 ∨ 90 < (xs[k]).toNat := by omega
        clear hup
        rcases hup2 with h1 | h1
        all_goals
          go_wp2
          go_roundw
          case rel => exact ⟨k + 1, by omega, by go_num, by rw [hsame.out]; exact hl, hc⟩
          case measure => simp [intOf]; omega
    · obtain rfl : k = xs.length := by omega
      rw [mixed_all] at hl
      have hcv := conv_rd wr (some ⟨w.heap.size, 0, none⟩) G xs.length (xs.map low) (by simp) hl.rd
      go_wp2
      go_ret
      exact ⟨rfl, hc⟩

/-! ### Trim -/
def isBl (c : UInt8) : Bool := blank2.contains c
theorem isBl_iff (c : UInt8) : isBl c = decide (c.toNat = 32 ∨ c.toNat = 9) := by
  have h : ∀ d : Fin 256, isBl (UInt8.ofNat d.val) = decide (d.val = 32 ∨ d.val = 9) := by decide +kernel
  have := h ⟨c.toNat, c.toNat_lt⟩
  simpa only [UInt8.ofNat_toNat] using this
def dropR (l : List UInt8) : List UInt8 := (l.reverse.dropWhile isBl).reverse
theorem dropR_cons (c : UInt8) (cs : List UInt8) : dropR (c :: cs) = if (dropR cs).isEmpty then (if isBl c then [] else [c]) else c :: dropR cs := by
  unfold dropR
  rw [List.reverse_cons, List.dropWhile_append]
  cases h : cs.reverse.dropWhile isBl with
  | nil =>
    simp only [List.isEmpty_nil, if_true, List.reverse_nil]
    cases hb : isBl c <;> simp [List.dropWhile, hb]
  | cons d ds => simp
theorem trim_comm : ∀ l : List UInt8, (dropR l).dropWhile isBl = dropR (l.dropWhile isBl)
  | [] => rfl
  | c :: cs => by
    have ih := trim_comm cs
    cases hb : isBl c
    · rw [show (c :: cs).dropWhile isBl = c :: cs from by simp [List.dropWhile, hb], dropR_cons, hb]
      split
      · simp [List.dropWhile, hb]
      · simp [List.dropWhile, hb]
    · rw [show (c :: cs).dropWhile isBl = cs.dropWhile isBl from by simp [List.dropWhile, hb], ← ih, dropR_cons, hb]
      split
      · rename_i h
        rw [List.isEmpty_iff.1 h]
        rfl
      · simp [List.dropWhile, hb]
theorem trimF_eq (l : List UInt8) : trimF l = dropR (l.dropWhile isBl) := by rw [← trim_comm]; rfl
theorem dropR_snoc (l : List UInt8) (c : UInt8) : dropR (l ++ [c]) = if isBl c then dropR l else l ++ [c] := by
  unfold dropR
  rw [List.reverse_append]
  cases hb : isBl c <;> simp [List.dropWhile, hb]

theorem str_first (c : UInt8) (cs : List UInt8) (h : 0 < (str (c :: cs)).size) : (str (c :: cs))[0]'h = c := rfl
theorem str_rest (c : UInt8) (cs : List UInt8) : (str (c :: cs)).extract 1 (cs.length + 1) = str cs := by
  apply ByteArray.ext
  simp [str, ByteArray.data_extract]
theorem str_last (cs : List UInt8) (c : UInt8) (h : cs.length < (str (cs ++ [c])).size) : (str (cs ++ [c]))[cs.length]'h = c := by
  simp [str, ByteArray.getElem_eq_getElem_data]
theorem str_init (cs : List UInt8) (c : UInt8) : (str (cs ++ [c])).extract 0 cs.length = str cs := by
  apply ByteArray.ext
  simp [str, ByteArray.data_extract]

def strLen : Value → Nat
  | .string s => s.size
  | _ => 0

set_option maxHeartbeats 1000000 in
set_option maxRecDepth 20000 in
theorem ref_trim_any (xs : List UInt8) (w : World) (hm : xs.length ≤ 1000000000) : Calls Tryd.prog 50 #[.string (str xs)] w fun e w' => e = .returned (.string (str (trimF xs))) ∧ w = w' := by
  rw [trimF_eq]
  go_enter Tryd.func50, Tryd.ntmps50
  go_wp2_with fail
  go_loop [0] (fun sv => ∃ ys : List UInt8, sv = .string (str ys) ∧ ys.length ≤ xs.length ∧ Hid (ys.dropWhile isBl = xs.dropWhile isBl)) strLen
  case atStart => exact ⟨xs, rfl, Nat.le_refl _, rfl⟩
  case round =>
    obtain ⟨ys, rfl, hy, hd⟩ := hrel
    have hss := str_size ys
    -- what stands behind the first loop
    have rest : ys.dropWhile isBl = ys → Hid (ys = xs.dropWhile isBl) := fun h => by
      have := hd.out
      rw [h] at this
      exact this
    rcases ys with _ | ⟨c, cs⟩
    · have Hys := rest rfl
      clear rest hd
      go_wp2_with fail
      go_loop [0] (fun sv => Hid (sv = .string (str []))) strLen
      case atStart => exact rfl
      case round =>
        obtain rfl := hrel.out
        go_wp2
        go_ret
        exact ⟨by rw [← Hys.out]; rfl, rfl⟩
    · have h0 := str_first c cs
      have h1 := str_rest c cs
      have hlc := c.toNat_lt
      have hb := isBl_iff c
      have hls : (c :: cs).length = cs.length + 1 := rfl
      rw [hls] at hss hy
      by_cases c0 : isBl c = true
      · have hd2 : Hid (cs.dropWhile isBl = xs.dropWhile isBl) := by
          have := hd.out
          rw [List.dropWhile_cons, if_pos c0] at this
          exact this
        rw [c0] at hb
        have hor : c.toNat = 32 ∨ c.toNat = 9 := by simpa using hb.symm
        clear hb rest hd c0
        rcases hor with c1 | c1
        all_goals
          go_wp2
          go_round
          case rel => exact ⟨cs, rfl, by omega, hd2⟩
          case measure => simp [strLen, str_size]
      · have Hys := rest (by rw [List.dropWhile_cons, if_neg c0])
        have c0' : isBl c = false := by simpa using c0
        rw [c0'] at hb
        have hnor : ¬ (c.toNat = 32 ∨ c.toNat = 9) := by simpa using hb.symm
        have n1 : ¬ c.toNat = 32 := fun h => hnor (.inl h)
        have n2 : ¬ c.toNat = 9 := fun h => hnor (.inr h)
        have m1 : ((c.toNat : Int) == 32) = false := by simp; omega
        have m2 : ((c.toNat : Int) == 9) = false := by simp; omega
        clear hb rest hd c0 c0' hnor h1 hss
        obtain ⟨zs0, hz0⟩ : ∃ z, z = c :: cs := ⟨_, rfl⟩
        rw [← hz0] at h0 Hys hls ⊢
        have hz1 : 0 < zs0.length := by rw [hz0]; simp
        have hss := str_size zs0
        clear hz0
        go_wp2_with fail
        go_loop [0] (fun sv => ∃ zs : List UInt8, sv = .string (str zs) ∧ zs.length ≤ xs.length ∧ Hid (dropR zs = dropR zs0)) strLen
        case atStart => exact ⟨zs0, rfl, by omega, rfl⟩
        case round =>
          obtain ⟨zs, rfl, hz, hd⟩ := hrel
          have hsz := str_size zs
          rcases List.eq_nil_or_concat zs with rfl | ⟨ds, d, hzz⟩
          · go_wp2
            go_ret
            exact ⟨by rw [← Hys.out, ← hd.out]; rfl, rfl⟩
          · rw [List.concat_eq_append] at hzz
            subst hzz
            have h0' := str_last ds d
            have h1' := str_init ds d
            have hdc := d.toNat_lt
            have hb := isBl_iff d
            have hdl : (ds ++ [d]).length = ds.length + 1 := by simp
            rw [hdl] at hsz hz
            have hsub : ((ds.length : Int) + 1 - 1) = (ds.length : Int) := by omega
            rw [dropR_snoc] at hd
            by_cases d0 : isBl d = true
            · rw [if_pos d0] at hd
              have hd2 : Hid (dropR ds = dropR zs0) := hd.out
              rw [d0] at hb
              have hor : d.toNat = 32 ∨ d.toNat = 9 := by simpa using hb.symm
              clear hb d0 hd
              rcases hor with c1 | c1
              all_goals
                go_wp2
                go_round
                case rel => exact ⟨ds, rfl, by omega, hd2⟩
                case measure => simp [strLen, str_size]
            · rw [if_neg d0] at hd
              have d0' : isBl d = false := by simpa using d0
              rw [d0'] at hb
              have hnor : ¬ (d.toNat = 32 ∨ d.toNat = 9) := by simpa using hb.symm
              have m3 : ((d.toNat : Int) == 32) = false := by simp; omega
              have m4 : ((d.toNat : Int) == 9) = false := by simp; omega
              clear hb d0 d0' hnor h1'
              go_wp2
              go_ret
              exact ⟨by rw [← Hys.out, ← hd.out]; rfl, rfl⟩
end Go.Proofs.YtkbmajkoojgkpaaDoor
