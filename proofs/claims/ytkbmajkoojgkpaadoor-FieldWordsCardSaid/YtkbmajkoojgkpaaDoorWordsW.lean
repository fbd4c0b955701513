/- The walk of FieldWords. -/
import Derived.Test.YtkbmajkoojgkpaaDoorField5
import Derived.Test.YtkbmajkoojgkpaaDoorField7
import Derived.BigQuiet
namespace Go.Proofs.YtkbmajkoojgkpaaDoor
open Go.RowKit

theorem words_count' (s : List UInt8) : (wordsF s).length ≤ s.length + 1 := by
  rw [wordsF_eq]
  exact Nat.le_trans (wordsOf_len _) (splitL_count 44 s)
/-- What the row of a holds while it is written over. -/
structure Over (wr : World) (g : Nat) (W : List (List UInt8)) (k : Nat) : Prop where mk ::
  (out : ∃ cs : Array Value, Blk wr g 9 cs ∧ W.length ≤ cs.size ∧ ∀ (j : Nat) (h : j < W.length), k ≤ j → cs[j]? = some (strV W[j]))
theorem Over.cell {wr : World} {g : Nat} {W : List (List UInt8)} {k : Nat} (h : Over wr g W k) (hk : k < W.length) : wr.cell? ⟨g, k, none⟩ = some (.string (str W[k])) ∧ wr.frozen? ⟨g, k, none⟩ = false := by
  obtain ⟨cs, hb, _, hc⟩ := h.out
  exact ⟨by rw [hb.cell]; exact hc k hk (Nat.le_refl _), hb.free k⟩
theorem Over.chg {w w' : World} {g : Nat} {W : List (List UInt8)} {k : Nat} {S : Nat → Prop} (h : Over w g W k) (hc : Chg w w' S) (hS : ¬ S g) : Over w' g W k := by
  obtain ⟨cs, hb, h1, h2⟩ := h.out
  exact ⟨⟨cs, hb.chg hc hS, h1, h2⟩⟩
theorem Over.set {w : World} {g : Nat} {W : List (List UInt8)} {k : Nat} (h : Over w g W k) (q : Value) : Over (w.setCell ⟨g, k, none⟩ q) g W (k + 1) := by
  obtain ⟨cs, hb, h1, h2⟩ := h.out
  refine ⟨⟨cs.setIfInBounds k q, by simpa using hb.set k q, by simpa using h1, fun j hj hk => ?_⟩⟩
  rw [Array.getElem?_setIfInBounds_ne (by omega)]
  exact h2 j hj (by omega)
theorem Over.start {w : World} {A : Option Addr} {c : Nat} {W : List (List UInt8)} (h : RowT w (.slice A W.length c) (W.map strV)) (h0 : 0 < W.length) : ∃ g, A = some ⟨g, 0, none⟩ ∧ Over w g W 0 := by
  rcases h.out.2 with ⟨e, hl⟩ | ⟨g, cap, cur, e, _, hg, hn, _, hsz, htk⟩
  · rw [List.length_map] at hl
    omega
  · injection e with e1 e2 e3
    rw [List.length_map] at hn
    refine ⟨g, e1, ⟨cur, ⟨hg⟩, by simp at hsz; omega, fun j hj _ => ?_⟩⟩
    have : (cur.toList.take ((W.map strV).length * 1))[j]? = (W.map strV)[j]? := by rw [htk]
    rw [List.getElem?_take, if_pos (by simpa using hj), Array.getElem?_toList] at this
    rw [this]
    simp [hj]

set_option maxHeartbeats 4000000 in
set_option maxRecDepth 100000 in
theorem wordsW (xs : List UInt8) (m : Int) (w : World) (hm : MaxL w m) :
    Calls Tryd.prog 7 #[.string (str xs)] w fun e w' => e = .returned (.bool true) ∧ Chg w w' (fun _ => False) := by
  have hsz := str_size xs
  go_enter Tryd.func7, Tryd.ntmps7
  go_wp2_with fail
  refine (begun22_any m w hm).mono ?_
  rintro e w1 ⟨rfl, hc1⟩
  by_cases hl1 : xs.length ≤ 2048
  case neg =>
    go_wp2
    go_ret
    exact ⟨rfl, hc1⟩
  have hcn := words_count' xs
  have hwa := fun (wz : World) (h : MaxL wz m) => words_any xs m wz h (by omega)
  have hwb := fun (wz : World) => ref_words_any xs wz (by omega)
  generalize wordsF xs = W at *
  have Hwa := Lib.hid hwa
  have Hwb := Lib.hid hwb
  clear hwa hwb
  go_wp2_with fail
  go_loopw [3, 4, 5, 6] (fun tv _ _ _ wr => ∃ t : Nat, t ≤ 2 ∧ tv = .int .i64 t ∧ Chg w wr (fun _ => False)) (fun tv _ _ _ _ => 2 - (intOf tv).toNat)
  case atStart => exact ⟨0, by omega, rfl, hc1⟩
  case round =>
    obtain ⟨t, ht, rfl, hcw⟩ := hrel
    obtain ⟨wq, rfl⟩ : ∃ wq : World, wq = wr := ⟨_, rfl⟩
    by_cases ht2 : t < 2
    · have hsq := hcw.size
      go_wp2_with fail
      refine (Hwa.out _ (hm.chg hcw id)).mono ?_
      rintro e w2 ⟨Aa, ca, rfl, hra, hca, hfa⟩
      have hs2 := hca.size
      go_wp2_with fail
      refine (Hwb.out _).mono ?_
      rintro e w3 ⟨Ab, cb, rfl, hrb, hcb, hfb⟩
      have hs3 := hcb.size
      have hra3 := hra.chg hcb (fun _ _ => id)
      have hc03 : Chg w w3 (fun _ => False) := (hcw.trans hca (fun _ _ h => h)).trans hcb (fun _ _ h => h)
      by_cases hW0 : 0 < W.length
      · obtain ⟨g, rfl, hov⟩ := Over.start hra3 hW0
        have hga : (Value.slice (some ⟨g, 0, none⟩) W.length ca).ownBlock = some g := rfl
        have hg1 : w.heap.size ≤ g := by
          rcases hfa g hga with h | h
          · simp [Value.ownBlock] at h
          · omega
        have hg2 : g < w2.heap.size := hra.lt hga
        have hbg : ∀ k, (Value.slice Ab W.length cb).ownBlock = some k → ¬ k = g := fun k hk e => by
          rcases hfb k hk with h | h
          · simp [Value.ownBlock] at h
          · omega
        go_wp2_with fail
        go_loopw [6] (fun iv wr => ∃ k : Nat, k ≤ W.length ∧ iv = .int .i64 k ∧ Over wr g W k ∧ Chg w3 wr (fun j => j = g)) (fun iv _ => W.length - (intOf iv).toNat)
        case atStart => exact ⟨0, Nat.zero_le _, rfl, hov, Chg.refl _ _⟩
        case round =>
          obtain ⟨k, hk, rfl, hovk, hck⟩ := hrel
          by_cases hlt : k < W.length
          · obtain ⟨hc1', hf1'⟩ := hovk.cell hlt
            obtain ⟨adb, rfl, hcellb⟩ := (RdV.of_rowT (hrb.chg hck hbg)).at (k := k) (by simpa using hlt)
            have he2 : wr.cell? (adb.add k) = some (.string (str W[k])) := by rw [hcellb]; simp [strV]
            have hn2 : ((str W[k]).toList != (str W[k]).toList) = false := by simp
            clear hcellb
            generalize W[k] = q at *
            have s1 := fun n => (hovk.set (.string ⟨#[63]⟩)).chg ((Chg.refl _ (fun _ => False)).drewN n) id
            have s2 := fun n => (hovk.chg ((Chg.refl wr (fun _ => False)).drewN n) id).set (.string ⟨#[63]⟩)
            go_wp2_with fail
            go_quiet (fail)
            go_wp2_with fail
            go_roundw
            case rel => exact ⟨k + 1, by omega, by go_num, by first | exact s1 _ | exact s2 _, by first | exact (hck.setCell (fun _ => rfl) _).drewN _ | exact (hck.drewN _).setCell (fun _ => rfl) _⟩
            case measure => simp [intOf]; omega
          · go_wp2
            go_roundw
            case rel => exact ⟨t + 1, by omega, by go_num, hc03.trans hck (fun i hi e => by omega)⟩
            case measure => simp [intOf]; omega
      · have hW1 : W.length = 0 := by omega
        go_wp2_with fail
        go_loopw [6] (fun iv wr => iv = .int .i64 0 ∧ wr = w3) (fun _ _ => 0)
        case atStart => exact ⟨rfl, rfl⟩
        case round =>
          obtain ⟨rfl, rfl⟩ := hrel
          go_wp2
          go_roundw
          case rel => exact ⟨t + 1, by omega, by go_num, hc03⟩
          case measure => simp [intOf]; omega
    · go_wp2
      go_ret
      exact ⟨rfl, hcw⟩
end Go.Proofs.YtkbmajkoojgkpaaDoor
