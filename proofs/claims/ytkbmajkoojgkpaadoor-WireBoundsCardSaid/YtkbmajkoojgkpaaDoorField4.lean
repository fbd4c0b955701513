/- The contract of field.Words. -/
import Derived.Test.YtkbmajkoojgkpaaDoorField3
import Derived.Test.YtkbmajkoojgkpaaDoorFieldSplit
import Derived.Test.YtkbmajkoojgkpaaDoorRowT
namespace Go.Proofs.YtkbmajkoojgkpaaDoor
open Go.RowKit

def strV (l : List UInt8) : Value := .string (str l)
theorem split_44 (xs : List UInt8) (m : Int) (w : World) (hm : MaxL w m) (hl : xs.length ≤ 1000000) :
    Calls Tryd.prog 51 #[.string (str xs), .string ⟨#[44]⟩] w fun e w' => e = .returned (.slice (some ⟨w.heap.size, 0, none⟩) (splitL 44 xs).length (splitL 44 xs).length) ∧ w' = w.alloc (.cells ((splitL 44 xs).map strV).toArray 9) := by
  refine (Tryd.strings_Split (str xs) ⟨#[44]⟩ m w (by rw [str_size]; omega) hm.out (by decide)).mono ?_
  rintro e w' ⟨he, hw⟩
  obtain ⟨h1, h2⟩ := split_eq 44 xs
  have e1 : Lib.countB (str xs) ⟨#[44]⟩ = Lib.count xs [44] := rfl
  have h3 := Lib.splitB_data ⟨#[44]⟩ 0 (Lib.countB (str xs) ⟨#[44]⟩) (str xs)
  have h4 : (Lib.splitB ⟨#[44]⟩ 0 (Lib.countB (str xs) ⟨#[44]⟩) (str xs)).map Value.string = (splitL 44 xs).map strV := by
    rw [← h1]
    have : Lib.split xs [44] = (Lib.splitB ⟨#[44]⟩ 0 (Lib.countB (str xs) ⟨#[44]⟩) (str xs)).map (·.data.toList) := h3.symm
    rw [this, List.map_map]
    rfl
  rw [h4] at hw
  refine ⟨?_, hw⟩
  rw [he, e1, ← h2]
theorem splitL_len (c : UInt8) : ∀ l : List UInt8, ∀ p, p ∈ splitL c l → p.length ≤ l.length
  | [], p, h => by
    simp [splitL] at h
    simp [h]
  | b :: l, p, h => by
    have ih := splitL_len c l
    rw [splitL] at h
    split at h
    · rcases List.mem_cons.1 h with h | h
      · simp [h]
      · have := ih p h; simp; omega
    · split at h
      · simp at h; simp [h]
      · rename_i q qs hq
        rw [hq] at ih
        rcases List.mem_cons.1 h with h | h
        · have := ih q (by simp); rw [h]; simp; omega
        · have := ih p (by simp [h]); simp; omega
theorem splitL_count (c : UInt8) : ∀ l : List UInt8, (splitL c l).length ≤ l.length + 1
  | [] => by simp [splitL]
  | b :: l => by
    have ih := splitL_count c l
    rw [splitL]
    split
    · simp; omega
    · split
      · simp
      · rename_i q qs hq
        rw [hq] at ih
        simp at ih ⊢
        omega

/-- The words of some pieces. -/
def wordsOf (ps : List (List UInt8)) : List (List UInt8) := ((ps.map trimF).filter (fun w => !w.isEmpty)).map (·.map low)
theorem wordsF_eq (s : List UInt8) : wordsF s = wordsOf (splitL 44 s) := rfl
theorem wordsOf_append (a b : List (List UInt8)) : wordsOf (a ++ b) = wordsOf a ++ wordsOf b := by simp [wordsOf]
theorem wordsOf_next {ps : List (List UInt8)} {k : Nat} (hk : k < ps.length) : wordsOf (ps.take (k + 1)) = wordsOf (ps.take k) ++ (if (trimF ps[k]).isEmpty then [] else [(trimF ps[k]).map low]) := by
  rw [List.take_succ_eq_append_getElem hk, wordsOf_append]
  congr 1
  unfold wordsOf
  cases h : (trimF ps[k]).isEmpty <;> simp [h]
theorem wordsOf_len (ps : List (List UInt8)) : (wordsOf ps).length ≤ ps.length := by
  unfold wordsOf
  rw [List.length_map]
  exact Nat.le_trans (List.length_filter_le _ _) (by simp)

/-- What hands back new words. -/
def WordsP (w : World) (ws : List (List UInt8)) (e : Ending) (w' : World) : Prop :=
  ∃ A c, e = .returned (.slice A ws.length c) ∧ RowT w' (.slice A ws.length c) (ws.map strV) ∧ Chg w w' (fun _ => False) ∧ NewFoot w (.slice none 0 0) (.slice A ws.length c)

set_option maxHeartbeats 4000000 in
set_option maxRecDepth 20000 in
theorem words_any (xs : List UInt8) (m : Int) (w : World) (hm : MaxL w m) (hl : xs.length ≤ 1000000) :
    Calls Tryd.prog 29 #[.string (str xs)] w (WordsP w (wordsF xs)) := by
  rw [wordsF_eq]
  have hsp := split_44 xs m w hm hl
  have hlen := splitL_len 44 xs
  have hcnt := splitL_count 44 xs
  generalize splitL 44 xs = ps at *
  have Hlen := Lib.hid hlen
  clear hlen
  go_enter Tryd.func29, Tryd.ntmps29
  go_wp2_with fail
  refine hsp.mono ?_
  rintro e w1 ⟨rfl, hw1⟩
  clear hsp
  have hg : w1.heap[w.heap.size]? = some (.cells (ps.map strV).toArray 9) := by rw [hw1]; exact heap_alloc_new w _
  have hc1 : Chg w w1 (fun _ => False) := by rw [hw1]; exact (Chg.refl w _).alloc _
  clear hw1
  have hblk : Blk w1 w.heap.size 9 (ps.map strV).toArray := ⟨hg⟩
  clear hg
  have hs1 := hc1.size
  go_wp2_with fail
  go_loopw [3, 5, 9] (fun lv _ iv wr => ∃ (k : Nat) (A : Option Addr) (c : Nat) (us : List Value), k ≤ ps.length ∧ iv = .int .i64 k ∧ lv = .slice A (List.length us) c ∧ RowT wr (.slice A (List.length us) c) us ∧ us.length ≤ k ∧ Hid (us = (wordsOf (ps.take k)).map strV) ∧ Chg w1 wr (fun _ => False) ∧ NewFoot w1 (.slice none 0 0) (.slice A (List.length us) c)) (fun _ _ iv _ => ps.length - (intOf iv).toNat)
  case atStart => exact ⟨0, none, 0, [], Nat.zero_le _, rfl, rfl, RowT.nil _, Nat.le_refl _, (show ([] : List Value) = (wordsOf (ps.take 0)).map strV by simp [wordsOf]), Chg.refl _ _, fun _ e => .inl e⟩
  case round =>
    obtain ⟨k, A, c, us, hk, rfl, rfl, hrow, hul, Hus, hcr, hfr⟩ := hrel
    by_cases hlt : k < ps.length
    · have hb := hblk.chg hcr id
      have hcell : wr.cell? ⟨w.heap.size, k, none⟩ = some (.string (str ps[k])) := by rw [hb.cell]; simp [hlt, strV]
      have hpl := Hlen.out _ (List.getElem_mem hlt)
      have htl := trimF_len ps[k]
      have Hnext := Lib.hid (wordsOf_next hlt)
      clear hb
      go_wp2_with fail
      refine (trim_any ps[k] wr (by omega)).mono ?_
      rintro e w2 ⟨rfl, hc2⟩
      generalize trimF ps[k] = q at *
      by_cases hq : q = []
      · subst hq
        have hse : (str ([] : List UInt8)).toList.isEmpty = true := by rw [str_toList]; rfl
        go_wp2_with fail
        go_roundw
        case rel => exact ⟨k + 1, A, c, us, by omega, by go_num, rfl, hrow.chg hc2 (fun _ _ => id), by omega, by rw [Hnext.out]; simpa using Hus, hcr.trans hc2 (fun _ _ e => e), hfr⟩
        case measure => simp [intOf]; omega
      · have hse : (str q).toList.isEmpty = false := by rw [str_toList]; cases q with | nil => exact absurd rfl hq | cons a b => rfl
        have hqe : q.isEmpty = false := by cases q with | nil => exact absurd rfl hq | cons a b => rfl
        have Hqe := Lib.hid hqe
        clear hqe
        go_wp2_with fail
        refine (small_any q w2 (by omega)).mono ?_
        rintro e w3 ⟨rfl, hc3⟩
        have hc23 := hc2.trans hc3 (fun _ _ e => e)
        have hrow3 := hrow.chg hc23 (fun _ _ => id)
        go_wp2_with (at_builtin; refine wpList_appT rfl _ _ rfl _ us (by rfl) (hrow3.chg ((Chg.refl w3 (fun _ => False)).alloc _) (fun _ _ => id)) w3.heap.size 1 (.string (str (q.map low))) (by rfl) ((Blk.new w3 _ #[.string (str (q.map low))]).cell 0) rfl (by omega) ?_; intro A4 c4 w4 hrow4 hc4 hf4)
        have hlu : (us ++ [Value.string (str (q.map low))]).length = us.length + 1 := by simp
        have hcw : Chg w1 w4 (fun _ => False) := ((hcr.trans hc23 (fun _ _ e => e)).alloc _).trans hc4 (fun i hi e => newFoot_nil hfr hi e)
        go_roundw
        case rel =>
          refine ⟨k + 1, A4, c4, us ++ [.string (str (q.map low))], by omega, by go_num, by rw [hlu], by rw [hlu]; exact hrow4, by rw [hlu]; omega, ?_, hcw, by rw [hlu]; exact newFoot_nil_trans hfr hf4 (by have := (hcr.trans hc23 (fun _ _ e => e)).size; simp; omega)⟩
          show us ++ [Value.string (str (q.map low))] = (wordsOf (ps.take (k + 1))).map strV
          rw [Hnext.out, Hqe.out, Hus.out]
          simp [strV]
        case measure => simp [intOf]; omega
    · obtain rfl : k = ps.length := by omega
      have hus : us = (wordsOf ps).map strV := by have := Hus.out; rw [List.take_length] at this; exact this
      have hul2 : us.length = (wordsOf ps).length := by rw [hus]; simp
      have Hus2 := Lib.hid hus
      have Hul2 := Lib.hid hul2
      clear hus hul2
      go_wp2
      go_ret
      rw [Hul2.out] at hrow hfr
      rw [Hus2.out] at hrow
      exact ⟨A, c, by rw [Hul2.out]; rfl, hrow, hc1.trans hcr (fun _ _ e => e), newFoot_nil_trans (fun _ e => .inl e) (fun j e => by
        rcases hfr j e with h | h
        · exact .inl h
        · exact .inr (by omega)) (Nat.le_refl _)⟩
end Go.Proofs.YtkbmajkoojgkpaaDoor
