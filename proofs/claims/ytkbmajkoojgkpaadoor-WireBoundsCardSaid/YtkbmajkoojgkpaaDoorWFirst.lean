/- The contracts of wire's first and length. -/
import Derived.Test.YtkbmajkoojgkpaaDoorWWhole
namespace Go.Proofs.YtkbmajkoojgkpaaDoor
open Go.RowKit

theorem cut_32 (xs : List UInt8) (m : Int) (w : World) (hm : MaxL w m) (hl : xs.length ≤ 1000000) :
    Calls Tryd.prog 45 #[.string (str xs), .string ⟨#[32]⟩] w fun e w' => e = .returned (.tuple #[.string (str (cutL 32 xs).1), .string (str (cutL 32 xs).2.1), .bool (cutL 32 xs).2.2]) ∧ Chg w w' (fun _ => False) := by
  refine (Tryd.strings_Cut (str xs) ⟨#[32]⟩ m w (by rw [str_size]; omega) hm.out).mono ?_
  rintro e w' ⟨he, n, rfl⟩
  refine ⟨?_, (Chg.refl w _).drewN n⟩
  rw [he]
  have e1 : (str xs).data.toList = xs := rfl
  have e2 : (⟨#[32]⟩ : ByteArray).data.toList = [32] := rfl
  rw [e1, e2, cut_eq]
  rfl

/-- What length answers. -/
def lengthV : Option Nat → Value
  | none => .tuple #[.int .i64 0, .bool false]
  | some n => .tuple #[.int .i64 (n : Int), .bool true]

set_option maxHeartbeats 2000000 in
set_option maxRecDepth 20000 in
theorem length_any (xs : List UInt8) (w : World) (hl : xs.length ≤ 1000000) :
    Calls Tryd.prog 95 #[.string (str xs)] w fun e w' => e = .returned (lengthV (lengthF xs)) ∧ w = w' := by
  obtain ⟨V, hV⟩ : ∃ V, V = lengthV (lengthF xs) := ⟨_, rfl⟩
  rw [← hV]
  have HV := Lib.hid hV
  clear hV
  have hsz := str_size xs
  have hp : xs.length < 1 ∨ 18 < xs.length ∨ (1 ≤ xs.length ∧ xs.length ≤ 18) := by omega
  rcases hp with h1 | h1 | ⟨h1, h2⟩
  · have Hn := Lib.hid (lengthF_none (.inl h1))
    go_enter Tryd.func95, Tryd.ntmps95
    go_wp2
    go_ret2
    exact ⟨by rw [HV.out, Hn.out]; rfl, rfl⟩
  · have Hn := Lib.hid (lengthF_none (.inr (.inl h1)))
    go_enter Tryd.func95, Tryd.ntmps95
    go_wp2
    go_ret2
    exact ⟨by rw [HV.out, Hn.out]; rfl, rfl⟩
  · go_enter Tryd.func95, Tryd.ntmps95
    go_wp2
    go_loop [4, 16] (fun nv iv => ∃ k q : Nat, k ≤ xs.length ∧ iv = .int .i64 k ∧ nv = .int .i64 q ∧ q < 1000000000000000000 ∧ Hid (q = numF 0 (xs.take k)) ∧ Hid ((xs.take k).all digC = true)) (fun _ iv => xs.length - (intOf iv).toNat)
    case atStart => exact ⟨0, 0, Nat.zero_le _, rfl, rfl, by decide, (show 0 = numF 0 (xs.take 0) by simp [numF]), (show (xs.take 0).all digC = true by simp)⟩
    case round =>
      obtain ⟨k, q, hk, rfl, rfl, hq, Hq, hall⟩ := hrel
      by_cases hlt : k < xs.length
      · have hix := str_at xs k hlt
        have hcl := (xs[k]).toNat_lt
        have hdc := digC_iff xs[k]
        have hp : (xs[k]).toNat < 48 ∨ 57 < (xs[k]).toNat ∨ (48 ≤ (xs[k]).toNat ∧ (xs[k]).toNat ≤ 57) := by omega
        rcases hp with c1 | c1 | ⟨c1, c2⟩
        · have Hn := Lib.hid (lengthF_none (.inr (.inr (all_not hlt (p := digC) (by rw [hdc]; simp; omega)))))
          clear hdc
          go_wp2
          go_ret2
          exact ⟨by rw [HV.out, Hn.out]; rfl, rfl⟩
        · have Hn := Lib.hid (lengthF_none (.inr (.inr (all_not hlt (p := digC) (by rw [hdc]; simp; omega)))))
          clear hdc
          go_wp2
          go_ret2
          exact ⟨by rw [HV.out, Hn.out]; rfl, rfl⟩
        · have Hs := Lib.hid (all_step hlt hall.out (by rw [hdc]; simp; omega))
          have Hx := Lib.hid (numF_next hlt)
          have hq2 : 10 * q + ((xs[k]).toNat - 48) < 1000000000000000000 := by
            have := numF_take Hs.out (by omega)
            rw [Hx.out, ← Hq.out] at this
            exact this
          clear hdc
          go_wp2
          go_round
          case rel => exact ⟨k + 1, 10 * q + ((xs[k]).toNat - 48), by omega, by go_num, by go_num, hq2, (show _ = _ by rw [Hx.out, ← Hq.out]), Hs⟩
          case measure => simp [intOf]; omega
      · obtain rfl : k = xs.length := by omega
        have hq2 : Hid (lengthF xs = some q) := by
          have a := hall.out
          have b := Hq.out
          rw [List.take_length] at a b
          rw [b]
          exact lengthF_some h1 h2 a
        clear Hq hall
        go_wp2
        go_ret2
        exact ⟨by rw [HV.out, hq2.out]; rfl, rfl⟩

/-- What first answers. -/
def firstV : Option (List UInt8 × List UInt8) → Value
  | none => .tuple #[zeroReq, .bool false]
  | some (m, t) => .tuple #[.agg #[.string (str m), .string (str t), .slice none 0 0, .slice none 0 0, .bool true], .bool true]
theorem req_chg {w0 w : World} {g : Nat} (h : Chg w0 w (fun _ => False)) (hg : w0.heap.size ≤ g) (a b c d e : Value) : Chg w0 (((((w.setCell ⟨g, 0, none⟩ a).setCell ⟨g, 1, none⟩ b).setCell ⟨g, 2, none⟩ c).setCell ⟨g, 3, none⟩ d).setCell ⟨g, 4, none⟩ e) (fun _ => False) :=
  have hf : ∀ (j : Nat), (⟨g, j, none⟩ : Addr).block < w0.heap.size → False := fun _ h => absurd h (Nat.not_lt.2 hg)
  ((((h.setCell (hf 0) _).setCell (hf 1) _).setCell (hf 2) _).setCell (hf 3) _).setCell (hf 4) _

set_option maxHeartbeats 4000000 in
set_option maxRecDepth 100000 in
theorem first_any (xs : List UInt8) (m : Int) (w : World) (hm : MaxL w m) (hl : xs.length ≤ 1000000) :
    Calls Tryd.prog 79 #[.string (str xs)] w fun e w' => e = .returned (firstV (firstF xs)) ∧ Chg w w' (fun _ => False) := by
  have hcut := cut_32 xs m (w.alloc (.cells #[.string ⟨#[]⟩, .string ⟨#[]⟩, .slice none 0 0, .slice none 0 0, .bool false] 66)) (hm.chg ((Chg.refl w (fun _ => False)).alloc _) id) hl
  have hcl := cutL_len 32 xs
  unfold firstF
  generalize cutL 32 xs = r at *
  obtain ⟨mt, rest, fd⟩ := r
  simp only at hcut hcl ⊢
  have hcut2 := fun w hm => cut_32 rest m w hm (by omega)
  have hcl2 := cutL_len 32 rest
  generalize cutL 32 rest = r at *
  obtain ⟨tg, en, fd2⟩ := r
  simp only at hcut2 hcl2 ⊢
  obtain ⟨V, hV⟩ : ∃ V, V = firstV (firstP mt tg en fd fd2) := ⟨_, rfl⟩
  rw [← hV]
  have HV := Lib.hid hV
  have Hcut2 := Lib.hid hcut2
  have none_ : (fd = true ∧ fd2 = true ∧ en = verB ∧ 1 ≤ mt.length ∧ mt.length ≤ 10 ∧ tg ≠ [] ∧ mt.all upA = true ∧ tg.all tgC = true → False) → V = .tuple #[zeroReq, .bool false] := fun h => by
    rw [hV]
    unfold firstP
    rw [if_neg h]
    rfl
  have Hnone := Lib.hid none_
  clear hV hcut2 none_
  go_enter Tryd.func79, Tryd.ntmps79
  go_wp2_with fail
  refine hcut.mono ?_
  rintro e w1 ⟨rfl, hc1⟩
  clear hcut
  have hc01 : Chg w w1 (fun _ => False) := ((Chg.refl w _).alloc _).trans hc1 (fun _ _ h => h)
  go_wp2_with fail
  refine (Hcut2.out w1 (hm.chg hc01 id)).mono ?_
  rintro e w2 ⟨rfl, hc2⟩
  have hc02 : Chg w w2 (fun _ => False) := hc01.trans hc2 (fun _ _ h => h)
  have hblk : Blk w2 w.heap.size 66 #[.string ⟨#[]⟩, .string ⟨#[]⟩, .slice none 0 0, .slice none 0 0, .bool false] := ((Blk.new w _ _).chg hc1 id).chg hc2 id
  obtain ⟨⟨k0, k1, k2, k3, k4⟩, f0, f1, f2, f3, f4⟩ := req_cells hblk
  clear hc1 hc2 hc01
  have hsm := str_size mt
  have hst := str_size tg
  cases fd
  · go_wp2
    refine bodyPost_ret (v := .tuple #[zeroReq, .bool false]) (by simp [results, Tryd.results79, go_sem, k0, k1, k2, k3, k4, zeroReq]) rfl ?_
    exact ⟨by rw [Hnone.out (by simp)], req_chg hc02 (Nat.le_refl _) _ _ _ _ _⟩
  cases fd2
  · go_wp2
    refine bodyPost_ret (v := .tuple #[zeroReq, .bool false]) (by simp [results, Tryd.results79, go_sem, k0, k1, k2, k3, k4, zeroReq]) rfl ?_
    exact ⟨by rw [Hnone.out (by simp)], req_chg hc02 (Nat.le_refl _) _ _ _ _ _⟩
  by_cases hen : en ≠ verB
  · have b1 : ((str en).toList == [72, 84, 84, 80, 47, 49, 46, 49]) = false := by rw [str_toList]; simpa [verB] using hen
    have b2 : ((str en).toList != [72, 84, 84, 80, 47, 49, 46, 49]) = true := by rw [bne, b1]; rfl
    have Hen := Lib.hid hen
    clear hen
    go_wp2
    refine bodyPost_ret (v := .tuple #[zeroReq, .bool false]) (by simp [results, Tryd.results79, go_sem, k0, k1, k2, k3, k4, zeroReq]) rfl ?_
    exact ⟨by rw [Hnone.out (fun h => Hen.out h.2.2.1)], req_chg hc02 (Nat.le_refl _) _ _ _ _ _⟩
  obtain rfl : en = verB := by simpa using hen
  clear hen
  have b1 : ((str verB).toList == [72, 84, 84, 80, 47, 49, 46, 49]) = true := by rw [str_toList]; rfl
  have b2 : ((str verB).toList != [72, 84, 84, 80, 47, 49, 46, 49]) = false := by rw [bne, b1]; rfl
  have hp : mt.length < 1 ∨ 10 < mt.length ∨ (1 ≤ mt.length ∧ mt.length ≤ 10) := by omega
  rcases hp with h1 | h1 | ⟨h1, h2⟩
  · go_wp2
    refine bodyPost_ret (v := .tuple #[zeroReq, .bool false]) (by simp [results, Tryd.results79, go_sem, k0, k1, k2, k3, k4, zeroReq]) rfl ?_
    exact ⟨by rw [Hnone.out (fun h => by have := h.2.2.2.1; omega)], req_chg hc02 (Nat.le_refl _) _ _ _ _ _⟩
  · go_wp2
    refine bodyPost_ret (v := .tuple #[zeroReq, .bool false]) (by simp [results, Tryd.results79, go_sem, k0, k1, k2, k3, k4, zeroReq]) rfl ?_
    exact ⟨by rw [Hnone.out (fun h => by have := h.2.2.2.2.1; omega)], req_chg hc02 (Nat.le_refl _) _ _ _ _ _⟩
  by_cases htg : tg = []
  · subst htg
    have hse : (str ([] : List UInt8)).toList.isEmpty = true := by rw [str_toList]; rfl
    go_wp2
    refine bodyPost_ret (v := .tuple #[zeroReq, .bool false]) (by simp [results, Tryd.results79, go_sem, k0, k1, k2, k3, k4, zeroReq]) rfl ?_
    exact ⟨by rw [Hnone.out (fun h => h.2.2.2.2.2.1 rfl)], req_chg hc02 (Nat.le_refl _) _ _ _ _ _⟩
  have hse : (str tg).toList.isEmpty = false := by rw [str_toList]; cases tg with | nil => exact absurd rfl htg | cons a b => rfl
  have Htg := Lib.hid htg
  clear htg
  go_wp2_with fail
  go_loop [51] (fun iv => ∃ k : Nat, k ≤ mt.length ∧ iv = .int .i64 k ∧ Hid ((mt.take k).all upA = true)) (fun iv => mt.length - (intOf iv).toNat)
  case atStart => exact ⟨0, Nat.zero_le _, rfl, (show ((mt.take 0).all upA) = true by simp)⟩
  case round =>
    obtain ⟨k, hk, rfl, hall⟩ := hrel
    by_cases hlt : k < mt.length
    · have hix := str_at mt k hlt
      have hcl := (mt[k]).toNat_lt
      have hvc := upA_iff mt[k]
      have hp : (mt[k]).toNat < 65 ∨ 90 < (mt[k]).toNat ∨ (65 ≤ (mt[k]).toNat ∧ (mt[k]).toNat ≤ 90) := by omega
      rcases hp with c1 | c1 | ⟨c1, c2⟩
      · have Hn := Lib.hid (all_not hlt (p := upA) (by rw [hvc]; simp; omega))
        clear hvc
        go_wp2
        refine bodyPost_ret (v := .tuple #[zeroReq, .bool false]) (by simp [results, Tryd.results79, go_sem, k0, k1, k2, k3, k4, zeroReq]) rfl ?_
        exact ⟨by rw [Hnone.out (fun h => by have := h.2.2.2.2.2.2.1; rw [Hn.out] at this; cases this)], req_chg hc02 (Nat.le_refl _) _ _ _ _ _⟩
      · have Hn := Lib.hid (all_not hlt (p := upA) (by rw [hvc]; simp; omega))
        clear hvc
        go_wp2
        refine bodyPost_ret (v := .tuple #[zeroReq, .bool false]) (by simp [results, Tryd.results79, go_sem, k0, k1, k2, k3, k4, zeroReq]) rfl ?_
        exact ⟨by rw [Hnone.out (fun h => by have := h.2.2.2.2.2.2.1; rw [Hn.out] at this; cases this)], req_chg hc02 (Nat.le_refl _) _ _ _ _ _⟩
      · have Hs := Lib.hid (all_step hlt hall.out (by rw [hvc]; simp [c1, c2]))
        clear hvc
        go_wp2
        go_round
        case rel => exact ⟨k + 1, by omega, by go_num, Hs.out⟩
        case measure => simp [intOf]; omega
    · obtain rfl : k = mt.length := by omega
      have Hup : Hid (mt.all upA = true) := by have := hall.out; rw [List.take_length] at this; exact this
      clear hall
      go_wp2_with fail
      go_loop [68] (fun iv => ∃ k : Nat, k ≤ tg.length ∧ iv = .int .i64 k ∧ Hid ((tg.take k).all tgC = true)) (fun iv => tg.length - (intOf iv).toNat)
      case atStart => exact ⟨0, Nat.zero_le _, rfl, (show ((tg.take 0).all tgC) = true by simp)⟩
      case round =>
        obtain ⟨k, hk, rfl, hall⟩ := hrel
        by_cases hlt : k < tg.length
        · have hix := str_at tg k hlt
          have hcl := (tg[k]).toNat_lt
          have hvc := tgC_iff tg[k]
          have hp : (tg[k]).toNat < 33 ∨ 126 < (tg[k]).toNat ∨ (33 ≤ (tg[k]).toNat ∧ (tg[k]).toNat ≤ 126) := by omega
          rcases hp with c1 | c1 | ⟨c1, c2⟩
          · have Hn := Lib.hid (all_not hlt (p := tgC) (by rw [hvc]; simp; omega))
            clear hvc
            go_wp2
            refine bodyPost_ret (v := .tuple #[zeroReq, .bool false]) (by simp [results, Tryd.results79, go_sem, k0, k1, k2, k3, k4, zeroReq]) rfl ?_
            exact ⟨by rw [Hnone.out (fun h => by have := h.2.2.2.2.2.2.2; rw [Hn.out] at this; cases this)], req_chg hc02 (Nat.le_refl _) _ _ _ _ _⟩
          · have Hn := Lib.hid (all_not hlt (p := tgC) (by rw [hvc]; simp; omega))
            clear hvc
            go_wp2
            refine bodyPost_ret (v := .tuple #[zeroReq, .bool false]) (by simp [results, Tryd.results79, go_sem, k0, k1, k2, k3, k4, zeroReq]) rfl ?_
            exact ⟨by rw [Hnone.out (fun h => by have := h.2.2.2.2.2.2.2; rw [Hn.out] at this; cases this)], req_chg hc02 (Nat.le_refl _) _ _ _ _ _⟩
          · have Hs := Lib.hid (all_step hlt hall.out (by rw [hvc]; simp [c1, c2]))
            clear hvc
            go_wp2
            go_round
            case rel => exact ⟨k + 1, by omega, by go_num, Hs.out⟩
            case measure => simp [intOf]; omega
        · obtain rfl : k = tg.length := by omega
          have Htc : Hid (tg.all tgC = true) := by have := hall.out; rw [List.take_length] at this; exact this
          clear hall
          have Hval : Hid (V = .tuple #[.agg #[.string (str mt), .string (str tg), .slice none 0 0, .slice none 0 0, .bool true], .bool true]) := by
            have e := HV.out
            unfold firstP at e
            rw [if_pos ⟨rfl, rfl, rfl, h1, h2, Htg.out, Hup.out, Htc.out⟩] at e
            exact e
          go_wp2
          refine bodyPost_ret (v := .tuple #[.agg #[.string (str mt), .string (str tg), .slice none 0 0, .slice none 0 0, .bool true], .bool true]) (by simp [results, Tryd.results79, go_sem, k0, k1, k2, k3, k4]) rfl ?_
          exact ⟨by rw [Hval.out], req_chg hc02 (Nat.le_refl _) _ _ _ _ _⟩
end Go.Proofs.YtkbmajkoojgkpaaDoor
