/- The contract of pieces: a body is fed with pieces, up to an error. -/
import Derived.Test.YtkbmajkoojgkpaaBegun
import Derived.Test.YtkbmajkoojgkpaaPieces
namespace Go.Proofs.Ytkbmajkoojgkpaa
open Go.RowKit

/-- After k pieces: what is still to come decides the rest. -/
structure AlongP (s : St) (ps : List (List UInt8)) (k : Nat) (n : Int) (sk : St) : Prop where
  ok : sk.Ok
  ne0 : sk.next ≠ 0
  rest : piecesF 0 s ps = piecesF n sk (ps.drop k)
  n0 : 0 ≤ n
  n1 : n ≤ (ps.take k).flatten.length

theorem feedF_fst {s : St} (h0 : s.next ≠ 0) (p : List UInt8) : 0 ≤ (feedF s p).1 ∧ (feedF s p).1 ≤ p.length := by
  rw [feedF_eq h0]
  simp only
  have := feedL_le p s
  split <;> omega

theorem AlongP.step {s sk : St} {ps : List (List UInt8)} {k : Nat} {n : Int} (h : AlongP s ps k n sk) (hk : k < ps.length) (he : (feedF sk ps[k]).2.1 = 0) : AlongP s ps (k + 1) (n + (feedF sk ps[k]).1) (feedF sk ps[k]).2.2 := by
  have hf := feedF_fst h.ne0 ps[k]
  refine ⟨feedF_ok h.ok h.ne0 _, feedF_ne0 h.ne0 _, ?_, by have := h.n0; omega, ?_⟩
  · rw [h.rest, List.drop_eq_getElem_cons hk]
    simp only [piecesF, he, if_true]
  · have e : (ps.take (k + 1)).flatten = (ps.take k).flatten ++ ps[k] := by
      rw [List.take_succ_eq_append_getElem hk, List.flatten_append, List.flatten_singleton]
    rw [e, List.length_append]
    have := h.n1
    omega
theorem AlongP.err {s sk : St} {ps : List (List UInt8)} {k : Nat} {n : Int} (h : AlongP s ps k n sk) (hk : k < ps.length) (he : (feedF sk ps[k]).2.1 ≠ 0) : piecesF 0 s ps = (0, (feedF sk ps[k]).2.1, (feedF sk ps[k]).2.2) := by
  rw [h.rest, List.drop_eq_getElem_cons hk]
  simp only [piecesF, he, if_false]
theorem AlongP.stop {s sk : St} {ps : List (List UInt8)} {k : Nat} {n : Int} (h : AlongP s ps k n sk) (hk : ps.length ≤ k) : piecesF 0 s ps = (n, 0, sk) := by
  rw [h.rest, List.drop_eq_nil_of_le hk]
  rfl
theorem flatten_take_le (ps : List (List UInt8)) (k : Nat) : (ps.take k).flatten.length ≤ ps.flatten.length := by
  have h : ps.flatten = (ps.take k).flatten ++ (ps.drop k).flatten := by rw [← List.flatten_append, List.take_append_drop]
  rw [h, List.length_append]
  omega
theorem piece_le (ps : List (List UInt8)) (k : Nat) (hk : k < ps.length) : (ps[k]).length ≤ ps.flatten.length := by
  have h : ps.flatten = (ps.take k).flatten ++ (ps[k] ++ (ps.drop (k + 1)).flatten) := by rw [← List.flatten_cons, ← List.drop_eq_getElem_cons hk, ← List.flatten_append, List.take_append_drop]
  rw [h, List.length_append, List.length_append]
  omega

set_option maxHeartbeats 4000000 in
theorem pieces_any (g : Nat) (v : Value) (s : St) (A : Option Addr) (n c : Nat) (us : List Value) (ps : List (List UInt8)) (D : Nat → Prop) (w : World) (h : Body w g v s) (hok : s.Ok) (hn0 : s.next ≠ 0) (hr : RdV w A us) (hn : us.length = n) (hp : Pcs w D us ps)
    (hsz : ps.flatten.length ≤ 1073741824) (hm : n ≤ 1073741824) (hD : ∀ k, D k → ¬ Foot g v k ∧ k < w.heap.size) (hA : ∀ ad, A = some ad → 0 < us.length → ¬ Foot g v ad.block) :
    Calls Try.prog 13 #[.pointer (some ⟨g, 0, none⟩), .slice A n c] w fun e w' => e = .returned (.tuple #[.int .i64 (piecesF 0 s ps).1, .int .i64 (piecesF 0 s ps).2.1]) ∧ BodyP w g v (piecesF 0 s ps).2.2 w' := by
  subst hn
  have hal : AlongP s ps 0 0 s := ⟨hok, hn0, by simp, Int.le_refl _, by simp⟩
  go_enter Try.func13, Try.ntmps13
  go_wp2_with fail
  go_loopw [6, 7] (fun nv iv wr => ∃ (k : Nat) (m : Int), k ≤ us.length ∧ iv = .int .i64 k ∧ nv = .int .i64 m ∧ ∃ sk v1, AlongP s ps k m sk ∧ Body wr g v1 sk ∧ Chg w wr (Foot g v) ∧ NewFoot w v v1) (fun _ i _ => us.length - (intOf i).toNat)
  case atStart => exact ⟨0, 0, Nat.zero_le _, rfl, rfl, s, v, hal, h, Chg.refl _ _, fun _ e => .inl e⟩
  case round =>
    obtain ⟨k, m, hk, rfl, rfl, sk, v1, hak, hb, hc, hf⟩ := hrel
    have hm0 := hak.n0
    have hm1 := hak.n1
    have hm2 := flatten_take_le ps k
    by_cases hlt : k < us.length
    · have hkp : k < ps.length := by rw [← hp.len]; exact hlt
      obtain ⟨ad, rfl, hcell⟩ := (hr.chg hc hA).at hlt
      obtain ⟨A1, c1, hu, hl1, hl2, hrd⟩ := (hp.chg hc (fun i hi => (hD i hi).1)).at_ k us[k] ps[k] (List.getElem?_eq_getElem hlt) (List.getElem?_eq_getElem hkp)
      rw [hu] at hcell
      have hpl := piece_le ps k hkp
      have ht := feed_any g v1 sk A1 ps[k].length c1 ps[k] wr hb hak.ok hak.ne0 hrd.rd rfl (by omega) (fun ad e hn hx => (hD _ (hrd.lies ad e hn)).1 (foot_old hf (hD _ (hrd.lies ad e hn)).2 hx))
      have Ht := Lib.hid ht
      have hfst := feedF_fst hak.ne0 ps[k]
      clear ht hu
      by_cases he : (feedF sk ps[k]).2.1 = 0
      · have he' : ((feedF sk ps[k]).2.1 != 0) = false := by simp [he]
        have He := Lib.hid he
        clear he
        go_wp2_with (go_at_call 15; refine Ht.out.mono ?_; rintro e w2 ⟨rfl, v2, hb2, hc2, hf2⟩)
        go_roundw
        case rel => exact ⟨k + 1, _, by omega, by go_num, rfl, _, v2, hak.step hkp He.out, hb2, hc.trans hc2 (fun i hi e => foot_old hf hi e), newFoot_trans hf hf2 hc.size⟩
        case measure => simp [intOf]; omega
      · have he' : ((feedF sk ps[k]).2.1 != 0) = true := by simp [he]
        have He := Lib.hid (hak.err hkp he)
        clear he
        go_wp2_with (go_at_call 15; refine Ht.out.mono ?_; rintro e w2 ⟨rfl, v2, hb2, hc2, hf2⟩)
        go_ret2
        rw [He.out]
        exact ⟨rfl, v2, hb2, hc.trans hc2 (fun i hi e => foot_old hf hi e), newFoot_trans hf hf2 hc.size⟩
    · have He := Lib.hid (hak.stop (by rw [← hp.len]; omega))
      go_wp2
      go_ret2
      rw [He.out]
      exact ⟨rfl, v1, hb, hc, hf⟩
end Go.Proofs.Ytkbmajkoojgkpaa
