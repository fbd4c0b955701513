/- The contract of wire's take: a byte of a line. -/
import Derived.Test.YtkbmajkoojgkpaaDoorWJudge
namespace Go.Proofs.YtkbmajkoojgkpaaDoor
open Go.RowKit

theorem Row.to0 {w : World} {A : Option Addr} {n c : Nat} {xs : List UInt8} (h : Row w (.slice A n c) xs) : Row w (.slice A 0 c) [] := by
  rcases h.form with ⟨e, rfl⟩ | ⟨g, cap, cur, e, hb, h1, h2, h3, h4⟩
  · injection e with e1 e2 e3
    subst e1 e3
    exact Row.nil _
  · injection e with e1 e2 e3
    subst e1 e3
    exact Row.of_form (xs := []) hb (Nat.zero_le _) h2 h3 rfl
theorem Row.cap2 {w : World} {A : Option Addr} {n c : Nat} {xs : List UInt8} (h : Row w (.slice A n c) xs) : n ≤ c ∧ c ≤ 9223372036854775807 := by
  rcases h.form with ⟨e, rfl⟩ | ⟨g, cap, cur, e, hb, h1, h2, h3, h4⟩
  · injection e with e1 e2 e3
    omega
  · injection e with e1 e2 e3
    unfold maxLen at h2
    omega

/-- What take leaves. -/
def TakeP (p : WAt) (r : Int × WSt) (w : World) (e : Ending) (w' : World) : Prop :=
  e = .returned (.int .i64 r.1) ∧ Chg w w' p.foot ∧ (∃ cs : Array Value, cs.size = 8 ∧ Blk w' p.g 68 cs) ∧ (r.1 = 0 → ∃ p', NewW w p p' ∧ Wire w' p' r.2)

/-- A wire whose line grows. -/
theorem line_grown {w w1 : World} {g : Nat} {ln fl : Value} {bp : Option Nat} {bv : Value} {s : WSt} {c : UInt8} {o : Obj} {A : Option Addr} {cc : Nat} (h : Wire w ⟨g, ln, fl, bp, bv⟩ s) (hn : s.next = 1 ∨ s.next = 2)
    (hrow : Row w1 (.slice A (s.line.length + 1) cc) (s.line ++ [c])) (hc : Chg (w.alloc o) w1 (fun k => ln.ownBlock = some k)) (hf : NewFoot (w.alloc o) ln (.slice A (s.line.length + 1) cc)) :
    Wire (w1.setCell ⟨g, 1, none⟩ (.slice A (s.line.length + 1) cc)) ⟨g, .slice A (s.line.length + 1) cc, fl, bp, bv⟩ { s with line := s.line ++ [c] } ∧ NewW w ⟨g, ln, fl, bp, bv⟩ ⟨g, .slice A (s.line.length + 1) cc, fl, bp, bv⟩ ∧
      Chg w (w1.setCell ⟨g, 1, none⟩ (.slice A (s.line.length + 1) cc)) (fun k => k = g ∨ ln.ownBlock = some k) := by
  have hc1 : Chg w w1 (fun k => ln.ownBlock = some k) := ((Chg.refl w _).alloc o).trans hc (fun _ _ e => e)
  have hb1 := h.blk.chg hc1 (h.line.ne_blk h.blk (by decide))
  have hset : Chg w1 (w1.setCell ⟨g, 1, none⟩ (.slice A (s.line.length + 1) cc)) (fun k => k = g) := (Chg.refl w1 _).set1 1 _
  refine ⟨⟨?_, ?_, ?_, fun h3 => absurd h3 (by simp only; omega), h.none_⟩, ⟨rfl, ?_⟩, ?_⟩
  · exact (hb1.set 1 _).to (by simp [wireCells])
  · show Row _ (.slice A (s.line.length + 1) cc) (s.line ++ [c])
    exact hrow.chg hset (fun k e h' => by subst h'; exact hrow.ne_blk hb1 (by decide) e)
  · refine (h.flds.chg hc1 (fun k e h' => ?_)).chg hset (fun k e h' => ?_)
    · exact h.flds.ne_row h.line (by decide) e h'
    · subst h'
      exact h.flds.ne_blk h.blk (by decide) e
  · rintro k (e | e | e | e | e)
    · exact .inl (.inl e)
    · rcases hf k e with e | e
      · exact .inl (.inr (.inl e))
      · simp at e
        exact .inr (by omega)
    · exact .inl (.inr (.inr (.inl e)))
    · exact .inl (.inr (.inr (.inr (.inl e))))
    · exact .inl (.inr (.inr (.inr (.inr e))))
  · exact (hc1.mono (fun _ _ e => .inr e)).setCell (p := ⟨g, 1, none⟩) (fun _ => .inl rfl) _

theorem own_cut (A : Option Addr) (n c m c' : Nat) : (Value.slice A n c).ownBlock = (Value.slice A m c').ownBlock := by cases A <;> rfl
/-- A wire whose line is emptied. -/
theorem line_cut {w : World} {p : WAt} {s : WSt} {A : Option Addr} {n c : Nat} (h : Wire w p s) (e : p.ln = .slice A n c) :
    Wire (w.setCell ⟨p.g, 1, none⟩ (.slice A 0 c)) { p with ln := .slice A 0 c } { s with line := [] } ∧ ∀ k, WAt.foot { p with ln := .slice A 0 c } k → p.foot k := by
  have hset : Chg w (w.setCell ⟨p.g, 1, none⟩ (.slice A 0 c)) (fun k => k = p.g) := (Chg.refl w _).set1 1 _
  have hl := h.line
  have ho : (Value.slice A 0 c).ownBlock = p.ln.ownBlock := by rw [e]; exact own_cut A 0 c n c
  refine ⟨⟨?_, ?_, ?_, fun h3 => ?_, h.none_⟩, ?_⟩
  · exact (h.blk.set 1 _).to (by simp [wireCells])
  · rw [e] at hl
    exact hl.to0.chg hset (fun k e' h' => by subst h'; rw [own_cut A 0 c n c] at e'; exact hl.ne_blk h.blk (by decide) e')
  · exact h.flds.chg hset (fun k e h' => by subst h'; exact h.flds.ne_blk h.blk (by decide) e)
  · obtain ⟨b, eb, hb, hd⟩ := h.body h3
    refine ⟨b, eb, hb.to hset ?_, ?_⟩
    · rintro k (h' | h') hk
      · subst hk
        subst h'
        exact Blk.ne hb.blk h.blk (by decide) rfl
      · subst hk
        exact hb.row.ne_blk h.blk (by decide) h'
    · intro k e'
      rw [ho] at e'
      exact hd k e'
  · rintro k (e' | e' | e' | e' | e')
    · exact .inl e'
    · rw [ho] at e'
      exact .inr (.inl e')
    · exact .inr (.inr (.inl e'))
    · exact .inr (.inr (.inr (.inl e')))
    · exact .inr (.inr (.inr (.inr e')))
theorem judgeF_line (s : WSt) (p l : List UInt8) : judgeF { s with line := p } l = ((judgeF s l).1, { (judgeF s l).2 with line := p }) := by
  unfold judgeF
  cases bareF l with
  | none => rfl
  | some b => exact judgeB_line s p b

set_option maxHeartbeats 8000000 in
set_option maxRecDepth 100000 in
theorem wtake_any (p : WAt) (s : WSt) (c : UInt8) (m : Int) (w : World) (h : Wire w p s) (hok : s.Ok) (hn : s.next = 1 ∨ s.next = 2) (hm : MaxL w m) (hclr : ¬ p.foot 0) :
    Calls Tryd.prog 53 #[.pointer (some ⟨p.g, 0, none⟩), .int .u8 c.toNat] w (TakeP p (takeW s c) w) := by
  obtain ⟨g, ln, fl, bp, bv⟩ := p
  obtain ⟨Al, cl, hll⟩ := row_shape h.line
  obtain ⟨Af, cf, hfl, -, -⟩ := h.flds.shape
  simp only at hll hfl
  subst hll hfl
  have hgm : g ≠ 0 := fun e => hclr (.inl e.symm)
  have hbk := h.blk
  have hln := h.line
  have hll := hok.ln
  simp only at hbk hln ⊢
  have hlt := hbk.lt
  have H := Lib.hid h
  have HO := Lib.hid hok
  obtain ⟨R, hR⟩ : ∃ R, R = takeW s c := ⟨_, rfl⟩
  rw [← hR]
  obtain ⟨k0, k1, k2, k3, k4, k5, k6, k7⟩ := wire_cells hbk
  obtain ⟨f0, f1, f2, f3, f4, f5, f6, f7⟩ := wire_free hbk
  have hcl := c.toNat_lt
  unfold takeW at hR
  by_cases hc : c = 10
  · subst hc
    rw [if_pos rfl] at hR
    have HR := Lib.hid hR
    have Hn := Lib.hid hn
    clear hR hn k0 k2 k3 k4 k5 k6 k7
    go_enter Tryd.func53, Tryd.ntmps53
    go_wp2_with (at_builtin; refine wpList_app rfl _ _ rfl (.slice Al s.line.length cl) s.line (by rfl) (hln.chg ((Chg.refl w (fun _ => False)).alloc _) (fun _ _ => id)) _ 1 1 [10] rfl (by rfl) (Rd.one (heap_alloc_new w _)) (by omega) ?_; intro A' c' w1 hrow hc1 hfoot; have hb1 := (hbk.alloc (.cells #[.int .u8 10] 5)).chg hc1 (hln.ne_blk hbk (by decide)); have q1 := hb1.cell 1; have p1 := hb1.free 1; simp [wireCells] at q1)
    obtain ⟨hw1, hnw1, hcw1⟩ := line_grown H.out Hn.out hrow hc1 hfoot
    have hj := judge_any _ _ m _ hw1 ⟨HO.out.fl, HO.out.asc⟩ (by simp; omega) Hn.out (hm.chg hcw1 (by rintro (e | e); exact hgm e.symm; exact hclr (.inr (.inl e)))) hgm
    have Hj := Lib.hid hj
    have Hnw1 := Lib.hid hnw1
    clear hj hb1 q1 p1 k1 f0 f1 f2 f3 f4 f5 f6 f7 hw1 hnw1
    refine Hj.out.mono ?_
    rintro e w2 ⟨rfl, hc2, ⟨cs, hcs8, hcs1, hbk2⟩, hw2⟩
    have Hw2 := Lib.hid hw2
    clear hw2
    have q1 := hbk2.cell 1
    have p1 := hbk2.free 1
    simp only at q1 p1
    rw [hcs1] at q1
    have hcap := hrow.cap2
    have hcap1 := hcap.1
    have hcap2 := hcap.2
    have Hcs8 := Lib.hid hcs8
    clear hcap hcs1 hcs8
    simp only at q1
    go_wp2
    go_ret
    have hJ : ∀ k, JFoot ⟨g, .slice A' (s.line.length + 1) c', .slice Af s.fs.length cf, bp, bv⟩ k → WAt.foot ⟨g, .slice Al s.line.length cl, .slice Af s.fs.length cf, bp, bv⟩ k := by
      rintro k (h | h)
      · exact .inl h
      · exact .inr (.inr (.inl h))
    have hc02 : Chg w w2 (WAt.foot ⟨g, .slice Al s.line.length cl, .slice Af s.fs.length cf, bp, bv⟩) := (hcw1.mono (fun k _ e => by
      rcases e with e | e
      · exact .inl e
      · exact .inr (.inl e))).trans hc2 (fun k _ e => hJ k e)
    have hjl := judgeF_line s (s.line ++ [10]) (s.line ++ [10])
    have hR1 : R.1 = (judgeF { s with line := s.line ++ [10] } (s.line ++ [10])).1 := by rw [HR.out, hjl]
    refine ⟨by rw [hR1]; rfl, hc02.setCell (p := ⟨g, 1, none⟩) (fun _ => .inl rfl) _, ⟨_, by rw [Array.size_setIfInBounds]; exact Hcs8.out, hbk2.set 1 _⟩, fun h0 => ?_⟩
    obtain ⟨p', e1, e2, e3⟩ := Hw2.out (hR1.symm.trans h0)
    obtain ⟨g', ln', fl', bp', bv'⟩ := p'
    obtain rfl : g' = g := e2.1
    obtain ⟨hw3, hf3⟩ := line_cut e3 e1
    refine ⟨⟨g', .slice A' 0 c', fl', bp', bv'⟩, Hnw1.out.trans ⟨e2.1, fun k hk => e2.2 k (hf3 k hk)⟩ hcw1.size, ?_⟩
    rw [HR.out]
    rw [hjl] at hw3
    exact hw3
  · rw [if_neg hc] at hR
    have hx : (((c.toNat : Nat) : Int) == 10) = false := by
      have : c.toNat ≠ 10 := fun e => hc (UInt8.toNat_inj.1 (by rw [e]; rfl))
      simp; omega
    have Hn := Lib.hid hn
    by_cases hlen : s.line.length = 1023
    · have HR1 : Hid (R.1 = 2) := by show R.1 = 2; rw [hR, if_pos hlen]
      have bl : (((s.line.length : Int) + 1) == 1024) = true := by simp [hlen]
      clear hR hc hlen hn k0 k2 k3 k4 k5 k6 k7
      go_enter Tryd.func53, Tryd.ntmps53
      go_wp2_with (at_builtin; refine wpList_app rfl _ _ rfl (.slice Al s.line.length cl) s.line (by rfl) (hln.chg ((Chg.refl w (fun _ => False)).alloc _) (fun _ _ => id)) _ 1 1 [c] rfl (by rfl) (Rd.one (heap_alloc_new w _)) (by omega) ?_; intro A' c' w1 hrow hc1 hfoot; have hb1 := (hbk.alloc (.cells #[.int .u8 c.toNat] 5)).chg hc1 (hln.ne_blk hbk (by decide)); have q1 := hb1.cell 1; have p1 := hb1.free 1; simp [wireCells] at q1)
      go_ret
      obtain ⟨hw1, hnw1, hcw1⟩ := line_grown H.out Hn.out hrow hc1 hfoot
      exact ⟨by rw [HR1.out]; rfl, hcw1.mono (fun k _ e => by
        rcases e with e | e
        · exact .inl e
        · exact .inr (.inl e)), ⟨_, rfl, hw1.blk⟩, fun h0 => by rw [HR1.out] at h0; cases h0⟩
    · have HR1 : Hid (R = (0, { s with line := s.line ++ [c] })) := by show R = _; rw [hR, if_neg hlen]
      have bl : (((s.line.length : Int) + 1) == 1024) = false := by simp; omega
      clear hR hc hlen hn k0 k2 k3 k4 k5 k6 k7
      go_enter Tryd.func53, Tryd.ntmps53
      go_wp2_with (at_builtin; refine wpList_app rfl _ _ rfl (.slice Al s.line.length cl) s.line (by rfl) (hln.chg ((Chg.refl w (fun _ => False)).alloc _) (fun _ _ => id)) _ 1 1 [c] rfl (by rfl) (Rd.one (heap_alloc_new w _)) (by omega) ?_; intro A' c' w1 hrow hc1 hfoot; have hb1 := (hbk.alloc (.cells #[.int .u8 c.toNat] 5)).chg hc1 (hln.ne_blk hbk (by decide)); have q1 := hb1.cell 1; have p1 := hb1.free 1; simp [wireCells] at q1)
      go_ret
      obtain ⟨hw1, hnw1, hcw1⟩ := line_grown H.out Hn.out hrow hc1 hfoot
      exact ⟨by rw [HR1.out]; rfl, hcw1.mono (fun k _ e => by
        rcases e with e | e
        · exact .inl e
        · exact .inr (.inl e)), ⟨_, rfl, hw1.blk⟩, fun _ => ⟨_, hnw1, by rw [HR1.out]; exact hw1⟩⟩
end Go.Proofs.YtkbmajkoojgkpaaDoor
