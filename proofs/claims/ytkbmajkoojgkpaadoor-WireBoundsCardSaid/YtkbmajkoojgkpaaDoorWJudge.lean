/- The contract of wire's judge: a line that is whole. -/
import Derived.Test.YtkbmajkoojgkpaaDoorWEmpty
import Derived.Deep.RegionLaw
namespace Go.Proofs.YtkbmajkoojgkpaaDoor
open Go.RowKit

def bareV (xs : List UInt8) : Option (List UInt8) → Value
  | none => .tuple #[.string (str xs), .bool false]
  | some b => .tuple #[.string (str b), .bool true]
theorem bare_any (xs : List UInt8) (w : World) (hl : xs.length ≤ 1000000) :
    Calls Tryd.prog 78 #[.string (str xs), .string ⟨#[13, 10]⟩] w fun e w' => e = .returned (bareV xs (bareF xs)) ∧ w = w' := by
  refine (Tryd.strings_CutSuffix (str xs) ⟨#[13, 10]⟩ w (by rw [str_size]; omega)).mono ?_
  rintro e w' ⟨he, rfl⟩
  refine ⟨?_, rfl⟩
  rw [he]
  have e1 : (str xs).data.toList = xs := rfl
  have e2 : (⟨#[13, 10]⟩ : ByteArray).data.toList = [13, 10] := rfl
  rw [e1, e2]
  unfold Lib.trimSuffix Lib.hasSuffix bareF
  by_cases h : [13, 10].isSuffixOf xs = true
  · rw [if_pos h, if_pos h, h]; rfl
  · rw [if_neg h, if_neg h]
    have h' : [13, 10].isSuffixOf xs = false := Bool.eq_false_iff.2 h
    rw [h']
    rfl

/-- What a step of a line leaves: an error, or a wire. -/
def StepP (F : Nat → Prop) (p : WAt) (r : Int × WSt) (w : World) (e : Ending) (w' : World) : Prop :=
  e = .returned (.int .i64 r.1) ∧ Chg w w' F ∧ (∃ cs : Array Value, cs.size = 8 ∧ cs[1]? = some p.ln ∧ Blk w' p.g 68 cs) ∧ (r.1 = 0 → ∃ p', p'.ln = p.ln ∧ NewW w p p' ∧ Wire w' p' r.2)
def JFoot (p : WAt) (k : Nat) : Prop := k = p.g ∨ p.fl.ownBlock = some k
theorem Chg.now {a w : World} {g : Nat} {S : Nat → Prop} (h : Chg a w S) (hg : S g) (v2 v3 v4 v5 v6 : Value) :
    Chg a (((((w.setCell ⟨g, 2, none⟩ v2).setCell ⟨g, 3, none⟩ v3).setCell ⟨g, 4, none⟩ v4).setCell ⟨g, 5, none⟩ v5).setCell ⟨g, 6, none⟩ v6) S :=
  ((((h.setCell (p := ⟨g, 2, none⟩) (fun _ => hg) v2).setCell (p := ⟨g, 3, none⟩) (fun _ => hg) v3).setCell (p := ⟨g, 4, none⟩) (fun _ => hg) v4).setCell (p := ⟨g, 5, none⟩) (fun _ => hg) v5).setCell (p := ⟨g, 6, none⟩) (fun _ => hg) v6
theorem StepP.raw {F : Nat → Prop} {p : WAt} {w w' : World} {r : Int × WSt} {z : Int} {cs : Array Value} (hc : Chg w w' F) (hb : Blk w' p.g 68 cs) (hs : cs.size = 8) (h1 : cs[1]? = some p.ln) (he : r.1 = z) (hz : z ≠ 0) : StepP F p r w (.returned (.int .i64 z)) w' :=
  ⟨by rw [he], hc, ⟨_, hs, h1, hb⟩, fun h0 => absurd (he.symm.trans h0) hz⟩

theorem fld_done {w w2 w3 : World} {g : Nat} {o : Obj} {fl : Value} (h2 : Chg w w2 (fun _ => False)) (h3 : Chg (w2.alloc o).drew w3 (fun i => fl.ownBlock = some i)) (v : Value) :
    Chg w (w3.setCell ⟨g, 4, none⟩ v) (fun k => k = g ∨ fl.ownBlock = some k) :=
  (((h2.alloc o).drew.mono (S' := fun k => k = g ∨ fl.ownBlock = some k) (fun _ _ e => e.elim)).trans h3 (fun _ _ e => .inr e)).setCell (p := ⟨g, 4, none⟩) (fun _ => .inl rfl) v

set_option maxHeartbeats 8000000 in
set_option maxRecDepth 100000 in
theorem judge_any (p : WAt) (s : WSt) (m : Int) (w : World) (h : Wire w p s) (hok : s.Fl) (hl : s.line.length ≤ 1024) (hn : s.next = 1 ∨ s.next = 2) (hm : MaxL w m) (hgm : p.g ≠ 0) :
    Calls Tryd.prog 68 #[.pointer (some ⟨p.g, 0, none⟩), p.ln] w (StepP (JFoot p) p (judgeF s s.line) w) := by
  obtain ⟨Af, cf, hfl, -, -⟩ := h.flds.shape
  obtain ⟨Al, cl, hll⟩ := row_shape h.line
  have H := Lib.hid h
  have hflen := hok.fl
  have HO := Lib.hid hok
  obtain ⟨g, ln, fl, bp, bv⟩ := p
  simp only at hfl hll hgm
  subst hfl hll
  have hrow := h.flds
  have hbk := h.blk
  simp only at hrow hbk ⊢
  have hlt := hbk.lt
  have hcv := conv_rd w Al cl s.line.length s.line rfl (Rd.of_row h.line)
  have hba := bare_any s.line w (by omega)
  obtain ⟨R, hR⟩ : ∃ R, R = judgeF s s.line := ⟨_, rfl⟩
  rw [← hR]
  obtain ⟨k0, k1, k2, k3, k4, k5, k6, k7⟩ := wire_cells hbk
  obtain ⟨f0, f1, f2, f3, f4, f5, f6, f7⟩ := wire_free hbk
  unfold judgeF at hR
  cases hb : bareF s.line with
  | none =>
    rw [hb] at hR hba
    have HR := Lib.hid hR
    clear hR hb
    go_enter Tryd.func68, Tryd.ntmps68
    go_wp2_with fail
    refine hba.mono ?_
    rintro e w' ⟨rfl, rfl⟩
    unfold bareV
    go_wp2
    go_ret
    exact ⟨by rw [HR.out]; rfl, Chg.refl _ _, ⟨_, rfl, rfl, hbk⟩, fun h0 => by rw [HR.out] at h0; cases h0⟩
  | some b =>
    have hbl := bareF_len hb
    rw [hb] at hR hba
    simp only at hR
    have HR := Lib.hid hR
    clear hR hb
    have hblen : b.length ≤ 1024 := by omega
    clear hbl
    rcases hn with hn | hn
    · have hfi := first_any b m w hm (by omega)
      have Hfi := Lib.hid hfi
      clear hfi
      rw [hn] at k0
      cases hfb : firstF b with
      | none =>
        have HR1 : Hid (R.1 = 4) := by show R.1 = 4; rw [HR.out]; unfold judgeB; rw [if_pos hn, hfb]; rfl
        rw [hfb] at Hfi
        clear hfb hn
        go_enter Tryd.func68, Tryd.ntmps68
        go_wp2_with fail
        refine hba.mono ?_
        rintro e w' ⟨rfl, rfl⟩
        unfold bareV
        go_wp2_with fail
        refine Hfi.out.mono ?_
        rintro e w1 ⟨rfl, hc1⟩
        unfold firstV zeroReq
        obtain ⟨-, -, -, -, -, -, -, -⟩ := wire_cells hbk
        have hbk1 := hbk.chg hc1 id
        clear k0 k1 k2 k3 k4 k5 k6 k7 f0 f1 f2 f3 f4 f5 f6 f7
        obtain ⟨k0, k1, k2, k3, k4, k5, k6, k7⟩ := wire_cells hbk1
        obtain ⟨f0, f1, f2, f3, f4, f5, f6, f7⟩ := wire_free hbk1
        go_wp2
        go_ret
        have hb6 := ((((hbk1.set 2 (.string ⟨#[]⟩)).set 3 (.string ⟨#[]⟩)).set 4 (.slice none 0 0)).set 5 (.slice none 0 0)).set 6 (.bool false)
        refine StepP.raw ?_ hb6 (by simp [wireCells]) (by simp [wireCells]) HR1.out (by decide)
        exact Chg.now (hc1.mono (fun _ _ e => e.elim)) (.inl rfl) _ _ _ _ _
      | some r =>
        obtain ⟨mt, tg⟩ := r
        have HR1 : Hid (R = (0, { s with next := 2, m := mt, t := tg, fs := [], keep := true })) := by show R = _; rw [HR.out]; unfold judgeB; rw [if_pos hn, hfb]; rfl
        have Hbp := Lib.hid (H.out.none_ (by omega))
        rw [hfb] at Hfi
        clear hfb hn
        go_enter Tryd.func68, Tryd.ntmps68
        go_wp2_with fail
        refine hba.mono ?_
        rintro e w' ⟨rfl, rfl⟩
        unfold bareV
        go_wp2_with fail
        refine Hfi.out.mono ?_
        rintro e w1 ⟨rfl, hc1⟩
        unfold firstV
        have hbk1 := hbk.chg hc1 id
        clear k0 k1 k2 k3 k4 k5 k6 k7 f0 f1 f2 f3 f4 f5 f6 f7
        obtain ⟨k0, k1, k2, k3, k4, k5, k6, k7⟩ := wire_cells hbk1
        obtain ⟨f0, f1, f2, f3, f4, f5, f6, f7⟩ := wire_free hbk1
        go_wp2
        go_ret
        have hb6 := (((((hbk1.set 2 (.string (str mt))).set 3 (.string (str tg))).set 4 (.slice none 0 0)).set 5 (.slice none 0 0)).set 6 (.bool true)).set 0 (.int .i64 2)
        have hb7 := hb6.to (cs' := wireCells 2 (.slice Al s.line.length cl) mt tg (.slice none 0 0) true none) (by simp [wireCells, Hbp.out.1])
        have hcg : Chg w ((((((w1.setCell ⟨g, 2, none⟩ (.string (str mt))).setCell ⟨g, 3, none⟩ (.string (str tg))).setCell ⟨g, 4, none⟩ (.slice none 0 0)).setCell ⟨g, 5, none⟩ (.slice none 0 0)).setCell ⟨g, 6, none⟩ (.bool true)).setCell ⟨g, 0, none⟩ (.int .i64 2)) (fun k => k = g) :=
          (Chg.now (S := fun k => k = g) (hc1.mono (fun _ _ e => e.elim)) rfl _ _ _ _ _).setCell (p := ⟨g, 0, none⟩) (fun _ => rfl) _
        refine ⟨by rw [HR1.out]; rfl, hcg.mono (fun _ _ e => .inl e), ⟨_, rfl, rfl, hb7⟩, fun _ => ⟨⟨g, .slice Al s.line.length cl, .slice none 0 0, none, .slice none 0 0⟩, rfl, ⟨rfl, ?_⟩, ?_⟩⟩
        · rintro k (e | e | e | e | e)
          · exact .inl (.inl e)
          · exact .inl (.inr (.inl e))
          · simp [Value.ownBlock] at e
          · cases e
          · simp [Value.ownBlock] at e
        · rw [HR1.out]
          exact ⟨hb7, H.out.line.chg hcg (fun k e h' => by subst h'; exact H.out.line.ne_blk hbk (by decide) e), RowG.nil _ _ _, fun h3 => by simp at h3, fun _ => ⟨rfl, rfl⟩⟩
    · rw [hn] at k0
      by_cases hb0 : b = []
      · subst hb0
        have hse : (str ([] : List UInt8)).toList.isEmpty = true := by rw [str_toList]; rfl
        have hem := empty_any _ s m w H.out HO.out hn hm hgm
        have HR1 : Hid (R = closeF s) := by show R = _; rw [HR.out]; unfold judgeB; rw [if_neg (by omega), if_pos rfl]
        have Hem := Lib.hid hem
        clear hem hn
        go_enter Tryd.func68, Tryd.ntmps68
        go_wp2_with fail
        refine hba.mono ?_
        rintro e w' ⟨rfl, rfl⟩
        unfold bareV
        go_wp2_with fail
        refine Hem.out.mono ?_
        rintro e w1 ⟨rfl, hc1, hcs, hw1⟩
        have Hw1 := Lib.hid hw1
        have Hcs := Lib.hid hcs
        clear hw1 hcs
        go_wp2
        go_ret
        have hx : (closeF s).1 = (emptyF s.fs).1 := by unfold closeF; split <;> simp_all
        refine ⟨by rw [HR1.out, hx]; rfl, hc1.mono (fun _ _ e => .inl e), Hcs.out, fun h0 => ?_⟩
        rw [HR1.out, hx] at h0
        obtain ⟨bb, hbb, hw⟩ := Hw1.out h0
        refine ⟨{ g := g, ln := .slice Al s.line.length cl, fl := .slice Af s.fs.length cf, bp := some bb, bv := .slice none 0 0 }, rfl, ⟨rfl, ?_⟩, by rw [HR1.out]; exact hw⟩
        rintro k (e | e | e | e | e)
        · exact .inl (.inl e)
        · exact .inl (.inr (.inl e))
        · exact .inl (.inr (.inr (.inl e)))
        · have e' : some bb = some k := e
          injection e' with e'
          subst e'
          exact .inr hbb
        · simp [Value.ownBlock] at e
      · have hse : (str b).toList.isEmpty = false := by rw [str_toList]; cases b with | nil => exact absurd rfl hb0 | cons a c => rfl
        have HR1 : Hid (R = fieldW s b) := by show R = _; rw [HR.out]; unfold judgeB; rw [if_neg (by omega), if_neg hb0]
        by_cases h32 : s.fs.length = 32
        · have HR2 : Hid (R.1 = 2) := by show R.1 = 2; rw [HR1.out]; unfold fieldW; rw [if_pos h32]
          have bl : ((s.fs.length : Int) == 32) = true := by simp [h32]
          have H32 := Lib.hid h32
          clear h32 hn hb0
          go_enter Tryd.func68, Tryd.ntmps68
          go_wp2_with fail
          refine hba.mono ?_
          rintro e w' ⟨rfl, rfl⟩
          unfold bareV
          go_wp2
          go_ret
          exact StepP.raw (Chg.refl _ _) hbk rfl rfl HR2.out (by decide)
        · have bl : ((s.fs.length : Int) == 32) = false := by simp; omega
          have hli := line_any b m w hm (by omega)
          have Hn := Lib.hid hn
          have Hbp := Lib.hid (H.out.none_ (by omega))
          cases hfb : fieldF b with
          | none =>
            have HR2 : Hid (R.1 = 4) := by show R.1 = 4; rw [HR1.out]; unfold fieldW; rw [if_neg h32, hfb]
            rw [hfb] at hli
            unfold lineV at hli
            have Hli := Lib.hid hli
            clear hli hfb h32 hn hb0
            go_enter Tryd.func68, Tryd.ntmps68
            go_wp2_with fail
            refine hba.mono ?_
            rintro e w' ⟨rfl, rfl⟩
            unfold bareV
            go_wp2_with fail
            refine Hli.out.mono ?_
            rintro e w1 ⟨rfl, hc1⟩
            go_wp2_with fail
            obtain ⟨w2, hw2⟩ : ∃ w2, w2 = (w1.alloc (.cells #[.string ⟨#[]⟩, .string ⟨#[]⟩] 42)) := ⟨_, rfl⟩
            have hz2 : Blk w2 w1.heap.size 42 #[.string ⟨#[]⟩, .string ⟨#[]⟩] := by rw [hw2]; exact Blk.new w1 _ _
            have hc2 : Chg w w2 (fun _ => False) := by rw [hw2]; exact hc1.alloc _
            rw [← hw2]
            clear hw2
            have hbk2 := hbk.chg hc2 id
            have hr2 := hrow.chg hc2 (fun _ _ => id)
            have hzlt := hz2.lt
            have hglt := hbk2.lt
            obtain ⟨z0, z1, -, -⟩ := fld_cells hz2
            clear k0 k1 k2 k3 k4 k5 k6 k7 f0 f1 f2 f3 f4 f5 f6 f7
            obtain ⟨k0, k1, k2, k3, k4, k5, k6, k7⟩ := wire_cells hbk2
            obtain ⟨f0, f1, f2, f3, f4, f5, f6, f7⟩ := wire_free hbk2
            go_region_law (refine step_appG Tryd.underlying52 fld_info rfl (by decide) (by decide) rfl _ _ rfl (.slice Af s.fs.length cf) s.fs.length (fcells s.fs) (by rfl) (hr2.chg (((Chg.refl w2 (fun _ => False)).alloc (.cells #[.string ⟨#[]⟩, .string ⟨#[]⟩] 42)).drew) (fun _ _ => id)) (some ⟨w2.heap.size, 0, none⟩) 1 1 [.string ⟨#[]⟩, .string ⟨#[]⟩] rfl (by rfl) (RdV.one (Blk.new w2 _ _).drew) (by simp [Value.oneCell']) (by omega) ?_; intro A3 c3 w3 hrow3 hc3 hf3; have q4 := ((hbk2.alloc (.cells #[.string ⟨#[]⟩, .string ⟨#[]⟩] 42)).drew).chg hc3 (hr2.ne_blk hbk2 (by decide)); have q5 := q4.cell 4; have q6 := q4.free 4; simp only [wireCells] at q5)
            all_goals
              clear k0 k1 k2 k3 k4 k5 k6 k7 f0 f1 f2 f3 f4 f5 f6 f7 z0 z1 q5 q6
              go_wp2
              go_ret
              exact StepP.raw (fld_done hc2 hc3 _) (q4.set 4 _) (by simp [wireCells]) (by simp [wireCells]) HR2.out (by decide)
          | some f =>
            obtain ⟨nm, vl⟩ := f
            have HR2 : Hid (R = (0, { s with fs := s.fs ++ [(nm, vl)] })) := by show R = _; rw [HR1.out]; unfold fieldW; rw [if_neg h32, hfb]
            rw [hfb] at hli
            unfold lineV at hli
            have Hli := Lib.hid hli
            clear hli hfb h32 hn hb0
            go_enter Tryd.func68, Tryd.ntmps68
            go_wp2_with fail
            refine hba.mono ?_
            rintro e w' ⟨rfl, rfl⟩
            unfold bareV
            go_wp2_with fail
            refine Hli.out.mono ?_
            rintro e w1 ⟨rfl, hc1⟩
            go_wp2_with fail
            obtain ⟨w2, hw2⟩ : ∃ w2, w2 = (w1.alloc (.cells #[.string (str nm), .string (str vl)] 42)) := ⟨_, rfl⟩
            have hz2 : Blk w2 w1.heap.size 42 #[.string (str nm), .string (str vl)] := by rw [hw2]; exact Blk.new w1 _ _
            have hc2 : Chg w w2 (fun _ => False) := by rw [hw2]; exact hc1.alloc _
            rw [← hw2]
            clear hw2
            have hbk2 := hbk.chg hc2 id
            have hr2 := hrow.chg hc2 (fun _ _ => id)
            have hzlt := hz2.lt
            have hglt := hbk2.lt
            obtain ⟨z0, z1, -, -⟩ := fld_cells hz2
            clear k0 k1 k2 k3 k4 k5 k6 k7 f0 f1 f2 f3 f4 f5 f6 f7
            obtain ⟨k0, k1, k2, k3, k4, k5, k6, k7⟩ := wire_cells hbk2
            obtain ⟨f0, f1, f2, f3, f4, f5, f6, f7⟩ := wire_free hbk2
            go_region_law (refine step_appG Tryd.underlying52 fld_info rfl (by decide) (by decide) rfl _ _ rfl (.slice Af s.fs.length cf) s.fs.length (fcells s.fs) (by rfl) (hr2.chg (((Chg.refl w2 (fun _ => False)).alloc (.cells #[.string (str nm), .string (str vl)] 42)).drew) (fun _ _ => id)) (some ⟨w2.heap.size, 0, none⟩) 1 1 [.string (str nm), .string (str vl)] rfl (by rfl) (RdV.one (Blk.new w2 _ _).drew) (by simp [Value.oneCell']) (by omega) ?_; intro A3 c3 w3 hrow3 hc3 hf3; have q4 := ((hbk2.alloc (.cells #[.string (str nm), .string (str vl)] 42)).drew).chg hc3 (hr2.ne_blk hbk2 (by decide)); have q5 := q4.cell 4; have q6 := q4.free 4; simp only [wireCells] at q5)
            all_goals
              clear k0 k1 k2 k3 k4 k5 k6 k7 f0 f1 f2 f3 f4 f5 f6 f7 z0 z1 q5 q6
              go_wp2
              go_ret
              have hcw := fld_done (g := g) hc2 hc3 (.slice A3 (s.fs.length + 1) c3)
              have hb7 := (q4.set 4 (.slice A3 (s.fs.length + 1) c3)).to (cs' := wireCells s.next (.slice Al s.line.length cl) s.m s.t (.slice A3 (s.fs.length + 1) c3) s.keep none) (by simp [wireCells, Hbp.out.1])
              refine ⟨by rw [HR2.out]; rfl, hcw, ⟨_, rfl, rfl, hb7⟩, fun _ => ⟨{ g := g, ln := .slice Al s.line.length cl, fl := .slice A3 (s.fs.length + 1) c3, bp := none, bv := .slice none 0 0 }, rfl, ⟨rfl, ?_⟩, ?_⟩⟩
              · rintro k (e | e | e | e | e)
                · exact .inl (.inl e)
                · exact .inl (.inr (.inl e))
                · rcases hf3 k e with e | e
                  · exact .inl (.inr (.inr (.inl e)))
                  · refine .inr ?_
                    have := hc2.size
                    simp at e
                    omega
                · cases e
                · simp [Value.ownBlock] at e
              · rw [HR2.out]
                refine ⟨hb7, H.out.line.chg hcw ?_, ?_, fun h3 => absurd h3 (by have := Hn.out; simp only; omega), fun _ => ⟨rfl, rfl⟩⟩
                · rintro k e (h' | h')
                  · subst h'
                    exact H.out.line.ne_blk hbk (by decide) e
                  · exact hrow.ne_row H.out.line (by decide) h' e
                · have hq := hrow3.chg ((Chg.refl w3 (fun k => k = g)).set1 4 (.slice A3 (s.fs.length + 1) c3)) (fun k e h' => by subst h'; exact hrow3.ne_blk q4 (by decide) e)
                  show RowG _ _ 2 _ (s.fs ++ [(nm, vl)]).length (fcells (s.fs ++ [(nm, vl)]))
                  rw [fcells_snoc, List.length_append]
                  exact hq
end Go.Proofs.YtkbmajkoojgkpaaDoor
