/- The contract of wire's empty: a head that is whole. -/
import Derived.Test.YtkbmajkoojgkpaaDoorWFirst
import Derived.Test.YtkbmajkoojgkpaaDoorShelfW
namespace Go.Proofs.YtkbmajkoojgkpaaDoor
open Go.RowKit

theorem lower_all : ∀ c : Fin 256, Lib.lowerB (UInt8.ofNat c.val) = low (UInt8.ofNat c.val) := by decide +kernel
theorem lower_low (l : List UInt8) : Lib.toLowerA l = l.map low := by
  unfold Lib.toLowerA
  refine List.map_congr_left fun c _ => ?_
  have := lower_all ⟨c.toNat, c.toNat_lt⟩
  simpa only [UInt8.ofNat_toNat] using this
theorem lower_any (xs : List UInt8) (w : World) (ha : xs.all valC = true) (hl : xs.length ≤ 1000000) :
    Calls Tryd.prog 96 #[.string (str xs)] w fun e w' => e = .returned (.string (str (xs.map low))) ∧ Chg w w' (fun _ => False) := by
  refine (Tryd.strings_ToLower_ascii (str xs) w (by rw [str_size]; omega) (fun j b hb => ?_)).mono ?_
  · have hm := List.all_eq_true.1 ha b (List.mem_of_getElem? hb)
    simp [valC] at hm
    omega
  · rintro e w' ⟨he, hb⟩
    refine ⟨?_, Chg.of_below hb _⟩
    rw [he, ← lower_low]
    rfl

theorem wordsF_len (l : List UInt8) : (wordsF l).length ≤ l.length + 1 := by
  rw [wordsF_eq]
  exact Nat.le_trans (wordsOf_len _) (splitL_count 44 l)

theorem emptyF_bad {fs : List Fld} (h : cntF hostN fs ≠ 1 ∨ 1 < cntF teN fs ∨ 1 < cntF clN fs ∨ (cntF teN fs = 1 ∧ cntF clN fs = 1) ∨ (cntF clN fs = 1 ∧ lengthF (findF clN fs) = none)) : (emptyF fs).1 = 4 := by
  unfold emptyF
  rw [if_pos h]
theorem emptyF_good {fs : List Fld} (h0 : cntF hostN fs = 1) (h1 : cntF teN fs ≤ 1) (h2 : cntF clN fs ≤ 1) (h3 : ¬ (cntF teN fs = 1 ∧ cntF clN fs = 1)) (h4 : cntF clN fs = 1 → lengthF (findF clN fs) ≠ none) :
    emptyF fs = if cntF teN fs = 1 then (if (findF teN fs).map low = chunkedN then (0, sN 2 0 0 []) else (4, sN 0 0 0 []))
      else if cntF clN fs = 1 then (if 4096 < (lengthF (findF clN fs)).getD 0 then (9, sN 0 0 0 []) else (0, sized0 ((lengthF (findF clN fs)).getD 0))) else (0, sized0 0) := by
  unfold emptyF
  rw [if_neg]
  rintro (h | h | h | h | h)
  · exact h h0
  · omega
  · omega
  · exact h3 h
  · exact h4 h.1 h.2

/-- What empty leaves: an error, or a wire whose body begins. -/
def EmptyP (p : WAt) (s : WSt) (w : World) (e : Ending) (w' : World) : Prop :=
  e = .returned (.int .i64 (emptyF s.fs).1) ∧ Chg w w' (fun k => k = p.g) ∧ (∃ cs : Array Value, cs.size = 8 ∧ cs[1]? = some p.ln ∧ Blk w' p.g 68 cs) ∧
    ((emptyF s.fs).1 = 0 → ∃ b, w.heap.size ≤ b ∧ Wire w' { p with bp := some b, bv := .slice none 0 0 } (closeF s).2)
theorem EmptyP.bad {p : WAt} {s : WSt} {w w' : World} {z : Int} (h : Wire w p s) (hc : Chg w w' (fun _ => False)) (he : (emptyF s.fs).1 = z) (hz : z ≠ 0) : EmptyP p s w (.returned (.int .i64 z)) w' :=
  ⟨by rw [he], hc.mono (fun _ _ e => e.elim), ⟨_, rfl, rfl, h.blk.chg hc id⟩, fun h0 => absurd (he.symm.trans h0) hz⟩
theorem RowF.rdF {w : World} {A : Option Addr} {c : Nat} {fs : List Fld} (h : RowF w (.slice A fs.length c) fs) : RdF w A fs := RdF.of_rdV (RdV.of_rowG h)

theorem getV_parts (name : List UInt8) (fs : List Fld) : ∃ v : List UInt8, (cntF name fs = 0 ∧ getV name fs = .tuple #[.string ⟨#[]⟩, .int .i64 5]) ∨ (cntF name fs = 1 ∧ getV name fs = .tuple #[.string (str v), .int .i64 0] ∧ v = findF name fs) ∨ (2 ≤ cntF name fs ∧ getV name fs = .tuple #[.string ⟨#[]⟩, .int .i64 6]) := by
  refine ⟨findF name fs, ?_⟩
  have : cntF name fs = 0 ∨ cntF name fs = 1 ∨ 2 ≤ cntF name fs := by omega
  rcases this with h | h | h
  · exact .inl ⟨h, getV_0 h⟩
  · exact .inr (.inl ⟨h, getV_1 h, rfl⟩)
  · exact .inr (.inr ⟨h, getV_2 h⟩)

/-- The wire's block while the fields are gone over. -/
theorem keep_set {w : World} {g : Nat} {nx : Int} {ln fl : Value} {m t : List UInt8} {kp : Bool} {bp : Option Nat} (h : Blk w g 68 (wireCells nx ln m t fl kp bp)) (b : Bool) : Blk (w.setCell ⟨g, 6, none⟩ (.bool b)) g 68 (wireCells nx ln m t fl b bp) :=
  (h.set 6 (.bool b)).to (by simp [wireCells])
theorem saysF_take {ws : List (List UInt8)} {j : Nat} (hj : j < ws.length) : (ws.take (j + 1)).any (fun w => decide (w = closeN)) = ((ws.take j).any (fun w => decide (w = closeN)) || decide (ws[j] = closeN)) := by
  rw [List.take_succ_eq_append_getElem hj, List.any_append]
  simp

/-- Behind the fields. -/
theorem sized_eq (n : Nat) : (if (n : Int) = 0 then st0 9 0 else st0 1 n) = sized0 n := by
  unfold sized0
  by_cases h : n = 0
  · subst h; rfl
  · rw [if_neg h, if_neg (by omega)]; rfl
theorem EmptyP.good {p : WAt} {s : WSt} {w w3 w4 : World} {b : Nat} (h : Wire w p s) (hn : s.next = 2) (he : (emptyF s.fs).1 = 0) (hc : Chg w w3 (fun k => k = p.g)) (hb3 : Blk w3 p.g 68 (wireCells 3 p.ln s.m s.t p.fl (s.keep && !closesF s.fs) p.bp))
    (hnew : NewBody w3 (emptyF s.fs).2 b w4) : EmptyP p s w (.returned (.int .i64 0)) (w4.setCell ⟨p.g, 7, none⟩ (.pointer (some ⟨b, 0, none⟩))) := by
  obtain ⟨h1, h2, h3⟩ := hnew
  have hc4 : Chg w w4 (fun k => k = p.g) := hc.trans h3 (fun _ _ e => e.elim)
  have hc5 : Chg w (w4.setCell ⟨p.g, 7, none⟩ (.pointer (some ⟨b, 0, none⟩))) (fun k => k = p.g) := hc4.setCell (fun _ => rfl) _
  have hb5 : Blk (w4.setCell ⟨p.g, 7, none⟩ (.pointer (some ⟨b, 0, none⟩))) p.g 68 (wireCells 3 p.ln s.m s.t p.fl (s.keep && !closesF s.fs) (some b)) := ((hb3.chg h3 id).set 7 _).to (by simp [wireCells])
  have hgl := h.blk.lt
  have hsz := hc.size
  have hne : b ≠ p.g := by omega
  have hx : (closeF s).2 = { s with next := 3, keep := s.keep && !closesF s.fs, bd := (emptyF s.fs).2 } := by unfold closeF; rw [if_pos he]
  refine ⟨by rw [he], hc5, ⟨_, rfl, rfl, hb5⟩, fun _ => ⟨b, by omega, ?_⟩⟩
  rw [hx]
  refine ⟨hb5, h.line.chg hc5 (fun k e h' => by subst h'; exact h.line.ne_blk h.blk (by decide) e), h.flds.chg hc5 (fun k e h' => by subst h'; exact h.flds.ne_blk h.blk (by decide) e), fun _ => ⟨b, rfl, ?_, fun k _ e => by simp [Value.ownBlock] at e⟩, fun hx => absurd rfl hx⟩
  exact ⟨h2.blk.far hne _, h2.row.chg (S := fun k => k = p.g) ((Chg.refl w4 _).set1 7 _) (fun k e => by simp [Value.ownBlock] at e)⟩

set_option maxHeartbeats 8000000 in
set_option maxRecDepth 100000 in
theorem empty_any (p : WAt) (s : WSt) (m : Int) (w : World) (h : Wire w p s) (hok : s.Fl) (hn : s.next = 2) (hm : MaxL w m) (hgm : p.g ≠ 0) :
    Calls Tryd.prog 80 #[.pointer (some ⟨p.g, 0, none⟩)] w (EmptyP p s w) := by
  obtain ⟨Af, cf, hfl, -, -⟩ := h.flds.shape
  have H := Lib.hid h
  have hflen := hok.fl
  have hasc := hok.asc
  obtain ⟨g, ln, fl, bp, bv⟩ := p
  simp only at hfl hgm
  subst hfl
  have hb0 := h.none_ (by omega)
  simp only at hb0
  have hrow := h.flds
  have hbk := h.blk
  simp only at hrow hbk
  rw [hn] at hbk
  have hrF : RdF w Af s.fs := RowF.rdF hrow
  obtain ⟨k0, k1, k2, k3, k4, k5, k6, k7⟩ := wire_cells hbk
  have hlt := hbk.lt
  have hasc2 : ∀ name, cntF name s.fs = 1 → (findF name s.fs).length ≤ 1024 ∧ (findF name s.fs).all valC = true := fun name h1 => by
    obtain ⟨f, hf, e⟩ := findF_mem (name := name) (fs := s.fs) (by omega)
    rw [e]
    exact (hasc f hf).2
  have Hasc := Lib.hid hasc
  have Hasc2 := Lib.hid hasc2
  have hg1 := get_any Af s.fs.length cf s.fs teN w rfl hrF (by omega)
  have hg2 := fun w' hr => get_any Af s.fs.length cf s.fs clN w' rfl hr (by omega)
  have hg3 := fun w' hr => count_any Af s.fs.length cf s.fs hostN w' rfl hr (by omega)
  obtain ⟨v1, hv1⟩ := getV_parts teN s.fs
  obtain ⟨v2, hv2⟩ := getV_parts clN s.fs
  obtain ⟨q, hq⟩ : ∃ q, q = cntF hostN s.fs := ⟨_, rfl⟩
  rw [← hq] at hg3
  have Hq := Lib.hid hq
  have Hg3 := Lib.hid hg3
  have Hn := Lib.hid hn
  clear hq hg3 hasc hasc2 hb0 k0 k1 k2 k3 k5 k6 k7 hn
  rcases hv1 with hv1 | hv1 | hv1
  · rcases hv2 with hv2 | hv2 | hv2
    · obtain ⟨hc1', hv1⟩ := hv1
      obtain ⟨hc2', hv2⟩ := hv2
      rw [hv1] at hg1
      have hg2' := hg2
      simp only [hv2] at hg2'
      have Hg1 := Lib.hid hg1
      have Hg2 := Lib.hid hg2'
      have Hc1 := Lib.hid hc1'
      have Hc2 := Lib.hid hc2'
      clear hg1 hg2 hg2' hv1 hv2 hc1' hc2'
      by_cases hh : q = 1
      · subst hh
        have b1 : (((1 : Nat) : Int) != 1) = false := rfl
        have Hgood := Lib.hid (emptyF_good Hq.out.symm (by have := Hc1.out; omega) (by have := Hc2.out; omega) (by have := Hc1.out; have := Hc2.out; omega) (by have := Hc2.out; omega))
        have hE : emptyF s.fs = (0, sized0 0) := by rw [Hgood.out, if_neg (by have := Hc1.out; omega), if_neg (by have := Hc2.out; omega)]
        have HE := Lib.hid hE
        clear hE
        go_enter Tryd.func80, Tryd.ntmps80
        go_wp2_with fail
        refine Hg1.out.mono ?_
        rintro e w1 ⟨rfl, hc1⟩
        go_wp2_with fail
        refine (Hg2.out w1 (hrF.chg hc1 (fun _ _ => id))).mono ?_
        rintro e w2 ⟨rfl, hc2⟩
        have hc02 : Chg w w2 (fun _ => False) := hc1.trans hc2 (fun _ _ e => e)
        go_wp2_with fail
        refine (Hg3.out w2 (hrF.chg hc02 (fun _ _ => id))).mono ?_
        rintro e w3 ⟨rfl, hc3⟩
        have hc03 : Chg w w3 (fun _ => False) := hc02.trans hc3 (fun _ _ e => e)
        go_wp2_with fail
        go_loopw [65] (fun iv wr => ∃ (k : Nat) (kp : Bool), k ≤ s.fs.length ∧ iv = .int .i64 k ∧ Hid (kp = (s.keep && !closesF (s.fs.take k))) ∧ Chg w wr (fun k => k = g) ∧ Blk wr g 68 (wireCells 2 ln s.m s.t (.slice Af s.fs.length cf) kp bp)) (fun iv _ => s.fs.length - (intOf iv).toNat)
        case atStart => exact ⟨0, s.keep, Nat.zero_le _, rfl, (show s.keep = (s.keep && !closesF (s.fs.take 0)) by simp [closesF]), hc03.mono (fun _ _ e => e.elim), hbk.chg hc03 id⟩
        case round =>
          obtain ⟨k, kp, hk, rfl, hkp, hcr, hbr⟩ := hrel
          have hrr : RdF wr Af s.fs := RowF.rdF (hrow.chg hcr (fun k e h' => by subst h'; exact hrow.ne_blk hbk (by decide) e))
          have hmr := hm.chg hcr (fun e => hgm e.symm)
          by_cases hlt : k < s.fs.length
          · obtain ⟨ad, rfl, hx0, hx1, hx2⟩ := hrr.at hlt
            have hfl1 := (Hasc.out _ (List.getElem_mem hlt)).2.1
            have Hnext := Lib.hid (closesF_next hlt)
            have hal := hcr.alloc (.cells #[.string (str s.fs[k].1), .string (str s.fs[k].2)] 42)
            have hbl := hbr.alloc (.cells #[.string (str s.fs[k].1), .string (str s.fs[k].2)] 42)
            by_cases hx : s.fs[k].1 = connN
            · have b2 : ((str s.fs[k].1).toList == [99, 111, 110, 110, 101, 99, 116, 105, 111, 110]) = true := by rw [str_toList, hx]; rfl
              have b3 : ((str s.fs[k].1).toList != [99, 111, 110, 110, 101, 99, 116, 105, 111, 110]) = false := by rw [bne, b2]; rfl
              have Hx := Lib.hid hx
              have hwo := words_any s.fs[k].2 m _ (hmr.chg ((Chg.refl wr (fun _ => False)).alloc (.cells #[.string (str s.fs[k].1), .string (str s.fs[k].2)] 42)) id) (by omega)
              have Hsay : Hid (saysF s.fs[k].2 = (wordsF s.fs[k].2).any (fun w => decide (w = closeN))) := rfl
              have hwl := wordsF_len s.fs[k].2
              generalize wordsF s.fs[k].2 = ws at hwo Hsay hwl
              have hgs := hbr.lt
              clear hx
              go_wp2_with fail
              refine hwo.mono ?_
              rintro e w5 ⟨Aw, cw, rfl, hrowT, hc5, hf5⟩
              clear hwo
              have hc05 : Chg w w5 (fun k => k = g) := hal.trans hc5 (fun _ _ e => e.elim)
              have hb5 := hbl.chg hc5 id
              have hnw : ∀ i, i = g → ¬ (Value.slice Aw ws.length cw).ownBlock = some i := fun i e => by subst e; exact newFoot_nil hf5 (by simp; omega)
              go_wp2_with fail
              go_loopw [76] (fun iv wq => ∃ (j : Nat) (kq : Bool), j ≤ ws.length ∧ iv = .int .i64 j ∧ Hid (kq = (kp && !(ws.take j).any (fun w => decide (w = closeN)))) ∧ Chg w5 wq (fun k => k = g) ∧ Blk wq g 68 (wireCells 2 ln s.m s.t (.slice (some ad) s.fs.length cf) kq bp)) (fun iv _ => ws.length - (intOf iv).toNat)
              case atStart => exact ⟨0, kp, Nat.zero_le _, rfl, (show kp = (kp && !(ws.take 0).any (fun w => decide (w = closeN))) by simp), Chg.refl _ _, hb5⟩
              case round =>
                obtain ⟨j, kq, hj, rfl, hkq, hcq, hbq⟩ := hrel
                have hrq := hrowT.chg hcq (fun i e h' => hnw i h' e)
                obtain ⟨-, -, -, -, -, -, q6, -⟩ := wire_cells hbq
                obtain ⟨-, -, -, -, -, -, f6, -⟩ := wire_free hbq
                by_cases hjl : j < ws.length
                · obtain ⟨ad2, rfl, hcw⟩ := (RdV.of_rowT hrq).at (k := j) (by simpa using hjl)
                  rw [List.getElem_map] at hcw
                  unfold strV at hcw
                  have Hs := Lib.hid (saysF_take hjl)
                  have hks := fun b => keep_set hbq b
                  have hcs := fun b => hcq.setCell (p := ⟨g, 6, none⟩) (fun _ => rfl) (.bool b)
                  have Hks := Lib.hid hks
                  have Hcs := Lib.hid hcs
                  clear hks hcs
                  cases kq
                  · go_wp2_with fail
                    go_roundw
                    case rel => exact ⟨j + 1, false, by omega, by go_num, (show false = _ by rw [Hs.out, Bool.not_or, ← Bool.and_assoc, ← hkq.out]; rfl), Hcs.out false, Hks.out false⟩
                    case measure => simp [intOf]; omega
                  · by_cases hcl : ws[j] = closeN
                    · have b4 : ((str ws[j]).toList == [99, 108, 111, 115, 101]) = true := by rw [str_toList, hcl]; rfl
                      have b5 : ((str ws[j]).toList != [99, 108, 111, 115, 101]) = false := by rw [bne, b4]; rfl
                      have Hcl := Lib.hid hcl
                      clear hcl
                      go_wp2_with fail
                      go_roundw
                      case rel => exact ⟨j + 1, false, by omega, by go_num, (show false = _ by rw [Hs.out, Hcl.out]; simp), Hcs.out false, Hks.out false⟩
                      case measure => simp [intOf]; omega
                    · have b4 : ((str ws[j]).toList == [99, 108, 111, 115, 101]) = false := by rw [str_toList]; simpa [closeN] using hcl
                      have b5 : ((str ws[j]).toList != [99, 108, 111, 115, 101]) = true := by rw [bne, b4]; rfl
                      have Hcl := Lib.hid hcl
                      clear hcl
                      go_wp2_with fail
                      go_roundw
                      case rel => exact ⟨j + 1, true, by omega, by go_num, (show true = _ by rw [Hs.out, Bool.not_or, ← Bool.and_assoc, ← hkq.out]; simp [Hcl.out]), Hcs.out true, Hks.out true⟩
                      case measure => simp [intOf]; omega
                · obtain rfl : j = ws.length := by omega
                  go_wp2_with fail
                  go_roundw
                  case rel => exact ⟨k + 1, kq, by omega, by go_num, (show kq = _ by rw [Hnext.out, hkq.out, hkp.out, Hx.out, List.take_length, ← Hsay.out]; simp [Bool.and_assoc]), hc05.trans hcq (fun _ _ e => e), hbq⟩
                  case measure => simp [intOf]; omega
            · have b2 : ((str s.fs[k].1).toList == [99, 111, 110, 110, 101, 99, 116, 105, 111, 110]) = false := by rw [str_toList]; simpa [connN] using hx
              have b3 : ((str s.fs[k].1).toList != [99, 111, 110, 110, 101, 99, 116, 105, 111, 110]) = true := by rw [bne, b2]; rfl
              have Hx := Lib.hid hx
              clear hx
              go_wp2_with fail
              go_roundw
              case rel => exact ⟨k + 1, kp, by omega, by go_num, (show kp = _ by rw [Hnext.out, hkp.out]; simp [Hx.out]), hal, hbl⟩
              case measure => simp [intOf]; omega
          · obtain rfl : k = s.fs.length := by omega
            have Hkp : Hid (kp = (s.keep && !closesF s.fs)) := by have := hkp.out; rw [List.take_length] at this; exact this
            clear hkp
            obtain ⟨q0, -, -, -, -, -, -, q7⟩ := wire_cells hbr
            obtain ⟨f0, -, -, -, -, -, -, f7⟩ := wire_free hbr
            have hgs := hbr.lt
            have hc3 := hcr.setCell (p := ⟨g, 0, none⟩) (fun _ => rfl) (.int .i64 3)
            have hb3 : Blk (wr.setCell ⟨g, 0, none⟩ (.int .i64 3)) g 68 (wireCells 3 ln s.m s.t (.slice Af s.fs.length cf) (s.keep && !closesF s.fs) bp) := by
              rw [← Hkp.out]
              exact (hbr.set 0 _).to (by simp [wireCells])
            have HB3 := Lib.hid hb3
            have HC3 := Lib.hid hc3
            clear hb3 hc3
            go_wp2_with fail
            refine (sized_any 0 _).mono ?_
            rintro e w4 (⟨hz, -⟩ | ⟨hz, -⟩ | ⟨-, -, b, rfl, hnb⟩)
            · omega
            · omega
            have hb4 := HB3.out.chg hnb.2.2 id
            obtain ⟨-, -, -, -, -, -, -, q7⟩ := wire_cells hb4
            obtain ⟨-, -, -, -, -, -, -, f7⟩ := wire_free hb4
            go_wp2
            go_ret
            exact EmptyP.good (b := b) (w3 := wr.setCell ⟨g, 0, none⟩ (.int .i64 3)) H.out Hn.out (by rw [HE.out]) HC3.out HB3.out (by rw [HE.out]; exact hnb)
      · have b1 : ((q : Int) != 1) = true := by simp; omega
        have Hh : Hid (cntF hostN s.fs ≠ 1) := by rw [← Hq.out]; exact hh
        clear hh
        go_enter Tryd.func80, Tryd.ntmps80
        go_wp2_with fail
        refine Hg1.out.mono ?_
        rintro e w1 ⟨rfl, hc1⟩
        go_wp2_with fail
        refine (Hg2.out w1 (hrF.chg hc1 (fun _ _ => id))).mono ?_
        rintro e w2 ⟨rfl, hc2⟩
        have hc02 : Chg w w2 (fun _ => False) := hc1.trans hc2 (fun _ _ e => e)
        go_wp2_with fail
        refine (Hg3.out w2 (hrF.chg hc02 (fun _ _ => id))).mono ?_
        rintro e w3 ⟨rfl, hc3⟩
        have hc03 : Chg w w3 (fun _ => False) := hc02.trans hc3 (fun _ _ e => e)
        go_wp2
        all_goals
          go_ret
          exact EmptyP.bad H.out hc03 (emptyF_bad (.inl Hh.out)) (by decide)
    · obtain ⟨hc1', hv1⟩ := hv1
      obtain ⟨hc2', hv2, hvx⟩ := hv2
      have hl2 := (Hasc2.out clN hc2').1
      rw [← hvx] at hl2
      rw [hv1] at hg1
      have hg2' := hg2
      simp only [hv2] at hg2'
      have Hg1 := Lib.hid hg1
      have Hg2 := Lib.hid hg2'
      have Hc1 := Lib.hid hc1'
      have Hc2 := Lib.hid hc2'
      have Hvx := Lib.hid hvx
      clear hvx
      clear hg1 hg2 hg2' hv1 hv2 hc1' hc2'
      cases hlen : lengthF v2 with
      | none =>
        have Hlen := Lib.hid hlen
        clear hlen
        go_enter Tryd.func80, Tryd.ntmps80
        go_wp2_with fail
        refine Hg1.out.mono ?_
        rintro e w1 ⟨rfl, hc1⟩
        go_wp2_with fail
        refine (Hg2.out w1 (hrF.chg hc1 (fun _ _ => id))).mono ?_
        rintro e w2 ⟨rfl, hc2⟩
        have hc02 : Chg w w2 (fun _ => False) := hc1.trans hc2 (fun _ _ e => e)
        go_wp2_with fail
        refine (length_any v2 w2 (by omega)).mono ?_
        rintro e w' ⟨rfl, rfl⟩
        rw [Hlen.out]
        unfold lengthV
        go_wp2_with fail
        refine (Hg3.out w2 (hrF.chg hc02 (fun _ _ => id))).mono ?_
        rintro e w3 ⟨rfl, hc3⟩
        have hc03 : Chg w w3 (fun _ => False) := hc02.trans hc3 (fun _ _ e => e)
        go_wp2
        all_goals
          go_ret
          exact EmptyP.bad H.out hc03 (emptyF_bad (.inr (.inr (.inr (.inr ⟨Hc2.out, by rw [← Hvx.out, Hlen.out]⟩))))) (by decide)
      | some n =>
        have Hlen := Lib.hid hlen
        clear hlen
        by_cases hh : q = 1
        · subst hh
          have b1 : (((1 : Nat) : Int) != 1) = false := rfl
          have Hgood := Lib.hid (emptyF_good Hq.out.symm (by have := Hc1.out; omega) (by have := Hc2.out; omega) (by have := Hc1.out; have := Hc2.out; omega) (fun _ => by rw [← Hvx.out, Hlen.out]; simp))
          by_cases hbig : 4096 < n
          · have hE : (emptyF s.fs).1 = 9 := by rw [Hgood.out, if_neg (by have := Hc1.out; omega), if_pos Hc2.out, ← Hvx.out, Hlen.out, Option.getD_some, if_pos hbig]
            have HE := Lib.hid hE
            clear hE
            go_enter Tryd.func80, Tryd.ntmps80
            go_wp2_with fail
            refine Hg1.out.mono ?_
            rintro e w1 ⟨rfl, hc1⟩
            go_wp2_with fail
            refine (Hg2.out w1 (hrF.chg hc1 (fun _ _ => id))).mono ?_
            rintro e w2 ⟨rfl, hc2⟩
            have hc02 : Chg w w2 (fun _ => False) := hc1.trans hc2 (fun _ _ e => e)
            go_wp2_with fail
            refine (length_any v2 w2 (by omega)).mono ?_
            rintro e w' ⟨rfl, rfl⟩
            rw [Hlen.out]
            unfold lengthV
            go_wp2_with fail
            refine (Hg3.out w2 (hrF.chg hc02 (fun _ _ => id))).mono ?_
            rintro e w3 ⟨rfl, hc3⟩
            have hc03 : Chg w w3 (fun _ => False) := hc02.trans hc3 (fun _ _ e => e)
            go_wp2
            all_goals
              go_ret
              exact EmptyP.bad H.out hc03 (HE.out) (by decide)
          · have hE : emptyF s.fs = (0, sized0 n) := by rw [Hgood.out, if_neg (by have := Hc1.out; omega), if_pos Hc2.out, ← Hvx.out, Hlen.out, Option.getD_some, if_neg hbig]
            have HE := Lib.hid hE
            clear hE
            go_enter Tryd.func80, Tryd.ntmps80
            go_wp2_with fail
            refine Hg1.out.mono ?_
            rintro e w1 ⟨rfl, hc1⟩
            go_wp2_with fail
            refine (Hg2.out w1 (hrF.chg hc1 (fun _ _ => id))).mono ?_
            rintro e w2 ⟨rfl, hc2⟩
            have hc02 : Chg w w2 (fun _ => False) := hc1.trans hc2 (fun _ _ e => e)
            go_wp2_with fail
            refine (length_any v2 w2 (by omega)).mono ?_
            rintro e w' ⟨rfl, rfl⟩
            rw [Hlen.out]
            unfold lengthV
            go_wp2_with fail
            refine (Hg3.out w2 (hrF.chg hc02 (fun _ _ => id))).mono ?_
            rintro e w3 ⟨rfl, hc3⟩
            have hc03 : Chg w w3 (fun _ => False) := hc02.trans hc3 (fun _ _ e => e)
            go_wp2_with fail
            go_loopw [65] (fun iv wr => ∃ (k : Nat) (kp : Bool), k ≤ s.fs.length ∧ iv = .int .i64 k ∧ Hid (kp = (s.keep && !closesF (s.fs.take k))) ∧ Chg w wr (fun k => k = g) ∧ Blk wr g 68 (wireCells 2 ln s.m s.t (.slice Af s.fs.length cf) kp bp)) (fun iv _ => s.fs.length - (intOf iv).toNat)
            case atStart => exact ⟨0, s.keep, Nat.zero_le _, rfl, (show s.keep = (s.keep && !closesF (s.fs.take 0)) by simp [closesF]), hc03.mono (fun _ _ e => e.elim), hbk.chg hc03 id⟩
            case round =>
              obtain ⟨k, kp, hk, rfl, hkp, hcr, hbr⟩ := hrel
              have hrr : RdF wr Af s.fs := RowF.rdF (hrow.chg hcr (fun k e h' => by subst h'; exact hrow.ne_blk hbk (by decide) e))
              have hmr := hm.chg hcr (fun e => hgm e.symm)
              by_cases hlt : k < s.fs.length
              · obtain ⟨ad, rfl, hx0, hx1, hx2⟩ := hrr.at hlt
                have hfl1 := (Hasc.out _ (List.getElem_mem hlt)).2.1
                have Hnext := Lib.hid (closesF_next hlt)
                have hal := hcr.alloc (.cells #[.string (str s.fs[k].1), .string (str s.fs[k].2)] 42)
                have hbl := hbr.alloc (.cells #[.string (str s.fs[k].1), .string (str s.fs[k].2)] 42)
                by_cases hx : s.fs[k].1 = connN
                · have b2 : ((str s.fs[k].1).toList == [99, 111, 110, 110, 101, 99, 116, 105, 111, 110]) = true := by rw [str_toList, hx]; rfl
                  have b3 : ((str s.fs[k].1).toList != [99, 111, 110, 110, 101, 99, 116, 105, 111, 110]) = false := by rw [bne, b2]; rfl
                  have Hx := Lib.hid hx
                  have hwo := words_any s.fs[k].2 m _ (hmr.chg ((Chg.refl wr (fun _ => False)).alloc (.cells #[.string (str s.fs[k].1), .string (str s.fs[k].2)] 42)) id) (by omega)
                  have Hsay : Hid (saysF s.fs[k].2 = (wordsF s.fs[k].2).any (fun w => decide (w = closeN))) := rfl
                  have hwl := wordsF_len s.fs[k].2
                  generalize wordsF s.fs[k].2 = ws at hwo Hsay hwl
                  have hgs := hbr.lt
                  clear hx
                  go_wp2_with fail
                  refine hwo.mono ?_
                  rintro e w5 ⟨Aw, cw, rfl, hrowT, hc5, hf5⟩
                  clear hwo
                  have hc05 : Chg w w5 (fun k => k = g) := hal.trans hc5 (fun _ _ e => e.elim)
                  have hb5 := hbl.chg hc5 id
                  have hnw : ∀ i, i = g → ¬ (Value.slice Aw ws.length cw).ownBlock = some i := fun i e => by subst e; exact newFoot_nil hf5 (by simp; omega)
                  go_wp2_with fail
                  go_loopw [76] (fun iv wq => ∃ (j : Nat) (kq : Bool), j ≤ ws.length ∧ iv = .int .i64 j ∧ Hid (kq = (kp && !(ws.take j).any (fun w => decide (w = closeN)))) ∧ Chg w5 wq (fun k => k = g) ∧ Blk wq g 68 (wireCells 2 ln s.m s.t (.slice (some ad) s.fs.length cf) kq bp)) (fun iv _ => ws.length - (intOf iv).toNat)
                  case atStart => exact ⟨0, kp, Nat.zero_le _, rfl, (show kp = (kp && !(ws.take 0).any (fun w => decide (w = closeN))) by simp), Chg.refl _ _, hb5⟩
                  case round =>
                    obtain ⟨j, kq, hj, rfl, hkq, hcq, hbq⟩ := hrel
                    have hrq := hrowT.chg hcq (fun i e h' => hnw i h' e)
                    obtain ⟨-, -, -, -, -, -, q6, -⟩ := wire_cells hbq
                    obtain ⟨-, -, -, -, -, -, f6, -⟩ := wire_free hbq
                    by_cases hjl : j < ws.length
                    · obtain ⟨ad2, rfl, hcw⟩ := (RdV.of_rowT hrq).at (k := j) (by simpa using hjl)
                      rw [List.getElem_map] at hcw
                      unfold strV at hcw
                      have Hs := Lib.hid (saysF_take hjl)
                      have hks := fun b => keep_set hbq b
                      have hcs := fun b => hcq.setCell (p := ⟨g, 6, none⟩) (fun _ => rfl) (.bool b)
                      have Hks := Lib.hid hks
                      have Hcs := Lib.hid hcs
                      clear hks hcs
                      cases kq
                      · go_wp2_with fail
                        go_roundw
                        case rel => exact ⟨j + 1, false, by omega, by go_num, (show false = _ by rw [Hs.out, Bool.not_or, ← Bool.and_assoc, ← hkq.out]; rfl), Hcs.out false, Hks.out false⟩
                        case measure => simp [intOf]; omega
                      · by_cases hcl : ws[j] = closeN
                        · have b4 : ((str ws[j]).toList == [99, 108, 111, 115, 101]) = true := by rw [str_toList, hcl]; rfl
                          have b5 : ((str ws[j]).toList != [99, 108, 111, 115, 101]) = false := by rw [bne, b4]; rfl
                          have Hcl := Lib.hid hcl
                          clear hcl
                          go_wp2_with fail
                          go_roundw
                          case rel => exact ⟨j + 1, false, by omega, by go_num, (show false = _ by rw [Hs.out, Hcl.out]; simp), Hcs.out false, Hks.out false⟩
                          case measure => simp [intOf]; omega
                        · have b4 : ((str ws[j]).toList == [99, 108, 111, 115, 101]) = false := by rw [str_toList]; simpa [closeN] using hcl
                          have b5 : ((str ws[j]).toList != [99, 108, 111, 115, 101]) = true := by rw [bne, b4]; rfl
                          have Hcl := Lib.hid hcl
                          clear hcl
                          go_wp2_with fail
                          go_roundw
                          case rel => exact ⟨j + 1, true, by omega, by go_num, (show true = _ by rw [Hs.out, Bool.not_or, ← Bool.and_assoc, ← hkq.out]; simp [Hcl.out]), Hcs.out true, Hks.out true⟩
                          case measure => simp [intOf]; omega
                    · obtain rfl : j = ws.length := by omega
                      go_wp2_with fail
                      go_roundw
                      case rel => exact ⟨k + 1, kq, by omega, by go_num, (show kq = _ by rw [Hnext.out, hkq.out, hkp.out, Hx.out, List.take_length, ← Hsay.out]; simp [Bool.and_assoc]), hc05.trans hcq (fun _ _ e => e), hbq⟩
                      case measure => simp [intOf]; omega
                · have b2 : ((str s.fs[k].1).toList == [99, 111, 110, 110, 101, 99, 116, 105, 111, 110]) = false := by rw [str_toList]; simpa [connN] using hx
                  have b3 : ((str s.fs[k].1).toList != [99, 111, 110, 110, 101, 99, 116, 105, 111, 110]) = true := by rw [bne, b2]; rfl
                  have Hx := Lib.hid hx
                  clear hx
                  go_wp2_with fail
                  go_roundw
                  case rel => exact ⟨k + 1, kp, by omega, by go_num, (show kp = _ by rw [Hnext.out, hkp.out]; simp [Hx.out]), hal, hbl⟩
                  case measure => simp [intOf]; omega
              · obtain rfl : k = s.fs.length := by omega
                have Hkp : Hid (kp = (s.keep && !closesF s.fs)) := by have := hkp.out; rw [List.take_length] at this; exact this
                clear hkp
                obtain ⟨q0, -, -, -, -, -, -, q7⟩ := wire_cells hbr
                obtain ⟨f0, -, -, -, -, -, -, f7⟩ := wire_free hbr
                have hgs := hbr.lt
                have hc3 := hcr.setCell (p := ⟨g, 0, none⟩) (fun _ => rfl) (.int .i64 3)
                have hb3 : Blk (wr.setCell ⟨g, 0, none⟩ (.int .i64 3)) g 68 (wireCells 3 ln s.m s.t (.slice Af s.fs.length cf) (s.keep && !closesF s.fs) bp) := by
                  rw [← Hkp.out]
                  exact (hbr.set 0 _).to (by simp [wireCells])
                have HB3 := Lib.hid hb3
                have HC3 := Lib.hid hc3
                clear hb3 hc3
                go_wp2_with fail
                refine (sized_any (n : Int) _).mono ?_
                rintro e w4 (⟨hz, -⟩ | ⟨hz, -⟩ | ⟨-, -, b, rfl, hnb⟩)
                · omega
                · omega
                rw [sized_eq] at hnb
                have hb4 := HB3.out.chg hnb.2.2 id
                obtain ⟨-, -, -, -, -, -, -, q7⟩ := wire_cells hb4
                obtain ⟨-, -, -, -, -, -, -, f7⟩ := wire_free hb4
                go_wp2
                go_ret
                exact EmptyP.good (b := b) (w3 := wr.setCell ⟨g, 0, none⟩ (.int .i64 3)) H.out Hn.out (by rw [HE.out]) HC3.out HB3.out (by rw [HE.out]; exact hnb)
        · have b1 : ((q : Int) != 1) = true := by simp; omega
          have Hh : Hid (cntF hostN s.fs ≠ 1) := by rw [← Hq.out]; exact hh
          clear hh
          go_enter Tryd.func80, Tryd.ntmps80
          go_wp2_with fail
          refine Hg1.out.mono ?_
          rintro e w1 ⟨rfl, hc1⟩
          go_wp2_with fail
          refine (Hg2.out w1 (hrF.chg hc1 (fun _ _ => id))).mono ?_
          rintro e w2 ⟨rfl, hc2⟩
          have hc02 : Chg w w2 (fun _ => False) := hc1.trans hc2 (fun _ _ e => e)
          go_wp2_with fail
          refine (length_any v2 w2 (by omega)).mono ?_
          rintro e w' ⟨rfl, rfl⟩
          rw [Hlen.out]
          unfold lengthV
          go_wp2_with fail
          refine (Hg3.out w2 (hrF.chg hc02 (fun _ _ => id))).mono ?_
          rintro e w3 ⟨rfl, hc3⟩
          have hc03 : Chg w w3 (fun _ => False) := hc02.trans hc3 (fun _ _ e => e)
          go_wp2
          all_goals
            go_ret
            exact EmptyP.bad H.out hc03 (emptyF_bad (.inl Hh.out)) (by decide)
    · obtain ⟨hc1', hv1⟩ := hv1
      obtain ⟨hc2', hv2⟩ := hv2
      rw [hv1] at hg1
      have hg2' := hg2
      simp only [hv2] at hg2'
      have Hg1 := Lib.hid hg1
      have Hg2 := Lib.hid hg2'
      have Hc1 := Lib.hid hc1'
      have Hc2 := Lib.hid hc2'
      clear hg1 hg2 hg2' hv1 hv2 hc1' hc2'
      go_enter Tryd.func80, Tryd.ntmps80
      go_wp2_with fail
      refine Hg1.out.mono ?_
      rintro e w1 ⟨rfl, hc1⟩
      go_wp2_with fail
      refine (Hg2.out w1 (hrF.chg hc1 (fun _ _ => id))).mono ?_
      rintro e w2 ⟨rfl, hc2⟩
      have hc02 : Chg w w2 (fun _ => False) := hc1.trans hc2 (fun _ _ e => e)
      go_wp2_with fail
      refine (Hg3.out w2 (hrF.chg hc02 (fun _ _ => id))).mono ?_
      rintro e w3 ⟨rfl, hc3⟩
      have hc03 : Chg w w3 (fun _ => False) := hc02.trans hc3 (fun _ _ e => e)
      go_wp2
      all_goals
        go_ret
        exact EmptyP.bad H.out hc03 (emptyF_bad (.inr (.inr (.inl Hc2.out)))) (by decide)
  · rcases hv2 with hv2 | hv2 | hv2
    · obtain ⟨hc1', hv1, hvx1⟩ := hv1
      have hl1 := (Hasc2.out teN hc1').1
      have hval1 := (Hasc2.out teN hc1').2
      rw [← hvx1] at hl1 hval1
      have Hval1 := Lib.hid hval1
      have Hvx1 := Lib.hid hvx1
      clear hvx1 hval1
      obtain ⟨hc2', hv2⟩ := hv2
      rw [hv1] at hg1
      have hg2' := hg2
      simp only [hv2] at hg2'
      have Hg1 := Lib.hid hg1
      have Hg2 := Lib.hid hg2'
      have Hc1 := Lib.hid hc1'
      have Hc2 := Lib.hid hc2'
      clear hg1 hg2 hg2' hv1 hv2 hc1' hc2'
      by_cases hh : q = 1
      · subst hh
        have b1 : (((1 : Nat) : Int) != 1) = false := rfl
        have Hgood := Lib.hid (emptyF_good Hq.out.symm (by have := Hc1.out; omega) (by have := Hc2.out; omega) (by have := Hc1.out; have := Hc2.out; omega) (by have := Hc2.out; omega))
        by_cases hch : v1.map low = chunkedN
        · have hE : emptyF s.fs = (0, sN 2 0 0 []) := by rw [Hgood.out, if_pos Hc1.out, ← Hvx1.out, if_pos hch]
          have b6 : ((str (v1.map low)).toList == [99, 104, 117, 110, 107, 101, 100]) = true := by rw [str_toList, hch]; rfl
          have b7 : ((str (v1.map low)).toList != [99, 104, 117, 110, 107, 101, 100]) = false := by rw [bne, b6]; rfl
          have HE := Lib.hid hE
          clear hE hch
          go_enter Tryd.func80, Tryd.ntmps80
          go_wp2_with fail
          refine Hg1.out.mono ?_
          rintro e w1 ⟨rfl, hc1⟩
          go_wp2_with fail
          refine (Hg2.out w1 (hrF.chg hc1 (fun _ _ => id))).mono ?_
          rintro e w2 ⟨rfl, hc2⟩
          have hc02 : Chg w w2 (fun _ => False) := hc1.trans hc2 (fun _ _ e => e)
          go_wp2_with fail
          refine (Hg3.out w2 (hrF.chg hc02 (fun _ _ => id))).mono ?_
          rintro e w3 ⟨rfl, hc3⟩
          have hc03 : Chg w w3 (fun _ => False) := hc02.trans hc3 (fun _ _ e => e)
          go_wp2_with fail
          refine (lower_any v1 w3 Hval1.out (by omega)).mono ?_
          rintro e w4 ⟨rfl, hc4⟩
          have hc03 : Chg w w4 (fun _ => False) := hc03.trans hc4 (fun _ _ e => e)
          go_wp2_with fail
          go_loopw [65] (fun iv wr => ∃ (k : Nat) (kp : Bool), k ≤ s.fs.length ∧ iv = .int .i64 k ∧ Hid (kp = (s.keep && !closesF (s.fs.take k))) ∧ Chg w wr (fun k => k = g) ∧ Blk wr g 68 (wireCells 2 ln s.m s.t (.slice Af s.fs.length cf) kp bp)) (fun iv _ => s.fs.length - (intOf iv).toNat)
          case atStart => exact ⟨0, s.keep, Nat.zero_le _, rfl, (show s.keep = (s.keep && !closesF (s.fs.take 0)) by simp [closesF]), hc03.mono (fun _ _ e => e.elim), hbk.chg hc03 id⟩
          case round =>
            obtain ⟨k, kp, hk, rfl, hkp, hcr, hbr⟩ := hrel
            have hrr : RdF wr Af s.fs := RowF.rdF (hrow.chg hcr (fun k e h' => by subst h'; exact hrow.ne_blk hbk (by decide) e))
            have hmr := hm.chg hcr (fun e => hgm e.symm)
            by_cases hlt : k < s.fs.length
            · obtain ⟨ad, rfl, hx0, hx1, hx2⟩ := hrr.at hlt
              have hfl1 := (Hasc.out _ (List.getElem_mem hlt)).2.1
              have Hnext := Lib.hid (closesF_next hlt)
              have hal := hcr.alloc (.cells #[.string (str s.fs[k].1), .string (str s.fs[k].2)] 42)
              have hbl := hbr.alloc (.cells #[.string (str s.fs[k].1), .string (str s.fs[k].2)] 42)
              by_cases hx : s.fs[k].1 = connN
              · have b2 : ((str s.fs[k].1).toList == [99, 111, 110, 110, 101, 99, 116, 105, 111, 110]) = true := by rw [str_toList, hx]; rfl
                have b3 : ((str s.fs[k].1).toList != [99, 111, 110, 110, 101, 99, 116, 105, 111, 110]) = false := by rw [bne, b2]; rfl
                have Hx := Lib.hid hx
                have hwo := words_any s.fs[k].2 m _ (hmr.chg ((Chg.refl wr (fun _ => False)).alloc (.cells #[.string (str s.fs[k].1), .string (str s.fs[k].2)] 42)) id) (by omega)
                have Hsay : Hid (saysF s.fs[k].2 = (wordsF s.fs[k].2).any (fun w => decide (w = closeN))) := rfl
                have hwl := wordsF_len s.fs[k].2
                generalize wordsF s.fs[k].2 = ws at hwo Hsay hwl
                have hgs := hbr.lt
                clear hx
                go_wp2_with fail
                refine hwo.mono ?_
                rintro e w5 ⟨Aw, cw, rfl, hrowT, hc5, hf5⟩
                clear hwo
                have hc05 : Chg w w5 (fun k => k = g) := hal.trans hc5 (fun _ _ e => e.elim)
                have hb5 := hbl.chg hc5 id
                have hnw : ∀ i, i = g → ¬ (Value.slice Aw ws.length cw).ownBlock = some i := fun i e => by subst e; exact newFoot_nil hf5 (by simp; omega)
                go_wp2_with fail
                go_loopw [76] (fun iv wq => ∃ (j : Nat) (kq : Bool), j ≤ ws.length ∧ iv = .int .i64 j ∧ Hid (kq = (kp && !(ws.take j).any (fun w => decide (w = closeN)))) ∧ Chg w5 wq (fun k => k = g) ∧ Blk wq g 68 (wireCells 2 ln s.m s.t (.slice (some ad) s.fs.length cf) kq bp)) (fun iv _ => ws.length - (intOf iv).toNat)
                case atStart => exact ⟨0, kp, Nat.zero_le _, rfl, (show kp = (kp && !(ws.take 0).any (fun w => decide (w = closeN))) by simp), Chg.refl _ _, hb5⟩
                case round =>
                  obtain ⟨j, kq, hj, rfl, hkq, hcq, hbq⟩ := hrel
                  have hrq := hrowT.chg hcq (fun i e h' => hnw i h' e)
                  obtain ⟨-, -, -, -, -, -, q6, -⟩ := wire_cells hbq
                  obtain ⟨-, -, -, -, -, -, f6, -⟩ := wire_free hbq
                  by_cases hjl : j < ws.length
                  · obtain ⟨ad2, rfl, hcw⟩ := (RdV.of_rowT hrq).at (k := j) (by simpa using hjl)
                    rw [List.getElem_map] at hcw
                    unfold strV at hcw
                    have Hs := Lib.hid (saysF_take hjl)
                    have hks := fun b => keep_set hbq b
                    have hcs := fun b => hcq.setCell (p := ⟨g, 6, none⟩) (fun _ => rfl) (.bool b)
                    have Hks := Lib.hid hks
                    have Hcs := Lib.hid hcs
                    clear hks hcs
                    cases kq
                    · go_wp2_with fail
                      go_roundw
                      case rel => exact ⟨j + 1, false, by omega, by go_num, (show false = _ by rw [Hs.out, Bool.not_or, ← Bool.and_assoc, ← hkq.out]; rfl), Hcs.out false, Hks.out false⟩
                      case measure => simp [intOf]; omega
                    · by_cases hcl : ws[j] = closeN
                      · have b4 : ((str ws[j]).toList == [99, 108, 111, 115, 101]) = true := by rw [str_toList, hcl]; rfl
                        have b5 : ((str ws[j]).toList != [99, 108, 111, 115, 101]) = false := by rw [bne, b4]; rfl
                        have Hcl := Lib.hid hcl
                        clear hcl
                        go_wp2_with fail
                        go_roundw
                        case rel => exact ⟨j + 1, false, by omega, by go_num, (show false = _ by rw [Hs.out, Hcl.out]; simp), Hcs.out false, Hks.out false⟩
                        case measure => simp [intOf]; omega
                      · have b4 : ((str ws[j]).toList == [99, 108, 111, 115, 101]) = false := by rw [str_toList]; simpa [closeN] using hcl
                        have b5 : ((str ws[j]).toList != [99, 108, 111, 115, 101]) = true := by rw [bne, b4]; rfl
                        have Hcl := Lib.hid hcl
                        clear hcl
                        go_wp2_with fail
                        go_roundw
                        case rel => exact ⟨j + 1, true, by omega, by go_num, (show true = _ by rw [Hs.out, Bool.not_or, ← Bool.and_assoc, ← hkq.out]; simp [Hcl.out]), Hcs.out true, Hks.out true⟩
                        case measure => simp [intOf]; omega
                  · obtain rfl : j = ws.length := by omega
                    go_wp2_with fail
                    go_roundw
                    case rel => exact ⟨k + 1, kq, by omega, by go_num, (show kq = _ by rw [Hnext.out, hkq.out, hkp.out, Hx.out, List.take_length, ← Hsay.out]; simp [Bool.and_assoc]), hc05.trans hcq (fun _ _ e => e), hbq⟩
                    case measure => simp [intOf]; omega
              · have b2 : ((str s.fs[k].1).toList == [99, 111, 110, 110, 101, 99, 116, 105, 111, 110]) = false := by rw [str_toList]; simpa [connN] using hx
                have b3 : ((str s.fs[k].1).toList != [99, 111, 110, 110, 101, 99, 116, 105, 111, 110]) = true := by rw [bne, b2]; rfl
                have Hx := Lib.hid hx
                clear hx
                go_wp2_with fail
                go_roundw
                case rel => exact ⟨k + 1, kp, by omega, by go_num, (show kp = _ by rw [Hnext.out, hkp.out]; simp [Hx.out]), hal, hbl⟩
                case measure => simp [intOf]; omega
            · obtain rfl : k = s.fs.length := by omega
              have Hkp : Hid (kp = (s.keep && !closesF s.fs)) := by have := hkp.out; rw [List.take_length] at this; exact this
              clear hkp
              obtain ⟨q0, -, -, -, -, -, -, q7⟩ := wire_cells hbr
              obtain ⟨f0, -, -, -, -, -, -, f7⟩ := wire_free hbr
              have hgs := hbr.lt
              have hc3 := hcr.setCell (p := ⟨g, 0, none⟩) (fun _ => rfl) (.int .i64 3)
              have hb3 : Blk (wr.setCell ⟨g, 0, none⟩ (.int .i64 3)) g 68 (wireCells 3 ln s.m s.t (.slice Af s.fs.length cf) (s.keep && !closesF s.fs) bp) := by
                rw [← Hkp.out]
                exact (hbr.set 0 _).to (by simp [wireCells])
              have HB3 := Lib.hid hb3
              have HC3 := Lib.hid hc3
              clear hb3 hc3
              go_wp2_with fail
              refine (chunked_any _).mono ?_
              rintro e w4 ⟨b, rfl, hnb⟩
              have hb4 := HB3.out.chg hnb.2.2 id
              obtain ⟨-, -, -, -, -, -, -, q7⟩ := wire_cells hb4
              obtain ⟨-, -, -, -, -, -, -, f7⟩ := wire_free hb4
              go_wp2
              go_ret
              exact EmptyP.good (b := b) (w3 := wr.setCell ⟨g, 0, none⟩ (.int .i64 3)) H.out Hn.out (by rw [HE.out]) HC3.out HB3.out (by rw [HE.out]; exact hnb)
        · have hE : (emptyF s.fs).1 = 4 := by rw [Hgood.out, if_pos Hc1.out, ← Hvx1.out, if_neg hch]
          have b6 : ((str (v1.map low)).toList == [99, 104, 117, 110, 107, 101, 100]) = false := by rw [str_toList]; simpa [chunkedN] using hch
          have b7 : ((str (v1.map low)).toList != [99, 104, 117, 110, 107, 101, 100]) = true := by rw [bne, b6]; rfl
          have HE := Lib.hid hE
          clear hE hch
          go_enter Tryd.func80, Tryd.ntmps80
          go_wp2_with fail
          refine Hg1.out.mono ?_
          rintro e w1 ⟨rfl, hc1⟩
          go_wp2_with fail
          refine (Hg2.out w1 (hrF.chg hc1 (fun _ _ => id))).mono ?_
          rintro e w2 ⟨rfl, hc2⟩
          have hc02 : Chg w w2 (fun _ => False) := hc1.trans hc2 (fun _ _ e => e)
          go_wp2_with fail
          refine (Hg3.out w2 (hrF.chg hc02 (fun _ _ => id))).mono ?_
          rintro e w3 ⟨rfl, hc3⟩
          have hc03 : Chg w w3 (fun _ => False) := hc02.trans hc3 (fun _ _ e => e)
          go_wp2_with fail
          refine (lower_any v1 w3 Hval1.out (by omega)).mono ?_
          rintro e w4 ⟨rfl, hc4⟩
          have hc03 : Chg w w4 (fun _ => False) := hc03.trans hc4 (fun _ _ e => e)
          go_wp2
          all_goals
            go_ret
            exact EmptyP.bad H.out hc03 (HE.out) (by decide)
      · have b1 : ((q : Int) != 1) = true := by simp; omega
        have Hh : Hid (cntF hostN s.fs ≠ 1) := by rw [← Hq.out]; exact hh
        clear hh
        go_enter Tryd.func80, Tryd.ntmps80
        go_wp2_with fail
        refine Hg1.out.mono ?_
        rintro e w1 ⟨rfl, hc1⟩
        go_wp2_with fail
        refine (Hg2.out w1 (hrF.chg hc1 (fun _ _ => id))).mono ?_
        rintro e w2 ⟨rfl, hc2⟩
        have hc02 : Chg w w2 (fun _ => False) := hc1.trans hc2 (fun _ _ e => e)
        go_wp2_with fail
        refine (Hg3.out w2 (hrF.chg hc02 (fun _ _ => id))).mono ?_
        rintro e w3 ⟨rfl, hc3⟩
        have hc03 : Chg w w3 (fun _ => False) := hc02.trans hc3 (fun _ _ e => e)
        go_wp2
        all_goals
          go_ret
          exact EmptyP.bad H.out hc03 (emptyF_bad (.inl Hh.out)) (by decide)
    · obtain ⟨hc1', hv1, hvx1⟩ := hv1
      have hl1 := (Hasc2.out teN hc1').1
      have hval1 := (Hasc2.out teN hc1').2
      rw [← hvx1] at hl1 hval1
      have Hval1 := Lib.hid hval1
      have Hvx1 := Lib.hid hvx1
      clear hvx1 hval1
      obtain ⟨hc2', hv2, hvx⟩ := hv2
      have hl2 := (Hasc2.out clN hc2').1
      rw [← hvx] at hl2
      rw [hv1] at hg1
      have hg2' := hg2
      simp only [hv2] at hg2'
      have Hg1 := Lib.hid hg1
      have Hg2 := Lib.hid hg2'
      have Hc1 := Lib.hid hc1'
      have Hc2 := Lib.hid hc2'
      have Hvx := Lib.hid hvx
      clear hvx
      clear hg1 hg2 hg2' hv1 hv2 hc1' hc2'
      cases hlen : lengthF v2 with
      | none =>
        have Hlen := Lib.hid hlen
        clear hlen
        go_enter Tryd.func80, Tryd.ntmps80
        go_wp2_with fail
        refine Hg1.out.mono ?_
        rintro e w1 ⟨rfl, hc1⟩
        go_wp2_with fail
        refine (Hg2.out w1 (hrF.chg hc1 (fun _ _ => id))).mono ?_
        rintro e w2 ⟨rfl, hc2⟩
        have hc02 : Chg w w2 (fun _ => False) := hc1.trans hc2 (fun _ _ e => e)
        go_wp2_with fail
        refine (length_any v2 w2 (by omega)).mono ?_
        rintro e w' ⟨rfl, rfl⟩
        rw [Hlen.out]
        unfold lengthV
        go_wp2_with fail
        refine (Hg3.out w2 (hrF.chg hc02 (fun _ _ => id))).mono ?_
        rintro e w3 ⟨rfl, hc3⟩
        have hc03 : Chg w w3 (fun _ => False) := hc02.trans hc3 (fun _ _ e => e)
        go_wp2
        all_goals
          go_ret
          exact EmptyP.bad H.out hc03 (emptyF_bad (.inr (.inr (.inr (.inr ⟨Hc2.out, by rw [← Hvx.out, Hlen.out]⟩))))) (by decide)
      | some n =>
        have Hlen := Lib.hid hlen
        clear hlen
        go_enter Tryd.func80, Tryd.ntmps80
        go_wp2_with fail
        refine Hg1.out.mono ?_
        rintro e w1 ⟨rfl, hc1⟩
        go_wp2_with fail
        refine (Hg2.out w1 (hrF.chg hc1 (fun _ _ => id))).mono ?_
        rintro e w2 ⟨rfl, hc2⟩
        have hc02 : Chg w w2 (fun _ => False) := hc1.trans hc2 (fun _ _ e => e)
        go_wp2_with fail
        refine (length_any v2 w2 (by omega)).mono ?_
        rintro e w' ⟨rfl, rfl⟩
        rw [Hlen.out]
        unfold lengthV
        go_wp2_with fail
        refine (Hg3.out w2 (hrF.chg hc02 (fun _ _ => id))).mono ?_
        rintro e w3 ⟨rfl, hc3⟩
        have hc03 : Chg w w3 (fun _ => False) := hc02.trans hc3 (fun _ _ e => e)
        go_wp2
        all_goals
          go_ret
          exact EmptyP.bad H.out hc03 (emptyF_bad (.inr (.inr (.inr (.inl ⟨Hc1.out, Hc2.out⟩))))) (by decide)
    · obtain ⟨hc1', hv1, hvx1⟩ := hv1
      have hl1 := (Hasc2.out teN hc1').1
      have hval1 := (Hasc2.out teN hc1').2
      rw [← hvx1] at hl1 hval1
      have Hval1 := Lib.hid hval1
      have Hvx1 := Lib.hid hvx1
      clear hvx1 hval1
      obtain ⟨hc2', hv2⟩ := hv2
      rw [hv1] at hg1
      have hg2' := hg2
      simp only [hv2] at hg2'
      have Hg1 := Lib.hid hg1
      have Hg2 := Lib.hid hg2'
      have Hc1 := Lib.hid hc1'
      have Hc2 := Lib.hid hc2'
      clear hg1 hg2 hg2' hv1 hv2 hc1' hc2'
      go_enter Tryd.func80, Tryd.ntmps80
      go_wp2_with fail
      refine Hg1.out.mono ?_
      rintro e w1 ⟨rfl, hc1⟩
      go_wp2_with fail
      refine (Hg2.out w1 (hrF.chg hc1 (fun _ _ => id))).mono ?_
      rintro e w2 ⟨rfl, hc2⟩
      have hc02 : Chg w w2 (fun _ => False) := hc1.trans hc2 (fun _ _ e => e)
      go_wp2_with fail
      refine (Hg3.out w2 (hrF.chg hc02 (fun _ _ => id))).mono ?_
      rintro e w3 ⟨rfl, hc3⟩
      have hc03 : Chg w w3 (fun _ => False) := hc02.trans hc3 (fun _ _ e => e)
      go_wp2
      all_goals
        go_ret
        exact EmptyP.bad H.out hc03 (emptyF_bad (.inr (.inr (.inl Hc2.out)))) (by decide)
  · rcases hv2 with hv2 | hv2 | hv2
    · obtain ⟨hc1', hv1⟩ := hv1
      obtain ⟨hc2', hv2⟩ := hv2
      rw [hv1] at hg1
      have hg2' := hg2
      simp only [hv2] at hg2'
      have Hg1 := Lib.hid hg1
      have Hg2 := Lib.hid hg2'
      have Hc1 := Lib.hid hc1'
      have Hc2 := Lib.hid hc2'
      clear hg1 hg2 hg2' hv1 hv2 hc1' hc2'
      go_enter Tryd.func80, Tryd.ntmps80
      go_wp2_with fail
      refine Hg1.out.mono ?_
      rintro e w1 ⟨rfl, hc1⟩
      go_wp2_with fail
      refine (Hg2.out w1 (hrF.chg hc1 (fun _ _ => id))).mono ?_
      rintro e w2 ⟨rfl, hc2⟩
      have hc02 : Chg w w2 (fun _ => False) := hc1.trans hc2 (fun _ _ e => e)
      go_wp2_with fail
      refine (Hg3.out w2 (hrF.chg hc02 (fun _ _ => id))).mono ?_
      rintro e w3 ⟨rfl, hc3⟩
      have hc03 : Chg w w3 (fun _ => False) := hc02.trans hc3 (fun _ _ e => e)
      go_wp2
      all_goals
        go_ret
        exact EmptyP.bad H.out hc03 (emptyF_bad (.inr (.inl Hc1.out))) (by decide)
    · obtain ⟨hc1', hv1⟩ := hv1
      obtain ⟨hc2', hv2, hvx⟩ := hv2
      have hl2 := (Hasc2.out clN hc2').1
      rw [← hvx] at hl2
      rw [hv1] at hg1
      have hg2' := hg2
      simp only [hv2] at hg2'
      have Hg1 := Lib.hid hg1
      have Hg2 := Lib.hid hg2'
      have Hc1 := Lib.hid hc1'
      have Hc2 := Lib.hid hc2'
      have Hvx := Lib.hid hvx
      clear hvx
      clear hg1 hg2 hg2' hv1 hv2 hc1' hc2'
      cases hlen : lengthF v2 with
      | none =>
        have Hlen := Lib.hid hlen
        clear hlen
        go_enter Tryd.func80, Tryd.ntmps80
        go_wp2_with fail
        refine Hg1.out.mono ?_
        rintro e w1 ⟨rfl, hc1⟩
        go_wp2_with fail
        refine (Hg2.out w1 (hrF.chg hc1 (fun _ _ => id))).mono ?_
        rintro e w2 ⟨rfl, hc2⟩
        have hc02 : Chg w w2 (fun _ => False) := hc1.trans hc2 (fun _ _ e => e)
        go_wp2_with fail
        refine (length_any v2 w2 (by omega)).mono ?_
        rintro e w' ⟨rfl, rfl⟩
        rw [Hlen.out]
        unfold lengthV
        go_wp2_with fail
        refine (Hg3.out w2 (hrF.chg hc02 (fun _ _ => id))).mono ?_
        rintro e w3 ⟨rfl, hc3⟩
        have hc03 : Chg w w3 (fun _ => False) := hc02.trans hc3 (fun _ _ e => e)
        go_wp2
        all_goals
          go_ret
          exact EmptyP.bad H.out hc03 (emptyF_bad (.inr (.inr (.inr (.inr ⟨Hc2.out, by rw [← Hvx.out, Hlen.out]⟩))))) (by decide)
      | some n =>
        have Hlen := Lib.hid hlen
        clear hlen
        go_enter Tryd.func80, Tryd.ntmps80
        go_wp2_with fail
        refine Hg1.out.mono ?_
        rintro e w1 ⟨rfl, hc1⟩
        go_wp2_with fail
        refine (Hg2.out w1 (hrF.chg hc1 (fun _ _ => id))).mono ?_
        rintro e w2 ⟨rfl, hc2⟩
        have hc02 : Chg w w2 (fun _ => False) := hc1.trans hc2 (fun _ _ e => e)
        go_wp2_with fail
        refine (length_any v2 w2 (by omega)).mono ?_
        rintro e w' ⟨rfl, rfl⟩
        rw [Hlen.out]
        unfold lengthV
        go_wp2_with fail
        refine (Hg3.out w2 (hrF.chg hc02 (fun _ _ => id))).mono ?_
        rintro e w3 ⟨rfl, hc3⟩
        have hc03 : Chg w w3 (fun _ => False) := hc02.trans hc3 (fun _ _ e => e)
        go_wp2
        all_goals
          go_ret
          exact EmptyP.bad H.out hc03 (emptyF_bad (.inr (.inl Hc1.out))) (by decide)
    · obtain ⟨hc1', hv1⟩ := hv1
      obtain ⟨hc2', hv2⟩ := hv2
      rw [hv1] at hg1
      have hg2' := hg2
      simp only [hv2] at hg2'
      have Hg1 := Lib.hid hg1
      have Hg2 := Lib.hid hg2'
      have Hc1 := Lib.hid hc1'
      have Hc2 := Lib.hid hc2'
      clear hg1 hg2 hg2' hv1 hv2 hc1' hc2'
      go_enter Tryd.func80, Tryd.ntmps80
      go_wp2_with fail
      refine Hg1.out.mono ?_
      rintro e w1 ⟨rfl, hc1⟩
      go_wp2_with fail
      refine (Hg2.out w1 (hrF.chg hc1 (fun _ _ => id))).mono ?_
      rintro e w2 ⟨rfl, hc2⟩
      have hc02 : Chg w w2 (fun _ => False) := hc1.trans hc2 (fun _ _ e => e)
      go_wp2_with fail
      refine (Hg3.out w2 (hrF.chg hc02 (fun _ _ => id))).mono ?_
      rintro e w3 ⟨rfl, hc3⟩
      have hc03 : Chg w w3 (fun _ => False) := hc02.trans hc3 (fun _ _ e => e)
      go_wp2
      all_goals
        go_ret
        exact EmptyP.bad H.out hc03 (emptyF_bad (.inr (.inl Hc1.out))) (by decide)
end Go.Proofs.YtkbmajkoojgkpaaDoor
