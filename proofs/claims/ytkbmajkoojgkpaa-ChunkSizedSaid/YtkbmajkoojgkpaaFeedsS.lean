/- The contract of feeds for a sized body. -/
import Derived.Test.YtkbmajkoojgkpaaFeeds
namespace Go.Proofs.Ytkbmajkoojgkpaa
open Go.RowKit

theorem sized0_ok (m : Nat) (h : m ≤ 4096) : (sized0 m).Ok ∧ (sized0 m).next ≠ 0 ∧ (sized0 m).bad = 0 := by
  unfold sized0 sN
  by_cases h0 : m = 0
  · rw [if_pos h0]
    refine ⟨⟨?_, ?_, ?_, ?_, ?_, ?_, ?_, ?_, ?_, ?_, ?_, ?_, ?_⟩, ?_, ?_⟩ <;> simp
  · rw [if_neg h0]
    refine ⟨⟨?_, ?_, ?_, ?_, ?_, ?_, ?_, ?_, ?_, ?_, ?_, ?_, ?_⟩, ?_, ?_⟩ <;> simp <;> omega

set_option maxHeartbeats 8000000 in
set_option maxRecDepth 100000 in
theorem feeds_sized (m : Nat) (hm4 : m ≤ 4096) (g : Nat) (A : Option Addr) (n c : Nat) (us : List Value) (ps : List (List UInt8)) (D : Nat → Prop) (B0 : Nat) (w : World) (hg : B0 ≤ g) (h : Body w g (.slice none 0 0) (sized0 m)) (hr : RdV w A us) (hn : us.length = n) (hp : Pcs w D us ps)
    (hsz : ps.flatten.length ≤ 8192) (hm : n ≤ 60) (hD : ∀ k, D k → ¬ B0 ≤ k) (hA : ∀ ad, A = some ad → 0 < us.length → ¬ B0 ≤ ad.block) (hB : B0 ≤ w.heap.size) :
    Calls Try.prog 12 #[.pointer (some ⟨g, 0, none⟩), .slice A n c, .bool false, .int .i64 m] w fun e w' => e = .returned (.bool true) ∧ Chg w w' (fun j => B0 ≤ j) := by
  subst hn
  go_enter Try.func12, Try.ntmps12
  go_wp2_with fail
  go_loopw [9, 10, 11, 12] (fun vx uv ov iv wr => ∃ (k : Nat) (va : Value), k ≤ us.length ∧ iv = .int .i64 k ∧ va = vx ∧ FeedsR w B0 g (sized0 m) ps va uv ov k wr) (fun _ _ _ iv _ => us.length - (intOf iv).toNat)
  case atStart => exact ⟨0, _, Nat.zero_le _, rfl, rfl, Chg.refl _ _, sized0 m, _, h, (sized0_ok m hm4).1, (sized0_ok m hm4).2.1, by simp [Value.ownBlock], .inl ⟨(sized0_ok m hm4).2.2, rfl, [], rfl, by simp, rfl, Row.nil _, by simp [Value.ownBlock]⟩⟩
  case round =>
    obtain ⟨k, va, hk, rfl, rfl, hc, sk, vb, hb, hok, hn0, hvb, hmode⟩ := hrel
    by_cases hlt : k < us.length
    · obtain ⟨wq, rfl⟩ : ∃ wq : World, wq = wr := ⟨_, rfl⟩
      have hkp : k < ps.length := by rw [← hp.len]; exact hlt
      obtain ⟨ad, rfl, hcell⟩ := (hr.chg hc hA).at hlt
      have had : ¬ B0 ≤ ad.block := hA ad rfl (by omega)
      obtain ⟨A1, c1, hu, hl1, hl2, hrd⟩ := (hp.chg hc hD).at_ k us[k] ps[k] (List.getElem?_eq_getElem hlt) (List.getElem?_eq_getElem hkp)
      rw [hu] at hcell
      have hpl := piece_le ps k hkp
      have HTF := Lib.hid (take_flat ps k hkp)
      have htk := flatten_take_le ps (k + 1)
      clear hu
      go_wp2_with fail
      refine (twin_any A1 _ c1 ps[k] wq rfl hrd.rd (by omega)).mono ?_
      rintro e w1 ⟨rfl, hbk1, hc1⟩
      have hs0 := hc.size
      have hgl := hb.blk.lt
      have htl := hbk1.lt
      have hb1 := hb.chg hc1 (fun _ _ => id)
      have hfar : ¬ Foot g vb wq.heap.size := by
        rintro (e | e)
        · omega
        · have := hb.row.lt e
          omega
      go_wp2_with fail
      refine (feed_any g vb sk _ _ _ ps[k] w1 hb1 hok hn0 (Rd.of_row (twin_row hbk1 (by omega))) rfl (by omega) (fun ad e _ => by injection e with e; subst e; exact hfar)).mono ?_
      rintro e w2 ⟨rfl, vb2, hb2, hc2, hf2⟩
      have hfar2 : ∀ j, Foot g vb j → B0 ≤ j := by
        rintro j (rfl | e)
        · exact hg
        · exact hvb j e
      have hs1 := hc1.size
      have hs2 := hc2.size
      have hbk2 := hbk1.chg hc2 hfar
      have hcq2 : Chg wq w2 (fun j => B0 ≤ j) := (hc1.mono (fun _ _ e => e.elim)).trans hc2 (fun j _ e => hfar2 j e)
      have hrd2 := hrd.chg hcq2 hD
      have hcell2 := hcq2.cell hcell (by rw [block_add]; exact had)
      clear hcell
      go_wp2_with fail
      refine (kept_any wq.heap.size A1 _ c1 ps[k] w2 rfl hbk2 hrd2.rd (by omega)).mono ?_
      rintro e wk ⟨rfl, rfl⟩
      go_wp2_with fail
      refine (spoil_any _ ps[k] w2 (twin_row hbk2 (by omega))).mono ?_
      rintro e w3 ⟨rfl, hc3⟩
      have hs3 := hc3.size
      have hne2 : vb2.ownBlock ≠ some wq.heap.size := fun e => by
        rcases hf2 _ e with e | e
        · have := hb.row.lt e
          omega
        · omega
      have hb3 := hb2.chg hc3 (fun j e e2 => by
        simp [Value.ownBlock] at e2
        subst e2
        rcases e with e | e
        · omega
        · exact hne2 e)
      have hcq3 : Chg wq w3 (fun j => B0 ≤ j) := hcq2.trans hc3 (fun j _ e => by simp [Value.ownBlock] at e; omega)
      have hcell3 := hc3.cell hcell2 (by rw [block_add]; simp [Value.ownBlock]; omega)
      have hrd3 := hrd.chg hcq3 hD
      have hvb2 : ∀ j, vb2.ownBlock = some j → B0 ≤ j := fun j e => by
        rcases hf2 j e with e | e
        · exact hvb j e
        · omega
      clear hcell2
      rcases hmode with ⟨hbad, rfl, ys, rfl, hyl, hfe, hrow, hva⟩ | ⟨hbad, h9, hgot, rfl⟩
      · obtain ⟨U, N, E, s1, hN, hE, hS, hU, hrE, hsE, hrS, hways⟩ := round_ways (x := ps[k]) hfe hbad hn0
        rw [hN, hE]
        rw [hS] at hb3
        have hok1 : s1.Ok := by rw [← hS]; exact feedF_ok hok hn0 _
        have hn1 : s1.next ≠ 0 := by rw [← hS]; exact feedF_ne0 hn0 _
        have hvf : ∀ j, va.ownBlock = some j → ¬ Foot g vb j := fun j e e2 => by
          rcases e2 with rfl | e2
          · exact hrow.ne_blk hb.blk (by decide) e
          · exact (hva j e).2 e2
        have hrow3 : Row w3 va ys := ((hrow.chg hc1 (fun _ _ => id)).chg hc2 hvf).chg hc3 (fun j e e2 => by
          simp [Value.ownBlock] at e2
          have := hrow.lt e
          omega)
        have hva3 : ∀ j, va.ownBlock = some j → vb2.ownBlock ≠ some j := fun j e e2 => by
          rcases hf2 j e2 with e3 | e3
          · exact (hva j e).2 e3
          · have := hrow.lt e
            omega
        obtain ⟨Aa, ca, rfl⟩ := row_shape hrow3
        have hlen : ys.length + (ps[k]).length ≤ 8192 := by have := HTF.out; omega
        have hylk : ys.length + (ps[k]).length ≤ (ps.take (k + 1)).flatten.length := by have := HTF.out; omega
        have HN := Lib.hid hN
        have HE := Lib.hid hE
        have HS := Lib.hid hS
        have HU := Lib.hid hU
        have HrE := Lib.hid hrE
        have HrS := Lib.hid hrS
        have Hways := Lib.hid hways
        have Hfe := Lib.hid hfe
        have Hbad := Lib.hid hbad
        clear hN hE hS hU hrE hrS hways hfe hbad hb hb1 hb2 hbk1 hbk2 hrow
        go_wp2_with (at_builtin; refine wpList_app rfl _ _ rfl (.slice Aa ys.length ca) ys (by rfl) hrow3 A1 ps[k].length c1 ps[k] rfl (by rfl) hrd3.rd (by omega) ?_; intro A4 c4 w4 hrow4 hc4 hf4)
        have hT := told_sized A4 (ys.length + ps[k].length) c4 m (ys ++ ps[k]) w4 (by simp) (Rd.of_row hrow4) (by omega) hrow4.cap.1 (by have := hrow4.cap.2; unfold maxLen at this; omega) hm4
        unfold ToldP at hT
        rw [HU.out, HrE.out, HrS.out] at hT
        refine hT.mono ?_
        rintro e w5 ⟨At, ct, rfl, hrd5, hc5⟩
        clear hT
        have hb7 : Blk (w5.alloc (.cells #[.int .i64 U, .slice At s1.got.length ct, .int .i64 E] 47)) w5.heap.size 47 #[.int .i64 U, .slice At s1.got.length ct, .int .i64 E] := Blk.new w5 _ _
        have hc7 : Chg w5 (w5.alloc (.cells #[.int .i64 U, .slice At s1.got.length ct, .int .i64 E] 47)) (fun _ => False) := (Chg.refl w5 _).alloc _
        have hrd7 := hrd5.chg hc7 (fun _ _ _ => id)
        obtain ⟨w7, hw7⟩ : ∃ w7, w7 = w5.alloc (.cells #[.int .i64 U, .slice At s1.got.length ct, .int .i64 E] 47) := ⟨_, rfl⟩
        rw [← hw7] at hb7 hc7 hrd7
        obtain ⟨⟨kb0, kb1, kb2⟩, kg0, kg1, kg2⟩ := res_cells hb7
        rw [hw7] at kb0 kb1 kb2 kg0 kg1 kg2
        have H7 := Lib.hid hw7
        clear hw7
        have hc47 : Chg w4 w7 (fun _ => False) := hc5.trans hc7 (fun _ _ e => e)
        have hb74 : Body w4 g vb2 s1 := hb3.chg hc4 (fun i e hx => by
          rcases e with e | e
          · subst e
            exact hrow3.ne_blk hb3.blk (by decide) hx
          · exact hva3 i hx e)
        have hb77 := hb74.chg hc47 (fun _ _ => id)
        have hrow7 := hrow4.chg hc47 (fun _ _ => id)
        have hda := data_any g vb2 s1 w7 hb77 (by have := hok1.g; omega)
        obtain ⟨hcap1, hcap2⟩ := hrow4.cap
        unfold maxLen at hcap2
        rcases Hways.out with ⟨hE0, rfl, rfl, h9, hgot⟩ | ⟨rfl, j, rfl, hj, hfj, hway⟩
        · have HG := Lib.hid hgot
          have hE1 : (E != 0) = true := by simpa using hE0
          clear hgot
          go_wp2_with fail
          rw [← H7.out]
          clear kb0 kb1 kb2 kg0 kg1 kg2 hrd5 hc5
          refine hda.mono ?_
          rintro e w8 ⟨A8, c8, rfl, hr8, hc8, hf8⟩
          have hb8 := hb77.chg hc8 (fun _ _ => id)
          have ht8 := hb7.chg hc8 id
          obtain ⟨⟨kc0, kc1, kc2⟩, kf0, kf1, kf2⟩ := res_cells ht8
          have hd8 := done_quiet g vb2 s1 w8 false hb8 (by simpa using h9)
          have hcv1 := fun n => conv_rd (w8.drewN n) A8 c8 _ s1.got rfl ((Rd.of_row hr8).chg ((Chg.refl w8 (fun _ => False)).drewN n) (fun _ _ _ => id))
          have hcv2 := fun n => conv_rd (w8.drewN n) At ct _ s1.got rfl ((hrd7.chg hc8 (fun _ _ _ => id)).chg ((Chg.refl w8 (fun _ => False)).drewN n) (fun _ _ _ => id))
          have hn2 : ((str s1.got).toList != (str s1.got).toList) = false := by simp
          go_wp2_with fail
          go_quiet ((go_at_call 10; exact hd8 _))
          go_wp2_with fail
          clear hd8 hcv1 hcv2 kc0 kc1 kc2
          refine (spoil_any _ s1.got (w8.drewN nq) (hr8.chg ((Chg.refl w8 (fun _ => False)).drewN nq) (fun _ _ => id))).mono ?_
          rintro e w9 ⟨rfl, hc9⟩
          have hc79 : Chg w7 w9 (fun _ => False) := (hc8.drewN nq).trans hc9 (fun i hi e => by
            rcases hf8 i e with hx | hx
            · simp [Value.ownBlock] at hx
            · omega)
          have hb9 := hb77.chg hc79 (fun _ _ => id)
          have hrow9 := hrow7.chg hc79 (fun _ _ => id)
          have hcq9 : Chg wq w9 (fun j => B0 ≤ j) := ((hcq3.trans hc4 (fun i _ e => (hva i e).1)).trans hc47 (fun _ _ e => e.elim)).trans hc79 (fun _ _ e => e.elim)
          go_wp2_with fail
          go_roundw
          case rel => exact ⟨k + 1, _, by omega, by go_num, rfl, hc.trans hcq9 (fun _ _ e => e), s1, vb2, hb9, hok1, hn1, hvb2, .inr ⟨by rw [hsE]; exact hE0, h9, HG.out, by rw [hsE]⟩⟩
          case measure => simp [intOf]; omega
        · have hfin : ∀ w9 : World, Row w9 (.slice A4 (ys.length + ps[k].length) c4) (ys ++ ps[k]) → ∃ zs : List UInt8, Value.int .i64 ((ys.length : Int) + (j : Int)) = .int .i64 zs.length ∧ zs.length ≤ (ps.take (k + 1)).flatten.length ∧ feedL (sized0 m) zs = (zs.length, s1) ∧ Row w9 (.slice A4 (ys.length + j) c4) zs ∧
              (∀ i, (Value.slice A4 (ys.length + j) c4).ownBlock = some i → B0 ≤ i ∧ vb2.ownBlock ≠ some i) := fun w9 hrow9 => by
            have hlz : ((ys ++ ps[k]).take (ys.length + j)).length = ys.length + j := by rw [List.length_take, List.length_append]; omega
            refine ⟨(ys ++ ps[k]).take (ys.length + j), by rw [hlz]; congr 1, by rw [hlz]; omega, by rw [hlz]; exact hfj, hrow9.take (by rw [List.length_append]; omega), fun i e => ?_⟩
            have e2 : (Value.slice A4 (ys.length + ps[k].length) c4).ownBlock = some i := by rw [← e]; cases A4 <;> rfl
            rcases hf4 i e2 with hx | hx
            · exact ⟨(hva i hx).1, hva3 i hx⟩
            · refine ⟨by have := hc.size; omega, fun e3 => ?_⟩
              have := hb3.row.lt e3
              omega
          have Hfin := Lib.hid hfin
          have hsub0 : (ys.length : Int) + (j : Int) - ys.length = j := by omega
          have hsub1 : ((j : Int) != (ys.length : Int) + (j : Int) - ys.length) = false := by rw [hsub0]; simp
          clear hfin hfj
          rcases hway with ⟨rfl, h9⟩ | ⟨rfl, hjl, h9⟩
          · go_wp2_with fail
            rw [← H7.out]
            clear kb0 kb1 kb2 kg0 kg1 kg2 hrd5 hc5
            refine hda.mono ?_
            rintro e w8 ⟨A8, c8, rfl, hr8, hc8, hf8⟩
            have hb8 := hb77.chg hc8 (fun _ _ => id)
            have ht8 := hb7.chg hc8 id
            obtain ⟨⟨kc0, kc1, kc2⟩, kf0, kf1, kf2⟩ := res_cells ht8
            have hd8 := done_quiet g vb2 s1 w8 true hb8 (by simpa using h9)
            have hcv1 := fun n => conv_rd (w8.drewN n) A8 c8 _ s1.got rfl ((Rd.of_row hr8).chg ((Chg.refl w8 (fun _ => False)).drewN n) (fun _ _ _ => id))
            have hcv2 := fun n => conv_rd (w8.drewN n) At ct _ s1.got rfl ((hrd7.chg hc8 (fun _ _ _ => id)).chg ((Chg.refl w8 (fun _ => False)).drewN n) (fun _ _ _ => id))
            have hn2 : ((str s1.got).toList != (str s1.got).toList) = false := by simp
            go_wp2_with fail
            go_quiet ((go_at_call 10; exact hd8 _))
            go_wp2_with fail
            clear hd8 hcv1 hcv2 kc0 kc1 kc2
            refine (spoil_any _ s1.got (w8.drewN nq) (hr8.chg ((Chg.refl w8 (fun _ => False)).drewN nq) (fun _ _ => id))).mono ?_
            rintro e w9 ⟨rfl, hc9⟩
            have hc79 : Chg w7 w9 (fun _ => False) := (hc8.drewN nq).trans hc9 (fun i hi e => by
              rcases hf8 i e with hx | hx
              · simp [Value.ownBlock] at hx
              · omega)
            have hb9 := hb77.chg hc79 (fun _ _ => id)
            have hrow9 := hrow7.chg hc79 (fun _ _ => id)
            have hcq9 : Chg wq w9 (fun j => B0 ≤ j) := ((hcq3.trans hc4 (fun i _ e => (hva i e).1)).trans hc47 (fun _ _ e => e.elim)).trans hc79 (fun _ _ e => e.elim)
            go_wp2_with fail
            go_roundw
            case rel => exact ⟨k + 1, _, by omega, by go_num, rfl, hc.trans hcq9 (fun _ _ e => e), s1, vb2, hb9, hok1, hn1, hvb2, .inl ⟨hsE, rfl, Hfin.out w9 hrow9⟩⟩
            case measure => simp [intOf]; omega
          · subst hjl
            go_wp2_with fail
            rw [← H7.out]
            clear kb0 kb1 kb2 kg0 kg1 kg2 hrd5 hc5
            refine hda.mono ?_
            rintro e w8 ⟨A8, c8, rfl, hr8, hc8, hf8⟩
            have hb8 := hb77.chg hc8 (fun _ _ => id)
            have ht8 := hb7.chg hc8 id
            obtain ⟨⟨kc0, kc1, kc2⟩, kf0, kf1, kf2⟩ := res_cells ht8
            have hd8 := done_quiet g vb2 s1 w8 false hb8 (by simpa using h9)
            have hcv1 := fun n => conv_rd (w8.drewN n) A8 c8 _ s1.got rfl ((Rd.of_row hr8).chg ((Chg.refl w8 (fun _ => False)).drewN n) (fun _ _ _ => id))
            have hcv2 := fun n => conv_rd (w8.drewN n) At ct _ s1.got rfl ((hrd7.chg hc8 (fun _ _ _ => id)).chg ((Chg.refl w8 (fun _ => False)).drewN n) (fun _ _ _ => id))
            have hn2 : ((str s1.got).toList != (str s1.got).toList) = false := by simp
            go_wp2_with fail
            go_quiet ((go_at_call 10; exact hd8 _))
            go_wp2_with fail
            clear hd8 hcv1 hcv2 kc0 kc1 kc2
            refine (spoil_any _ s1.got (w8.drewN nq) (hr8.chg ((Chg.refl w8 (fun _ => False)).drewN nq) (fun _ _ => id))).mono ?_
            rintro e w9 ⟨rfl, hc9⟩
            have hc79 : Chg w7 w9 (fun _ => False) := (hc8.drewN nq).trans hc9 (fun i hi e => by
              rcases hf8 i e with hx | hx
              · simp [Value.ownBlock] at hx
              · omega)
            have hb9 := hb77.chg hc79 (fun _ _ => id)
            have hrow9 := hrow7.chg hc79 (fun _ _ => id)
            have hcq9 : Chg wq w9 (fun j => B0 ≤ j) := ((hcq3.trans hc4 (fun i _ e => (hva i e).1)).trans hc47 (fun _ _ e => e.elim)).trans hc79 (fun _ _ e => e.elim)
            go_wp2_with fail
            go_roundw
            case rel => exact ⟨k + 1, _, by omega, by go_num, rfl, hc.trans hcq9 (fun _ _ e => e), s1, vb2, hb9, hok1, hn1, hvb2, .inl ⟨hsE, rfl, Hfin.out w9 hrow9⟩⟩
            case measure => simp [intOf]; omega
      · rw [feed_off_same hbad hn0 hgot] at hb3 ⊢
        have hbad' : (sk.bad != 0) = true := by simpa using hbad
        have hee : (sk.bad != sk.bad) = false := by simp
        have h9' : (sk.next == 9) = false := by simpa using h9
        have hgl0 : sk.got.length = 0 := by rw [hgot]; rfl
        have hda := data_any g vb2 sk w3 hb3 (by omega)
        unfold NewBytes at hda
        rw [hgl0] at hda
        have hdo := done_any g vb2 sk w3 hb3
        have Hbad := Lib.hid hbad
        have H9 := Lib.hid h9
        clear hbad h9 hgl0
        go_wp2_with (first | (go_at_call 10; refine hdo.mono ?_; rintro e wd ⟨rfl, rfl⟩) | (go_at_call 11; refine hda.mono ?_; rintro e w4 ⟨A4, c4, rfl, -, hc4, -⟩))
        go_roundw
        case rel => exact ⟨k + 1, _, by omega, by go_num, rfl, (hc.trans hcq3 (fun _ _ e => e)).trans hc4 (fun _ _ e => e.elim), sk, vb2, hb3.chg hc4 (fun _ _ => id), hok, hn0, hvb2, .inr ⟨Hbad.out, H9.out, hgot, rfl⟩⟩
        case measure => simp [intOf]; omega
    · obtain rfl : k = us.length := by omega
      go_wp2
      go_ret
      exact ⟨rfl, hc⟩
end Go.Proofs.Ytkbmajkoojgkpaa
