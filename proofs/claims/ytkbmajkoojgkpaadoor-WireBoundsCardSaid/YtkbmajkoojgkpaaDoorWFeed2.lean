/- The walk of wire's Feed. -/
import Derived.Test.YtkbmajkoojgkpaaDoorWFeed
namespace Go.Proofs.YtkbmajkoojgkpaaDoor
open Go.RowKit

set_option maxHeartbeats 16000000 in
set_option maxRecDepth 100000 in
theorem wfeed_any (p : WAt) (s : WSt) (A : Option Addr) (n c : Nat) (xs : List UInt8) (m : Int) (w : World) (h : Wire w p s) (hok : s.Ok) (hs4 : s.next ≤ 4) (hr : Rd w A xs) (hn : xs.length = n) (hnc : n ≤ c) (hcm : c ≤ 9223372036854775807) (hn1 : n ≤ 1000000)
    (hfar : ∀ ad, A = some ad → 0 < xs.length → ¬ p.foot ad.block) (hm : MaxL w m) (hclr : ¬ p.foot 0) :
    Calls Tryd.prog 40 #[.pointer (some ⟨p.g, 0, none⟩), .slice A n c] w (FeedP p (runW s xs) w) := by
  subst hn
  have hs1 := hok.nx.1
  have b0 : (s.next == 0) = false := by simp; omega
  have b5 : (s.next == 5) = false := by simp; omega
  obtain ⟨k0, -⟩ := wire_cells h.blk
  have hal := AlongW.start hok hs4 xs
  have hx1 : RdD w (fun k => ¬ p.foot k ∧ k < w.heap.size) A xs := ⟨hr, fun ad e hl => ⟨hfar ad e hl, by
    obtain ⟨ad', e', hlt, _⟩ := hr.at hl
    rw [e] at e'
    injection e' with e'
    subst e'
    exact hlt⟩⟩
  have hmlt : 0 < w.heap.size := World.block_lt_of_cell? _ _ hm.out
  have H := Lib.hid h
  have Hal := Lib.hid hal
  clear hal
  go_enter Tryd.func40, Tryd.ntmps40
  go_wp2_with fail
  go_loopw [1, 6] (fun bv lv wr => FeedRel p s xs c w bv lv wr)
    (fun bv _ _ => lenV bv)
  case atStart => exact ⟨0, [], s, p, A, c, none, 0, Nat.zero_le _, rfl, rfl, by omega, Nat.le_refl _, Hal.out, h, rfl, (fun _ e => .inl e : ∀ k, p.foot k → p.foot k ∨ w.heap.size ≤ k), Chg.refl _ _, hx1, RowG.nil _ _ _, ReqsM.nil _, (show ∀ x, x ∈ ([] : List RV) → ∀ k, RB x k → (p.foot k ∨ w.heap.size ≤ k) ∧ ¬ p.foot k by simp), (show NewFoot w (.slice none 0 0) (.slice none 0 0) from fun _ e => .inl e), Nat.le_refl _⟩
  case round =>
    obtain ⟨k, q, sk, pk, A1, c1, A2, c2, hk, rfl, rfl, hyc, hcc, hak, hwk, hpg, hnf, hch, hrd, hrow, hreq, hrb, hlf, hqk⟩ := hrel
    have hbk := hwk.blk
    rw [hpg] at hbk
    have hskn := hak.out.ok.nx
    have hsk4 := hak.out.nx
    have hclk : ¬ pk.foot 0 := fun e => by
      rcases hnf.out _ e with e | e
      · exact hclr e
      · omega
    have hmk := hm.chg hch hclr
    have hgs := hch.size
    obtain ⟨y, hy⟩ : ∃ y, y = xs.length - k := ⟨_, rfl⟩
    obtain ⟨ys, hys⟩ : ∃ ys, ys = xs.drop k := ⟨_, rfl⟩
    have hyl : ys.length = y := by rw [hys, hy, List.length_drop]
    rw [← hys] at hrd
    rw [← hy] at hyc ⊢
    have hyx : k + y = xs.length := by omega
    have Hys := Lib.hid hys
    have Hyl := Lib.hid hyl
    have Hy := Lib.hid hy
    have hlap : ∀ i, (Value.slice A2 q.length c2).ownBlock = some i → ¬ pk.foot i := fun i e => hwk.apart hrow e
    have Hlap := Lib.hid hlap
    clear hys hyl hy hlap
    obtain ⟨k0, k1, k2, k3, k4, k5, k6, k7⟩ := wire_cells hbk
    clear k1 k2 k3 k4 k5 k6
    have hend : (ys = [] ∨ sk.next = 4) → FeedP p (runW s xs) w (.returned (.tuple #[.slice A2 q.length c2, .int .i64 0])) wr := fun he => by
      have hst := hak.out.stop (by rw [← Hys.out]; exact he)
      exact FeedP.mk' (p' := pk) (by rw [hst]) (by rw [hst]; exact hwk) ⟨hpg, hnf.out⟩ hch hrow hreq hrb.out hlf.out
    have Hend := Lib.hid hend
    clear hend
    by_cases hy0 : y = 0
    · subst hy0
      have he := Hend.out (.inl (List.eq_nil_of_length_eq_zero Hyl.out))
      have He := Lib.hid he
      clear he
      go_wp2
      go_ret2
      exact He.out
    by_cases h4 : sk.next = 4
    · have he := Hend.out (.inr h4)
      have He := Lib.hid he
      rw [h4] at k0
      have hyp : 0 < y := by omega
      clear he h4
      go_wp2
      go_ret2
      exact He.out
    have hyp : 0 < y := by omega
    have b4 : (sk.next != 4) = true := by simp [h4]
    -- THE ROUND
    by_cases h3 : sk.next = 3
    · have b3 : (sk.next == 3) = true := by simp [h3]
      obtain ⟨N, E, t, hfe, hN1, hN2, hbad, hgood⟩ := round_body hak.out.ok h3 (ys := ys) (fun e => by rw [e] at Hyl; have := Hyl.out; simp at this; omega)
      rw [Hyl.out] at hN2
      obtain ⟨b, eb, hb, hsep⟩ := hwk.body h3
      obtain ⟨okb, nb0, nb9, nbb⟩ := hak.out.ok.body h3
      rw [eb] at k7
      simp only [Option.map_some] at k7
      have hff := feed_any b pk.bv sk.bd A1 y c1 ys wr hb okb nb0 hrd.rd Hyl.out (by omega) (fun ad e hl hfo => (hrd.lies ad e hl).1 (by
        have hpf : pk.foot ad.block := by
          rcases hfo with hfo | hfo
          · exact .inr (.inr (.inr (.inl (by rw [eb, hfo]))))
          · exact .inr (.inr (.inr (.inr hfo)))
        rcases hnf.out _ hpf with e' | e'
        · exact e'
        · exact absurd (hrd.lies ad e hl).2 (by omega)))
      rw [hfe] at hff
      have Hff := Lib.hid hff
      have Hbad := Lib.hid hbad
      have Hgood := Lib.hid hgood
      clear hff hbad hgood hfe
      by_cases hE : E = 0
      · subst hE
        simp only [if_true] at Hff
        obtain ⟨hpre, hrun⟩ := Hgood.out rfl
        have Hrun := Lib.hid hrun
        have Hpre := Lib.hid hpre
        clear hrun hpre Hbad Hgood
        by_cases hcN : c1 = N
        · subst hcN
          have hr5 := hrd.drop (k := c1) (by rw [Hyl.out]; exact hN2) (by rw [Hyl.out]; exact hyc)
          rw [if_pos rfl] at hr5
          go_wp2_with (go_at_call 22; refine Hff.out.mono ?_; rintro e w2 ⟨rfl, hbp⟩; obtain ⟨v', hw2, hnw2, hcw2⟩ := wire_step hwk h3 eb hbp; have hmid := Mid.mk hw2 hnw2 hcw2 Hpre.out Hrun.out; obtain ⟨pk2, hpk2⟩ : ∃ pk2, pk2 = { pk with bv := v' } := ⟨_, rfl⟩; obtain ⟨sk2, hsk2⟩ : ∃ sk2, sk2 = { sk with bd := t } := ⟨_, rfl⟩; rw [← hpk2, ← hsk2] at hmid; clear hw2 hnw2 hcw2 hpk2 hsk2; have hgk2 := hmid.new.1.trans hpg)
          by_cases hwh : sk2.next = 3 ∧ sk2.bd.next = 9
          · obtain ⟨h93, h99⟩ := hwh
            have hwi := whole_is pk2 sk2 w2 hmid.wire h93 h99 (by have := (hmid.pre.body h93).1.g; omega)
            rw [hgk2] at hwi
            obtain ⟨Af, cf, hfl, -, -⟩ := hmid.wire.flds.shape
            have Hwi := Lib.hid hwi
            have H93 := Lib.hid h93
            have H99 := Lib.hid h99
            have Hfl := Lib.hid hfl
            clear hwi h93 h99 hfl
            refine Hwi.out.mono ?_
            rintro e w3 ⟨A3, c3, rfl, hr3, hf3, hw3, hc3⟩
            rw [Hfl.out]
            have hq3 := hrow.chg (hmid.chg.trans hc3 (fun i _ e => by subst e; exact .inl hmid.new.1)) (fun i e => Hlap.out i e)
            go_wp2_with (at_builtin; refine wpList_appG Tryd.underlying57 req_info rfl (by decide) (by decide) rfl _ _ rfl (.slice A2 q.length c2) q.length (rcells q) (by rfl) (hq3.chg (((Chg.refl w3 (fun _ => False)).alloc (.cells #[.string (str sk2.m), .string (str sk2.t), .slice Af sk2.fs.length cf, .slice A3 sk2.bd.got.length c3, .bool sk2.keep] 66)).alloc (.cells #[.string (str sk2.m), .string (str sk2.t), .slice Af sk2.fs.length cf, .slice A3 sk2.bd.got.length c3, .bool sk2.keep] 66)) (fun _ _ => id)) (some ⟨w3.heap.size + 1, 0, none⟩) 1 1 [.string (str sk2.m), .string (str sk2.t), .slice Af sk2.fs.length cf, .slice A3 sk2.bd.got.length c3, .bool sk2.keep] rfl (by rfl) (RdV.one (by have := Blk.new (w3.alloc (.cells #[.string (str sk2.m), .string (str sk2.t), .slice Af sk2.fs.length cf, .slice A3 sk2.bd.got.length c3, .bool sk2.keep] 66)) 66 #[.string (str sk2.m), .string (str sk2.t), .slice Af sk2.fs.length cf, .slice A3 sk2.bd.got.length c3, .bool sk2.keep]; simpa using this)) (by simp [Value.oneCell']) (by omega) ?_; intro A4 c4 w4 hrow4 hc4 hf4)
            go_roundw
            case rel =>
              have hrel2 := FeedRel.whole (c := c) (A5 := A1) (c5 := 0) hak.out Hys.out hyx hpg hnf.out hch hwk hrow hreq hrb.out hlf.out hqk hmid (by omega) (by omega) H93.out H99.out hr3 hf3 hw3 hc3 (by rw [Hfl.out]; exact hrow4) hc4 hf4 hr5 (by omega) (by omega)
              rw [show y - c1 = 0 from by omega] at hrel2
              exact hrel2
            case measure => simp [lenV]; omega
          · have hwn := whole_not pk2 sk2 w2 hmid.wire hwh
            rw [hgk2] at hwn
            unfold NotWhole zeroReq at hwn
            have Hwn := Lib.hid hwn
            have Hwh := Lib.hid hwh
            clear hwn hwh
            refine Hwn.out.mono ?_
            rintro e w3 ⟨rfl, hc3⟩
            go_wp2_with fail
            go_roundw
            case rel =>
              have hrel2 := FeedRel.not (c := c) (A5 := A1) (c5 := 0) hak.out Hys.out hyx hpg hnf.out hch hwk hrow hreq hrb.out hlf.out hqk hmid (by omega) Hwh.out (hc3.alloc (.cells #[.string ⟨#[]⟩, .string ⟨#[]⟩, .slice none 0 0, .slice none 0 0, .bool false] 66)) hr5 (by omega) (by omega)
              rw [show y - c1 = 0 from by omega] at hrel2
              exact hrel2
            case measure => simp [lenV]; omega
        · have hr5 := hrd.drop (k := N) (by rw [Hyl.out]; exact hN2) (by rw [Hyl.out]; exact hyc)
          rw [if_neg hcN] at hr5
          go_wp2_with (go_at_call 22; refine Hff.out.mono ?_; rintro e w2 ⟨rfl, hbp⟩; obtain ⟨v', hw2, hnw2, hcw2⟩ := wire_step hwk h3 eb hbp; have hmid := Mid.mk hw2 hnw2 hcw2 Hpre.out Hrun.out; obtain ⟨pk2, hpk2⟩ : ∃ pk2, pk2 = { pk with bv := v' } := ⟨_, rfl⟩; obtain ⟨sk2, hsk2⟩ : ∃ sk2, sk2 = { sk with bd := t } := ⟨_, rfl⟩; rw [← hpk2, ← hsk2] at hmid; clear hw2 hnw2 hcw2 hpk2 hsk2; have hgk2 := hmid.new.1.trans hpg)
          by_cases hwh : sk2.next = 3 ∧ sk2.bd.next = 9
          · obtain ⟨h93, h99⟩ := hwh
            have hwi := whole_is pk2 sk2 w2 hmid.wire h93 h99 (by have := (hmid.pre.body h93).1.g; omega)
            rw [hgk2] at hwi
            obtain ⟨Af, cf, hfl, -, -⟩ := hmid.wire.flds.shape
            have Hwi := Lib.hid hwi
            have H93 := Lib.hid h93
            have H99 := Lib.hid h99
            have Hfl := Lib.hid hfl
            clear hwi h93 h99 hfl
            refine Hwi.out.mono ?_
            rintro e w3 ⟨A3, c3, rfl, hr3, hf3, hw3, hc3⟩
            rw [Hfl.out]
            have hq3 := hrow.chg (hmid.chg.trans hc3 (fun i _ e => by subst e; exact .inl hmid.new.1)) (fun i e => Hlap.out i e)
            go_wp2_with (at_builtin; refine wpList_appG Tryd.underlying57 req_info rfl (by decide) (by decide) rfl _ _ rfl (.slice A2 q.length c2) q.length (rcells q) (by rfl) (hq3.chg (((Chg.refl w3 (fun _ => False)).alloc (.cells #[.string (str sk2.m), .string (str sk2.t), .slice Af sk2.fs.length cf, .slice A3 sk2.bd.got.length c3, .bool sk2.keep] 66)).alloc (.cells #[.string (str sk2.m), .string (str sk2.t), .slice Af sk2.fs.length cf, .slice A3 sk2.bd.got.length c3, .bool sk2.keep] 66)) (fun _ _ => id)) (some ⟨w3.heap.size + 1, 0, none⟩) 1 1 [.string (str sk2.m), .string (str sk2.t), .slice Af sk2.fs.length cf, .slice A3 sk2.bd.got.length c3, .bool sk2.keep] rfl (by rfl) (RdV.one (by have := Blk.new (w3.alloc (.cells #[.string (str sk2.m), .string (str sk2.t), .slice Af sk2.fs.length cf, .slice A3 sk2.bd.got.length c3, .bool sk2.keep] 66)) 66 #[.string (str sk2.m), .string (str sk2.t), .slice Af sk2.fs.length cf, .slice A3 sk2.bd.got.length c3, .bool sk2.keep]; simpa using this)) (by simp [Value.oneCell']) (by omega) ?_; intro A4 c4 w4 hrow4 hc4 hf4)
            go_roundw
            case rel =>
              have hrel2 := FeedRel.whole (c := c) (A5 := A1.map (·.add N)) (c5 := c1 - N) hak.out Hys.out hyx hpg hnf.out hch hwk hrow hreq hrb.out hlf.out hqk hmid (by omega) (by omega) H93.out H99.out hr3 hf3 hw3 hc3 (by rw [Hfl.out]; exact hrow4) hc4 hf4 hr5 (by omega) (by omega)
              exact hrel2
            case measure => simp [lenV]; omega
          · have hwn := whole_not pk2 sk2 w2 hmid.wire hwh
            rw [hgk2] at hwn
            unfold NotWhole zeroReq at hwn
            have Hwn := Lib.hid hwn
            have Hwh := Lib.hid hwh
            clear hwn hwh
            refine Hwn.out.mono ?_
            rintro e w3 ⟨rfl, hc3⟩
            go_wp2_with fail
            go_roundw
            case rel =>
              have hrel2 := FeedRel.not (c := c) (A5 := A1.map (·.add N)) (c5 := c1 - N) hak.out Hys.out hyx hpg hnf.out hch hwk hrow hreq hrb.out hlf.out hqk hmid (by omega) Hwh.out (hc3.alloc (.cells #[.string ⟨#[]⟩, .string ⟨#[]⟩, .slice none 0 0, .slice none 0 0, .bool false] 66)) hr5 (by omega) (by omega)
              exact hrel2
            case measure => simp [lenV]; omega
      · have hE' : (E == 0) = false := by simp [hE]
        rw [if_neg hE] at Hff
        have Hrun := Lib.hid (Hbad.out hE)
        have HE := Lib.hid hE
        have hx : (E = 2 ∧ (E == 2) = true) ∨ ((E == 2) = false ∧ (E != 0) = true ∧ errW E = E) := by
          by_cases h2 : E = 2
          · exact .inl ⟨h2, by simp [h2]⟩
          · exact .inr ⟨by simp [h2], by simp [hE], by unfold errW; rw [if_neg h2]⟩
        clear hE Hbad Hgood
        rcases hx with ⟨rfl, he2⟩ | ⟨he2, hne, hew⟩
        · go_wp2_with (go_at_call 22; refine Hff.out.mono ?_; rintro e w2 ⟨rfl, hbp⟩; obtain ⟨v', hw2, hnw2, hcw2⟩ := wire_step hwk h3 eb hbp; have hbk2 := hw2.blk; obtain ⟨q0, q1, q2, q3, q4, q5, q6, q7⟩ := wire_cells (hpg ▸ hbk2); obtain ⟨f0, f1, f2, f3, f4, f5, f6, f7⟩ := wire_free (hpg ▸ hbk2))
          go_ret2
          exact feed_bad hwk hpg hnf.out hch hrow hreq hrb.out hlf.out hcw2 (hpg ▸ hbk2) (hak.out.bad (by rw [← Hys.out]; exact Hrun.out))
        · have Hew := Lib.hid hew
          clear hew
          go_wp2_with (go_at_call 22; refine Hff.out.mono ?_; rintro e w2 ⟨rfl, hbp⟩; obtain ⟨v', hw2, hnw2, hcw2⟩ := wire_step hwk h3 eb hbp; have hbk2 := hw2.blk; obtain ⟨q0, q1, q2, q3, q4, q5, q6, q7⟩ := wire_cells (hpg ▸ hbk2); obtain ⟨f0, f1, f2, f3, f4, f5, f6, f7⟩ := wire_free (hpg ▸ hbk2))
          go_ret2
          exact feed_bad hwk hpg hnf.out hch hrow hreq hrb.out hlf.out hcw2 (hpg ▸ hbk2) (hak.out.bad (by rw [← Hys.out]; have := Hrun.out; rw [Hew.out] at this; exact this))
    · have b3 : (sk.next == 3) = false := by simp [h3]
      have hl12 : sk.next = 1 ∨ sk.next = 2 := by omega
      obtain ⟨c0, cs, hcs⟩ : ∃ c0 cs, ys = c0 :: cs := by
        cases hz : ys with
        | nil => rw [hz] at Hyl; have := Hyl.out; simp at this; omega
        | cons c0 cs => exact ⟨c0, cs, rfl⟩
      obtain ⟨hbad, hgood⟩ := round_line hak.out.ok hl12 c0 cs
      rw [← hcs] at hbad hgood
      have htk := wtake_any pk sk c0 m wr hwk hak.out.ok hl12 hmk hclk
      rw [hpg] at htk
      obtain ⟨ad, hA1, hadl, hcell⟩ := hrd.rd.at (k := 0) (by rw [Hyl.out]; exact hyp)
      have h0 : ad.add 0 = ad := by unfold Addr.add; simp
      have hg0 : ys[0]'(by rw [Hyl.out]; exact hyp) = c0 := by simp [hcs]
      rw [h0, hg0] at hcell
      have hcell2 : wr.cell? ad = some (.int .u8 c0.toNat) := hcell
      have Htk := Lib.hid htk
      have Hbad := Lib.hid hbad
      have Hgood := Lib.hid hgood
      clear htk hbad hgood hcell h0 hg0 hcs
      by_cases hE : (takeW sk c0).1 = 0
      · obtain ⟨hpre, hrun⟩ := Hgood.out hE
        have Hrun := Lib.hid hrun
        have Hpre := Lib.hid hpre
        have HE := Lib.hid hE
        clear hrun hpre Hbad Hgood hE
        by_cases hcN : c1 = 1
        · subst hcN
          have hr5 := hrd.drop (k := 1) (by rw [Hyl.out]; exact hyp) (by rw [Hyl.out]; exact hyc)
          rw [if_pos rfl] at hr5
          subst hA1
          go_wp2_with (go_at_call 53; refine Htk.out.mono ?_; rintro e w2 ⟨rfl, hcw2, -, hmk2⟩; rw [HE.out]; obtain ⟨pk2, hnw2, hw2⟩ := hmk2 HE.out; have hmid := Mid.mk hw2 hnw2 hcw2 Hpre.out Hrun.out; obtain ⟨sk2, hsk2⟩ : ∃ sk2, sk2 = (takeW sk c0).2 := ⟨_, rfl⟩; rw [← hsk2] at hmid; clear hw2 hnw2 hcw2 hmk2 hsk2; have hgk2 := hmid.new.1.trans hpg)
          by_cases hwh : sk2.next = 3 ∧ sk2.bd.next = 9
          · obtain ⟨h93, h99⟩ := hwh
            have hwi := whole_is pk2 sk2 w2 hmid.wire h93 h99 (by have := (hmid.pre.body h93).1.g; omega)
            rw [hgk2] at hwi
            obtain ⟨Af, cf, hfl, -, -⟩ := hmid.wire.flds.shape
            have Hwi := Lib.hid hwi
            have H93 := Lib.hid h93
            have H99 := Lib.hid h99
            have Hfl := Lib.hid hfl
            clear hwi h93 h99 hfl
            refine Hwi.out.mono ?_
            rintro e w3 ⟨A3, c3, rfl, hr3, hf3, hw3, hc3⟩
            rw [Hfl.out]
            have hq3 := hrow.chg (hmid.chg.trans hc3 (fun i _ e => by subst e; exact .inl hmid.new.1)) (fun i e => Hlap.out i e)
            go_wp2_with (at_builtin; refine wpList_appG Tryd.underlying57 req_info rfl (by decide) (by decide) rfl _ _ rfl (.slice A2 q.length c2) q.length (rcells q) (by rfl) (hq3.chg (((Chg.refl w3 (fun _ => False)).alloc (.cells #[.string (str sk2.m), .string (str sk2.t), .slice Af sk2.fs.length cf, .slice A3 sk2.bd.got.length c3, .bool sk2.keep] 66)).alloc (.cells #[.string (str sk2.m), .string (str sk2.t), .slice Af sk2.fs.length cf, .slice A3 sk2.bd.got.length c3, .bool sk2.keep] 66)) (fun _ _ => id)) (some ⟨w3.heap.size + 1, 0, none⟩) 1 1 [.string (str sk2.m), .string (str sk2.t), .slice Af sk2.fs.length cf, .slice A3 sk2.bd.got.length c3, .bool sk2.keep] rfl (by rfl) (RdV.one (by have := Blk.new (w3.alloc (.cells #[.string (str sk2.m), .string (str sk2.t), .slice Af sk2.fs.length cf, .slice A3 sk2.bd.got.length c3, .bool sk2.keep] 66)) 66 #[.string (str sk2.m), .string (str sk2.t), .slice Af sk2.fs.length cf, .slice A3 sk2.bd.got.length c3, .bool sk2.keep]; simpa using this)) (by simp [Value.oneCell']) (by omega) ?_; intro A4 c4 w4 hrow4 hc4 hf4)
            go_roundw
            case rel =>
              have hrel2 := FeedRel.whole (c := c) (A5 := some ad) (c5 := 0) hak.out Hys.out hyx hpg hnf.out hch hwk hrow hreq hrb.out hlf.out hqk hmid (by omega) (by omega) H93.out H99.out hr3 hf3 hw3 hc3 (by rw [Hfl.out]; exact hrow4) hc4 hf4 hr5 (by omega) (by omega)
              rw [show y - 1 = 0 from by omega] at hrel2
              exact hrel2
            case measure => simp [lenV]; omega
          · have hwn := whole_not pk2 sk2 w2 hmid.wire hwh
            rw [hgk2] at hwn
            unfold NotWhole zeroReq at hwn
            have Hwn := Lib.hid hwn
            have Hwh := Lib.hid hwh
            clear hwn hwh
            refine Hwn.out.mono ?_
            rintro e w3 ⟨rfl, hc3⟩
            go_wp2_with fail
            go_roundw
            case rel =>
              have hrel2 := FeedRel.not (c := c) (A5 := some ad) (c5 := 0) hak.out Hys.out hyx hpg hnf.out hch hwk hrow hreq hrb.out hlf.out hqk hmid (by omega) Hwh.out (hc3.alloc (.cells #[.string ⟨#[]⟩, .string ⟨#[]⟩, .slice none 0 0, .slice none 0 0, .bool false] 66)) hr5 (by omega) (by omega)
              rw [show y - 1 = 0 from by omega] at hrel2
              exact hrel2
            case measure => simp [lenV]; omega
        · have hr5 := hrd.cut (k := 1) (by decide) (by rw [Hyl.out]; exact hyp) (by rw [Hyl.out]; exact hyc)
          rw [if_neg hcN] at hr5
          subst hA1
          go_wp2_with (go_at_call 53; refine Htk.out.mono ?_; rintro e w2 ⟨rfl, hcw2, -, hmk2⟩; rw [HE.out]; obtain ⟨pk2, hnw2, hw2⟩ := hmk2 HE.out; have hmid := Mid.mk hw2 hnw2 hcw2 Hpre.out Hrun.out; obtain ⟨sk2, hsk2⟩ : ∃ sk2, sk2 = (takeW sk c0).2 := ⟨_, rfl⟩; rw [← hsk2] at hmid; clear hw2 hnw2 hcw2 hmk2 hsk2; have hgk2 := hmid.new.1.trans hpg)
          by_cases hwh : sk2.next = 3 ∧ sk2.bd.next = 9
          · obtain ⟨h93, h99⟩ := hwh
            have hwi := whole_is pk2 sk2 w2 hmid.wire h93 h99 (by have := (hmid.pre.body h93).1.g; omega)
            rw [hgk2] at hwi
            obtain ⟨Af, cf, hfl, -, -⟩ := hmid.wire.flds.shape
            have Hwi := Lib.hid hwi
            have H93 := Lib.hid h93
            have H99 := Lib.hid h99
            have Hfl := Lib.hid hfl
            clear hwi h93 h99 hfl
            refine Hwi.out.mono ?_
            rintro e w3 ⟨A3, c3, rfl, hr3, hf3, hw3, hc3⟩
            rw [Hfl.out]
            have hq3 := hrow.chg (hmid.chg.trans hc3 (fun i _ e => by subst e; exact .inl hmid.new.1)) (fun i e => Hlap.out i e)
            go_wp2_with (at_builtin; refine wpList_appG Tryd.underlying57 req_info rfl (by decide) (by decide) rfl _ _ rfl (.slice A2 q.length c2) q.length (rcells q) (by rfl) (hq3.chg (((Chg.refl w3 (fun _ => False)).alloc (.cells #[.string (str sk2.m), .string (str sk2.t), .slice Af sk2.fs.length cf, .slice A3 sk2.bd.got.length c3, .bool sk2.keep] 66)).alloc (.cells #[.string (str sk2.m), .string (str sk2.t), .slice Af sk2.fs.length cf, .slice A3 sk2.bd.got.length c3, .bool sk2.keep] 66)) (fun _ _ => id)) (some ⟨w3.heap.size + 1, 0, none⟩) 1 1 [.string (str sk2.m), .string (str sk2.t), .slice Af sk2.fs.length cf, .slice A3 sk2.bd.got.length c3, .bool sk2.keep] rfl (by rfl) (RdV.one (by have := Blk.new (w3.alloc (.cells #[.string (str sk2.m), .string (str sk2.t), .slice Af sk2.fs.length cf, .slice A3 sk2.bd.got.length c3, .bool sk2.keep] 66)) 66 #[.string (str sk2.m), .string (str sk2.t), .slice Af sk2.fs.length cf, .slice A3 sk2.bd.got.length c3, .bool sk2.keep]; simpa using this)) (by simp [Value.oneCell']) (by omega) ?_; intro A4 c4 w4 hrow4 hc4 hf4)
            go_roundw
            case rel =>
              have hrel2 := FeedRel.whole (c := c) (A5 := some ⟨ad.block, ad.off + 1, none⟩) (c5 := c1 - 1) hak.out Hys.out hyx hpg hnf.out hch hwk hrow hreq hrb.out hlf.out hqk hmid (by omega) (by omega) H93.out H99.out hr3 hf3 hw3 hc3 (by rw [Hfl.out]; exact hrow4) hc4 hf4 hr5 (by omega) (by omega)
              exact hrel2
            case measure => simp [lenV]; omega
          · have hwn := whole_not pk2 sk2 w2 hmid.wire hwh
            rw [hgk2] at hwn
            unfold NotWhole zeroReq at hwn
            have Hwn := Lib.hid hwn
            have Hwh := Lib.hid hwh
            clear hwn hwh
            refine Hwn.out.mono ?_
            rintro e w3 ⟨rfl, hc3⟩
            go_wp2_with fail
            go_roundw
            case rel =>
              have hrel2 := FeedRel.not (c := c) (A5 := some ⟨ad.block, ad.off + 1, none⟩) (c5 := c1 - 1) hak.out Hys.out hyx hpg hnf.out hch hwk hrow hreq hrb.out hlf.out hqk hmid (by omega) Hwh.out (hc3.alloc (.cells #[.string ⟨#[]⟩, .string ⟨#[]⟩, .slice none 0 0, .slice none 0 0, .bool false] 66)) hr5 (by omega) (by omega)
              exact hrel2
            case measure => simp [lenV]; omega
      · have Hrun := Lib.hid (Hbad.out hE)
        have hne : ((takeW sk c0).1 != 0) = true := by simpa using hE
        have HE := Lib.hid hE
        clear hE Hbad Hgood
        subst hA1
        go_wp2_with (go_at_call 53; refine Htk.out.mono ?_; rintro e w2 ⟨rfl, hcw2, ⟨cc, hcs8, hbk2⟩, -⟩; rw [hpg] at hbk2; obtain ⟨v0, v1, v2, v3, v4, v5, v6, v7, rfl, q0, q1, q2, q3, q4, q5, q6, q7⟩ := cells8 hbk2 hcs8; clear hcs8; obtain ⟨f0, f1, f2, f3, f4, f5, f6, f7⟩ := wire_free hbk2)
        go_ret2
        exact feed_bad hwk hpg hnf.out hch hrow hreq hrb.out hlf.out hcw2 hbk2 (hak.out.bad (by rw [← Hys.out]; exact Hrun.out))
end Go.Proofs.YtkbmajkoojgkpaaDoor
