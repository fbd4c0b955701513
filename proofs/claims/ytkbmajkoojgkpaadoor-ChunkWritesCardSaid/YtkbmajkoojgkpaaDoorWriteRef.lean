/- The contract of the reference's Chunks. -/
import Derived.Test.YtkbmajkoojgkpaaDoorPend
import Derived.Test.YtkbmajkoojgkpaaDoorPlain7
import Derived.Test.YtkbmajkoojgkpaaDoorWrite
import Derived.Lib.AppendStr
namespace Go.Proofs.YtkbmajkoojgkpaaDoor
open Go.RowKit

theorem wpList_app_str {w0 w : World} {ops : Array Oper} {rest : List Oper} {o : Oper} {a : Act} {Q : Exit → Act → World → Prop} (hgd : o.guard = none) (sl x : Operand)
    (ho : o.op = .call { callee := .builtin .append, args := #[sl, x], argTypes := #[22, 9] })
    (A : Option Addr) (c n : Nat) (xs : List UInt8) (hn : xs.length = n) (hs : a.eval sl = .slice A n c) (hown : Out w0 w A c xs) (s : List UInt8) (hx : a.eval x = .string (str s))
    (h63 : xs.length + s.length ≤ 140737488355328)
    (h : ∀ A' c' w' z, Out w0 w' A' c' z → z = xs ++ s → wpList Tryd.prog ops Q rest (a.put o.dst (.slice A' (List.length z) c')) w') : wpList Tryd.prog ops Q (o :: rest) a w := by
  subst hn
  obtain ⟨i0, hi, hz0, hz1, hz2⟩ := info_parts u8_info
  have hb : w.ownsRow w0.heap.size 5 1 (.slice A xs.length c) xs.length (Bs xs) := by
    have h0 := hown.row.out
    refine ⟨h0.1, ?_⟩
    rcases h0.2 with h1 | ⟨g, cap, cur, e, hbg, r⟩
    · exact .inl h1
    · refine .inr ⟨g, cap, cur, e, ?_, r⟩
      rcases hown.foot g (by rw [e]; rfl) with h2 | h2
      · simp [Value.ownBlock] at h2
      · exact h2
  refine Lib.wpList_append_own_string w hgd sl x 22 9 ho w0.heap.size 5 i0 Tryd.underlying22 Tryd.underlying9 hi hz0 hz1 hz2 _ xs.length (Bs xs) hs hb (str s) hx (by rw [str_size]; unfold maxLen; omega) (by rw [str_size]; exact h63) hown.chg.size fun v' w' h2 h3 _ => ?_
  rw [strCells_str, str_size, ← Bs_append, ← List.length_append] at h2
  have hrow : Row w' v' (xs ++ s) := ⟨by
    refine ⟨h2.1, ?_⟩
    rcases h2.2 with h4 | ⟨g, cap, cur, e, _, r⟩
    · exact .inl h4
    · exact .inr ⟨g, cap, cur, e, Nat.zero_le _, r⟩⟩
  obtain ⟨A', c', e⟩ := row_shape hrow
  subst e
  refine h A' c' w' (xs ++ s) ⟨hrow, (hown.chg.grown h3 (fun k e hk => (newFoot_nil hown.foot hk e).elim)), fun k e => ?_⟩ rfl
  rcases h2.2 with ⟨h4, _⟩ | ⟨g, cap, cur, e4, hg, _⟩
  · rw [h4] at e
    simp [Value.ownBlock] at e
  · rw [e4] at e
    simp [Value.ownBlock] at e
    subst e
    exact .inr hg

theorem dig_ex (k : Nat) (h : k < 16) : (⟨#[48, 49, 50, 51, 52, 53, 54, 55, 56, 57, 97, 98, 99, 100, 101, 102]⟩ : ByteArray).extract k (k + 1) = str [hexC k] := by
  have : k = 0 ∨ k = 1 ∨ k = 2 ∨ k = 3 ∨ k = 4 ∨ k = 5 ∨ k = 6 ∨ k = 7 ∨ k = 8 ∨ k = 9 ∨ k = 10 ∨ k = 11 ∨ k = 12 ∨ k = 13 ∨ k = 14 ∨ k = 15 := by omega
  rcases this with rfl | rfl | rfl | rfl | rfl | rfl | rfl | rfl | rfl | rfl | rfl | rfl | rfl | rfl | rfl | rfl <;> rfl
theorem str_append (a b : List UInt8) : str a ++ str b = str (a ++ b) := by
  apply ByteArray.ext
  rw [ByteArray.data_append]
  simp [str]
/-- What is between two digits. -/
structure DigR (N : Nat) (sv vv : Value) : Prop where mk ::
  (out : ∃ (v : Nat) (suf : List UInt8), sv = .string (str suf) ∧ vv = .int .i64 v ∧ v ≤ N ∧ suf.length ≤ 5 ∧ hexOf v ++ suf = hexOf N)
theorem DigR.start {N : Nat} : DigR N (.string ⟨#[]⟩) (.int .i64 N) := ⟨⟨N, [], rfl, rfl, Nat.le_refl _, by simp, by simp⟩⟩
theorem dig_step {N v : Nat} {suf : List UInt8} (h0 : 0 < v) (hN : N ≤ 100000) (hv : v ≤ N) (h : hexOf v ++ suf = hexOf N) : DigR N (.string (str [hexC (v % 16)] ++ str suf)) (.int .i64 ((v : Int) / 16)) := by
  refine ⟨⟨v / 16, hexC (v % 16) :: suf, by rw [str_append]; rfl, by congr 1, by omega, ?_, ?_⟩⟩
  · have := hexOf_le 5 N (by omega)
    rw [← h, hexOf_step (v := v) (by omega)] at this
    simp at this ⊢
    omega
  · rw [← h, hexOf_step (v := v) (by omega)]
    simp

set_option maxHeartbeats 8000000 in
set_option maxRecDepth 100000 in
theorem ref_chunks_any (A : Option Addr) (n c : Nat) (sz : Int) (xs : List UInt8) (w : World) (hn : xs.length = n) (hx : Rd w A xs) (hnc : n ≤ c) (hc : c ≤ 9223372036854775807) (hm : n ≤ 100000) (hsz : sz ≤ 9223372036854775807) :
    Calls Tryd.prog 17 #[.slice A n c, .int .i64 sz] w (NewBytes w (chunkW sz.toNat xs ++ lastW)) := by
  subst hn
  obtain ⟨m, hm1, hmx, hcase⟩ := size_cases sz
  have htot : ∃ total, total = chunkW sz.toNat xs ++ lastW := ⟨_, rfl⟩
  obtain ⟨total, htot⟩ := htot
  have hlt : total.length ≤ 1000005 := by rw [htot, List.length_append]; have := chunkW_len xs.length sz.toNat xs (Nat.le_refl _) (by omega); simp [lastW]; omega
  rw [← htot]
  obtain ⟨sz', hsz'⟩ : ∃ k : Nat, k = sz.toNat := ⟨_, rfl⟩
  rw [← hsz'] at htot hmx
  have Htot := Lib.hid htot
  have Hmx := Lib.hid hmx
  clear htot
  go_enter Tryd.func17, Tryd.ntmps17
  rcases hcase with ⟨h1, rfl⟩ | ⟨h1, rfl⟩
  · clear hsz'
    go_wp2_with fail
    go_loopw [0, 5, 6, 7, 8] (fun sv ov _ _ _ wr => WriteR w total sz' c sv ov wr) (fun sv _ _ _ _ _ => slen sv)
    case atStart => exact ⟨⟨A, c, xs, none, 0, [], rfl, rfl, hx, hnc, Nat.le_refl _, hm, Out.start _, Htot.out.symm⟩⟩
    case round =>
      obtain ⟨A1, c1, ys, A2, c2, zs, rfl, rfl, hrd, hy1, hy2, hy3, ho, htt⟩ := hrel.out
      have hzl : zs.length ≤ 1000005 := by rw [← htt, List.length_append] at hlt; omega
      have Htt := Lib.hid htt
      clear htt
      by_cases hlt0 : 0 < ys.length
      · have hst := chunkW_step (sz := sz') (n := 1) hlt0 (by have := Hmx.out; omega)
        have Hst := Lib.hid hst
        have htl : (ys.take 1).length = 1 := by rw [List.length_take]; omega
        have Htl := Lib.hid htl
        clear hst htl
        go_wp2_with fail
        go_loop [7, 8] (fun sv vv => DigR 1 sv vv) (fun _ vv => (intOf vv).toNat)
        case atStart => exact DigR.start
        case round =>
          obtain ⟨v, suf, rfl, rfl, hv1, hv2, hv3⟩ := hrel.out
          have HV := Lib.hid hv3
          clear hv3
          by_cases hv0 : 0 < v
          · have hex := dig_ex (v % 16) (Nat.mod_lt _ (by decide))
            have hs1 : (str [hexC (v % 16)]).size = 1 := by rw [str_size]; rfl
            have hs2 := str_size suf
            go_wp2
            go_round
            case rel => exact dig_step hv0 (by omega) hv1 HV.out
            case measure => simp [intOf]; omega
          · obtain rfl : v = 0 := by omega
            have hsu : suf = hexOf 1 := by rw [← HV.out, hexOf_zero]; rfl
            have Hsu := Lib.hid hsu
            clear hsu
            go_wp2_with fail
            have hP0 := Pend.of ho
            have hbI : (1 : Int) ≤ (c1 : Int) := by omega
            have hbN : 1 ≤ c1 := by omega
            go_region_law (first
              | (refine step_str rfl _ _ rfl A2 c2 zs.length zs _ rfl (by rfl) (by first | exact hP0.drew | exact hP0.drew.build | exact hP0.drew.build.build | exact hP0.build.drew | exact hP0.build.build.drew) suf (by rfl) (by omega) ?_; intro A1' c1' w1 z1 hP1 Hz1 hl1)
              | (refine step_byt rfl _ _ rfl A1' c1' z1.length z1 _ rfl (by rfl) (by first | exact hP1 | exact hP1.build | exact hP1.build.build) _ 2 2 [13, 10] rfl (by rfl) (by first | exact (hP1.pend _ (by simp)).1 | exact (hP1.build.pend _ (by simp)).1 | exact (hP1.build.build.pend _ (by simp)).1) (by simp; omega) ?_; intro A2' c2' w2 z2 hP2 Hz2 hl2; simp only [List.length_cons, List.length_nil] at hl2)
              | (refine step_byt rfl _ _ rfl A2' c2' z2.length z2 _ rfl (by rfl) (by first | exact hP2 | exact hP2.build) A1 1 c1 (ys.take 1) Htl.out (by rfl) (by first | exact (hrd.take 1).chg hP2.out.chg (fun _ _ _ => id) | exact (hrd.take 1).chg hP2.build.out.chg (fun _ _ _ => id)) (by have := Htl.out; omega) ?_; intro A3' c3' w3 z3 hP3 Hz3 hl3; rw [Htl.out] at hl3)
              | (refine step_byt rfl _ _ rfl A3' c3' z3.length z3 _ rfl (by rfl) (by first | exact hP3 | exact hP3.build) _ 2 2 [13, 10] rfl (by rfl) (by first | exact (hP3.pend _ (by simp)).1 | exact (hP3.build.pend _ (by simp)).1) (by simp; omega) ?_; intro A4' c4' w4 z4 hP4 Hz4 hl4))
            all_goals
              go_wp2
            all_goals
              have ho4 := hP4.out
              go_roundw
              case rel =>
                have hl5 : (ys.drop 1).length = ys.length - 1 := by simp
                exact ⟨⟨_, c1 - 1, ys.drop 1, A4', c4', z4, by rw [hl5], rfl, hrd.cut (by omega) (by omega) hy1, by rw [hl5]; omega, by omega, by rw [hl5]; omega, ho4, by rw [Hz4.out, Hz3.out, Hz2.out, Hz1.out, Hsu.out, ← Htt.out, Hst.out]; simp [List.append_assoc]⟩⟩
              case measure => simp [slen]; omega
      · have hy0 : ys = [] := List.length_eq_zero_iff.1 (by omega)
        have Hy0 := Lib.hid hy0
        clear hy0
        go_wp2_with (at_builtin; refine wpList_app_str rfl _ _ rfl A2 c2 zs.length zs rfl (by rfl) ho lastW (by rfl) (by simp [lastW]; omega) ?_; intro A4' c4' w4 z4 ho4 hz4; have Hz4 := Lib.hid hz4; clear hz4)
        go_ret
        have he : z4 = total := by rw [Hz4.out, ← Htt.out, Hy0.out, chunkW_nil]; rfl
        subst he
        exact ⟨A4', c4', rfl, ho4.row, ho4.chg, ho4.foot⟩
  · clear hsz'
    go_wp2_with fail
    go_loopw [0, 5, 6, 7, 8] (fun sv ov _ _ _ wr => WriteR w total sz' c sv ov wr) (fun sv _ _ _ _ _ => slen sv)
    case atStart => exact ⟨⟨A, c, xs, none, 0, [], rfl, rfl, hx, hnc, Nat.le_refl _, hm, Out.start _, Htot.out.symm⟩⟩
    case round =>
      obtain ⟨A1, c1, ys, A2, c2, zs, rfl, rfl, hrd, hy1, hy2, hy3, ho, htt⟩ := hrel.out
      have hzl : zs.length ≤ 1000005 := by rw [← htt, List.length_append] at hlt; omega
      have Htt := Lib.hid htt
      clear htt
      by_cases hlt0 : 0 < ys.length
      · by_cases hmin : m ≤ ys.length
        · have hst := chunkW_step (sz := sz') (n := m) hlt0 (by have := Hmx.out; omega)
          have Hst := Lib.hid hst
          have htl : (ys.take m).length = m := by rw [List.length_take]; omega
          have Htl := Lib.hid htl
          clear hst htl
          go_wp2_with fail
          go_loop [7, 8] (fun sv vv => DigR m sv vv) (fun _ vv => (intOf vv).toNat)
          case atStart => exact DigR.start
          case round =>
            obtain ⟨v, suf, rfl, rfl, hv1, hv2, hv3⟩ := hrel.out
            have HV := Lib.hid hv3
            clear hv3
            by_cases hv0 : 0 < v
            · have hex := dig_ex (v % 16) (Nat.mod_lt _ (by decide))
              have hs1 : (str [hexC (v % 16)]).size = 1 := by rw [str_size]; rfl
              have hs2 := str_size suf
              go_wp2
              go_round
              case rel => exact dig_step hv0 (by omega) hv1 HV.out
              case measure => simp [intOf]; omega
            · obtain rfl : v = 0 := by omega
              have hsu : suf = hexOf m := by rw [← HV.out, hexOf_zero]; rfl
              have Hsu := Lib.hid hsu
              clear hsu
              go_wp2_with fail
              have hP0 := Pend.of ho
              have hbI : ((m : Nat) : Int) ≤ (c1 : Int) := by omega
              have hbN : m ≤ c1 := by omega
              go_region_law (first
                | (refine step_str rfl _ _ rfl A2 c2 zs.length zs _ rfl (by rfl) (by first | exact hP0.drew | exact hP0.drew.build | exact hP0.drew.build.build | exact hP0.build.drew | exact hP0.build.build.drew) suf (by rfl) (by omega) ?_; intro A1' c1' w1 z1 hP1 Hz1 hl1)
                | (refine step_byt rfl _ _ rfl A1' c1' z1.length z1 _ rfl (by rfl) (by first | exact hP1 | exact hP1.build | exact hP1.build.build) _ 2 2 [13, 10] rfl (by rfl) (by first | exact (hP1.pend _ (by simp)).1 | exact (hP1.build.pend _ (by simp)).1 | exact (hP1.build.build.pend _ (by simp)).1) (by simp; omega) ?_; intro A2' c2' w2 z2 hP2 Hz2 hl2; simp only [List.length_cons, List.length_nil] at hl2)
                | (refine step_byt rfl _ _ rfl A2' c2' z2.length z2 _ rfl (by rfl) (by first | exact hP2 | exact hP2.build) A1 m c1 (ys.take m) Htl.out (by rfl) (by first | exact (hrd.take m).chg hP2.out.chg (fun _ _ _ => id) | exact (hrd.take m).chg hP2.build.out.chg (fun _ _ _ => id)) (by have := Htl.out; omega) ?_; intro A3' c3' w3 z3 hP3 Hz3 hl3; rw [Htl.out] at hl3)
                | (refine step_byt rfl _ _ rfl A3' c3' z3.length z3 _ rfl (by rfl) (by first | exact hP3 | exact hP3.build) _ 2 2 [13, 10] rfl (by rfl) (by first | exact (hP3.pend _ (by simp)).1 | exact (hP3.build.pend _ (by simp)).1) (by simp; omega) ?_; intro A4' c4' w4 z4 hP4 Hz4 hl4))
              all_goals
                go_wp2
              all_goals
                have ho4 := hP4.out
                go_roundw
                case rel =>
                  have hl5 : (ys.drop m).length = ys.length - m := by simp
                  exact ⟨⟨_, c1 - m, ys.drop m, A4', c4', z4, by rw [hl5], rfl, hrd.drop (by omega) hy1, by rw [hl5]; omega, by omega, by rw [hl5]; omega, ho4, by rw [Hz4.out, Hz3.out, Hz2.out, Hz1.out, Hsu.out, ← Htt.out, Hst.out]; simp [List.append_assoc]⟩⟩
                case measure => simp [slen]; omega
        · have hst := chunkW_step (sz := sz') (n := ys.length) hlt0 (by have := Hmx.out; omega)
          have Hst := Lib.hid hst
          have htl : (ys.take ys.length).length = ys.length := by rw [List.length_take]; omega
          have Htl := Lib.hid htl
          clear hst htl
          go_wp2_with fail
          go_loop [7, 8] (fun sv vv => DigR ys.length sv vv) (fun _ vv => (intOf vv).toNat)
          case atStart => exact DigR.start
          case round =>
            obtain ⟨v, suf, rfl, rfl, hv1, hv2, hv3⟩ := hrel.out
            have HV := Lib.hid hv3
            clear hv3
            by_cases hv0 : 0 < v
            · have hex := dig_ex (v % 16) (Nat.mod_lt _ (by decide))
              have hs1 : (str [hexC (v % 16)]).size = 1 := by rw [str_size]; rfl
              have hs2 := str_size suf
              go_wp2
              go_round
              case rel => exact dig_step hv0 (by omega) hv1 HV.out
              case measure => simp [intOf]; omega
            · obtain rfl : v = 0 := by omega
              have hsu : suf = hexOf ys.length := by rw [← HV.out, hexOf_zero]; rfl
              have Hsu := Lib.hid hsu
              clear hsu
              go_wp2_with fail
              have hP0 := Pend.of ho
              have hbI : ((ys.length : Nat) : Int) ≤ (c1 : Int) := by omega
              have hbN : ys.length ≤ c1 := by omega
              go_region_law (first
                | (refine step_str rfl _ _ rfl A2 c2 zs.length zs _ rfl (by rfl) (by first | exact hP0.drew | exact hP0.drew.build | exact hP0.drew.build.build | exact hP0.build.drew | exact hP0.build.build.drew) suf (by rfl) (by omega) ?_; intro A1' c1' w1 z1 hP1 Hz1 hl1)
                | (refine step_byt rfl _ _ rfl A1' c1' z1.length z1 _ rfl (by rfl) (by first | exact hP1 | exact hP1.build | exact hP1.build.build) _ 2 2 [13, 10] rfl (by rfl) (by first | exact (hP1.pend _ (by simp)).1 | exact (hP1.build.pend _ (by simp)).1 | exact (hP1.build.build.pend _ (by simp)).1) (by simp; omega) ?_; intro A2' c2' w2 z2 hP2 Hz2 hl2; simp only [List.length_cons, List.length_nil] at hl2)
                | (refine step_byt rfl _ _ rfl A2' c2' z2.length z2 _ rfl (by rfl) (by first | exact hP2 | exact hP2.build) A1 ys.length c1 (ys.take ys.length) Htl.out (by rfl) (by first | exact (hrd.take ys.length).chg hP2.out.chg (fun _ _ _ => id) | exact (hrd.take ys.length).chg hP2.build.out.chg (fun _ _ _ => id)) (by have := Htl.out; omega) ?_; intro A3' c3' w3 z3 hP3 Hz3 hl3; rw [Htl.out] at hl3)
                | (refine step_byt rfl _ _ rfl A3' c3' z3.length z3 _ rfl (by rfl) (by first | exact hP3 | exact hP3.build) _ 2 2 [13, 10] rfl (by rfl) (by first | exact (hP3.pend _ (by simp)).1 | exact (hP3.build.pend _ (by simp)).1) (by simp; omega) ?_; intro A4' c4' w4 z4 hP4 Hz4 hl4))
              all_goals
                go_wp2
              all_goals
                have ho4 := hP4.out
                go_roundw
                case rel =>
                  have hl5 : (ys.drop ys.length).length = ys.length - ys.length := by simp
                  exact ⟨⟨_, c1 - ys.length, [], A4', c4', z4, rfl, rfl, Rd.nil _ _, Nat.zero_le _, by omega, Nat.zero_le _, ho4, by rw [Hz4.out, Hz3.out, Hz2.out, Hz1.out, Hsu.out, ← Htt.out, Hst.out]; simp [List.append_assoc]⟩⟩
                case measure => simp [slen]; omega
      · have hy0 : ys = [] := List.length_eq_zero_iff.1 (by omega)
        have Hy0 := Lib.hid hy0
        clear hy0
        go_wp2_with (at_builtin; refine wpList_app_str rfl _ _ rfl A2 c2 zs.length zs rfl (by rfl) ho lastW (by rfl) (by simp [lastW]; omega) ?_; intro A4' c4' w4 z4 ho4 hz4; have Hz4 := Lib.hid hz4; clear hz4)
        go_ret
        have he : z4 = total := by rw [Hz4.out, ← Htt.out, Hy0.out, chunkW_nil]; rfl
        subst he
        exact ⟨A4', c4', rfl, ho4.row, ho4.chg, ho4.foot⟩
end Go.Proofs.YtkbmajkoojgkpaaDoor
