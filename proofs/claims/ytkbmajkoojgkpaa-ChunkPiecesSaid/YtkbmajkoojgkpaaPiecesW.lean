/- ChunkPieces's walk: however bytes are cut, the same comes of them. -/
import Derived.Test.YtkbmajkoojgkpaaPieces2
import Derived.Test.YtkbmajkoojgkpaaNone
import Derived.Test.YtkbmajkoojgkpaaRegion
namespace Go.Proofs.Ytkbmajkoojgkpaa
open Go.RowKit

theorem Body.drew {w : World} {g : Nat} {v : Value} {s : St} (h : Body w g v s) : Body w.drew g v s := h.chg ((Chg.refl w (fun _ => False)).drew) (fun _ _ => id)
theorem new_far {w w1 : World} {v : Value} (h : NewFoot w1 (.slice none 0 0) v) (hs : w.heap.size ≤ w1.heap.size) {k : Nat} (hk : k < w.heap.size) : ¬ v.ownBlock = some k := newFoot_nil h (by omega)

set_option maxHeartbeats 4000000 in
theorem piecesW (A : Option Addr) (n c : Nat) (xs : List UInt8) (B : Option Addr) (m d : Nat) (zs : List Int) (B2 : Option Addr) (m2 d2 : Nat) (zs2 : List Int) (w : World)
    (hn : xs.length = n) (hx : Rd w A xs) (hnc : n ≤ c) (hcm : c ≤ 9223372036854775807) (hm : zs.length = m) (hz : RdI w B zs) (hm2 : zs2.length = m2) (hz2 : RdI w B2 zs2) :
    Calls Try.prog 4 #[.slice A n c, .slice B m d, .slice B2 m2 d2] w fun e w' => e = .returned (.bool true) ∧ Chg w w' (fun _ => False) := by
  have hxd : RdD w (fun k => k < w.heap.size) A xs := ⟨hx, fun ad e hn => by
    obtain ⟨ad', e', hlt, _⟩ := hx.at hn
    rw [e] at e'
    injection e' with e'
    subst e'
    exact hlt⟩
  have hpart : 4096 < n ∨ n ≤ 4096 ∧ 100 < m ∨ n ≤ 4096 ∧ m ≤ 100 ∧ 100 < m2 ∨ n ≤ 4096 ∧ m ≤ 100 ∧ m2 ≤ 100 := by omega
  rcases hpart with h1 | ⟨h1, h2⟩ | ⟨h1, h2, h3⟩ | ⟨h1, h2, h3⟩
  · go_enter Try.func4, Try.ntmps4
    go_wp2_with (go_at_call 7; refine (begun_any _).mono ?_; rintro e w1 ⟨rfl, hc1⟩)
    go_ret
    exact ⟨rfl, hc1⟩
  · go_enter Try.func4, Try.ntmps4
    go_wp2_with (go_at_call 7; refine (begun_any _).mono ?_; rintro e w1 ⟨rfl, hc1⟩)
    go_ret
    exact ⟨rfl, hc1⟩
  · go_enter Try.func4, Try.ntmps4
    go_wp2_with (go_at_call 7; refine (begun_any _).mono ?_; rintro e w1 ⟨rfl, hc1⟩)
    go_ret
    exact ⟨rfl, hc1⟩
  · subst hn
    go_enter Try.func4, Try.ntmps4
    go_wp2_with fail
    refine (begun_any _).mono ?_
    rintro e w1 ⟨rfl, hc1⟩
    have hs1 := hc1.size
    go_wp2_with fail
    refine (chunked_any _).mono ?_
    rintro e w2 ⟨g1, rfl, hg1, ha2, hc2⟩
    have hs2 := hc2.size
    have hl1 := ha2.blk.lt
    go_wp2_with fail
    refine (chunked_any _).mono ?_
    rintro e w3 ⟨g2, rfl, hg2, hb3, hc3⟩
    have hs3 := hc3.size
    have hl2 := hb3.blk.lt
    have ha3 := ha2.chg hc3 (fun _ _ => id)
    have hc03 : Chg w w3 (fun _ => False) := (hc1.trans hc2 (fun _ _ => id)).trans hc3 (fun _ _ => id)
    have hx3 := hxd.chg hc03 (fun _ _ => id)
    go_wp2_with fail
    refine (cut_any A _ c xs (fun k => k < w.heap.size) B m d zs w3 rfl hx3 hnc hcm hm (hz.chg hc03) (by omega) (by omega)).mono ?_
    rintro e w4 ⟨A4, c4, us, ps, rfl, hrow4, hpcs4, hflat, hlen4, hc4, hf4⟩
    have HF := Lib.hid hflat
    clear hflat
    have hs4 := hc4.size
    have ha4 := ha3.chg hc4 (fun _ _ => id)
    have hb4 := hb3.chg hc4 (fun _ _ => id)
    go_wp2_with fail
    refine (pieces_any g1 _ _ A4 _ c4 us ps (fun k => k < w.heap.size) w4 ha4 st0_ok (by decide) (RdV.of_row hrow4) rfl hpcs4 (by rw [HF.out]; omega) (by omega) (fun k hk => ⟨by rintro (h | h); (omega); (simp [Value.ownBlock] at h), by omega⟩) (fun ad e _ => by
      rintro (h | h)
      · exact new_far hf4 (Nat.le_refl _) (k := g1) (by omega) (by rw [← h, e]; rfl)
      · simp [Value.ownBlock] at h)).mono ?_
    rintro e w5 ⟨rfl, va, ha5, hc5, hf5⟩
    rw [piecesF_eq ps 0 (st0 2 0) (by decide) rfl, HF.out]
    rw [piecesF_eq ps 0 (st0 2 0) (by decide) rfl, HF.out] at ha5
    simp only [Int.zero_add] at ha5 ⊢
    have hgot : (feedL (st0 2 0) xs).2.told.got.length ≤ 4096 := by
      have := feedF_ok st0_ok (by decide) xs
      rw [feedF_eq (by decide)] at this
      exact this.g
    generalize hN : (if (feedL (st0 2 0) xs).2.bad = 0 then ((feedL (st0 2 0) xs).1 : Int) else 0) = N
    generalize hE : (feedL (st0 2 0) xs).2.bad = E at hN ⊢
    generalize hS : (feedL (st0 2 0) xs).2.told = s1 at hgot ha5 ⊢
    have HN := Lib.hid hN
    have HE := Lib.hid hE
    have HS := Lib.hid hS
    clear hN hE hS
    have hs5 := hc5.size
    have hb5 := hb4.chg hc5 (fun k hk hk2 => by
      rcases hk with rfl | hk
      · rcases hk2 with h | h
        · omega
        · simp [Value.ownBlock] at h
      · simp [Value.ownBlock] at hk)
    have hc05 : Chg w w5 (fun _ => False) := (hc03.trans hc4 (fun _ _ => id)).trans hc5 (fun i hi h => by
      rcases h with h | h
      · omega
      · simp [Value.ownBlock] at h)
    have hx5 := hxd.chg hc05 (fun _ _ => id)
    go_wp2_with fail
    refine (cut_any A _ c xs (fun k => k < w.heap.size) B2 m2 d2 zs2 w5 rfl hx5 hnc hcm hm2 (hz2.chg hc05) (by omega) (by omega)).mono ?_
    rintro e w6 ⟨A6, c6, us6, ps6, rfl, hrow6, hpcs6, hflat6, hlen6, hc6, hf6⟩
    have HF6 := Lib.hid hflat6
    clear hflat6
    have hs6 := hc6.size
    have ha6 := ha5.chg hc6 (fun _ _ => id)
    have hb6 := hb5.chg hc6 (fun _ _ => id)
    go_wp2_with fail
    refine (pieces_any g2 _ _ A6 _ c6 us6 ps6 (fun k => k < w.heap.size) w6 hb6 st0_ok (by decide) (RdV.of_row hrow6) rfl hpcs6 (by rw [HF6.out]; omega) (by omega) (fun k hk => ⟨by rintro (h | h); (omega); (simp [Value.ownBlock] at h), by omega⟩) (fun ad e _ => by
      rintro (h | h)
      · exact new_far hf6 (Nat.le_refl _) (k := g2) (by omega) (by rw [← h, e]; rfl)
      · simp [Value.ownBlock] at h)).mono ?_
    rintro e w7 ⟨rfl, vb, hb7, hc7, hf7⟩
    rw [piecesF_eq ps6 0 (st0 2 0) (by decide) rfl, HF6.out]
    rw [piecesF_eq ps6 0 (st0 2 0) (by decide) rfl, HF6.out] at hb7
    simp only [Int.zero_add, HE.out, HN.out, HS.out] at hb7 ⊢
    have hs7 := hc7.size
    have ha7 := ha6.chg hc7 (fun k hk hk2 => by
      rcases hk2 with rfl | hk2
      · rcases hk with h | h
        · omega
        · exact new_far hf5 (Nat.le_refl _) (k := k) (by omega) h
      · simp [Value.ownBlock] at hk2)
    have hc07 : Chg w w7 (fun _ => False) := (hc05.trans hc6 (fun _ _ => id)).trans hc7 (fun i hi h => by
      rcases h with h | h
      · omega
      · simp [Value.ownBlock] at h)
    clear hx3 hx5 ha2 ha3 ha4 ha5 ha6 hb3 hb4 hb5 hb6 hpcs4 hpcs6 hrow4 hrow6 hc1 hc2 hc3 hc4 hc5 hc6 hc7 hf4 hf5 hf6 hf7 hc03 hc05 hxd hz hz2 hx
    have hq : (E == E) = true := by simp
    have hnn : (N == N) = true := by simp
    have hd : ((s1.next == 9) == (s1.next == 9)) = true := by simp
    have hstr : ((str s1.got).toList == (str s1.got).toList) = true := by simp
    by_cases hE0 : E = 0
    · have e1 : (E != 0) = false := by simp [hE0]
      have HE0 := Lib.hid hE0
      clear hE0
      go_wp2_with fail
      refine wp_region_held_drew (S := fun w' => Body w' g1 va s1 ∧ Body w' g2 vb s1 ∧ Chg w w' (fun _ => False)) (by kernel_rfl) ⟨ha7.drew, hb7.drew, hc07.drew⟩ (fun hHeld => ?_)
      refine wpAnyH_take (i := 0) (oi := { dst := some 46, op := Go.Op.move (Go.Operand.tmp 10), type := 31, pos := _, after := _, guard := none }) (v := ?v1) rfl (by kernel_rfl) (by kernel_rfl) (by kernel_rfl) (fun _ _ _ h => h) (Or.inl ⟨by rfl, ?y1⟩) (by assumption) ?r1
      case y1 => (intro wS hSw; (try dsimp only at hSw); go_simp; (try with_reducible rfl))
      try simp only [Act.put, List.setIfInBounds_toArray, List.set_cons_zero, List.set_cons_succ]
      refine wpAnyH_take (i := 1) (oi := { dst := some 47, op := Go.Op.move (Go.Operand.tmp 12), type := 31, pos := _, after := _, guard := none }) (v := ?v2) rfl (by kernel_rfl) (by kernel_rfl) (by kernel_rfl) (fun _ _ _ h => h) (Or.inl ⟨by rfl, ?y2⟩) (by assumption) ?r2
      case y2 => (intro wS hSw; (try dsimp only at hSw); go_simp; (try with_reducible rfl))
      try simp only [Act.put, List.setIfInBounds_toArray, List.set_cons_zero, List.set_cons_succ]
      refine wpAnyH_take (i := 2) (oi := { dst := some 48, op := Go.Op.binOp Go.BinOp.eql 31 (Go.Operand.tmp 46) (Go.Operand.tmp 47) 31, type := 4, pos := _, after := _, guard := none }) (v := ?v3) rfl (by kernel_rfl) (by kernel_rfl) (by kernel_rfl) (fun _ _ _ h => h) (Or.inl ⟨by rfl, ?y3⟩) (by assumption) ?r3
      case y3 => (intro wS hSw; (try dsimp only at hSw); go_simp; (try with_reducible rfl))
      try simp only [Act.put, List.setIfInBounds_toArray, List.set_cons_zero, List.set_cons_succ]
      refine wpAnyH_take (i := 3) (oi := { dst := some 49, op := Go.Op.move (Go.Operand.tmp 48), type := 4, pos := _, after := _, guard := none }) (v := ?v4) rfl (by kernel_rfl) (by kernel_rfl) (by kernel_rfl) (fun _ _ _ h => h) (Or.inl ⟨by rfl, ?y4⟩) (by assumption) ?r4
      case y4 => (intro wS hSw; (try dsimp only at hSw); go_simp; (try with_reducible rfl))
      try simp only [Act.put, List.setIfInBounds_toArray, List.set_cons_zero, List.set_cons_succ]
      refine wpAnyH_take (i := 4) (oi := { dst := some 50, op := Go.Op.move (Go.Operand.tmp 10), type := 31, pos := _, after := _, guard := some (3, true) }) (v := ?v5) rfl (by kernel_rfl) (by kernel_rfl) (by kernel_rfl) (fun _ _ _ h => h) (Or.inl ⟨by rfl, ?y5⟩) (by assumption) ?r5
      case y5 => (intro wS hSw; (try dsimp only at hSw); go_simp; (try with_reducible rfl))
      try simp only [Act.put, List.setIfInBounds_toArray, List.set_cons_zero, List.set_cons_succ]
      refine wpAnyH_take (i := 5) (oi := { dst := some 51, op := Go.Op.binOp Go.BinOp.neq 31 (Go.Operand.tmp 50) (Go.Operand.const (Go.Value.int Go.IntKind.i64 0)) 31, type := 4, pos := _, after := _, guard := some (3, true) }) (v := ?v6) rfl (by kernel_rfl) (by kernel_rfl) (by kernel_rfl) (fun _ _ _ h => h) (Or.inl ⟨by rfl, ?y6⟩) (by assumption) ?r6
      case y6 => (intro wS hSw; (try dsimp only at hSw); go_simp; (try with_reducible rfl))
      try simp only [Act.put, List.setIfInBounds_toArray, List.set_cons_zero, List.set_cons_succ]
      refine wpAnyH_take (i := 6) (oi := { dst := some 52, op := Go.Op.move (Go.Operand.tmp 51), type := 4, pos := _, after := _, guard := some (3, true) }) (v := ?v7) rfl (by kernel_rfl) (by kernel_rfl) (by kernel_rfl) (fun _ _ _ h => h) (Or.inl ⟨by rfl, ?y7⟩) (by assumption) ?r7
      case y7 => (intro wS hSw; (try dsimp only at hSw); go_simp; (try with_reducible rfl))
      try simp only [Act.put, List.setIfInBounds_toArray, List.set_cons_zero, List.set_cons_succ]
      refine wpAnyH_take (i := 7) (oi := { dst := some 53, op := Go.Op.move (Go.Operand.tmp 9), type := 3, pos := _, after := _, guard := some (6, false) }) (v := ?v8) rfl (by kernel_rfl) (by kernel_rfl) (by kernel_rfl) (fun _ _ _ h => h) (Or.inl ⟨by rfl, ?y8⟩) (by assumption) ?r8
      case y8 => (intro wS hSw; (try dsimp only at hSw); go_simp; (try with_reducible rfl))
      try simp only [Act.put, List.setIfInBounds_toArray, List.set_cons_zero, List.set_cons_succ]
      refine wpAnyH_take (i := 8) (oi := { dst := some 54, op := Go.Op.move (Go.Operand.tmp 11), type := 3, pos := _, after := _, guard := some (6, false) }) (v := ?v9) rfl (by kernel_rfl) (by kernel_rfl) (by kernel_rfl) (fun _ _ _ h => h) (Or.inl ⟨by rfl, ?y9⟩) (by assumption) ?r9
      case y9 => (intro wS hSw; (try dsimp only at hSw); go_simp; (try with_reducible rfl))
      try simp only [Act.put, List.setIfInBounds_toArray, List.set_cons_zero, List.set_cons_succ]
      refine wpAnyH_take (i := 9) (oi := { dst := some 55, op := Go.Op.binOp Go.BinOp.eql 3 (Go.Operand.tmp 53) (Go.Operand.tmp 54) 3, type := 4, pos := _, after := _, guard := some (6, false) }) (v := ?v10) rfl (by kernel_rfl) (by kernel_rfl) (by kernel_rfl) (fun _ _ _ h => h) (Or.inl ⟨by rfl, ?y10⟩) (by assumption) ?r10
      case y10 => (intro wS hSw; (try dsimp only at hSw); go_simp; (try with_reducible rfl))
      try simp only [Act.put, List.setIfInBounds_toArray, List.set_cons_zero, List.set_cons_succ]
      refine wpAnyH_take (i := 10) (oi := { dst := some 56, op := Go.Op.pick (Go.Operand.tmp 52) (Go.Operand.const (Go.Value.bool true)) (Go.Operand.tmp 55), type := 4, pos := _, after := _, guard := some (3, true) }) (v := ?v11) rfl (by kernel_rfl) (by kernel_rfl) (by kernel_rfl) (fun _ _ _ h => h) (Or.inl ⟨by rfl, ?y11⟩) (by assumption) ?r11
      case y11 => (intro wS hSw; (try dsimp only at hSw); go_simp; (try with_reducible rfl))
      try simp only [Act.put, List.setIfInBounds_toArray, List.set_cons_zero, List.set_cons_succ]
      refine wpAnyH_take (i := 11) (oi := { dst := some 57, op := Go.Op.pick (Go.Operand.tmp 49) (Go.Operand.tmp 56) (Go.Operand.const (Go.Value.bool false)), type := 4, pos := _, after := _, guard := none }) (v := ?v12) rfl (by kernel_rfl) (by kernel_rfl) (by kernel_rfl) (fun _ _ _ h => h) (Or.inl ⟨by rfl, ?y12⟩) (by assumption) ?r12
      case y12 => (intro wS hSw; (try dsimp only at hSw); go_simp; (try with_reducible rfl))
      try simp only [Act.put, List.setIfInBounds_toArray, List.set_cons_zero, List.set_cons_succ]
      refine wpAnyH_take (i := 12) (oi := { dst := some 58, op := Go.Op.move (Go.Operand.tmp 57), type := 4, pos := _, after := _, guard := none }) (v := ?v13) rfl (by kernel_rfl) (by kernel_rfl) (by kernel_rfl) (fun _ _ _ h => h) (Or.inl ⟨by rfl, ?y13⟩) (by assumption) ?r13
      case y13 => (intro wS hSw; (try dsimp only at hSw); go_simp; (try with_reducible rfl))
      try simp only [Act.put, List.setIfInBounds_toArray, List.set_cons_zero, List.set_cons_succ]
      refine wpAnyH_take (i := 13) (oi := { dst := some 59, op := Go.Op.move (Go.Operand.tmp 7), type := 25, pos := _, after := _, guard := some (12, true) }) (v := ?v14) rfl (by kernel_rfl) (by kernel_rfl) (by kernel_rfl) (fun _ _ _ h => h) (Or.inl ⟨by rfl, ?y14⟩) (by assumption) ?r14
      case y14 => (intro wS hSw; (try dsimp only at hSw); go_simp; (try with_reducible rfl))
      try simp only [Act.put, List.setIfInBounds_toArray, List.set_cons_zero, List.set_cons_succ]
      refine wpAnyH_take (i := 15) (oi := { dst := some 61, op := Go.Op.move (Go.Operand.tmp 8), type := 25, pos := _, after := _, guard := some (12, true) }) (v := ?v15) rfl (by kernel_rfl) (by kernel_rfl) (by kernel_rfl) (fun _ _ _ h => h) (Or.inl ⟨by rfl, ?y15⟩) (by assumption) ?r15
      case y15 => (intro wS hSw; (try dsimp only at hSw); go_simp; (try with_reducible rfl))
      try simp only [Act.put, List.setIfInBounds_toArray, List.set_cons_zero, List.set_cons_succ]
      refine wpAnyH_ready (rs := [14]) (by kernel_rfl) (by simp) ?_
      refine AllReadyH.cons (o := { dst := some 60, op := Go.Op.call { callee := Go.Callee.value (Go.Operand.func 10), args := #[Go.Operand.tmp 59], argTypes := #[25] }, type := 4, pos := _, after := _, guard := some (12, true) }) rfl (fun K hK => ?_) AllReadyH.nil
      go_simp
      refine (done_any g1 va s1 _ hHeld.1).mono ?_
      rintro e wd ⟨rfl, rfl⟩
      go_wp2_with fail
      refine hK.out _ _ (hHeld) (fun hHeld => ?_)
      clear hK K
      try simp only [Act.put, List.setIfInBounds_toArray, List.set_cons_zero, List.set_cons_succ]
      refine wpAnyH_ready (rs := [16]) (by kernel_rfl) (by simp) ?_
      refine AllReadyH.cons (o := { dst := some 62, op := Go.Op.call { callee := Go.Callee.value (Go.Operand.func 10), args := #[Go.Operand.tmp 61], argTypes := #[25] }, type := 4, pos := _, after := _, guard := some (12, true) }) rfl (fun K hK => ?_) AllReadyH.nil
      go_simp
      refine (done_any g2 vb s1 _ hHeld.2.1).mono ?_
      rintro e wd ⟨rfl, rfl⟩
      go_wp2_with fail
      refine hK.out _ _ (hHeld) (fun hHeld => ?_)
      clear hK K
      try simp only [Act.put, List.setIfInBounds_toArray, List.set_cons_zero, List.set_cons_succ]
      refine wpAnyH_take (i := 17) (oi := { dst := some 63, op := Go.Op.binOp Go.BinOp.eql 4 (Go.Operand.tmp 60) (Go.Operand.tmp 62) 4, type := 4, pos := _, after := _, guard := some (12, true) }) (v := ?v16) rfl (by kernel_rfl) (by kernel_rfl) (by kernel_rfl) (fun _ _ _ h => h) (Or.inl ⟨by rfl, ?y16⟩) (by assumption) ?r16
      case y16 => (intro wS hSw; (try dsimp only at hSw); go_simp; (try with_reducible rfl))
      try simp only [Act.put, List.setIfInBounds_toArray, List.set_cons_zero, List.set_cons_succ]
      refine wpAnyH_take (i := 18) (oi := { dst := some 64, op := Go.Op.pick (Go.Operand.tmp 58) (Go.Operand.tmp 63) (Go.Operand.const (Go.Value.bool false)), type := 4, pos := _, after := _, guard := none }) (v := ?v17) rfl (by kernel_rfl) (by kernel_rfl) (by kernel_rfl) (fun _ _ _ h => h) (Or.inl ⟨by rfl, ?y17⟩) (by assumption) ?r17
      case y17 => (intro wS hSw; (try dsimp only at hSw); go_simp; (try with_reducible rfl))
      try simp only [Act.put, List.setIfInBounds_toArray, List.set_cons_zero, List.set_cons_succ]
      refine wpAnyH_take (i := 19) (oi := { dst := some 65, op := Go.Op.move (Go.Operand.tmp 64), type := 4, pos := _, after := _, guard := none }) (v := ?v18) rfl (by kernel_rfl) (by kernel_rfl) (by kernel_rfl) (fun _ _ _ h => h) (Or.inl ⟨by rfl, ?y18⟩) (by assumption) ?r18
      case y18 => (intro wS hSw; (try dsimp only at hSw); go_simp; (try with_reducible rfl))
      try simp only [Act.put, List.setIfInBounds_toArray, List.set_cons_zero, List.set_cons_succ]
      refine wpAnyH_take (i := 20) (oi := { dst := some 66, op := Go.Op.move (Go.Operand.tmp 7), type := 25, pos := _, after := _, guard := some (19, true) }) (v := ?v19) rfl (by kernel_rfl) (by kernel_rfl) (by kernel_rfl) (fun _ _ _ h => h) (Or.inl ⟨by rfl, ?y19⟩) (by assumption) ?r19
      case y19 => (intro wS hSw; (try dsimp only at hSw); go_simp; (try with_reducible rfl))
      try simp only [Act.put, List.setIfInBounds_toArray, List.set_cons_zero, List.set_cons_succ]
      refine wpAnyH_take (i := 23) (oi := { dst := some 69, op := Go.Op.move (Go.Operand.tmp 8), type := 25, pos := _, after := _, guard := some (19, true) }) (v := ?v20) rfl (by kernel_rfl) (by kernel_rfl) (by kernel_rfl) (fun _ _ _ h => h) (Or.inl ⟨by rfl, ?y20⟩) (by assumption) ?r20
      case y20 => (intro wS hSw; (try dsimp only at hSw); go_simp; (try with_reducible rfl))
      try simp only [Act.put, List.setIfInBounds_toArray, List.set_cons_zero, List.set_cons_succ]
      refine wpAnyH_ready (rs := [21]) (by kernel_rfl) (by simp) ?_
      refine AllReadyH.cons (o := { dst := some 67, op := Go.Op.call { callee := Go.Callee.value (Go.Operand.func 11), args := #[Go.Operand.tmp 66], argTypes := #[25] }, type := 27, pos := _, after := _, guard := some (19, true) }) rfl (fun K hK => ?_) AllReadyH.nil
      go_simp
      refine (data_any g1 va s1 _ hHeld.1 (by omega)).mono ?_
      rintro e wA ⟨dA, cA, rfl, hrA, hcA, hfA⟩
      go_wp2_with fail
      refine hK.out _ _ (⟨hHeld.1.chg hcA (fun _ _ => id), hHeld.2.1.chg hcA (fun _ _ => id), hHeld.2.2.trans hcA (fun _ _ => id)⟩) (fun hHeld => ?_)
      clear hK K
      try simp only [Act.put, List.setIfInBounds_toArray, List.set_cons_zero, List.set_cons_succ]
      refine wpAnyH_stronger (S' := fun w' => (Body w' g1 va s1 ∧ Body w' g2 vb s1 ∧ Chg w w' (fun _ => False)) ∧ Row w' (.slice dA s1.got.length cA) s1.got) (fun _ h => h.1) _ _ _ _ ?_
      have hHeld2 : (Body wA g1 va s1 ∧ Body wA g2 vb s1 ∧ Chg w wA (fun _ => False)) ∧ Row wA (.slice dA s1.got.length cA) s1.got := ⟨hHeld, hrA⟩
      clear hHeld
      refine wpAnyH_take (i := 22) (oi := { dst := some 68, op := Go.Op.convert 27 9 (Go.Operand.tmp 67), type := 9, pos := _, after := _, guard := some (19, true) }) (v := ?v21) rfl (by kernel_rfl) (by kernel_rfl) (by kernel_rfl) (fun _ _ _ h => h) (Or.inl ⟨by rfl, ?y21⟩) (by assumption) ?r21
      case y21 => (intro wS hSw; (try dsimp only at hSw); have hcv := conv_rd wS dA cA _ s1.got rfl (Rd.of_row hSw.2); go_simp; (try with_reducible rfl))
      try simp only [Act.put, List.setIfInBounds_toArray, List.set_cons_zero, List.set_cons_succ]
      refine wpAnyH_ready (rs := [24]) (by kernel_rfl) (by simp) ?_
      refine AllReadyH.cons (o := { dst := some 70, op := Go.Op.call { callee := Go.Callee.value (Go.Operand.func 11), args := #[Go.Operand.tmp 69], argTypes := #[25] }, type := 27, pos := _, after := _, guard := some (19, true) }) rfl (fun K hK => ?_) AllReadyH.nil
      go_simp
      refine (data_any g2 vb s1 _ hHeld2.1.2.1 (by omega)).mono ?_
      rintro e wB ⟨dB, cB, rfl, hrB, hcB, hfB⟩
      go_wp2_with fail
      refine hK.out _ _ (⟨⟨hHeld2.1.1.chg hcB (fun _ _ => id), hHeld2.1.2.1.chg hcB (fun _ _ => id), hHeld2.1.2.2.trans hcB (fun _ _ => id)⟩, hHeld2.2.chg hcB (fun _ _ => id)⟩) (fun hHeld => ?_)
      clear hK K
      try simp only [Act.put, List.setIfInBounds_toArray, List.set_cons_zero, List.set_cons_succ]
      refine wpAnyH_stronger (S' := fun w' => ((Body w' g1 va s1 ∧ Body w' g2 vb s1 ∧ Chg w w' (fun _ => False)) ∧ Row w' (.slice dA s1.got.length cA) s1.got) ∧ Row w' (.slice dB s1.got.length cB) s1.got) (fun _ h => h.1) _ _ _ _ ?_
      have hHeld3 : ((Body wB g1 va s1 ∧ Body wB g2 vb s1 ∧ Chg w wB (fun _ => False)) ∧ Row wB (.slice dA s1.got.length cA) s1.got) ∧ Row wB (.slice dB s1.got.length cB) s1.got := ⟨hHeld, hrB⟩
      clear hHeld hHeld2
      refine wpAnyH_take (i := 25) (oi := { dst := some 71, op := Go.Op.convert 27 9 (Go.Operand.tmp 70), type := 9, pos := _, after := _, guard := some (19, true) }) (v := ?v22) rfl (by kernel_rfl) (by kernel_rfl) (by kernel_rfl) (fun _ _ _ h => h) (Or.inl ⟨by rfl, ?y22⟩) (by assumption) ?r22
      case y22 => (intro wS hSw; (try dsimp only at hSw); have hcv := conv_rd wS dB cB _ s1.got rfl (Rd.of_row hSw.2); go_simp; (try with_reducible rfl))
      try simp only [Act.put, List.setIfInBounds_toArray, List.set_cons_zero, List.set_cons_succ]
      refine wpAnyH_take (i := 26) (oi := { dst := some 72, op := Go.Op.binOp Go.BinOp.eql 9 (Go.Operand.tmp 68) (Go.Operand.tmp 71) 9, type := 4, pos := _, after := _, guard := some (19, true) }) (v := ?v23) rfl (by kernel_rfl) (by kernel_rfl) (by kernel_rfl) (fun _ _ _ h => h) (Or.inl ⟨by rfl, ?y23⟩) (by assumption) ?r23
      case y23 => (intro wS hSw; (try dsimp only at hSw); go_simp; (try with_reducible rfl))
      try simp only [Act.put, List.setIfInBounds_toArray, List.set_cons_zero, List.set_cons_succ]
      refine wpAnyH_take (i := 27) (oi := { dst := some 73, op := Go.Op.pick (Go.Operand.tmp 65) (Go.Operand.tmp 72) (Go.Operand.const (Go.Value.bool false)), type := 4, pos := _, after := _, guard := none }) (v := ?v24) rfl (by kernel_rfl) (by kernel_rfl) (by kernel_rfl) (fun _ _ _ h => h) (Or.inl ⟨by rfl, ?y24⟩) (by assumption) ?r24
      case y24 => (intro wS hSw; (try dsimp only at hSw); go_simp; (try with_reducible rfl))
      try simp only [Act.put, List.setIfInBounds_toArray, List.set_cons_zero, List.set_cons_succ]
      refine wpAnyH_take (i := 28) (oi := { dst := some 6, op := Go.Op.assign (Go.Operand.tmp 73), type := 4, pos := _, after := _, guard := none }) (v := ?v25) rfl (by kernel_rfl) (by kernel_rfl) (by kernel_rfl) (fun _ _ _ h => h) (Or.inl ⟨by rfl, ?y25⟩) (by assumption) ?r25
      case y25 => (intro wS hSw; (try dsimp only at hSw); go_simp; (try with_reducible rfl))
      try simp only [Act.put, List.setIfInBounds_toArray, List.set_cons_zero, List.set_cons_succ]
      refine wpAnyH_done (by kernel_rfl) ?_ _
      go_wp2
      go_ret
      exact ⟨ret_true (by first | rfl | simp), hHeld3.1.1.2.2⟩
    · have e1 : (E != 0) = true := by simp [hE0]
      have HE0 := Lib.hid hE0
      clear hE0
      go_wp2_with fail
      refine wp_region_held_drew (S := fun w' => Body w' g1 va s1 ∧ Body w' g2 vb s1 ∧ Chg w w' (fun _ => False)) (by kernel_rfl) ⟨ha7.drew, hb7.drew, hc07.drew⟩ (fun hHeld => ?_)
      refine wpAnyH_take (i := 0) (oi := { dst := some 46, op := Go.Op.move (Go.Operand.tmp 10), type := 31, pos := _, after := _, guard := none }) (v := ?v26) rfl (by kernel_rfl) (by kernel_rfl) (by kernel_rfl) (fun _ _ _ h => h) (Or.inl ⟨by rfl, ?y26⟩) (by assumption) ?r26
      case y26 => (intro wS hSw; (try dsimp only at hSw); go_simp; (try with_reducible rfl))
      try simp only [Act.put, List.setIfInBounds_toArray, List.set_cons_zero, List.set_cons_succ]
      refine wpAnyH_take (i := 1) (oi := { dst := some 47, op := Go.Op.move (Go.Operand.tmp 12), type := 31, pos := _, after := _, guard := none }) (v := ?v27) rfl (by kernel_rfl) (by kernel_rfl) (by kernel_rfl) (fun _ _ _ h => h) (Or.inl ⟨by rfl, ?y27⟩) (by assumption) ?r27
      case y27 => (intro wS hSw; (try dsimp only at hSw); go_simp; (try with_reducible rfl))
      try simp only [Act.put, List.setIfInBounds_toArray, List.set_cons_zero, List.set_cons_succ]
      refine wpAnyH_take (i := 2) (oi := { dst := some 48, op := Go.Op.binOp Go.BinOp.eql 31 (Go.Operand.tmp 46) (Go.Operand.tmp 47) 31, type := 4, pos := _, after := _, guard := none }) (v := ?v28) rfl (by kernel_rfl) (by kernel_rfl) (by kernel_rfl) (fun _ _ _ h => h) (Or.inl ⟨by rfl, ?y28⟩) (by assumption) ?r28
      case y28 => (intro wS hSw; (try dsimp only at hSw); go_simp; (try with_reducible rfl))
      try simp only [Act.put, List.setIfInBounds_toArray, List.set_cons_zero, List.set_cons_succ]
      refine wpAnyH_take (i := 3) (oi := { dst := some 49, op := Go.Op.move (Go.Operand.tmp 48), type := 4, pos := _, after := _, guard := none }) (v := ?v29) rfl (by kernel_rfl) (by kernel_rfl) (by kernel_rfl) (fun _ _ _ h => h) (Or.inl ⟨by rfl, ?y29⟩) (by assumption) ?r29
      case y29 => (intro wS hSw; (try dsimp only at hSw); go_simp; (try with_reducible rfl))
      try simp only [Act.put, List.setIfInBounds_toArray, List.set_cons_zero, List.set_cons_succ]
      refine wpAnyH_take (i := 4) (oi := { dst := some 50, op := Go.Op.move (Go.Operand.tmp 10), type := 31, pos := _, after := _, guard := some (3, true) }) (v := ?v30) rfl (by kernel_rfl) (by kernel_rfl) (by kernel_rfl) (fun _ _ _ h => h) (Or.inl ⟨by rfl, ?y30⟩) (by assumption) ?r30
      case y30 => (intro wS hSw; (try dsimp only at hSw); go_simp; (try with_reducible rfl))
      try simp only [Act.put, List.setIfInBounds_toArray, List.set_cons_zero, List.set_cons_succ]
      refine wpAnyH_take (i := 5) (oi := { dst := some 51, op := Go.Op.binOp Go.BinOp.neq 31 (Go.Operand.tmp 50) (Go.Operand.const (Go.Value.int Go.IntKind.i64 0)) 31, type := 4, pos := _, after := _, guard := some (3, true) }) (v := ?v31) rfl (by kernel_rfl) (by kernel_rfl) (by kernel_rfl) (fun _ _ _ h => h) (Or.inl ⟨by rfl, ?y31⟩) (by assumption) ?r31
      case y31 => (intro wS hSw; (try dsimp only at hSw); go_simp; (try with_reducible rfl))
      try simp only [Act.put, List.setIfInBounds_toArray, List.set_cons_zero, List.set_cons_succ]
      refine wpAnyH_take (i := 6) (oi := { dst := some 52, op := Go.Op.move (Go.Operand.tmp 51), type := 4, pos := _, after := _, guard := some (3, true) }) (v := ?v32) rfl (by kernel_rfl) (by kernel_rfl) (by kernel_rfl) (fun _ _ _ h => h) (Or.inl ⟨by rfl, ?y32⟩) (by assumption) ?r32
      case y32 => (intro wS hSw; (try dsimp only at hSw); go_simp; (try with_reducible rfl))
      try simp only [Act.put, List.setIfInBounds_toArray, List.set_cons_zero, List.set_cons_succ]
      refine wpAnyH_take (i := 7) (oi := { dst := some 53, op := Go.Op.move (Go.Operand.tmp 9), type := 3, pos := _, after := _, guard := some (6, false) }) (v := undef) rfl (by kernel_rfl) (by kernel_rfl) (by kernel_rfl) (fun _ _ _ h => h) (Or.inr ⟨by rfl, rfl⟩) (by assumption) ?_
      try simp only [Act.put, List.setIfInBounds_toArray, List.set_cons_zero, List.set_cons_succ]
      refine wpAnyH_take (i := 8) (oi := { dst := some 54, op := Go.Op.move (Go.Operand.tmp 11), type := 3, pos := _, after := _, guard := some (6, false) }) (v := undef) rfl (by kernel_rfl) (by kernel_rfl) (by kernel_rfl) (fun _ _ _ h => h) (Or.inr ⟨by rfl, rfl⟩) (by assumption) ?_
      try simp only [Act.put, List.setIfInBounds_toArray, List.set_cons_zero, List.set_cons_succ]
      refine wpAnyH_take (i := 9) (oi := { dst := some 55, op := Go.Op.binOp Go.BinOp.eql 3 (Go.Operand.tmp 53) (Go.Operand.tmp 54) 3, type := 4, pos := _, after := _, guard := some (6, false) }) (v := undef) rfl (by kernel_rfl) (by kernel_rfl) (by kernel_rfl) (fun _ _ _ h => h) (Or.inr ⟨by rfl, rfl⟩) (by assumption) ?_
      try simp only [Act.put, List.setIfInBounds_toArray, List.set_cons_zero, List.set_cons_succ]
      refine wpAnyH_take (i := 10) (oi := { dst := some 56, op := Go.Op.pick (Go.Operand.tmp 52) (Go.Operand.const (Go.Value.bool true)) (Go.Operand.tmp 55), type := 4, pos := _, after := _, guard := some (3, true) }) (v := ?v33) rfl (by kernel_rfl) (by kernel_rfl) (by kernel_rfl) (fun _ _ _ h => h) (Or.inl ⟨by rfl, ?y33⟩) (by assumption) ?r33
      case y33 => (intro wS hSw; (try dsimp only at hSw); go_simp; (try with_reducible rfl))
      try simp only [Act.put, List.setIfInBounds_toArray, List.set_cons_zero, List.set_cons_succ]
      refine wpAnyH_take (i := 11) (oi := { dst := some 57, op := Go.Op.pick (Go.Operand.tmp 49) (Go.Operand.tmp 56) (Go.Operand.const (Go.Value.bool false)), type := 4, pos := _, after := _, guard := none }) (v := ?v34) rfl (by kernel_rfl) (by kernel_rfl) (by kernel_rfl) (fun _ _ _ h => h) (Or.inl ⟨by rfl, ?y34⟩) (by assumption) ?r34
      case y34 => (intro wS hSw; (try dsimp only at hSw); go_simp; (try with_reducible rfl))
      try simp only [Act.put, List.setIfInBounds_toArray, List.set_cons_zero, List.set_cons_succ]
      refine wpAnyH_take (i := 12) (oi := { dst := some 58, op := Go.Op.move (Go.Operand.tmp 57), type := 4, pos := _, after := _, guard := none }) (v := ?v35) rfl (by kernel_rfl) (by kernel_rfl) (by kernel_rfl) (fun _ _ _ h => h) (Or.inl ⟨by rfl, ?y35⟩) (by assumption) ?r35
      case y35 => (intro wS hSw; (try dsimp only at hSw); go_simp; (try with_reducible rfl))
      try simp only [Act.put, List.setIfInBounds_toArray, List.set_cons_zero, List.set_cons_succ]
      refine wpAnyH_take (i := 13) (oi := { dst := some 59, op := Go.Op.move (Go.Operand.tmp 7), type := 25, pos := _, after := _, guard := some (12, true) }) (v := ?v36) rfl (by kernel_rfl) (by kernel_rfl) (by kernel_rfl) (fun _ _ _ h => h) (Or.inl ⟨by rfl, ?y36⟩) (by assumption) ?r36
      case y36 => (intro wS hSw; (try dsimp only at hSw); go_simp; (try with_reducible rfl))
      try simp only [Act.put, List.setIfInBounds_toArray, List.set_cons_zero, List.set_cons_succ]
      refine wpAnyH_take (i := 15) (oi := { dst := some 61, op := Go.Op.move (Go.Operand.tmp 8), type := 25, pos := _, after := _, guard := some (12, true) }) (v := ?v37) rfl (by kernel_rfl) (by kernel_rfl) (by kernel_rfl) (fun _ _ _ h => h) (Or.inl ⟨by rfl, ?y37⟩) (by assumption) ?r37
      case y37 => (intro wS hSw; (try dsimp only at hSw); go_simp; (try with_reducible rfl))
      try simp only [Act.put, List.setIfInBounds_toArray, List.set_cons_zero, List.set_cons_succ]
      refine wpAnyH_ready (rs := [14]) (by kernel_rfl) (by simp) ?_
      refine AllReadyH.cons (o := { dst := some 60, op := Go.Op.call { callee := Go.Callee.value (Go.Operand.func 10), args := #[Go.Operand.tmp 59], argTypes := #[25] }, type := 4, pos := _, after := _, guard := some (12, true) }) rfl (fun K hK => ?_) AllReadyH.nil
      go_simp
      refine (done_any g1 va s1 _ hHeld.1).mono ?_
      rintro e wd ⟨rfl, rfl⟩
      go_wp2_with fail
      refine hK.out _ _ (hHeld) (fun hHeld => ?_)
      clear hK K
      try simp only [Act.put, List.setIfInBounds_toArray, List.set_cons_zero, List.set_cons_succ]
      refine wpAnyH_ready (rs := [16]) (by kernel_rfl) (by simp) ?_
      refine AllReadyH.cons (o := { dst := some 62, op := Go.Op.call { callee := Go.Callee.value (Go.Operand.func 10), args := #[Go.Operand.tmp 61], argTypes := #[25] }, type := 4, pos := _, after := _, guard := some (12, true) }) rfl (fun K hK => ?_) AllReadyH.nil
      go_simp
      refine (done_any g2 vb s1 _ hHeld.2.1).mono ?_
      rintro e wd ⟨rfl, rfl⟩
      go_wp2_with fail
      refine hK.out _ _ (hHeld) (fun hHeld => ?_)
      clear hK K
      try simp only [Act.put, List.setIfInBounds_toArray, List.set_cons_zero, List.set_cons_succ]
      refine wpAnyH_take (i := 17) (oi := { dst := some 63, op := Go.Op.binOp Go.BinOp.eql 4 (Go.Operand.tmp 60) (Go.Operand.tmp 62) 4, type := 4, pos := _, after := _, guard := some (12, true) }) (v := ?v38) rfl (by kernel_rfl) (by kernel_rfl) (by kernel_rfl) (fun _ _ _ h => h) (Or.inl ⟨by rfl, ?y38⟩) (by assumption) ?r38
      case y38 => (intro wS hSw; (try dsimp only at hSw); go_simp; (try with_reducible rfl))
      try simp only [Act.put, List.setIfInBounds_toArray, List.set_cons_zero, List.set_cons_succ]
      refine wpAnyH_take (i := 18) (oi := { dst := some 64, op := Go.Op.pick (Go.Operand.tmp 58) (Go.Operand.tmp 63) (Go.Operand.const (Go.Value.bool false)), type := 4, pos := _, after := _, guard := none }) (v := ?v39) rfl (by kernel_rfl) (by kernel_rfl) (by kernel_rfl) (fun _ _ _ h => h) (Or.inl ⟨by rfl, ?y39⟩) (by assumption) ?r39
      case y39 => (intro wS hSw; (try dsimp only at hSw); go_simp; (try with_reducible rfl))
      try simp only [Act.put, List.setIfInBounds_toArray, List.set_cons_zero, List.set_cons_succ]
      refine wpAnyH_take (i := 19) (oi := { dst := some 65, op := Go.Op.move (Go.Operand.tmp 64), type := 4, pos := _, after := _, guard := none }) (v := ?v40) rfl (by kernel_rfl) (by kernel_rfl) (by kernel_rfl) (fun _ _ _ h => h) (Or.inl ⟨by rfl, ?y40⟩) (by assumption) ?r40
      case y40 => (intro wS hSw; (try dsimp only at hSw); go_simp; (try with_reducible rfl))
      try simp only [Act.put, List.setIfInBounds_toArray, List.set_cons_zero, List.set_cons_succ]
      refine wpAnyH_take (i := 20) (oi := { dst := some 66, op := Go.Op.move (Go.Operand.tmp 7), type := 25, pos := _, after := _, guard := some (19, true) }) (v := ?v41) rfl (by kernel_rfl) (by kernel_rfl) (by kernel_rfl) (fun _ _ _ h => h) (Or.inl ⟨by rfl, ?y41⟩) (by assumption) ?r41
      case y41 => (intro wS hSw; (try dsimp only at hSw); go_simp; (try with_reducible rfl))
      try simp only [Act.put, List.setIfInBounds_toArray, List.set_cons_zero, List.set_cons_succ]
      refine wpAnyH_take (i := 23) (oi := { dst := some 69, op := Go.Op.move (Go.Operand.tmp 8), type := 25, pos := _, after := _, guard := some (19, true) }) (v := ?v42) rfl (by kernel_rfl) (by kernel_rfl) (by kernel_rfl) (fun _ _ _ h => h) (Or.inl ⟨by rfl, ?y42⟩) (by assumption) ?r42
      case y42 => (intro wS hSw; (try dsimp only at hSw); go_simp; (try with_reducible rfl))
      try simp only [Act.put, List.setIfInBounds_toArray, List.set_cons_zero, List.set_cons_succ]
      refine wpAnyH_ready (rs := [21]) (by kernel_rfl) (by simp) ?_
      refine AllReadyH.cons (o := { dst := some 67, op := Go.Op.call { callee := Go.Callee.value (Go.Operand.func 11), args := #[Go.Operand.tmp 66], argTypes := #[25] }, type := 27, pos := _, after := _, guard := some (19, true) }) rfl (fun K hK => ?_) AllReadyH.nil
      go_simp
      refine (data_any g1 va s1 _ hHeld.1 (by omega)).mono ?_
      rintro e wA ⟨dA, cA, rfl, hrA, hcA, hfA⟩
      go_wp2_with fail
      refine hK.out _ _ (⟨hHeld.1.chg hcA (fun _ _ => id), hHeld.2.1.chg hcA (fun _ _ => id), hHeld.2.2.trans hcA (fun _ _ => id)⟩) (fun hHeld => ?_)
      clear hK K
      try simp only [Act.put, List.setIfInBounds_toArray, List.set_cons_zero, List.set_cons_succ]
      refine wpAnyH_stronger (S' := fun w' => (Body w' g1 va s1 ∧ Body w' g2 vb s1 ∧ Chg w w' (fun _ => False)) ∧ Row w' (.slice dA s1.got.length cA) s1.got) (fun _ h => h.1) _ _ _ _ ?_
      have hHeld2 : (Body wA g1 va s1 ∧ Body wA g2 vb s1 ∧ Chg w wA (fun _ => False)) ∧ Row wA (.slice dA s1.got.length cA) s1.got := ⟨hHeld, hrA⟩
      clear hHeld
      refine wpAnyH_take (i := 22) (oi := { dst := some 68, op := Go.Op.convert 27 9 (Go.Operand.tmp 67), type := 9, pos := _, after := _, guard := some (19, true) }) (v := ?v43) rfl (by kernel_rfl) (by kernel_rfl) (by kernel_rfl) (fun _ _ _ h => h) (Or.inl ⟨by rfl, ?y43⟩) (by assumption) ?r43
      case y43 => (intro wS hSw; (try dsimp only at hSw); have hcv := conv_rd wS dA cA _ s1.got rfl (Rd.of_row hSw.2); go_simp; (try with_reducible rfl))
      try simp only [Act.put, List.setIfInBounds_toArray, List.set_cons_zero, List.set_cons_succ]
      refine wpAnyH_ready (rs := [24]) (by kernel_rfl) (by simp) ?_
      refine AllReadyH.cons (o := { dst := some 70, op := Go.Op.call { callee := Go.Callee.value (Go.Operand.func 11), args := #[Go.Operand.tmp 69], argTypes := #[25] }, type := 27, pos := _, after := _, guard := some (19, true) }) rfl (fun K hK => ?_) AllReadyH.nil
      go_simp
      refine (data_any g2 vb s1 _ hHeld2.1.2.1 (by omega)).mono ?_
      rintro e wB ⟨dB, cB, rfl, hrB, hcB, hfB⟩
      go_wp2_with fail
      refine hK.out _ _ (⟨⟨hHeld2.1.1.chg hcB (fun _ _ => id), hHeld2.1.2.1.chg hcB (fun _ _ => id), hHeld2.1.2.2.trans hcB (fun _ _ => id)⟩, hHeld2.2.chg hcB (fun _ _ => id)⟩) (fun hHeld => ?_)
      clear hK K
      try simp only [Act.put, List.setIfInBounds_toArray, List.set_cons_zero, List.set_cons_succ]
      refine wpAnyH_stronger (S' := fun w' => ((Body w' g1 va s1 ∧ Body w' g2 vb s1 ∧ Chg w w' (fun _ => False)) ∧ Row w' (.slice dA s1.got.length cA) s1.got) ∧ Row w' (.slice dB s1.got.length cB) s1.got) (fun _ h => h.1) _ _ _ _ ?_
      have hHeld3 : ((Body wB g1 va s1 ∧ Body wB g2 vb s1 ∧ Chg w wB (fun _ => False)) ∧ Row wB (.slice dA s1.got.length cA) s1.got) ∧ Row wB (.slice dB s1.got.length cB) s1.got := ⟨hHeld, hrB⟩
      clear hHeld hHeld2
      refine wpAnyH_take (i := 25) (oi := { dst := some 71, op := Go.Op.convert 27 9 (Go.Operand.tmp 70), type := 9, pos := _, after := _, guard := some (19, true) }) (v := ?v44) rfl (by kernel_rfl) (by kernel_rfl) (by kernel_rfl) (fun _ _ _ h => h) (Or.inl ⟨by rfl, ?y44⟩) (by assumption) ?r44
      case y44 => (intro wS hSw; (try dsimp only at hSw); have hcv := conv_rd wS dB cB _ s1.got rfl (Rd.of_row hSw.2); go_simp; (try with_reducible rfl))
      try simp only [Act.put, List.setIfInBounds_toArray, List.set_cons_zero, List.set_cons_succ]
      refine wpAnyH_take (i := 26) (oi := { dst := some 72, op := Go.Op.binOp Go.BinOp.eql 9 (Go.Operand.tmp 68) (Go.Operand.tmp 71) 9, type := 4, pos := _, after := _, guard := some (19, true) }) (v := ?v45) rfl (by kernel_rfl) (by kernel_rfl) (by kernel_rfl) (fun _ _ _ h => h) (Or.inl ⟨by rfl, ?y45⟩) (by assumption) ?r45
      case y45 => (intro wS hSw; (try dsimp only at hSw); go_simp; (try with_reducible rfl))
      try simp only [Act.put, List.setIfInBounds_toArray, List.set_cons_zero, List.set_cons_succ]
      refine wpAnyH_take (i := 27) (oi := { dst := some 73, op := Go.Op.pick (Go.Operand.tmp 65) (Go.Operand.tmp 72) (Go.Operand.const (Go.Value.bool false)), type := 4, pos := _, after := _, guard := none }) (v := ?v46) rfl (by kernel_rfl) (by kernel_rfl) (by kernel_rfl) (fun _ _ _ h => h) (Or.inl ⟨by rfl, ?y46⟩) (by assumption) ?r46
      case y46 => (intro wS hSw; (try dsimp only at hSw); go_simp; (try with_reducible rfl))
      try simp only [Act.put, List.setIfInBounds_toArray, List.set_cons_zero, List.set_cons_succ]
      refine wpAnyH_take (i := 28) (oi := { dst := some 6, op := Go.Op.assign (Go.Operand.tmp 73), type := 4, pos := _, after := _, guard := none }) (v := ?v47) rfl (by kernel_rfl) (by kernel_rfl) (by kernel_rfl) (fun _ _ _ h => h) (Or.inl ⟨by rfl, ?y47⟩) (by assumption) ?r47
      case y47 => (intro wS hSw; (try dsimp only at hSw); go_simp; (try with_reducible rfl))
      try simp only [Act.put, List.setIfInBounds_toArray, List.set_cons_zero, List.set_cons_succ]
      refine wpAnyH_done (by kernel_rfl) ?_ _
      go_wp2
      go_ret
      exact ⟨ret_true (by first | rfl | simp), hHeld3.1.1.2.2⟩
end Go.Proofs.Ytkbmajkoojgkpaa
