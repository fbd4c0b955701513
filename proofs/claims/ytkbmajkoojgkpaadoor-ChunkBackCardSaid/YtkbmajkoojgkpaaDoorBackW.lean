/- The walk of ChunkBack. -/
import Derived.Test.YtkbmajkoojgkpaaDoorWrite
import Derived.Test.YtkbmajkoojgkpaaDoorPlain8
import Derived.Test.YtkbmajkoojgkpaaDoorPieces
import Derived.Test.YtkbmajkoojgkpaaDoorTwin
import Derived.Test.YtkbmajkoojgkpaaDoorRegion
namespace Go.Proofs.YtkbmajkoojgkpaaDoor
open Go.RowKit

theorem Row.cap' {w : World} {A : Option Addr} {n c : Nat} {xs : List UInt8} (h : Row w (.slice A n c) xs) : n ≤ c ∧ c ≤ maxLen := by
  rcases h.form with ⟨e, rfl⟩ | ⟨g, cap, cur, e, hb, h1, h2, h3, h4⟩
  · injection e with e1 e2 e3
    subst e2 e3
    exact ⟨Nat.le_refl _, Nat.zero_le _⟩
  · injection e with e1 e2 e3
    subst e2 e3
    exact ⟨h1, h2⟩
theorem ret_tr {b : Bool} (h : b = true) : Ending.returned (.bool b) = .returned (.bool true) := by rw [h]
theorem done_true (g : Nat) (v : Value) (xs : List UInt8) (w : World) (h : Body w g v (sN 9 0 0 xs)) : Calls Tryd.prog 23 #[.pointer (some ⟨g, 0, none⟩)] w fun e w' => e = .returned (.bool true) ∧ w = w' := done_any g v _ w h
theorem flatten_take_le (ps : List (List UInt8)) (k : Nat) : (ps.take k).flatten.length ≤ ps.flatten.length := by
  have h : ps.flatten = (ps.take k).flatten ++ (ps.drop k).flatten := by rw [← List.flatten_append, List.take_append_drop]
  rw [h, List.length_append]
  omega
theorem piece_le (ps : List (List UInt8)) (k : Nat) (hk : k < ps.length) : (ps[k]).length ≤ ps.flatten.length := by
  have h : ps.flatten = (ps.take k).flatten ++ (ps[k] ++ (ps.drop (k + 1)).flatten) := by rw [← List.flatten_cons, ← List.drop_eq_getElem_cons hk, ← List.flatten_append, List.take_append_drop]
  rw [h, List.length_append, List.length_append]
  omega
theorem row_rdd {w0 w : World} {A : Option Addr} {c : Nat} {z : List UInt8} (h : Out w0 w A c z) : RdD w (fun k => w0.heap.size ≤ k ∧ k < w.heap.size) A z :=
  ⟨Rd.of_row h.row, fun ad e hn => by
    subst e
    have e2 : (Value.slice (some ad) z.length c).ownBlock = some ad.block := rfl
    have h1 := h.row.lt e2
    rcases h.foot ad.block e2 with h2 | h2
    · simp [Value.ownBlock] at h2
    · exact ⟨h2, h1⟩⟩
theorem take_next (ps : List (List UInt8)) (k : Nat) (hk : k < ps.length) : (ps.take (k + 1)).flatten = (ps.take k).flatten ++ ps[k] := by
  rw [List.take_succ_eq_append_getElem hk, List.flatten_append, List.flatten_singleton]
theorem take_drop_flat (ps : List (List UInt8)) (k : Nat) (hk : k < ps.length) : ps.flatten = (ps.take k).flatten ++ (ps[k] ++ (ps.drop (k + 1)).flatten) := by
  rw [← List.append_assoc, ← take_next ps k hk, ← List.flatten_append, List.take_append_drop]

set_option maxHeartbeats 8000000 in
set_option maxRecDepth 100000 in
theorem backW (A : Option Addr) (n c : Nat) (xs : List UInt8) (sz : Int) (B : Option Addr) (m d : Nat) (zs : List Int) (R : Option Addr) (rn rc : Nat) (rs : List UInt8) (w : World) (hn : xs.length = n) (hx : Rd w A xs) (hnc : n ≤ c) (hc : c ≤ 9223372036854775807) (hm : zs.length = m) (hz : RdI w B zs) (hrn : rs.length = rn) (hr : Rd w R rs) (ht : Tab w) (hsz : sz ≤ 9223372036854775807) :
    Calls Tryd.prog 4 #[.slice A n c, .int .i64 sz, .slice B m d, .slice R rn rc] w fun e w' => e = .returned (.bool true) ∧ Chg w w' (fun _ => False) := by
  subst hn hm hrn
  go_enter Tryd.func4, Tryd.ntmps4
  go_wp2_with fail
  refine (begun_any _).mono ?_
  rintro e w1 ⟨rfl, hc1⟩
  by_cases hl1 : xs.length ≤ 4096
  case neg =>
    go_wp2
    go_ret
    exact ⟨rfl, hc1⟩
  by_cases hl2 : zs.length ≤ 100
  case neg =>
    go_wp2
    go_ret
    exact ⟨rfl, hc1⟩
  by_cases hl3 : rs.length ≤ 1024
  case neg =>
    go_wp2
    go_ret
    exact ⟨rfl, hc1⟩
  have hs1 := hc1.size
  go_wp2_with fail
  refine (chunks_any A xs.length c sz xs w1 rfl (hx.chg hc1 (fun _ _ _ h => h)) hnc hc (by omega) (ht.chg hc1 id) hsz).mono ?_
  rintro e w3 ⟨A3, c3, rfl, hr3, hc3, hf3⟩
  have hwh := feed_whole sz.toNat xs rs hl1
  have hbl := chunkW_len xs.length sz.toNat xs (Nat.le_refl _) (by omega)
  have hbl5 : (chunkW sz.toNat xs ++ lastW).length ≤ 10 * xs.length + 5 := by rw [List.length_append]; simp [lastW]; omega
  generalize chunkW sz.toNat xs ++ lastW = X at *
  clear hbl
  have ho3 : Out w1 w3 A3 c3 X := ⟨hr3, hc3, hf3⟩
  have hc03 := hc1.trans hc3 (fun _ _ h => h)
  have hr03 := hr.chg hc03 (fun _ _ _ h => h)
  go_wp2_with (at_builtin; refine wpList_appd rfl _ _ rfl _ X (by rfl) hr3 R rs.length rc rs rfl (by rfl) hr03 (by omega) ?_; intro A4 c4 w4 z ha4)
  have ho4 := ho3.app ha4
  have hzl : z.length ≤ X.length + rs.length := by rw [ha4.len]; omega
  rw [← ha4.eq] at hwh
  have Hwh := Lib.hid hwh
  have hc04 := hc1.trans ho4.chg (fun _ _ h => h)
  have hcap := ho4.row.cap'
  clear hwh ha4 hr3 hc3 hf3 hr03 ho3
  refine (cut_any A4 z.length c4 z (fun k => w1.heap.size ≤ k ∧ k < w4.heap.size) B zs.length d zs w4 rfl (row_rdd ho4) hcap.1 (by have := hcap.2; unfold maxLen at this; omega) rfl (hz.chg hc04) (by omega) (by omega)).mono ?_
  rintro e w5 ⟨A5, c5, us, ps, rfl, hrs, hps, hflat, hul, hc5, hf5⟩
  have hc05 := hc04.trans hc5 (fun _ _ h => h)
  have hs4 := hc04.size
  have hs5 := hc5.size
  have Hflat := Lib.hid hflat
  have hfl : ps.flatten.length ≤ X.length + rs.length := by rw [hflat]; exact hzl
  clear hflat
  go_wp2_with fail
  refine (chunked_any _).mono ?_
  rintro e w6 ⟨g, rfl, hg, hb6, hc6⟩
  have hs6 := hc6.size
  have hc06 := hc05.trans hc6 (fun _ _ h => h)
  have hps6 := hps.chg hc6 (fun _ _ => id)
  have hrv6 := RdV.of_row (hrs.chg hc6 (fun _ _ => id))
  have hab : ∀ ad, A5 = some ad → 0 < us.length → ¬ w5.heap.size ≤ ad.block := fun ad e hn => by
    obtain ⟨ad', e', hcell⟩ := (RdV.of_row hrs).at hn
    rw [e] at e'
    injection e' with e'
    subst e'
    have := World.block_lt_of_cell? _ _ hcell
    rw [block_add] at this
    omega
  go_wp2_with fail
  go_loopw [13, 14, 15, 16] (fun uv iv _ _ wr => ∃ (k F : Nat) (sk : St) (vb : Value), k ≤ us.length ∧ iv = .int .i64 k ∧ uv = .int .i64 F ∧ F ≤ 100000 ∧ Hid (F = (ps.take k).flatten.length) ∧ feedL (sN 2 0 0 []) (ps.take k).flatten = ((ps.take k).flatten.length, sk) ∧ Body wr g vb sk ∧ sk.Ok ∧ sk.next ≠ 0 ∧ (∀ j, vb.ownBlock = some j → w5.heap.size ≤ j) ∧ Chg w6 wr (fun j => w5.heap.size ≤ j)) (fun _ iv _ _ _ => us.length - (intOf iv).toNat)
  case atStart => exact ⟨0, 0, sN 2 0 0 [], _, Nat.zero_le _, rfl, rfl, by omega, (show (0 : Nat) = (ps.take 0).flatten.length by simp), by simp [feedL], hb6, st0_ok, by decide, by simp [Value.ownBlock], Chg.refl _ _⟩
  case round =>
    obtain ⟨k, F, sk, vb, hk, rfl, rfl, hF1, HF, hfk, hb, hok, hn0, hvb, hcr⟩ := hrel
    have hck := hc06.trans hcr (S := fun _ => False) (fun i hi h => by omega)
    have Hfk := Lib.hid hfk
    clear hfk
    by_cases hlt : k < us.length
    · have hkp : k < ps.length := by rw [← hps.len]; exact hlt
      have hpk := piece_le ps k hkp
      have htl := flatten_take_le ps k
      obtain ⟨ad, rfl, hcell⟩ := (hrv6.chg hcr hab).at hlt
      have hD : ∀ k, (w1.heap.size ≤ k ∧ k < w4.heap.size) → ¬ w5.heap.size ≤ k := fun k h => by omega
      obtain ⟨A1, c1, hu, hl1', hl2', hrd⟩ := (hps6.chg hcr hD).at_ k us[k] ps[k] (List.getElem?_eq_getElem hlt) (List.getElem?_eq_getElem hkp)
      rw [hu] at hcell
      clear hu
      obtain ⟨N, s1, hfe, hN, hways⟩ := back_round (n := X.length) (s9 := sN 9 0 0 xs) (by rw [← take_drop_flat ps k hkp, Hflat.out]; exact Hwh.out) rfl Hfk.out hn0
      have hfed := feed_any g vb sk A1 _ c1 ps[k] wr hb hok hn0 hrd.rd rfl (by omega) (fun ad e hp hf => by
        have h1 := hrd.lies ad e hp
        have h2 : w5.heap.size ≤ ad.block := by
          rcases hf with h | h
          · omega
          · exact hvb _ h
        omega)
      rw [hfe] at hfed
      have hok1 : s1.Ok := by have := feedF_ok hok hn0 ps[k]; rw [hfe] at this; exact this
      have hn1 : s1.next ≠ 0 := by have := feedF_ne0 hn0 ps[k]; rw [hfe] at this; exact this
      have had := hab ad rfl (by omega)
      clear hfe
      go_wp2_with fail
      refine hfed.mono ?_
      clear hfed
      rintro e w7 ⟨rfl, vb2, hb7, hc7, hf7⟩
      have hfar : ∀ j, Foot g vb j → w5.heap.size ≤ j := by
        rintro j (rfl | e)
        · exact hg
        · exact hvb j e
      have hcr7 : Chg w6 w7 (fun j => w5.heap.size ≤ j) := hcr.trans hc7 (fun j _ e => hfar j e)
      have hck7 := hc06.trans hcr7 (S := fun _ => False) (fun i hi h => by omega)
      have hcell7 := hc7.cell hcell (by rw [block_add]; intro h; exact had (hfar _ h))
      have hvb7 : ∀ j, vb2.ownBlock = some j → w5.heap.size ≤ j := fun j e => by
        rcases hf7 j e with e | e
        · exact hvb j e
        · have := hcr.size; omega
      clear hcell
      rcases hways with ⟨hlt2, hsum, rfl⟩ | ⟨rfl, hfe2⟩
      · have hsumI : (F : Int) + (N : Int) = (X.length : Int) := by rw [HF.out]; omega
        have hsumB : ((F : Int) + (N : Int) == (X.length : Int)) = true := by rw [hsumI]; simp
        go_wp2_with fail
        refine wp_region_held_drew (S := fun w' => Body w' g vb2 (sN 9 0 0 xs) ∧ Chg w w' (fun _ => False)) (by kernel_rfl) ⟨(hb7).chg ((Chg.refl w7 (fun _ => False)).drew) (fun _ _ => id), (hck7).drew⟩ (fun hHeld => ?_)
        refine wpAnyH_take (i := 0) (oi := { dst := some 70, op := Go.Op.move (Go.Operand.tmp 12), type := _, pos := _, after := _, guard := none }) (v := ?v1) rfl (by kernel_rfl) (by kernel_rfl) (by kernel_rfl) (fun _ _ _ h => h) (Or.inl ⟨by rfl, ?y1⟩) (by assumption) ?r1
        case y1 => (intro wS hSw; (try dsimp only at hSw); go_simp; (try with_reducible rfl))
        try simp only [Act.put, List.setIfInBounds_toArray, List.set_cons_zero, List.set_cons_succ]
        refine wpAnyH_ready (rs := [1]) (by kernel_rfl) (by simp) ?_
        refine AllReadyH.cons (o := { dst := some 71, op := Go.Op.call { callee := Go.Callee.value (Go.Operand.func 23), args := #[Go.Operand.tmp 70], argTypes := _ }, type := _, pos := _, after := _, guard := none }) rfl (fun K hK => ?_) AllReadyH.nil
        go_simp
        refine (done_true g vb2 xs _ hHeld.1).mono ?_
        rintro e wd ⟨rfl, rfl⟩
        go_wp2_with fail
        refine hK.out _ _ (hHeld) (fun hHeld => ?_)
        clear hK K
        try simp only [Act.put, List.setIfInBounds_toArray, List.set_cons_zero, List.set_cons_succ]
        refine wpAnyH_take (i := 2) (oi := { dst := some 72, op := Go.Op.move (Go.Operand.tmp 71), type := _, pos := _, after := _, guard := none }) (v := ?v2) rfl (by kernel_rfl) (by kernel_rfl) (by kernel_rfl) (fun _ _ _ h => h) (Or.inl ⟨by rfl, ?y2⟩) (by assumption) ?r2
        case y2 => (intro wS hSw; (try dsimp only at hSw); go_simp; (try with_reducible rfl))
        try simp only [Act.put, List.setIfInBounds_toArray, List.set_cons_zero, List.set_cons_succ]
        refine wpAnyH_take (i := 3) (oi := { dst := some 73, op := Go.Op.move (Go.Operand.tmp 13), type := _, pos := _, after := _, guard := some (2, true) }) (v := ?v3) rfl (by kernel_rfl) (by kernel_rfl) (by kernel_rfl) (fun _ _ _ h => h) (Or.inl ⟨by rfl, ?y3⟩) (by assumption) ?r3
        case y3 => (intro wS hSw; (try dsimp only at hSw); go_simp; (try with_reducible rfl))
        try simp only [Act.put, List.setIfInBounds_toArray, List.set_cons_zero, List.set_cons_succ]
        refine wpAnyH_take (i := 4) (oi := { dst := some 74, op := Go.Op.move (Go.Operand.tmp 10), type := _, pos := _, after := _, guard := some (2, true) }) (v := ?v4) rfl (by kernel_rfl) (by kernel_rfl) (by kernel_rfl) (fun _ _ _ h => h) (Or.inl ⟨by rfl, ?y4⟩) (by assumption) ?r4
        case y4 => (intro wS hSw; (try dsimp only at hSw); go_simp; (try with_reducible rfl))
        try simp only [Act.put, List.setIfInBounds_toArray, List.set_cons_zero, List.set_cons_succ]
        refine wpAnyH_take (i := 5) (oi := { dst := some 75, op := Go.Op.binOp Go.BinOp.eql _ (Go.Operand.tmp 73) (Go.Operand.tmp 74) _, type := _, pos := _, after := _, guard := some (2, true) }) (v := ?v5) rfl (by kernel_rfl) (by kernel_rfl) (by kernel_rfl) (fun _ _ _ h => h) (Or.inl ⟨by rfl, ?y5⟩) (by assumption) ?r5
        case y5 => (intro wS hSw; (try dsimp only at hSw); go_simp; (try with_reducible rfl))
        try simp only [Act.put, List.setIfInBounds_toArray, List.set_cons_zero, List.set_cons_succ]
        refine wpAnyH_take (i := 6) (oi := { dst := some 76, op := Go.Op.pick (Go.Operand.tmp 72) (Go.Operand.tmp 75) (Go.Operand.const (Go.Value.bool false)), type := _, pos := _, after := _, guard := none }) (v := ?v6) rfl (by kernel_rfl) (by kernel_rfl) (by kernel_rfl) (fun _ _ _ h => h) (Or.inl ⟨by rfl, ?y6⟩) (by assumption) ?r6
        case y6 => (intro wS hSw; (try dsimp only at hSw); go_simp; (try with_reducible rfl))
        try simp only [Act.put, List.setIfInBounds_toArray, List.set_cons_zero, List.set_cons_succ]
        refine wpAnyH_take (i := 7) (oi := { dst := some 77, op := Go.Op.move (Go.Operand.tmp 76), type := _, pos := _, after := _, guard := none }) (v := ?v7) rfl (by kernel_rfl) (by kernel_rfl) (by kernel_rfl) (fun _ _ _ h => h) (Or.inl ⟨by rfl, ?y7⟩) (by assumption) ?r7
        case y7 => (intro wS hSw; (try dsimp only at hSw); go_simp; (try with_reducible rfl))
        try simp only [Act.put, List.setIfInBounds_toArray, List.set_cons_zero, List.set_cons_succ]
        refine wpAnyH_take (i := 8) (oi := { dst := some 78, op := Go.Op.move (Go.Operand.tmp 12), type := _, pos := _, after := _, guard := some (7, true) }) (v := ?v8) rfl (by kernel_rfl) (by kernel_rfl) (by kernel_rfl) (fun _ _ _ h => h) (Or.inl ⟨by rfl, ?y8⟩) (by assumption) ?r8
        case y8 => (intro wS hSw; (try dsimp only at hSw); go_simp; (try with_reducible rfl))
        try simp only [Act.put, List.setIfInBounds_toArray, List.set_cons_zero, List.set_cons_succ]
        refine wpAnyH_take (i := 11) (oi := { dst := some 81, op := Go.Op.move (Go.Operand.tmp 0), type := _, pos := _, after := _, guard := some (7, true) }) (v := ?v9) rfl (by kernel_rfl) (by kernel_rfl) (by kernel_rfl) (fun _ _ _ h => h) (Or.inl ⟨by rfl, ?y9⟩) (by assumption) ?r9
        case y9 => (intro wS hSw; (try dsimp only at hSw); go_simp; (try with_reducible rfl))
        try simp only [Act.put, List.setIfInBounds_toArray, List.set_cons_zero, List.set_cons_succ]
        refine wpAnyH_take (i := 12) (oi := { dst := some 82, op := Go.Op.convert _ _ (Go.Operand.tmp 81), type := _, pos := _, after := _, guard := some (7, true) }) (v := ?v10) rfl (by kernel_rfl) (by kernel_rfl) (by kernel_rfl) (fun _ _ _ h => h) (Or.inl ⟨by rfl, ?y10⟩) (by assumption) ?r10
        case y10 => (intro wS hSw; (try dsimp only at hSw); have hcv := conv_rd wS A c _ xs rfl (hx.chg hSw.2 (fun _ _ _ h => h)); go_simp; (try with_reducible rfl))
        try simp only [Act.put, List.setIfInBounds_toArray, List.set_cons_zero, List.set_cons_succ]
        refine wpAnyH_ready (rs := [9]) (by kernel_rfl) (by simp) ?_
        refine AllReadyH.cons (o := { dst := some 79, op := Go.Op.call { callee := Go.Callee.value (Go.Operand.func 24), args := #[Go.Operand.tmp 78], argTypes := _ }, type := _, pos := _, after := _, guard := some (7, true) }) rfl (fun K hK => ?_) AllReadyH.nil
        go_simp
        refine (data_any g vb2 (sN 9 0 0 xs) _ hHeld.1 (by show xs.length ≤ _; omega)).mono ?_
        rintro e wA ⟨dA, cA, rfl, hrA, hcA, hfA⟩
        go_wp2_with fail
        refine hK.out _ _ (⟨hHeld.1.chg hcA (fun _ _ => id), hHeld.2.trans hcA (fun _ _ => id)⟩) (fun hHeld => ?_)
        clear hK K
        try simp only [Act.put, List.setIfInBounds_toArray, List.set_cons_zero, List.set_cons_succ]
        refine wpAnyH_stronger (S' := fun w' => (Body w' g vb2 (sN 9 0 0 xs) ∧ Chg w w' (fun _ => False)) ∧ Row w' (.slice dA (sN 9 0 0 xs).got.length cA) (sN 9 0 0 xs).got) (fun _ h => h.1) _ _ _ _ ?_
        have hHeld2 : (Body wA g vb2 (sN 9 0 0 xs) ∧ Chg w wA (fun _ => False)) ∧ Row wA (.slice dA (sN 9 0 0 xs).got.length cA) (sN 9 0 0 xs).got := ⟨hHeld, hrA⟩
        clear hHeld
        refine wpAnyH_take (i := 10) (oi := { dst := some 80, op := Go.Op.convert _ _ (Go.Operand.tmp 79), type := _, pos := _, after := _, guard := some (7, true) }) (v := ?v11) rfl (by kernel_rfl) (by kernel_rfl) (by kernel_rfl) (fun _ _ _ h => h) (Or.inl ⟨by rfl, ?y11⟩) (by assumption) ?r11
        case y11 => (intro wS hSw; (try dsimp only at hSw); have hcv := conv_rd wS dA cA _ (sN 9 0 0 xs).got rfl (Rd.of_row hSw.2); go_simp; (try with_reducible rfl))
        try simp only [Act.put, List.setIfInBounds_toArray, List.set_cons_zero, List.set_cons_succ]
        refine wpAnyH_take (i := 13) (oi := { dst := some 83, op := Go.Op.binOp Go.BinOp.eql _ (Go.Operand.tmp 80) (Go.Operand.tmp 82) _, type := _, pos := _, after := _, guard := some (7, true) }) (v := ?v12) rfl (by kernel_rfl) (by kernel_rfl) (by kernel_rfl) (fun _ _ _ h => h) (Or.inl ⟨by rfl, ?y12⟩) (by assumption) ?r12
        case y12 => (intro wS hSw; (try dsimp only at hSw); go_simp; (try with_reducible rfl))
        try simp only [Act.put, List.setIfInBounds_toArray, List.set_cons_zero, List.set_cons_succ]
        refine wpAnyH_take (i := 14) (oi := { dst := some 84, op := Go.Op.pick (Go.Operand.tmp 77) (Go.Operand.tmp 83) (Go.Operand.const (Go.Value.bool false)), type := _, pos := _, after := _, guard := none }) (v := ?v13) rfl (by kernel_rfl) (by kernel_rfl) (by kernel_rfl) (fun _ _ _ h => h) (Or.inl ⟨by rfl, ?y13⟩) (by assumption) ?r13
        case y13 => (intro wS hSw; (try dsimp only at hSw); go_simp; (try with_reducible rfl))
        try simp only [Act.put, List.setIfInBounds_toArray, List.set_cons_zero, List.set_cons_succ]
        refine wpAnyH_take (i := 15) (oi := { dst := some 8, op := Go.Op.assign (Go.Operand.tmp 84), type := _, pos := _, after := _, guard := none }) (v := ?v14) rfl (by kernel_rfl) (by kernel_rfl) (by kernel_rfl) (fun _ _ _ h => h) (Or.inl ⟨by rfl, ?y14⟩) (by assumption) ?r14
        case y14 => (intro wS hSw; (try dsimp only at hSw); go_simp; (try with_reducible rfl))
        try simp only [Act.put, List.setIfInBounds_toArray, List.set_cons_zero, List.set_cons_succ]
        refine wpAnyH_done (by kernel_rfl) ?_ _
        go_wp2
        go_ret
        exact ⟨ret_tr (by first | rfl | simp [sN]), hHeld2.1.2⟩
      · have Hfe2 := Lib.hid hfe2
        clear hfe2
        go_wp2_with fail
        go_roundw
        case rel =>
          have hfb1 : F + ps[k].length = (ps.take (k + 1)).flatten.length := by rw [take_next ps k hkp, List.length_append, HF.out]
          have hfb2 := flatten_take_le ps (k + 1)
          refine ⟨k + 1, F + ps[k].length, s1, vb2, by omega, by go_num, by go_num, by omega, hfb1, ?_, hb7, hok1, hn1, hvb7, hcr7⟩
          · rw [take_next ps k hkp]; exact Hfe2.out
        case measure => simp [intOf]; omega
    · obtain rfl : k = us.length := by omega
      have hall : (ps.take us.length).flatten = z := by rw [hps.len, List.take_length]; exact Hflat.out
      have hfin := Hfk.out
      rw [hall, Hwh.out] at hfin
      injection hfin with hl0 hsk
      subst hsk
      obtain rfl : F = X.length := by rw [HF.out, hall]; exact hl0.symm
      have hsumB : ((X.length : Int) == (X.length : Int)) = true := by simp
      go_wp2_with fail
      refine wp_region_held_drew (S := fun w' => Body w' g vb (sN 9 0 0 xs) ∧ Chg w w' (fun _ => False)) (by kernel_rfl) ⟨(hb).chg ((Chg.refl wr (fun _ => False)).drew) (fun _ _ => id), (hck).drew⟩ (fun hHeld => ?_)
      refine wpAnyH_take (i := 0) (oi := { dst := some 70, op := Go.Op.move (Go.Operand.tmp 12), type := _, pos := _, after := _, guard := none }) (v := ?v15) rfl (by kernel_rfl) (by kernel_rfl) (by kernel_rfl) (fun _ _ _ h => h) (Or.inl ⟨by rfl, ?y15⟩) (by assumption) ?r15
      case y15 => (intro wS hSw; (try dsimp only at hSw); go_simp; (try with_reducible rfl))
      try simp only [Act.put, List.setIfInBounds_toArray, List.set_cons_zero, List.set_cons_succ]
      refine wpAnyH_ready (rs := [1]) (by kernel_rfl) (by simp) ?_
      refine AllReadyH.cons (o := { dst := some 71, op := Go.Op.call { callee := Go.Callee.value (Go.Operand.func 23), args := #[Go.Operand.tmp 70], argTypes := _ }, type := _, pos := _, after := _, guard := none }) rfl (fun K hK => ?_) AllReadyH.nil
      go_simp
      refine (done_true g vb xs _ hHeld.1).mono ?_
      rintro e wd ⟨rfl, rfl⟩
      go_wp2_with fail
      refine hK.out _ _ (hHeld) (fun hHeld => ?_)
      clear hK K
      try simp only [Act.put, List.setIfInBounds_toArray, List.set_cons_zero, List.set_cons_succ]
      refine wpAnyH_take (i := 2) (oi := { dst := some 72, op := Go.Op.move (Go.Operand.tmp 71), type := _, pos := _, after := _, guard := none }) (v := ?v16) rfl (by kernel_rfl) (by kernel_rfl) (by kernel_rfl) (fun _ _ _ h => h) (Or.inl ⟨by rfl, ?y16⟩) (by assumption) ?r16
      case y16 => (intro wS hSw; (try dsimp only at hSw); go_simp; (try with_reducible rfl))
      try simp only [Act.put, List.setIfInBounds_toArray, List.set_cons_zero, List.set_cons_succ]
      refine wpAnyH_take (i := 3) (oi := { dst := some 73, op := Go.Op.move (Go.Operand.tmp 13), type := _, pos := _, after := _, guard := some (2, true) }) (v := ?v17) rfl (by kernel_rfl) (by kernel_rfl) (by kernel_rfl) (fun _ _ _ h => h) (Or.inl ⟨by rfl, ?y17⟩) (by assumption) ?r17
      case y17 => (intro wS hSw; (try dsimp only at hSw); go_simp; (try with_reducible rfl))
      try simp only [Act.put, List.setIfInBounds_toArray, List.set_cons_zero, List.set_cons_succ]
      refine wpAnyH_take (i := 4) (oi := { dst := some 74, op := Go.Op.move (Go.Operand.tmp 10), type := _, pos := _, after := _, guard := some (2, true) }) (v := ?v18) rfl (by kernel_rfl) (by kernel_rfl) (by kernel_rfl) (fun _ _ _ h => h) (Or.inl ⟨by rfl, ?y18⟩) (by assumption) ?r18
      case y18 => (intro wS hSw; (try dsimp only at hSw); go_simp; (try with_reducible rfl))
      try simp only [Act.put, List.setIfInBounds_toArray, List.set_cons_zero, List.set_cons_succ]
      refine wpAnyH_take (i := 5) (oi := { dst := some 75, op := Go.Op.binOp Go.BinOp.eql _ (Go.Operand.tmp 73) (Go.Operand.tmp 74) _, type := _, pos := _, after := _, guard := some (2, true) }) (v := ?v19) rfl (by kernel_rfl) (by kernel_rfl) (by kernel_rfl) (fun _ _ _ h => h) (Or.inl ⟨by rfl, ?y19⟩) (by assumption) ?r19
      case y19 => (intro wS hSw; (try dsimp only at hSw); go_simp; (try with_reducible rfl))
      try simp only [Act.put, List.setIfInBounds_toArray, List.set_cons_zero, List.set_cons_succ]
      refine wpAnyH_take (i := 6) (oi := { dst := some 76, op := Go.Op.pick (Go.Operand.tmp 72) (Go.Operand.tmp 75) (Go.Operand.const (Go.Value.bool false)), type := _, pos := _, after := _, guard := none }) (v := ?v20) rfl (by kernel_rfl) (by kernel_rfl) (by kernel_rfl) (fun _ _ _ h => h) (Or.inl ⟨by rfl, ?y20⟩) (by assumption) ?r20
      case y20 => (intro wS hSw; (try dsimp only at hSw); go_simp; (try with_reducible rfl))
      try simp only [Act.put, List.setIfInBounds_toArray, List.set_cons_zero, List.set_cons_succ]
      refine wpAnyH_take (i := 7) (oi := { dst := some 77, op := Go.Op.move (Go.Operand.tmp 76), type := _, pos := _, after := _, guard := none }) (v := ?v21) rfl (by kernel_rfl) (by kernel_rfl) (by kernel_rfl) (fun _ _ _ h => h) (Or.inl ⟨by rfl, ?y21⟩) (by assumption) ?r21
      case y21 => (intro wS hSw; (try dsimp only at hSw); go_simp; (try with_reducible rfl))
      try simp only [Act.put, List.setIfInBounds_toArray, List.set_cons_zero, List.set_cons_succ]
      refine wpAnyH_take (i := 8) (oi := { dst := some 78, op := Go.Op.move (Go.Operand.tmp 12), type := _, pos := _, after := _, guard := some (7, true) }) (v := ?v22) rfl (by kernel_rfl) (by kernel_rfl) (by kernel_rfl) (fun _ _ _ h => h) (Or.inl ⟨by rfl, ?y22⟩) (by assumption) ?r22
      case y22 => (intro wS hSw; (try dsimp only at hSw); go_simp; (try with_reducible rfl))
      try simp only [Act.put, List.setIfInBounds_toArray, List.set_cons_zero, List.set_cons_succ]
      refine wpAnyH_take (i := 11) (oi := { dst := some 81, op := Go.Op.move (Go.Operand.tmp 0), type := _, pos := _, after := _, guard := some (7, true) }) (v := ?v23) rfl (by kernel_rfl) (by kernel_rfl) (by kernel_rfl) (fun _ _ _ h => h) (Or.inl ⟨by rfl, ?y23⟩) (by assumption) ?r23
      case y23 => (intro wS hSw; (try dsimp only at hSw); go_simp; (try with_reducible rfl))
      try simp only [Act.put, List.setIfInBounds_toArray, List.set_cons_zero, List.set_cons_succ]
      refine wpAnyH_take (i := 12) (oi := { dst := some 82, op := Go.Op.convert _ _ (Go.Operand.tmp 81), type := _, pos := _, after := _, guard := some (7, true) }) (v := ?v24) rfl (by kernel_rfl) (by kernel_rfl) (by kernel_rfl) (fun _ _ _ h => h) (Or.inl ⟨by rfl, ?y24⟩) (by assumption) ?r24
      case y24 => (intro wS hSw; (try dsimp only at hSw); have hcv := conv_rd wS A c _ xs rfl (hx.chg hSw.2 (fun _ _ _ h => h)); go_simp; (try with_reducible rfl))
      try simp only [Act.put, List.setIfInBounds_toArray, List.set_cons_zero, List.set_cons_succ]
      refine wpAnyH_ready (rs := [9]) (by kernel_rfl) (by simp) ?_
      refine AllReadyH.cons (o := { dst := some 79, op := Go.Op.call { callee := Go.Callee.value (Go.Operand.func 24), args := #[Go.Operand.tmp 78], argTypes := _ }, type := _, pos := _, after := _, guard := some (7, true) }) rfl (fun K hK => ?_) AllReadyH.nil
      go_simp
      refine (data_any g vb (sN 9 0 0 xs) _ hHeld.1 (by show xs.length ≤ _; omega)).mono ?_
      rintro e wA ⟨dA, cA, rfl, hrA, hcA, hfA⟩
      go_wp2_with fail
      refine hK.out _ _ (⟨hHeld.1.chg hcA (fun _ _ => id), hHeld.2.trans hcA (fun _ _ => id)⟩) (fun hHeld => ?_)
      clear hK K
      try simp only [Act.put, List.setIfInBounds_toArray, List.set_cons_zero, List.set_cons_succ]
      refine wpAnyH_stronger (S' := fun w' => (Body w' g vb (sN 9 0 0 xs) ∧ Chg w w' (fun _ => False)) ∧ Row w' (.slice dA (sN 9 0 0 xs).got.length cA) (sN 9 0 0 xs).got) (fun _ h => h.1) _ _ _ _ ?_
      have hHeld2 : (Body wA g vb (sN 9 0 0 xs) ∧ Chg w wA (fun _ => False)) ∧ Row wA (.slice dA (sN 9 0 0 xs).got.length cA) (sN 9 0 0 xs).got := ⟨hHeld, hrA⟩
      clear hHeld
      refine wpAnyH_take (i := 10) (oi := { dst := some 80, op := Go.Op.convert _ _ (Go.Operand.tmp 79), type := _, pos := _, after := _, guard := some (7, true) }) (v := ?v25) rfl (by kernel_rfl) (by kernel_rfl) (by kernel_rfl) (fun _ _ _ h => h) (Or.inl ⟨by rfl, ?y25⟩) (by assumption) ?r25
      case y25 => (intro wS hSw; (try dsimp only at hSw); have hcv := conv_rd wS dA cA _ (sN 9 0 0 xs).got rfl (Rd.of_row hSw.2); go_simp; (try with_reducible rfl))
      try simp only [Act.put, List.setIfInBounds_toArray, List.set_cons_zero, List.set_cons_succ]
      refine wpAnyH_take (i := 13) (oi := { dst := some 83, op := Go.Op.binOp Go.BinOp.eql _ (Go.Operand.tmp 80) (Go.Operand.tmp 82) _, type := _, pos := _, after := _, guard := some (7, true) }) (v := ?v26) rfl (by kernel_rfl) (by kernel_rfl) (by kernel_rfl) (fun _ _ _ h => h) (Or.inl ⟨by rfl, ?y26⟩) (by assumption) ?r26
      case y26 => (intro wS hSw; (try dsimp only at hSw); go_simp; (try with_reducible rfl))
      try simp only [Act.put, List.setIfInBounds_toArray, List.set_cons_zero, List.set_cons_succ]
      refine wpAnyH_take (i := 14) (oi := { dst := some 84, op := Go.Op.pick (Go.Operand.tmp 77) (Go.Operand.tmp 83) (Go.Operand.const (Go.Value.bool false)), type := _, pos := _, after := _, guard := none }) (v := ?v27) rfl (by kernel_rfl) (by kernel_rfl) (by kernel_rfl) (fun _ _ _ h => h) (Or.inl ⟨by rfl, ?y27⟩) (by assumption) ?r27
      case y27 => (intro wS hSw; (try dsimp only at hSw); go_simp; (try with_reducible rfl))
      try simp only [Act.put, List.setIfInBounds_toArray, List.set_cons_zero, List.set_cons_succ]
      refine wpAnyH_take (i := 15) (oi := { dst := some 8, op := Go.Op.assign (Go.Operand.tmp 84), type := _, pos := _, after := _, guard := none }) (v := ?v28) rfl (by kernel_rfl) (by kernel_rfl) (by kernel_rfl) (fun _ _ _ h => h) (Or.inl ⟨by rfl, ?y28⟩) (by assumption) ?r28
      case y28 => (intro wS hSw; (try dsimp only at hSw); go_simp; (try with_reducible rfl))
      try simp only [Act.put, List.setIfInBounds_toArray, List.set_cons_zero, List.set_cons_succ]
      refine wpAnyH_done (by kernel_rfl) ?_ _
      go_wp2
      go_ret
      exact ⟨ret_tr (by first | rfl | simp [sN]), hHeld2.1.2⟩
end Go.Proofs.YtkbmajkoojgkpaaDoor
