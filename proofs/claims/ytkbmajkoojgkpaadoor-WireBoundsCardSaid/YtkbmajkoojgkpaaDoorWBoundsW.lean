/- The walk of WireBounds. -/
import Derived.Test.YtkbmajkoojgkpaaDoorWBegun
import Derived.Test.YtkbmajkoojgkpaaDoorWBounds1
import Derived.Test.YtkbmajkoojgkpaaDoorTwin
import Derived.Lib.ConvBytes
import Derived.BigQuiet
import Derived.Deep.RegionHeld
namespace Go.Proofs.YtkbmajkoojgkpaaDoor
open Go.RowKit

theorem str_cat2 (a b : List UInt8) : str a ++ str b = str (a ++ b) := by
  apply ByteArray.ext
  rw [ByteArray.data_append]
  simp [str]

/-- A new wire is fed bytes that a conversion made: what it tells. -/
def ErrP (E : Int) (w : World) (e : Ending) (w' : World) : Prop := ∃ A n c, e = .returned (.tuple #[.slice A n c, .int .i64 E]) ∧ Chg w w' (fun _ => False)
theorem feed_new (g : Nat) (A : Option Addr) (n c : Nat) (xs : List UInt8) (m : Int) (w0 w1 w : World) (hg : w0.heap.size ≤ g) (h1 : Wire w1 (newAt g) WSt.new) (hc01 : Chg w0 w1 (fun _ => False)) (hc1 : Chg w1 w (fun _ => False)) (hr : Rd w A xs) (hn : xs.length = n) (hnc : n ≤ c) (hcm : c ≤ 9223372036854775807) (hn1 : n ≤ 1000000)
    (hfar : ∀ ad, A = some ad → 0 < xs.length → ad.block ≠ g) (hm : MaxL w0 m) :
    Calls Tryd.prog 40 #[.pointer (some ⟨g, 0, none⟩), .slice A n c] w fun e w' => (∃ A' n' c', e = .returned (.tuple #[.slice A' n' c', .int .i64 (runW WSt.new xs).2.1])) ∧ Chg w0 w' (fun _ => False) := by
  have hc0 := hc01.trans hc1 (fun _ _ => id)
  refine (wfeed_any (newAt g) WSt.new A n c xs m w (h1.chg hc1 (fun _ _ => id)) new_ok (by decide) hr hn hnc hcm hn1 (fun ad e hl hf => hfar ad e hl (newAt_foot hf)) (hm.chg hc0 id) (new_foot hm hg)).mono ?_
  rintro e w' ⟨p', q, A', c', rfl, -, -, -, hc2, -⟩
  exact ⟨⟨_, _, _, rfl⟩, hc0.trans hc2 (fun i hi e => by have := newAt_foot e; omega)⟩

/-- The cells of a line of a's. -/
def acells (n k : Nat) : List Value := List.replicate k (Value.int .u8 97) ++ List.replicate (n - k) (Value.int .u8 0)
theorem acells_len {n k : Nat} (h : k ≤ n) : (acells n k).length = n := by simp [acells]; omega
theorem acells_set {n k : Nat} (h : k < n) : (acells n k).set k (.int .u8 97) = acells n (k + 1) := by
  obtain ⟨m, hm⟩ : ∃ m, n - k = m + 1 := ⟨n - k - 1, by omega⟩
  unfold acells
  rw [hm, show n - (k + 1) = m from by omega, List.set_append_right _ _ (by simp), List.length_replicate, Nat.sub_self, List.replicate_succ (n := m), List.set_cons_zero, List.replicate_succ' (n := k)]
  simp
theorem acells_line {n : Nat} (h : 2 ≤ n) : (acells n n).set 1 (.int .u8 58) = Bs (lineA (n - 2)) := by
  obtain ⟨m, rfl⟩ : ∃ m, n = m + 2 := ⟨n - 2, by omega⟩
  unfold acells lineA Bs
  simp [List.replicate_succ, B8]
theorem lineA_len {n : Nat} (h : 2 ≤ n) : (lineA (n - 2)).length = n := by simp [lineA]; omega
def baseB : List UInt8 := getL ++ 13 :: 10 :: (hostL ++ [13, 10])
theorem base_len : baseB.length = 25 := rfl
theorem xyB_len (j : Nat) : (xyB j).length = 5 * j := by
  induction j with
  | zero => rfl
  | succ j ih => rw [xyB_next, List.length_append, ih]; simp [xyL]; omega
/-- A string as bytes. -/
theorem conv_new (xs : List UInt8) (w : World) : ∃ G, (convert 9 22 (.string (str xs))).run Tryd.prog w = .ok (.slice (some ⟨w.heap.size, 0, none⟩) xs.length G) (Lib.bytesWorld w 5 (str xs)) ∧ xs.length ≤ G ∧ (xs.length ≤ 9223372036854775807 → G ≤ 9223372036854775807) ∧
    Rd (Lib.bytesWorld w 5 (str xs)) (some ⟨w.heap.size, 0, none⟩) xs ∧ Chg w (Lib.bytesWorld w 5 (str xs)) (fun _ => False) := by
  have hconv := Lib.run_convert_string_bytes (P := Tryd.prog) w 9 22 5 (str xs) Tryd.underlying9 Tryd.underlying22 Tryd.underlying5
  rw [str_size] at hconv
  refine ⟨_, hconv, grownCap_ge w xs.length 0 5, fun h => ?_, (Low.start w xs).rd, ⟨rfl, rfl, rfl, by rw [Lib.bytesWorld_size]; omega, fun i hi _ => Lib.bytesWorld_at_old w _ _ i hi⟩⟩
  have := grownCap_le_maxLen w xs.length 0 5 (by unfold maxLen; omega)
  unfold maxLen at this
  omega

set_option maxHeartbeats 400000000 in
set_option maxRecDepth 100000 in
theorem wboundsW (a b : Int) (m : Int) (w : World) (hm : MaxL w m) :
    Calls Tryd.prog 12 #[.int .i64 a, .int .i64 b] w fun e w' => e = .returned (.bool true) ∧ Chg w w' (fun _ => False) := by
  obtain ⟨p, hp⟩ := Int.eq_ofNat_of_zero_le (Int.emod_nonneg a (b := 40) (by decide))
  obtain ⟨q, hq⟩ := Int.eq_ofNat_of_zero_le (Int.emod_nonneg b (b := 12) (by decide))
  have hp1 := Int.emod_lt_of_pos a (b := 40) (by decide)
  have hq1 := Int.emod_lt_of_pos b (b := 12) (by decide)
  rw [hp] at hp1
  rw [hq] at hq1
  have hpl := fun w => place_any a 40 w (by decide) (by decide)
  have hql := fun w => place_any b 12 w (by decide) (by decide)
  simp only [hp] at hpl
  simp only [hq] at hql
  have Hpl := Lib.hid hpl
  have Hql := Lib.hid hql
  clear hpl hql hp hq
  go_enter Tryd.func12, Tryd.ntmps12
  go_wp2_with fail
  refine (begun24_any m w hm).mono ?_
  rintro e w0 ⟨rfl, hc0⟩
  go_wp2_with fail
  refine (Hpl.out _).mono ?_
  rintro e w1 ⟨rfl, rfl⟩
  go_wp2_with fail
  refine (Hql.out _).mono ?_
  rintro e w1 ⟨rfl, rfl⟩
  obtain ⟨N, hN⟩ : ∃ N : Nat, N = 1000 + p := ⟨_, rfl⟩
  have hcast : (N : Int) = 1000 + (p : Int) := by omega
  have hN1 : 1000 ≤ N := by omega
  have hN2 : N ≤ 1039 := by omega
  have hpI : (0 : Int) ≤ (p : Int) := by omega
  have hqI : (0 : Int) ≤ (q : Int) := by omega
  have hmk := make_bytes N (by omega) w0
  rw [hcast] at hmk
  have hz : Blk (w0.alloc (.cells (zeros N).toArray 5)) w0.heap.size 5 (acells N 0).toArray := by
    have := Blk.new w0 5 (zeros N).toArray
    exact this
  have hcz : Chg w0 (w0.alloc (.cells (zeros N).toArray 5)) (fun _ => False) := (Chg.refl w0 _).alloc _
  have HN := Lib.hid hcast
  clear hcast hN
  go_wp2_with fail
  go_loopw [6] (fun iv wr => ∃ k : Nat, k ≤ N ∧ iv = .int .i64 k ∧ Blk wr w0.heap.size 5 (acells N k).toArray ∧ Chg w0 wr (fun _ => False)) (fun iv _ => N - (intOf iv).toNat)
  case atStart => exact ⟨0, Nat.zero_le _, rfl, hz, hcz⟩
  case round =>
    obtain ⟨k, hk, rfl, hb, hc⟩ := hrel
    by_cases hlt : k < N
    · obtain ⟨u, hcell⟩ : ∃ u, wr.cell? ⟨w0.heap.size, k, none⟩ = some u := ⟨(acells N k)[k]'(by rw [acells_len hk]; exact hlt), by rw [hb.cell]; simp [acells_len hk, hlt]⟩
      have hfree := hb.free k
      have hset : Blk (wr.setCell ⟨w0.heap.size, k, none⟩ (.int .u8 97)) w0.heap.size 5 (acells N (k + 1)).toArray := by
        rw [← acells_set hlt]
        simpa using hb.set k (.int .u8 97)
      have hcs := hc.setCell (p := ⟨w0.heap.size, k, none⟩) (fun h => absurd h (Nat.lt_irrefl _)) (.int .u8 97)
      have hi1 : (k : Int) < 1000 + (p : Int) := by have := HN.out; omega
      go_wp2
      go_roundw
      case rel => exact ⟨k + 1, by omega, by go_num, hset, hcs⟩
      case measure => simp [intOf]; omega
    · have hi1 : ¬ (k : Int) < 1000 + (p : Int) := by have := HN.out; omega
      obtain rfl : k = N := by omega
      have hl2 := acells_line (n := k) (by omega)
      obtain ⟨u, hcell⟩ : ∃ u, wr.cell? ⟨w0.heap.size, 1, none⟩ = some u := ⟨(acells k k)[1]'(by rw [acells_len (Nat.le_refl k)]; omega), by rw [hb.cell]; simp⟩
      have hfree := hb.free 1
      have hset := hb.set 1 (.int .u8 58)
      rw [List.setIfInBounds_toArray, hl2] at hset
      have hcs := hc.setCell (p := ⟨w0.heap.size, 1, none⟩) (fun h => absurd h (Nat.lt_irrefl _)) (.int .u8 58)
      obtain ⟨L, hL⟩ : ∃ L, L = lineA (k - 2) := ⟨_, rfl⟩
      rw [← hL] at hset
      have hLl : L.length = k := by rw [hL]; exact lineA_len (by omega)
      have HL := Lib.hid hL
      have HLl := Lib.hid hLl
      clear hL hl2 hLl
      go_wp2_with fail
      have hcc := hc.trans ((Chg.refl wr (fun _ => False)).mono (fun _ _ => id)) (fun _ _ => id)
      obtain ⟨w2, hw2⟩ : ∃ w2, w2 = wr.setCell ⟨w0.heap.size, 1, none⟩ (.int .u8 58) := ⟨_, rfl⟩
      rw [← hw2] at hset hcs ⊢
      clear hw2 hcell hfree hb hc hcc
      have hc2 : Chg w w2 (fun _ => False) := hc0.trans hcs (fun _ _ => id)
      have hrL : Row w2 (.slice (some ⟨w0.heap.size, 0, none⟩) k k) L := by
        have := Row.of_form (xs := L) (cap := k) hset (by rw [HLl.out]; exact Nat.le_refl _) (by unfold maxLen; omega) (by simp [Bs_length, HLl.out]) (by simp only []; rw [List.take_of_length_le (by rw [Bs_length]; exact Nat.le_refl _)])
        rw [HLl.out] at this
        exact this
      obtain ⟨J, hJ⟩ : ∃ J : Nat, J = 24 + q := ⟨_, rfl⟩
      have hJc : (J : Int) = 24 + (q : Int) := by omega
      have HJ := Lib.hid hJc
      have hJ2 : J ≤ 35 := by omega
      clear hJ hJc
      go_loop [7, 8] (fun sv iv => ∃ (j : Nat) (S : List UInt8), j ≤ J ∧ iv = .int .i64 (1 + (j : Int)) ∧ sv = .string (str S) ∧ Hid (S = baseB ++ xyB j)) (fun _ iv => J + 1 - (intOf iv).toNat)
      case atStart => exact ⟨0, baseB, Nat.zero_le _, rfl, rfl, (show baseB = baseB ++ xyB 0 by simp [xyB])⟩
      case round =>
        obtain ⟨j, S, hj, rfl, rfl, hS⟩ := hrel
        by_cases hlt2 : j < J
        · have hi2 : 1 + (j : Int) < 25 + (q : Int) := by have := HJ.out; omega
          obtain ⟨S2, hS2⟩ : ∃ S2, S2 = S ++ [120, 58, 121, 13, 10] := ⟨_, rfl⟩
          have hcat : str S ++ (⟨#[120, 58, 121, 13, 10]⟩ : ByteArray) = str S2 := by rw [hS2]; exact str_cat2 S [120, 58, 121, 13, 10]
          have HS2 : Hid (S2 = baseB ++ xyB (j + 1)) := by
            show S2 = _
            rw [hS2, hS.out, xyB_next, List.append_assoc]
            rfl
          have hl0 : (str S).size ≤ 1000 := by rw [str_size, hS.out]; simp only [List.length_append, base_len, xyB_len]; omega
          clear hS2
          go_wp2
          go_round
          case rel => exact ⟨j + 1, S2, by omega, by rw [show (1 + ((j + 1 : Nat) : Int)) = 1 + (j : Int) + 1 from by omega], rfl, HS2⟩
          case measure => simp [intOf]; omega
        · have hi2 : ¬ 1 + (j : Int) < 25 + (q : Int) := by have := HJ.out; omega
          obtain rfl : j = J := by omega
          obtain ⟨S2, hS2⟩ : ∃ S2, S2 = S ++ [13, 10] := ⟨_, rfl⟩
          have hcat : str S ++ (⟨#[13, 10]⟩ : ByteArray) = str S2 := by rw [hS2]; exact str_cat2 S [13, 10]
          have he1 : (runW WSt.new S2).2.1 = if j ≤ 31 then 0 else 2 := by rw [hS2, hS.out]; exact bounds_fields j
          have hl1 : S2.length ≤ 1000 := by rw [hS2, hS.out]; simp only [List.length_append, base_len, xyB_len, List.length_cons, List.length_nil]; omega
          have hl0 : (str S).size ≤ 1000 := by rw [str_size, hS.out]; simp only [List.length_append, base_len, xyB_len]; omega
          obtain ⟨E1, hE1⟩ : ∃ E1, E1 = (runW WSt.new S2).2.1 := ⟨_, rfl⟩
          rw [← hE1] at he1
          have HE1 := Lib.hid he1
          have HR1 := Lib.hid hE1
          clear he1 hS2 hE1
          go_wp2_with fail
          refine (wnew_any w2).mono ?_
          rintro e w3 ⟨rfl, hw3, hc3⟩
          obtain ⟨G3, hcon3, hG1, hG2, hrd3, hbw3⟩ := conv_new S2 w3
          have hs3 := hc3.size
          have hgl3 := hw3.blk.lt
          go_wp2_with fail
          refine (feed_new w2.heap.size (some ⟨w3.heap.size, 0, none⟩) S2.length G3 S2 m w2 w3 _ (Nat.le_refl _) hw3 hc3 hbw3 hrd3 rfl hG1 (hG2 (by omega)) (by omega) (fun ad e _ => by injection e with e; subst e; simp only [newAt] at hgl3; simp only; omega) (hm.chg hc2 id)).mono ?_
          rintro e w4 ⟨⟨A4, n4, c4, rfl⟩, hc4⟩
          rw [← HR1.out]
          have hc04 := hc2.trans hc4 (fun _ _ => id)
          have hrL4 := hrL.chg hc4 (fun _ _ => id)
          -- the second wire
          obtain ⟨X1, hX1⟩ : ∃ X1, X1 = baseB ++ L := ⟨_, rfl⟩
          obtain ⟨X2, hX2⟩ : ∃ X2, X2 = X1 ++ [13, 10, 13, 10] := ⟨_, rfl⟩
          have hcx1 : (⟨#[71, 69, 84, 32, 47, 32, 72, 84, 84, 80, 47, 49, 46, 49, 13, 10, 72, 111, 115, 116, 58, 32, 97, 13, 10]⟩ : ByteArray) ++ str L = str X1 := by rw [hX1]; exact str_cat2 baseB L
          have hcx2 : str X1 ++ (⟨#[13, 10, 13, 10]⟩ : ByteArray) = str X2 := by rw [hX2]; exact str_cat2 X1 [13, 10, 13, 10]
          have he2 : (runW WSt.new X2).2.1 = if k + 2 ≤ 1024 then 0 else 2 := by rw [hX2, hX1, HL.out]; exact bounds_line k (by omega)
          have hl2 : X2.length ≤ 1100 := by rw [hX2, hX1]; simp only [List.length_append, base_len, HLl.out, List.length_cons, List.length_nil]; omega
          have hlx : (str X1).size ≤ 1090 ∧ (str L).size ≤ 1040 := by rw [str_size, str_size, hX1]; simp only [List.length_append, base_len, HLl.out]; omega
          obtain ⟨hlx1, hlx2⟩ := hlx
          obtain ⟨E2, hE2⟩ : ∃ E2, E2 = (runW WSt.new X2).2.1 := ⟨_, rfl⟩
          rw [← hE2] at he2
          have HE2 := Lib.hid he2
          have HR2 := Lib.hid hE2
          have hcvL := conv_rd w4.drew (some ⟨w0.heap.size, 0, none⟩) k k L HLl.out (Rd.of_row (hrL4.chg ((Chg.refl w4 _).drew) (fun _ _ => id)))
          obtain ⟨G5, hcon5, hG51, hG52, hrd5, hbw5⟩ := conv_new X2 w4.drew
          clear hX1 hX2 he2 hE2
          go_wp2_with fail
          -- THE REGIONS
          refine wp_region_held_drew (S := fun w' => Row w' (.slice (some ⟨w0.heap.size, 0, none⟩) k k) L ∧ Chg w4 w' (fun _ => False)) (by kernel_rfl) ⟨hrL4.chg ((Chg.refl w4 (fun _ => False)).drew) (fun _ _ => id), (Chg.refl w4 _).drew⟩ (fun hHeld => ?_)
          refine wpAnyH_take (i := 1) (oi := { dst := some 52, op := Go.Op.move (Go.Operand.tmp 5), type := _, pos := _, after := _, guard := none }) (v := ?v1) rfl (by kernel_rfl) (by kernel_rfl) (by kernel_rfl) (fun _ _ _ h => h) (Or.inl ⟨by rfl, ?y1⟩) (by assumption) ?r1
          case y1 => (intro wS hSw; (try dsimp only at hSw); go_simp; (try with_reducible rfl))
          try simp only [Act.put, List.setIfInBounds_toArray, List.set_cons_zero, List.set_cons_succ]
          refine wpAnyH_take (i := 2) (oi := { dst := some 53, op := Go.Op.convert _ _ (Go.Operand.tmp 52), type := _, pos := _, after := _, guard := none }) (v := ?v2) rfl (by kernel_rfl) (by kernel_rfl) (by kernel_rfl) (fun _ _ _ h => h) (Or.inl ⟨by rfl, ?y2⟩) (by assumption) ?r2
          case y2 => (intro wS hSw; (try dsimp only at hSw); have hcv := conv_rd wS (some ⟨w0.heap.size, 0, none⟩) k k L HLl.out (Rd.of_row hSw.1); go_simp; (try with_reducible rfl))
          try simp only [Act.put, List.setIfInBounds_toArray, List.set_cons_zero, List.set_cons_succ]
          refine wpAnyH_take (i := 3) (oi := { dst := some 54, op := Go.Op.binOp Go.BinOp.add _ (Go.Operand.const (Go.Value.string { data := #[71, 69, 84, 32, 47, 32, 72, 84, 84, 80, 47, 49, 46, 49, 13, 10, 72, 111, 115, 116, 58, 32, 97, 13, 10] })) (Go.Operand.tmp 53) _, type := _, pos := _, after := _, guard := none }) (v := ?v3) rfl (by kernel_rfl) (by kernel_rfl) (by kernel_rfl) (fun _ _ _ h => h) (Or.inl ⟨by rfl, ?y3⟩) (by assumption) ?r3
          case y3 => (intro wS hSw; (try dsimp only at hSw); go_simp; rw [if_neg (show ¬ 9223372036854775807 < 25 + (str L).size by omega)])
          try simp only [Act.put, List.setIfInBounds_toArray, List.set_cons_zero, List.set_cons_succ]
          refine wpAnyH_take (i := 4) (oi := { dst := some 55, op := Go.Op.binOp Go.BinOp.add _ (Go.Operand.tmp 54) (Go.Operand.const (Go.Value.string { data := #[13, 10, 13, 10] })) _, type := _, pos := _, after := _, guard := none }) (v := ?v4) rfl (by kernel_rfl) (by kernel_rfl) (by kernel_rfl) (fun _ _ _ h => h) (Or.inl ⟨by rfl, ?y4⟩) (by assumption) ?r4
          case y4 => (intro wS hSw; (try dsimp only at hSw); go_simp; rw [if_neg (show ¬ 9223372036854775807 < (str X1).size + 4 by omega)])
          try simp only [Act.put, List.setIfInBounds_toArray, List.set_cons_zero, List.set_cons_succ]
          refine wpAnyH_ready (rs := [0, 5]) (by kernel_rfl) (by simp) ?_
          refine AllReadyH.cons (o := { dst := some 51, op := Go.Op.call { callee := Go.Callee.value (Go.Operand.func 39), args := #[], argTypes := _ }, type := _, pos := _, after := _, guard := none }) rfl (fun K hK => ?a0) (AllReadyH.cons (o := { dst := some 56, op := Go.Op.convert _ _ (Go.Operand.tmp 55), type := _, pos := _, after := _, guard := none }) rfl (fun K hK => ?a5) AllReadyH.nil)
          case a0 =>
            go_simp
            refine (wnew_any _).mono ?_
            rintro e w5 ⟨rfl, hw5, hc5⟩
            have hgl5 := hw5.blk.lt
            simp only [newAt] at hgl5
            obtain ⟨G6, hcon6, hG61, hG62, hrd6, hbw6⟩ := conv_new X2 w5
            go_wp2_with fail
            refine hK.out _ _ (⟨hHeld.1.chg hc5 (fun _ _ => id), hHeld.2.trans hc5 (fun _ _ => id)⟩) (fun hHeld => ?_)
            clear hK K
            try simp only [Act.put, List.setIfInBounds_toArray, List.set_cons_zero, List.set_cons_succ]
            have hcq : Chg w4 w5 (fun _ => False) := hHeld.2
            refine wpAnyH_ready (rs := [5]) (by kernel_rfl) (by simp) ?_
            refine AllReadyH.cons (o := { dst := some 56, op := Go.Op.convert _ _ (Go.Operand.tmp 55), type := _, pos := _, after := _, guard := none }) rfl (fun K hK => ?_) AllReadyH.nil
            go_simp
            refine hK.out _ _ (⟨hHeld.1.chg hbw6 (fun _ _ => id), hHeld.2.trans hbw6 (fun _ _ => id)⟩) (fun hHeld => ?_)
            clear hK K
            try simp only [Act.put, List.setIfInBounds_toArray, List.set_cons_zero, List.set_cons_succ]
            refine wpAnyH_ready (rs := [6]) (by kernel_rfl) (by simp) ?_
            refine AllReadyH.cons (o := { dst := some 57, op := Go.Op.call { callee := Go.Callee.value (Go.Operand.func 40), args := #[Go.Operand.tmp 51, Go.Operand.tmp 56], argTypes := _ }, type := _, pos := _, after := _, guard := none }) rfl (fun K hK => ?_) AllReadyH.nil
            go_simp
            refine (feed_new w4.heap.size (some ⟨w5.heap.size, 0, none⟩) X2.length G6 X2 m w4 w5 _ (Nat.le_refl _) hw5 hcq hbw6 hrd6 rfl hG61 (hG62 (by omega)) (by omega) (fun ad e _ => by injection e with e; subst e; simp only; simp at hgl5; omega) (hm.chg hc04 id)).mono ?_
            rintro e w7 ⟨⟨A7, n7, c7, rfl⟩, hc7⟩
            rw [← HR2.out]
            go_wp2_with fail
            refine hK.out _ _ (⟨hrL4.chg hc7 (fun _ _ => id), hc7⟩) (fun hHeld => ?_)
            clear hK K
            try simp only [Act.put, List.setIfInBounds_toArray, List.set_cons_zero, List.set_cons_succ]
            refine wpAnyH_take (i := 7) (oi := { dst := some 50, op := Go.Op.move (Go.Operand.tmp 57), type := _, pos := _, after := _, guard := none }) (v := ?v5) rfl (by kernel_rfl) (by kernel_rfl) (by kernel_rfl) (fun _ _ _ h => h) (Or.inl ⟨by rfl, ?y5⟩) (by assumption) ?r5
            case y5 => (intro wS hSw; (try dsimp only at hSw); go_simp; (try with_reducible rfl))
            try simp only [Act.put, List.setIfInBounds_toArray, List.set_cons_zero, List.set_cons_succ]
            refine wpAnyH_take (i := 8) (oi := { dst := some 58, op := Go.Op.extract (Go.Operand.tmp 50) 0, type := _, pos := _, after := _, guard := none }) (v := ?v6) rfl (by kernel_rfl) (by kernel_rfl) (by kernel_rfl) (fun _ _ _ h => h) (Or.inl ⟨by rfl, ?y6⟩) (by assumption) ?r6
            case y6 => (intro wS hSw; (try dsimp only at hSw); go_simp; (try with_reducible rfl))
            try simp only [Act.put, List.setIfInBounds_toArray, List.set_cons_zero, List.set_cons_succ]
            refine wpAnyH_take (i := 9) (oi := { dst := some 59, op := Go.Op.extract (Go.Operand.tmp 50) 1, type := _, pos := _, after := _, guard := none }) (v := ?v7) rfl (by kernel_rfl) (by kernel_rfl) (by kernel_rfl) (fun _ _ _ h => h) (Or.inl ⟨by rfl, ?y7⟩) (by assumption) ?r7
            case y7 => (intro wS hSw; (try dsimp only at hSw); go_simp; (try with_reducible rfl))
            try simp only [Act.put, List.setIfInBounds_toArray, List.set_cons_zero, List.set_cons_succ]
            refine wpAnyH_take (i := 10) (oi := { dst := some 11, op := Go.Op.assign (Go.Operand.tmp 58), type := _, pos := _, after := _, guard := none }) (v := ?v8) rfl (by kernel_rfl) (by kernel_rfl) (by kernel_rfl) (fun _ _ _ h => h) (Or.inl ⟨by rfl, ?y8⟩) (by assumption) ?r8
            case y8 => (intro wS hSw; (try dsimp only at hSw); go_simp; (try with_reducible rfl))
            try simp only [Act.put, List.setIfInBounds_toArray, List.set_cons_zero, List.set_cons_succ]
            refine wpAnyH_take (i := 11) (oi := { dst := some 12, op := Go.Op.assign (Go.Operand.tmp 59), type := _, pos := _, after := _, guard := none }) (v := ?v9) rfl (by kernel_rfl) (by kernel_rfl) (by kernel_rfl) (fun _ _ _ h => h) (Or.inl ⟨by rfl, ?y9⟩) (by assumption) ?r9
            case y9 => (intro wS hSw; (try dsimp only at hSw); go_simp; (try with_reducible rfl))
            try simp only [Act.put, List.setIfInBounds_toArray, List.set_cons_zero, List.set_cons_succ]
            refine wpAnyH_done (by kernel_rfl) ?_ _
            have hc07 := hc04.trans hc7 (fun _ _ => id)
            have hrL7 := hrL4.chg hc7 (fun _ _ => id)
            have hNc := HN.out
            have Hb1 : Hid (25 + (q : Int) = 1 + (j : Int)) := by have := HJ.out; show 25 + (q : Int) = 1 + (j : Int); omega
            obtain ⟨M, hMd⟩ : ∃ M, M = min k 1023 := ⟨_, rfl⟩
            have hMk : M ≤ k := by omega
            have hM23 : M ≤ 1023 := by omega
            have hmin : min (1000 + (p : Int)) 1023 = (M : Int) := by omega
            have hLt : (L.take M).length = M := by rw [List.length_take, HLl.out]; omega
            have hno : ∀ c, c ∈ L.take M → c ≠ 10 := fun c hc => by have := List.mem_of_mem_take hc; rw [HL.out] at this; exact lineA_ne _ c this
            have HR3 := Lib.hid (bounds_more hno (by rw [hLt]; omega))
            have HLt := Lib.hid hLt
            have hpos : (0 : Int) ≤ (M : Int) := by omega
            have hkI : (M : Int) ≤ (k : Int) := by omega
            have hkI2 : (k : Int) = 1000 + (p : Int) := by omega
            have HkI2 := Lib.hid hkI2
            clear hno hLt hNc hkI2 hMd
            go_wp2_with fail
            refine wp_region_held_drew (S := fun w' => Row w' (.slice (some ⟨w0.heap.size, 0, none⟩) k k) L ∧ Chg w7 w' (fun _ => False)) (by kernel_rfl) ⟨hrL7.chg ((Chg.refl w7 (fun _ => False)).drew) (fun _ _ => id), (Chg.refl w7 _).drew⟩ (fun hHeld => ?_)
            refine wpAnyH_take (i := 1) (oi := { dst := some 62, op := Go.Op.move (Go.Operand.tmp 5), type := _, pos := _, after := _, guard := none }) (v := ?v15) rfl (by kernel_rfl) (by kernel_rfl) (by kernel_rfl) (fun _ _ _ h => h) (Or.inl ⟨by rfl, ?y15⟩) (by assumption) ?r15
            case y15 => (intro wS hSw; (try dsimp only at hSw); go_simp; (try with_reducible rfl))
            try simp only [Act.put, List.setIfInBounds_toArray, List.set_cons_zero, List.set_cons_succ]
            refine wpAnyH_take (i := 2) (oi := { dst := some 63, op := Go.Op.move (Go.Operand.tmp 0), type := _, pos := _, after := _, guard := none }) (v := ?v16) rfl (by kernel_rfl) (by kernel_rfl) (by kernel_rfl) (fun _ _ _ h => h) (Or.inl ⟨by rfl, ?y16⟩) (by assumption) ?r16
            case y16 => (intro wS hSw; (try dsimp only at hSw); go_simp; (try with_reducible rfl))
            try simp only [Act.put, List.setIfInBounds_toArray, List.set_cons_zero, List.set_cons_succ]
            refine wpAnyH_take (i := 3) (oi := { dst := some 64, op := Go.Op.call { callee := Go.Callee.builtin Go.Builtin.min, args := #[Go.Operand.tmp 63, Go.Operand.const (Go.Value.int Go.IntKind.i64 1023)], argTypes := _ }, type := _, pos := _, after := _, guard := none }) (v := ?v17) rfl (by kernel_rfl) (by kernel_rfl) (by kernel_rfl) (fun _ _ _ h => h) (Or.inl ⟨by rfl, ?y17⟩) (by assumption) ?r17
            case y17 => (intro wS hSw; (try dsimp only at hSw); go_simp; (try with_reducible rfl))
            try simp only [Act.put, List.setIfInBounds_toArray, List.set_cons_zero, List.set_cons_succ]
            refine wpAnyH_take (i := 4) (oi := { dst := some 65, op := Go.Op.slice _ (Go.Operand.tmp 62) none (some (Go.Operand.tmp 64)) none, type := _, pos := _, after := _, guard := none }) (v := ?v18) rfl (by kernel_rfl) (by kernel_rfl) (by kernel_rfl) (fun _ _ _ h => h) (Or.inl ⟨by rfl, ?y18⟩) (by assumption) ?r18
            case y18 => (intro wS hSw; (try dsimp only at hSw); go_simp; (try with_reducible rfl))
            try simp only [Act.put, List.setIfInBounds_toArray, List.set_cons_zero, List.set_cons_succ]
            refine wpAnyH_ready (rs := [0]) (by kernel_rfl) (by simp) ?_
            refine AllReadyH.cons (o := { dst := some 61, op := Go.Op.call { callee := Go.Callee.value (Go.Operand.func 39), args := #[], argTypes := _ }, type := _, pos := _, after := _, guard := none }) rfl (fun K hK => ?_) AllReadyH.nil
            go_simp
            refine (wnew_any _).mono ?_
            rintro e w8 ⟨rfl, hw8, hc8⟩
            go_wp2_with fail
            refine hK.out _ _ (⟨hHeld.1.chg hc8 (fun _ _ => id), hHeld.2.trans hc8 (fun _ _ => id)⟩) (fun hHeld => ?_)
            clear hK K
            try simp only [Act.put, List.setIfInBounds_toArray, List.set_cons_zero, List.set_cons_succ]
            have hcq8 : Chg w7 w8 (fun _ => False) := hHeld.2
            have hrq8 : Row w8 (.slice (some ⟨w0.heap.size, 0, none⟩) k k) L := hHeld.1
            have hlt0 := hset.lt
            have hz2 := hc4.size
            have hz7 := hc7.size
            refine wpAnyH_ready (rs := [5]) (by kernel_rfl) (by simp) ?_
            refine AllReadyH.cons (o := { dst := some 66, op := Go.Op.call { callee := Go.Callee.value (Go.Operand.func 40), args := #[Go.Operand.tmp 61, Go.Operand.tmp 65], argTypes := _ }, type := _, pos := _, after := _, guard := none }) rfl (fun K hK => ?_) AllReadyH.nil
            go_simp
            refine (feed_new _ (some ⟨w0.heap.size, 0, none⟩) M k (L.take M) m w7 w8 w8 (Nat.le_refl _) hw8 hcq8 (Chg.refl _ _) ((Rd.of_row hrq8).take M) HLt.out hMk (by omega) (by omega) (fun ad e _ => by have e := (Option.some.inj e).symm; subst e; simp only [World.drew]; exact Nat.ne_of_lt (Nat.lt_of_lt_of_le hlt0 (Nat.le_trans hz2 hz7))) (hm.chg hc07 id)).mono ?_
            rintro e w9 ⟨⟨A9, n9, c9, rfl⟩, hc9⟩
            rw [HR3.out]
            go_wp2_with fail
            refine hK.out _ _ (⟨hrL7.chg hc9 (fun _ _ => id), hc9⟩) (fun hHeld => ?_)
            clear hK K
            try simp only [Act.put, List.setIfInBounds_toArray, List.set_cons_zero, List.set_cons_succ]
            refine wpAnyH_take (i := 6) (oi := { dst := some 60, op := Go.Op.move (Go.Operand.tmp 66), type := _, pos := _, after := _, guard := none }) (v := ?v19) rfl (by kernel_rfl) (by kernel_rfl) (by kernel_rfl) (fun _ _ _ h => h) (Or.inl ⟨by rfl, ?y19⟩) (by assumption) ?r19
            case y19 => (intro wS hSw; (try dsimp only at hSw); go_simp; (try with_reducible rfl))
            try simp only [Act.put, List.setIfInBounds_toArray, List.set_cons_zero, List.set_cons_succ]
            refine wpAnyH_take (i := 7) (oi := { dst := some 67, op := Go.Op.extract (Go.Operand.tmp 60) 0, type := _, pos := _, after := _, guard := none }) (v := ?v20) rfl (by kernel_rfl) (by kernel_rfl) (by kernel_rfl) (fun _ _ _ h => h) (Or.inl ⟨by rfl, ?y20⟩) (by assumption) ?r20
            case y20 => (intro wS hSw; (try dsimp only at hSw); go_simp; (try with_reducible rfl))
            try simp only [Act.put, List.setIfInBounds_toArray, List.set_cons_zero, List.set_cons_succ]
            refine wpAnyH_take (i := 8) (oi := { dst := some 68, op := Go.Op.extract (Go.Operand.tmp 60) 1, type := _, pos := _, after := _, guard := none }) (v := ?v21) rfl (by kernel_rfl) (by kernel_rfl) (by kernel_rfl) (fun _ _ _ h => h) (Or.inl ⟨by rfl, ?y21⟩) (by assumption) ?r21
            case y21 => (intro wS hSw; (try dsimp only at hSw); go_simp; (try with_reducible rfl))
            try simp only [Act.put, List.setIfInBounds_toArray, List.set_cons_zero, List.set_cons_succ]
            refine wpAnyH_take (i := 9) (oi := { dst := some 13, op := Go.Op.assign (Go.Operand.tmp 67), type := _, pos := _, after := _, guard := none }) (v := ?v22) rfl (by kernel_rfl) (by kernel_rfl) (by kernel_rfl) (fun _ _ _ h => h) (Or.inl ⟨by rfl, ?y22⟩) (by assumption) ?r22
            case y22 => (intro wS hSw; (try dsimp only at hSw); go_simp; (try with_reducible rfl))
            try simp only [Act.put, List.setIfInBounds_toArray, List.set_cons_zero, List.set_cons_succ]
            refine wpAnyH_take (i := 10) (oi := { dst := some 14, op := Go.Op.assign (Go.Operand.tmp 68), type := _, pos := _, after := _, guard := none }) (v := ?v23) rfl (by kernel_rfl) (by kernel_rfl) (by kernel_rfl) (fun _ _ _ h => h) (Or.inl ⟨by rfl, ?y23⟩) (by assumption) ?r23
            case y23 => (intro wS hSw; (try dsimp only at hSw); go_simp; (try with_reducible rfl))
            try simp only [Act.put, List.setIfInBounds_toArray, List.set_cons_zero, List.set_cons_succ]
            refine wpAnyH_done (by kernel_rfl) ?_ _
            have HC9 := Lib.hid (hc07.trans hc9 (fun _ _ => id))
            have hE1 := HE1.out
            have hb1 := Hb1.out
            have hE2 := HE2.out
            have hkI2 := HkI2.out
            clear HR1 HR2 hHeld HR3 hmin hpos hkI
            try clear hcq8
            try clear hrq8
            try clear hw8
            try clear hc8
            try clear hrL7
            try clear hrL4
            try clear hrL
            try clear hlt0
            try clear hz2
            try clear hz7
            try clear hset
            try clear hcvL
            try clear hcx1
            try clear hcx2
            try clear hcat
            try clear hrd3
            try clear hrd5
            try clear hcon3
            try clear hcon5
            try clear hcon6
            try clear hrd6
            try clear hw3
            try clear hc3
            try clear hw5
            try clear hc5
            try clear hcq
            try clear hG1
            try clear hG2
            try clear hG51
            try clear hG52
            try clear hG61
            try clear hG62
            try clear hbw3
            try clear hbw5
            try clear hbw6
            try clear hs3
            try clear hgl3
            try clear hgl5
            try clear hlx1
            try clear hlx2
            try clear hl0
            try clear hl1
            try clear hl2
            try clear HL
            try clear HLl
            try clear HLt
            try clear Hpl
            try clear Hql
            try clear hmk
            try clear hz
            try clear hcz
            try clear hS
            try clear hc0
            try clear hcs
            try clear hc2
            try clear hc4
            try clear hc04
            try clear hc7
            try clear hc07
            try clear hc9
            try clear hm
            try clear HE1
            try clear HE2
            by_cases hJ1 : j ≤ 31
            · skip
              rw [if_pos hJ1] at hE1
              subst hE1
              have hf1 : ¬ 32 < 25 + (q : Int) := by omega
              have hf2 : 25 + (q : Int) ≤ 32 := by omega
              by_cases hK1 : k + 2 ≤ 1024
              · skip
                rw [if_pos hK1] at hE2
                subst hE2
                have hf3 : ¬ 1024 < 1000 + (p : Int) + 2 := by omega
                have hf4 : 1000 + (p : Int) + 2 ≤ 1024 := by omega
                clear hb1 Hb1 hkI2 HkI2 hMk hM23 hi1 hi2 hJ1 hK1
                go_wp2
                go_ret
                exact ⟨rfl, HC9.out⟩
              · skip
                rw [if_neg hK1] at hE2
                subst hE2
                have hf3 : 1024 < 1000 + (p : Int) + 2 := by omega
                have hf4 : ¬ 1000 + (p : Int) + 2 ≤ 1024 := by omega
                clear hb1 Hb1 hkI2 HkI2 hMk hM23 hi1 hi2 hJ1 hK1
                go_wp2
                go_ret
                exact ⟨rfl, HC9.out⟩
            · skip
              rw [if_neg hJ1] at hE1
              subst hE1
              have hf1 : 32 < 25 + (q : Int) := by omega
              have hf2 : ¬ 25 + (q : Int) ≤ 32 := by omega
              by_cases hK1 : k + 2 ≤ 1024
              · skip
                rw [if_pos hK1] at hE2
                subst hE2
                have hf3 : ¬ 1024 < 1000 + (p : Int) + 2 := by omega
                have hf4 : 1000 + (p : Int) + 2 ≤ 1024 := by omega
                clear hb1 Hb1 hkI2 HkI2 hMk hM23 hi1 hi2 hJ1 hK1
                go_wp2
                go_ret
                exact ⟨rfl, HC9.out⟩
              · skip
                rw [if_neg hK1] at hE2
                subst hE2
                have hf3 : 1024 < 1000 + (p : Int) + 2 := by omega
                have hf4 : ¬ 1000 + (p : Int) + 2 ≤ 1024 := by omega
                clear hb1 Hb1 hkI2 HkI2 hMk hM23 hi1 hi2 hJ1 hK1
                go_wp2
                go_ret
                exact ⟨rfl, HC9.out⟩
          case a5 =>
            go_simp
            refine hK.out _ _ (⟨hHeld.1.chg hbw5 (fun _ _ => id), hHeld.2.trans hbw5 (fun _ _ => id)⟩) (fun hHeld => ?_)
            clear hK K
            try simp only [Act.put, List.setIfInBounds_toArray, List.set_cons_zero, List.set_cons_succ]
            refine wpAnyH_ready (rs := [0]) (by kernel_rfl) (by simp) ?_
            refine AllReadyH.cons (o := { dst := some 51, op := Go.Op.call { callee := Go.Callee.value (Go.Operand.func 39), args := #[], argTypes := _ }, type := _, pos := _, after := _, guard := none }) rfl (fun K hK => ?_) AllReadyH.nil
            go_simp
            refine (wnew_any _).mono ?_
            rintro e w5 ⟨rfl, hw5, hc5⟩
            have hgl5 := hw5.blk.lt
            simp only [newAt] at hgl5
            go_wp2_with fail
            refine hK.out _ _ (⟨hHeld.1.chg hc5 (fun _ _ => id), hHeld.2.trans hc5 (fun _ _ => id)⟩) (fun hHeld => ?_)
            clear hK K
            try simp only [Act.put, List.setIfInBounds_toArray, List.set_cons_zero, List.set_cons_succ]
            have hcq : Chg w4 w5 (fun _ => False) := hHeld.2
            refine wpAnyH_ready (rs := [6]) (by kernel_rfl) (by simp) ?_
            refine AllReadyH.cons (o := { dst := some 57, op := Go.Op.call { callee := Go.Callee.value (Go.Operand.func 40), args := #[Go.Operand.tmp 51, Go.Operand.tmp 56], argTypes := _ }, type := _, pos := _, after := _, guard := none }) rfl (fun K hK => ?_) AllReadyH.nil
            go_simp
            refine (feed_new _ (some ⟨w4.drew.heap.size, 0, none⟩) X2.length G5 X2 m w4 w5 w5 (by rw [Lib.bytesWorld_size]; simp) hw5 hcq (Chg.refl _ _) (hrd5.chg hc5 (fun _ _ _ => id)) rfl hG51 (hG52 (by omega)) (by omega) (fun ad e _ => by injection e with e; subst e; rw [Lib.bytesWorld_size]; simp) (hm.chg hc04 id)).mono ?_
            rintro e w7 ⟨⟨A7, n7, c7, rfl⟩, hc7⟩
            rw [← HR2.out]
            go_wp2_with fail
            refine hK.out _ _ (⟨hrL4.chg hc7 (fun _ _ => id), hc7⟩) (fun hHeld => ?_)
            clear hK K
            try simp only [Act.put, List.setIfInBounds_toArray, List.set_cons_zero, List.set_cons_succ]
            refine wpAnyH_take (i := 7) (oi := { dst := some 50, op := Go.Op.move (Go.Operand.tmp 57), type := _, pos := _, after := _, guard := none }) (v := ?v10) rfl (by kernel_rfl) (by kernel_rfl) (by kernel_rfl) (fun _ _ _ h => h) (Or.inl ⟨by rfl, ?y10⟩) (by assumption) ?r10
            case y10 => (intro wS hSw; (try dsimp only at hSw); go_simp; (try with_reducible rfl))
            try simp only [Act.put, List.setIfInBounds_toArray, List.set_cons_zero, List.set_cons_succ]
            refine wpAnyH_take (i := 8) (oi := { dst := some 58, op := Go.Op.extract (Go.Operand.tmp 50) 0, type := _, pos := _, after := _, guard := none }) (v := ?v11) rfl (by kernel_rfl) (by kernel_rfl) (by kernel_rfl) (fun _ _ _ h => h) (Or.inl ⟨by rfl, ?y11⟩) (by assumption) ?r11
            case y11 => (intro wS hSw; (try dsimp only at hSw); go_simp; (try with_reducible rfl))
            try simp only [Act.put, List.setIfInBounds_toArray, List.set_cons_zero, List.set_cons_succ]
            refine wpAnyH_take (i := 9) (oi := { dst := some 59, op := Go.Op.extract (Go.Operand.tmp 50) 1, type := _, pos := _, after := _, guard := none }) (v := ?v12) rfl (by kernel_rfl) (by kernel_rfl) (by kernel_rfl) (fun _ _ _ h => h) (Or.inl ⟨by rfl, ?y12⟩) (by assumption) ?r12
            case y12 => (intro wS hSw; (try dsimp only at hSw); go_simp; (try with_reducible rfl))
            try simp only [Act.put, List.setIfInBounds_toArray, List.set_cons_zero, List.set_cons_succ]
            refine wpAnyH_take (i := 10) (oi := { dst := some 11, op := Go.Op.assign (Go.Operand.tmp 58), type := _, pos := _, after := _, guard := none }) (v := ?v13) rfl (by kernel_rfl) (by kernel_rfl) (by kernel_rfl) (fun _ _ _ h => h) (Or.inl ⟨by rfl, ?y13⟩) (by assumption) ?r13
            case y13 => (intro wS hSw; (try dsimp only at hSw); go_simp; (try with_reducible rfl))
            try simp only [Act.put, List.setIfInBounds_toArray, List.set_cons_zero, List.set_cons_succ]
            refine wpAnyH_take (i := 11) (oi := { dst := some 12, op := Go.Op.assign (Go.Operand.tmp 59), type := _, pos := _, after := _, guard := none }) (v := ?v14) rfl (by kernel_rfl) (by kernel_rfl) (by kernel_rfl) (fun _ _ _ h => h) (Or.inl ⟨by rfl, ?y14⟩) (by assumption) ?r14
            case y14 => (intro wS hSw; (try dsimp only at hSw); go_simp; (try with_reducible rfl))
            try simp only [Act.put, List.setIfInBounds_toArray, List.set_cons_zero, List.set_cons_succ]
            refine wpAnyH_done (by kernel_rfl) ?_ _
            have hc07 := hc04.trans hc7 (fun _ _ => id)
            have hrL7 := hrL4.chg hc7 (fun _ _ => id)
            have hNc := HN.out
            have Hb1 : Hid (25 + (q : Int) = 1 + (j : Int)) := by have := HJ.out; show 25 + (q : Int) = 1 + (j : Int); omega
            obtain ⟨M, hMd⟩ : ∃ M, M = min k 1023 := ⟨_, rfl⟩
            have hMk : M ≤ k := by omega
            have hM23 : M ≤ 1023 := by omega
            have hmin : min (1000 + (p : Int)) 1023 = (M : Int) := by omega
            have hLt : (L.take M).length = M := by rw [List.length_take, HLl.out]; omega
            have hno : ∀ c, c ∈ L.take M → c ≠ 10 := fun c hc => by have := List.mem_of_mem_take hc; rw [HL.out] at this; exact lineA_ne _ c this
            have HR3 := Lib.hid (bounds_more hno (by rw [hLt]; omega))
            have HLt := Lib.hid hLt
            have hpos : (0 : Int) ≤ (M : Int) := by omega
            have hkI : (M : Int) ≤ (k : Int) := by omega
            have hkI2 : (k : Int) = 1000 + (p : Int) := by omega
            have HkI2 := Lib.hid hkI2
            clear hno hLt hNc hkI2 hMd
            go_wp2_with fail
            refine wp_region_held_drew (S := fun w' => Row w' (.slice (some ⟨w0.heap.size, 0, none⟩) k k) L ∧ Chg w7 w' (fun _ => False)) (by kernel_rfl) ⟨hrL7.chg ((Chg.refl w7 (fun _ => False)).drew) (fun _ _ => id), (Chg.refl w7 _).drew⟩ (fun hHeld => ?_)
            refine wpAnyH_take (i := 1) (oi := { dst := some 62, op := Go.Op.move (Go.Operand.tmp 5), type := _, pos := _, after := _, guard := none }) (v := ?vb15) rfl (by kernel_rfl) (by kernel_rfl) (by kernel_rfl) (fun _ _ _ h => h) (Or.inl ⟨by rfl, ?yb15⟩) (by assumption) ?rb15
            case yb15 => (intro wS hSw; (try dsimp only at hSw); go_simp; (try with_reducible rfl))
            try simp only [Act.put, List.setIfInBounds_toArray, List.set_cons_zero, List.set_cons_succ]
            refine wpAnyH_take (i := 2) (oi := { dst := some 63, op := Go.Op.move (Go.Operand.tmp 0), type := _, pos := _, after := _, guard := none }) (v := ?vb16) rfl (by kernel_rfl) (by kernel_rfl) (by kernel_rfl) (fun _ _ _ h => h) (Or.inl ⟨by rfl, ?yb16⟩) (by assumption) ?rb16
            case yb16 => (intro wS hSw; (try dsimp only at hSw); go_simp; (try with_reducible rfl))
            try simp only [Act.put, List.setIfInBounds_toArray, List.set_cons_zero, List.set_cons_succ]
            refine wpAnyH_take (i := 3) (oi := { dst := some 64, op := Go.Op.call { callee := Go.Callee.builtin Go.Builtin.min, args := #[Go.Operand.tmp 63, Go.Operand.const (Go.Value.int Go.IntKind.i64 1023)], argTypes := _ }, type := _, pos := _, after := _, guard := none }) (v := ?vb17) rfl (by kernel_rfl) (by kernel_rfl) (by kernel_rfl) (fun _ _ _ h => h) (Or.inl ⟨by rfl, ?yb17⟩) (by assumption) ?rb17
            case yb17 => (intro wS hSw; (try dsimp only at hSw); go_simp; (try with_reducible rfl))
            try simp only [Act.put, List.setIfInBounds_toArray, List.set_cons_zero, List.set_cons_succ]
            refine wpAnyH_take (i := 4) (oi := { dst := some 65, op := Go.Op.slice _ (Go.Operand.tmp 62) none (some (Go.Operand.tmp 64)) none, type := _, pos := _, after := _, guard := none }) (v := ?vb18) rfl (by kernel_rfl) (by kernel_rfl) (by kernel_rfl) (fun _ _ _ h => h) (Or.inl ⟨by rfl, ?yb18⟩) (by assumption) ?rb18
            case yb18 => (intro wS hSw; (try dsimp only at hSw); go_simp; (try with_reducible rfl))
            try simp only [Act.put, List.setIfInBounds_toArray, List.set_cons_zero, List.set_cons_succ]
            refine wpAnyH_ready (rs := [0]) (by kernel_rfl) (by simp) ?_
            refine AllReadyH.cons (o := { dst := some 61, op := Go.Op.call { callee := Go.Callee.value (Go.Operand.func 39), args := #[], argTypes := _ }, type := _, pos := _, after := _, guard := none }) rfl (fun K hK => ?_) AllReadyH.nil
            go_simp
            refine (wnew_any _).mono ?_
            rintro e w8 ⟨rfl, hw8, hc8⟩
            go_wp2_with fail
            refine hK.out _ _ (⟨hHeld.1.chg hc8 (fun _ _ => id), hHeld.2.trans hc8 (fun _ _ => id)⟩) (fun hHeld => ?_)
            clear hK K
            try simp only [Act.put, List.setIfInBounds_toArray, List.set_cons_zero, List.set_cons_succ]
            have hcq8 : Chg w7 w8 (fun _ => False) := hHeld.2
            have hrq8 : Row w8 (.slice (some ⟨w0.heap.size, 0, none⟩) k k) L := hHeld.1
            have hlt0 := hset.lt
            have hz2 := hc4.size
            have hz7 := hc7.size
            refine wpAnyH_ready (rs := [5]) (by kernel_rfl) (by simp) ?_
            refine AllReadyH.cons (o := { dst := some 66, op := Go.Op.call { callee := Go.Callee.value (Go.Operand.func 40), args := #[Go.Operand.tmp 61, Go.Operand.tmp 65], argTypes := _ }, type := _, pos := _, after := _, guard := none }) rfl (fun K hK => ?_) AllReadyH.nil
            go_simp
            refine (feed_new _ (some ⟨w0.heap.size, 0, none⟩) M k (L.take M) m w7 w8 w8 (Nat.le_refl _) hw8 hcq8 (Chg.refl _ _) ((Rd.of_row hrq8).take M) HLt.out hMk (by omega) (by omega) (fun ad e _ => by have e := (Option.some.inj e).symm; subst e; simp only [World.drew]; exact Nat.ne_of_lt (Nat.lt_of_lt_of_le hlt0 (Nat.le_trans hz2 hz7))) (hm.chg hc07 id)).mono ?_
            rintro e w9 ⟨⟨A9, n9, c9, rfl⟩, hc9⟩
            rw [HR3.out]
            go_wp2_with fail
            refine hK.out _ _ (⟨hrL7.chg hc9 (fun _ _ => id), hc9⟩) (fun hHeld => ?_)
            clear hK K
            try simp only [Act.put, List.setIfInBounds_toArray, List.set_cons_zero, List.set_cons_succ]
            refine wpAnyH_take (i := 6) (oi := { dst := some 60, op := Go.Op.move (Go.Operand.tmp 66), type := _, pos := _, after := _, guard := none }) (v := ?vb19) rfl (by kernel_rfl) (by kernel_rfl) (by kernel_rfl) (fun _ _ _ h => h) (Or.inl ⟨by rfl, ?yb19⟩) (by assumption) ?rb19
            case yb19 => (intro wS hSw; (try dsimp only at hSw); go_simp; (try with_reducible rfl))
            try simp only [Act.put, List.setIfInBounds_toArray, List.set_cons_zero, List.set_cons_succ]
            refine wpAnyH_take (i := 7) (oi := { dst := some 67, op := Go.Op.extract (Go.Operand.tmp 60) 0, type := _, pos := _, after := _, guard := none }) (v := ?vb20) rfl (by kernel_rfl) (by kernel_rfl) (by kernel_rfl) (fun _ _ _ h => h) (Or.inl ⟨by rfl, ?yb20⟩) (by assumption) ?rb20
            case yb20 => (intro wS hSw; (try dsimp only at hSw); go_simp; (try with_reducible rfl))
            try simp only [Act.put, List.setIfInBounds_toArray, List.set_cons_zero, List.set_cons_succ]
            refine wpAnyH_take (i := 8) (oi := { dst := some 68, op := Go.Op.extract (Go.Operand.tmp 60) 1, type := _, pos := _, after := _, guard := none }) (v := ?vb21) rfl (by kernel_rfl) (by kernel_rfl) (by kernel_rfl) (fun _ _ _ h => h) (Or.inl ⟨by rfl, ?yb21⟩) (by assumption) ?rb21
            case yb21 => (intro wS hSw; (try dsimp only at hSw); go_simp; (try with_reducible rfl))
            try simp only [Act.put, List.setIfInBounds_toArray, List.set_cons_zero, List.set_cons_succ]
            refine wpAnyH_take (i := 9) (oi := { dst := some 13, op := Go.Op.assign (Go.Operand.tmp 67), type := _, pos := _, after := _, guard := none }) (v := ?vb22) rfl (by kernel_rfl) (by kernel_rfl) (by kernel_rfl) (fun _ _ _ h => h) (Or.inl ⟨by rfl, ?yb22⟩) (by assumption) ?rb22
            case yb22 => (intro wS hSw; (try dsimp only at hSw); go_simp; (try with_reducible rfl))
            try simp only [Act.put, List.setIfInBounds_toArray, List.set_cons_zero, List.set_cons_succ]
            refine wpAnyH_take (i := 10) (oi := { dst := some 14, op := Go.Op.assign (Go.Operand.tmp 68), type := _, pos := _, after := _, guard := none }) (v := ?vb23) rfl (by kernel_rfl) (by kernel_rfl) (by kernel_rfl) (fun _ _ _ h => h) (Or.inl ⟨by rfl, ?yb23⟩) (by assumption) ?rb23
            case yb23 => (intro wS hSw; (try dsimp only at hSw); go_simp; (try with_reducible rfl))
            try simp only [Act.put, List.setIfInBounds_toArray, List.set_cons_zero, List.set_cons_succ]
            refine wpAnyH_done (by kernel_rfl) ?_ _
            have HC9 := Lib.hid (hc07.trans hc9 (fun _ _ => id))
            have hE1 := HE1.out
            have hb1 := Hb1.out
            have hE2 := HE2.out
            have hkI2 := HkI2.out
            clear HR1 HR2 hHeld HR3 hmin hpos hkI
            try clear hcq8
            try clear hrq8
            try clear hw8
            try clear hc8
            try clear hrL7
            try clear hrL4
            try clear hrL
            try clear hlt0
            try clear hz2
            try clear hz7
            try clear hset
            try clear hcvL
            try clear hcx1
            try clear hcx2
            try clear hcat
            try clear hrd3
            try clear hrd5
            try clear hcon3
            try clear hcon5
            try clear hcon6
            try clear hrd6
            try clear hw3
            try clear hc3
            try clear hw5
            try clear hc5
            try clear hcq
            try clear hG1
            try clear hG2
            try clear hG51
            try clear hG52
            try clear hG61
            try clear hG62
            try clear hbw3
            try clear hbw5
            try clear hbw6
            try clear hs3
            try clear hgl3
            try clear hgl5
            try clear hlx1
            try clear hlx2
            try clear hl0
            try clear hl1
            try clear hl2
            try clear HL
            try clear HLl
            try clear HLt
            try clear Hpl
            try clear Hql
            try clear hmk
            try clear hz
            try clear hcz
            try clear hS
            try clear hc0
            try clear hcs
            try clear hc2
            try clear hc4
            try clear hc04
            try clear hc7
            try clear hc07
            try clear hc9
            try clear hm
            try clear HE1
            try clear HE2
            by_cases hJ1 : j ≤ 31
            · skip
              rw [if_pos hJ1] at hE1
              subst hE1
              have hf1 : ¬ 32 < 25 + (q : Int) := by omega
              have hf2 : 25 + (q : Int) ≤ 32 := by omega
              by_cases hK1 : k + 2 ≤ 1024
              · skip
                rw [if_pos hK1] at hE2
                subst hE2
                have hf3 : ¬ 1024 < 1000 + (p : Int) + 2 := by omega
                have hf4 : 1000 + (p : Int) + 2 ≤ 1024 := by omega
                clear hb1 Hb1 hkI2 HkI2 hMk hM23 hi1 hi2 hJ1 hK1
                go_wp2
                go_ret
                exact ⟨rfl, HC9.out⟩
              · skip
                rw [if_neg hK1] at hE2
                subst hE2
                have hf3 : 1024 < 1000 + (p : Int) + 2 := by omega
                have hf4 : ¬ 1000 + (p : Int) + 2 ≤ 1024 := by omega
                clear hb1 Hb1 hkI2 HkI2 hMk hM23 hi1 hi2 hJ1 hK1
                go_wp2
                go_ret
                exact ⟨rfl, HC9.out⟩
            · skip
              rw [if_neg hJ1] at hE1
              subst hE1
              have hf1 : 32 < 25 + (q : Int) := by omega
              have hf2 : ¬ 25 + (q : Int) ≤ 32 := by omega
              by_cases hK1 : k + 2 ≤ 1024
              · skip
                rw [if_pos hK1] at hE2
                subst hE2
                have hf3 : ¬ 1024 < 1000 + (p : Int) + 2 := by omega
                have hf4 : 1000 + (p : Int) + 2 ≤ 1024 := by omega
                clear hb1 Hb1 hkI2 HkI2 hMk hM23 hi1 hi2 hJ1 hK1
                go_wp2
                go_ret
                exact ⟨rfl, HC9.out⟩
              · skip
                rw [if_neg hK1] at hE2
                subst hE2
                have hf3 : 1024 < 1000 + (p : Int) + 2 := by omega
                have hf4 : ¬ 1000 + (p : Int) + 2 ≤ 1024 := by omega
                clear hb1 Hb1 hkI2 HkI2 hMk hM23 hi1 hi2 hJ1 hK1
                go_wp2
                go_ret
                exact ⟨rfl, HC9.out⟩
end Go.Proofs.YtkbmajkoojgkpaaDoor
