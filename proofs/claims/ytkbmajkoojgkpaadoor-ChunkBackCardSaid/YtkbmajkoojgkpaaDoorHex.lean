/- The contracts of strconv.AppendInt at base 16 and what it calls. -/
import Derived.Test.YtkbmajkoojgkpaaDoorMem
import Derived.Test.YtkbmajkoojgkpaaDoorPlain7
import Derived.LoopTactic
import Derived.Deep.LoopGhost
import Derived.WalkSpells
import Derived.Lib.Hide
namespace Go.Proofs.YtkbmajkoojgkpaaDoor
open Go.RowKit

/-- The one cell that is read of the table. -/
structure Tab (w : World) : Prop where mk :: (out : w.cell? ⟨5, 15, none⟩ = some (.int .u8 4))
theorem Tab.chg {w w' : World} {S : Nat → Prop} (h : Tab w) (hc : Chg w w' S) (hS : ¬ S 5) : Tab w' := ⟨hc.cell h.out hS⟩

set_option maxHeartbeats 1000000 in
theorem zeros_any (w : World) (h : Tab w) : Calls Tryd.prog 115 #[.int .u64 16] w fun e w' => e = .returned (.int .i64 4) ∧ w = w' := by
  have hc := h.out
  have h1 : bits .and .u64 16 (IntKind.u64.wrap (-16)) = 16 := by decide +kernel
  have h2 : IntKind.u64.wrap (16 * 285870213051353865) / 288230376151711744 = 15 := by decide +kernel
  have h3 : IntKind.u64.wrap 4573923408821661840 / 288230376151711744 = 15 := by decide +kernel
  go_enter Tryd.func115, Tryd.ntmps115
  go_wp2
  go_ret
  exact ⟨rfl, rfl⟩
set_option maxHeartbeats 1000000 in
theorem zeros2_any (w : World) (h : Tab w) : Calls Tryd.prog 102 #[.int .u64 16] w fun e w' => e = .returned (.int .i64 4) ∧ w = w' := by
  go_enter Tryd.func102, Tryd.ntmps102
  go_wp2_with (go_at_call 115; refine (zeros_any w h).mono ?_; rintro e w' ⟨rfl, rfl⟩)
  go_ret
  exact ⟨rfl, rfl⟩
set_option maxHeartbeats 1000000 in
theorem power_any (w : World) : Calls Tryd.prog 101 #[.int .i64 16] w fun e w' => e = .returned (.bool true) ∧ w = w' := by
  have h1 : bits .and .i64 16 15 = 0 := by decide +kernel
  go_enter Tryd.func101, Tryd.ntmps101
  go_wp2
  go_ret
  exact ⟨rfl, rfl⟩

theorem and15 (v : Nat) (h : v ≤ 1048575) : bits .and .u64 (v : Int) 15 = ((v % 16 : Nat) : Int) := by
  show IntKind.u64.wrap ((BitVec.ofInt 64 (v : Int) &&& BitVec.ofInt 64 15).toNat : Int) = _
  rw [show (15 : Int) = ((15 : Nat) : Int) from rfl, BitVec.ofInt_natCast, BitVec.ofInt_natCast, BitVec.toNat_and, BitVec.toNat_ofNat, BitVec.toNat_ofNat, Nat.mod_eq_of_lt (by omega), show 15 % 2 ^ 64 = 2 ^ 4 - 1 from rfl, Nat.and_two_pow_sub_one_eq_mod]
  unfold IntKind.wrap
  simp [IntKind.signed, IntKind.bits]
  omega

def AppP (v : Value) (xs ys : List UInt8) (w : World) (e : Ending) (w' : World) : Prop :=
  ∃ A c, e = .returned (.slice A (xs.length + ys.length) c) ∧ Row w' (.slice A (xs.length + ys.length) c) (xs ++ ys) ∧ Chg w w' (fun k => v.ownBlock = some k) ∧ NewFoot w v (.slice A (xs.length + ys.length) c)

def BitsP (v : Value) (xs ys : List UInt8) (w : World) (e : Ending) (w' : World) : Prop :=
  ∃ A c, e = .returned (.tuple #[.slice A (xs.length + ys.length) c, .string ⟨#[]⟩]) ∧ Row w' (.slice A (xs.length + ys.length) c) (xs ++ ys) ∧ Chg w w' (fun k => v.ownBlock = some k) ∧ NewFoot w v (.slice A (xs.length + ys.length) c)

theorem drop_set_here (l : List Value) (i : Nat) (x : Value) (h : i < l.length) : (l.set i x).drop i = x :: l.drop (i + 1) := by
  rw [List.drop_eq_getElem_cons (by simpa using h), List.getElem_set_self, List.drop_set_of_lt (by omega)]

theorem dig_get (k : Nat) (h : k < 16) (hk : k < (⟨#[48, 49, 50, 51, 52, 53, 54, 55, 56, 57, 97, 98, 99, 100, 101, 102, 103, 104, 105, 106, 107, 108, 109, 110, 111, 112, 113, 114, 115, 116, 117, 118, 119, 120, 121, 122]⟩ : ByteArray).size) :
    (⟨#[48, 49, 50, 51, 52, 53, 54, 55, 56, 57, 97, 98, 99, 100, 101, 102, 103, 104, 105, 106, 107, 108, 109, 110, 111, 112, 113, 114, 115, 116, 117, 118, 119, 120, 121, 122]⟩ : ByteArray)[k]'hk = hexC k := by
  have : k = 0 ∨ k = 1 ∨ k = 2 ∨ k = 3 ∨ k = 4 ∨ k = 5 ∨ k = 6 ∨ k = 7 ∨ k = 8 ∨ k = 9 ∨ k = 10 ∨ k = 11 ∨ k = 12 ∨ k = 13 ∨ k = 14 ∨ k = 15 := by omega
  rcases this with rfl | rfl | rfl | rfl | rfl | rfl | rfl | rfl | rfl | rfl | rfl | rfl | rfl | rfl | rfl | rfl <;> rfl

/-- The array while it is filled from its end. -/
structure Fill (w0 : World) (u : Nat) (v i : Nat) (wr : World) : Prop where mk ::
  (out : ∃ (suf : List UInt8) (cs : Array Value), 1 ≤ v ∧ v ≤ u ∧ hexOf v ++ suf = hexOf u ∧ suf.length + i = 65 ∧ cs.size = 65 ∧ cs.toList.drop i = Bs suf ∧ Blk wr w0.heap.size 123 cs ∧ Chg w0 wr (fun _ => False))

theorem Fill.bound {w0 wr : World} {u v i : Nat} (h : Fill w0 u v i wr) (hu : u ≤ 1048575) : 61 ≤ i ∧ i ≤ 65 := by
  obtain ⟨suf, cs, h1, _, h2, h3, _⟩ := h.out
  have h4 := hexOf_le 5 u (by omega)
  rw [← h2, List.length_append] at h4
  have := hexOf_pos (v := v) (by omega)
  omega

theorem Fill.step {w0 wr : World} {u v p : Nat} (h : Fill w0 u v (p + 1) wr) (hv : 16 ≤ v) : Fill w0 u (v / 16) p (wr.setCell ⟨w0.heap.size, p, none⟩ (B8 (hexC (v % 16)))) := by
  obtain ⟨suf, cs, h1, h0, h2, h3, h4, h5, h6, h7⟩ := h.out
  refine ⟨hexC (v % 16) :: suf, cs.setIfInBounds p (B8 (hexC (v % 16))), by omega, by omega, ?_, by simp; omega, by simpa using h4, ?_, by simpa using h6.set p _, h7.setCell (fun e => absurd e (Nat.lt_irrefl _)) _⟩
  · rw [← h2, hexOf_step (v := v) (by omega)]
    simp
  · rw [Array.toList_setIfInBounds, drop_set_here _ _ _ (by simp; omega), h5]
    rfl
theorem Fill.last {w0 wr : World} {u v p : Nat} (h : Fill w0 u v (p + 1) wr) (hv : v < 16) :
    Rd (wr.setCell ⟨w0.heap.size, p, none⟩ (B8 (hexC v))) (some ⟨w0.heap.size, p, none⟩) (hexOf u) ∧ Chg w0 (wr.setCell ⟨w0.heap.size, p, none⟩ (B8 (hexC v))) (fun _ => False) ∧ (hexOf u).length + p = 65 := by
  obtain ⟨suf, cs, h1, h0, h2, h3, h4, h5, h6, h7⟩ := h.out
  have hx : hexOf u = hexC v :: suf := by
    rw [← h2, hexOf_step (v := v) (by omega), show v / 16 = 0 from by omega, hexOf_zero, show v % 16 = v from by omega]
    rfl
  have hblk := h6.set p (B8 (hexC v))
  refine ⟨⟨fun _ => ⟨_, rfl, fun j c hc => ?_⟩⟩, h7.setCell (fun e => absurd e (Nat.lt_irrefl _)) _, by rw [hx]; simp; omega⟩
  have e : (⟨w0.heap.size, p, none⟩ : Addr).add j = ⟨w0.heap.size, p + j, none⟩ := by unfold Addr.add; split <;> simp_all
  rw [e, hblk.cell]
  have hd : ((cs.setIfInBounds p (B8 (hexC v))).toList.drop p)[j]? = some (B8 c) := by
    rw [Array.toList_setIfInBounds, drop_set_here _ _ _ (by simp; omega), h5]
    rw [hx] at hc
    rcases j with _ | j
    · simp at hc ⊢
      rw [hc]
    · simp at hc ⊢
      simp [Bs, hc]
  rw [List.getElem?_drop, Array.getElem?_toList] at hd
  exact hd

theorem slice_arr (g p : Nat) (hp : p ≤ 64) (W : World) : (Instr.sliceAt 123 (.pointer (some ⟨g, 0, none⟩)) (some (.int .i64 p)) none none).run Tryd.prog W = .ok (.slice (some ⟨g, p, none⟩) (65 - p) (65 - p)) W := by
  obtain ⟨i0, hi, hz0, hz1, hz2⟩ := info_parts u8_info
  have harr : Tryd.prog.arrayLen 123 = 65 := by kernel_rfl
  have helem : Tryd.prog.elem 123 = 5 := by kernel_rfl
  rw [run_sliceAt_array_l W _ _ (by rw [harr, helem]; exact Tryd.underlying123) .i64 p (by omega) (by rw [harr]; omega)]
  simp only [helem, harr, sizeOf, typeInfo, Sem.run_bind]
  simp [slicedAt, Addr.add, hi]
  rw [hz1, Nat.mul_one, if_neg (by omega)]
  split <;> simp_all

set_option maxHeartbeats 8000000 in
set_option maxRecDepth 100000 in
theorem bits_any (v : Value) (xs : List UInt8) (u : Nat) (w : World) (hv : Row w v xs) (ht : Tab w) (hu : 1 ≤ u) (hu1 : u ≤ 1048575) (hl : xs.length ≤ 1000000000) :
    Calls Tryd.prog 84 #[v, .int .u64 u, .int .i64 16, .bool false, .bool true] w (BitsP v xs (hexOf u) w) := by
  go_enter Tryd.func84, Tryd.ntmps84
  go_wp2_with fail
  refine (power_any _).mono ?_
  rintro e w1 ⟨rfl, rfl⟩
  go_wp2_with fail
  refine (zeros2_any _ (ht.chg ((Chg.refl w (fun _ => False)).alloc _) id)).mono ?_
  rintro e w1 ⟨rfl, rfl⟩
  go_wp2_with fail
  go_loopw [1, 13] (fun uv iv wr => ∃ (m i : Nat), uv = .int .u64 m ∧ iv = .int .i64 i ∧ Fill w u m i wr) (fun uv _ _ => (intOf uv).toNat)
  case atStart => exact ⟨u, 65, rfl, rfl, ⟨[], Tryd.zeroCells123, hu, Nat.le_refl _, by simp, rfl, by kernel_rfl, by kernel_rfl, Blk.new w _ _, (Chg.refl _ _).alloc _⟩⟩
  case round =>
    obtain ⟨m, i, rfl, rfl, hf⟩ := hrel
    have hbd := hf.bound hu1
    obtain ⟨p, rfl⟩ : ∃ p, i = p + 1 := ⟨i - 1, by omega⟩
    have hm1 : m ≤ 1048575 := by obtain ⟨_, _, _, h0, _⟩ := hf.out; omega
    obtain ⟨⟨cl, hcell⟩, hfree⟩ : (∃ cl, wr.cell? ⟨w.heap.size, p, none⟩ = some cl) ∧ wr.frozen? ⟨w.heap.size, p, none⟩ = false := by
      obtain ⟨suf, cs, _, _, _, _, h4, _, h6, _⟩ := hf.out
      exact ⟨⟨cs[p]'(by omega), by rw [h6.cell]; simp⟩, h6.free p⟩
    have hand := and15 m hm1
    by_cases hlt : 16 ≤ m
    · have hs := hf.step hlt
      go_wp2
      go_roundw
      case rel =>
        refine ⟨m / 16, p, rfl, rfl, ?_⟩
        rw [dig_get (m % 16) (Nat.mod_lt _ (by decide))]
        exact hs
      case measure => simp [intOf]; omega
    · obtain ⟨hs1, hs2, hs3⟩ := hf.last (by omega)
      have hsl := slice_arr w.heap.size p (by omega)
      have hdg := dig_get m (by omega)
      go_wp2_with (at_builtin; refine wpList_app rfl _ _ rfl v xs (by rfl) (hv.chg hs2 (fun _ _ => id)) (some ⟨w.heap.size, p, none⟩) (65 - p) (65 - p) (hexOf u) (by omega) (by rfl) hs1 (by omega) ?_; intro A' c' w1 hrow hc1 hfoot)
      have hlen : 65 - p = (hexOf u).length := by omega
      rw [hlen] at hrow hfoot ⊢
      go_ret2
      exact ⟨A', c', rfl, hrow, (hs2.mono (fun _ _ e => e.elim)).trans hc1 (fun _ _ e => e), fun k e => (hfoot k e).imp id (fun h => Nat.le_trans hs2.size h)⟩

set_option maxHeartbeats 2000000 in
set_option maxRecDepth 100000 in
theorem app_uint (v : Value) (xs : List UInt8) (u : Nat) (w : World) (hv : Row w v xs) (ht : Tab w) (hu : 1 ≤ u) (hu1 : u ≤ 1048575) (hl : xs.length ≤ 1000000000) :
    Calls Tryd.prog 69 #[v, .int .u64 u, .int .i64 16] w (AppP v xs (hexOf u) w) := by
  go_enter Tryd.func69, Tryd.ntmps69
  go_wp2_with fail
  refine (bits_any v xs u w hv ht hu hu1 hl).mono ?_
  rintro e w1 ⟨A, c, rfl, h1, h2, h3⟩
  go_wp2
  go_ret
  exact ⟨A, c, rfl, h1, h2, h3⟩
set_option maxHeartbeats 2000000 in
set_option maxRecDepth 100000 in
theorem app_int0 (v : Value) (xs : List UInt8) (u : Nat) (w : World) (hv : Row w v xs) (ht : Tab w) (hu : 1 ≤ u) (hu1 : u ≤ 1048575) (hl : xs.length ≤ 1000000000) :
    Calls Tryd.prog 55 #[v, .int .i64 u, .int .i64 16] w (AppP v xs (hexOf u) w) := by
  go_enter Tryd.func55, Tryd.ntmps55
  go_wp2_with fail
  refine (app_uint v xs u w hv ht hu hu1 hl).mono ?_
  rintro e w1 ⟨A, c, rfl, h1, h2, h3⟩
  go_wp2
  go_ret
  exact ⟨A, c, rfl, h1, h2, h3⟩
set_option maxHeartbeats 2000000 in
set_option maxRecDepth 100000 in
theorem app_int (v : Value) (xs : List UInt8) (u : Nat) (w : World) (hv : Row w v xs) (ht : Tab w) (hu : 1 ≤ u) (hu1 : u ≤ 1048575) (hl : xs.length ≤ 1000000000) :
    Calls Tryd.prog 42 #[v, .int .i64 u, .int .i64 16] w (AppP v xs (hexOf u) w) := by
  go_enter Tryd.func42, Tryd.ntmps42
  go_wp2_with fail
  refine (app_int0 v xs u w hv ht hu hu1 hl).mono ?_
  rintro e w1 ⟨A, c, rfl, h1, h2, h3⟩
  go_wp2
  go_ret
  exact ⟨A, c, rfl, h1, h2, h3⟩
end Go.Proofs.YtkbmajkoojgkpaaDoor
