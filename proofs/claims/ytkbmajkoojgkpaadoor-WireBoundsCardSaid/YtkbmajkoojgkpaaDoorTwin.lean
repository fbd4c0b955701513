/- The contracts of Twin, Kept, Spoil and Sum. -/
import Derived.Test.YtkbmajkoojgkpaaDoorPieces
import Derived.Laws.CopyOwn
import Derived.Laws.MakeOwn
namespace Go.Proofs.YtkbmajkoojgkpaaDoor
open Go.RowKit

def zeros (n : Nat) : List Value := List.replicate n (.int .u8 0)
def e5 : Value := .int .u8 229
/-- What Twin's row holds when the bytes ahead of place k are written. -/
def twinAt (xs : List UInt8) (k : Nat) : List Value := Bs xs ++ (List.replicate (k - xs.length) e5 ++ zeros (xs.length + 3 - k))
theorem twinAt_length (xs : List UInt8) (k : Nat) (h0 : xs.length ≤ k) (h1 : k ≤ xs.length + 3) : (twinAt xs k).length = xs.length + 3 := by
  simp [twinAt, Bs_length, zeros]; omega
theorem twinAt_set (xs : List UInt8) (k : Nat) (h0 : xs.length ≤ k) (h1 : k < xs.length + 3) : (twinAt xs k).set k e5 = twinAt xs (k + 1) := by
  obtain ⟨d, rfl⟩ : ∃ d, k = xs.length + d := ⟨k - xs.length, by omega⟩
  obtain ⟨m, hm⟩ : ∃ m, xs.length + 3 - (xs.length + d) = m + 1 := ⟨2 - d, by omega⟩
  unfold twinAt zeros
  rw [hm, show xs.length + d - xs.length = d from by omega, show xs.length + d + 1 - xs.length = d + 1 from by omega, show xs.length + 3 - (xs.length + d + 1) = m from by omega]
  rw [List.set_append_right _ _ (by rw [Bs_length]; omega), Bs_length, List.set_append_right _ _ (by simp), List.length_replicate,
    show xs.length + d - xs.length - d = 0 from by omega, List.replicate_succ (n := m), List.set_cons_zero, List.replicate_succ' (n := d)]
  simp
theorem twinAt_start (xs : List UInt8) : splice (zeros (xs.length + 3)) 0 (Bs xs) = twinAt xs xs.length := by
  unfold splice twinAt zeros
  rw [Bs_length]
  simp

set_option maxRecDepth 20000 in
theorem make_bytes (n : Nat) (hn : n ≤ 1073741824) (w : World) : (Instr.makeSlice 22 (.int .i64 n) (.int .i64 n)).run Tryd.prog w = .ok (.slice (some ⟨w.heap.size, 0, none⟩) n n) (w.alloc (.cells (zeros n).toArray 5)) := by
  obtain ⟨i0, hi, hz0, hz1, hz2⟩ := info_parts u8_info
  have h := run_make (P := Tryd.prog) w 22 5 i0 (.int .u8 0) Tryd.underlying22 hi hz0 .i64 .i64 n n (by omega) (by omega) (by rw [hz2]; omega) (by omega)
  simp only [Int.toNat_natCast, hz1, Nat.mul_one] at h
  rw [h]
  congr 3
  apply Array.ext'
  rw [show (Value.int IntKind.u8 0).cells = #[Value.int .u8 0] from rfl, toList_madeCells_one]
  rfl

set_option maxHeartbeats 1000000 in
set_option maxRecDepth 20000 in
theorem twin_any (A : Option Addr) (n c : Nat) (xs : List UInt8) (w : World) (hn : xs.length = n) (hx : Rd w A xs) (hm : n ≤ 1000000000) :
    Calls Tryd.prog 15 #[.slice A n c] w fun e w' => e = .returned (.slice (some ⟨w.heap.size, 0, none⟩) n (n + 3)) ∧ Blk w' w.heap.size 5 (twinAt xs (n + 3)).toArray ∧ Chg w w' (fun _ => False) := by
  subst hn
  have hmk := make_bytes (xs.length + 3) (by omega) w
  rw [show ((xs.length + 3 : Nat) : Int) = (xs.length : Int) + 3 from by omega] at hmk
  have hsz : (Tryd.prog.info? 5).map (·.size) = some 1 := by kernel_rfl
  have hlen : (Bs xs).length = Nat.min xs.length (xs.length + 3) := by rw [Bs_length]; exact (Nat.min_eq_left (by omega)).symm
  have hfit : 0 + (Bs xs).length ≤ (zeros (xs.length + 3)).length := by simp [Bs_length, zeros]
  have hbl : Below w.heap.size w (w.alloc (.cells (zeros (xs.length + 3)).toArray 5)) := (Below.refl _ _).alloc (Nat.le_refl _) _
  have hsrc : 0 < (Bs xs).length → (some ⟨w.heap.size, 0, none⟩ : Option Addr) = some ⟨w.heap.size, 0, none⟩ ∧ ∃ ad, A = some ad ∧ ∀ (j : Nat) (v : Value), (Bs xs)[j]? = some v → (w.alloc (.cells (zeros (xs.length + 3)).toArray 5)).cell? (ad.add j) = some v := by
    intro h
    rw [Bs_length] at h
    obtain ⟨ad, e, hc⟩ := hx.out h
    refine ⟨rfl, ad, e, fun j v hv => ?_⟩
    obtain ⟨x, hx, rfl⟩ := Bs_get _ _ _ hv
    exact ((Chg.refl w (fun _ => False)).alloc _).cell (hc j x hx) id
  have Hsz := Lib.hid hsz
  have Hlen := Lib.hid hlen
  have Hsrc := Lib.hid hsrc
  clear hsz hlen hsrc
  go_enter Tryd.func15, Tryd.ntmps15
  go_wp2_with (with_reducible refine wpList_copy_splice rfl (.tmp 9) (.tmp 10) 22 22 rfl 5 Tryd.underlying22 Hsz.out _ _ _ _ _ _ rfl rfl w.heap.size 0 (zeros (xs.length + 3)) 5 (heap_alloc_new w _) (Bs xs) Hlen.out Hsrc.out hfit (Bs_one xs) w.heap.size w hbl (Nat.le_refl _) ?_; intro w2 hg2 hb2)
  have hb : Blk w2 w.heap.size 5 (twinAt xs xs.length).toArray := ⟨by rw [← twinAt_start]; exact hg2.out⟩
  have hc : Chg w w2 (fun _ => False) := Chg.of_below hb2 _
  clear hg2 hb2
  go_loopw [4] (fun i wr => ∃ k : Nat, xs.length ≤ k ∧ k ≤ xs.length + 3 ∧ i = .int .i64 k ∧ Blk wr w.heap.size 5 (twinAt xs k).toArray ∧ Chg w wr (fun _ => False)) (fun i _ => xs.length + 3 - (intOf i).toNat)
  case atStart => exact ⟨xs.length, Nat.le_refl _, by omega, rfl, hb, hc⟩
  case round =>
    obtain ⟨k, hk0, hk1, rfl, hbk, hck⟩ := hrel
    by_cases hlt : k < xs.length + 3
    · obtain ⟨u, hcell⟩ : ∃ u, wr.cell? ⟨w.heap.size, k, none⟩ = some u := ⟨(twinAt xs k)[k]'(by rw [twinAt_length xs k hk0 hk1]; exact hlt), by rw [hbk.cell]; simp [twinAt_length xs k hk0 hk1, hlt]⟩
      have hfree := hbk.free k
      have hset : Blk (wr.setCell ⟨w.heap.size, k, none⟩ e5) w.heap.size 5 (twinAt xs (k + 1)).toArray := by
        rw [← twinAt_set xs k hk0 hlt]
        simpa using hbk.set k e5
      have hcs := hck.setCell (p := ⟨w.heap.size, k, none⟩) (fun h => absurd h (Nat.lt_irrefl _)) e5
      go_wp2
      go_roundw
      case rel => exact ⟨k + 1, by omega, by omega, by go_num, hset, hcs⟩
      case measure => simp [intOf]; omega
    · obtain rfl : k = xs.length + 3 := by omega
      go_wp2
      go_ret
      exact ⟨rfl, hbk, hck⟩

theorem twin_get (xs : List UInt8) (k : Nat) (h0 : xs.length ≤ k) (h1 : k < xs.length + 3) : (twinAt xs (xs.length + 3))[k]? = some e5 := by
  unfold twinAt zeros
  rw [List.getElem?_append_right (by rw [Bs_length]; exact h0), Bs_length, List.getElem?_append_left (by simp; omega), List.getElem?_replicate, if_pos (by omega)]
theorem twin_row {w : World} {g : Nat} {xs : List UInt8} (h : Blk w g 5 (twinAt xs (xs.length + 3)).toArray) (hm : xs.length ≤ 1000000000) : Row w (.slice (some ⟨g, 0, none⟩) xs.length (xs.length + 3)) xs := by
  refine Row.of_form h (by omega) (by unfold maxLen; omega) (by simp [twinAt_length]) ?_
  simp only []
  unfold twinAt
  rw [List.take_left' (Bs_length xs)]

set_option maxHeartbeats 1000000 in
set_option maxRecDepth 20000 in
theorem kept_any (g : Nat) (A : Option Addr) (n c : Nat) (xs : List UInt8) (w : World) (hn : xs.length = n) (hb : Blk w g 5 (twinAt xs (n + 3)).toArray) (hx : Rd w A xs) (hm : n ≤ 1000000000) :
    Calls Tryd.prog 18 #[.slice (some ⟨g, 0, none⟩) n (n + 3), .slice A n c] w fun e w' => e = .returned (.bool true) ∧ w = w' := by
  subst hn
  have hc1 := conv_rd w (some ⟨g, 0, none⟩) (xs.length + 3) _ xs rfl (Rd.of_row (twin_row hb hm))
  have hc2 := conv_rd w A c _ xs rfl hx
  have hne : (!((str xs).toList == (str xs).toList)) = false := by simp
  have hn2 : ((str xs).toList != (str xs).toList) = false := by simp
  go_enter Tryd.func18, Tryd.ntmps18
  go_wp2_with fail
  go_loop [6] (fun i => ∃ k : Nat, xs.length ≤ k ∧ k ≤ xs.length + 3 ∧ i = .int .i64 k) (fun i => xs.length + 3 - (intOf i).toNat)
  case atStart => exact ⟨xs.length, Nat.le_refl _, by omega, rfl⟩
  case round =>
    obtain ⟨k, hk0, hk1, rfl⟩ := hrel
    by_cases hlt : k < xs.length + 3
    · have hcell : w.cell? ⟨g, k, none⟩ = some (.int .u8 229) := by rw [hb.cell]; simpa [e5] using twin_get xs k hk0 hlt
      go_wp2
      go_round
      case rel => exact ⟨k + 1, by omega, by omega, by go_num⟩
      case measure => simp [intOf]; omega
    · obtain rfl : k = xs.length + 3 := by omega
      go_wp2
      go_ret
      exact ⟨rfl, rfl⟩

set_option maxHeartbeats 1000000 in
set_option maxRecDepth 20000 in
theorem spoil_any (v : Value) (xs : List UInt8) (w : World) (h : Row w v xs) :
    Calls Tryd.prog 19 #[v] w fun e w' => e = .returned (.tuple #[]) ∧ Chg w w' (fun k => v.ownBlock = some k) := by
  rcases h.form with ⟨rfl, rfl⟩ | ⟨g, cap, cur, rfl, hb, h1, h2, h3, h4⟩
  · go_enter Tryd.func19, Tryd.ntmps19
    go_wp2
    refine wp_loop_rounds 1 ?_
    rw [rounds_succ]
    go_wp2
    go_end0
    exact ⟨rfl, Chg.refl _ _⟩
  · unfold maxLen at h2
    go_enter Tryd.func19, Tryd.ntmps19
    go_wp2
    go_loopw [3] (fun i wr => ∃ k : Nat, k ≤ cap ∧ i = .int .i64 k ∧ (∃ cs : Array Value, cs.size = cap ∧ Blk wr g 5 cs) ∧ Chg w wr (fun j => j = g)) (fun i _ => cap - (intOf i).toNat)
    case atStart => exact ⟨0, Nat.zero_le _, rfl, ⟨cur, h3, hb⟩, Chg.refl _ _⟩
    case round =>
      obtain ⟨k, hk, rfl, ⟨cs, hcs, hbk⟩, hc⟩ := hrel
      by_cases hlt : k < cap
      · obtain ⟨u, hcell⟩ : ∃ u, wr.cell? ⟨g, k, none⟩ = some u := ⟨cs[k]'(by omega), by rw [hbk.cell]; simp [hcs, hlt]⟩
        have hfree := hbk.free k
        have hset := hbk.set k (.int .u8 90)
        have Hcs := Lib.hid hcs
        clear hcs
        go_wp2
        go_roundw
        case rel => exact ⟨k + 1, by omega, by go_num, ⟨_, by rw [Array.size_setIfInBounds]; exact Hcs.out, hset⟩, hc.setCell (fun _ => rfl) _⟩
        case measure => simp [intOf]; omega
      · go_wp2
        go_end0
        exact ⟨rfl, hc.mono (fun i _ e => by subst e; rfl)⟩

theorem take_flat (ps : List (List UInt8)) (k : Nat) (hk : k < ps.length) : (ps.take (k + 1)).flatten.length = (ps.take k).flatten.length + (ps[k]).length := by
  rw [List.take_succ_eq_append_getElem hk, List.flatten_append, List.flatten_singleton, List.length_append]
end Go.Proofs.YtkbmajkoojgkpaaDoor
