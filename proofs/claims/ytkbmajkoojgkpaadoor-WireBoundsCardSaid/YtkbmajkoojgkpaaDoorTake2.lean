/- Chunk's decoder in memory: the contract of take in every state. -/
import Derived.Test.YtkbmajkoojgkpaaDoorTake
namespace Go.Proofs.YtkbmajkoojgkpaaDoor
open Go.RowKit

theorem or_i64 (a n : Int) (h0 : 0 ≤ a) (h1 : a < 4294967296) (h2 : 0 ≤ n) (h3 : n < 16) : bits .or .i64 (a * 16) n = a * 16 + n := by
  obtain ⟨a, rfl⟩ := Int.eq_ofNat_of_zero_le h0
  obtain ⟨n, rfl⟩ := Int.eq_ofNat_of_zero_le h2
  have hn : n < 2 ^ 4 := by omega
  have e : a * 16 ||| n = a * 16 + n := by
    have := Nat.shiftLeft_add_eq_or_of_lt hn a
    rw [Nat.shiftLeft_eq] at this
    exact this.symm
  have of : ∀ m : Nat, m < 9223372036854775808 → (BitVec.ofInt 64 (m : Int)).toNat = m := fun m hm => by
    rw [BitVec.ofInt_natCast, BitVec.toNat_ofNat]; exact Nat.mod_eq_of_lt (by omega)
  show IntKind.i64.wrap ((BitVec.ofInt 64 (((a : Nat) : Int) * 16) ||| BitVec.ofInt 64 (n : Int)).toNat : Int) = _
  rw [show ((a : Nat) : Int) * 16 = ((a * 16 : Nat) : Int) from by omega, BitVec.toNat_or, of _ (by omega), of _ (by omega), e, IntKind.wrap_i64]
  omega

theorem bodyP_same {w : World} {g : Nat} {v : Value} {s : St} (h : Body w g v s) : BodyP w g v s w := ⟨v, h, Chg.refl _ _, fun _ e => .inl e⟩

/-- A field is written. -/
theorem body_set {w w' : World} {g : Nat} {v : Value} {s s' : St} (h : Body w g v s) (hg : s'.got = s.got) (hb : Blk w' g 71 (cellsOf s' v)) (hc : Chg w w' (fun k => k = g)) : BodyP w g v s' w' :=
  ⟨v, ⟨hb, by rw [hg]; exact h.row.chg hc (fun k e hk => by subst hk; exact h.row.ne_blk h.blk (by decide) e)⟩, hc.mono (fun _ _ e => .inl e), fun _ e => .inl e⟩

set_option maxHeartbeats 400000 in
theorem want_any (g : Nat) (v : Value) (s : St) (c m nx : Int) (w : World) (h : Body w g v s) :
    Calls Tryd.prog 57 #[.pointer (some ⟨g, 0, none⟩), .int .u8 c, .int .u8 m, .int .i64 nx] w fun e w' => e = .returned (.int .i64 (wantF s c m nx).1) ∧ BodyP w g v (wantF s c m nx).2 w' := by
  obtain ⟨k0, -⟩ := h.cells
  obtain ⟨f0, -⟩ := h.free
  unfold wantF
  by_cases hc : c = m
  · rw [if_pos hc]
    go_enter Tryd.func57, Tryd.ntmps57
    go_wp2
    go_ret
    exact ⟨rfl, body_set h rfl ((h.blk.set 0 _).to (by simp [cellsOf])) ((Chg.refl _ _).set1 _ _)⟩
  · rw [if_neg hc]
    go_enter Tryd.func57, Tryd.ntmps57
    go_wp2
    go_ret
    exact ⟨rfl, bodyP_same h⟩

set_option maxHeartbeats 1000000 in
set_option maxRecDepth 100000 in
theorem take_want (g : Nat) (v : Value) (s : St) (c : UInt8) (w : World) (h : Body w g v s) (hn : s.next = 5 ∨ s.next = 6 ∨ s.next = 7 ∨ s.next = 8) :
    Calls Tryd.prog 43 #[.pointer (some ⟨g, 0, none⟩), .int .u8 c.toNat] w fun e w' => e = .returned (.int .i64 (takeF s c).1) ∧ BodyP w g v (takeF s c).2 w' := by
  have hf : ∃ m nx : Int, takeF s c = wantF s c.toNat m nx ∧ (s.next = 5 ∧ m = 13 ∧ nx = 6 ∨ s.next = 6 ∧ m = 10 ∧ nx = 2 ∨ s.next = 7 ∧ m = 13 ∧ nx = 8 ∨ s.next = 8 ∧ m = 10 ∧ nx = 9) := by
    unfold takeF
    rcases hn with h | h | h | h <;> simp [h]
  obtain ⟨m, nx, e, hm⟩ := hf
  rw [e]
  clear e
  have hw := want_any g v s c.toNat m nx w h
  obtain ⟨k0, -⟩ := h.cells
  rcases hm with ⟨h5, rfl, rfl⟩ | ⟨h5, rfl, rfl⟩ | ⟨h5, rfl, rfl⟩ | ⟨h5, rfl, rfl⟩
  all_goals
    rw [h5] at k0
    have Hw := Lib.hid hw
    clear hw h5 hn
    go_enter Tryd.func43, Tryd.ntmps43
    go_wp2_with (go_at_call 57; refine Hw.out.mono ?_; rintro e w' ⟨rfl, hp⟩)
    go_ret
    exact ⟨rfl, hp⟩

set_option maxHeartbeats 1000000 in
set_option maxRecDepth 100000 in
theorem take_size (g : Nat) (v : Value) (s : St) (c : UInt8) (w : World) (h : Body w g v s) (hok : s.Ok) (hn : s.next = 2) :
    Calls Tryd.prog 43 #[.pointer (some ⟨g, 0, none⟩), .int .u8 c.toNat] w fun e w' => e = .returned (.int .i64 (sizeF s c.toNat).1) ∧ BodyP w g v (sizeF s c.toNat).2 w' := by
  have hw := want_any g v s c.toNat 13 3 w h
  obtain ⟨k0, k1, k2, -⟩ := h.cells
  obtain ⟨f0, f1, f2, -⟩ := h.free
  have hl0 := hok.l0
  have hl1 := hok.l1
  have hd0 := hok.d0
  have hd8 := hok.d8
  rw [hn] at k0
  have hdig := digit_any c w
  unfold sizeF
  have Hn := Lib.hid hn
  clear hn
  rcases hv : digV (c.toNat : Int) with _ | n
  · rw [hv] at hdig
    simp only [Option.getD_none, Option.isSome_none] at hdig
    have Hw := Lib.hid hw
    have Hd := Lib.hid hdig
    have Hv := Lib.hid hv
    clear hw hdig hv
    by_cases h0 : s.digits = 0
    · rw [if_pos h0]
      have b0 : (s.digits == 0) = true := by simp [h0]
      have H0 := Lib.hid h0
      clear h0
      go_enter Tryd.func43, Tryd.ntmps43
      go_wp2_with (go_at_call 56; refine Hd.out.mono ?_; rintro e w' ⟨rfl, rfl⟩)
      go_ret
      exact ⟨rfl, bodyP_same h⟩
    · rw [if_neg h0]
      have b0 : (s.digits == 0) = false := by simp [h0]
      have H0 := Lib.hid h0
      clear h0
      go_enter Tryd.func43, Tryd.ntmps43
      go_wp2_with (first | (go_at_call 56; refine Hd.out.mono ?_; rintro e w' ⟨rfl, rfl⟩) | (go_at_call 57; refine Hw.out.mono ?_; rintro e w' ⟨rfl, hp⟩))
      go_ret
      exact ⟨rfl, hp⟩
  · rw [hv] at hdig
    simp only [Option.getD_some, Option.isSome_some] at hdig
    have Hw := Lib.hid hw
    have Hd := Lib.hid hdig
    have hv2 := digV_range hv
    have Hv := Lib.hid hv
    clear hw hdig hv
    by_cases h0 : s.digits < 8
    · simp only [if_pos h0]
      go_enter Tryd.func43, Tryd.ntmps43
      go_wp2_with (go_at_call 56; refine Hd.out.mono ?_; rintro e w' ⟨rfl, rfl⟩)
      go_ret
      rw [or_i64 _ _ hl0 hl1 hv2.1 hv2.2]
      exact ⟨rfl, body_set h rfl (((h.blk.set 1 _).set 2 _).to (by simp [cellsOf])) (((Chg.refl _ _).set1 _ _).set1 _ _)⟩
    · simp only [if_neg h0]
      have b0 : (s.digits == 0) = false := by simp; omega
      go_enter Tryd.func43, Tryd.ntmps43
      go_wp2_with (first | (go_at_call 56; refine Hd.out.mono ?_; rintro e w' ⟨rfl, rfl⟩) | (go_at_call 57; refine Hw.out.mono ?_; rintro e w' ⟨rfl, hp⟩))
      go_ret
      exact ⟨rfl, hp⟩

set_option maxHeartbeats 1000000 in
set_option maxRecDepth 100000 in
theorem take_line (g : Nat) (v : Value) (s : St) (c : UInt8) (w : World) (h : Body w g v s) (hok : s.Ok) (hn : s.next = 3) :
    Calls Tryd.prog 43 #[.pointer (some ⟨g, 0, none⟩), .int .u8 c.toNat] w fun e w' => e = .returned (.int .i64 (lineF s c.toNat).1) ∧ BodyP w g v (lineF s c.toNat).2 w' := by
  obtain ⟨k0, k1, k2, k3, -⟩ := h.cells
  obtain ⟨f0, f1, f2, -⟩ := h.free
  have hl0 := hok.l0
  have hl1 := hok.l1
  have hg := hok.g
  rw [hn] at k0
  obtain ⟨A, cc, hA⟩ := row_shape h.row
  rw [hA] at k3
  have HA := Lib.hid hA
  clear hA
  unfold lineF
  have Hn := Lib.hid hn
  clear hn
  by_cases hc : (c.toNat : Int) = 10
  · rw [if_pos hc]
    have b1 : ((c.toNat : Int) != 10) = false := by simp [hc]
    have Hc := Lib.hid hc
    clear hc
    by_cases hl : 4096 - (s.got.length : Int) < s.left
    · rw [if_pos hl]
      go_enter Tryd.func43, Tryd.ntmps43
      go_wp2
      go_quiet (fail)
      go_wp2
      go_ret
      refine ⟨rfl, body_set h rfl ?_ (by repeat (first | exact Chg.refl _ _ | refine Chg.drewN ?_ _ | refine Chg.set1 ?_ _ _))⟩
      apply Blk.to
      · repeat (first | exact h.blk | apply Blk.drewN | apply Blk.set)
      · simp [cellsOf]
    · rw [if_neg hl]
      by_cases h0 : s.left = 0
      · rw [if_pos h0]
        have b0 : (s.left == 0) = true := by simp [h0]
        have H0 := Lib.hid h0
        clear h0
        go_enter Tryd.func43, Tryd.ntmps43
        go_wp2
        go_quiet (fail)
        go_wp2
        go_ret
        refine ⟨rfl, body_set h rfl ?_ (by repeat (first | exact Chg.refl _ _ | refine Chg.drewN ?_ _ | refine Chg.set1 ?_ _ _))⟩
        apply Blk.to
        · repeat (first | exact h.blk | apply Blk.drewN | apply Blk.set)
        · simp [cellsOf]
      · rw [if_neg h0]
        have b0 : (s.left == 0) = false := by simp [h0]
        go_enter Tryd.func43, Tryd.ntmps43
        go_wp2
        go_quiet (fail)
        go_wp2
        go_ret
        refine ⟨rfl, body_set h rfl ?_ (by repeat (first | exact Chg.refl _ _ | refine Chg.drewN ?_ _ | refine Chg.set1 ?_ _ _))⟩
        apply Blk.to
        · repeat (first | exact h.blk | apply Blk.drewN | apply Blk.set)
        · simp [cellsOf]
  · rw [if_neg hc]
    have b1 : ((c.toNat : Int) != 10) = true := by simpa using hc
    have Hc := Lib.hid hc
    clear hc
    go_enter Tryd.func43, Tryd.ntmps43
    go_wp2
    go_ret
    exact ⟨rfl, body_set h rfl ((h.blk.set 2 _).to (by simp [cellsOf])) ((Chg.refl _ _).set1 _ _)⟩

/-- take, in every state that is not 'none'; the bad that it leaves is the old one. -/
theorem take_any (g : Nat) (v : Value) (s : St) (c : UInt8) (w : World) (h : Body w g v s) (hok : s.Ok) (h0 : s.next ≠ 0) (h9 : s.next ≠ 9) :
    Calls Tryd.prog 43 #[.pointer (some ⟨g, 0, none⟩), .int .u8 c.toNat] w fun e w' => e = .returned (.int .i64 (takeF s c).1) ∧ BodyP w g v (takeF s c).2 w' := by
  have n0 := hok.n0
  have n9 := hok.n9
  by_cases h1 : s.next = 1 ∨ s.next = 4
  · have e : takeF s c = (0, dataF s c) := by unfold takeF; rw [if_pos h1]
    rw [e]; exact take_data g v s c w h hok h1
  by_cases h2 : s.next = 2
  · have e : takeF s c = sizeF s c.toNat := by unfold takeF; rw [if_neg h1, if_pos h2]
    rw [e]; exact take_size g v s c w h hok h2
  by_cases h3 : s.next = 3
  · have e : takeF s c = lineF s c.toNat := by unfold takeF; rw [if_neg h1, if_neg h2, if_pos h3]
    rw [e]; exact take_line g v s c w h hok h3
  · exact take_want g v s c w h (by omega)
end Go.Proofs.YtkbmajkoojgkpaaDoor
