/- Words for slices of slices of bytes, and the contracts of Place and Cut. -/
import Derived.Test.YtkbmajkoojgkpaaDoorMem
import Derived.LoopTactic
import Derived.WalkSpells
namespace Go.Proofs.YtkbmajkoojgkpaaDoor
open Go.RowKit

/-- A slice of bytes that is read, and that lies in blocks of D. -/
structure RdD (w : World) (D : Nat → Prop) (A : Option Addr) (xs : List UInt8) : Prop where
  rd : Rd w A xs
  lies : ∀ ad, A = some ad → 0 < xs.length → D ad.block

section
variable {w w' : World} {A : Option Addr} {xs : List UInt8} {D S : Nat → Prop}
theorem RdD.chg (h : RdD w D A xs) (hc : Chg w w' S) (hS : ∀ k, D k → ¬ S k) : RdD w' D A xs := ⟨h.rd.chg hc (fun ad e hn => hS _ (h.lies ad e hn)), h.lies⟩
theorem RdD.take (h : RdD w D A xs) (k : Nat) : RdD w D A (xs.take k) := ⟨h.rd.take k, fun ad e hn => h.lies ad e (by rw [List.length_take] at hn; omega)⟩
theorem RdD.drop {k cap : Nat} (h : RdD w D A xs) (hk : k ≤ xs.length) (hc : xs.length ≤ cap) : RdD w D (if cap = k then A else A.map (·.add k)) (xs.drop k) :=
  ⟨h.rd.drop hk hc, fun ad e hn => by
    rw [List.length_drop] at hn
    rw [if_neg (by omega)] at e
    obtain ⟨a, rfl, rfl⟩ := Option.map_eq_some_iff.1 e
    rw [block_add]
    exact h.lies a rfl (by omega)⟩
theorem RdD.cut {k cap : Nat} (h : RdD w D A xs) (h0 : 0 < k) (hk : k ≤ xs.length) (hc : xs.length ≤ cap) : RdD w D (if cap = k then A else A.map (fun x => (⟨x.block, x.off + k, none⟩ : Addr))) (xs.drop k) := by
  have e : (fun x : Addr => (⟨x.block, x.off + k, none⟩ : Addr)) = (·.add k) := by
    funext x
    unfold Addr.add
    rw [if_neg (by omega)]
  rw [e]
  exact h.drop hk hc
theorem RdD.low (h : RdD w D A xs) : RdD w (fun k => D k ∧ k < w.heap.size) A xs :=
  ⟨h.rd, fun ad e hn => ⟨h.lies ad e hn, by
    obtain ⟨ad', e', hlt, _⟩ := h.rd.at hn
    rw [e] at e'
    injection e' with e'
    subst e'
    exact hlt⟩⟩
theorem RdD.mono {D' : Nat → Prop} (h : RdD w D A xs) (hD : ∀ k, D k → D' k) : RdD w D' A xs := ⟨h.rd, fun ad e hn => hD _ (h.lies ad e hn)⟩
end

/-- The cell of a slice. -/
def IsPiece (w : World) (D : Nat → Prop) (u : Value) (p : List UInt8) : Prop := ∃ A c, u = .slice A p.length c ∧ p.length ≤ c ∧ c ≤ maxLen ∧ RdD w D A p

theorem IsPiece.chg {w w' : World} {D S : Nat → Prop} {u : Value} {p : List UInt8} (h : IsPiece w D u p) (hc : Chg w w' S) (hS : ∀ k, D k → ¬ S k) : IsPiece w' D u p := by
  obtain ⟨A, c, e, h1, h2, h3⟩ := h
  exact ⟨A, c, e, h1, h2, h3.chg hc hS⟩

/-- A slice of slices of bytes, its cells us, reads as ps. -/
structure Pcs (w : World) (D : Nat → Prop) (us : List Value) (ps : List (List UInt8)) : Prop where
  len : us.length = ps.length
  at_ : ∀ (j : Nat) (u : Value) (p : List UInt8), us[j]? = some u → ps[j]? = some p → IsPiece w D u p

theorem Pcs.nil (w : World) (D : Nat → Prop) : Pcs w D [] [] := ⟨rfl, fun j u p h => by simp at h⟩
theorem Pcs.chg {w w' : World} {D S : Nat → Prop} {us : List Value} {ps : List (List UInt8)} (h : Pcs w D us ps) (hc : Chg w w' S) (hS : ∀ k, D k → ¬ S k) : Pcs w' D us ps :=
  ⟨h.len, fun j u p hu hp => (h.at_ j u p hu hp).chg hc hS⟩
theorem Pcs.mono {w : World} {D D' : Nat → Prop} {us : List Value} {ps : List (List UInt8)} (h : Pcs w D us ps) (hD : ∀ k, D k → D' k) : Pcs w D' us ps :=
  ⟨h.len, fun j u p hu hp => by
    obtain ⟨A, c, e, h1, h2, h3⟩ := h.at_ j u p hu hp
    exact ⟨A, c, e, h1, h2, h3.mono hD⟩⟩
theorem Pcs.snoc {w : World} {D : Nat → Prop} {us : List Value} {ps : List (List UInt8)} {u : Value} {p : List UInt8} (h : Pcs w D us ps) (hp : IsPiece w D u p) : Pcs w D (us ++ [u]) (ps ++ [p]) :=
  ⟨by simp [h.len], fun j v q hv hq => by
    rw [List.getElem?_append] at hv hq
    rw [h.len] at hv
    split at hv
    · rename_i hj
      rw [if_pos hj] at hq
      exact h.at_ j v q (by simpa using hv) hq
    · rename_i hj
      rw [if_neg hj] at hq
      have h0 : j - ps.length = 0 := by
        have := (List.getElem?_eq_some_iff.1 hq).1
        simp at this
        omega
      rw [h0] at hv hq
      simp at hv hq
      subst hv hq
      exact hp⟩

theorem sl_info : (Tryd.prog.info? 22).map (fun i => (i.zero, i.size, i.bytes)) = some (some (.slice none 0 0), 1, 24) := by kernel_rfl

/-- A row of slices of one's own. -/
structure RowS (w : World) (v : Value) (us : List Value) : Prop where mk :: (out : w.ownsRow 0 22 1 v us.length us)
theorem RowS.nil (w : World) : RowS w (.slice none 0 0) [] := ⟨World.ownsRow_nil _ _ _ _⟩
theorem RowS.lt {w : World} {v : Value} {us : List Value} (h : RowS w v us) {k : Nat} (hk : v.ownBlock = some k) : k < w.heap.size := (h.out.lt k hk).2
theorem RowS.shape {w : World} {v : Value} {us : List Value} (h : RowS w v us) : ∃ A c, v = .slice A us.length c := by
  rcases h.out.2 with ⟨rfl, h0⟩ | ⟨g, cap, cur, rfl, _⟩
  · rw [h0]; exact ⟨_, _, rfl⟩
  · exact ⟨_, _, rfl⟩
theorem RowS.chg {w w' : World} {v : Value} {us : List Value} {S : Nat → Prop} (h : RowS w v us) (hc : Chg w w' S) (hS : ∀ k, v.ownBlock = some k → ¬ S k) : RowS w' v us := by
  refine ⟨h.out.1, ?_⟩
  rcases h.out.2 with h0 | ⟨g, cap, cur, rfl, hb, hg, r⟩
  · exact .inl h0
  · exact .inr ⟨g, cap, cur, rfl, hb, (hc.block g (lt_of_block hg) (hS g rfl)).trans hg, r⟩

/-- A slice of slices that is read: its cells. -/
structure RdV (w : World) (A : Option Addr) (us : List Value) : Prop where mk :: (out : 0 < us.length → ∃ ad, A = some ad ∧ ∀ j u, us[j]? = some u → w.cell? (ad.add j) = some u)
theorem RdV.at {w : World} {A : Option Addr} {us : List Value} {k : Nat} (h : RdV w A us) (hk : k < us.length) : ∃ ad, A = some ad ∧ w.cell? (ad.add k) = some us[k] := by
  obtain ⟨ad, e, hc⟩ := h.out (by omega)
  exact ⟨ad, e, hc k _ (List.getElem?_eq_getElem hk)⟩
theorem RdV.chg {w w' : World} {A : Option Addr} {us : List Value} {S : Nat → Prop} (h : RdV w A us) (hc : Chg w w' S) (hS : ∀ ad, A = some ad → 0 < us.length → ¬ S ad.block) : RdV w' A us :=
  ⟨fun hn => by
    obtain ⟨ad, e, hcell⟩ := h.out hn
    exact ⟨ad, e, fun j u hu => hc.cell (hcell j u hu) (by rw [block_add]; exact hS ad e hn)⟩⟩
theorem RdV.of_row {w : World} {A : Option Addr} {n c : Nat} {us : List Value} (h : RowS w (.slice A n c) us) : RdV w A us := by
  rcases h.out.2 with ⟨e, h0⟩ | ⟨g, cap, cur, e, hb, hg, r⟩
  · exact ⟨fun hn => by omega⟩
  · injection e with e1 e2 e3
    subst e1
    exact ⟨fun hn => ⟨_, rfl, h.out.cells (g := g) rfl⟩⟩

theorem wpList_appS {w : World} {ops : Array Oper} {rest : List Oper} {o : Oper} {a : Act} {Q : Exit → Act → World → Prop} (hgd : o.guard = none) (s x : Operand)
    (ho : o.op = .call { callee := .builtin .append, args := #[s, x], argTypes := #[30, 30] })
    (v : Value) (us : List Value) (hs : a.eval s = v) (hown : RowS w v us) (g c : Nat) (u : Value) (hx : a.eval x = .slice (some ⟨g, 0, none⟩) 1 c) (hg : w.cell? ⟨g, 0, none⟩ = some u) (h1 : u.oneCell' = true)
    (h63 : us.length ≤ 1073741824)
    (h : ∀ A' c' w', RowS w' (.slice A' (us.length + 1) c') (us ++ [u]) → Chg w w' (fun k => v.ownBlock = some k) → NewFoot w v (.slice A' (us.length + 1) c') →
      wpList Tryd.prog ops Q rest (a.put o.dst (.slice A' (us.length + 1) c')) w') : wpList Tryd.prog ops Q (o :: rest) a w := by
  obtain ⟨i0, hi, hz0, hz1, hz2⟩ := info_parts sl_info
  refine wpList_append_own_at w hgd s x 30 ho 0 22 i0 (.slice none 0 0) 1 24 Tryd.underlying30 hi hz0 hz1 hz2 rfl (by decide) v us.length us hs hown.out ⟨g, 0, none⟩ 1 c [u] hx (by rfl) ?_ ?_ (by unfold maxLen; omega) (by omega) (Nat.zero_le _) ?_
  · intro j y hy
    have hj : j < 1 := (List.getElem?_eq_some_iff.1 hy).1
    obtain rfl : j = 0 := by omega
    simp at hy
    subst hy
    simpa [Addr.add] using hg
  · intro y hy
    simp at hy
    subst hy
    exact h1
  · intro v' w' hown' hgrow _ hat
    have hrow : RowS w' v' (us ++ [u]) := ⟨by rw [List.length_append]; exact hown'⟩
    obtain ⟨A', c', hv⟩ := hrow.shape
    rw [List.length_append] at hv
    change v' = .slice A' (us.length + 1) c' at hv
    subst hv
    refine h A' c' w' hrow ((Chg.refl w _).grown hgrow fun k e _ => e) fun k e => ?_
    rcases hat with hat | hat
    · exact .inl (by rw [← hat]; exact e)
    · rw [hat] at e
      injection e with e
      exact .inr (by omega)

/-! ### Place -/
theorem ret_i {a b : Int} (h : a = b) : Ending.returned (.int .i64 a) = .returned (.int .i64 b) := by rw [h]

theorem place_eq (k n : Int) (hn : 1 ≤ n) : (k.tmod n < 0 → k % n = k.tmod n + n) ∧ (0 ≤ k.tmod n → k % n = k.tmod n) ∧ -n < k.tmod n ∧ k.tmod n < n := by
  have e : k % n = k.tmod n % n := by
    have h : k = k.tmod n + n * k.tdiv n := by have := Int.tmod_add_mul_tdiv k n; omega
    rw (occs := .pos [1]) [h]
    exact Int.add_mul_emod_self_left _ _ _
  have hlo : -n < k.tmod n ∧ k.tmod n < n := by
    rcases Int.lt_or_le k 0 with h | h
    · have h1 : k.tmod n = -((-k).tmod n) := by rw [Int.neg_tmod]; omega
      have h2 := Int.tmod_nonneg (a := -k) n (by omega)
      have h3 := Int.tmod_lt_of_pos (-k) (b := n) (by omega)
      omega
    · have h2 := Int.tmod_nonneg (a := k) n h
      have h3 := Int.tmod_lt_of_pos k (b := n) (by omega)
      omega
  refine ⟨fun h => ?_, fun h => ?_, hlo⟩
  · rw [e, ← Int.add_emod_right, Int.emod_eq_of_lt (by omega) (by omega)]
  · rw [e, Int.emod_eq_of_lt h (by omega)]

set_option maxHeartbeats 400000 in
theorem place_any (k n : Int) (w : World) (hn : 1 ≤ n) (hn1 : n ≤ 4611686018427387904) :
    Calls Tryd.prog 25 #[.int .i64 k, .int .i64 n] w fun e w' => e = .returned (.int .i64 (k % n)) ∧ w = w' := by
  obtain ⟨p1, p2, p3, p4⟩ := place_eq k n hn
  have P1 := Lib.hid p1
  have P2 := Lib.hid p2
  clear p1 p2
  go_enter Tryd.func25, Tryd.ntmps25
  go_wp2
  · go_ret
    exact ⟨ret_i (P1.out (by assumption)).symm, rfl⟩
  · go_ret
    exact ⟨ret_i (P2.out (by assumption)).symm, rfl⟩

/-! ### Cut -/
/-- A slice of whole numbers that is read. -/
structure RdI (w : World) (A : Option Addr) (zs : List Int) : Prop where mk :: (out : 0 < zs.length → ∃ ad, A = some ad ∧ ∀ j z, zs[j]? = some z → w.cell? (ad.add j) = some (.int .i64 z))
theorem RdI.at {w : World} {A : Option Addr} {zs : List Int} {k : Nat} (h : RdI w A zs) (hk : k < zs.length) : ∃ ad, A = some ad ∧ w.cell? (ad.add k) = some (.int .i64 zs[k]) := by
  obtain ⟨ad, e, hc⟩ := h.out (by omega)
  exact ⟨ad, e, hc k _ (List.getElem?_eq_getElem hk)⟩
theorem RdI.chg {w w' : World} {A : Option Addr} {zs : List Int} (h : RdI w A zs) (hc : Chg w w' (fun _ => False)) : RdI w' A zs :=
  ⟨fun hn => by
    obtain ⟨ad, e, hcell⟩ := h.out hn
    exact ⟨ad, e, fun j z hz => hc.cell (hcell j z hz) (fun h => h)⟩⟩

/-- What Cut hands back: pieces that make up xs. -/
def CutP (w : World) (D : Nat → Prop) (xs : List UInt8) (most : Nat) (e : Ending) (w' : World) : Prop :=
  ∃ A c us ps, e = .returned (.slice A us.length c) ∧ RowS w' (.slice A us.length c) us ∧ Pcs w' D us ps ∧ ps.flatten = xs ∧ us.length ≤ most + 1 ∧ Chg w w' (fun _ => False) ∧ NewFoot w (.slice none 0 0) (.slice A us.length c)

theorem cut_flat {ps : List (List UInt8)} {ys xs : List UInt8} (h : ps.flatten ++ ys = xs) (h0 : ys.length ≤ 0) : ps.flatten = xs := by
  have e : ys = [] := List.eq_nil_of_length_eq_zero (by omega)
  rw [e, List.append_nil] at h
  exact h
theorem newFoot_nil {w : World} {v : Value} (h : NewFoot w (.slice none 0 0) v) {i : Nat} (hi : i < w.heap.size) : ¬ v.ownBlock = some i := fun e => by
  rcases h i e with h | h
  · simp [Value.ownBlock] at h
  · omega
theorem newFoot_nil_trans {w w1 : World} {v1 v2 : Value} (h1 : NewFoot w (.slice none 0 0) v1) (h2 : NewFoot w1 v1 v2) (hs : w.heap.size ≤ w1.heap.size) : NewFoot w (.slice none 0 0) v2 := fun k e => by
  rcases h2 k e with h | h
  · exact h1 k h
  · exact .inr (by omega)

set_option maxHeartbeats 4000000 in
theorem cut_any (A : Option Addr) (n c : Nat) (xs : List UInt8) (D : Nat → Prop) (B : Option Addr) (m d : Nat) (zs : List Int) (w : World) (hn : xs.length = n) (hx : RdD w D A xs) (hnc : n ≤ c) (hcm : c ≤ 9223372036854775807) (hm : zs.length = m) (hz : RdI w B zs)
    (hn1 : n ≤ 1073741824) (hm1 : m ≤ 1000000) :
    Calls Tryd.prog 20 #[.slice A n c, .slice B m d] w (CutP w D xs m) := by
  subst hn hm
  have hx1 := hx.low
  go_enter Tryd.func20, Tryd.ntmps20
  go_wp2_with fail
  go_loopw [0, 5, 6, 7] (fun bv lv iv _ wr => ∃ k : Nat, k ≤ zs.length ∧ iv = .int .i64 k ∧ ∃ A1 c1 A2 c2 ys us ps, bv = .slice A1 (List.length ys) c1 ∧ lv = .slice A2 (List.length us) c2 ∧ RdD wr (fun k => D k ∧ k < w.heap.size) A1 ys ∧ ys.length ≤ c1 ∧ c1 ≤ c ∧ ys.length ≤ xs.length ∧
      RowS wr (.slice A2 (List.length us) c2) us ∧ Pcs wr (fun k => D k ∧ k < w.heap.size) us ps ∧ ps.flatten ++ ys = xs ∧ us.length ≤ k ∧ Chg w wr (fun _ => False) ∧ NewFoot w (.slice none 0 0) (.slice A2 (List.length us) c2))
    (fun _ _ iv _ _ => zs.length - (intOf iv).toNat)
  case atStart => exact ⟨0, Nat.zero_le _, rfl, A, c, none, 0, xs, [], [], rfl, rfl, hx1, hnc, Nat.le_refl _, Nat.le_refl _, RowS.nil _, Pcs.nil _ _, rfl, Nat.le_refl _, Chg.refl _ _, fun _ e => .inl e⟩
  case round =>
    obtain ⟨k, hk, rfl, A1, c1, A2, c2, ys, us, ps, rfl, rfl, hy, hyc, hcc, hyn, hrow, hpcs, hflat, hus, hchg, hfoot⟩ := hrel
    have HF := Lib.hid hflat
    clear hflat
    have hD : ∀ i, (D i ∧ i < w.heap.size) → ¬ (Value.slice A2 us.length c2).ownBlock = some i := fun i h => newFoot_nil hfoot h.2
    have hpart : k < zs.length ∧ 0 < ys.length ∨ k < zs.length ∧ ys.length ≤ 0 ∨ zs.length ≤ k ∧ 0 < ys.length ∨ zs.length ≤ k ∧ ys.length ≤ 0 := by omega
    rcases hpart with ⟨hlt, hne⟩ | ⟨hlt, hne⟩ | ⟨hlt, hne⟩ | ⟨hlt, hne⟩
    · obtain ⟨ad, rfl, hcell⟩ := (hz.chg hchg).at hlt
      have hy0 : (1 : Int) ≤ ys.length := by omega
      have hp := place_any zs[k] ys.length wr hy0 (by omega)
      have hq0 := Int.emod_nonneg zs[k] (b := (ys.length : Int)) (by omega)
      have hq1 := Int.emod_lt_of_pos zs[k] (b := (ys.length : Int)) (by omega)
      obtain ⟨q, hq⟩ := Int.eq_ofNat_of_zero_le hq0
      rw [hq] at hp hq1
      have Hp := Lib.hid hp
      clear hp hq0 hq
      go_wp2_with (first | (go_at_call 25; refine Hp.out.mono ?_; rintro e w' ⟨rfl, rfl⟩) | (at_builtin; refine wpList_appS rfl _ _ rfl _ us (by rfl) (hrow.chg ((Chg.refl wr (fun _ => False)).alloc _) (fun _ _ => id)) wr.heap.size 1 (.slice A1 (q + 1) c1) (by rfl) ((Blk.new wr _ #[.slice A1 (q + 1) c1]).cell 0) rfl (by omega) ?_; intro A3 c3 w1 hrow1 hc1 hf1))
      have hl : (us ++ [Value.slice A1 (q + 1) c1]).length = us.length + 1 := by simp
      have hl2 : (ys.drop (q + 1)).length = ys.length - (q + 1) := by simp
      have hl3 : (ys.take (q + 1)).length = q + 1 := by rw [List.length_take]; omega
      have hcw : Chg wr w1 (fun k => (Value.slice A2 us.length c2).ownBlock = some k) := ((Chg.refl wr _).alloc _).trans hc1 fun i hi e => e
      go_roundw
      case rel =>
        refine ⟨k + 1, by omega, by go_num, _, _, _, _, ys.drop (q + 1), us ++ [Value.slice A1 (q + 1) c1], ps ++ [ys.take (q + 1)], by rw [hl2], by rw [hl], (hy.cut (by omega) (by omega) hyc).chg hcw hD, by rw [hl2]; omega, by omega, by rw [hl2]; omega, by rw [hl]; exact hrow1, ?_, ?_, by rw [hl]; omega, hchg.trans hcw (fun i hi e => newFoot_nil hfoot hi e), ?_⟩
        · exact (hpcs.chg hcw hD).snoc ⟨A1, c1, by rw [hl3], by omega, by unfold maxLen; omega, (hy.take _).chg hcw hD⟩
        · rw [List.flatten_append, List.flatten_singleton, List.append_assoc, List.take_append_drop]; exact HF.out
        · rw [hl]; exact newFoot_nil_trans hfoot hf1 (by have := hchg.size; simp; omega)
      case measure => simp [intOf]; omega
    · go_wp2
      go_ret
      exact ⟨A2, c2, us, ps, rfl, hrow, hpcs.mono (fun _ h => h.1), cut_flat HF.out hne, by omega, hchg, hfoot⟩
    · go_wp2_with (at_builtin; refine wpList_appS rfl _ _ rfl _ us (by rfl) (hrow.chg ((Chg.refl wr (fun _ => False)).alloc _) (fun _ _ => id)) wr.heap.size 1 (.slice A1 ys.length c1) (by rfl) ((Blk.new wr _ #[.slice A1 ys.length c1]).cell 0) rfl (by omega) ?_; intro A3 c3 w1 hrow1 hc1 hf1)
      have hl : (us ++ [Value.slice A1 ys.length c1]).length = us.length + 1 := by simp
      have hcw : Chg wr w1 (fun k => (Value.slice A2 us.length c2).ownBlock = some k) := ((Chg.refl wr _).alloc _).trans hc1 fun i hi e => e
      go_ret
      refine ⟨A3, c3, us ++ [Value.slice A1 ys.length c1], ps ++ [ys], by rw [hl]; rfl, by rw [hl]; exact hrow1, ?_, ?_, by rw [hl]; omega, hchg.trans hcw (fun i hi e => newFoot_nil hfoot hi e), ?_⟩
      · exact ((hpcs.chg hcw hD).snoc ⟨A1, c1, rfl, hyc, by unfold maxLen; omega, hy.chg hcw hD⟩).mono (fun _ h => h.1)
      · rw [List.flatten_append, List.flatten_singleton]; exact HF.out
      · rw [hl]; exact newFoot_nil_trans hfoot hf1 (by have := hchg.size; simp; omega)
    · go_wp2
      go_ret
      exact ⟨A2, c2, us, ps, rfl, hrow, hpcs.mono (fun _ h => h.1), cut_flat HF.out hne, by omega, hchg, hfoot⟩
end Go.Proofs.YtkbmajkoojgkpaaDoor
