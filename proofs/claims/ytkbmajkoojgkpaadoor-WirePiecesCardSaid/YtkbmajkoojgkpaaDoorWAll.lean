/- The contract of all: the requests of pieces, and the first error. -/
import Derived.Test.YtkbmajkoojgkpaaDoorWSame
namespace Go.Proofs.YtkbmajkoojgkpaaDoor
open Go.RowKit

theorem run_count : ∀ (xs : List UInt8) (s : WSt), (runW s xs).1.length ≤ xs.length
  | [], s => by simp [runW]
  | c :: cs, s => by
    rw [runW]
    split
    · simp
    · split
      · simp
      · have := run_count cs (byteW s c).2.2
        have h1 : (byteW s c).2.1.toList.length ≤ 1 := by cases (byteW s c).2.1 <;> simp
        simp only [List.length_append, List.length_cons]
        omega
theorem byte_nx {s : WSt} (h : s.Ok) (hn : s.next ≤ 3) (c : UInt8) (h0 : (byteW s c).1 = 0) : (byteW s c).2.2.next ≤ 4 := by
  have hw : ∀ t : WSt, t.next ≤ 3 → (wholeW t).2.next ≤ 4 := fun t ht => by
    unfold wholeW
    split
    · simp only; split <;> decide
    · simp only; omega
  unfold byteW at h0 ⊢
  split
  · rename_i h3
    rw [if_pos h3] at h0
    split
    · exact hw _ (by simp only; omega)
    · rename_i hb
      rw [if_neg hb] at h0
      exact absurd h0 (errW_ne hb)
  · rename_i h3
    rw [if_neg h3] at h0
    split
    · rename_i hz
      exact hw _ (take_pre h (by have := h.nx; omega) c hz).nx.2
    · rename_i hz
      rw [if_neg hz] at h0
      exact absurd h0 hz
theorem run_nx : ∀ (xs : List UInt8) {s : WSt}, s.Ok → s.next ≤ 4 → (runW s xs).2.1 = 0 → (runW s xs).2.2.next ≤ 4
  | [], s, _, hn, _ => hn
  | c :: cs, s, h, hn, h0 => by
    rw [runW] at h0 ⊢
    split
    · exact hn
    · rename_i h4
      rw [if_neg h4] at h0
      split
      · rename_i he
        rw [if_pos he] at h0
        exact absurd h0 he
      · rename_i he
        rw [if_neg he] at h0
        exact run_nx cs (byte_ok h (by omega) c) (byte_nx h (by omega) c (by simpa using he)) h0
theorem run_pieces {ps : List (List UInt8)} {s sk : WSt} {k : Nat} {L : List Req} (hk : k < ps.length) (h : runW s (ps.take k).flatten = (L, 0, sk)) :
    runW s (ps.take (k + 1)).flatten = (L ++ (runW sk ps[k]).1, (runW sk ps[k]).2) := by
  rw [List.take_succ_eq_append_getElem hk, List.flatten_append, List.flatten_singleton, run_append, h]
  simp
theorem take_flat2 (ps : List (List UInt8)) (k : Nat) (hk : k < ps.length) : (ps.take (k + 1)).flatten.length = (ps.take k).flatten.length + (ps[k]).length := by
  rw [List.take_succ_eq_append_getElem hk, List.flatten_append, List.flatten_singleton, List.length_append]
theorem run_stop {ps : List (List UInt8)} {s sk : WSt} {k : Nat} {L : List Req} {E : Int} (h : runW s (ps.take k).flatten = (L, E, sk)) (hE : E ≠ 0) : runW s ps.flatten = (L, E, sk) := by
  have e : ps.flatten = (ps.take k).flatten ++ (ps.drop k).flatten := by rw [← List.flatten_append, List.take_append_drop]
  rw [e, run_append, h]
  simp [hE]

theorem ReqsM.append {w : World} {q q' : List RV} (h : ReqsM w q) (h' : ReqsM w q') (hd : ∀ x, x ∈ q → ∀ y, y ∈ q' → ∀ k, RB x k → ¬ RB y k) : ReqsM w (q ++ q') :=
  ⟨fun x hx => by
    rcases List.mem_append.1 hx with hx | hx
    · exact h.each x hx
    · exact h'.each x hx, List.pairwise_append.2 ⟨h.apart, h'.apart, hd⟩⟩
theorem rcells_append (q q' : List RV) : rcells (q ++ q') = rcells q ++ rcells q' := by simp [rcells]
theorem rcells_one {w : World} {q : List RV} (h : ReqsM w q) : ∀ u ∈ rcells q, u.oneCell' = true := by
  intro u hu
  obtain ⟨x, hx, hu⟩ := List.mem_flatMap.1 hu
  obtain ⟨h1, h2⟩ := h.each x hx
  obtain ⟨A, c, e, -, -⟩ := h1.shape
  obtain ⟨B, d, e2⟩ := row_shape h2
  simp [rcell, e, e2] at hu
  rcases hu with rfl | rfl | rfl | rfl | rfl <;> rfl
theorem RdR.of {w : World} {A : Option Addr} {c : Nat} {q : List RV} (h : RowG w 66 5 (.slice A q.length c) q.length (rcells q)) (hq : ReqsM w q) : RdR w A q :=
  ⟨RdV.of_rowG h, fun x hx => by
    obtain ⟨h1, h2⟩ := hq.each x hx
    obtain ⟨A, c, e, l1, l2⟩ := h1.shape
    obtain ⟨B, d, e2⟩ := row_shape h2
    rw [e] at h1
    rw [e2] at h2
    exact ⟨⟨A, c, e, RowF.rdF h1⟩, ⟨B, d, e2, Rd.of_row h2⟩, by omega⟩⟩

/-- What all hands back. -/
def AllP (xs : List UInt8) (w : World) (e : Ending) (w' : World) : Prop :=
  ∃ (q : List RV) (A : Option Addr) (c : Nat), e = .returned (.tuple #[.slice A q.length c, .int .i64 (runW WSt.new xs).2.1]) ∧ q.map (·.1) = (runW WSt.new xs).1 ∧ Chg w w' (fun _ => False) ∧
    RowG w' 66 5 (.slice A q.length c) q.length (rcells q) ∧ ReqsM w' q
theorem AllP.mk' {xs : List UInt8} {w w' : World} {q : List RV} {A : Option Addr} {c : Nat} {E : Int} (h : runW WSt.new xs = (q.map (·.1), E, (runW WSt.new xs).2.2)) (hc : Chg w w' (fun _ => False))
    (hr : RowG w' 66 5 (.slice A q.length c) q.length (rcells q)) (hq : ReqsM w' q) : AllP xs w (.returned (.tuple #[.slice A q.length c, .int .i64 E])) w' :=
  ⟨q, A, c, by rw [h], by rw [h], hc, hr, hq⟩

/-- What holds at the head of all's loop. -/
def AllRel (g : Nat) (ps : List (List UInt8)) (w : World) (ov iv : Value) (wr : World) : Prop :=
  ∃ (k : Nat) (q : List RV) (sk : WSt) (pk : WAt) (A : Option Addr) (c : Nat), k ≤ ps.length ∧ iv = .int .i64 k ∧ ov = .slice A q.length c ∧ Hid (runW WSt.new (ps.take k).flatten = (q.map (·.1), 0, sk)) ∧ Wire wr pk sk ∧ pk.g = g ∧ Hid (∀ j, pk.foot j → w.heap.size ≤ j) ∧ Chg w wr (fun _ => False) ∧
    RowG wr 66 5 (.slice A q.length c) q.length (rcells q) ∧ ReqsM wr q ∧ Hid (∀ x, x ∈ q → ∀ j, RB x j → w.heap.size ≤ j ∧ ¬ pk.foot j) ∧ Hid (NewFoot w (.slice none 0 0) (.slice A q.length c))

section
variable {w wr w2 w3 : World} {pk p2 : WAt} {sk s2 : WSt} {q q2 : List RV} {A1 A3 A4 : Option Addr} {c1 c3 c4 : Nat}
/-- The facts behind a Feed and an append. -/
theorem all_next (hwk : Wire wr pk sk) (hnf : ∀ j, pk.foot j → w.heap.size ≤ j) (hch : Chg w wr (fun _ => False)) (hrow : RowG wr 66 5 (.slice A1 q.length c1) q.length (rcells q)) (hreq : ReqsM wr q)
    (hrb : ∀ x, x ∈ q → ∀ j, RB x j → w.heap.size ≤ j ∧ ¬ pk.foot j) (hlf : NewFoot w (.slice none 0 0) (.slice A1 q.length c1)) (hw2 : Wire w2 p2 s2) (hn2 : NewW wr pk p2) (hc2 : Chg wr w2 pk.foot) (hreq2 : ReqsM w2 q2)
    (hrb2 : ∀ x, x ∈ q2 → ∀ j, RB x j → (pk.foot j ∨ wr.heap.size ≤ j) ∧ ¬ p2.foot j) (hc3 : Chg w2 w3 (fun i => (Value.slice A1 q.length c1).ownBlock = some i)) (hf3 : NewFoot w2 (.slice A1 q.length c1) (.slice A4 (q.length + q2.length) c4)) :
    Wire w3 p2 s2 ∧ (∀ j, p2.foot j → w.heap.size ≤ j) ∧ Chg w w3 (fun _ => False) ∧ ReqsM w3 (q ++ q2) ∧ (∀ x, x ∈ q ++ q2 → ∀ j, RB x j → w.heap.size ≤ j ∧ ¬ p2.foot j) ∧ NewFoot w (.slice none 0 0) (.slice A4 (q.length + q2.length) c4) := by
  have hgs := hch.size
  have hg2 := hc2.size
  have hrow2 := hrow.chg hc2 (fun i e => hwk.apart hrow e)
  have hreq1 := hreq.chg hc2 (fun x hx i e => (hrb x hx i e).2)
  have hp2 : ∀ j, p2.foot j → w.heap.size ≤ j := fun j e => by
    rcases hn2.2 j e with e | e
    · exact hnf j e
    · omega
  have hc02 : Chg w w2 (fun _ => False) := hch.trans hc2 (fun i hi e => by have := hnf i e; omega)
  have happ : ReqsM w2 (q ++ q2) := hreq1.append hreq2 (fun x hx y hy i e e' => by
    rcases (hrb2 y hy i e').1 with h | h
    · exact (hrb x hx i e).2 h
    · have := hreq.lt hx e
      omega)
  refine ⟨hw2.chg hc3 (fun i e e' => hw2.apart hrow2 e' e), hp2, hc02.trans hc3 (fun i hi e => newFoot_nil hlf hi e), happ.chg hc3 (fun x hx i e e' => happ.apartRow hrow2 e' x hx e), fun x hx i e => ?_, fun i e => ?_⟩
  · rcases List.mem_append.1 hx with hx | hx
    · refine ⟨(hrb x hx i e).1, fun e' => ?_⟩
      rcases hn2.2 i e' with h | h
      · exact (hrb x hx i e).2 h
      · have := hreq.lt hx e
        omega
    · obtain ⟨h1, h2⟩ := hrb2 x hx i e
      refine ⟨?_, h2⟩
      rcases h1 with h1 | h1
      · exact hnf i h1
      · omega
  · rcases hf3 i e with h | h
    · exact hlf i h
    · exact .inr (by omega)
end

set_option maxHeartbeats 8000000 in
set_option maxRecDepth 100000 in
theorem all_any (A : Option Addr) (n c : Nat) (us : List Value) (ps : List (List UInt8)) (D : Nat → Prop) (m : Int) (w : World) (hn : us.length = n) (hr : RdV w A us) (hp : Pcs w D us ps) (hn1 : n ≤ 1000000) (hfl : ps.flatten.length ≤ 1000000) (hm : MaxL w m) :
    Calls Tryd.prog 37 #[.slice A n c] w (AllP ps.flatten w) := by
  subst hn
  have hpl := hp.len
  have Hpl := Lib.hid hpl
  clear hpl
  go_enter Tryd.func37, Tryd.ntmps37
  go_wp2_with fail
  refine (wnew_any w).mono ?_
  rintro e w0 ⟨rfl, hw0, hc0⟩
  go_wp2_with fail
  go_loopw [5, 6] (fun ov iv wr => AllRel w.heap.size ps w ov iv wr) (fun _ iv _ => us.length - (intOf iv).toNat)
  case atStart => exact ⟨0, [], WSt.new, newAt w.heap.size, none, 0, Nat.zero_le _, rfl, rfl, (show runW WSt.new (ps.take 0).flatten = ([], 0, WSt.new) by simp [runW]), hw0, rfl, (show ∀ j, (newAt w.heap.size).foot j → w.heap.size ≤ j from fun j e => by rw [newAt_foot e]; exact Nat.le_refl _), hc0, RowG.nil _ _ _, ReqsM.nil _, (show ∀ x, x ∈ ([] : List RV) → ∀ j, RB x j → w.heap.size ≤ j ∧ ¬ (newAt w.heap.size).foot j by simp), (show NewFoot w (.slice none 0 0) (.slice none 0 0) from fun _ e => .inl e)⟩
  case round =>
    obtain ⟨k, q, sk, pk, A1, c1, hk, rfl, rfl, hrun, hwk, hpg, hnf, hch, hrow, hreq, hrb, hlf⟩ := hrel
    have hok : sk.Ok := by have := run_ok (ps.take k).flatten new_ok (by decide); rw [hrun.out] at this; exact this
    have hnx : sk.next ≤ 4 := by have := run_nx (ps.take k).flatten new_ok (by decide) (by rw [hrun.out]); rw [hrun.out] at this; exact this
    have hqc : q.length ≤ (ps.take k).flatten.length := by
      have := run_count (ps.take k).flatten WSt.new
      rw [hrun.out] at this
      simpa using this
    rw [← Hpl.out] at hk
    by_cases hlt : k < us.length
    · have hkp : k < ps.length := by rw [← Hpl.out]; exact hlt
      have hD : ∀ ad : Addr, w.heap.size ≤ ad.block → True := fun _ _ => trivial
      obtain ⟨ad, rfl, hcell⟩ := (hr.chg hch (fun _ _ _ => id)).at hlt
      obtain ⟨A2, c2, hu, hl1, hl2, hrd⟩ := hp.at_ k us[k] ps[k] (List.getElem?_eq_getElem hlt) (List.getElem?_eq_getElem hkp)
      rw [hu] at hcell
      have hflk := take_flat2 ps k hkp
      have hle : (ps.take (k + 1)).flatten.length ≤ ps.flatten.length := by
        have e : ps.flatten = (ps.take (k + 1)).flatten ++ (ps.drop (k + 1)).flatten := by rw [← List.flatten_append, List.take_append_drop]
        have := congrArg List.length e
        rw [List.length_append] at this
        omega
      unfold maxLen at hl2
      have hff := wfeed_any pk sk A2 (ps[k]).length c2 ps[k] m wr hwk hok hnx (hrd.rd.chg hch (fun _ _ _ => id)) rfl hl1 (by omega) (by omega) (fun ad' e hl hf => by
        obtain ⟨ad2, e2, hlt2, _⟩ := hrd.rd.at hl
        rw [e] at e2
        injection e2 with e2
        subst e2
        have := hnf.out _ hf
        omega) (hm.chg hch id) (fun e => by have := hnf.out _ e; have := World.block_lt_of_cell? _ _ hm.out; simp only at this; omega)
      rw [hpg] at hff
      have hqn : q.length + (runW sk ps[k]).1.length ≤ 1000000 := by have := run_count ps[k] sk; omega
      have hstep := run_pieces hkp hrun.out
      have hgs := hch.size
      generalize runW sk ps[k] = R at hff hqn hstep
      obtain ⟨L2, E, s2⟩ := R
      simp only at hqn hstep
      have Hff := Lib.hid hff
      have Hqn := Lib.hid hqn
      have Hstep := Lib.hid hstep
      clear hff hu hflk hle hqn hstep hqc hD
      by_cases hE : E = 0
      · subst hE
        go_wp2_with fail
        refine Hff.out.mono ?_
        rintro e w2 ⟨p2, q2, A3, c3, rfl, hq2, hw2, hn2, hc2, hrow2, hreq2, hrb2, hf2⟩
        have hq2l : q2.length = L2.length := by have := congrArg List.length hq2; simpa using this
        have hqn := Hqn.out
        rw [← hq2l] at hqn
        have Hq2 := Lib.hid hq2
        have hrow1 := hrow.chg hc2 (fun i e => hwk.apart hrow e)
        clear hq2 hq2l
        go_wp2_with (at_builtin; refine wpList_appG Tryd.underlying57 req_info rfl (by decide) (by decide) rfl _ _ rfl (.slice A1 q.length c1) q.length (rcells q) (by rfl) hrow1 A3 q2.length c3 (rcells q2) (rcells_len q2) (by rfl) (RdV.of_rowG hrow2) (rcells_one hreq2) (by omega) ?_; intro A4 c4 w3 hrow3 hc3 hf3)
        obtain ⟨r1, r2, r3, r4, r5, r6⟩ := all_next hwk hnf.out hch hrow hreq hrb.out hlf.out hw2 hn2 hc2 hreq2 hrb2 hc3 hf3
        go_roundw
        case rel =>
          refine ⟨k + 1, q ++ q2, s2, p2, A4, c4, by omega, by go_num, by rw [List.length_append], ?_, r1, hn2.1.trans hpg, r2, r3, by rw [List.length_append, rcells_append]; exact hrow3, r4, r5, by rw [List.length_append]; exact r6⟩
          show runW WSt.new _ = _
          rw [Hstep.out, List.map_append, Hq2.out]
        case measure => simp [intOf]; omega
      · have hE2 : (E != 0) = true := by simpa using hE
        have HE := Lib.hid hE
        clear hE
        go_wp2_with fail
        refine Hff.out.mono ?_
        rintro e w2 ⟨p2, q2, A3, c3, rfl, hq2, hw2, hn2, hc2, hrow2, hreq2, hrb2, hf2⟩
        have hq2l : q2.length = L2.length := by have := congrArg List.length hq2; simpa using this
        have hqn := Hqn.out
        rw [← hq2l] at hqn
        have Hq2 := Lib.hid hq2
        have hrow1 := hrow.chg hc2 (fun i e => hwk.apart hrow e)
        clear hq2 hq2l
        go_wp2_with (at_builtin; refine wpList_appG Tryd.underlying57 req_info rfl (by decide) (by decide) rfl _ _ rfl (.slice A1 q.length c1) q.length (rcells q) (by rfl) hrow1 A3 q2.length c3 (rcells q2) (rcells_len q2) (by rfl) (RdV.of_rowG hrow2) (rcells_one hreq2) (by omega) ?_; intro A4 c4 w3 hrow3 hc3 hf3)
        obtain ⟨r1, r2, r3, r4, r5, r6⟩ := all_next hwk hnf.out hch hrow hreq hrb.out hlf.out hw2 hn2 hc2 hreq2 hrb2 hc3 hf3
        go_ret2
        have hfin := run_stop Hstep.out HE.out
        have hall : AllP ps.flatten w (.returned (.tuple #[.slice A4 (q ++ q2).length c4, .int .i64 E])) w3 := AllP.mk' (by rw [hfin, List.map_append, Hq2.out]) r3 (by rw [List.length_append, rcells_append]; exact hrow3) r4
        rw [List.length_append] at hall
        exact hall
    · obtain rfl : k = us.length := by omega
      have hfin : runW WSt.new ps.flatten = (q.map (·.1), 0, sk) := by have := hrun.out; rw [Hpl.out, List.take_length] at this; exact this
      have Hfin := Lib.hid hfin
      clear hfin
      go_wp2
      go_ret2
      exact AllP.mk' (by rw [Hfin.out]) hch hrow hreq
end Go.Proofs.YtkbmajkoojgkpaaDoor
