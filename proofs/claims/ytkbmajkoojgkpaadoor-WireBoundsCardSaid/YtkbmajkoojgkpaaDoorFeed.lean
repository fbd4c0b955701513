/- Chunk's decoder in memory: the contracts of Feed, Chunked, Sized, Done and Data. -/
import Derived.Test.YtkbmajkoojgkpaaDoorTake2
import Derived.Test.YtkbmajkoojgkpaaDoorPlain3
import Derived.LoopTactic
import Derived.Deep.LoopGhost
namespace Go.Proofs.YtkbmajkoojgkpaaDoor
open Go.RowKit

/-- After k bytes the state is sk: what is still to come decides the rest. -/
structure Along (s : St) (xs : List UInt8) (k : Nat) (sk : St) : Prop where
  ok : sk.Ok
  ne0 : sk.next ≠ 0
  rest : feedL s xs = ((feedL sk (xs.drop k)).1 + k, (feedL sk (xs.drop k)).2)

theorem Along.start {s : St} (h : s.Ok) (h0 : s.next ≠ 0) (xs : List UInt8) : Along s xs 0 s := ⟨h, h0, by simp⟩
theorem Along.step {s sk : St} {xs : List UInt8} {k : Nat} (h : Along s xs k sk) (hk : k < xs.length) (hon : sk.on = true) : Along s xs (k + 1) (stepF sk xs[k]) := by
  refine ⟨step_ok h.ok _, step_ne0 h.ne0 _, ?_⟩
  rw [h.rest, List.drop_eq_getElem_cons hk]
  simp only [feedL, hon, if_true]
  rw [Nat.add_assoc, Nat.add_comm 1 k]
theorem Along.stop {s sk : St} {xs : List UInt8} {k : Nat} (h : Along s xs k sk) (hs : k = xs.length ∨ sk.on = false) : feedL s xs = (k, sk) := by
  rw [h.rest]
  rcases hs with rfl | hs
  · simp [feedL]
  · cases hd : xs.drop k with
    | nil => simp [feedL]
    | cons c cs => simp [feedL, hs]

theorem body_bad {w : World} {g : Nat} {v : Value} {s : St} (h : Body w g v s) (e : Int) : Body (w.setCell ⟨g, 4, none⟩ (.int .i64 e)) g v { s with bad := e } :=
  ⟨(h.blk.set 4 _).to (by simp [cellsOf]), h.row.chg ((Chg.refl w (fun k => k = g)).set1 4 _) (fun k e hk => by subst hk; exact h.row.ne_blk h.blk (by decide) e)⟩
theorem body_gone {w : World} {g : Nat} {v : Value} {s : St} (h : Body w g v s) : Body (w.setCell ⟨g, 3, none⟩ (.slice none 0 0)) g (.slice none 0 0) { s with got := [] } :=
  ⟨(h.blk.set 3 _).to (by simp [cellsOf]), Row.nil _⟩

theorem foot_old {w : World} {g i : Nat} {v v1 : Value} (hf : NewFoot w v v1) (hi : i < w.heap.size) (h : Foot g v1 i) : Foot g v i := by
  rcases h with h | h
  · exact .inl h
  · rcases hf i h with h | h
    · exact .inr h
    · omega
theorem newFoot_trans {w w1 : World} {v v1 v2 : Value} (h1 : NewFoot w v v1) (h2 : NewFoot w1 v1 v2) (hs : w.heap.size ≤ w1.heap.size) : NewFoot w v v2 := fun k e => by
  rcases h2 k e with h | h
  · exact h1 k h
  · exact .inr (by omega)

set_option maxHeartbeats 4000000 in
theorem feed_any (g : Nat) (v : Value) (s : St) (A : Option Addr) (n c : Nat) (xs : List UInt8) (w : World) (h : Body w g v s) (hok : s.Ok) (hn0 : s.next ≠ 0) (hr : Rd w A xs) (hn : xs.length = n) (hm : n ≤ 9223372036854775807)
    (hfar : ∀ ad, A = some ad → 0 < xs.length → ¬ Foot g v ad.block) :
    Calls Tryd.prog 22 #[.pointer (some ⟨g, 0, none⟩), .slice A n c] w fun e w' => e = .returned (.tuple #[.int .i64 (feedF s xs).1, .int .i64 (feedF s xs).2.1]) ∧ BodyP w g v (feedF s xs).2.2 w' := by
  obtain ⟨k0, -, -, -, k4⟩ := h.cells
  have b0 : (s.next == 0) = false := by simp [hn0]
  have hal := Along.start hok hn0 xs
  subst hn
  go_enter Tryd.func22, Tryd.ntmps22
  go_wp2_with fail
  go_loopw [6] (fun i wr => ∃ k : Nat, k ≤ xs.length ∧ i = .int .i64 k ∧ ∃ sk v1, Along s xs k sk ∧ Body wr g v1 sk ∧ Chg w wr (Foot g v) ∧ NewFoot w v v1) (fun i _ => xs.length - (intOf i).toNat)
  case atStart => exact ⟨0, Nat.zero_le _, rfl, s, v, hal, h, Chg.refl _ _, fun _ e => .inl e⟩
  case round =>
    obtain ⟨k, hk, rfl, sk, v1, hak, hb, hc, hf⟩ := hrel
    obtain ⟨q0, -, -, q3, q4⟩ := hb.cells
    obtain ⟨f0, -, -, f3, f4⟩ := hb.free
    have n9 := hak.ok.n9
    by_cases hlt : k < xs.length
    · obtain ⟨ad, rfl, had, hcell⟩ := (hr.chg hc hfar).at hlt
      by_cases hon : sk.on = true
      · have h9 : (sk.next != 9) = true := by simp [St.on] at hon; simp [hon.1]
        have hbad : (sk.bad == 0) = true := by simp [St.on] at hon; simp [hon.2]
        have ht := take_any g v1 sk xs[k] wr hb hak.ok hak.ne0 (by simpa using h9)
        have Ht := Lib.hid ht
        have Hon := Lib.hid hon
        clear ht hon k0 k4
        go_wp2_with (go_at_call 43; refine Ht.out.mono ?_; rintro e w2 ⟨rfl, v2, hb2, hc2, hf2⟩; have p4 := hb2.cells.2.2.2.2; have r4 := hb2.blk.free 4)
        go_roundw
        case rel => exact ⟨k + 1, by omega, by go_num, stepF sk xs[k], v2, hak.step hlt Hon.out, body_bad hb2 _, (hc.trans hc2 (fun i hi e => foot_old hf hi e)).setF 4 _, newFoot_trans hf hf2 hc.size⟩
        case measure => simp [intOf]; omega
      · have hfin : feedL s xs = (k, sk) := hak.stop (.inr (by simpa using hon))
        have Hfin := Lib.hid hfin
        clear hfin
        by_cases h9 : sk.next = 9
        · have h9' : (sk.next != 9) = false := by simp [h9]
          have H9 := Lib.hid h9
          clear h9
          by_cases hbad : sk.bad = 0
          · have hbad' : (sk.bad != 0) = false := by simp [hbad]
            have Hv : Hid (feedF s xs = ((k : Int), 0, sk)) := by simp [Hid, feedF, hn0, Hfin.out, hbad]
            clear hbad
            go_wp2
            go_ret2
            rw [Hv.out]
            exact ⟨rfl, v1, hb, hc, hf⟩
          · have hbad' : (sk.bad != 0) = true := by simp [hbad]
            have Hv : Hid (feedF s xs = (0, sk.bad, { sk with got := [] })) := by simp [Hid, feedF, hn0, Hfin.out, hbad]
            clear hbad
            go_wp2
            go_quiet (fail)
            go_wp2
            go_ret2
            rw [Hv.out]
            exact ⟨rfl, _, ⟨(body_gone hb).blk.drewN _, Row.nil _⟩, (hc.setF 3 _).drewN _, fun k e => by simp [Value.ownBlock] at e⟩
        · have h9' : (sk.next != 9) = true := by simp [h9]
          have hbad : sk.bad ≠ 0 := by simp [St.on, h9] at hon; exact hon
          have hbad' : (sk.bad != 0) = true := by simp [hbad]
          have hbad2 : (sk.bad == 0) = false := by simp [hbad]
          have Hv : Hid (feedF s xs = (0, sk.bad, { sk with got := [] })) := by simp [Hid, feedF, hn0, Hfin.out, hbad]
          clear hbad h9 hon
          go_wp2
          go_quiet (fail)
          go_wp2
          go_ret2
          rw [Hv.out]
          exact ⟨rfl, _, ⟨(body_gone hb).blk.drewN _, Row.nil _⟩, (hc.setF 3 _).drewN _, fun k e => by simp [Value.ownBlock] at e⟩
    · obtain rfl : k = xs.length := by omega
      have hfin : feedL s xs = (xs.length, sk) := hak.stop (.inl rfl)
      have Hfin := Lib.hid hfin
      clear hfin
      by_cases hbad : sk.bad = 0
      · have hbad' : (sk.bad != 0) = false := by simp [hbad]
        have Hv : Hid (feedF s xs = ((xs.length : Int), 0, sk)) := by simp [Hid, feedF, hn0, Hfin.out, hbad]
        clear hbad
        go_wp2
        go_ret2
        rw [Hv.out]
        exact ⟨rfl, v1, hb, hc, hf⟩
      · have hbad' : (sk.bad != 0) = true := by simp [hbad]
        have Hv : Hid (feedF s xs = (0, sk.bad, { sk with got := [] })) := by simp [Hid, feedF, hn0, Hfin.out, hbad]
        clear hbad
        go_wp2
        go_quiet (fail)
        go_wp2
        go_ret2
        rw [Hv.out]
        exact ⟨rfl, _, ⟨(body_gone hb).blk.drewN _, Row.nil _⟩, (hc.setF 3 _).drewN _, fun k e => by simp [Value.ownBlock] at e⟩
end Go.Proofs.YtkbmajkoojgkpaaDoor
