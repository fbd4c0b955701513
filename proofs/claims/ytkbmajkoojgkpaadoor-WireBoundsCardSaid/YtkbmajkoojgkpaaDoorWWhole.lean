/- The contracts of wire's New, Over and whole. -/
import Derived.Test.YtkbmajkoojgkpaaDoorWMem
namespace Go.Proofs.YtkbmajkoojgkpaaDoor
open Go.RowKit

def newAt (g : Nat) : WAt := { g := g, ln := .slice none 0 0, fl := .slice none 0 0, bp := none, bv := .slice none 0 0 }

set_option maxHeartbeats 400000 in
theorem wnew_any (w : World) : Calls Tryd.prog 39 #[] w fun e w' => e = .returned (.pointer (some ⟨w.heap.size, 0, none⟩)) ∧ Wire w' (newAt w.heap.size) WSt.new ∧ Chg w w' (fun _ => False) := by
  go_enter Tryd.func39, Tryd.ntmps39
  go_wp2
  go_ret
  exact ⟨rfl, ⟨Blk.new w _ _, Row.nil _, RowG.nil _ _ _, (fun h => by simp [WSt.new] at h), fun _ => ⟨rfl, rfl⟩⟩, (Chg.refl _ _).alloc _⟩

/-- Whether nothing comes any more. -/
def WSt.over (s : WSt) : Bool := decide (s.next = 0) || decide (4 ≤ s.next)

set_option maxHeartbeats 1000000 in
theorem over_any (p : WAt) (s : WSt) (w : World) (h : Wire w p s) (h0 : 0 ≤ s.next) (h5 : s.next ≤ 5) :
    Calls Tryd.prog 41 #[.pointer (some ⟨p.g, 0, none⟩)] w fun e w' => e = .returned (.bool s.over) ∧ w = w' := by
  obtain ⟨k0, -⟩ := wire_cells h.blk
  unfold WSt.over
  have hp : s.next = 0 ∨ s.next = 1 ∨ s.next = 2 ∨ s.next = 3 ∨ s.next = 4 ∨ s.next = 5 := by omega
  rcases hp with hp | hp | hp | hp | hp | hp
  all_goals
    rw [hp] at k0 ⊢
    clear hp h0 h5
    go_enter Tryd.func41, Tryd.ntmps41
    go_wp2
    go_ret
    exact ⟨rfl, rfl⟩
theorem over_nil (w : World) : Calls Tryd.prog 41 #[.pointer none] w fun e w' => e = .returned (.bool true) ∧ w = w' := by
  go_enter Tryd.func41, Tryd.ntmps41
  go_wp2
  go_ret
  exact ⟨rfl, rfl⟩

def zeroReq : Value := .agg #[.string ⟨#[]⟩, .string ⟨#[]⟩, .slice none 0 0, .slice none 0 0, .bool false]
/-- What whole answers when nothing is whole. -/
def NotWhole (w : World) (e : Ending) (w' : World) : Prop := e = .returned (.tuple #[zeroReq, .bool false]) ∧ Chg w w' (fun _ => False)
/-- What whole answers when a request is whole. -/
def IsWhole (p : WAt) (s : WSt) (w : World) (e : Ending) (w' : World) : Prop :=
  ∃ A c, e = .returned (.tuple #[.agg #[.string (str s.m), .string (str s.t), p.fl, .slice A s.bd.got.length c, .bool s.keep], .bool true]) ∧ Row w' (.slice A s.bd.got.length c) s.bd.got ∧ NewFoot w (.slice none 0 0) (.slice A s.bd.got.length c) ∧
    Wire w' { p with fl := .slice none 0 0, bp := none, bv := .slice none 0 0 } (wholeW s).2 ∧ Chg w w' (fun k => k = p.g)

theorem req_cells {w : World} {g : Nat} {v0 v1 v2 v3 v4 : Value} (h : Blk w g 66 #[v0, v1, v2, v3, v4]) :
    (w.cell? ⟨g, 0, none⟩ = some v0 ∧ w.cell? ⟨g, 1, none⟩ = some v1 ∧ w.cell? ⟨g, 2, none⟩ = some v2 ∧ w.cell? ⟨g, 3, none⟩ = some v3 ∧ w.cell? ⟨g, 4, none⟩ = some v4) ∧
    w.frozen? ⟨g, 0, none⟩ = false ∧ w.frozen? ⟨g, 1, none⟩ = false ∧ w.frozen? ⟨g, 2, none⟩ = false ∧ w.frozen? ⟨g, 3, none⟩ = false ∧ w.frozen? ⟨g, 4, none⟩ = false :=
  ⟨⟨h.cell 0, h.cell 1, h.cell 2, h.cell 3, h.cell 4⟩, h.free 0, h.free 1, h.free 2, h.free 3, h.free 4⟩

set_option maxHeartbeats 2000000 in
set_option maxRecDepth 100000 in
theorem whole_not (p : WAt) (s : WSt) (w : World) (h : Wire w p s) (hn : ¬ (s.next = 3 ∧ s.bd.next = 9)) :
    Calls Tryd.prog 54 #[.pointer (some ⟨p.g, 0, none⟩)] w (NotWhole w) := by
  unfold NotWhole
  obtain ⟨g, ln, fl, bp, bv⟩ := p
  have hlt := h.blk.lt
  obtain ⟨k0, -, -, -, -, -, -, k7⟩ := wire_cells h.blk
  have hbd := h.body
  simp only at k0 k7 hlt hbd ⊢
  clear h
  by_cases h3 : s.next = 3
  · obtain ⟨b, e, hb, -⟩ := hbd h3
    have h9 : (s.bd.next == 9) = false := by simp; exact fun e => hn ⟨h3, e⟩
    rw [h3] at k0
    rw [e] at k7
    simp only [Option.map_some] at k7
    have hblt := hb.blk.lt
    clear hn h3 e hbd
    go_enter Tryd.func54, Tryd.ntmps54
    go_wp2_with (go_at_call 23; refine (done_any b bv s.bd _ (hb.to ((Chg.refl w (fun _ => False)).alloc _) (fun _ _ => id))).mono ?_; rintro e w' ⟨rfl, rfl⟩)
    refine bodyPost_ret (v := .tuple #[zeroReq, .bool false]) (by simp [results, Tryd.results54, go_sem, zeroReq]) rfl ?_
    exact ⟨rfl, (Chg.refl _ _).alloc _⟩
  · have b3 : (s.next != 3) = true := by simpa using h3
    clear hn h3 hbd
    go_enter Tryd.func54, Tryd.ntmps54
    go_wp2
    refine bodyPost_ret (v := .tuple #[zeroReq, .bool false]) (by simp [results, Tryd.results54, go_sem, zeroReq]) rfl ?_
    exact ⟨rfl, (Chg.refl _ _).alloc _⟩

set_option maxHeartbeats 2000000 in
set_option maxRecDepth 100000 in
theorem whole_is (p : WAt) (s : WSt) (w : World) (h : Wire w p s) (h3 : s.next = 3) (h9 : s.bd.next = 9) (hl : s.bd.got.length ≤ 140737488355328) :
    Calls Tryd.prog 54 #[.pointer (some ⟨p.g, 0, none⟩)] w (IsWhole p s w) := by
  have Hw : Hid ((wholeW s).2 = { next := if s.keep then 1 else 4, line := s.line, m := [], t := [], fs := [], keep := false, bd := sN 0 0 0 [] }) := by unfold wholeW; rw [if_pos ⟨h3, h9⟩]; exact rfl
  obtain ⟨g, ln, fl, bp, bv⟩ := p
  obtain ⟨Af, cf, hfl, -, -⟩ := h.flds.shape
  obtain ⟨Al, cl, hll⟩ := row_shape h.line
  simp only at hfl hll
  subst hfl hll
  have hlt := h.blk.lt
  obtain ⟨k0, k1, k2, k3, k4, k5, k6, k7⟩ := wire_cells h.blk
  obtain ⟨f0, f1, f2, f3, f4, f5, f6, f7⟩ := wire_free h.blk
  obtain ⟨b, e, hb, hd⟩ := h.body h3
  have hln := h.line
  have hbk := h.blk
  simp only at k0 k1 k2 k3 k4 k5 k6 k7 hlt e hb hd hln hbk f0 f1 f2 f3 f4 f5 f6 f7 ⊢
  rw [h3] at k0
  rw [e] at k7
  simp only [Option.map_some] at k7
  have hblt := hb.blk.lt
  have b9 : (s.bd.next == 9) = true := by simp [h9]
  clear h e
  go_enter Tryd.func54, Tryd.ntmps54
  go_wp2_with (go_at_call 23; refine (done_any b bv s.bd _ (hb.to ((Chg.refl w (fun _ => False)).alloc _) (fun _ _ => id))).mono ?_; rintro e w' ⟨rfl, rfl⟩)
  have hc0 : Chg w ((w.alloc (.cells #[.string ⟨#[]⟩, .string ⟨#[]⟩, .slice none 0 0, .slice none 0 0, .bool false] 66)).alloc (.cells #[.string (str s.m), .string (str s.t), .slice Af s.fs.length cf, .slice none 0 0, .bool s.keep] 66)) (fun _ => False) := ((Chg.refl w _).alloc _).alloc _
  refine (data_any b bv s.bd _ (hb.to hc0 (fun _ _ => id)) hl).mono ?_
  rintro e w1 ⟨A, c, rfl, hr1, hc1, hf1⟩
  have hz1 := ((Blk.new w 66 #[.string ⟨#[]⟩, .string ⟨#[]⟩, .slice none 0 0, .slice none 0 0, .bool false]).alloc (.cells #[.string (str s.m), .string (str s.t), .slice Af s.fs.length cf, .slice none 0 0, .bool s.keep] 66)).chg hc1 id
  have hr2 : Blk w1 (w.heap.size + 1) 66 #[.string (str s.m), .string (str s.t), .slice Af s.fs.length cf, .slice none 0 0, .bool s.keep] := by
    have := (Blk.new (w.alloc (.cells #[.string ⟨#[]⟩, .string ⟨#[]⟩, .slice none 0 0, .slice none 0 0, .bool false] 66)) 66 #[.string (str s.m), .string (str s.t), .slice Af s.fs.length cf, .slice none 0 0, .bool s.keep]).chg hc1 id
    simpa using this
  have hc01 : Chg w w1 (fun _ => False) := hc0.trans hc1 (fun _ _ e => e)
  have hbk1 := hbk.chg hc01 id
  clear k0 k1 k2 k3 k4 k5 k6 k7 f0 f1 f2 f3 f4 f5 f6 f7
  obtain ⟨k0, k1, k2, k3, k4, k5, k6, k7⟩ := wire_cells hbk1
  obtain ⟨f0, f1, f2, f3, f4, f5, f6, f7⟩ := wire_free hbk1
  obtain ⟨⟨r0, r1, r2, r3, r4⟩, u0, u1, u2, u3, u4⟩ := req_cells hr2
  obtain ⟨⟨z0, z1, z2, z3, z4⟩, v0, v1, v2, v3, v4⟩ := req_cells hz1
  have hcg : Chg w w1 (fun k => k = g) := hc01.mono (fun _ _ e => e.elim)
  have hgz : g ≠ w.heap.size ∧ g ≠ w.heap.size + 1 := by omega
  have Hr1 := Lib.hid hr1
  have hrz : ∀ k, (Value.slice A s.bd.got.length c).ownBlock = some k → k ≠ g ∧ k ≠ w.heap.size ∧ k ≠ w.heap.size + 1 := fun k e => by
    refine ⟨fun h => ?_, fun h => ?_, fun h => ?_⟩ <;> subst h
    · exact hr1.ne_blk hbk1 (by decide) e
    · exact hr1.ne_blk hz1 (by decide) e
    · exact hr1.ne_blk hr2 (by decide) e
  have Hrz := Lib.hid hrz
  have hln0 := hln.ne_blk hbk (by decide)
  clear hrz hr1 hz1 hr2 hbk hc01
  cases hk : s.keep
  all_goals
    rw [hk] at k6 r4
    have Hk := Lib.hid hk
    clear hk
    go_wp2
    refine bodyPost_ret (v := .tuple #[.agg #[.string (str s.m), .string (str s.t), .slice Af s.fs.length cf, .slice A s.bd.got.length c, .bool s.keep], .bool true]) (by simp [results, Tryd.results54, go_sem, Hk.out, z0, z1, z2, z3, z4]) rfl ?_
    clear k0 k1 k2 k3 k4 k5 k6 k7 f0 f1 f2 f3 f4 f5 f6 f7 r0 r1 r2 r3 r4 u0 u1 u2 u3 u4 z0 z1 z2 z3 z4 v0 v1 v2 v3 v4
    refine ⟨A, c, rfl, Hr1.out.chg (S := fun k => k = g ∨ k = w.heap.size ∨ k = w.heap.size + 1) ?_ ?_, fun k e => ?_, ⟨?_, ?_, ?_, ?_, ?_⟩, ?_⟩
    · repeat (first | with_reducible exact Chg.refl _ _ | (with_reducible refine Chg.setCell ?_ ?_ _; rotate_left; (intro _; simp)))
    · intro k e h
      have := Hrz.out k e
      omega
    · rcases hf1 k e with h | h
      · exact .inl h
      · exact .inr (by have := hc0.size; omega)
    · simp only [Hw.out, Hk.out]
      have q1 := hbk1.far (p := ⟨w.heap.size + 1, 3, none⟩) hgz.2 (.slice A s.bd.got.length c)
      have q2 := ((((((q1.set 2 (.string ⟨#[]⟩)).set 3 (.string ⟨#[]⟩)).set 4 (.slice none 0 0)).set 5 (.slice none 0 0)).set 6 (.bool false)).set 7 (.pointer none)).set 0 (.int .i64 1)
      have q3 := q2.set 0 (.int .i64 4)
      have far := fun (W : World) (cs : Array Value) (h : Blk W g 68 cs) (kp : Bool) => ((((h.far (p := ⟨w.heap.size, 0, none⟩) hgz.1 (.string (str s.m))).far (p := ⟨w.heap.size, 1, none⟩) hgz.1 (.string (str s.t))).far (p := ⟨w.heap.size, 2, none⟩) hgz.1 (.slice Af s.fs.length cf)).far (p := ⟨w.heap.size, 3, none⟩) hgz.1 (.slice A s.bd.got.length c)).far (p := ⟨w.heap.size, 4, none⟩) hgz.1 (.bool kp)
      first
        | with_reducible exact (far _ _ q2 true).to (by simp [wireCells, str])
        | with_reducible exact (far _ _ q3 false).to (by simp [wireCells, str])
    · simp only [Hw.out]
      refine hln.chg (S := fun k => k = g) ?_ (fun k e h => ?_)
      · repeat (first | with_reducible exact hcg | (with_reducible refine Chg.setCell ?_ ?_ _; rotate_left; (intro h; first | exact (rfl : g = g) | (exfalso; revert h; simp only; omega))))
      · subst h
        exact hln0 e
    · simp only [Hw.out]
      exact RowG.nil _ _ _
    · simp only [Hw.out, Hk.out]
      intro h
      simp at h
    · exact fun _ => ⟨rfl, rfl⟩
    · repeat (first | with_reducible exact hcg | (with_reducible refine Chg.setCell ?_ ?_ _; rotate_left; (intro h; first | exact (rfl : g = g) | (exfalso; revert h; simp only; omega))))
end Go.Proofs.YtkbmajkoojgkpaaDoor
