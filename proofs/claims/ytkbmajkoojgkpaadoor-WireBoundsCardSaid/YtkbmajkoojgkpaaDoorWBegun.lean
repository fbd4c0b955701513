/- begun: wire does something yet; a nil wire and a zero one. -/
import Derived.Test.YtkbmajkoojgkpaaDoorWFeed2
import Derived.Lib.SlBytesConst
namespace Go.Proofs.YtkbmajkoojgkpaaDoor
open Go.RowKit

theorem RowG.at0 {w : World} {e : TypeId} {k n c : Nat} {A : Option Addr} {us : List Value} (h : RowG w e k (.slice A n c) n us) (hn : 0 < n) : ∃ g, A = some ⟨g, 0, none⟩ ∧ g < w.heap.size ∧ (∀ (j : Nat) (u : Value), us[j]? = some u → w.cell? ⟨g, j, none⟩ = some u) ∧ ∀ j, w.frozen? ⟨g, j, none⟩ = false := by
  rcases h.out.2 with ⟨e', h0⟩ | ⟨g, cap, cur, e', hb, hg, r⟩
  · omega
  · injection e' with e1 e2 e3
    subst e1
    refine ⟨g, rfl, lt_of_block hg, fun j u hu => ?_, fun j => by simp [World.frozen?, hg]⟩
    have := h.out.cells (g := g) rfl j u hu
    rw [show (⟨g, 0, none⟩ : Addr).add j = ⟨g, j, none⟩ from by unfold Addr.add; split <;> simp_all] at this
    exact this

theorem wfeed_nil (A : Option Addr) (n c : Nat) (w : World) : Calls Tryd.prog 40 #[.pointer none, .slice A n c] w fun e w' => e = .returned (.tuple #[.slice none 0 0, .int .i64 1]) ∧ w = w' := by
  go_enter Tryd.func40, Tryd.ntmps40
  go_wp2
  go_ret2
  exact ⟨rfl, rfl⟩
set_option maxHeartbeats 400000 in
theorem wfeed_zero (g : Nat) (A : Option Addr) (n c : Nat) (w : World) (h : w.cell? ⟨g, 0, none⟩ = some (.int .i64 0)) : Calls Tryd.prog 40 #[.pointer (some ⟨g, 0, none⟩), .slice A n c] w fun e w' => e = .returned (.tuple #[.slice none 0 0, .int .i64 1]) ∧ w = w' := by
  go_enter Tryd.func40, Tryd.ntmps40
  go_wp2
  go_ret2
  exact ⟨rfl, rfl⟩
set_option maxHeartbeats 400000 in
/-- A wire that was given up. -/
theorem wfeed_dead (g : Nat) (A : Option Addr) (n c : Nat) (w : World) (h : w.cell? ⟨g, 0, none⟩ = some (.int .i64 5)) : Calls Tryd.prog 40 #[.pointer (some ⟨g, 0, none⟩), .slice A n c] w fun e w' => e = .returned (.tuple #[.slice none 0 0, .int .i64 8]) ∧ w = w' := by
  go_enter Tryd.func40, Tryd.ntmps40
  go_wp2
  go_ret2
  exact ⟨rfl, rfl⟩

theorem Rd.blk {w : World} {g : Nat} {cs : Array Value} {t : TypeId} {fr : Nat × Nat} {xs : List UInt8} (hb : w.heap[g]? = some (.cells cs t fr)) (e : cs.toList = Bs xs) : Rd w (some ⟨g, 0, none⟩) xs :=
  ⟨fun _ => ⟨_, rfl, fun j u hu => by
    refine World.news_of_block hb j _ ?_
    rw [e]
    simp [Bs, hu]⟩⟩

/-- The bytes that begun feeds. -/
def begun24B : List UInt8 := [71, 69, 84, 32, 47, 120, 32, 72, 84, 84, 80, 47, 49, 46, 49, 13, 10, 72, 111, 115, 116, 58, 32, 97, 13, 10, 13, 10]
def begun24R : Req := { m := [71, 69, 84], t := [47, 120], fs := [([104, 111, 115, 116], [97])], body := [], keep := true }
theorem begun24_run : runW WSt.new begun24B = ([begun24R], 0, WSt.new) := by kernel_rfl

theorem new_foot {w : World} {g : Nat} {m : Int} (hm : MaxL w m) (hg : w.heap.size ≤ g) : ¬ (newAt g).foot 0 := fun e => by
  have := newAt_foot e
  have := World.block_lt_of_cell? _ _ hm.out
  simp only at this
  omega

set_option maxHeartbeats 2000000 in
set_option maxRecDepth 100000 in
theorem begun24_any (m : Int) (w : World) (hm : MaxL w m) : Calls Tryd.prog 36 #[] w fun e w' => e = .returned (.bool true) ∧ Chg w w' (fun _ => False) := by
  have kc := fun (w : World) (C : Array Value) (n c : Nat) => Lib.run_convert_bytes_const (P := Tryd.prog) w 22 5 C n c Tryd.underlying22 Tryd.underlying5
  go_enter Tryd.func36, Tryd.ntmps36
  go_wp2_with fail
  refine (wnew_any w).mono ?_
  rintro e w1 ⟨rfl, hw1, hc1⟩
  go_wp2_with fail
  have hlt1 := hw1.blk.lt
  simp only [newAt] at hlt1
  refine (wfeed_any (newAt w.heap.size) WSt.new (some ⟨w1.heap.size, 0, none⟩) 28 28 begun24B m _ (hw1.chg ((Chg.refl w1 (fun _ => False)).alloc _) (fun _ _ => id)) new_ok (by decide) (Rd.blk (heap_alloc_new w1 _) rfl) rfl (Nat.le_refl _) (by decide) (by decide) ?_ (hm.chg (hc1.alloc _) id) (new_foot hm (Nat.le_refl _))).mono ?_
  · intro ad e _ hf
    injection e with e
    subst e
    have := newAt_foot hf
    simp at this
    omega
  rw [begun24_run]
  rintro e w2 ⟨p', q, A, c, rfl, hq, hw2, hn2, hc2, hrow, hreq, hrb, hf⟩
  obtain ⟨x, rfl, hx⟩ : ∃ x, q = [x] ∧ x.1 = begun24R := by
    cases q with
    | nil => simp at hq
    | cons x q =>
      simp at hq
      exact ⟨x, by rw [hq.2], hq.1⟩
  obtain ⟨g2, rfl, hg2, hcell, hfr⟩ := hrow.at0 (by simp)
  have h1 := hcell 1 (.string (str [47, 120])) (by simp [rcells, rcell, hx, begun24R])
  have h4 := hcell 4 (.bool true) (by simp [rcells, rcell, hx, begun24R])
  have hov := over_any p' WSt.new w2 hw2 (by decide) (by decide)
  rw [hn2.1] at hov
  have hst : ((str [47, 120]).toList == [47, 120]) = true := by rw [str_toList]; decide
  have hov2 : WSt.new.over = false := rfl
  rw [hov2] at hov
  simp only [List.length_cons, List.length_nil]
  clear hcell hfr hx hq
  go_wp2_with (go_at_call 41; refine hov.mono ?_; rintro e w3 ⟨rfl, rfl⟩)
  go_ret
  refine ⟨rfl, (hc1.alloc _).trans hc2 (fun i hi e => ?_)⟩
  have := newAt_foot e
  omega
end Go.Proofs.YtkbmajkoojgkpaaDoor
