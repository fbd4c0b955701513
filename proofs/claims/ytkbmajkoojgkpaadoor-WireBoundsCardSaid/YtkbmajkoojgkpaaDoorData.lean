/- Chunk's decoder in memory: the contracts of Chunked, Sized, Done and Data. -/
import Derived.Test.YtkbmajkoojgkpaaDoorFeed
import Derived.WalkSpells
namespace Go.Proofs.YtkbmajkoojgkpaaDoor
open Go.RowKit

def st0 (n l : Int) : St := { next := n, left := l, digits := 0, got := [], bad := 0 }

/-- A new Body that nobody else holds. -/
def NewBody (w : World) (s : St) (g : Nat) (w' : World) : Prop := w.heap.size ≤ g ∧ Body w' g (.slice none 0 0) s ∧ Chg w w' (fun _ => False)

set_option maxHeartbeats 400000 in
theorem chunked_any (w : World) :
    Calls Tryd.prog 21 #[] w fun e w' => ∃ g, e = .returned (.pointer (some ⟨g, 0, none⟩)) ∧ NewBody w (st0 2 0) g w' := by
  go_enter Tryd.func21, Tryd.ntmps21
  go_wp2
  go_ret
  exact ⟨w.heap.size, rfl, Nat.le_refl _, ⟨Blk.new w _ _, Row.nil _⟩, (Chg.refl _ _).alloc _⟩

set_option maxHeartbeats 400000 in
theorem done_any (g : Nat) (v : Value) (s : St) (w : World) (h : Body w g v s) :
    Calls Tryd.prog 23 #[.pointer (some ⟨g, 0, none⟩)] w fun e w' => e = .returned (.bool (s.next == 9)) ∧ w = w' := by
  obtain ⟨k0, -⟩ := h.cells
  by_cases h9 : s.next = 9
  all_goals
    have b9 : (s.next == 9) = decide (s.next = 9) := rfl
    simp only [h9, decide_true, decide_false] at b9
    go_enter Tryd.func23, Tryd.ntmps23
    go_wp2
    go_ret
    exact ⟨by simp [h9], rfl⟩

set_option maxHeartbeats 400000 in
theorem clone_any (v : Value) (xs : List UInt8) (w : World) (h : Row w v xs) (hl : xs.length ≤ 140737488355328) :
    Calls Tryd.prog 44 #[v] w fun e w' => ∃ A c, e = .returned (.slice A xs.length c) ∧ Row w' (.slice A xs.length c) xs ∧ Chg w w' (fun _ => False) ∧ NewFoot w (.slice none 0 0) (.slice A xs.length c) := by
  have he := fun w a n c => Lib.run_eql_slice_nil (P := Tryd.prog) w 22 5 a n c 0 0 Tryd.underlying22
  rcases h.form with ⟨rfl, rfl⟩ | ⟨g, cap, cur, rfl, hb, h1, h2, h3, h4⟩
  · go_enter Tryd.func44, Tryd.ntmps44
    go_wp2
    go_ret
    exact ⟨none, 0, rfl, h, Chg.refl _ _, fun _ e => .inl e⟩
  · go_enter Tryd.func44, Tryd.ntmps44
    go_wp2_with (at_builtin; refine wpList_app rfl _ _ rfl _ [] (by rfl) (Row.of_form (xs := []) (Blk.new w _ #[]) (Nat.le_refl 0) (by unfold maxLen; omega) (by rfl) (by rfl)) (some ⟨g, 0, none⟩) xs.length cap xs rfl (by rfl) (Rd.of_row (h.chg ((Chg.refl w (fun _ => False)).alloc _) (fun _ _ => id))) (by simp; omega) ?_; intro A' c' w1 hrow hc1 hfoot; simp only [List.length_nil, Nat.zero_add, List.nil_append] at hrow hfoot ⊢)
    go_ret
    refine ⟨A', c', rfl, hrow, ((Chg.refl w (fun _ => False)).alloc _).trans hc1 (fun i hi e => ?_), fun k e => ?_⟩
    · simp [Value.ownBlock] at e
      omega
    · rcases hfoot k e with e | e
      · simp [Value.ownBlock] at e
        exact .inr (by omega)
      · simp at e
        exact .inr (by omega)

/-- What a call makes that hands back new bytes. -/
def NewBytes (w : World) (xs : List UInt8) (e : Ending) (w' : World) : Prop :=
  ∃ A c, e = .returned (.slice A xs.length c) ∧ Row w' (.slice A xs.length c) xs ∧ Chg w w' (fun _ => False) ∧ NewFoot w (.slice none 0 0) (.slice A xs.length c)

set_option maxHeartbeats 400000 in
theorem data_any (g : Nat) (v : Value) (s : St) (w : World) (h : Body w g v s) (hl : s.got.length ≤ 140737488355328) :
    Calls Tryd.prog 24 #[.pointer (some ⟨g, 0, none⟩)] w (NewBytes w s.got) := by
  obtain ⟨-, -, -, k3, -⟩ := h.cells
  have hc := clone_any v s.got w h.row hl
  have Hc := Lib.hid hc
  clear hc
  unfold NewBytes
  go_enter Tryd.func24, Tryd.ntmps24
  go_wp2_with (go_at_call 44; refine Hc.out.mono ?_; rintro e w' ⟨A, c, rfl, h1, h2, h3⟩)
  go_ret
  exact ⟨A, c, rfl, h1, h2, h3⟩

/-- The answers of a nil Body. -/
theorem nil_done (w : World) : Calls Tryd.prog 23 #[.pointer none] w fun e w' => e = .returned (.bool false) ∧ w = w' := by
  go_enter Tryd.func23, Tryd.ntmps23
  go_wp2
  go_ret
  exact ⟨rfl, rfl⟩
theorem nil_data (w : World) : Calls Tryd.prog 24 #[.pointer none] w fun e w' => e = .returned (.slice none 0 0) ∧ w = w' := by
  go_enter Tryd.func24, Tryd.ntmps24
  go_wp2
  go_ret
  exact ⟨rfl, rfl⟩
theorem nil_feed (A : Option Addr) (n c : Nat) (w : World) : Calls Tryd.prog 22 #[.pointer none, .slice A n c] w fun e w' => e = .returned (.tuple #[.int .i64 0, .int .i64 1]) ∧ w = w' := by
  go_enter Tryd.func22, Tryd.ntmps22
  go_wp2
  go_ret2
  exact ⟨rfl, rfl⟩
set_option maxHeartbeats 400000 in
theorem zero_feed (g : Nat) (v : Value) (s : St) (A : Option Addr) (n c : Nat) (w : World) (h : Body w g v s) (hz : s.next = 0) : Calls Tryd.prog 22 #[.pointer (some ⟨g, 0, none⟩), .slice A n c] w fun e w' => e = .returned (.tuple #[.int .i64 0, .int .i64 1]) ∧ w = w' := by
  obtain ⟨k0, -⟩ := h.cells
  rw [hz] at k0
  go_enter Tryd.func22, Tryd.ntmps22
  go_wp2
  go_ret2
  exact ⟨rfl, rfl⟩

/-- What Sized answers. -/
def SizedP (n : Int) (w : World) (e : Ending) (w' : World) : Prop :=
  (n < 0 ∧ e = .returned (.tuple #[.pointer none, .int .i64 1]) ∧ w = w') ∨ (4096 < n ∧ e = .returned (.tuple #[.pointer none, .int .i64 2]) ∧ w = w') ∨
    (0 ≤ n ∧ n ≤ 4096 ∧ ∃ g, e = .returned (.tuple #[.pointer (some ⟨g, 0, none⟩), .int .i64 0]) ∧ NewBody w (if n = 0 then st0 9 0 else st0 1 n) g w')

set_option maxHeartbeats 400000 in
theorem sized_any (n : Int) (w : World) : Calls Tryd.prog 97 #[.int .i64 n] w (SizedP n w) := by
  by_cases h1 : n < 0
  · go_enter Tryd.func97, Tryd.ntmps97
    go_wp2
    go_ret2
    exact .inl ⟨h1, rfl, rfl⟩
  by_cases h2 : 4096 < n
  · go_enter Tryd.func97, Tryd.ntmps97
    go_wp2
    go_ret2
    exact .inr (.inl ⟨h2, rfl, rfl⟩)
  by_cases h3 : n = 0
  · subst h3
    go_enter Tryd.func97, Tryd.ntmps97
    go_wp2
    go_ret2
    exact .inr (.inr ⟨by omega, by omega, w.heap.size, rfl, Nat.le_refl _, ⟨Blk.new w _ _, Row.nil _⟩, (Chg.refl _ _).alloc _⟩)
  · have b3 : (n == 0) = false := by simp [h3]
    go_enter Tryd.func97, Tryd.ntmps97
    go_wp2
    go_ret2
    refine .inr (.inr ⟨by omega, by omega, w.heap.size, rfl, Nat.le_refl _, ?_, (Chg.refl _ _).alloc _⟩)
    rw [if_neg h3]
    exact ⟨Blk.new w _ _, Row.nil _⟩
end Go.Proofs.YtkbmajkoojgkpaaDoor
