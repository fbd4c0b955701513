/- Chunk's decoder in memory: the contracts of digit, want and take. -/
import Derived.Test.YtkbmajkoojgkpaaDoorMem
import Derived.Test.YtkbmajkoojgkpaaDoorPlain2
import Derived.Deep.QuietTactic
import Derived.BigQuiet
import Derived.Deep.AppendLies
import Derived.Laws.BitsAllLaws
namespace Go.Proofs.YtkbmajkoojgkpaaDoor
open Go.RowKit

def cellsOf (s : St) (v : Value) : Array Value := #[.int .i64 s.next, .int .i64 s.left, .int .i64 s.digits, v, .int .i64 s.bad]

/-- A Body lies whole in block g; v is its 'got'. -/
structure Body (w : World) (g : Nat) (v : Value) (s : St) : Prop where
  blk : Blk w g 71 (cellsOf s v)
  row : Row w v s.got

/-- The blocks that a Body may change. -/
def Foot (g : Nat) (v : Value) (k : Nat) : Prop := k = g ∨ v.ownBlock = some k

theorem or32 : ∀ c : Fin 256, bits .or .u8 (c.val : Int) 32 = ((c.val ||| 32 : Nat) : Int) := by decide +kernel
theorem or32_range : ∀ c : Fin 256, (97 ≤ c.val ∧ c.val ≤ 102 → (c.val ||| 32 : Nat) = c.val) ∧ (65 ≤ c.val ∧ c.val ≤ 70 → (c.val ||| 32 : Nat) = c.val + 32) ∧
    (97 ≤ (c.val ||| 32 : Nat) ∧ (c.val ||| 32 : Nat) ≤ 102 ∧ 65 ≤ c.val → 97 ≤ c.val ∧ c.val ≤ 102 ∨ 65 ≤ c.val ∧ c.val ≤ 70) := by decide +kernel

theorem ret_ib {a b : Int} {x y : Bool} (h : a = b) (h' : x = y) : Ending.returned (.tuple #[.int .i64 a, .bool x]) = .returned (.tuple #[.int .i64 b, .bool y]) := by rw [h, h']

set_option maxHeartbeats 400000 in
theorem digit_any (c : UInt8) (w : World) :
    Calls Tryd.prog 56 #[.int .u8 c.toNat] w fun e w' => e = .returned (.tuple #[.int .i64 ((digV c.toNat).getD 0), .bool (digV c.toNat).isSome]) ∧ w = w' := by
  have hlt : c.toNat < 256 := c.toNat_lt
  have o1 := or32 ⟨c.toNat, hlt⟩
  have o2 := or32_range ⟨c.toNat, hlt⟩
  simp only at o1 o2
  generalize hn : c.toNat = n at *
  generalize hm : n ||| 32 = m at *
  have hm2 : m < 256 := by rw [← hm]; exact Nat.or_lt_two_pow (n := 8) (by omega) (by omega)
  clear hn hm
  go_enter Tryd.func56, Tryd.ntmps56
  go_wp2
  all_goals
    go_ret2
    refine ⟨ret_ib ?_ ?_, rfl⟩
    all_goals
      unfold digV
      by_cases h1 : 48 ≤ (n : Int) ∧ (n : Int) ≤ 57
      · rw [if_pos h1]; first | rfl | omega
      · rw [if_neg h1]
        by_cases h2 : 97 ≤ (n : Int) ∧ (n : Int) ≤ 102
        · rw [if_pos h2]; first | rfl | (simp only [Option.getD_some]; omega) | omega
        · rw [if_neg h2]
          by_cases h3 : 65 ≤ (n : Int) ∧ (n : Int) ≤ 70
          · rw [if_pos h3]; first | rfl | (simp only [Option.getD_some]; omega) | omega
          · rw [if_neg h3]; first | rfl | omega

theorem ret_int {k : IntKind} {a b : Int} (h : a = b) : Ending.returned (.int k a) = .returned (.int k b) := by rw [h]

/-- What a method leaves that changes the Body at g. -/
def BodyP (w : World) (g : Nat) (v : Value) (s : St) (w' : World) : Prop := ∃ v', Body w' g v' s ∧ Chg w w' (Foot g v) ∧ NewFoot w v v'

theorem Body.cells {w : World} {g : Nat} {v : Value} {s : St} (h : Body w g v s) :
    w.cell? ⟨g, 0, none⟩ = some (.int .i64 s.next) ∧ w.cell? ⟨g, 1, none⟩ = some (.int .i64 s.left) ∧ w.cell? ⟨g, 2, none⟩ = some (.int .i64 s.digits) ∧
    w.cell? ⟨g, 3, none⟩ = some v ∧ w.cell? ⟨g, 4, none⟩ = some (.int .i64 s.bad) :=
  ⟨h.blk.cell 0, h.blk.cell 1, h.blk.cell 2, h.blk.cell 3, h.blk.cell 4⟩
theorem Body.free {w : World} {g : Nat} {v : Value} {s : St} (h : Body w g v s) :
    w.frozen? ⟨g, 0, none⟩ = false ∧ w.frozen? ⟨g, 1, none⟩ = false ∧ w.frozen? ⟨g, 2, none⟩ = false ∧ w.frozen? ⟨g, 3, none⟩ = false ∧ w.frozen? ⟨g, 4, none⟩ = false :=
  ⟨h.blk.free 0, h.blk.free 1, h.blk.free 2, h.blk.free 3, h.blk.free 4⟩

theorem Chg.set1 {a w : World} {g : Nat} (h : Chg a w (fun k => k = g)) (i : Nat) (u : Value) : Chg a (w.setCell ⟨g, i, none⟩ u) (fun k => k = g) := h.setCell (fun _ => rfl) u
theorem Chg.setF {a w : World} {g : Nat} {v : Value} (h : Chg a w (Foot g v)) (i : Nat) (u : Value) : Chg a (w.setCell ⟨g, i, none⟩ u) (Foot g v) := h.setCell (fun _ => .inl rfl) u
theorem Blk.to {w : World} {g t : Nat} {cs cs' : Array Value} (h : Blk w g t cs) (e : cs = cs') : Blk w g t cs' := e ▸ h

/-- How a Body's block reads behind the append that 'take' makes. -/
theorem Body.behind {w w1 : World} {g : Nat} {v : Value} {s : St} (h : Body w g v s) (o : Obj) (hc : Chg (w.alloc o) w1 (fun k => v.ownBlock = some k)) : Blk w1 g 71 (cellsOf s v) :=
  (h.blk.alloc o).chg hc (h.row.ne_blk h.blk (by decide))

theorem body_data {w w1 w2 : World} {g : Nat} {v : Value} {s : St} {c : UInt8} (h : Body w g v s) (o : Obj) {A : Option Addr} {c' : Nat} (hrow : Row w1 (.slice A (s.got.length + 1) c') (s.got ++ [c]))
    (hc : Chg (w.alloc o) w1 (fun k => v.ownBlock = some k)) (hf : NewFoot (w.alloc o) v (.slice A (s.got.length + 1) c'))
    (h2 : Blk w2 g 71 (cellsOf (dataF s c) (.slice A (s.got.length + 1) c'))) (hc2 : Chg w1 w2 (fun k => k = g)) : BodyP w g v (dataF s c) w2 := by
  have hb1 := h.behind o hc
  refine ⟨_, ⟨h2, ?_⟩, ?_, fun k e => ?_⟩
  · refine hrow.chg hc2 fun k e hk => ?_
    subst hk
    exact (hrow.ne_blk hb1 (by decide)) e
  · exact (((Chg.refl w (Foot g v)).alloc o).trans hc (fun i _ e => .inr e)).trans hc2 (fun i _ e => .inl e)
  · rcases hf k e with e' | e'
    · exact .inl e'
    · exact .inr (by simp at e'; omega)

set_option maxHeartbeats 1000000 in
set_option maxRecDepth 100000 in
theorem take_data (g : Nat) (v : Value) (s : St) (c : UInt8) (w : World) (h : Body w g v s) (hok : s.Ok) (hn : s.next = 1 ∨ s.next = 4) :
    Calls Tryd.prog 43 #[.pointer (some ⟨g, 0, none⟩), .int .u8 c.toNat] w fun e w' => e = .returned (.int .i64 0) ∧ BodyP w g v (dataF s c) w' := by
  have hr := hok.room hn
  have hg := hok.g
  have hl1 := hok.l1
  obtain ⟨nx, lf, dg, got, bd⟩ := s
  simp only at hn hr hg hl1
  obtain ⟨k0, k1, k2, k3, k4⟩ := h.cells
  obtain ⟨f0, f1, f2, f3, f4⟩ := h.free
  simp only at k0 k1 k2 k3 k4
  have hlt := h.blk.lt
  have hr1 := hr.1
  rcases hn with rfl | rfl <;> by_cases hlast : 1 < lf
  all_goals
    go_enter Tryd.func43, Tryd.ntmps43
    go_wp2_with (at_builtin; refine wpList_app rfl _ _ rfl v got (by rfl) (h.row.chg ((Chg.refl w (fun _ => False)).alloc _) (fun _ _ => id)) _ 1 1 [c] rfl (by rfl) (Rd.one (heap_alloc_new w _)) (by omega) ?_; intro A' c' w1 hrow hc1 hfoot; have hb1 := h.behind _ hc1; have q0 := hb1.cell 0; have q1 := hb1.cell 1; have q3 := hb1.cell 3; have p0 := hb1.free 0; have p1 := hb1.free 1; have p3 := hb1.free 3; simp [cellsOf] at q0 q1 q3)
    go_ret
    refine ⟨rfl, body_data h _ hrow hc1 hfoot ?_ (by repeat (first | exact Chg.refl _ _ | refine Chg.set1 ?_ _ _))⟩
    first
      | exact ((hb1.set 3 _).set 1 _).to (by simp [cellsOf, dataF]; omega)
      | exact (((hb1.set 3 _).set 1 _).set 0 _).to (by simp [cellsOf, dataF]; omega)
end Go.Proofs.YtkbmajkoojgkpaaDoor
