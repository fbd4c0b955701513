/- A wire in memory: its block, its line, its fields, its body; requests that were handed out. -/
import Derived.Test.YtkbmajkoojgkpaaDoorWPlain3
import Derived.Test.YtkbmajkoojgkpaaDoorRowG
import Derived.Test.YtkbmajkoojgkpaaDoorData
namespace Go.Proofs.YtkbmajkoojgkpaaDoor
open Go.RowKit

theorem flat_get {α : Type} {f : α → List Value} {k : Nat} (hk : ∀ x, (f x).length = k) : ∀ (l : List α) (j i : Nat) (hj : j < l.length), i < k → (l.flatMap f)[j * k + i]? = (f l[j])[i]?
  | [], j, i, hj, _ => by simp at hj
  | x :: l, 0, i, _, hi => by
    rw [List.flatMap_cons, Nat.zero_mul, Nat.zero_add, List.getElem?_append_left (by rw [hk]; exact hi)]
    rfl
  | x :: l, j + 1, i, hj, hi => by
    rw [List.flatMap_cons, List.getElem?_append_right (by rw [hk, Nat.add_mul]; omega), hk, show (j + 1) * k + i - k = j * k + i from by rw [Nat.add_mul]; omega, flat_get hk l j i (by simpa using hj) hi]
    rfl
theorem flat_len {α : Type} {f : α → List Value} {k : Nat} (hk : ∀ x, (f x).length = k) : ∀ l : List α, (l.flatMap f).length = l.length * k
  | [] => by simp
  | x :: l => by rw [List.flatMap_cons, List.length_append, hk, flat_len hk l, List.length_cons, Nat.add_mul]; omega

theorem Body.to {w w' : World} {g : Nat} {v : Value} {s : St} {S : Nat → Prop} (h : Body w g v s) (hc : Chg w w' S) (hS : ∀ k, Foot g v k → ¬ S k) : Body w' g v s :=
  ⟨h.blk.chg hc (hS g (.inl rfl)), h.row.chg hc (fun k e => hS k (.inr e))⟩

def fcell (f : Fld) : List Value := [strV f.1, strV f.2]
def fcells (fs : List Fld) : List Value := fs.flatMap fcell
theorem fcells_one (fs : List Fld) : ∀ u ∈ fcells fs, u.oneCell' = true := by
  intro u hu
  obtain ⟨f, _, hf⟩ := List.mem_flatMap.1 hu
  simp [fcell] at hf
  rcases hf with rfl | rfl <;> rfl
theorem fcells_snoc (fs : List Fld) (f : Fld) : fcells (fs ++ [f]) = fcells fs ++ fcell f := by simp [fcells]
theorem RdF.of_rdV {w : World} {A : Option Addr} {fs : List Fld} (h : RdV w A (fcells fs)) : RdF w A fs :=
  ⟨fun hn => by
    have hlen : (fcells fs).length = fs.length * 2 := flat_len (f := fcell) (k := 2) (fun _ => rfl) fs
    obtain ⟨ad, e, hc⟩ := h.out (by omega)
    refine ⟨ad, e, fun j hj => ⟨?_, ?_⟩⟩
    · have := flat_get (f := fcell) (k := 2) (fun _ => rfl) fs j 0 hj (by decide)
      exact hc _ _ this
    · have := flat_get (f := fcell) (k := 2) (fun _ => rfl) fs j 1 hj (by decide)
      rw [add_add]
      exact hc _ _ this⟩

theorem fld_info : (Tryd.prog.info? 42).map (fun i => (i.zero, i.size, i.bytes)) = some (some (.agg #[.string ⟨#[]⟩, .string ⟨#[]⟩]), 2, 32) := by kernel_rfl
theorem req_info : (Tryd.prog.info? 66).map (fun i => (i.zero, i.size, i.bytes)) = some (some (.agg #[.string ⟨#[]⟩, .string ⟨#[]⟩, .slice none 0 0, .slice none 0 0, .bool false]), 5, 88) := by kernel_rfl

/-- A row of fields of one's own. -/
abbrev RowF (w : World) (v : Value) (fs : List Fld) : Prop := RowG w 42 2 v fs.length (fcells fs)

def wireCells (nx : Int) (ln : Value) (m t : List UInt8) (fl : Value) (kp : Bool) (bp : Option Nat) : Array Value :=
  #[.int .i64 nx, ln, .string (str m), .string (str t), fl, .slice none 0 0, .bool kp, .pointer (bp.map fun b => ⟨b, 0, none⟩)]

/-- What holds of a wire's fields. -/
structure WSt.Fl (s : WSt) : Prop where
  fl : s.fs.length ≤ 32
  asc : ∀ f, f ∈ s.fs → f.1.length ≤ 1024 ∧ f.2.length ≤ 1024 ∧ f.2.all valC = true
theorem WSt.Ok.toFl {s : WSt} (h : s.Ok) : s.Fl := ⟨h.fl, h.asc⟩

/-- Where a wire's parts lie. -/
structure WAt where
  g : Nat
  ln : Value
  fl : Value
  bp : Option Nat
  bv : Value
/-- The blocks of a wire. -/
def WAt.foot (p : WAt) (k : Nat) : Prop := k = p.g ∨ p.ln.ownBlock = some k ∨ p.fl.ownBlock = some k ∨ p.bp = some k ∨ p.bv.ownBlock = some k
/-- The blocks are old ones or new ones. -/
def NewW (w : World) (p p' : WAt) : Prop := p'.g = p.g ∧ ∀ k, p'.foot k → p.foot k ∨ w.heap.size ≤ k

/-- A wire in memory. -/
structure Wire (w : World) (p : WAt) (s : WSt) : Prop where
  blk : Blk w p.g 68 (wireCells s.next p.ln s.m s.t p.fl s.keep p.bp)
  line : Row w p.ln s.line
  flds : RowF w p.fl s.fs
  body : s.next = 3 → ∃ b, p.bp = some b ∧ Body w b p.bv s.bd ∧ ∀ k, p.ln.ownBlock = some k → p.bv.ownBlock ≠ some k
  none_ : s.next ≠ 3 → p.bp = none ∧ p.bv = .slice none 0 0

section
variable {w w' : World} {p p' p'' : WAt} {s : WSt}
theorem NewW.refl (w : World) (p : WAt) : NewW w p p := ⟨rfl, fun _ h => .inl h⟩
theorem NewW.trans (h1 : NewW w p p') (h2 : NewW w' p' p'') (hs : w.heap.size ≤ w'.heap.size) : NewW w p p'' :=
  ⟨h2.1.trans h1.1, fun k hk => by
    rcases h2.2 k hk with h | h
    · exact h1.2 k h
    · exact .inr (by omega)⟩
theorem Wire.chg {S : Nat → Prop} (h : Wire w p s) (hc : Chg w w' S) (hS : ∀ k, p.foot k → ¬ S k) : Wire w' p s :=
  ⟨h.blk.chg hc (hS _ (.inl rfl)), h.line.chg hc (fun k e => hS k (.inr (.inl e))), h.flds.chg hc (fun k e => hS k (.inr (.inr (.inl e)))), fun h3 => by
    obtain ⟨b, e, hb, hd⟩ := h.body h3
    refine ⟨b, e, ⟨hb.blk.chg hc (hS b (.inr (.inr (.inr (.inl e))))), hb.row.chg hc (fun k e => hS k (.inr (.inr (.inr (.inr e)))))⟩, hd⟩, h.none_⟩
theorem Wire.lt (h : Wire w p s) {k : Nat} (hk : p.foot k) : k < w.heap.size := by
  by_cases h3 : s.next = 3
  · obtain ⟨b, e, hb, _⟩ := h.body h3
    rcases hk with rfl | hk | hk | hk | hk
    · exact h.blk.lt
    · exact h.line.lt hk
    · exact h.flds.lt hk
    · rw [e] at hk
      injection hk with hk
      subst hk
      exact hb.blk.lt
    · exact hb.row.lt hk
  · obtain ⟨e1, e2⟩ := h.none_ h3
    rcases hk with rfl | hk | hk | hk | hk
    · exact h.blk.lt
    · exact h.line.lt hk
    · exact h.flds.lt hk
    · rw [e1] at hk; cases hk
    · rw [e2] at hk; simp [Value.ownBlock] at hk
/-- The cells of a wire's block. -/
theorem wire_cells {g : Nat} {nx : Int} {ln : Value} {m t : List UInt8} {fl : Value} {kp : Bool} {bp : Option Nat} (h : Blk w g 68 (wireCells nx ln m t fl kp bp)) :
    (w.cell? ⟨g, 0, none⟩ = some (.int .i64 nx) ∧ w.cell? ⟨g, 1, none⟩ = some ln ∧ w.cell? ⟨g, 2, none⟩ = some (.string (str m)) ∧ w.cell? ⟨g, 3, none⟩ = some (.string (str t)) ∧
      w.cell? ⟨g, 4, none⟩ = some fl ∧ w.cell? ⟨g, 5, none⟩ = some (.slice none 0 0) ∧ w.cell? ⟨g, 6, none⟩ = some (.bool kp) ∧ w.cell? ⟨g, 7, none⟩ = some (.pointer (bp.map fun b => ⟨b, 0, none⟩))) :=
  ⟨h.cell 0, h.cell 1, h.cell 2, h.cell 3, h.cell 4, h.cell 5, h.cell 6, h.cell 7⟩
theorem wire_free {g : Nat} {cs : Array Value} (h : Blk w g 68 cs) : w.frozen? ⟨g, 0, none⟩ = false ∧ w.frozen? ⟨g, 1, none⟩ = false ∧ w.frozen? ⟨g, 2, none⟩ = false ∧ w.frozen? ⟨g, 3, none⟩ = false ∧
    w.frozen? ⟨g, 4, none⟩ = false ∧ w.frozen? ⟨g, 5, none⟩ = false ∧ w.frozen? ⟨g, 6, none⟩ = false ∧ w.frozen? ⟨g, 7, none⟩ = false :=
  ⟨h.free 0, h.free 1, h.free 2, h.free 3, h.free 4, h.free 5, h.free 6, h.free 7⟩
end

/-! ### requests -/
/-- A request with the values of its fields and its body. -/
abbrev RV := Req × Value × Value
def rcell (x : RV) : List Value := [.string (str x.1.m), .string (str x.1.t), x.2.1, x.2.2, .bool x.1.keep]
def rcells (q : List RV) : List Value := q.flatMap rcell
/-- The blocks of a request. -/
def RB (x : RV) (k : Nat) : Prop := x.2.1.ownBlock = some k ∨ x.2.2.ownBlock = some k
/-- Requests in memory, each with rows of its own. -/
structure ReqsM (w : World) (q : List RV) : Prop where
  each : ∀ x, x ∈ q → RowF w x.2.1 x.1.fs ∧ Row w x.2.2 x.1.body
  apart : q.Pairwise fun x y => ∀ k, RB x k → ¬ RB y k
theorem ReqsM.nil (w : World) : ReqsM w [] := ⟨by simp, List.Pairwise.nil⟩
theorem ReqsM.chg {w w' : World} {S : Nat → Prop} {q : List RV} (h : ReqsM w q) (hc : Chg w w' S) (hS : ∀ x, x ∈ q → ∀ k, RB x k → ¬ S k) : ReqsM w' q :=
  ⟨fun x hx => ⟨(h.each x hx).1.chg hc (fun k e => hS x hx k (.inl e)), (h.each x hx).2.chg hc (fun k e => hS x hx k (.inr e))⟩, h.apart⟩
theorem ReqsM.lt {w : World} {q : List RV} (h : ReqsM w q) {x : RV} (hx : x ∈ q) {k : Nat} (hk : RB x k) : k < w.heap.size := by
  rcases hk with hk | hk
  · exact (h.each x hx).1.lt hk
  · exact (h.each x hx).2.lt hk
theorem ReqsM.snoc {w : World} {q : List RV} {x : RV} (h : ReqsM w q) (h1 : RowF w x.2.1 x.1.fs) (h2 : Row w x.2.2 x.1.body) (hd : ∀ y, y ∈ q → ∀ k, RB y k → ¬ RB x k) : ReqsM w (q ++ [x]) :=
  ⟨fun y hy => by
    rcases List.mem_append.1 hy with hy | hy
    · exact h.each y hy
    · obtain rfl : y = x := by simpa using hy
      exact ⟨h1, h2⟩,
    List.pairwise_append.2 ⟨h.apart, List.pairwise_singleton _ _, fun y hy z hz => by
      obtain rfl : z = x := by simpa using hz
      exact hd y hy⟩⟩
theorem rcells_snoc (q : List RV) (x : RV) : rcells (q ++ [x]) = rcells q ++ rcell x := by simp [rcells]
theorem rcells_len (q : List RV) : (rcells q).length = q.length * 5 := flat_len (f := rcell) (k := 5) (fun _ => rfl) q
end Go.Proofs.YtkbmajkoojgkpaaDoor
