/- append onto a row of one's own, the new list by a name of its own. -/
import Derived.Test.YtkbmajkoojgkpaaDoorBegun
import Derived.Test.YtkbmajkoojgkpaaDoorPieces
import Derived.Lib.Hide
namespace Go.Proofs.YtkbmajkoojgkpaaDoor
open Go.RowKit

/-- What an append makes. -/
structure Appd (w : World) (v : Value) (xs ys : List UInt8) (A : Option Addr) (c : Nat) (w' : World) (z : List UInt8) : Prop where
  eq : z = xs ++ ys
  row : Row w' (.slice A z.length c) z
  chg : Chg w w' (fun k => v.ownBlock = some k)
  foot : NewFoot w v (.slice A z.length c)
theorem Appd.len {w w' : World} {v : Value} {xs ys z : List UInt8} {A : Option Addr} {c : Nat} (h : Appd w v xs ys A c w' z) : z.length = xs.length + ys.length := by rw [h.eq, List.length_append]
theorem Appd.of {w w' : World} {v : Value} {xs ys : List UInt8} {A : Option Addr} {c : Nat} (h1 : Row w' (.slice A (xs.length + ys.length) c) (xs ++ ys)) (h2 : Chg w w' (fun k => v.ownBlock = some k)) (h3 : NewFoot w v (.slice A (xs.length + ys.length) c)) : Appd w v xs ys A c w' (xs ++ ys) :=
  ⟨rfl, by rw [List.length_append]; exact h1, h2, by rw [List.length_append]; exact h3⟩

theorem wpList_appd {w : World} {ops : Array Oper} {rest : List Oper} {o : Oper} {a : Act} {Q : Exit → Act → World → Prop} (hgd : o.guard = none) (s x : Operand)
    (ho : o.op = .call { callee := .builtin .append, args := #[s, x], argTypes := #[22, 22] })
    (v : Value) (xs : List UInt8) (hs : a.eval s = v) (hown : Row w v xs) (A : Option Addr) (n c : Nat) (ys : List UInt8) (hn : ys.length = n) (hx : a.eval x = .slice A n c) (hr : Rd w A ys)
    (h63 : xs.length + n ≤ 140737488355328)
    (h : ∀ A' c' w' z, Appd w v xs ys A' c' w' z → wpList Tryd.prog ops Q rest (a.put o.dst (.slice A' (List.length z) c')) w') : wpList Tryd.prog ops Q (o :: rest) a w := by
  subst hn
  refine wpList_app hgd s x ho v xs hs hown A ys.length c ys rfl hx hr h63 fun A' c' w' h1 h2 h3 => ?_
  have := h A' c' w' (xs ++ ys) (Appd.of h1 h2 h3)
  rw [List.length_append] at this
  exact this

theorem Rd.cut {w : World} {A : Option Addr} {xs : List UInt8} {k cap : Nat} (h : Rd w A xs) (h0 : 0 < k) (hk : k ≤ xs.length) (hc : xs.length ≤ cap) : Rd w (if cap = k then A else A.map (fun x => (⟨x.block, x.off + k, none⟩ : Addr))) (xs.drop k) := by
  have e : (fun x : Addr => (⟨x.block, x.off + k, none⟩ : Addr)) = (·.add k) := by
    funext x
    unfold Addr.add
    rw [if_neg (by omega)]
  rw [e]
  exact h.drop hk hc

/-- A row of one's own that has grown since the world w0. -/
structure Out (w0 w : World) (A : Option Addr) (c : Nat) (z : List UInt8) : Prop where
  row : Row w (.slice A z.length c) z
  chg : Chg w0 w (fun _ => False)
  foot : NewFoot w0 (.slice none 0 0) (.slice A z.length c)
theorem Out.start (w : World) : Out w w none 0 [] := ⟨Row.nil _, Chg.refl _ _, fun _ e => .inl e⟩
theorem Out.to {w0 w w' : World} {A : Option Addr} {c : Nat} {z : List UInt8} (h : Out w0 w A c z) (hc : Chg w w' (fun _ => False)) : Out w0 w' A c z :=
  ⟨h.row.chg hc (fun _ _ => id), h.chg.trans hc (fun _ _ e => e), h.foot⟩
theorem Out.alloc {w0 w : World} {A : Option Addr} {c : Nat} {z : List UInt8} (h : Out w0 w A c z) (o : Obj) : Out w0 (w.alloc o) A c z := h.to ((Chg.refl w _).alloc o)
theorem Out.app {w0 w w' : World} {A A' : Option Addr} {c c' : Nat} {xs ys z : List UInt8} (h : Out w0 w A c xs) (ha : Appd w (.slice A xs.length c) xs ys A' c' w' z) : Out w0 w' A' c' z :=
  ⟨ha.row, h.chg.trans ha.chg (fun _ hi e => newFoot_nil h.foot hi e), newFoot_nil_trans h.foot ha.foot h.chg.size⟩
end Go.Proofs.YtkbmajkoojgkpaaDoor
