/- The contract of wire's Feed. -/
import Derived.Test.YtkbmajkoojgkpaaDoorWTake
namespace Go.Proofs.YtkbmajkoojgkpaaDoor
open Go.RowKit

theorem RowG.ne_rowG {w : World} {e e' : TypeId} {k k' n n' : Nat} {v v' : Value} {us us' : List Value} (h : RowG w e k v n us) (h' : RowG w e' k' v' n' us') (he : e ≠ e') {i : Nat} (h1 : v.ownBlock = some i) : v'.ownBlock ≠ some i := by
  rcases h.out.2 with ⟨rfl, h0⟩ | ⟨g', cap, cur, rfl, _, hg, r⟩
  · simp [Value.ownBlock] at h1
  · have : g' = i := by simpa [Value.ownBlock] using h1
    subst this
    exact h'.ne_blk ⟨hg⟩ he
/-- A row of requests is no part of a wire. -/
theorem Wire.apart {w : World} {p : WAt} {s : WSt} (h : Wire w p s) {v : Value} {n : Nat} {us : List Value} (hr : RowG w 66 5 v n us) {k : Nat} (hk : v.ownBlock = some k) : ¬ p.foot k := by
  rintro (e | e | e | e | e)
  · subst e; exact hr.ne_blk h.blk (by decide) hk
  · exact hr.ne_row h.line (by decide) hk e
  · exact hr.ne_rowG h.flds (by decide) hk e
  · by_cases h3 : s.next = 3
    · obtain ⟨b, eb, hb, _⟩ := h.body h3
      rw [eb] at e
      injection e with e
      subst e
      exact hr.ne_blk hb.blk (by decide) hk
    · rw [(h.none_ h3).1] at e; cases e
  · by_cases h3 : s.next = 3
    · obtain ⟨b, eb, hb, _⟩ := h.body h3
      exact hr.ne_row hb.row (by decide) hk e
    · rw [(h.none_ h3).2] at e; simp [Value.ownBlock] at e
/-- A row of requests is no part of a request. -/
theorem ReqsM.apartRow {w : World} {q : List RV} (h : ReqsM w q) {v : Value} {n : Nat} {us : List Value} (hr : RowG w 66 5 v n us) {k : Nat} (hk : v.ownBlock = some k) : ∀ x, x ∈ q → ¬ RB x k := by
  rintro x hx (e | e)
  · exact hr.ne_rowG (h.each x hx).1 (by decide) hk e
  · exact hr.ne_row (h.each x hx).2 (by decide) hk e

/-- The wire behind a body's step. -/
theorem Wire.body_step {w w2 : World} {g : Nat} {ln fl bv : Value} {b : Nat} {s : WSt} {t : St} (h : Wire w ⟨g, ln, fl, some b, bv⟩ s) (h3 : s.next = 3) (hb : BodyP w b bv t w2) :
    ∃ v', Wire w2 ⟨g, ln, fl, some b, v'⟩ { s with bd := t } ∧ NewW w ⟨g, ln, fl, some b, bv⟩ ⟨g, ln, fl, some b, v'⟩ ∧ Chg w w2 (WAt.foot ⟨g, ln, fl, some b, bv⟩) := by
  obtain ⟨v', hb2, hc, hf⟩ := hb
  obtain ⟨b', e, hb1, hd⟩ := h.body h3
  have e' : b = b' := by have : some b = some b' := e; injection this
  subst e'
  have hcf : Chg w w2 (WAt.foot ⟨g, ln, fl, some b, bv⟩) := hc.mono (fun k _ e => by
    rcases e with e | e
    · exact .inr (.inr (.inr (.inl (by show some b = some k; rw [e]))))
    · exact .inr (.inr (.inr (.inr e))))
  refine ⟨v', ⟨h.blk.chg hc ?_, h.line.chg hc ?_, h.flds.chg hc ?_, fun _ => ⟨b, rfl, hb2, fun k hk e => ?_⟩, fun hx => absurd h3 hx⟩, ⟨rfl, ?_⟩, hcf⟩
  · rintro (e | e)
    · have e2 : g = b := e
      subst e2
      exact Blk.ne h.blk hb1.blk (by decide) rfl
    · exact hb1.row.ne_blk h.blk (by decide) e
  · rintro k e (e2 | e2)
    · subst e2
      exact h.line.ne_blk hb1.blk (by decide) e
    · exact hd k e e2
  · rintro k e (e2 | e2)
    · subst e2
      exact h.flds.ne_blk hb1.blk (by decide) e
    · exact h.flds.ne_row hb1.row (by decide) e e2
  · rcases hf k e with e2 | e2
    · exact hd k hk e2
    · have := h.line.lt hk
      omega
  · rintro k (e | e | e | e | e)
    · exact .inl (.inl e)
    · exact .inl (.inr (.inl e))
    · exact .inl (.inr (.inr (.inl e)))
    · exact .inl (.inr (.inr (.inr (.inl e))))
    · rcases hf k e with e2 | e2
      · exact .inl (.inr (.inr (.inr (.inr e2))))
      · exact .inr e2

theorem wire_step {w w2 : World} {p : WAt} {b : Nat} {s : WSt} {t : St} (h : Wire w p s) (h3 : s.next = 3) (e : p.bp = some b) (hb : BodyP w b p.bv t w2) :
    ∃ v', Wire w2 { p with bv := v' } { s with bd := t } ∧ NewW w p { p with bv := v' } ∧ Chg w w2 p.foot := by
  obtain ⟨g, ln, fl, bp, bv⟩ := p
  simp only at e
  subst e
  exact h.body_step h3 hb

theorem cells8 {w : World} {g t : Nat} {cs : Array Value} (h : Blk w g t cs) (hs : cs.size = 8) : ∃ v0 v1 v2 v3 v4 v5 v6 v7 : Value, cs = #[v0, v1, v2, v3, v4, v5, v6, v7] ∧ w.cell? ⟨g, 0, none⟩ = some v0 ∧ w.cell? ⟨g, 1, none⟩ = some v1 ∧ w.cell? ⟨g, 2, none⟩ = some v2 ∧ w.cell? ⟨g, 3, none⟩ = some v3 ∧
    w.cell? ⟨g, 4, none⟩ = some v4 ∧ w.cell? ⟨g, 5, none⟩ = some v5 ∧ w.cell? ⟨g, 6, none⟩ = some v6 ∧ w.cell? ⟨g, 7, none⟩ = some v7 := by
  obtain ⟨l⟩ := cs
  match l, hs with
  | [v0, v1, v2, v3, v4, v5, v6, v7], _ => exact ⟨v0, v1, v2, v3, v4, v5, v6, v7, rfl, h.cell 0, h.cell 1, h.cell 2, h.cell 3, h.cell 4, h.cell 5, h.cell 6, h.cell 7⟩

/-- The world in which a wire is given up. -/
theorem dead_world {w : World} {g : Nat} {v0 v1 v2 v3 v4 v5 v6 v7 : Value} (h : Blk w g 68 #[v0, v1, v2, v3, v4, v5, v6, v7]) :
    Wire ((((((((w.setCell ⟨g, 0, none⟩ (.int .i64 5)).setCell ⟨g, 1, none⟩ (.slice none 0 0)).setCell ⟨g, 2, none⟩ (.string ⟨#[]⟩)).setCell ⟨g, 3, none⟩ (.string ⟨#[]⟩)).setCell ⟨g, 4, none⟩ (.slice none 0 0)).setCell ⟨g, 5, none⟩ (.slice none 0 0)).setCell ⟨g, 6, none⟩ (.bool false)).setCell ⟨g, 7, none⟩ (.pointer none)) (newAt g) WSt.dead ∧
    Chg w ((((((((w.setCell ⟨g, 0, none⟩ (.int .i64 5)).setCell ⟨g, 1, none⟩ (.slice none 0 0)).setCell ⟨g, 2, none⟩ (.string ⟨#[]⟩)).setCell ⟨g, 3, none⟩ (.string ⟨#[]⟩)).setCell ⟨g, 4, none⟩ (.slice none 0 0)).setCell ⟨g, 5, none⟩ (.slice none 0 0)).setCell ⟨g, 6, none⟩ (.bool false)).setCell ⟨g, 7, none⟩ (.pointer none)) (fun k => k = g) := by
  refine ⟨⟨?_, Row.nil _, RowG.nil _ _ _, fun h3 => by simp [WSt.dead] at h3, fun _ => ⟨rfl, rfl⟩⟩, ?_⟩
  · have q1 := ((((((((h.set 0 (.int .i64 5)).set 1 (.slice none 0 0)).set 2 (.string ⟨#[]⟩)).set 3 (.string ⟨#[]⟩)).set 4 (.slice none 0 0)).set 5 (.slice none 0 0)).set 6 (.bool false)).set 7 (.pointer none))
    exact q1.to (by simp [wireCells, WSt.dead, newAt, str])
  · have q1 := ((((((((Chg.refl w (fun k => k = g)).set1 0 (.int .i64 5)).set1 1 (.slice none 0 0)).set1 2 (.string ⟨#[]⟩)).set1 3 (.string ⟨#[]⟩)).set1 4 (.slice none 0 0)).set1 5 (.slice none 0 0)).set1 6 (.bool false)).set1 7 (.pointer none)
    exact q1

/-- Behind k bytes: what has come, and what is still to come decides the rest. -/
structure AlongW (s : WSt) (xs : List UInt8) (k : Nat) (L : List Req) (sk : WSt) : Prop where
  ok : sk.Ok
  nx : sk.next ≤ 4
  rest : runW s xs = (L ++ (runW sk (xs.drop k)).1, (runW sk (xs.drop k)).2)
theorem AlongW.start {s : WSt} (h : s.Ok) (hn : s.next ≤ 4) (xs : List UInt8) : AlongW s xs 0 [] s := ⟨h, hn, by simp⟩
theorem AlongW.step {s sk sk' : WSt} {xs : List UInt8} {k N : Nat} {L : List Req} (h : AlongW s xs k L sk) (hp : sk'.Pre) (he : runW sk (xs.drop k) = thenW (wholeW sk') ((xs.drop k).drop N)) : AlongW s xs (k + N) (L ++ (wholeW sk').1.toList) (wholeW sk').2 := by
  refine ⟨whole_ok hp, ?_, ?_⟩
  · unfold wholeW
    have := hp.nx
    split
    · simp only; split <;> decide
    · simp only; omega
  · rw [h.rest, he]
    unfold thenW
    rw [List.drop_drop]
    simp only [List.append_assoc]
theorem AlongW.bad {s sk : WSt} {xs : List UInt8} {k : Nat} {L : List Req} {E : Int} (h : AlongW s xs k L sk) (he : runW sk (xs.drop k) = ([], E, WSt.dead)) : runW s xs = (L, E, WSt.dead) := by
  rw [h.rest, he]
  simp
theorem AlongW.stop {s sk : WSt} {xs : List UInt8} {k : Nat} {L : List Req} (h : AlongW s xs k L sk) (he : xs.drop k = [] ∨ sk.next = 4) : runW s xs = (L, 0, sk) := by
  have : runW sk (xs.drop k) = ([], 0, sk) := by
    rcases he with he | he
    · rw [he]; rfl
    · cases xs.drop k with
      | nil => rfl
      | cons c cs => rw [runW, if_pos he]
  rw [h.rest, this]
  simp

/-- A round on a body: what it tells. -/
theorem round_body {s : WSt} (hok : s.Ok) (h3 : s.next = 3) {ys : List UInt8} (hne : ys ≠ []) :
    ∃ (N : Nat) (E : Int) (t : St), feedF s.bd ys = (if E = 0 then (N : Int) else 0, E, t) ∧ 1 ≤ N ∧ N ≤ ys.length ∧ (E ≠ 0 → runW s ys = ([], errW E, WSt.dead)) ∧
      (E = 0 → ({ s with bd := t } : WSt).Pre ∧ runW s ys = thenW (wholeW { s with bd := t }) (ys.drop N)) := by
  obtain ⟨a, b, c, d⟩ := hok.body h3
  have hr := run_body ys s h3 c d
  refine ⟨(feedL s.bd ys).1, (feedL s.bd ys).2.bad, (feedL s.bd ys).2.told, ?_, ?_, feedL_le _ _, fun hE => ?_, fun hE => ?_⟩
  · rw [feedF_eq b]
  · have hon : s.bd.on = true := by simp [St.on, c, d]
    cases ys with
    | nil => exact absurd rfl hne
    | cons y ys => simp only [feedL, hon, if_true]; omega
  · rw [hr]
    unfold bodyW
    rw [if_pos hE]
  · have ht : (feedL s.bd ys).2.told = (feedL s.bd ys).2 := by unfold St.told; rw [if_pos hE]
    rw [ht]
    refine ⟨body_pre hok h3 (feed_ok ys a) (feed_ne0 ys b) hE, ?_⟩
    rw [hr]
    unfold bodyW
    rw [if_neg (by simp [hE])]
/-- A round on a line. -/
theorem round_line {s : WSt} (hok : s.Ok) (hn : s.next = 1 ∨ s.next = 2) (c : UInt8) (cs : List UInt8) :
    ((takeW s c).1 ≠ 0 → runW s (c :: cs) = ([], (takeW s c).1, WSt.dead)) ∧ ((takeW s c).1 = 0 → (takeW s c).2.Pre ∧ runW s (c :: cs) = thenW (wholeW (takeW s c).2) ((c :: cs).drop 1)) := by
  have h3 : ¬ s.next = 3 := by omega
  have h4 : ¬ s.next = 4 := by omega
  refine ⟨fun hE => ?_, fun hE => ⟨take_pre hok hn c hE, ?_⟩⟩
  · have hb : byteW s c = ((takeW s c).1, none, WSt.dead) := by unfold byteW; rw [if_neg h3, if_neg hE]
    rw [runW, if_neg h4, hb, if_pos hE]
  · have hb : byteW s c = (0, wholeW (takeW s c).2) := by unfold byteW; rw [if_neg h3, if_pos hE]
    rw [runW, if_neg h4, hb]
    simp only [ne_eq, not_true_eq_false, if_false]
    rfl

/-- What Feed leaves. -/
def FeedP (p : WAt) (r : List Req × Int × WSt) (w : World) (e : Ending) (w' : World) : Prop :=
  ∃ (p' : WAt) (q : List RV) (A : Option Addr) (c : Nat), e = .returned (.tuple #[.slice A q.length c, .int .i64 r.2.1]) ∧ q.map (·.1) = r.1 ∧ Wire w' p' r.2.2 ∧ NewW w p p' ∧ Chg w w' p.foot ∧
    RowG w' 66 5 (.slice A q.length c) q.length (rcells q) ∧ ReqsM w' q ∧ (∀ x, x ∈ q → ∀ k, RB x k → (p.foot k ∨ w.heap.size ≤ k) ∧ ¬ p'.foot k) ∧ NewFoot w (.slice none 0 0) (.slice A q.length c)
def lenV : Value → Nat
  | .slice _ n _ => n
  | _ => 0

theorem FeedP.mk' {p p' : WAt} {r : List Req × Int × WSt} {w w' : World} {q : List RV} {A : Option Addr} {c : Nat} {E : Int} (h0 : r = (q.map (·.1), E, r.2.2)) (h2 : Wire w' p' r.2.2) (h3 : NewW w p p') (h4 : Chg w w' p.foot)
    (h5 : RowG w' 66 5 (.slice A q.length c) q.length (rcells q)) (h6 : ReqsM w' q) (h7 : ∀ x, x ∈ q → ∀ k, RB x k → (p.foot k ∨ w.heap.size ≤ k) ∧ ¬ p'.foot k) (h8 : NewFoot w (.slice none 0 0) (.slice A q.length c)) :
    FeedP p r w (.returned (.tuple #[.slice A q.length c, .int .i64 E])) w' :=
  ⟨p', q, A, c, by rw [h0], by rw [h0], h2, h3, h4, h5, h6, h7, h8⟩

theorem newAt_foot {g k : Nat} (h : (newAt g).foot k) : k = g := by
  rcases h with e | e | e | e | e
  · exact e
  · simp [newAt, Value.ownBlock] at e
  · simp [newAt, Value.ownBlock] at e
  · simp [newAt] at e
  · simp [newAt, Value.ownBlock] at e

/-- A round that ends with an error. -/
theorem feed_bad {p pk : WAt} {s sk : WSt} {xs : List UInt8} {w wr w2 : World} {q : List RV} {A2 : Option Addr} {c2 : Nat} {E : Int} {v0 v1 v2 v3 v4 v5 v6 v7 : Value} (hwk : Wire wr pk sk) (hpg : pk.g = p.g) (hnf : ∀ k, pk.foot k → p.foot k ∨ w.heap.size ≤ k) (hch : Chg w wr p.foot)
    (hrow : RowG wr 66 5 (.slice A2 q.length c2) q.length (rcells q)) (hreq : ReqsM wr q) (hrb : ∀ x, x ∈ q → ∀ k, RB x k → (p.foot k ∨ w.heap.size ≤ k) ∧ ¬ pk.foot k) (hlf : NewFoot w (.slice none 0 0) (.slice A2 q.length c2))
    (hcw2 : Chg wr w2 pk.foot) (hb2 : Blk w2 p.g 68 #[v0, v1, v2, v3, v4, v5, v6, v7]) (hrun : runW s xs = (q.map (·.1), E, WSt.dead)) :
    FeedP p (runW s xs) w (.returned (.tuple #[.slice A2 q.length c2, .int .i64 E])) ((((((((w2.setCell ⟨p.g, 0, none⟩ (.int .i64 5)).setCell ⟨p.g, 1, none⟩ (.slice none 0 0)).setCell ⟨p.g, 2, none⟩ (.string ⟨#[]⟩)).setCell ⟨p.g, 3, none⟩ (.string ⟨#[]⟩)).setCell ⟨p.g, 4, none⟩ (.slice none 0 0)).setCell ⟨p.g, 5, none⟩ (.slice none 0 0)).setCell ⟨p.g, 6, none⟩ (.bool false)).setCell ⟨p.g, 7, none⟩ (.pointer none)) := by
  obtain ⟨hd, hcd⟩ := dead_world hb2
  have hgk : pk.foot p.g := .inl hpg.symm
  generalize ((((((((w2.setCell ⟨p.g, 0, none⟩ (.int .i64 5)).setCell ⟨p.g, 1, none⟩ (.slice none 0 0)).setCell ⟨p.g, 2, none⟩ (.string ⟨#[]⟩)).setCell ⟨p.g, 3, none⟩ (.string ⟨#[]⟩)).setCell ⟨p.g, 4, none⟩ (.slice none 0 0)).setCell ⟨p.g, 5, none⟩ (.slice none 0 0)).setCell ⟨p.g, 6, none⟩ (.bool false)).setCell ⟨p.g, 7, none⟩ (.pointer none)) = w3 at *
  have hc3 : Chg wr w3 pk.foot := hcw2.trans hcd (fun _ _ e => by subst e; exact hgk)
  refine FeedP.mk' (p' := newAt p.g) (by rw [hrun]) (by rw [hrun]; exact hd) ⟨rfl, fun k hk => .inl (.inl (newAt_foot hk))⟩ (hch.trans hc3 (fun i hi e => ?_)) (hrow.chg hc3 (fun i e => hwk.apart hrow e)) (hreq.chg hc3 (fun x hx k e => (hrb x hx k e).2)) (fun x hx k e => ⟨(hrb x hx k e).1, fun e' => (hrb x hx k e).2 (by rw [newAt_foot e']; exact hgk)⟩) hlf
  rcases hnf i e with e' | e'
  · exact e'
  · omega

/-- What holds at the head of Feed's loop. -/
def FeedRel (p : WAt) (s : WSt) (xs : List UInt8) (c : Nat) (w : World) (bv lv : Value) (wr : World) : Prop :=
  ∃ (k : Nat) (q : List RV) (sk : WSt) (pk : WAt) (A1 : Option Addr) (c1 : Nat) (A2 : Option Addr) (c2 : Nat), k ≤ xs.length ∧ bv = .slice A1 (xs.length - k) c1 ∧ lv = .slice A2 q.length c2 ∧ xs.length - k ≤ c1 ∧ c1 ≤ c ∧ Hid (AlongW s xs k (q.map (·.1)) sk) ∧ Wire wr pk sk ∧ pk.g = p.g ∧ Hid (∀ k, pk.foot k → p.foot k ∨ w.heap.size ≤ k) ∧ Chg w wr p.foot ∧
      RdD wr (fun k => ¬ p.foot k ∧ k < w.heap.size) A1 (xs.drop k) ∧ RowG wr 66 5 (.slice A2 q.length c2) q.length (rcells q) ∧ ReqsM wr q ∧ Hid (∀ x, x ∈ q → ∀ k, RB x k → (p.foot k ∨ w.heap.size ≤ k) ∧ ¬ pk.foot k) ∧ Hid (NewFoot w (.slice none 0 0) (.slice A2 q.length c2)) ∧ q.length ≤ k

/-- The middle of a round. -/
structure Mid (wr w2 : World) (pk : WAt) (sk : WSt) (ys : List UInt8) (N : Nat) (pk2 : WAt) (sk2 : WSt) : Prop where
  wire : Wire w2 pk2 sk2
  new : NewW wr pk pk2
  chg : Chg wr w2 pk.foot
  pre : sk2.Pre
  run : runW sk ys = thenW (wholeW sk2) (ys.drop N)

section
variable {p pk pk2 : WAt} {s sk sk2 : WSt} {xs ys : List UInt8} {c k y N : Nat} {w wr w2 w3 w4 : World} {q : List RV} {A2 A5 A3 A4 : Option Addr} {c2 c5 c3 c4 : Nat}
theorem mid_new (hnf : ∀ k, pk.foot k → p.foot k ∨ w.heap.size ≤ k) (hs : w.heap.size ≤ wr.heap.size) (hm : Mid wr w2 pk sk ys N pk2 sk2) : ∀ k, pk2.foot k → p.foot k ∨ w.heap.size ≤ k := fun k e => by
  rcases hm.new.2 k e with e | e
  · exact hnf k e
  · exact .inr (by omega)
theorem chg_in {S : Nat → Prop} (hch : Chg w wr p.foot) (hc : Chg wr w2 S) (hS : ∀ k, S k → p.foot k ∨ w.heap.size ≤ k) : Chg w w2 p.foot :=
  hch.trans hc (fun i hi e => by
    rcases hS i e with e | e
    · exact e
    · omega)
theorem FeedRel.not (hak : AlongW s xs k (q.map (·.1)) sk) (hys : ys = xs.drop k) (hkx : k + y = xs.length) (hpg : pk.g = p.g) (hnf : ∀ k, pk.foot k → p.foot k ∨ w.heap.size ≤ k) (hch : Chg w wr p.foot) (hwk : Wire wr pk sk)
    (hrow : RowG wr 66 5 (.slice A2 q.length c2) q.length (rcells q)) (hreq : ReqsM wr q) (hrb : ∀ x, x ∈ q → ∀ k, RB x k → (p.foot k ∨ w.heap.size ≤ k) ∧ ¬ pk.foot k) (hlf : NewFoot w (.slice none 0 0) (.slice A2 q.length c2)) (hqk : q.length ≤ k)
    (hm : Mid wr w2 pk sk ys N pk2 sk2) (hN : N ≤ y) (hnw : ¬ (sk2.next = 3 ∧ sk2.bd.next = 9)) (hc : Chg w2 w3 (fun _ => False)) (hr5 : RdD wr (fun k => ¬ p.foot k ∧ k < w.heap.size) A5 (ys.drop N)) (h5 : y - N ≤ c5) (h5c : c5 ≤ c) :
    FeedRel p s xs c w (.slice A5 (y - N) c5) (.slice A2 q.length c2) w3 := by
  have hst := hak.step hm.pre (by rw [← hys]; exact hm.run)
  rw [wholeW_off hnw] at hst
  simp only [Option.toList_none, List.append_nil] at hst
  have hc3 : Chg wr w3 pk.foot := hm.chg.trans hc (fun _ _ e => e.elim)
  refine ⟨k + N, q, sk2, pk2, A5, c5, A2, c2, by omega, by rw [show xs.length - (k + N) = y - N from by omega], rfl, by omega, h5c, hst, hm.wire.chg hc (fun _ _ => id), hm.new.1.trans hpg, mid_new hnf hch.size hm, chg_in hch hc3 hnf, ?_, hrow.chg hc3 (fun i e => hwk.apart hrow e), hreq.chg hc3 (fun x hx k e => (hrb x hx k e).2), ?_, hlf, by omega⟩
  · rw [← List.drop_drop, ← hys]
    exact hr5.chg hc3 (fun i hi e => by
      rcases hnf i e with e | e
      · exact hi.1 e
      · omega)
  · intro x hx i e
    refine ⟨(hrb x hx i e).1, fun e' => ?_⟩
    rcases hm.new.2 i e' with e' | e'
    · exact (hrb x hx i e).2 e'
    · have := hreq.lt hx e
      omega

/-- The wire behind a request that was whole. -/
def WAt.shut (p : WAt) : WAt := { p with fl := .slice none 0 0, bp := none, bv := .slice none 0 0 }
theorem shut_foot {p : WAt} {k : Nat} (h : p.shut.foot k) : k = p.g ∨ p.ln.ownBlock = some k := by
  rcases h with e | e | e | e | e
  · exact .inl e
  · exact .inr e
  · simp [WAt.shut, Value.ownBlock] at e
  · simp [WAt.shut] at e
  · simp [WAt.shut, Value.ownBlock] at e
theorem shut_in {p : WAt} {k : Nat} (h : p.shut.foot k) : p.foot k := by
  rcases shut_foot h with e | e
  · exact .inl e
  · exact .inr (.inl e)

theorem FeedRel.whole {o1 o2 : Obj} (hak : AlongW s xs k (q.map (·.1)) sk) (hys : ys = xs.drop k) (hkx : k + y = xs.length) (hpg : pk.g = p.g) (hnf : ∀ k, pk.foot k → p.foot k ∨ w.heap.size ≤ k) (hch : Chg w wr p.foot) (hwk : Wire wr pk sk)
    (hrow : RowG wr 66 5 (.slice A2 q.length c2) q.length (rcells q)) (hreq : ReqsM wr q) (hrb : ∀ x, x ∈ q → ∀ k, RB x k → (p.foot k ∨ w.heap.size ≤ k) ∧ ¬ pk.foot k) (hlf : NewFoot w (.slice none 0 0) (.slice A2 q.length c2)) (hqk : q.length ≤ k)
    (hm : Mid wr w2 pk sk ys N pk2 sk2) (hN : N ≤ y) (hN1 : 1 ≤ N) (h3 : sk2.next = 3) (h9 : sk2.bd.next = 9)
    (hr3 : Row w3 (.slice A3 sk2.bd.got.length c3) sk2.bd.got) (hf3 : NewFoot w2 (.slice none 0 0) (.slice A3 sk2.bd.got.length c3)) (hw3 : Wire w3 pk2.shut (wholeW sk2).2) (hc3 : Chg w2 w3 (fun k => k = pk2.g))
    (hrow4 : RowG w4 66 5 (.slice A4 (q.length + 1) c4) (q.length + 1) (rcells q ++ [.string (str sk2.m), .string (str sk2.t), pk2.fl, .slice A3 sk2.bd.got.length c3, .bool sk2.keep])) (hc4 : Chg ((w3.alloc o1).alloc o2) w4 (fun i => (Value.slice A2 q.length c2).ownBlock = some i)) (hf4 : NewFoot ((w3.alloc o1).alloc o2) (.slice A2 q.length c2) (.slice A4 (q.length + 1) c4))
    (hr5 : RdD wr (fun k => ¬ p.foot k ∧ k < w.heap.size) A5 (ys.drop N)) (h5 : y - N ≤ c5) (h5c : c5 ≤ c) :
    FeedRel p s xs c w (.slice A5 (y - N) c5) (.slice A4 (q.length + 1) c4) w4 := by
  have hst := hak.step hm.pre (by rw [← hys]; exact hm.run)
  have hx1 : (wholeW sk2).1 = some ⟨sk2.m, sk2.t, sk2.fs, sk2.bd.got, sk2.keep⟩ := by unfold wholeW; rw [if_pos ⟨h3, h9⟩]
  rw [hx1] at hst
  have hgk : pk2.g = pk.g := hm.new.1
  have hs2 := hm.chg.size
  have hs3 := hc3.size
  have hsw := hch.size
  -- what l's block is not
  have hl : ∀ i, (Value.slice A2 q.length c2).ownBlock = some i → ¬ pk.foot i ∧ i < wr.heap.size := fun i e => ⟨hwk.apart hrow e, hrow.lt e⟩
  have hl2 : ∀ i, (Value.slice A2 q.length c2).ownBlock = some i → ¬ pk2.foot i := fun i e e' => by
    rcases hm.new.2 i e' with e' | e'
    · exact (hl i e).1 e'
    · have := (hl i e).2
      omega
  have hc13 : Chg wr w3 pk.foot := hm.chg.trans hc3 (fun i _ e => by subst e; exact .inl hgk)
  have hc34 : Chg w3 w4 (fun i => (Value.slice A2 q.length c2).ownBlock = some i) := (((Chg.refl w3 _).alloc o1).alloc o2).trans hc4 (fun _ _ e => e)
  have hc14 : Chg wr w4 (fun i => pk.foot i ∨ (Value.slice A2 q.length c2).ownBlock = some i) := (hc13.mono (fun _ _ e => .inl e)).trans hc34 (fun _ _ e => .inr e)
  have hrow3 := hrow.chg hc13 (fun i e => (hl i e).1)
  have hflds3 : RowF w3 pk2.fl sk2.fs := hm.wire.flds.chg hc3 (fun i e h' => by subst h'; exact hm.wire.flds.ne_blk hm.wire.blk (by decide) e)
  have hA3 : ∀ i, (Value.slice A3 sk2.bd.got.length c3).ownBlock = some i → w2.heap.size ≤ i := fun i e => by
    rcases hf3 i e with h | h
    · simp [Value.ownBlock] at h
    · exact h
  refine ⟨k + N, q ++ [(⟨sk2.m, sk2.t, sk2.fs, sk2.bd.got, sk2.keep⟩, pk2.fl, .slice A3 sk2.bd.got.length c3)], (wholeW sk2).2, pk2.shut, A5, c5, A4, c4, by omega, by rw [show xs.length - (k + N) = y - N from by omega], by rw [List.length_append]; rfl, by omega, h5c, ?_, hw3.chg hc34 (fun i e e' => hl2 i e' (shut_in e)), hgk.trans hpg, fun i e => mid_new hnf hsw hm i (shut_in e),
    chg_in hch hc14 (fun i e => ?_), ?_, ?_, ?_, ?_, ?_, by rw [List.length_append]; simp; omega⟩
  · show AlongW s xs (k + N) _ _
    rw [List.map_append]
    exact hst
  · rcases e with e | e
    · exact hnf i e
    · rcases hlf i e with h | h
      · simp [Value.ownBlock] at h
      · exact .inr h
  · rw [← List.drop_drop, ← hys]
    exact hr5.chg hc14 (fun i hi e => by
      rcases e with e | e
      · rcases hnf i e with e | e
        · exact hi.1 e
        · omega
      · rcases hlf i e with h | h
        · simp [Value.ownBlock] at h
        · omega)
  · rw [rcells_snoc, List.length_append]
    exact hrow4
  · refine (hreq.chg hc14 (fun x hx i e => ?_)).snoc (hflds3.chg hc34 (fun i e e' => hrow3.ne_rowG hflds3 (by decide) e' e)) (hr3.chg hc34 (fun i e e' => hrow3.ne_row hr3 (by decide) e' e)) (fun x hx i e e' => ?_)
    · rintro (e' | e')
      · exact (hrb x hx i e).2 e'
      · exact hreq.apartRow hrow e' x hx e
    · have hlt := hreq.lt hx e
      rcases e' with e' | e'
      · rcases hm.new.2 i (.inr (.inr (.inl e'))) with e2 | e2
        · exact (hrb x hx i e).2 e2
        · omega
      · have := hA3 i e'
        omega
  · intro x hx i e
    rcases List.mem_append.1 hx with hx | hx
    · refine ⟨(hrb x hx i e).1, fun e' => ?_⟩
      rcases hm.new.2 i (shut_in e') with e' | e'
      · exact (hrb x hx i e).2 e'
      · have := hreq.lt hx e
        omega
    · obtain rfl : x = (⟨sk2.m, sk2.t, sk2.fs, sk2.bd.got, sk2.keep⟩, pk2.fl, .slice A3 sk2.bd.got.length c3) := by simpa using hx
      rcases e with e | e
      · refine ⟨mid_new hnf hsw hm i (.inr (.inr (.inl e))), fun e' => ?_⟩
        rcases shut_foot e' with e' | e'
        · subst e'
          exact hm.wire.flds.ne_blk hm.wire.blk (by decide) e
        · exact hm.wire.flds.ne_row hm.wire.line (by decide) e e'
      · have h1 := hA3 i e
        refine ⟨.inr (by omega), fun e' => ?_⟩
        have := hm.wire.lt (shut_in e')
        omega
  · show NewFoot w _ (.slice A4 _ c4)
    rw [List.length_append]
    intro i e
    rcases hf4 i e with h | h
    · exact hlf i h
    · simp at h
      exact .inr (by omega)
end

end Go.Proofs.YtkbmajkoojgkpaaDoor
