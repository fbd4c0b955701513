/- The contracts of Alike, Same and same, where both sides say the same. -/
import Derived.Test.YtkbmajkoojgkpaaDoorWBegun
import Derived.Deep.RegionWith
namespace Go.Proofs.YtkbmajkoojgkpaaDoor
open Go.RowKit

set_option maxHeartbeats 4000000 in
set_option maxRecDepth 100000 in
theorem alike_any (A B : Option Addr) (c d n : Nat) (fs : List Fld) (w : World) (hn : fs.length = n) (hA : RdF w A fs) (hB : RdF w B fs) (hm : n ≤ 9223372036854775807) :
    Calls Tryd.prog 67 #[.slice A n c, .slice B n d] w fun e w' => e = .returned (.bool true) ∧ Chg w w' (fun _ => False) := by
  subst hn
  go_enter Tryd.func67, Tryd.ntmps67
  go_wp2_with fail
  go_loopw [5] (fun iv wr => ∃ k : Nat, k ≤ fs.length ∧ iv = .int .i64 k ∧ Chg w wr (fun _ => False)) (fun iv _ => fs.length - (intOf iv).toNat)
  case atStart => exact ⟨0, Nat.zero_le _, rfl, Chg.refl _ _⟩
  case round =>
    obtain ⟨k, hk, rfl, hc⟩ := hrel
    by_cases hlt : k < fs.length
    · obtain ⟨ad, rfl, a0, a1, a2⟩ := (hA.chg hc (fun _ _ => id)).at hlt
      obtain ⟨bd, rfl, b0, b1, b2⟩ := (hB.chg hc (fun _ _ => id)).at hlt
      have hi1 : (0 : Int) ≤ (k : Int) := by omega
      have hi2 : (k : Int) < (fs.length : Int) := by omega
      go_wp2_with fail
      go_quiet (fail)
      go_wp2_with fail
      go_roundw
      case rel => exact ⟨k + 1, by omega, by go_num, hc.drewN nq⟩
      case measure => simp [intOf]; omega
    · obtain rfl : k = fs.length := by omega
      go_wp2
      go_ret
      exact ⟨rfl, hc⟩

/-- The values of a request that is read. -/
structure ReqR (w : World) (r : Req) (fl bv : Value) : Prop where
  flds : ∃ A c, fl = .slice A r.fs.length c ∧ RdF w A r.fs
  body : ∃ A c, bv = .slice A r.body.length c ∧ Rd w A r.body
  most : r.fs.length ≤ 9223372036854775807
theorem ReqR.chg {w w' : World} {r : Req} {fl bv : Value} (h : ReqR w r fl bv) (hc : Chg w w' (fun _ => False)) : ReqR w' r fl bv := by
  obtain ⟨A, c, e, h1⟩ := h.flds
  obtain ⟨B, d, e2, h2⟩ := h.body
  exact ⟨⟨A, c, e, h1.chg hc (fun _ _ => id)⟩, ⟨B, d, e2, h2.chg hc (fun _ _ _ => id)⟩, h.most⟩

set_option maxHeartbeats 4000000 in
set_option maxRecDepth 100000 in
theorem sameReq_any (r : Req) (fl bv fl' bv' : Value) (w : World) (h : ReqR w r fl bv) (h' : ReqR w r fl' bv') :
    Calls Tryd.prog 52 #[.agg #[.string (str r.m), .string (str r.t), fl, bv, .bool r.keep], .agg #[.string (str r.m), .string (str r.t), fl', bv', .bool r.keep]] w fun e w' => e = .returned (.bool true) ∧ Chg w w' (fun _ => False) := by
  obtain ⟨A, c, rfl, hf⟩ := h.flds
  obtain ⟨B, d, rfl, hb⟩ := h.body
  obtain ⟨A', c', rfl, hf'⟩ := h'.flds
  obtain ⟨B', d', rfl, hb'⟩ := h'.body
  have hal : Chg w ((w.alloc (.cells #[.string (str r.m), .string (str r.t), .slice A r.fs.length c, .slice B r.body.length d, .bool r.keep] 66)).alloc (.cells #[.string (str r.m), .string (str r.t), .slice A' r.fs.length c', .slice B' r.body.length d', .bool r.keep] 66)) (fun _ => False) := ((Chg.refl w _).alloc _).alloc _
  have cv1 := conv_rd _ B d r.body.length r.body rfl (hb.chg hal (fun _ _ _ => id))
  have cv2 := conv_rd _ B' d' r.body.length r.body rfl (hb'.chg hal (fun _ _ _ => id))
  have hak := alike_any A A' c c' r.fs.length r.fs _ rfl (hf.chg hal (fun _ _ => id)) (hf'.chg hal (fun _ _ => id)) h.most
  have Hak := Lib.hid hak
  have Hal := Lib.hid hal
  have bk : (r.keep == r.keep) = true := by simp
  clear hak hal
  go_enter Tryd.func52, Tryd.ntmps52
  go_wp2_with (go_at_call 67; refine Hak.out.mono ?_; rintro e w3 ⟨rfl, hc3⟩)
  go_ret
  exact ⟨rfl, Hal.out.trans hc3 (fun _ _ => id)⟩

/-- A slice of requests that is read. -/
structure RdR (w : World) (A : Option Addr) (q : List RV) : Prop where
  cells : RdV w A (rcells q)
  each : ∀ x, x ∈ q → ReqR w x.1 x.2.1 x.2.2
theorem RdR.chg {w w' : World} {A : Option Addr} {q : List RV} (h : RdR w A q) (hc : Chg w w' (fun _ => False)) : RdR w' A q := ⟨h.cells.chg hc (fun _ _ _ => id), fun x hx => (h.each x hx).chg hc⟩
theorem RdR.at {w : World} {A : Option Addr} {q : List RV} {k : Nat} (h : RdR w A q) (hk : k < q.length) : ∃ ad, A = some ad ∧
    w.cell? (ad.add (k * 5)) = some (.string (str q[k].1.m)) ∧ w.cell? ⟨(ad.add (k * 5)).block, (ad.add (k * 5)).off + 1, none⟩ = some (.string (str q[k].1.t)) ∧ w.cell? ⟨(ad.add (k * 5)).block, (ad.add (k * 5)).off + 2, none⟩ = some q[k].2.1 ∧
    w.cell? ⟨(ad.add (k * 5)).block, (ad.add (k * 5)).off + 3, none⟩ = some q[k].2.2 ∧ w.cell? ⟨(ad.add (k * 5)).block, (ad.add (k * 5)).off + 4, none⟩ = some (.bool q[k].1.keep) := by
  have hl := rcells_len q
  obtain ⟨ad, e, hc⟩ := h.cells.out (by rw [hl]; omega)
  have key : ∀ (i : Nat) (u : Value), i < 5 → (rcell q[k])[i]? = some u → w.cell? (ad.add (k * 5 + i)) = some u := fun i u hi hu => by
    have := flat_get (f := rcell) (k := 5) (fun _ => rfl) q k i hk hi
    exact hc _ _ (this.trans hu)
  have e2 : ∀ i : Nat, 0 < i → ad.add (k * 5 + i) = ⟨(ad.add (k * 5)).block, (ad.add (k * 5)).off + i, none⟩ := fun i hi => by
    rw [← add_add]
    show (ad.add (k * 5)).add i = _
    unfold Addr.add
    rw [if_neg (by omega)]
  refine ⟨ad, e, key 0 _ (by decide) rfl, ?_, ?_, ?_, ?_⟩
  · rw [← e2 1 (by decide)]; exact key 1 _ (by decide) rfl
  · rw [← e2 2 (by decide)]; exact key 2 _ (by decide) rfl
  · rw [← e2 3 (by decide)]; exact key 3 _ (by decide) rfl
  · rw [← e2 4 (by decide)]; exact key 4 _ (by decide) rfl

set_option maxHeartbeats 8000000 in
set_option maxRecDepth 100000 in
theorem same_any (A B : Option Addr) (c d n : Nat) (q q' : List RV) (w : World) (hn : q.length = n) (he : q.map (·.1) = q'.map (·.1)) (hA : RdR w A q) (hB : RdR w B q') (hm : n ≤ 1000000) :
    Calls Tryd.prog 38 #[.slice A n c, .slice B n d] w fun e w' => e = .returned (.bool true) ∧ Chg w w' (fun _ => False) := by
  subst hn
  have hl : q'.length = q.length := by have := congrArg List.length he; simpa using this.symm
  have hat : ∀ k (h1 : k < q.length) (h2 : k < q'.length), q'[k].1 = q[k].1 := fun k h1 h2 => by
    have : (q.map (·.1))[k]? = (q'.map (·.1))[k]? := by rw [he]
    simp [h1, h2] at this
    exact this.symm
  have Hat := Lib.hid hat
  have Hl := Lib.hid hl
  clear hat hl he
  go_enter Tryd.func38, Tryd.ntmps38
  go_wp2_with fail
  go_loopw [5] (fun iv wr => ∃ k : Nat, k ≤ q.length ∧ iv = .int .i64 k ∧ Chg w wr (fun _ => False)) (fun iv _ => q.length - (intOf iv).toNat)
  case atStart => exact ⟨0, Nat.zero_le _, rfl, Chg.refl _ _⟩
  case round =>
    obtain ⟨k, hk, rfl, hc⟩ := hrel
    by_cases hlt : k < q.length
    · have hlt' : k < q'.length := by rw [Hl.out]; exact hlt
      have hA1 := hA.chg hc
      have hB1 := hB.chg hc
      obtain ⟨ad, rfl, a0, a1, a2, a3, a4⟩ := hA1.at hlt
      obtain ⟨bd, rfl, b0, b1, b2, b3, b4⟩ := hB1.at hlt'
      have ea := hA1.each _ (List.getElem_mem hlt)
      have eb := hB1.each _ (List.getElem_mem hlt')
      have e1 := Hat.out k hlt hlt'
      rw [e1] at eb b0 b1 b4
      have hi1 : (0 : Int) ≤ (k : Int) := by omega
      have hi2 : (k : Int) < (q.length : Int) := by omega
      obtain ⟨fa, ca, hfa, -⟩ := ea.flds
      obtain ⟨fb, cb, hfb, -⟩ := eb.flds
      obtain ⟨ba, da, hba, -⟩ := ea.body
      obtain ⟨bb, db, hbb, -⟩ := eb.body
      have hsm := sameReq_any q[k].1 _ _ _ _ _ (ea.chg ((Chg.refl wr _).drew)) (eb.chg ((Chg.refl wr _).drew))
      rw [hfa] at a2 hsm
      rw [hba] at a3 hsm
      rw [hfb] at b2 hsm
      rw [hbb] at b3 hsm
      have Hsm := Lib.hid hsm
      clear hsm ea eb e1 hfa hfb hba hbb
      go_wp2_with fail
      go_region_with (first
        | (go_at_call 52; refine Hsm.out.mono ?_; rintro e w3 ⟨rfl, hc3⟩))
      all_goals
        go_wp2_with fail
        go_roundw
        case rel => exact ⟨k + 1, by omega, by go_num, hc.drew.trans hc3 (fun _ _ => id)⟩
        case measure => simp [intOf]; omega
    · obtain rfl : k = q.length := by omega
      go_wp2
      go_ret
      exact ⟨rfl, hc⟩
end Go.Proofs.YtkbmajkoojgkpaaDoor
