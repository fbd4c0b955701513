/- The contract of the reference's Chunked. -/
import Derived.Test.YtkbmajkoojgkpaaRef
import Derived.Test.YtkbmajkoojgkpaaPlain4
import Derived.Test.YtkbmajkoojgkpaaRegion
namespace Go.Proofs.Ytkbmajkoojgkpaa
open Go.RowKit

/-- What the reference tells of the beginning of a chunked body. -/
def ToldC (xs : List UInt8) (w : World) (e : Ending) (w' : World) : Prop :=
  Chg w w' (fun _ => False) ∧
  (((feedL (sN 2 0 0 []) xs).2.bad ≠ 0 ∧ e = .returned (.agg #[.int .i64 0, .slice none 0 0, .int .i64 (feedL (sN 2 0 0 []) xs).2.bad])) ∨
   ((feedL (sN 2 0 0 []) xs).2.bad = 0 ∧ ∃ A c, e = .returned (.agg #[.int .i64 (if (feedL (sN 2 0 0 []) xs).2.next = 9 then ((feedL (sN 2 0 0 []) xs).1 : Int) else -1), .slice A (feedL (sN 2 0 0 []) xs).2.got.length c, .int .i64 0]) ∧
      Row w' (.slice A (feedL (sN 2 0 0 []) xs).2.got.length c) (feedL (sN 2 0 0 []) xs).2.got ∧ NewFoot w (.slice none 0 0) (.slice A (feedL (sN 2 0 0 []) xs).2.got.length c)))

theorem res_cells {w : World} {g : Nat} {v0 v1 v2 : Value} (h : Blk w g 47 #[v0, v1, v2]) :
    (w.cell? ⟨g, 0, none⟩ = some v0 ∧ w.cell? ⟨g, 1, none⟩ = some v1 ∧ w.cell? ⟨g, 2, none⟩ = some v2) ∧ w.frozen? ⟨g, 0, none⟩ = false ∧ w.frozen? ⟨g, 1, none⟩ = false ∧ w.frozen? ⟨g, 2, none⟩ = false :=
  ⟨⟨h.cell 0, h.cell 1, h.cell 2⟩, h.free 0, h.free 1, h.free 2⟩
theorem res_set {w : World} {g : Nat} {v0 v1 v2 : Value} (h : Blk w g 47 #[v0, v1, v2]) (a b c : Value) :
    Blk (((w.setCell ⟨g, 0, none⟩ a).setCell ⟨g, 1, none⟩ b).setCell ⟨g, 2, none⟩ c) g 47 #[a, b, c] := by
  simpa using ((h.set 0 a).set 1 b).set 2 c
theorem res_chg {w0 w : World} {g : Nat} (h : Chg w0 w (fun _ => False)) (hg : w0.heap.size ≤ g) (a b c : Value) :
    Chg w0 (((w.setCell ⟨g, 0, none⟩ a).setCell ⟨g, 1, none⟩ b).setCell ⟨g, 2, none⟩ c) (fun _ => False) :=
  ((h.setCell (fun h => absurd h (by simp; omega)) _).setCell (fun h => absurd h (by simp; omega)) _).setCell (fun h => absurd h (by simp; omega)) _

section
variable {xs : List UInt8} {w w1 : World} {B : Option Addr} {cb : Nat} {d : List UInt8} {v0 v1 v2 : Value}
theorem told_row (hblk : Blk w1 w.heap.size 47 #[v0, v1, v2]) (hrow : Row w1 (.slice B d.length cb) d) (a b c : Value) :
    Row (((w1.setCell ⟨w.heap.size, 0, none⟩ a).setCell ⟨w.heap.size, 1, none⟩ b).setCell ⟨w.heap.size, 2, none⟩ c) (.slice B d.length cb) d :=
  hrow.chg ((((Chg.refl w1 (fun k => k = w.heap.size)).set1 0 a).set1 1 b).set1 2 c) (fun k e h => by
    subst h
    exact hrow.ne_blk hblk (by decide) e)
theorem told_more {n : Nat} {nx l j : Int} (hchg : Chg w w1 (fun _ => False)) (hblk : Blk w1 w.heap.size 47 #[v0, v1, v2]) (hrow : Row w1 (.slice B d.length cb) d) (hfoot : NewFoot w (.slice none 0 0) (.slice B d.length cb))
    (hall : feedL (sN 2 0 0 []) xs = (n, sN nx l j d)) (h9 : nx ≠ 9) :
    ToldC xs w (.returned (.agg #[.int .i64 (-1), .slice B d.length cb, .int .i64 0])) (((w1.setCell ⟨w.heap.size, 0, none⟩ (.int .i64 (-1))).setCell ⟨w.heap.size, 1, none⟩ (.slice B d.length cb)).setCell ⟨w.heap.size, 2, none⟩ (.int .i64 0)) := by
  refine ⟨res_chg hchg (Nat.le_refl _) _ _ _, .inr ?_⟩
  rw [hall]
  exact ⟨rfl, B, cb, by simp [sN, h9], told_row hblk hrow _ _ _, hfoot⟩
theorem told_done {n : Nat} {l j : Int} (hchg : Chg w w1 (fun _ => False)) (hblk : Blk w1 w.heap.size 47 #[v0, v1, v2]) (hrow : Row w1 (.slice B d.length cb) d) (hfoot : NewFoot w (.slice none 0 0) (.slice B d.length cb))
    (hall : feedL (sN 2 0 0 []) xs = (n, sN 9 l j d)) :
    ToldC xs w (.returned (.agg #[.int .i64 n, .slice B d.length cb, .int .i64 0])) (((w1.setCell ⟨w.heap.size, 0, none⟩ (.int .i64 n)).setCell ⟨w.heap.size, 1, none⟩ (.slice B d.length cb)).setCell ⟨w.heap.size, 2, none⟩ (.int .i64 0)) := by
  refine ⟨res_chg hchg (Nat.le_refl _) _ _ _, .inr ?_⟩
  rw [hall]
  exact ⟨rfl, B, cb, by simp [sN], told_row hblk hrow _ _ _, hfoot⟩
theorem told_bad {b : Int} (hchg : Chg w w1 (fun _ => False)) (hb : (feedL (sN 2 0 0 []) xs).2.bad = b) (h0 : b ≠ 0) :
    ToldC xs w (.returned (.agg #[.int .i64 0, .slice none 0 0, .int .i64 b])) (((w1.setCell ⟨w.heap.size, 0, none⟩ (.int .i64 0)).setCell ⟨w.heap.size, 1, none⟩ (.slice none 0 0)).setCell ⟨w.heap.size, 2, none⟩ (.int .i64 b)) := by
  refine ⟨res_chg hchg (Nat.le_refl _) _ _ _, .inl ?_⟩
  rw [hb]
  exact ⟨h0, rfl⟩
end
theorem pow16n (j : Nat) (h : j < 8) : (16 : Int) ^ (j + 1) = 16 ^ j * 16 ∧ (16 : Int) ^ (j + 1) ≤ 4294967296 := by
  have : j = 0 ∨ j = 1 ∨ j = 2 ∨ j = 3 ∨ j = 4 ∨ j = 5 ∨ j = 6 ∨ j = 7 := by omega
  rcases this with rfl | rfl | rfl | rfl | rfl | rfl | rfl | rfl <;> decide
theorem pow16_le (j : Nat) (h : j ≤ 8) : (16 : Int) ^ j ≤ 4294967296 := by
  have : j = 0 ∨ j = 1 ∨ j = 2 ∨ j = 3 ∨ j = 4 ∨ j = 5 ∨ j = 6 ∨ j = 7 ∨ j = 8 := by omega
  rcases this with rfl | rfl | rfl | rfl | rfl | rfl | rfl | rfl | rfl <;> decide

set_option maxHeartbeats 8000000 in
set_option maxRecDepth 100000 in
theorem ref_chunked_any (A : Option Addr) (n c : Nat) (xs : List UInt8) (w : World) (hn : xs.length = n) (hx : Rd w A xs) (hm : n ≤ 1000000000) :
    Calls Try.prog 23 #[.slice A n c] w (ToldC xs w) := by
  subst hn
  have hres := Blk.new w 47 #[.int .i64 0, .slice none 0 0, .int .i64 0]
  go_enter Try.func23, Try.ntmps23
  go_wp2_with fail
  go_loopw [3, 4, 5, 6, 7, 8] (fun dv av _ _ _ _ wr => ∃ (k : Nat) (d : List UInt8) (B : Option Addr) (cb : Nat), k ≤ xs.length ∧ av = .int .i64 k ∧ dv = .slice B (List.length d) cb ∧ Rest xs k (sN 2 0 0 d) ∧ d.length ≤ 4096 ∧
      Row wr (.slice B (List.length d) cb) d ∧ NewFoot w (.slice none 0 0) (.slice B (List.length d) cb) ∧ Blk wr w.heap.size 47 #[.int .i64 0, .slice none 0 0, .int .i64 0] ∧ Chg w wr (fun _ => False))
    (fun _ av _ _ _ _ _ => xs.length - (intOf av).toNat)
  case atStart => exact ⟨0, [], none, 0, Nat.zero_le _, rfl, rfl, Rest.start _, by simp, Row.nil _, fun _ e => .inl e, hres, (Chg.refl w _).alloc _⟩
  case round =>
    obtain ⟨k, d, B, cb, hk, rfl, rfl, hrest, hd, hrow, hfoot, hblk, hchg⟩ := hrel
    obtain ⟨wo, rfl⟩ : ∃ wo : World, wo = wr := ⟨_, rfl⟩
    have hxo := hx.chg hchg (fun _ _ _ => id)
    obtain ⟨⟨e0, e1, e2⟩, g0, g1, g2⟩ := res_cells hblk
    go_wp2_with fail
    go_loop [4, 5, 6] (fun av sv nv => ∃ (k2 j : Nat) (m : Int), k ≤ k2 ∧ k2 ≤ xs.length ∧ av = .int .i64 k2 ∧ sv = .int .i64 m ∧ nv = .int .i64 j ∧ Rest xs k2 (sN 2 m j d) ∧ j ≤ 8 ∧ 0 ≤ m ∧ m < 16 ^ j) (fun av _ _ => xs.length - (intOf av).toNat)
    case atStart => exact ⟨k, 0, 0, Nat.le_refl _, hk, rfl, rfl, rfl, hrest, by omega, by omega, by decide⟩
    case round =>
      obtain ⟨k2, j, m, hk2, hk2l, rfl, rfl, rfl, hr2, hj8, hm0, hm1⟩ := hrel
      by_cases hlt : k2 < xs.length
      · obtain ⟨ad, rfl, -, hcell⟩ := hxo.at hlt
        have hcell' : wo.cell? (ad.add k2) = some (.int .u8 ↑(xs[k2]).toNat) := hcell
        have hdig := ref_digit_any xs[k2] wo
        by_cases hcont : j < 8 ∧ (digV ((xs[k2]).toNat : Int)).isSome = true
        · obtain ⟨hj, hsome⟩ := hcont
          obtain ⟨dg, hdg⟩ := Option.isSome_iff_exists.1 hsome
          have hrange := digV_range hdg
          have hstep := hr2.step hlt (sN_on (by decide)) (step2_dig (by omega) hdg)
          have hp := pow16n j hj
          rw [hdg] at hdig
          simp only [Option.getD_some] at hdig
          have Hd := Lib.hid hdig
          have HS := Lib.hid hstep
          have hpow : m * 16 + dg < 16 ^ (j + 1) ∧ m * 16 + dg < 4294967296 := by omega
          clear hp
          clear hdig hsome hdg hstep hcell
          go_wp2_with (go_at_call 26; refine Hd.out.mono ?_; rintro e w' ⟨rfl, rfl⟩)
          go_round
          case rel => exact ⟨k2 + 1, j + 1, m * 16 + dg, by omega, by omega, by go_num, rfl, by go_num, by have := HS.out; simpa using this, by omega, by omega, hpow.1⟩
          case measure => simp [intOf]; omega
        · have hnd : digV ((xs[k2]).toNat : Int) = none ∨ ¬ j < 8 := by
            by_cases hj : j < 8
            · left
              cases hv : digV ((xs[k2]).toNat : Int) with
              | none => rfl
              | some x => exact absurd ⟨hj, by rw [hv]; rfl⟩ hcont
            · exact .inr hj
          have hm2 : m < 4294967296 := by have := pow16_le j hj8; omega
          have hone : ∀ x : Int, digV ((xs[k2]).toNat : Int) = some x → ¬ j < 8 := fun x hx hj => by
            rcases hnd with h | h
            · rw [h] at hx; cases hx
            · exact h hj
          clear hcont hcell
          have hcases : (digV ((xs[k2]).toNat : Int) = none ∧ j = 0) ∨ (j ≠ 0 ∧ (xs[k2]).toNat ≠ 13) ∨ (j ≠ 0 ∧ (xs[k2]).toNat = 13) := by
            by_cases h0 : j = 0
            · left
              rcases hnd with h | h
              · exact ⟨h, h0⟩
              · omega
            · by_cases h13 : (xs[k2]).toNat = 13
              · exact .inr (.inr ⟨h0, h13⟩)
              · exact .inr (.inl ⟨h0, h13⟩)
          rcases hcases with ⟨hnone, rfl⟩ | ⟨h0, h13⟩ | ⟨h0, h13⟩
          · have hbad := hr2.bad hlt (sN_on (by decide)) (step2_none hnone) (by decide)
            rw [hnone] at hdig
            simp only [Option.getD_none] at hdig
            have Hd := Lib.hid hdig
            have Hb := Lib.hid hbad
            clear hdig hnone hbad hnd hone
            have bne : ((k2 : Int) == (xs.length : Int)) = false := by simp; omega
            go_wp2_with (go_at_call 26; refine Hd.out.mono ?_; rintro e w' ⟨rfl, rfl⟩)
            have hfin := res_set hblk (.int .i64 0) (.slice none 0 0) (.int .i64 4)
            obtain ⟨⟨q0, q1, q2⟩, -⟩ := res_cells hfin
            refine bodyPost_ret (v := .agg #[.int .i64 0, .slice none 0 0, (.int .i64 4)]) (by simp [results, Try.results23, go_sem, q0, q1, q2]) rfl ?_
            exact told_bad hchg Hb.out (by decide)
          · have hbad := hr2.bad hlt (sN_on (by decide)) (step2_bad h13 (by rcases hnd with h | h; exact .inl h; exact .inr (by omega))) (by decide)
            have Hb := Lib.hid hbad
            have hz : ((j : Int) == 0) = false := by simp; omega
            have h13' : (((xs[k2]).toNat : Int) != 13) = true := by simp; omega
            have bne : ((k2 : Int) == (xs.length : Int)) = false := by simp; omega
            clear hbad h13 h0
            rcases hnd with hnone | hj
            · rw [hnone] at hdig
              simp only [Option.getD_none] at hdig
              have Hd := Lib.hid hdig
              clear hdig hnone hone
              by_cases hj : j < 8
              · go_wp2_with (go_at_call 26; refine Hd.out.mono ?_; rintro e w' ⟨rfl, rfl⟩)
                have hfin := res_set hblk (.int .i64 0) (.slice none 0 0) (.int .i64 4)
                obtain ⟨⟨q0, q1, q2⟩, -⟩ := res_cells hfin
                refine bodyPost_ret (v := .agg #[.int .i64 0, .slice none 0 0, (.int .i64 4)]) (by simp [results, Try.results23, go_sem, q0, q1, q2]) rfl ?_
                exact told_bad hchg Hb.out (by decide)
              · go_wp2
                have hfin := res_set hblk (.int .i64 0) (.slice none 0 0) (.int .i64 4)
                obtain ⟨⟨q0, q1, q2⟩, -⟩ := res_cells hfin
                refine bodyPost_ret (v := .agg #[.int .i64 0, .slice none 0 0, (.int .i64 4)]) (by simp [results, Try.results23, go_sem, q0, q1, q2]) rfl ?_
                exact told_bad hchg Hb.out (by decide)
            · clear hdig hone
              go_wp2
              have hfin := res_set hblk (.int .i64 0) (.slice none 0 0) (.int .i64 4)
              obtain ⟨⟨q0, q1, q2⟩, -⟩ := res_cells hfin
              refine bodyPost_ret (v := .agg #[.int .i64 0, .slice none 0 0, (.int .i64 4)]) (by simp [results, Try.results23, go_sem, q0, q1, q2]) rfl ?_
              exact told_bad hchg Hb.out (by decide)
          · have hnone : digV ((xs[k2]).toNat : Int) = none := by rw [h13]; decide
            have hr3 := hr2.step hlt (sN_on (by decide)) (step2_cr h13 (by omega))
            have hz : ((j : Int) == 0) = false := by simp; omega
            have h13' : (((xs[k2]).toNat : Int) != 13) = false := by simp; omega
            have bne : ((k2 : Int) == (xs.length : Int)) = false := by simp; omega
            rw [hnone] at hdig
            simp only [Option.getD_none] at hdig
            have Hd := Lib.hid hdig
            have H0 := Lib.hid h0
            have H13 := Lib.hid h13'
            clear hdig hnone hone hnd h13 h0 h13'
            have hcs : k2 + 1 = xs.length ∨ (∃ h : k2 + 1 < xs.length, (xs[k2 + 1]).toNat ≠ 10) ∨ (∃ h : k2 + 1 < xs.length, (xs[k2 + 1]).toNat = 10 ∧ 4096 - (d.length : Int) < m) ∨ (∃ h : k2 + 1 < xs.length, (xs[k2 + 1]).toNat = 10 ∧ ¬ 4096 - (d.length : Int) < m) := by
              by_cases hl : k2 + 1 < xs.length
              · by_cases h10 : (xs[k2 + 1]).toNat = 10
                · by_cases hlong : 4096 - (d.length : Int) < m
                  · exact .inr (.inr (.inl ⟨hl, h10, hlong⟩))
                  · exact .inr (.inr (.inr ⟨hl, h10, hlong⟩))
                · exact .inr (.inl ⟨hl, h10⟩)
              · left; omega
            rcases hcs with hl | ⟨hl, h10⟩ | ⟨hl, h10, hlong⟩ | ⟨hl, h10, hlong⟩
            · have hall := hr3.all (by omega)
              have beq2 : ((k2 : Int) + 1 == (xs.length : Int)) = true := by simp; omega
              have Hall := Lib.hid hall
              clear hall hl
              by_cases hj : j < 8
              · skip
                go_wp2_with (go_at_call 26; refine Hd.out.mono ?_; rintro e w' ⟨rfl, rfl⟩; have h13a := H13.out)
                have hfin := res_set hblk (.int .i64 (-1)) (.slice B d.length cb) (.int .i64 0)
                obtain ⟨⟨q0, q1, q2⟩, -⟩ := res_cells hfin
                refine bodyPost_ret (v := .agg #[.int .i64 (-1), .slice B d.length cb, .int .i64 0]) (by simp [results, Try.results23, go_sem, q0, q1, q2]) rfl ?_
                exact told_more hchg hblk hrow hfoot Hall.out (by decide)
              · have h13a := H13.out
                go_wp2
                have hfin := res_set hblk (.int .i64 (-1)) (.slice B d.length cb) (.int .i64 0)
                obtain ⟨⟨q0, q1, q2⟩, -⟩ := res_cells hfin
                refine bodyPost_ret (v := .agg #[.int .i64 (-1), .slice B d.length cb, .int .i64 0]) (by simp [results, Try.results23, go_sem, q0, q1, q2]) rfl ?_
                exact told_more hchg hblk hrow hfoot Hall.out (by decide)
            · have hbad := hr3.bad hl (sN_on (by decide)) (step3_bad h10) (by decide)
              obtain ⟨ad2, had2, -, hc2⟩ := hxo.at hl
              injection had2 with had2
              subst had2
              have hc2a : wo.cell? ⟨ad.block, ad.off + (k2 + 1), none⟩ = some (.int .u8 ↑(xs[k2 + 1]).toNat) := by simpa [Addr.add, B8] using hc2
              clear hc2
              have beq2 : ((k2 : Int) + 1 == (xs.length : Int)) = false := by simp; omega
              have b10 : (((xs[k2 + 1]).toNat : Int) != 10) = true := by simp; omega
              have Hb := Lib.hid hbad
              clear hbad h10
              by_cases hj : j < 8
              · skip
                go_wp2_with (go_at_call 26; refine Hd.out.mono ?_; rintro e w' ⟨rfl, rfl⟩; have h13a := H13.out)
                have hfin := res_set hblk (.int .i64 0) (.slice none 0 0) (.int .i64 4)
                obtain ⟨⟨q0, q1, q2⟩, -⟩ := res_cells hfin
                refine bodyPost_ret (v := .agg #[.int .i64 0, .slice none 0 0, .int .i64 4]) (by simp [results, Try.results23, go_sem, q0, q1, q2]) rfl ?_
                exact told_bad hchg Hb.out (by decide)
              · have h13a := H13.out
                go_wp2
                have hfin := res_set hblk (.int .i64 0) (.slice none 0 0) (.int .i64 4)
                obtain ⟨⟨q0, q1, q2⟩, -⟩ := res_cells hfin
                refine bodyPost_ret (v := .agg #[.int .i64 0, .slice none 0 0, .int .i64 4]) (by simp [results, Try.results23, go_sem, q0, q1, q2]) rfl ?_
                exact told_bad hchg Hb.out (by decide)
            · have hbad := hr3.bad hl (sN_on (by decide)) (step3_long h10 hlong) (by decide)
              obtain ⟨ad2, had2, -, hc2⟩ := hxo.at hl
              injection had2 with had2
              subst had2
              have hc2a : wo.cell? ⟨ad.block, ad.off + (k2 + 1), none⟩ = some (.int .u8 ↑(xs[k2 + 1]).toNat) := by simpa [Addr.add, B8] using hc2
              clear hc2
              have beq2 : ((k2 : Int) + 1 == (xs.length : Int)) = false := by simp; omega
              have b10 : (((xs[k2 + 1]).toNat : Int) != 10) = false := by simp; omega
              have Hb := Lib.hid hbad
              clear hbad h10
              by_cases hj : j < 8
              · skip
                go_wp2_with (go_at_call 26; refine Hd.out.mono ?_; rintro e w' ⟨rfl, rfl⟩; have h13a := H13.out)
                have hfin := res_set hblk (.int .i64 0) (.slice none 0 0) (.int .i64 2)
                obtain ⟨⟨q0, q1, q2⟩, -⟩ := res_cells hfin
                refine bodyPost_ret (v := .agg #[.int .i64 0, .slice none 0 0, .int .i64 2]) (by simp [results, Try.results23, go_sem, q0, q1, q2]) rfl ?_
                exact told_bad hchg Hb.out (by decide)
              · have h13a := H13.out
                go_wp2
                have hfin := res_set hblk (.int .i64 0) (.slice none 0 0) (.int .i64 2)
                obtain ⟨⟨q0, q1, q2⟩, -⟩ := res_cells hfin
                refine bodyPost_ret (v := .agg #[.int .i64 0, .slice none 0 0, .int .i64 2]) (by simp [results, Try.results23, go_sem, q0, q1, q2]) rfl ?_
                exact told_bad hchg Hb.out (by decide)
            · obtain ⟨M, rfl⟩ := Int.eq_ofNat_of_zero_le hm0
              clear hm1 hm2
              have hr4 := hr3.step hl (sN_on (by decide)) (stD_start h10 hlong)
              obtain ⟨ad2, had2, -, hc2⟩ := hxo.at hl
              injection had2 with had2
              subst had2
              have hc2a : wo.cell? ⟨ad.block, ad.off + (k2 + 1), none⟩ = some (.int .u8 ↑(xs[k2 + 1]).toNat) := by simpa [Addr.add, B8] using hc2
              clear hc2
              have beq2 : ((k2 : Int) + 1 == (xs.length : Int)) = false := by simp; omega
              have b10 : (((xs[k2 + 1]).toNat : Int) != 10) = false := by simp; omega
              have HR := Lib.hid hr4
              clear hr4 h10
              by_cases hj : j < 8
              · go_wp2_with (go_at_call 26; refine Hd.out.mono ?_; rintro e w' ⟨rfl, rfl⟩; have h13a := H13.out)
                go_loopw [3, 4, 7] (fun dv av kv w3 => ∃ (kk k3 : Nat) (d3 : List UInt8) (B3 : Option Addr) (cb3 : Nat), kk ≤ M ∧ kv = .int .i64 kk ∧ k3 ≤ xs.length ∧ k2 + 2 ≤ k3 ∧ av = .int .i64 k3 ∧ dv = .slice B3 (List.length d3) cb3 ∧ Rest xs k3 (stD M kk d3) ∧ d3.length + (M - kk) ≤ 4096 ∧
                    Row w3 (.slice B3 (List.length d3) cb3) d3 ∧ NewFoot w (.slice none 0 0) (.slice B3 (List.length d3) cb3) ∧ Blk w3 w.heap.size 47 #[.int .i64 0, .slice none 0 0, .int .i64 0] ∧ Chg w w3 (fun _ => False)) (fun _ _ kv _ => M - (intOf kv).toNat)
                case atStart => exact ⟨0, k2 + 2, d, B, cb, Nat.zero_le _, rfl, by omega, Nat.le_refl _, by go_num, rfl, HR.out, by omega, hrow, hfoot, hblk, hchg⟩
                case round =>
                  obtain ⟨kk, k3, d3, B3, cb3, hkk, rfl, hk3, hk32, rfl, rfl, hr5, hd3, hrow3, hfoot3, hblk3, hchg3⟩ := hrel
                  obtain ⟨w3, rfl⟩ : ∃ w3 : World, w3 = wr := ⟨_, rfl⟩
                  obtain ⟨⟨e0, e1, e2⟩, g0, g1, g2⟩ := res_cells hblk3
                  by_cases hkM : kk < M
                  · by_cases hlt3 : k3 < xs.length
                    · obtain ⟨ad3, had3, -, hc3a⟩ := (hx.chg hchg3 (fun _ _ _ => id)).at hlt3
                      injection had3 with had3
                      subst had3
                      have hc3 : w3.cell? (ad.add k3) = some (.int .u8 ↑(xs[k3]).toNat) := hc3a
                      clear hc3a
                      have bne3 : ((k3 : Int) == (xs.length : Int)) = false := by simp; omega
                      have hr6 := hr5.step hlt3 (stD_on _ _ _) (stD_step hkM)
                      go_wp2_with (at_builtin; refine wpList_app rfl _ _ rfl _ d3 (by rfl) (hrow3.chg ((Chg.refl w3 (fun _ => False)).alloc _) (fun _ _ => id)) _ 1 1 [xs[k3]] rfl (by rfl) (Rd.one (heap_alloc_new w3 _)) (by omega) ?_; intro B4 cb4 w4 hrow4 hc4 hf4)
                      have hl4 : (d3 ++ [xs[k3]]).length = d3.length + 1 := by simp
                      have hch : Chg w3 w4 (fun j => (Value.slice B3 d3.length cb3).ownBlock = some j) := ((Chg.refl w3 _).alloc _).trans hc4 fun _ _ e => e
                      go_roundw
                      case rel => exact ⟨kk + 1, k3 + 1, d3 ++ [xs[k3]], B4, cb4, by omega, by go_num, by omega, by omega, by go_num, by rw [hl4], hr6, by rw [hl4]; omega, by rw [hl4]; exact hrow4, by rw [hl4]; exact newFoot_nil_trans hfoot3 hf4 (by have := hchg3.size; simp; omega), hblk3.chg hch (hrow3.ne_blk hblk3 (by decide)), hchg3.trans hch (fun i hi e => newFoot_nil hfoot3 hi e)⟩
                      case measure => simp [intOf]; omega
                    · obtain rfl : k3 = xs.length := by omega
                      have hall := hr5.all (Nat.le_refl _)
                      rw [stD_more hkM] at hall
                      have beq3 : ((xs.length : Int) == (xs.length : Int)) = true := by simp
                      have Hall := Lib.hid hall
                      clear hall
                      go_wp2
                      have hfin := res_set hblk3 (.int .i64 (-1)) (.slice B3 d3.length cb3) (.int .i64 0)
                      obtain ⟨⟨q0, q1, q2⟩, -⟩ := res_cells hfin
                      refine bodyPost_ret (v := .agg #[.int .i64 (-1), .slice B3 d3.length cb3, .int .i64 0]) (by simp [results, Try.results23, go_sem, q0, q1, q2]) rfl ?_
                      exact told_more hchg3 hblk3 hrow3 hfoot3 Hall.out (by decide)
                  · obtain rfl : M = kk := by omega
                    rw [stD_end] at hr5
                    have HE := Lib.hid hr5
                    clear hr5
                    go_wp2
                    go_loopw [4, 8] (fun av qv wq => ∃ (q k4 : Nat), q ≤ 2 ∧ qv = .int .i64 q ∧ av = .int .i64 k4 ∧ k4 ≤ xs.length ∧ k + 2 ≤ k4 ∧ Rest xs k4 (stE M q d3) ∧ Row wq (.slice B3 (List.length d3) cb3) d3 ∧ Blk wq w.heap.size 47 #[.int .i64 0, .slice none 0 0, .int .i64 0] ∧ Chg w wq (fun _ => False)) (fun _ qv _ => 2 - (intOf qv).toNat)
                    case atStart => exact ⟨0, k3, by omega, rfl, rfl, hk3, by omega, HE.out, hrow3, hblk3, hchg3⟩
                    case round =>
                      obtain ⟨q, k4, hq, rfl, rfl, hk4, hk42, hr4, hrow4, hblk4, hchg4⟩ := hrel
                      obtain ⟨wq, rfl⟩ : ∃ wq : World, wq = wr := ⟨_, rfl⟩
                      obtain ⟨⟨e0, e1, e2⟩, g0, g1, g2⟩ := res_cells hblk4
                      have hq3 : q = 2 ∨ q < 2 := by omega
                      rcases hq3 with rfl | hq3
                      · by_cases hM : M = 0
                        · have hall := hr4.off (by subst hM; rfl)
                          have Hall := Lib.hid hall
                          have b0 : ((M : Int) == 0) = true := by simp [hM]
                          have hst : stE M 2 d3 = sN 9 0 0 d3 := by subst hM; rfl
                          rw [hst] at hall
                          have Hall := Lib.hid hall
                          clear hall hM hst
                          go_wp2
                          have hfin := res_set hblk4 (.int .i64 k4) (.slice B3 d3.length cb3) (.int .i64 0)
                          obtain ⟨⟨q0, q1, q2⟩, -⟩ := res_cells hfin
                          refine bodyPost_ret (v := .agg #[.int .i64 k4, .slice B3 d3.length cb3, .int .i64 0]) (by simp [results, Try.results23, go_sem, q0, q1, q2]) rfl ?_
                          exact told_done hchg4 hblk4 hrow4 hfoot3 Hall.out
                        · have b0 : ((M : Int) == 0) = false := by simp; omega
                          have hst : stE M 2 d3 = sN 2 0 0 d3 := by unfold stE; rw [if_neg hM]; rfl
                          rw [hst] at hr4
                          clear hM hst
                          go_wp2
                          go_roundw
                          case rel => exact ⟨k4, d3, B3, cb3, hk4, rfl, rfl, hr4, by omega, hrow4, hfoot3, hblk4, hchg4⟩
                          case measure => simp [intOf]; omega
                      · by_cases hlt4 : k4 < xs.length
                        · obtain ⟨ad4, had4, -, hc4a⟩ := (hx.chg hchg4 (fun _ _ _ => id)).at hlt4
                          injection had4 with had4
                          subst had4
                          have hc4 : wq.cell? (ad.add k4) = some (.int .u8 ↑(xs[k4]).toNat) := hc4a
                          clear hc4a
                          have bne4 : ((k4 : Int) == (xs.length : Int)) = false := by simp; omega
                          have hq4 : q = 0 ∨ q = 1 := by omega
                          rcases hq4 with rfl | rfl
                          · by_cases hv : (xs[k4]).toNat = 13
                            · have hr5 := hr4.step hlt4 (stE_on (by decide)) (stE_step0 hv)
                              have hb5 : (((xs[k4]).toNat : Int) != 13) = false := by simp [hv]
                              have HV := Lib.hid hv
                              clear hv
                              go_wp2
                              refine wp_region_held_drew (S := fun w' => w'.cell? (ad.add k4) = some (.int .u8 ↑(xs[k4]).toNat)) (by kernel_rfl) hc4 (fun hHeld => ?_)
                              refine wpAnyH_take (i := 0) (oi := { dst := some 105, op := Go.Op.move (Go.Operand.tmp 0), type := _, pos := _, after := _, guard := none }) (v := ?v1) rfl (by kernel_rfl) (by kernel_rfl) (by kernel_rfl) (fun _ _ _ h => h) (Or.inl ⟨by rfl, ?y1⟩) (by assumption) ?r1
                              case y1 => (intro wS hSw; (try dsimp only at hSw); go_simp; (try with_reducible rfl))
                              try simp only [Act.put, List.setIfInBounds_toArray, List.set_cons_zero, List.set_cons_succ]
                              refine wpAnyH_take (i := 1) (oi := { dst := some 106, op := Go.Op.move (Go.Operand.tmp 4), type := _, pos := _, after := _, guard := none }) (v := ?v2) rfl (by kernel_rfl) (by kernel_rfl) (by kernel_rfl) (fun _ _ _ h => h) (Or.inl ⟨by rfl, ?y2⟩) (by assumption) ?r2
                              case y2 => (intro wS hSw; (try dsimp only at hSw); go_simp; (try with_reducible rfl))
                              try simp only [Act.put, List.setIfInBounds_toArray, List.set_cons_zero, List.set_cons_succ]
                              refine wpAnyH_take (i := 2) (oi := { dst := some 107, op := Go.Op.indexAddr _ (Go.Operand.tmp 105) (Go.Operand.tmp 106), type := _, pos := _, after := _, guard := none }) (v := ?v3) rfl (by kernel_rfl) (by kernel_rfl) (by kernel_rfl) (fun _ _ _ h => h) (Or.inl ⟨by rfl, ?y3⟩) (by assumption) ?r3
                              case y3 => (intro wS hSw; (try dsimp only at hSw); go_simp; (try with_reducible rfl))
                              try simp only [Act.put, List.setIfInBounds_toArray, List.set_cons_zero, List.set_cons_succ]
                              refine wpAnyH_take (i := 3) (oi := { dst := some 108, op := Go.Op.load _ (Go.Operand.tmp 107), type := _, pos := _, after := _, guard := none }) (v := ?v4) rfl (by kernel_rfl) (by kernel_rfl) (by kernel_rfl) (fun _ _ _ h => h) (Or.inl ⟨by rfl, ?y4⟩) (by assumption) ?r4
                              case y4 => (intro wS hSw; (try dsimp only at hSw); go_simp; (try with_reducible rfl))
                              try simp only [Act.put, List.setIfInBounds_toArray, List.set_cons_zero, List.set_cons_succ]
                              refine wpAnyH_take (i := 5) (oi := { dst := some 110, op := Go.Op.move (Go.Operand.tmp 8), type := _, pos := _, after := _, guard := none }) (v := ?v5) rfl (by kernel_rfl) (by kernel_rfl) (by kernel_rfl) (fun _ _ _ h => h) (Or.inl ⟨by rfl, ?y5⟩) (by assumption) ?r5
                              case y5 => (intro wS hSw; (try dsimp only at hSw); go_simp; (try with_reducible rfl))
                              try simp only [Act.put, List.setIfInBounds_toArray, List.set_cons_zero, List.set_cons_succ]
                              refine wpAnyH_ready (rs := [4]) (by kernel_rfl) (by simp) ?_
                              refine AllReadyH.cons (o := { dst := some 109, op := Go.Op.buildSlice _ 2 #[(0, Go.Operand.const (Go.Value.int Go.IntKind.u8 13)), (1, Go.Operand.const (Go.Value.int Go.IntKind.u8 10))], type := _, pos := _, after := _, guard := none }) rfl (fun K hK => ?_) AllReadyH.nil
                              go_simp
                              refine hK.out _ _ (((Chg.refl wq.drew (fun _ => False)).alloc _).cell hHeld id) (fun hHeld2 => ?_)
                              clear hK K
                              try simp only [Act.put, List.setIfInBounds_toArray, List.set_cons_zero, List.set_cons_succ]
                              refine wpAnyH_stronger (S' := fun w' => w'.cell? (ad.add k4) = some (.int .u8 ↑(xs[k4]).toNat) ∧ w'.cell? ⟨wq.heap.size, 0, none⟩ = some (.int .u8 13)) (fun _ h => h.1) _ _ _ _ ?_
                              have hHeld3 : (wq.alloc (.cells #[.int .u8 13, .int .u8 10] 5)).drew.cell? (ad.add k4) = some (.int .u8 ↑(xs[k4]).toNat) ∧ (wq.alloc (.cells #[.int .u8 13, .int .u8 10] 5)).drew.cell? ⟨wq.heap.size, 0, none⟩ = some (.int .u8 13) := ⟨hHeld2, (Blk.new wq 5 #[.int .u8 13, .int .u8 10]).drew.cell 0⟩
                              clear hHeld hHeld2
                              refine wpAnyH_take (i := 6) (oi := { dst := some 111, op := Go.Op.indexAddr _ (Go.Operand.tmp 109) (Go.Operand.tmp 110), type := _, pos := _, after := _, guard := none }) (v := ?v6) rfl (by kernel_rfl) (by kernel_rfl) (by kernel_rfl) (fun _ _ _ h => h) (Or.inl ⟨by rfl, ?y6⟩) (by assumption) ?r6
                              case y6 => (intro wS hSw; (try dsimp only at hSw); go_simp; (try with_reducible rfl))
                              try simp only [Act.put, List.setIfInBounds_toArray, List.set_cons_zero, List.set_cons_succ]
                              refine wpAnyH_take (i := 7) (oi := { dst := some 112, op := Go.Op.load _ (Go.Operand.tmp 111), type := _, pos := _, after := _, guard := none }) (v := ?v7) rfl (by kernel_rfl) (by kernel_rfl) (by kernel_rfl) (fun _ _ _ h => h) (Or.inl ⟨by rfl, ?y7⟩) (by assumption) ?r7
                              case y7 => (intro wS hSw; (try dsimp only at hSw); go_simp; (try with_reducible rfl))
                              try simp only [Act.put, List.setIfInBounds_toArray, List.set_cons_zero, List.set_cons_succ]
                              refine wpAnyH_take (i := 8) (oi := { dst := some 113, op := Go.Op.binOp Go.BinOp.neq _ (Go.Operand.tmp 108) (Go.Operand.tmp 112) _, type := _, pos := _, after := _, guard := none }) (v := ?v8) rfl (by kernel_rfl) (by kernel_rfl) (by kernel_rfl) (fun _ _ _ h => h) (Or.inl ⟨by rfl, ?y8⟩) (by assumption) ?r8
                              case y8 => (intro wS hSw; (try dsimp only at hSw); go_simp; (try with_reducible rfl))
                              try simp only [Act.put, List.setIfInBounds_toArray, List.set_cons_zero, List.set_cons_succ]
                              refine wpAnyH_done (by kernel_rfl) ?_ _
                              go_wp2
                              go_roundw
                              case rel => exact ⟨0+1, k4 + 1, by omega, by go_num, by go_num, by omega, by omega, hr5, (hrow4.chg ((Chg.refl wq (fun _ => False)).alloc _) (fun _ _ => id)).chg (Chg.refl _ (fun _ => False)).drew (fun _ _ => id), (hblk4.alloc _).drew, (hchg4.alloc _).drew⟩
                              case measure => simp [intOf]
                            · have hbad := hr4.bad hlt4 (stE_on (by decide)) (stE_bad0 hv) (by decide)
                              have hb5 : (((xs[k4]).toNat : Int) != 13) = true := by simp; omega
                              have Hb := Lib.hid hbad
                              clear hbad hv
                              go_wp2
                              refine wp_region_held_drew (S := fun w' => w'.cell? (ad.add k4) = some (.int .u8 ↑(xs[k4]).toNat)) (by kernel_rfl) hc4 (fun hHeld => ?_)
                              refine wpAnyH_take (i := 0) (oi := { dst := some 105, op := Go.Op.move (Go.Operand.tmp 0), type := _, pos := _, after := _, guard := none }) (v := ?v9) rfl (by kernel_rfl) (by kernel_rfl) (by kernel_rfl) (fun _ _ _ h => h) (Or.inl ⟨by rfl, ?y9⟩) (by assumption) ?r9
                              case y9 => (intro wS hSw; (try dsimp only at hSw); go_simp; (try with_reducible rfl))
                              try simp only [Act.put, List.setIfInBounds_toArray, List.set_cons_zero, List.set_cons_succ]
                              refine wpAnyH_take (i := 1) (oi := { dst := some 106, op := Go.Op.move (Go.Operand.tmp 4), type := _, pos := _, after := _, guard := none }) (v := ?v10) rfl (by kernel_rfl) (by kernel_rfl) (by kernel_rfl) (fun _ _ _ h => h) (Or.inl ⟨by rfl, ?y10⟩) (by assumption) ?r10
                              case y10 => (intro wS hSw; (try dsimp only at hSw); go_simp; (try with_reducible rfl))
                              try simp only [Act.put, List.setIfInBounds_toArray, List.set_cons_zero, List.set_cons_succ]
                              refine wpAnyH_take (i := 2) (oi := { dst := some 107, op := Go.Op.indexAddr _ (Go.Operand.tmp 105) (Go.Operand.tmp 106), type := _, pos := _, after := _, guard := none }) (v := ?v11) rfl (by kernel_rfl) (by kernel_rfl) (by kernel_rfl) (fun _ _ _ h => h) (Or.inl ⟨by rfl, ?y11⟩) (by assumption) ?r11
                              case y11 => (intro wS hSw; (try dsimp only at hSw); go_simp; (try with_reducible rfl))
                              try simp only [Act.put, List.setIfInBounds_toArray, List.set_cons_zero, List.set_cons_succ]
                              refine wpAnyH_take (i := 3) (oi := { dst := some 108, op := Go.Op.load _ (Go.Operand.tmp 107), type := _, pos := _, after := _, guard := none }) (v := ?v12) rfl (by kernel_rfl) (by kernel_rfl) (by kernel_rfl) (fun _ _ _ h => h) (Or.inl ⟨by rfl, ?y12⟩) (by assumption) ?r12
                              case y12 => (intro wS hSw; (try dsimp only at hSw); go_simp; (try with_reducible rfl))
                              try simp only [Act.put, List.setIfInBounds_toArray, List.set_cons_zero, List.set_cons_succ]
                              refine wpAnyH_take (i := 5) (oi := { dst := some 110, op := Go.Op.move (Go.Operand.tmp 8), type := _, pos := _, after := _, guard := none }) (v := ?v13) rfl (by kernel_rfl) (by kernel_rfl) (by kernel_rfl) (fun _ _ _ h => h) (Or.inl ⟨by rfl, ?y13⟩) (by assumption) ?r13
                              case y13 => (intro wS hSw; (try dsimp only at hSw); go_simp; (try with_reducible rfl))
                              try simp only [Act.put, List.setIfInBounds_toArray, List.set_cons_zero, List.set_cons_succ]
                              refine wpAnyH_ready (rs := [4]) (by kernel_rfl) (by simp) ?_
                              refine AllReadyH.cons (o := { dst := some 109, op := Go.Op.buildSlice _ 2 #[(0, Go.Operand.const (Go.Value.int Go.IntKind.u8 13)), (1, Go.Operand.const (Go.Value.int Go.IntKind.u8 10))], type := _, pos := _, after := _, guard := none }) rfl (fun K hK => ?_) AllReadyH.nil
                              go_simp
                              refine hK.out _ _ (((Chg.refl wq.drew (fun _ => False)).alloc _).cell hHeld id) (fun hHeld2 => ?_)
                              clear hK K
                              try simp only [Act.put, List.setIfInBounds_toArray, List.set_cons_zero, List.set_cons_succ]
                              refine wpAnyH_stronger (S' := fun w' => w'.cell? (ad.add k4) = some (.int .u8 ↑(xs[k4]).toNat) ∧ w'.cell? ⟨wq.heap.size, 0, none⟩ = some (.int .u8 13)) (fun _ h => h.1) _ _ _ _ ?_
                              have hHeld3 : (wq.alloc (.cells #[.int .u8 13, .int .u8 10] 5)).drew.cell? (ad.add k4) = some (.int .u8 ↑(xs[k4]).toNat) ∧ (wq.alloc (.cells #[.int .u8 13, .int .u8 10] 5)).drew.cell? ⟨wq.heap.size, 0, none⟩ = some (.int .u8 13) := ⟨hHeld2, (Blk.new wq 5 #[.int .u8 13, .int .u8 10]).drew.cell 0⟩
                              clear hHeld hHeld2
                              refine wpAnyH_take (i := 6) (oi := { dst := some 111, op := Go.Op.indexAddr _ (Go.Operand.tmp 109) (Go.Operand.tmp 110), type := _, pos := _, after := _, guard := none }) (v := ?v14) rfl (by kernel_rfl) (by kernel_rfl) (by kernel_rfl) (fun _ _ _ h => h) (Or.inl ⟨by rfl, ?y14⟩) (by assumption) ?r14
                              case y14 => (intro wS hSw; (try dsimp only at hSw); go_simp; (try with_reducible rfl))
                              try simp only [Act.put, List.setIfInBounds_toArray, List.set_cons_zero, List.set_cons_succ]
                              refine wpAnyH_take (i := 7) (oi := { dst := some 112, op := Go.Op.load _ (Go.Operand.tmp 111), type := _, pos := _, after := _, guard := none }) (v := ?v15) rfl (by kernel_rfl) (by kernel_rfl) (by kernel_rfl) (fun _ _ _ h => h) (Or.inl ⟨by rfl, ?y15⟩) (by assumption) ?r15
                              case y15 => (intro wS hSw; (try dsimp only at hSw); go_simp; (try with_reducible rfl))
                              try simp only [Act.put, List.setIfInBounds_toArray, List.set_cons_zero, List.set_cons_succ]
                              refine wpAnyH_take (i := 8) (oi := { dst := some 113, op := Go.Op.binOp Go.BinOp.neq _ (Go.Operand.tmp 108) (Go.Operand.tmp 112) _, type := _, pos := _, after := _, guard := none }) (v := ?v16) rfl (by kernel_rfl) (by kernel_rfl) (by kernel_rfl) (fun _ _ _ h => h) (Or.inl ⟨by rfl, ?y16⟩) (by assumption) ?r16
                              case y16 => (intro wS hSw; (try dsimp only at hSw); go_simp; (try with_reducible rfl))
                              try simp only [Act.put, List.setIfInBounds_toArray, List.set_cons_zero, List.set_cons_succ]
                              refine wpAnyH_done (by kernel_rfl) ?_ _
                              have hblk5 := hblk4.alloc (.cells #[.int .u8 13, .int .u8 10] 5)
                              obtain ⟨⟨e0', e1', e2'⟩, g0', g1', g2'⟩ := res_cells hblk5
                              go_wp2
                              have hfin := res_set hblk5 (.int .i64 0) (.slice none 0 0) (.int .i64 4)
                              obtain ⟨⟨q0, q1, q2⟩, -⟩ := res_cells hfin
                              refine bodyPost_ret (v := .agg #[.int .i64 0, .slice none 0 0, .int .i64 4]) (by simp [results, Try.results23, go_sem, q0, q1, q2]) rfl ?_
                              exact told_bad ((hchg4.alloc _).drew) Hb.out (by decide)
                          · by_cases hv : (xs[k4]).toNat = 10
                            · have hr5 := hr4.step hlt4 (stE_on (by decide)) (stE_step1 hv)
                              have hb5 : (((xs[k4]).toNat : Int) != 10) = false := by simp [hv]
                              have HV := Lib.hid hv
                              clear hv
                              go_wp2
                              refine wp_region_held_drew (S := fun w' => w'.cell? (ad.add k4) = some (.int .u8 ↑(xs[k4]).toNat)) (by kernel_rfl) hc4 (fun hHeld => ?_)
                              refine wpAnyH_take (i := 0) (oi := { dst := some 105, op := Go.Op.move (Go.Operand.tmp 0), type := _, pos := _, after := _, guard := none }) (v := ?v17) rfl (by kernel_rfl) (by kernel_rfl) (by kernel_rfl) (fun _ _ _ h => h) (Or.inl ⟨by rfl, ?y17⟩) (by assumption) ?r17
                              case y17 => (intro wS hSw; (try dsimp only at hSw); go_simp; (try with_reducible rfl))
                              try simp only [Act.put, List.setIfInBounds_toArray, List.set_cons_zero, List.set_cons_succ]
                              refine wpAnyH_take (i := 1) (oi := { dst := some 106, op := Go.Op.move (Go.Operand.tmp 4), type := _, pos := _, after := _, guard := none }) (v := ?v18) rfl (by kernel_rfl) (by kernel_rfl) (by kernel_rfl) (fun _ _ _ h => h) (Or.inl ⟨by rfl, ?y18⟩) (by assumption) ?r18
                              case y18 => (intro wS hSw; (try dsimp only at hSw); go_simp; (try with_reducible rfl))
                              try simp only [Act.put, List.setIfInBounds_toArray, List.set_cons_zero, List.set_cons_succ]
                              refine wpAnyH_take (i := 2) (oi := { dst := some 107, op := Go.Op.indexAddr _ (Go.Operand.tmp 105) (Go.Operand.tmp 106), type := _, pos := _, after := _, guard := none }) (v := ?v19) rfl (by kernel_rfl) (by kernel_rfl) (by kernel_rfl) (fun _ _ _ h => h) (Or.inl ⟨by rfl, ?y19⟩) (by assumption) ?r19
                              case y19 => (intro wS hSw; (try dsimp only at hSw); go_simp; (try with_reducible rfl))
                              try simp only [Act.put, List.setIfInBounds_toArray, List.set_cons_zero, List.set_cons_succ]
                              refine wpAnyH_take (i := 3) (oi := { dst := some 108, op := Go.Op.load _ (Go.Operand.tmp 107), type := _, pos := _, after := _, guard := none }) (v := ?v20) rfl (by kernel_rfl) (by kernel_rfl) (by kernel_rfl) (fun _ _ _ h => h) (Or.inl ⟨by rfl, ?y20⟩) (by assumption) ?r20
                              case y20 => (intro wS hSw; (try dsimp only at hSw); go_simp; (try with_reducible rfl))
                              try simp only [Act.put, List.setIfInBounds_toArray, List.set_cons_zero, List.set_cons_succ]
                              refine wpAnyH_take (i := 5) (oi := { dst := some 110, op := Go.Op.move (Go.Operand.tmp 8), type := _, pos := _, after := _, guard := none }) (v := ?v21) rfl (by kernel_rfl) (by kernel_rfl) (by kernel_rfl) (fun _ _ _ h => h) (Or.inl ⟨by rfl, ?y21⟩) (by assumption) ?r21
                              case y21 => (intro wS hSw; (try dsimp only at hSw); go_simp; (try with_reducible rfl))
                              try simp only [Act.put, List.setIfInBounds_toArray, List.set_cons_zero, List.set_cons_succ]
                              refine wpAnyH_ready (rs := [4]) (by kernel_rfl) (by simp) ?_
                              refine AllReadyH.cons (o := { dst := some 109, op := Go.Op.buildSlice _ 2 #[(0, Go.Operand.const (Go.Value.int Go.IntKind.u8 13)), (1, Go.Operand.const (Go.Value.int Go.IntKind.u8 10))], type := _, pos := _, after := _, guard := none }) rfl (fun K hK => ?_) AllReadyH.nil
                              go_simp
                              refine hK.out _ _ (((Chg.refl wq.drew (fun _ => False)).alloc _).cell hHeld id) (fun hHeld2 => ?_)
                              clear hK K
                              try simp only [Act.put, List.setIfInBounds_toArray, List.set_cons_zero, List.set_cons_succ]
                              refine wpAnyH_stronger (S' := fun w' => w'.cell? (ad.add k4) = some (.int .u8 ↑(xs[k4]).toNat) ∧ w'.cell? ⟨wq.heap.size, 1, none⟩ = some (.int .u8 10)) (fun _ h => h.1) _ _ _ _ ?_
                              have hHeld3 : (wq.alloc (.cells #[.int .u8 13, .int .u8 10] 5)).drew.cell? (ad.add k4) = some (.int .u8 ↑(xs[k4]).toNat) ∧ (wq.alloc (.cells #[.int .u8 13, .int .u8 10] 5)).drew.cell? ⟨wq.heap.size, 1, none⟩ = some (.int .u8 10) := ⟨hHeld2, (Blk.new wq 5 #[.int .u8 13, .int .u8 10]).drew.cell 1⟩
                              clear hHeld hHeld2
                              refine wpAnyH_take (i := 6) (oi := { dst := some 111, op := Go.Op.indexAddr _ (Go.Operand.tmp 109) (Go.Operand.tmp 110), type := _, pos := _, after := _, guard := none }) (v := ?v22) rfl (by kernel_rfl) (by kernel_rfl) (by kernel_rfl) (fun _ _ _ h => h) (Or.inl ⟨by rfl, ?y22⟩) (by assumption) ?r22
                              case y22 => (intro wS hSw; (try dsimp only at hSw); go_simp; (try with_reducible rfl))
                              try simp only [Act.put, List.setIfInBounds_toArray, List.set_cons_zero, List.set_cons_succ]
                              refine wpAnyH_take (i := 7) (oi := { dst := some 112, op := Go.Op.load _ (Go.Operand.tmp 111), type := _, pos := _, after := _, guard := none }) (v := ?v23) rfl (by kernel_rfl) (by kernel_rfl) (by kernel_rfl) (fun _ _ _ h => h) (Or.inl ⟨by rfl, ?y23⟩) (by assumption) ?r23
                              case y23 => (intro wS hSw; (try dsimp only at hSw); go_simp; (try with_reducible rfl))
                              try simp only [Act.put, List.setIfInBounds_toArray, List.set_cons_zero, List.set_cons_succ]
                              refine wpAnyH_take (i := 8) (oi := { dst := some 113, op := Go.Op.binOp Go.BinOp.neq _ (Go.Operand.tmp 108) (Go.Operand.tmp 112) _, type := _, pos := _, after := _, guard := none }) (v := ?v24) rfl (by kernel_rfl) (by kernel_rfl) (by kernel_rfl) (fun _ _ _ h => h) (Or.inl ⟨by rfl, ?y24⟩) (by assumption) ?r24
                              case y24 => (intro wS hSw; (try dsimp only at hSw); go_simp; (try with_reducible rfl))
                              try simp only [Act.put, List.setIfInBounds_toArray, List.set_cons_zero, List.set_cons_succ]
                              refine wpAnyH_done (by kernel_rfl) ?_ _
                              go_wp2
                              go_roundw
                              case rel => exact ⟨1+1, k4 + 1, by omega, by go_num, by go_num, by omega, by omega, hr5, (hrow4.chg ((Chg.refl wq (fun _ => False)).alloc _) (fun _ _ => id)).chg (Chg.refl _ (fun _ => False)).drew (fun _ _ => id), (hblk4.alloc _).drew, (hchg4.alloc _).drew⟩
                              case measure => simp [intOf]
                            · have hbad := hr4.bad hlt4 (stE_on (by decide)) (stE_bad1 hv) (by decide)
                              have hb5 : (((xs[k4]).toNat : Int) != 10) = true := by simp; omega
                              have Hb := Lib.hid hbad
                              clear hbad hv
                              go_wp2
                              refine wp_region_held_drew (S := fun w' => w'.cell? (ad.add k4) = some (.int .u8 ↑(xs[k4]).toNat)) (by kernel_rfl) hc4 (fun hHeld => ?_)
                              refine wpAnyH_take (i := 0) (oi := { dst := some 105, op := Go.Op.move (Go.Operand.tmp 0), type := _, pos := _, after := _, guard := none }) (v := ?v25) rfl (by kernel_rfl) (by kernel_rfl) (by kernel_rfl) (fun _ _ _ h => h) (Or.inl ⟨by rfl, ?y25⟩) (by assumption) ?r25
                              case y25 => (intro wS hSw; (try dsimp only at hSw); go_simp; (try with_reducible rfl))
                              try simp only [Act.put, List.setIfInBounds_toArray, List.set_cons_zero, List.set_cons_succ]
                              refine wpAnyH_take (i := 1) (oi := { dst := some 106, op := Go.Op.move (Go.Operand.tmp 4), type := _, pos := _, after := _, guard := none }) (v := ?v26) rfl (by kernel_rfl) (by kernel_rfl) (by kernel_rfl) (fun _ _ _ h => h) (Or.inl ⟨by rfl, ?y26⟩) (by assumption) ?r26
                              case y26 => (intro wS hSw; (try dsimp only at hSw); go_simp; (try with_reducible rfl))
                              try simp only [Act.put, List.setIfInBounds_toArray, List.set_cons_zero, List.set_cons_succ]
                              refine wpAnyH_take (i := 2) (oi := { dst := some 107, op := Go.Op.indexAddr _ (Go.Operand.tmp 105) (Go.Operand.tmp 106), type := _, pos := _, after := _, guard := none }) (v := ?v27) rfl (by kernel_rfl) (by kernel_rfl) (by kernel_rfl) (fun _ _ _ h => h) (Or.inl ⟨by rfl, ?y27⟩) (by assumption) ?r27
                              case y27 => (intro wS hSw; (try dsimp only at hSw); go_simp; (try with_reducible rfl))
                              try simp only [Act.put, List.setIfInBounds_toArray, List.set_cons_zero, List.set_cons_succ]
                              refine wpAnyH_take (i := 3) (oi := { dst := some 108, op := Go.Op.load _ (Go.Operand.tmp 107), type := _, pos := _, after := _, guard := none }) (v := ?v28) rfl (by kernel_rfl) (by kernel_rfl) (by kernel_rfl) (fun _ _ _ h => h) (Or.inl ⟨by rfl, ?y28⟩) (by assumption) ?r28
                              case y28 => (intro wS hSw; (try dsimp only at hSw); go_simp; (try with_reducible rfl))
                              try simp only [Act.put, List.setIfInBounds_toArray, List.set_cons_zero, List.set_cons_succ]
                              refine wpAnyH_take (i := 5) (oi := { dst := some 110, op := Go.Op.move (Go.Operand.tmp 8), type := _, pos := _, after := _, guard := none }) (v := ?v29) rfl (by kernel_rfl) (by kernel_rfl) (by kernel_rfl) (fun _ _ _ h => h) (Or.inl ⟨by rfl, ?y29⟩) (by assumption) ?r29
                              case y29 => (intro wS hSw; (try dsimp only at hSw); go_simp; (try with_reducible rfl))
                              try simp only [Act.put, List.setIfInBounds_toArray, List.set_cons_zero, List.set_cons_succ]
                              refine wpAnyH_ready (rs := [4]) (by kernel_rfl) (by simp) ?_
                              refine AllReadyH.cons (o := { dst := some 109, op := Go.Op.buildSlice _ 2 #[(0, Go.Operand.const (Go.Value.int Go.IntKind.u8 13)), (1, Go.Operand.const (Go.Value.int Go.IntKind.u8 10))], type := _, pos := _, after := _, guard := none }) rfl (fun K hK => ?_) AllReadyH.nil
                              go_simp
                              refine hK.out _ _ (((Chg.refl wq.drew (fun _ => False)).alloc _).cell hHeld id) (fun hHeld2 => ?_)
                              clear hK K
                              try simp only [Act.put, List.setIfInBounds_toArray, List.set_cons_zero, List.set_cons_succ]
                              refine wpAnyH_stronger (S' := fun w' => w'.cell? (ad.add k4) = some (.int .u8 ↑(xs[k4]).toNat) ∧ w'.cell? ⟨wq.heap.size, 1, none⟩ = some (.int .u8 10)) (fun _ h => h.1) _ _ _ _ ?_
                              have hHeld3 : (wq.alloc (.cells #[.int .u8 13, .int .u8 10] 5)).drew.cell? (ad.add k4) = some (.int .u8 ↑(xs[k4]).toNat) ∧ (wq.alloc (.cells #[.int .u8 13, .int .u8 10] 5)).drew.cell? ⟨wq.heap.size, 1, none⟩ = some (.int .u8 10) := ⟨hHeld2, (Blk.new wq 5 #[.int .u8 13, .int .u8 10]).drew.cell 1⟩
                              clear hHeld hHeld2
                              refine wpAnyH_take (i := 6) (oi := { dst := some 111, op := Go.Op.indexAddr _ (Go.Operand.tmp 109) (Go.Operand.tmp 110), type := _, pos := _, after := _, guard := none }) (v := ?v30) rfl (by kernel_rfl) (by kernel_rfl) (by kernel_rfl) (fun _ _ _ h => h) (Or.inl ⟨by rfl, ?y30⟩) (by assumption) ?r30
                              case y30 => (intro wS hSw; (try dsimp only at hSw); go_simp; (try with_reducible rfl))
                              try simp only [Act.put, List.setIfInBounds_toArray, List.set_cons_zero, List.set_cons_succ]
                              refine wpAnyH_take (i := 7) (oi := { dst := some 112, op := Go.Op.load _ (Go.Operand.tmp 111), type := _, pos := _, after := _, guard := none }) (v := ?v31) rfl (by kernel_rfl) (by kernel_rfl) (by kernel_rfl) (fun _ _ _ h => h) (Or.inl ⟨by rfl, ?y31⟩) (by assumption) ?r31
                              case y31 => (intro wS hSw; (try dsimp only at hSw); go_simp; (try with_reducible rfl))
                              try simp only [Act.put, List.setIfInBounds_toArray, List.set_cons_zero, List.set_cons_succ]
                              refine wpAnyH_take (i := 8) (oi := { dst := some 113, op := Go.Op.binOp Go.BinOp.neq _ (Go.Operand.tmp 108) (Go.Operand.tmp 112) _, type := _, pos := _, after := _, guard := none }) (v := ?v32) rfl (by kernel_rfl) (by kernel_rfl) (by kernel_rfl) (fun _ _ _ h => h) (Or.inl ⟨by rfl, ?y32⟩) (by assumption) ?r32
                              case y32 => (intro wS hSw; (try dsimp only at hSw); go_simp; (try with_reducible rfl))
                              try simp only [Act.put, List.setIfInBounds_toArray, List.set_cons_zero, List.set_cons_succ]
                              refine wpAnyH_done (by kernel_rfl) ?_ _
                              have hblk5 := hblk4.alloc (.cells #[.int .u8 13, .int .u8 10] 5)
                              obtain ⟨⟨e0', e1', e2'⟩, g0', g1', g2'⟩ := res_cells hblk5
                              go_wp2
                              have hfin := res_set hblk5 (.int .i64 0) (.slice none 0 0) (.int .i64 4)
                              obtain ⟨⟨q0, q1, q2⟩, -⟩ := res_cells hfin
                              refine bodyPost_ret (v := .agg #[.int .i64 0, .slice none 0 0, .int .i64 4]) (by simp [results, Try.results23, go_sem, q0, q1, q2]) rfl ?_
                              exact told_bad ((hchg4.alloc _).drew) Hb.out (by decide)
                        · obtain rfl : k4 = xs.length := by omega
                          obtain ⟨nx, h9, hst⟩ := stE_form (M := M) (d := d3) hq3
                          have hall := hr4.all (Nat.le_refl _)
                          rw [hst] at hall
                          have beq4 : ((xs.length : Int) == (xs.length : Int)) = true := by simp
                          have Hall := Lib.hid hall
                          clear hall hst
                          go_wp2
                          have hfin := res_set hblk4 (.int .i64 (-1)) (.slice B3 d3.length cb3) (.int .i64 0)
                          obtain ⟨⟨q0, q1, q2⟩, -⟩ := res_cells hfin
                          refine bodyPost_ret (v := .agg #[.int .i64 (-1), .slice B3 d3.length cb3, .int .i64 0]) (by simp [results, Try.results23, go_sem, q0, q1, q2]) rfl ?_
                          exact told_more hchg4 hblk4 hrow4 hfoot3 Hall.out h9
              · have h13a := H13.out
                go_wp2_with fail
                go_loopw [3, 4, 7] (fun dv av kv w3 => ∃ (kk k3 : Nat) (d3 : List UInt8) (B3 : Option Addr) (cb3 : Nat), kk ≤ M ∧ kv = .int .i64 kk ∧ k3 ≤ xs.length ∧ k2 + 2 ≤ k3 ∧ av = .int .i64 k3 ∧ dv = .slice B3 (List.length d3) cb3 ∧ Rest xs k3 (stD M kk d3) ∧ d3.length + (M - kk) ≤ 4096 ∧
                    Row w3 (.slice B3 (List.length d3) cb3) d3 ∧ NewFoot w (.slice none 0 0) (.slice B3 (List.length d3) cb3) ∧ Blk w3 w.heap.size 47 #[.int .i64 0, .slice none 0 0, .int .i64 0] ∧ Chg w w3 (fun _ => False)) (fun _ _ kv _ => M - (intOf kv).toNat)
                case atStart => exact ⟨0, k2 + 2, d, B, cb, Nat.zero_le _, rfl, by omega, Nat.le_refl _, by go_num, rfl, HR.out, by omega, hrow, hfoot, hblk, hchg⟩
                case round =>
                  obtain ⟨kk, k3, d3, B3, cb3, hkk, rfl, hk3, hk32, rfl, rfl, hr5, hd3, hrow3, hfoot3, hblk3, hchg3⟩ := hrel
                  obtain ⟨w3, rfl⟩ : ∃ w3 : World, w3 = wr := ⟨_, rfl⟩
                  obtain ⟨⟨e0, e1, e2⟩, g0, g1, g2⟩ := res_cells hblk3
                  by_cases hkM : kk < M
                  · by_cases hlt3 : k3 < xs.length
                    · obtain ⟨ad3, had3, -, hc3a⟩ := (hx.chg hchg3 (fun _ _ _ => id)).at hlt3
                      injection had3 with had3
                      subst had3
                      have hc3 : w3.cell? (ad.add k3) = some (.int .u8 ↑(xs[k3]).toNat) := hc3a
                      clear hc3a
                      have bne3 : ((k3 : Int) == (xs.length : Int)) = false := by simp; omega
                      have hr6 := hr5.step hlt3 (stD_on _ _ _) (stD_step hkM)
                      go_wp2_with (at_builtin; refine wpList_app rfl _ _ rfl _ d3 (by rfl) (hrow3.chg ((Chg.refl w3 (fun _ => False)).alloc _) (fun _ _ => id)) _ 1 1 [xs[k3]] rfl (by rfl) (Rd.one (heap_alloc_new w3 _)) (by omega) ?_; intro B4 cb4 w4 hrow4 hc4 hf4)
                      have hl4 : (d3 ++ [xs[k3]]).length = d3.length + 1 := by simp
                      have hch : Chg w3 w4 (fun j => (Value.slice B3 d3.length cb3).ownBlock = some j) := ((Chg.refl w3 _).alloc _).trans hc4 fun _ _ e => e
                      go_roundw
                      case rel => exact ⟨kk + 1, k3 + 1, d3 ++ [xs[k3]], B4, cb4, by omega, by go_num, by omega, by omega, by go_num, by rw [hl4], hr6, by rw [hl4]; omega, by rw [hl4]; exact hrow4, by rw [hl4]; exact newFoot_nil_trans hfoot3 hf4 (by have := hchg3.size; simp; omega), hblk3.chg hch (hrow3.ne_blk hblk3 (by decide)), hchg3.trans hch (fun i hi e => newFoot_nil hfoot3 hi e)⟩
                      case measure => simp [intOf]; omega
                    · obtain rfl : k3 = xs.length := by omega
                      have hall := hr5.all (Nat.le_refl _)
                      rw [stD_more hkM] at hall
                      have beq3 : ((xs.length : Int) == (xs.length : Int)) = true := by simp
                      have Hall := Lib.hid hall
                      clear hall
                      go_wp2
                      have hfin := res_set hblk3 (.int .i64 (-1)) (.slice B3 d3.length cb3) (.int .i64 0)
                      obtain ⟨⟨q0, q1, q2⟩, -⟩ := res_cells hfin
                      refine bodyPost_ret (v := .agg #[.int .i64 (-1), .slice B3 d3.length cb3, .int .i64 0]) (by simp [results, Try.results23, go_sem, q0, q1, q2]) rfl ?_
                      exact told_more hchg3 hblk3 hrow3 hfoot3 Hall.out (by decide)
                  · obtain rfl : M = kk := by omega
                    rw [stD_end] at hr5
                    have HE := Lib.hid hr5
                    clear hr5
                    go_wp2
                    go_loopw [4, 8] (fun av qv wq => ∃ (q k4 : Nat), q ≤ 2 ∧ qv = .int .i64 q ∧ av = .int .i64 k4 ∧ k4 ≤ xs.length ∧ k + 2 ≤ k4 ∧ Rest xs k4 (stE M q d3) ∧ Row wq (.slice B3 (List.length d3) cb3) d3 ∧ Blk wq w.heap.size 47 #[.int .i64 0, .slice none 0 0, .int .i64 0] ∧ Chg w wq (fun _ => False)) (fun _ qv _ => 2 - (intOf qv).toNat)
                    case atStart => exact ⟨0, k3, by omega, rfl, rfl, hk3, by omega, HE.out, hrow3, hblk3, hchg3⟩
                    case round =>
                      obtain ⟨q, k4, hq, rfl, rfl, hk4, hk42, hr4, hrow4, hblk4, hchg4⟩ := hrel
                      obtain ⟨wq, rfl⟩ : ∃ wq : World, wq = wr := ⟨_, rfl⟩
                      obtain ⟨⟨e0, e1, e2⟩, g0, g1, g2⟩ := res_cells hblk4
                      have hq3 : q = 2 ∨ q < 2 := by omega
                      rcases hq3 with rfl | hq3
                      · by_cases hM : M = 0
                        · have hall := hr4.off (by subst hM; rfl)
                          have Hall := Lib.hid hall
                          have b0 : ((M : Int) == 0) = true := by simp [hM]
                          have hst : stE M 2 d3 = sN 9 0 0 d3 := by subst hM; rfl
                          rw [hst] at hall
                          have Hall := Lib.hid hall
                          clear hall hM hst
                          go_wp2
                          have hfin := res_set hblk4 (.int .i64 k4) (.slice B3 d3.length cb3) (.int .i64 0)
                          obtain ⟨⟨q0, q1, q2⟩, -⟩ := res_cells hfin
                          refine bodyPost_ret (v := .agg #[.int .i64 k4, .slice B3 d3.length cb3, .int .i64 0]) (by simp [results, Try.results23, go_sem, q0, q1, q2]) rfl ?_
                          exact told_done hchg4 hblk4 hrow4 hfoot3 Hall.out
                        · have b0 : ((M : Int) == 0) = false := by simp; omega
                          have hst : stE M 2 d3 = sN 2 0 0 d3 := by unfold stE; rw [if_neg hM]; rfl
                          rw [hst] at hr4
                          clear hM hst
                          go_wp2
                          go_roundw
                          case rel => exact ⟨k4, d3, B3, cb3, hk4, rfl, rfl, hr4, by omega, hrow4, hfoot3, hblk4, hchg4⟩
                          case measure => simp [intOf]; omega
                      · by_cases hlt4 : k4 < xs.length
                        · obtain ⟨ad4, had4, -, hc4a⟩ := (hx.chg hchg4 (fun _ _ _ => id)).at hlt4
                          injection had4 with had4
                          subst had4
                          have hc4 : wq.cell? (ad.add k4) = some (.int .u8 ↑(xs[k4]).toNat) := hc4a
                          clear hc4a
                          have bne4 : ((k4 : Int) == (xs.length : Int)) = false := by simp; omega
                          have hq4 : q = 0 ∨ q = 1 := by omega
                          rcases hq4 with rfl | rfl
                          · by_cases hv : (xs[k4]).toNat = 13
                            · have hr5 := hr4.step hlt4 (stE_on (by decide)) (stE_step0 hv)
                              have hb5 : (((xs[k4]).toNat : Int) != 13) = false := by simp [hv]
                              have HV := Lib.hid hv
                              clear hv
                              go_wp2
                              refine wp_region_held_drew (S := fun w' => w'.cell? (ad.add k4) = some (.int .u8 ↑(xs[k4]).toNat)) (by kernel_rfl) hc4 (fun hHeld => ?_)
                              refine wpAnyH_take (i := 0) (oi := { dst := some 105, op := Go.Op.move (Go.Operand.tmp 0), type := _, pos := _, after := _, guard := none }) (v := ?v33) rfl (by kernel_rfl) (by kernel_rfl) (by kernel_rfl) (fun _ _ _ h => h) (Or.inl ⟨by rfl, ?y33⟩) (by assumption) ?r33
                              case y33 => (intro wS hSw; (try dsimp only at hSw); go_simp; (try with_reducible rfl))
                              try simp only [Act.put, List.setIfInBounds_toArray, List.set_cons_zero, List.set_cons_succ]
                              refine wpAnyH_take (i := 1) (oi := { dst := some 106, op := Go.Op.move (Go.Operand.tmp 4), type := _, pos := _, after := _, guard := none }) (v := ?v34) rfl (by kernel_rfl) (by kernel_rfl) (by kernel_rfl) (fun _ _ _ h => h) (Or.inl ⟨by rfl, ?y34⟩) (by assumption) ?r34
                              case y34 => (intro wS hSw; (try dsimp only at hSw); go_simp; (try with_reducible rfl))
                              try simp only [Act.put, List.setIfInBounds_toArray, List.set_cons_zero, List.set_cons_succ]
                              refine wpAnyH_take (i := 2) (oi := { dst := some 107, op := Go.Op.indexAddr _ (Go.Operand.tmp 105) (Go.Operand.tmp 106), type := _, pos := _, after := _, guard := none }) (v := ?v35) rfl (by kernel_rfl) (by kernel_rfl) (by kernel_rfl) (fun _ _ _ h => h) (Or.inl ⟨by rfl, ?y35⟩) (by assumption) ?r35
                              case y35 => (intro wS hSw; (try dsimp only at hSw); go_simp; (try with_reducible rfl))
                              try simp only [Act.put, List.setIfInBounds_toArray, List.set_cons_zero, List.set_cons_succ]
                              refine wpAnyH_take (i := 3) (oi := { dst := some 108, op := Go.Op.load _ (Go.Operand.tmp 107), type := _, pos := _, after := _, guard := none }) (v := ?v36) rfl (by kernel_rfl) (by kernel_rfl) (by kernel_rfl) (fun _ _ _ h => h) (Or.inl ⟨by rfl, ?y36⟩) (by assumption) ?r36
                              case y36 => (intro wS hSw; (try dsimp only at hSw); go_simp; (try with_reducible rfl))
                              try simp only [Act.put, List.setIfInBounds_toArray, List.set_cons_zero, List.set_cons_succ]
                              refine wpAnyH_take (i := 5) (oi := { dst := some 110, op := Go.Op.move (Go.Operand.tmp 8), type := _, pos := _, after := _, guard := none }) (v := ?v37) rfl (by kernel_rfl) (by kernel_rfl) (by kernel_rfl) (fun _ _ _ h => h) (Or.inl ⟨by rfl, ?y37⟩) (by assumption) ?r37
                              case y37 => (intro wS hSw; (try dsimp only at hSw); go_simp; (try with_reducible rfl))
                              try simp only [Act.put, List.setIfInBounds_toArray, List.set_cons_zero, List.set_cons_succ]
                              refine wpAnyH_ready (rs := [4]) (by kernel_rfl) (by simp) ?_
                              refine AllReadyH.cons (o := { dst := some 109, op := Go.Op.buildSlice _ 2 #[(0, Go.Operand.const (Go.Value.int Go.IntKind.u8 13)), (1, Go.Operand.const (Go.Value.int Go.IntKind.u8 10))], type := _, pos := _, after := _, guard := none }) rfl (fun K hK => ?_) AllReadyH.nil
                              go_simp
                              refine hK.out _ _ (((Chg.refl wq.drew (fun _ => False)).alloc _).cell hHeld id) (fun hHeld2 => ?_)
                              clear hK K
                              try simp only [Act.put, List.setIfInBounds_toArray, List.set_cons_zero, List.set_cons_succ]
                              refine wpAnyH_stronger (S' := fun w' => w'.cell? (ad.add k4) = some (.int .u8 ↑(xs[k4]).toNat) ∧ w'.cell? ⟨wq.heap.size, 0, none⟩ = some (.int .u8 13)) (fun _ h => h.1) _ _ _ _ ?_
                              have hHeld3 : (wq.alloc (.cells #[.int .u8 13, .int .u8 10] 5)).drew.cell? (ad.add k4) = some (.int .u8 ↑(xs[k4]).toNat) ∧ (wq.alloc (.cells #[.int .u8 13, .int .u8 10] 5)).drew.cell? ⟨wq.heap.size, 0, none⟩ = some (.int .u8 13) := ⟨hHeld2, (Blk.new wq 5 #[.int .u8 13, .int .u8 10]).drew.cell 0⟩
                              clear hHeld hHeld2
                              refine wpAnyH_take (i := 6) (oi := { dst := some 111, op := Go.Op.indexAddr _ (Go.Operand.tmp 109) (Go.Operand.tmp 110), type := _, pos := _, after := _, guard := none }) (v := ?v38) rfl (by kernel_rfl) (by kernel_rfl) (by kernel_rfl) (fun _ _ _ h => h) (Or.inl ⟨by rfl, ?y38⟩) (by assumption) ?r38
                              case y38 => (intro wS hSw; (try dsimp only at hSw); go_simp; (try with_reducible rfl))
                              try simp only [Act.put, List.setIfInBounds_toArray, List.set_cons_zero, List.set_cons_succ]
                              refine wpAnyH_take (i := 7) (oi := { dst := some 112, op := Go.Op.load _ (Go.Operand.tmp 111), type := _, pos := _, after := _, guard := none }) (v := ?v39) rfl (by kernel_rfl) (by kernel_rfl) (by kernel_rfl) (fun _ _ _ h => h) (Or.inl ⟨by rfl, ?y39⟩) (by assumption) ?r39
                              case y39 => (intro wS hSw; (try dsimp only at hSw); go_simp; (try with_reducible rfl))
                              try simp only [Act.put, List.setIfInBounds_toArray, List.set_cons_zero, List.set_cons_succ]
                              refine wpAnyH_take (i := 8) (oi := { dst := some 113, op := Go.Op.binOp Go.BinOp.neq _ (Go.Operand.tmp 108) (Go.Operand.tmp 112) _, type := _, pos := _, after := _, guard := none }) (v := ?v40) rfl (by kernel_rfl) (by kernel_rfl) (by kernel_rfl) (fun _ _ _ h => h) (Or.inl ⟨by rfl, ?y40⟩) (by assumption) ?r40
                              case y40 => (intro wS hSw; (try dsimp only at hSw); go_simp; (try with_reducible rfl))
                              try simp only [Act.put, List.setIfInBounds_toArray, List.set_cons_zero, List.set_cons_succ]
                              refine wpAnyH_done (by kernel_rfl) ?_ _
                              go_wp2
                              go_roundw
                              case rel => exact ⟨0+1, k4 + 1, by omega, by go_num, by go_num, by omega, by omega, hr5, (hrow4.chg ((Chg.refl wq (fun _ => False)).alloc _) (fun _ _ => id)).chg (Chg.refl _ (fun _ => False)).drew (fun _ _ => id), (hblk4.alloc _).drew, (hchg4.alloc _).drew⟩
                              case measure => simp [intOf]
                            · have hbad := hr4.bad hlt4 (stE_on (by decide)) (stE_bad0 hv) (by decide)
                              have hb5 : (((xs[k4]).toNat : Int) != 13) = true := by simp; omega
                              have Hb := Lib.hid hbad
                              clear hbad hv
                              go_wp2
                              refine wp_region_held_drew (S := fun w' => w'.cell? (ad.add k4) = some (.int .u8 ↑(xs[k4]).toNat)) (by kernel_rfl) hc4 (fun hHeld => ?_)
                              refine wpAnyH_take (i := 0) (oi := { dst := some 105, op := Go.Op.move (Go.Operand.tmp 0), type := _, pos := _, after := _, guard := none }) (v := ?v41) rfl (by kernel_rfl) (by kernel_rfl) (by kernel_rfl) (fun _ _ _ h => h) (Or.inl ⟨by rfl, ?y41⟩) (by assumption) ?r41
                              case y41 => (intro wS hSw; (try dsimp only at hSw); go_simp; (try with_reducible rfl))
                              try simp only [Act.put, List.setIfInBounds_toArray, List.set_cons_zero, List.set_cons_succ]
                              refine wpAnyH_take (i := 1) (oi := { dst := some 106, op := Go.Op.move (Go.Operand.tmp 4), type := _, pos := _, after := _, guard := none }) (v := ?v42) rfl (by kernel_rfl) (by kernel_rfl) (by kernel_rfl) (fun _ _ _ h => h) (Or.inl ⟨by rfl, ?y42⟩) (by assumption) ?r42
                              case y42 => (intro wS hSw; (try dsimp only at hSw); go_simp; (try with_reducible rfl))
                              try simp only [Act.put, List.setIfInBounds_toArray, List.set_cons_zero, List.set_cons_succ]
                              refine wpAnyH_take (i := 2) (oi := { dst := some 107, op := Go.Op.indexAddr _ (Go.Operand.tmp 105) (Go.Operand.tmp 106), type := _, pos := _, after := _, guard := none }) (v := ?v43) rfl (by kernel_rfl) (by kernel_rfl) (by kernel_rfl) (fun _ _ _ h => h) (Or.inl ⟨by rfl, ?y43⟩) (by assumption) ?r43
                              case y43 => (intro wS hSw; (try dsimp only at hSw); go_simp; (try with_reducible rfl))
                              try simp only [Act.put, List.setIfInBounds_toArray, List.set_cons_zero, List.set_cons_succ]
                              refine wpAnyH_take (i := 3) (oi := { dst := some 108, op := Go.Op.load _ (Go.Operand.tmp 107), type := _, pos := _, after := _, guard := none }) (v := ?v44) rfl (by kernel_rfl) (by kernel_rfl) (by kernel_rfl) (fun _ _ _ h => h) (Or.inl ⟨by rfl, ?y44⟩) (by assumption) ?r44
                              case y44 => (intro wS hSw; (try dsimp only at hSw); go_simp; (try with_reducible rfl))
                              try simp only [Act.put, List.setIfInBounds_toArray, List.set_cons_zero, List.set_cons_succ]
                              refine wpAnyH_take (i := 5) (oi := { dst := some 110, op := Go.Op.move (Go.Operand.tmp 8), type := _, pos := _, after := _, guard := none }) (v := ?v45) rfl (by kernel_rfl) (by kernel_rfl) (by kernel_rfl) (fun _ _ _ h => h) (Or.inl ⟨by rfl, ?y45⟩) (by assumption) ?r45
                              case y45 => (intro wS hSw; (try dsimp only at hSw); go_simp; (try with_reducible rfl))
                              try simp only [Act.put, List.setIfInBounds_toArray, List.set_cons_zero, List.set_cons_succ]
                              refine wpAnyH_ready (rs := [4]) (by kernel_rfl) (by simp) ?_
                              refine AllReadyH.cons (o := { dst := some 109, op := Go.Op.buildSlice _ 2 #[(0, Go.Operand.const (Go.Value.int Go.IntKind.u8 13)), (1, Go.Operand.const (Go.Value.int Go.IntKind.u8 10))], type := _, pos := _, after := _, guard := none }) rfl (fun K hK => ?_) AllReadyH.nil
                              go_simp
                              refine hK.out _ _ (((Chg.refl wq.drew (fun _ => False)).alloc _).cell hHeld id) (fun hHeld2 => ?_)
                              clear hK K
                              try simp only [Act.put, List.setIfInBounds_toArray, List.set_cons_zero, List.set_cons_succ]
                              refine wpAnyH_stronger (S' := fun w' => w'.cell? (ad.add k4) = some (.int .u8 ↑(xs[k4]).toNat) ∧ w'.cell? ⟨wq.heap.size, 0, none⟩ = some (.int .u8 13)) (fun _ h => h.1) _ _ _ _ ?_
                              have hHeld3 : (wq.alloc (.cells #[.int .u8 13, .int .u8 10] 5)).drew.cell? (ad.add k4) = some (.int .u8 ↑(xs[k4]).toNat) ∧ (wq.alloc (.cells #[.int .u8 13, .int .u8 10] 5)).drew.cell? ⟨wq.heap.size, 0, none⟩ = some (.int .u8 13) := ⟨hHeld2, (Blk.new wq 5 #[.int .u8 13, .int .u8 10]).drew.cell 0⟩
                              clear hHeld hHeld2
                              refine wpAnyH_take (i := 6) (oi := { dst := some 111, op := Go.Op.indexAddr _ (Go.Operand.tmp 109) (Go.Operand.tmp 110), type := _, pos := _, after := _, guard := none }) (v := ?v46) rfl (by kernel_rfl) (by kernel_rfl) (by kernel_rfl) (fun _ _ _ h => h) (Or.inl ⟨by rfl, ?y46⟩) (by assumption) ?r46
                              case y46 => (intro wS hSw; (try dsimp only at hSw); go_simp; (try with_reducible rfl))
                              try simp only [Act.put, List.setIfInBounds_toArray, List.set_cons_zero, List.set_cons_succ]
                              refine wpAnyH_take (i := 7) (oi := { dst := some 112, op := Go.Op.load _ (Go.Operand.tmp 111), type := _, pos := _, after := _, guard := none }) (v := ?v47) rfl (by kernel_rfl) (by kernel_rfl) (by kernel_rfl) (fun _ _ _ h => h) (Or.inl ⟨by rfl, ?y47⟩) (by assumption) ?r47
                              case y47 => (intro wS hSw; (try dsimp only at hSw); go_simp; (try with_reducible rfl))
                              try simp only [Act.put, List.setIfInBounds_toArray, List.set_cons_zero, List.set_cons_succ]
                              refine wpAnyH_take (i := 8) (oi := { dst := some 113, op := Go.Op.binOp Go.BinOp.neq _ (Go.Operand.tmp 108) (Go.Operand.tmp 112) _, type := _, pos := _, after := _, guard := none }) (v := ?v48) rfl (by kernel_rfl) (by kernel_rfl) (by kernel_rfl) (fun _ _ _ h => h) (Or.inl ⟨by rfl, ?y48⟩) (by assumption) ?r48
                              case y48 => (intro wS hSw; (try dsimp only at hSw); go_simp; (try with_reducible rfl))
                              try simp only [Act.put, List.setIfInBounds_toArray, List.set_cons_zero, List.set_cons_succ]
                              refine wpAnyH_done (by kernel_rfl) ?_ _
                              have hblk5 := hblk4.alloc (.cells #[.int .u8 13, .int .u8 10] 5)
                              obtain ⟨⟨e0', e1', e2'⟩, g0', g1', g2'⟩ := res_cells hblk5
                              go_wp2
                              have hfin := res_set hblk5 (.int .i64 0) (.slice none 0 0) (.int .i64 4)
                              obtain ⟨⟨q0, q1, q2⟩, -⟩ := res_cells hfin
                              refine bodyPost_ret (v := .agg #[.int .i64 0, .slice none 0 0, .int .i64 4]) (by simp [results, Try.results23, go_sem, q0, q1, q2]) rfl ?_
                              exact told_bad ((hchg4.alloc _).drew) Hb.out (by decide)
                          · by_cases hv : (xs[k4]).toNat = 10
                            · have hr5 := hr4.step hlt4 (stE_on (by decide)) (stE_step1 hv)
                              have hb5 : (((xs[k4]).toNat : Int) != 10) = false := by simp [hv]
                              have HV := Lib.hid hv
                              clear hv
                              go_wp2
                              refine wp_region_held_drew (S := fun w' => w'.cell? (ad.add k4) = some (.int .u8 ↑(xs[k4]).toNat)) (by kernel_rfl) hc4 (fun hHeld => ?_)
                              refine wpAnyH_take (i := 0) (oi := { dst := some 105, op := Go.Op.move (Go.Operand.tmp 0), type := _, pos := _, after := _, guard := none }) (v := ?v49) rfl (by kernel_rfl) (by kernel_rfl) (by kernel_rfl) (fun _ _ _ h => h) (Or.inl ⟨by rfl, ?y49⟩) (by assumption) ?r49
                              case y49 => (intro wS hSw; (try dsimp only at hSw); go_simp; (try with_reducible rfl))
                              try simp only [Act.put, List.setIfInBounds_toArray, List.set_cons_zero, List.set_cons_succ]
                              refine wpAnyH_take (i := 1) (oi := { dst := some 106, op := Go.Op.move (Go.Operand.tmp 4), type := _, pos := _, after := _, guard := none }) (v := ?v50) rfl (by kernel_rfl) (by kernel_rfl) (by kernel_rfl) (fun _ _ _ h => h) (Or.inl ⟨by rfl, ?y50⟩) (by assumption) ?r50
                              case y50 => (intro wS hSw; (try dsimp only at hSw); go_simp; (try with_reducible rfl))
                              try simp only [Act.put, List.setIfInBounds_toArray, List.set_cons_zero, List.set_cons_succ]
                              refine wpAnyH_take (i := 2) (oi := { dst := some 107, op := Go.Op.indexAddr _ (Go.Operand.tmp 105) (Go.Operand.tmp 106), type := _, pos := _, after := _, guard := none }) (v := ?v51) rfl (by kernel_rfl) (by kernel_rfl) (by kernel_rfl) (fun _ _ _ h => h) (Or.inl ⟨by rfl, ?y51⟩) (by assumption) ?r51
                              case y51 => (intro wS hSw; (try dsimp only at hSw); go_simp; (try with_reducible rfl))
                              try simp only [Act.put, List.setIfInBounds_toArray, List.set_cons_zero, List.set_cons_succ]
                              refine wpAnyH_take (i := 3) (oi := { dst := some 108, op := Go.Op.load _ (Go.Operand.tmp 107), type := _, pos := _, after := _, guard := none }) (v := ?v52) rfl (by kernel_rfl) (by kernel_rfl) (by kernel_rfl) (fun _ _ _ h => h) (Or.inl ⟨by rfl, ?y52⟩) (by assumption) ?r52
                              case y52 => (intro wS hSw; (try dsimp only at hSw); go_simp; (try with_reducible rfl))
                              try simp only [Act.put, List.setIfInBounds_toArray, List.set_cons_zero, List.set_cons_succ]
                              refine wpAnyH_take (i := 5) (oi := { dst := some 110, op := Go.Op.move (Go.Operand.tmp 8), type := _, pos := _, after := _, guard := none }) (v := ?v53) rfl (by kernel_rfl) (by kernel_rfl) (by kernel_rfl) (fun _ _ _ h => h) (Or.inl ⟨by rfl, ?y53⟩) (by assumption) ?r53
                              case y53 => (intro wS hSw; (try dsimp only at hSw); go_simp; (try with_reducible rfl))
                              try simp only [Act.put, List.setIfInBounds_toArray, List.set_cons_zero, List.set_cons_succ]
                              refine wpAnyH_ready (rs := [4]) (by kernel_rfl) (by simp) ?_
                              refine AllReadyH.cons (o := { dst := some 109, op := Go.Op.buildSlice _ 2 #[(0, Go.Operand.const (Go.Value.int Go.IntKind.u8 13)), (1, Go.Operand.const (Go.Value.int Go.IntKind.u8 10))], type := _, pos := _, after := _, guard := none }) rfl (fun K hK => ?_) AllReadyH.nil
                              go_simp
                              refine hK.out _ _ (((Chg.refl wq.drew (fun _ => False)).alloc _).cell hHeld id) (fun hHeld2 => ?_)
                              clear hK K
                              try simp only [Act.put, List.setIfInBounds_toArray, List.set_cons_zero, List.set_cons_succ]
                              refine wpAnyH_stronger (S' := fun w' => w'.cell? (ad.add k4) = some (.int .u8 ↑(xs[k4]).toNat) ∧ w'.cell? ⟨wq.heap.size, 1, none⟩ = some (.int .u8 10)) (fun _ h => h.1) _ _ _ _ ?_
                              have hHeld3 : (wq.alloc (.cells #[.int .u8 13, .int .u8 10] 5)).drew.cell? (ad.add k4) = some (.int .u8 ↑(xs[k4]).toNat) ∧ (wq.alloc (.cells #[.int .u8 13, .int .u8 10] 5)).drew.cell? ⟨wq.heap.size, 1, none⟩ = some (.int .u8 10) := ⟨hHeld2, (Blk.new wq 5 #[.int .u8 13, .int .u8 10]).drew.cell 1⟩
                              clear hHeld hHeld2
                              refine wpAnyH_take (i := 6) (oi := { dst := some 111, op := Go.Op.indexAddr _ (Go.Operand.tmp 109) (Go.Operand.tmp 110), type := _, pos := _, after := _, guard := none }) (v := ?v54) rfl (by kernel_rfl) (by kernel_rfl) (by kernel_rfl) (fun _ _ _ h => h) (Or.inl ⟨by rfl, ?y54⟩) (by assumption) ?r54
                              case y54 => (intro wS hSw; (try dsimp only at hSw); go_simp; (try with_reducible rfl))
                              try simp only [Act.put, List.setIfInBounds_toArray, List.set_cons_zero, List.set_cons_succ]
                              refine wpAnyH_take (i := 7) (oi := { dst := some 112, op := Go.Op.load _ (Go.Operand.tmp 111), type := _, pos := _, after := _, guard := none }) (v := ?v55) rfl (by kernel_rfl) (by kernel_rfl) (by kernel_rfl) (fun _ _ _ h => h) (Or.inl ⟨by rfl, ?y55⟩) (by assumption) ?r55
                              case y55 => (intro wS hSw; (try dsimp only at hSw); go_simp; (try with_reducible rfl))
                              try simp only [Act.put, List.setIfInBounds_toArray, List.set_cons_zero, List.set_cons_succ]
                              refine wpAnyH_take (i := 8) (oi := { dst := some 113, op := Go.Op.binOp Go.BinOp.neq _ (Go.Operand.tmp 108) (Go.Operand.tmp 112) _, type := _, pos := _, after := _, guard := none }) (v := ?v56) rfl (by kernel_rfl) (by kernel_rfl) (by kernel_rfl) (fun _ _ _ h => h) (Or.inl ⟨by rfl, ?y56⟩) (by assumption) ?r56
                              case y56 => (intro wS hSw; (try dsimp only at hSw); go_simp; (try with_reducible rfl))
                              try simp only [Act.put, List.setIfInBounds_toArray, List.set_cons_zero, List.set_cons_succ]
                              refine wpAnyH_done (by kernel_rfl) ?_ _
                              go_wp2
                              go_roundw
                              case rel => exact ⟨1+1, k4 + 1, by omega, by go_num, by go_num, by omega, by omega, hr5, (hrow4.chg ((Chg.refl wq (fun _ => False)).alloc _) (fun _ _ => id)).chg (Chg.refl _ (fun _ => False)).drew (fun _ _ => id), (hblk4.alloc _).drew, (hchg4.alloc _).drew⟩
                              case measure => simp [intOf]
                            · have hbad := hr4.bad hlt4 (stE_on (by decide)) (stE_bad1 hv) (by decide)
                              have hb5 : (((xs[k4]).toNat : Int) != 10) = true := by simp; omega
                              have Hb := Lib.hid hbad
                              clear hbad hv
                              go_wp2
                              refine wp_region_held_drew (S := fun w' => w'.cell? (ad.add k4) = some (.int .u8 ↑(xs[k4]).toNat)) (by kernel_rfl) hc4 (fun hHeld => ?_)
                              refine wpAnyH_take (i := 0) (oi := { dst := some 105, op := Go.Op.move (Go.Operand.tmp 0), type := _, pos := _, after := _, guard := none }) (v := ?v57) rfl (by kernel_rfl) (by kernel_rfl) (by kernel_rfl) (fun _ _ _ h => h) (Or.inl ⟨by rfl, ?y57⟩) (by assumption) ?r57
                              case y57 => (intro wS hSw; (try dsimp only at hSw); go_simp; (try with_reducible rfl))
                              try simp only [Act.put, List.setIfInBounds_toArray, List.set_cons_zero, List.set_cons_succ]
                              refine wpAnyH_take (i := 1) (oi := { dst := some 106, op := Go.Op.move (Go.Operand.tmp 4), type := _, pos := _, after := _, guard := none }) (v := ?v58) rfl (by kernel_rfl) (by kernel_rfl) (by kernel_rfl) (fun _ _ _ h => h) (Or.inl ⟨by rfl, ?y58⟩) (by assumption) ?r58
                              case y58 => (intro wS hSw; (try dsimp only at hSw); go_simp; (try with_reducible rfl))
                              try simp only [Act.put, List.setIfInBounds_toArray, List.set_cons_zero, List.set_cons_succ]
                              refine wpAnyH_take (i := 2) (oi := { dst := some 107, op := Go.Op.indexAddr _ (Go.Operand.tmp 105) (Go.Operand.tmp 106), type := _, pos := _, after := _, guard := none }) (v := ?v59) rfl (by kernel_rfl) (by kernel_rfl) (by kernel_rfl) (fun _ _ _ h => h) (Or.inl ⟨by rfl, ?y59⟩) (by assumption) ?r59
                              case y59 => (intro wS hSw; (try dsimp only at hSw); go_simp; (try with_reducible rfl))
                              try simp only [Act.put, List.setIfInBounds_toArray, List.set_cons_zero, List.set_cons_succ]
                              refine wpAnyH_take (i := 3) (oi := { dst := some 108, op := Go.Op.load _ (Go.Operand.tmp 107), type := _, pos := _, after := _, guard := none }) (v := ?v60) rfl (by kernel_rfl) (by kernel_rfl) (by kernel_rfl) (fun _ _ _ h => h) (Or.inl ⟨by rfl, ?y60⟩) (by assumption) ?r60
                              case y60 => (intro wS hSw; (try dsimp only at hSw); go_simp; (try with_reducible rfl))
                              try simp only [Act.put, List.setIfInBounds_toArray, List.set_cons_zero, List.set_cons_succ]
                              refine wpAnyH_take (i := 5) (oi := { dst := some 110, op := Go.Op.move (Go.Operand.tmp 8), type := _, pos := _, after := _, guard := none }) (v := ?v61) rfl (by kernel_rfl) (by kernel_rfl) (by kernel_rfl) (fun _ _ _ h => h) (Or.inl ⟨by rfl, ?y61⟩) (by assumption) ?r61
                              case y61 => (intro wS hSw; (try dsimp only at hSw); go_simp; (try with_reducible rfl))
                              try simp only [Act.put, List.setIfInBounds_toArray, List.set_cons_zero, List.set_cons_succ]
                              refine wpAnyH_ready (rs := [4]) (by kernel_rfl) (by simp) ?_
                              refine AllReadyH.cons (o := { dst := some 109, op := Go.Op.buildSlice _ 2 #[(0, Go.Operand.const (Go.Value.int Go.IntKind.u8 13)), (1, Go.Operand.const (Go.Value.int Go.IntKind.u8 10))], type := _, pos := _, after := _, guard := none }) rfl (fun K hK => ?_) AllReadyH.nil
                              go_simp
                              refine hK.out _ _ (((Chg.refl wq.drew (fun _ => False)).alloc _).cell hHeld id) (fun hHeld2 => ?_)
                              clear hK K
                              try simp only [Act.put, List.setIfInBounds_toArray, List.set_cons_zero, List.set_cons_succ]
                              refine wpAnyH_stronger (S' := fun w' => w'.cell? (ad.add k4) = some (.int .u8 ↑(xs[k4]).toNat) ∧ w'.cell? ⟨wq.heap.size, 1, none⟩ = some (.int .u8 10)) (fun _ h => h.1) _ _ _ _ ?_
                              have hHeld3 : (wq.alloc (.cells #[.int .u8 13, .int .u8 10] 5)).drew.cell? (ad.add k4) = some (.int .u8 ↑(xs[k4]).toNat) ∧ (wq.alloc (.cells #[.int .u8 13, .int .u8 10] 5)).drew.cell? ⟨wq.heap.size, 1, none⟩ = some (.int .u8 10) := ⟨hHeld2, (Blk.new wq 5 #[.int .u8 13, .int .u8 10]).drew.cell 1⟩
                              clear hHeld hHeld2
                              refine wpAnyH_take (i := 6) (oi := { dst := some 111, op := Go.Op.indexAddr _ (Go.Operand.tmp 109) (Go.Operand.tmp 110), type := _, pos := _, after := _, guard := none }) (v := ?v62) rfl (by kernel_rfl) (by kernel_rfl) (by kernel_rfl) (fun _ _ _ h => h) (Or.inl ⟨by rfl, ?y62⟩) (by assumption) ?r62
                              case y62 => (intro wS hSw; (try dsimp only at hSw); go_simp; (try with_reducible rfl))
                              try simp only [Act.put, List.setIfInBounds_toArray, List.set_cons_zero, List.set_cons_succ]
                              refine wpAnyH_take (i := 7) (oi := { dst := some 112, op := Go.Op.load _ (Go.Operand.tmp 111), type := _, pos := _, after := _, guard := none }) (v := ?v63) rfl (by kernel_rfl) (by kernel_rfl) (by kernel_rfl) (fun _ _ _ h => h) (Or.inl ⟨by rfl, ?y63⟩) (by assumption) ?r63
                              case y63 => (intro wS hSw; (try dsimp only at hSw); go_simp; (try with_reducible rfl))
                              try simp only [Act.put, List.setIfInBounds_toArray, List.set_cons_zero, List.set_cons_succ]
                              refine wpAnyH_take (i := 8) (oi := { dst := some 113, op := Go.Op.binOp Go.BinOp.neq _ (Go.Operand.tmp 108) (Go.Operand.tmp 112) _, type := _, pos := _, after := _, guard := none }) (v := ?v64) rfl (by kernel_rfl) (by kernel_rfl) (by kernel_rfl) (fun _ _ _ h => h) (Or.inl ⟨by rfl, ?y64⟩) (by assumption) ?r64
                              case y64 => (intro wS hSw; (try dsimp only at hSw); go_simp; (try with_reducible rfl))
                              try simp only [Act.put, List.setIfInBounds_toArray, List.set_cons_zero, List.set_cons_succ]
                              refine wpAnyH_done (by kernel_rfl) ?_ _
                              have hblk5 := hblk4.alloc (.cells #[.int .u8 13, .int .u8 10] 5)
                              obtain ⟨⟨e0', e1', e2'⟩, g0', g1', g2'⟩ := res_cells hblk5
                              go_wp2
                              have hfin := res_set hblk5 (.int .i64 0) (.slice none 0 0) (.int .i64 4)
                              obtain ⟨⟨q0, q1, q2⟩, -⟩ := res_cells hfin
                              refine bodyPost_ret (v := .agg #[.int .i64 0, .slice none 0 0, .int .i64 4]) (by simp [results, Try.results23, go_sem, q0, q1, q2]) rfl ?_
                              exact told_bad ((hchg4.alloc _).drew) Hb.out (by decide)
                        · obtain rfl : k4 = xs.length := by omega
                          obtain ⟨nx, h9, hst⟩ := stE_form (M := M) (d := d3) hq3
                          have hall := hr4.all (Nat.le_refl _)
                          rw [hst] at hall
                          have beq4 : ((xs.length : Int) == (xs.length : Int)) = true := by simp
                          have Hall := Lib.hid hall
                          clear hall hst
                          go_wp2
                          have hfin := res_set hblk4 (.int .i64 (-1)) (.slice B3 d3.length cb3) (.int .i64 0)
                          obtain ⟨⟨q0, q1, q2⟩, -⟩ := res_cells hfin
                          refine bodyPost_ret (v := .agg #[.int .i64 (-1), .slice B3 d3.length cb3, .int .i64 0]) (by simp [results, Try.results23, go_sem, q0, q1, q2]) rfl ?_
                          exact told_more hchg4 hblk4 hrow4 hfoot3 Hall.out h9
      · obtain rfl : k2 = xs.length := by omega
        have hall := hr2.all (Nat.le_refl _)
        have beq : ((xs.length : Int) == (xs.length : Int)) = true := by simp
        have Hall := Lib.hid hall
        clear hall
        go_wp2
        have hfin := res_set hblk (.int .i64 (-1)) (.slice B d.length cb) (.int .i64 0)
        obtain ⟨⟨q0, q1, q2⟩, -⟩ := res_cells hfin
        refine bodyPost_ret (v := .agg #[.int .i64 (-1), .slice B d.length cb, .int .i64 0]) (by simp [results, Try.results23, go_sem, q0, q1, q2]) rfl ?_
        exact told_more hchg hblk hrow hfoot Hall.out (by decide)
end Go.Proofs.Ytkbmajkoojgkpaa
