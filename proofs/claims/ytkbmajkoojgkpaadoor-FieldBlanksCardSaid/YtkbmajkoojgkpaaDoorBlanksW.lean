/- The walk of FieldBlanks, and its arguments opened. -/
import Derived.Test.YtkbmajkoojgkpaaDoorField5
import Derived.Test.YtkbmajkoojgkpaaDoorBlanks1
import Derived.ChangeMaps5
namespace Go.Proofs.YtkbmajkoojgkpaaDoor
open Go.RowKit

def mixU (xs : List UInt8) (k : Nat) : List UInt8 := (xs.take k).map upC ++ xs.drop k
theorem mixU_len (xs : List UInt8) (k : Nat) : (mixU xs k).length = xs.length := by simp [mixU]; omega
theorem mixU_zero (xs : List UInt8) : mixU xs 0 = xs := by simp [mixU]
theorem mixU_all (xs : List UInt8) : mixU xs xs.length = xs.map upC := by simp [mixU]
theorem mixU_get {xs : List UInt8} {k : Nat} (hk : k < xs.length) (h : k < (mixU xs k).length) : (mixU xs k)[k] = xs[k] := by
  have : (mixU xs k)[k]? = some xs[k] := by
    unfold mixU
    rw [List.getElem?_append_right (by simp; omega)]
    simp [Nat.min_eq_left (Nat.le_of_lt hk), hk]
  rw [List.getElem?_eq_getElem h] at this
  injection this
theorem mixU_set {xs : List UInt8} {k : Nat} (hk : k < xs.length) : (mixU xs k).set k (upC xs[k]) = mixU xs (k + 1) := by
  unfold mixU
  rw [List.set_append_right _ _ (by simp; omega)]
  simp only [List.length_map, List.length_take, Nat.min_eq_left (Nat.le_of_lt hk), Nat.sub_self]
  rw [List.drop_eq_getElem_cons hk, List.set_cons_zero, List.take_succ_eq_append_getElem hk, List.map_append, List.append_assoc]
  rfl
theorem mixU_same {xs : List UInt8} {k : Nat} (hk : k < xs.length) (h : upC xs[k] = xs[k]) : mixU xs (k + 1) = mixU xs k := by
  rw [← mixU_set hk, h]
  have hl : k < (mixU xs k).length := by rw [mixU_len]; exact hk
  have := mixU_get hk hl
  rw [← this]
  exact List.set_getElem_self hl
theorem alloc_size2 (w : World) (o : Obj) : (w.alloc o).heap.size = w.heap.size + 1 := by simp
theorem lineV_form2 (o : Option (List UInt8 × List UInt8)) : ∃ (n v : List UInt8) (z : Int), (z = 0 ∨ z = 4) ∧ lineV o = .tuple #[.agg #[.string (str n), .string (str v)], .int .i64 z] := by
  cases o with
  | none => exact ⟨[], [], 4, .inr rfl, rfl⟩
  | some p => exact ⟨p.1, p.2, 0, .inl rfl, rfl⟩

section
open Go.ChangeShapes
variable {H : Type} {enc : TypeId × Value → H} {base : Nat} {spare : Nat → Bool} {held : Bool} {W : World}
theorem open_bools1 {a : Option Addr} {len cap fuel : Nat} {x : DataW H × List MemPlace} (h : DataW.trod enc Tryd.prog W base spare held fuel 48 [.slice a len cap] = some x) :
    ∃ bs : List Bool, bs.length = len ∧ RdB W a bs := by
  rcases Go.Deep.open_slice1 Tryd.underlying48 (by kernel_rfl) h with ⟨hcs, _⟩ | ⟨x, l, c, m, n, V, D, Pl, hcs, _, hl, hm, hmm, _, hx⟩
  · simp only [List.cons.injEq, Value.slice.injEq, and_true] at hcs
    obtain ⟨rfl, rfl, rfl⟩ := hcs
    exact ⟨[], rfl, ⟨fun h => absurd h (by simp)⟩⟩
  · simp only [List.cons.injEq, Value.slice.injEq, and_true] at hcs
    obtain ⟨rfl, rfl, rfl⟩ := hcs
    have hle : len ≤ m := by rw [hmm]; split <;> omega
    have hv : ∀ i, i < len → ∃ b : Bool, W.cell? (x.add i) = some (.bool b) := fun i hi => by
      obtain ⟨h1, h2⟩ := hx i (by omega)
      obtain ⟨b, hb, _⟩ := DataW.trod_bool Tryd.underlying4 h2
      have hb2 : V i = .bool b := by simpa using hb
      exact ⟨b, by rw [h1, hb2]⟩
    refine ⟨(List.range len).map fun i => match W.cell? (x.add i) with | some (.bool b) => b | _ => false, by simp, ⟨fun _ => ⟨x, rfl, fun j hj => ?_⟩⟩⟩
    have hj2 : j < len := by simpa using hj
    obtain ⟨b, hb⟩ := hv j hj2
    simp [hb]
end

set_option maxHeartbeats 4000000 in
set_option maxRecDepth 100000 in
theorem blanksW (xs vs : List UInt8) (A B : Option Addr) (n1 c1 n2 c2 : Nat) (as1 bs1 : List Bool) (great : Bool) (m : Int) (w : World) (hm : MaxL w m) (hn1 : as1.length = n1) (hA : RdB w A as1) (hn2 : bs1.length = n2) (hB : RdB w B bs1) :
    Calls Tryd.prog 8 #[.string (str xs), .string (str vs), .slice A n1 c1, .slice B n2 c2, .bool great] w fun e w' => e = .returned (.bool true) ∧ Chg w w' (fun _ => False) := by
  have hsz := str_size xs
  have hsz2 := str_size vs
  go_enter Tryd.func8, Tryd.ntmps8
  go_wp2_with fail
  refine (begun22_any m w hm).mono ?_
  rintro e w1 ⟨rfl, hc1⟩
  by_cases hl1 : xs.length ≤ 1024
  case neg =>
    go_wp2
    go_ret
    exact ⟨rfl, hc1⟩
  by_cases hl2 : vs.length ≤ 1024
  case neg =>
    go_wp2
    go_ret
    exact ⟨rfl, hc1⟩
  by_cases hl3 : n1 ≤ 50
  case neg =>
    go_wp2
    go_ret
    exact ⟨rfl, hc1⟩
  by_cases hl4 : n2 ≤ 50
  case neg =>
    go_wp2
    go_ret
    exact ⟨rfl, hc1⟩
  go_wp2_with fail
  go_loop [11] (fun iv => ∃ k : Nat, k ≤ xs.length ∧ iv = .int .i64 k ∧ Hid (∀ x, x ∈ xs.take k → x ≠ 58)) (fun iv => xs.length - (intOf iv).toNat)
  case atStart => exact ⟨0, Nat.zero_le _, rfl, (show ∀ x, x ∈ xs.take 0 → x ≠ 58 by simp)⟩
  case round =>
    obtain ⟨k, hk, rfl, hno⟩ := hrel
    by_cases hlt : k < xs.length
    · have hix := str_at xs k hlt
      have hcl := (xs[k]).toNat_lt
      by_cases h58 : (xs[k]).toNat = 58
      · go_wp2
        go_ret
        exact ⟨rfl, hc1⟩
      · have Hs := Lib.hid (mem_take_step hlt hno.out (ne_58 h58))
        go_wp2
        go_round
        case rel => exact ⟨k + 1, by omega, by go_num, Hs⟩
        case measure => simp [intOf]; omega
    obtain rfl : k = xs.length := by omega
    clear hlt hk
    have Hno : Hid (∀ x, x ∈ xs → x ≠ 58) := by have := hno.out; rw [List.take_length] at this; exact this
    clear hno
    obtain ⟨mid, hmid⟩ : ∃ mid, mid = xs ++ [58] := ⟨_, rfl⟩
    obtain ⟨cat, hcat⟩ : ∃ cat, cat = xs ++ [58] ++ vs := ⟨_, rfl⟩
    have hcat1 : str xs ++ (⟨#[58]⟩ : ByteArray) = str mid := by rw [hmid]; exact str_cat xs [58]
    have hcat2 : str mid ++ str vs = str cat := by rw [hmid, hcat]; exact str_cat (xs ++ [58]) vs
    have hsz3 : (str mid).size = xs.length + 1 := by rw [str_size, hmid]; simp
    have hcl : cat.length ≤ 1000000 := by rw [hcat]; simp; omega
    have hli := line_any cat m w1 (hm.chg hc1 id) hcl
    have HC : Hid (cat = xs ++ 58 :: vs) := by rw [hcat]; show xs ++ [58] ++ vs = xs ++ 58 :: vs; simp
    clear hmid hcat hcl
    obtain ⟨fo, hfo⟩ : ∃ fo, fo = fieldF cat := ⟨_, rfl⟩
    rw [← hfo] at hli
    have HF := Lib.hid hfo
    clear hfo
    obtain ⟨nm, vl, z, hz, hv⟩ := lineV_form2 fo
    rw [hv] at hli
    have HV := Lib.hid hv
    clear hv
    go_wp2_with fail
    refine hli.mono ?_
    rintro e w2 ⟨rfl, hc2⟩
    clear hli hcat1 hcat2 hsz3
    have hc02 := hc1.trans hc2 (fun _ _ h => h)
    have hb3 : Blk (w2.alloc (.cells #[.string (str nm), .string (str vl)] 42)) w2.heap.size 42 #[.string (str nm), .string (str vl)] := Blk.new w2 _ _
    have hc3 : Chg w (w2.alloc (.cells #[.string (str nm), .string (str vl)] 42)) (fun _ => False) := hc02.alloc _
    have Hz := Lib.hid hz
    clear hz hc02
    cases great
    · go_wp2_with fail
      generalize w2.alloc (.cells #[.string (str nm), .string (str vl)] 42) = w3 at *
      generalize w2.heap.size = g at *
      have hcw : Chg w w3 (fun _ => False) := hc3
      have hbw : Blk w3 g 42 #[.string (str nm), .string (str vl)] := hb3
      subst hn1
      subst hn2
      obtain ⟨ba, hba⟩ : ∃ ba, ba = as1.map blankB := ⟨_, rfl⟩
      obtain ⟨bb, hbb⟩ : ∃ bb, bb = bs1.map blankB := ⟨_, rfl⟩
      have hb1 := blanks_any A as1.length c1 as1 w3 rfl (hA.chg hcw) (by omega)
      have hb2 := blanks_any B bs1.length c2 bs1 w3 rfl (hB.chg hcw) (by omega)
      rw [← hba] at hb1
      rw [← hbb] at hb2
      obtain ⟨q1, hq1⟩ : ∃ q, q = xs ++ [58] := ⟨_, rfl⟩
      obtain ⟨q2, hq2⟩ : ∃ q, q = xs ++ [58] ++ ba := ⟨_, rfl⟩
      obtain ⟨q3, hq3⟩ : ∃ q, q = xs ++ [58] ++ ba ++ vs := ⟨_, rfl⟩
      obtain ⟨q4, hq4⟩ : ∃ q, q = xs ++ [58] ++ ba ++ vs ++ bb := ⟨_, rfl⟩
      have e1 : str xs ++ (⟨#[58]⟩ : ByteArray) = str q1 := by rw [hq1]; exact str_cat _ [58]
      have e2 : str q1 ++ str ba = str q2 := by rw [hq1, hq2]; exact str_cat _ ba
      have e3 : str q2 ++ str vs = str q3 := by rw [hq2, hq3]; exact str_cat _ vs
      have e4 : str q3 ++ str bb = str q4 := by rw [hq3, hq4]; exact str_cat _ bb
      have z0 : (str xs).size = xs.length := by rw [str_size]
      have z1 : (str q1).size = xs.length + 1 := by rw [str_size, hq1]; simp
      have z2 : (str ba).size = as1.length := by rw [str_size, hba]; simp
      have z3 : (str q2).size = xs.length + 1 + as1.length := by rw [str_size, hq2, hba]; simp; omega
      have z4 : (str bb).size = bs1.length := by rw [str_size, hbb]; simp
      have z5 : (str q3).size = xs.length + 1 + as1.length + vs.length := by rw [str_size, hq3, hba]; simp; omega
      have hql : q4.length ≤ 1000000 := by rw [hq4, hba, hbb]; simp; omega
      have hl2' := fun (wz : World) (h : MaxL wz m) => line_any q4 m wz h hql
      have hsame : fieldF q4 = fo := by
        rw [HF.out, HC.out, ← field_blanks xs vs ba bb (xs) Hno.out (by rw [hba]; exact blankB_bl as1) (by rw [hbb]; exact blankB_bl bs1) (.inl rfl), hq4]
        simp
      rw [hsame, HV.out] at hl2'
      clear hba hbb hq1 hq2 hq3 hq4 hsame hql
      refine hb1.mono ?_
      rintro e w5 ⟨rfl, rfl⟩
      go_wp2_with fail
      refine hb2.mono ?_
      rintro e w6 ⟨rfl, rfl⟩
      go_wp2_with fail
      refine (hl2' _ (hm.chg hcw id)).mono ?_
      rintro e w7 ⟨rfl, hc7⟩
      clear hb1 hb2 hl2' e1 e2 e3 e4
      have hc07 := hcw.trans hc7 (fun _ _ h => h)
      have hb8 := (hbw.chg hc7 id).chg ((Chg.refl w7 (fun _ => False)).alloc (.cells #[.string (str nm), .string (str vl)] 42)) id
      have hb9 : Blk (w7.alloc (.cells #[.string (str nm), .string (str vl)] 42)) w7.heap.size 42 #[.string (str nm), .string (str vl)] := Blk.new w7 _ _
      have hc9 : Chg w (w7.alloc (.cells #[.string (str nm), .string (str vl)] 42)) (fun _ => False) := hc07.alloc _
      obtain ⟨k0, k1, -, -⟩ := fld_cells hb8
      obtain ⟨k2, k3, -, -⟩ := fld_cells hb9
      have hs1 : ((str nm).toList == (str nm).toList) = true := by simp
      have hs2 : ((str vl).toList == (str vl).toList) = true := by simp
      rcases Hz.out with rfl | rfl
      all_goals
        clear Hz HV
        go_wp2
        go_ret
        exact ⟨by simp, hc9⟩
    · have hconv := Lib.run_convert_string_bytes (P := Tryd.prog) (w2.alloc (.cells #[.string (str nm), .string (str vl)] 42)) 9 22 5 (str xs) Tryd.underlying9 Tryd.underlying22 Tryd.underlying5
      rw [str_size] at hconv
      have hlow := Low.start (w2.alloc (.cells #[.string (str nm), .string (str vl)] 42)) xs
      have hcg : Chg (w2.alloc (.cells #[.string (str nm), .string (str vl)] 42)) (Lib.bytesWorld (w2.alloc (.cells #[.string (str nm), .string (str vl)] 42)) 5 (str xs)) (fun _ => False) := ⟨rfl, rfl, rfl, by rw [Lib.bytesWorld_size]; omega, fun i hi _ => Lib.bytesWorld_at_old (w2.alloc (.cells #[.string (str nm), .string (str vl)] 42)) _ _ i hi⟩
      have hcap := grownCap_ge (w2.alloc (.cells #[.string (str nm), .string (str vl)] 42)) xs.length 0 5
      generalize grownCap (w2.alloc (.cells #[.string (str nm), .string (str vl)] 42)) xs.length 0 5 = G at *
      generalize Lib.bytesWorld (w2.alloc (.cells #[.string (str nm), .string (str vl)] 42)) 5 (str xs) = w4 at *
      obtain ⟨g3, hg3⟩ : ∃ g3, g3 = (w2.alloc (.cells #[.string (str nm), .string (str vl)] 42)).heap.size := ⟨_, rfl⟩
      rw [← hg3] at hconv hlow
      have hg4 : g3 = w2.heap.size + 1 := hg3.trans (alloc_size2 w2 _)
      go_wp2_with fail
      generalize w2.alloc (.cells #[.string (str nm), .string (str vl)] 42) = w3 at *
      generalize w2.heap.size = g at *
      subst hg4
      have HG := Lib.hid hg3
      clear hg3
      go_loopw [16] (fun iv wr => ∃ k : Nat, k ≤ xs.length ∧ iv = .int .i64 k ∧ Low wr (g + 1) (mixU xs k) ∧ Chg w3 wr (fun _ => False)) (fun iv _ => xs.length - (intOf iv).toNat)
      case atStart => exact ⟨0, Nat.zero_le _, rfl, by rw [mixU_zero]; exact hlow, hcg⟩
      case round =>
        obtain ⟨k, hk, rfl, hl, hcr⟩ := hrel
        by_cases hlt : k < xs.length
        · have hlm : k < (mixU xs k).length := by rw [mixU_len]; exact hlt
          have hcell := hl.cell hlm
          rw [mixU_get hlt hlm] at hcell
          have hcell2 : wr.cell? ⟨g + 1, k, none⟩ = some (.int .u8 ((xs[k]).toNat : Int)) := hcell
          clear hcell
          have hfree := hl.free hlm
          have Hset := Lib.hid (hl.set k (upC xs[k]))
          have hcl := (xs[k]).toNat_lt
          by_cases hup : 97 ≤ (xs[k]).toNat ∧ (xs[k]).toNat ≤ 122
          · have hlo := Lib.hid (up_toNat _ hup)
            obtain ⟨h1, h2⟩ := hup
            go_wp2
            go_roundw
            case rel =>
              refine ⟨k + 1, by omega, by go_num, ?_, hcr.setCell (fun h => absurd h (by show ¬ g + 1 < w3.heap.size; have := HG.out; omega)) _⟩
              rw [← mixU_set hlt]
              have e : (Value.int .u8 (((xs[k]).toNat : Int) - 32)) = B8 (upC xs[k]) := by
                unfold B8
                have := hlo.out
                congr 1
                omega
              rw [e]
              exact Hset.out
            case measure => simp [intOf]; omega
          · have hsame := Lib.hid (mixU_same hlt (up_same _ hup))
            have hup2 : (xs[k]).toNat < 97 ∨ 122 < (xs[k]).toNat := by omega
            clear hup
            rcases hup2 with h1 | h1
            all_goals
              go_wp2
              go_roundw
              case rel => exact ⟨k + 1, by omega, by go_num, by rw [hsame.out]; exact hl, hcr⟩
              case measure => simp [intOf]; omega
        obtain rfl : k = xs.length := by omega
        rw [mixU_all] at hl
        have hcv := conv_rd wr (some ⟨g + 1, 0, none⟩) G xs.length (xs.map upC) (by simp) hl.rd
        have hcw : Chg w wr (fun _ => False) := hc3.trans hcr (fun _ _ h => h)
        have hbw : Blk wr g 42 #[.string (str nm), .string (str vl)] := hb3.chg hcr id
        subst hn1
        subst hn2
        obtain ⟨ba, hba⟩ : ∃ ba, ba = as1.map blankB := ⟨_, rfl⟩
        obtain ⟨bb, hbb⟩ : ∃ bb, bb = bs1.map blankB := ⟨_, rfl⟩
        have hb1 := blanks_any A as1.length c1 as1 wr rfl (hA.chg hcw) (by omega)
        have hb2 := blanks_any B bs1.length c2 bs1 wr rfl (hB.chg hcw) (by omega)
        rw [← hba] at hb1
        rw [← hbb] at hb2
        obtain ⟨q1, hq1⟩ : ∃ q, q = (xs.map upC) ++ [58] := ⟨_, rfl⟩
        obtain ⟨q2, hq2⟩ : ∃ q, q = (xs.map upC) ++ [58] ++ ba := ⟨_, rfl⟩
        obtain ⟨q3, hq3⟩ : ∃ q, q = (xs.map upC) ++ [58] ++ ba ++ vs := ⟨_, rfl⟩
        obtain ⟨q4, hq4⟩ : ∃ q, q = (xs.map upC) ++ [58] ++ ba ++ vs ++ bb := ⟨_, rfl⟩
        have e1 : str (xs.map upC) ++ (⟨#[58]⟩ : ByteArray) = str q1 := by rw [hq1]; exact str_cat _ [58]
        have e2 : str q1 ++ str ba = str q2 := by rw [hq1, hq2]; exact str_cat _ ba
        have e3 : str q2 ++ str vs = str q3 := by rw [hq2, hq3]; exact str_cat _ vs
        have e4 : str q3 ++ str bb = str q4 := by rw [hq3, hq4]; exact str_cat _ bb
        have z0 : (str (xs.map upC)).size = xs.length := by rw [str_size]; simp
        have z1 : (str q1).size = xs.length + 1 := by rw [str_size, hq1]; simp
        have z2 : (str ba).size = as1.length := by rw [str_size, hba]; simp
        have z3 : (str q2).size = xs.length + 1 + as1.length := by rw [str_size, hq2, hba]; simp; omega
        have z4 : (str bb).size = bs1.length := by rw [str_size, hbb]; simp
        have z5 : (str q3).size = xs.length + 1 + as1.length + vs.length := by rw [str_size, hq3, hba]; simp; omega
        have hql : q4.length ≤ 1000000 := by rw [hq4, hba, hbb]; simp; omega
        have hl2' := fun (wz : World) (h : MaxL wz m) => line_any q4 m wz h hql
        have hsame : fieldF q4 = fo := by
          rw [HF.out, HC.out, ← field_blanks xs vs ba bb ((xs.map upC)) Hno.out (by rw [hba]; exact blankB_bl as1) (by rw [hbb]; exact blankB_bl bs1) (.inr rfl), hq4]
          simp
        rw [hsame, HV.out] at hl2'
        clear hba hbb hq1 hq2 hq3 hq4 hsame hql
        go_wp2_with fail
        refine hb1.mono ?_
        rintro e w5 ⟨rfl, rfl⟩
        go_wp2_with fail
        refine hb2.mono ?_
        rintro e w6 ⟨rfl, rfl⟩
        go_wp2_with fail
        refine (hl2' _ (hm.chg hcw id)).mono ?_
        rintro e w7 ⟨rfl, hc7⟩
        clear hb1 hb2 hl2' e1 e2 e3 e4
        have hc07 := hcw.trans hc7 (fun _ _ h => h)
        have hb8 := (hbw.chg hc7 id).chg ((Chg.refl w7 (fun _ => False)).alloc (.cells #[.string (str nm), .string (str vl)] 42)) id
        have hb9 : Blk (w7.alloc (.cells #[.string (str nm), .string (str vl)] 42)) w7.heap.size 42 #[.string (str nm), .string (str vl)] := Blk.new w7 _ _
        have hc9 : Chg w (w7.alloc (.cells #[.string (str nm), .string (str vl)] 42)) (fun _ => False) := hc07.alloc _
        obtain ⟨k0, k1, -, -⟩ := fld_cells hb8
        obtain ⟨k2, k3, -, -⟩ := fld_cells hb9
        have hs1 : ((str nm).toList == (str nm).toList) = true := by simp
        have hs2 : ((str vl).toList == (str vl).toList) = true := by simp
        rcases Hz.out with rfl | rfl
        all_goals
          clear Hz HV
          go_wp2
          go_ret
          exact ⟨by simp, hc9⟩
end Go.Proofs.YtkbmajkoojgkpaaDoor
