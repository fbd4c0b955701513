/- The contract of chunk.Chunks. -/
import Derived.Test.YtkbmajkoojgkpaaDoorHex
import Derived.Test.YtkbmajkoojgkpaaDoorApp
namespace Go.Proofs.YtkbmajkoojgkpaaDoor
open Go.RowKit

theorem size_cases (sz : Int) : ∃ m : Nat, 1 ≤ m ∧ max sz.toNat 1 = m ∧ ((sz < 1 ∧ m = 1) ∨ (1 ≤ sz ∧ sz = m)) := by
  by_cases h : sz < 1
  · exact ⟨1, Nat.le_refl _, by omega, .inl ⟨h, rfl⟩⟩
  · exact ⟨sz.toNat, by omega, by omega, .inr ⟨by omega, by omega⟩⟩

def slen : Value → Nat
  | .slice _ n _ => n
  | _ => 0
/-- What is between two chunks. -/
structure WriteR (w0 : World) (total : List UInt8) (sz c : Nat) (sv ov : Value) (wr : World) : Prop where mk ::
  (out : ∃ A1 c1 ys A2 c2 zs, sv = .slice A1 (List.length ys) c1 ∧ ov = .slice A2 (List.length zs) c2 ∧ Rd w0 A1 ys ∧ ys.length ≤ c1 ∧ c1 ≤ c ∧ ys.length ≤ 100000 ∧ Out w0 wr A2 c2 zs ∧ zs ++ (chunkW sz ys ++ lastW) = total)

set_option maxHeartbeats 8000000 in
set_option maxRecDepth 100000 in
theorem chunks_any (A : Option Addr) (n c : Nat) (sz : Int) (xs : List UInt8) (w : World) (hn : xs.length = n) (hx : Rd w A xs) (hnc : n ≤ c) (_hc : c ≤ 9223372036854775807) (hm : n ≤ 100000) (ht : Tab w) (hsz : sz ≤ 9223372036854775807) :
    Calls Tryd.prog 16 #[.slice A n c, .int .i64 sz] w (NewBytes w (chunkW sz.toNat xs ++ lastW)) := by
  subst hn
  obtain ⟨m, hm1, hmx, hcase⟩ := size_cases sz
  have htot : ∃ total, total = chunkW sz.toNat xs ++ lastW := ⟨_, rfl⟩
  obtain ⟨total, htot⟩ := htot
  have hlt : total.length ≤ 1000005 := by rw [htot, List.length_append]; have := chunkW_len xs.length sz.toNat xs (Nat.le_refl _) (by omega); simp [lastW]; omega
  rw [← htot]
  obtain ⟨sz', hsz'⟩ : ∃ k : Nat, k = sz.toNat := ⟨_, rfl⟩
  rw [← hsz'] at htot hmx
  have Htot := Lib.hid htot
  have Hmx := Lib.hid hmx
  go_enter Tryd.func16, Tryd.ntmps16
  rcases hcase with ⟨h1, rfl⟩ | ⟨h1, rfl⟩
  · clear hsz'
    go_wp2_with fail
    go_loopw [0, 5, 6] (fun sv ov _ wr => WriteR w total sz' c sv ov wr) (fun sv _ _ _ => slen sv)
    case atStart => exact ⟨⟨A, c, xs, none, 0, [], rfl, rfl, hx, hnc, Nat.le_refl _, hm, Out.start _, Htot.out.symm⟩⟩
    case round =>
      obtain ⟨A1, c1, ys, A2, c2, zs, rfl, rfl, hrd, hy1, hy2, hy3, ho, htt⟩ := hrel.out
      have hzl : zs.length ≤ 1000005 := by rw [← htt, List.length_append] at hlt; omega
      have Htt := Lib.hid htt
      have ht' := ht.chg ho.chg id
      clear htt
      by_cases hlt0 : 0 < ys.length
      · have hst := chunkW_step (sz := sz') (n := 1) hlt0 (by have := Hmx.out; omega)
        have Hst := Lib.hid hst
        have htl : (ys.take 1).length = 1 := by rw [List.length_take]; omega
        have Htl := Lib.hid htl
        clear hst htl
        go_wp2_with fail
        refine (app_int _ zs 1 _ ho.row ht' (by omega) (by omega) (by omega)).mono ?_
        rintro e w1 ⟨A1', c1', rfl, hrow1, hc1, hf1⟩
        have ha1 := Appd.of hrow1 hc1 hf1
        rw [← List.length_append]
        obtain ⟨z1, hz1⟩ : ∃ z, z = zs ++ hexOf 1 := ⟨_, rfl⟩
        rw [← hz1] at ha1 ⊢
        have hl1 : z1.length ≤ zs.length + 5 := by rw [ha1.len]; have := hexOf_le 5 1 (by omega); omega
        have ho1 := ho.app ha1
        have Hz1 := Lib.hid hz1
        clear hrow1 hc1 hf1 hz1 ha1
        go_wp2_with (at_builtin; first
          | (refine wpList_appd rfl _ _ rfl _ z1 (by rfl) (ho1.alloc _).row (some ⟨w1.heap.size, 0, none⟩) 2 2 [13, 10] rfl (by rfl) (Rd.of_block (heap_alloc_new w1 _) rfl) (by omega) ?_; intro A2' c2' w2 z2 ha2; have ho2 := (ho1.alloc _).app ha2; have hl2 : z2.length ≤ z1.length + 2 := (by rw [ha2.len]; simp); have Hz2 := Lib.hid ha2.eq; clear ha2)
          | (refine wpList_appd rfl _ _ rfl _ z2 (by rfl) ho2.row A1 1 c1 (ys.take 1) Htl.out (by rfl) ((hrd.take 1).chg ho2.chg (fun _ _ _ => id)) (by omega) ?_; intro A3' c3' w3 z3 ha3; have ho3 := ho2.app ha3; have hl3 : z3.length ≤ z2.length + 100000 := (by rw [ha3.len, Htl.out]; omega); have Hz3 := Lib.hid ha3.eq; clear ha3)
          | (refine wpList_appd rfl _ _ rfl _ z3 (by rfl) (ho3.alloc _).row (some ⟨w3.heap.size, 0, none⟩) 2 2 [13, 10] rfl (by rfl) (Rd.of_block (heap_alloc_new w3 _) rfl) (by omega) ?_; intro A4' c4' w4 z4 ha4; have ho4 := (ho3.alloc _).app ha4; have Hz4 := Lib.hid ha4.eq; clear ha4))
        go_roundw
        case rel =>
          have hl5 : (ys.drop 1).length = ys.length - 1 := by simp
          exact ⟨⟨_, c1 - 1, ys.drop 1, A4', c4', z4, by rw [hl5], rfl, hrd.cut (by omega) (by omega) hy1, by rw [hl5]; omega, by omega, by rw [hl5]; omega, ho4, by rw [Hz4.out, Hz3.out, Hz2.out, Hz1.out, ← Htt.out, Hst.out]; simp [List.append_assoc]⟩⟩
        case measure => simp [slen]; omega
      · have hy0 : ys = [] := List.length_eq_zero_iff.1 (by omega)
        have Hy0 := Lib.hid hy0
        clear hy0
        go_wp2_with (at_builtin; refine wpList_appd rfl _ _ rfl _ zs (by rfl) (ho.alloc _).row (some ⟨wr.heap.size, 0, none⟩) 5 5 lastW rfl (by rfl) (Rd.of_block (heap_alloc_new wr _) rfl) (by omega) ?_; intro A4' c4' w4 z4 ha4; have ho4 := (ho.alloc _).app ha4; have Hz4 := Lib.hid ha4.eq; clear ha4)
        go_ret
        have he : z4 = total := by rw [Hz4.out, ← Htt.out, Hy0.out, chunkW_nil]; rfl
        subst he
        exact ⟨A4', c4', rfl, ho4.row, ho4.chg, ho4.foot⟩
  · clear hsz'
    go_wp2_with fail
    go_loopw [0, 5, 6] (fun sv ov _ wr => WriteR w total sz' c sv ov wr) (fun sv _ _ _ => slen sv)
    case atStart => exact ⟨⟨A, c, xs, none, 0, [], rfl, rfl, hx, hnc, Nat.le_refl _, hm, Out.start _, Htot.out.symm⟩⟩
    case round =>
      obtain ⟨A1, c1, ys, A2, c2, zs, rfl, rfl, hrd, hy1, hy2, hy3, ho, htt⟩ := hrel.out
      have hzl : zs.length ≤ 1000005 := by rw [← htt, List.length_append] at hlt; omega
      have Htt := Lib.hid htt
      have ht' := ht.chg ho.chg id
      clear htt
      by_cases hlt0 : 0 < ys.length
      · by_cases hmin : m ≤ ys.length
        · have hst := chunkW_step (sz := sz') (n := m) hlt0 (by have := Hmx.out; omega)
          have Hst := Lib.hid hst
          have htl : (ys.take m).length = m := by rw [List.length_take]; omega
          have Htl := Lib.hid htl
          clear hst htl
          go_wp2_with fail
          refine (app_int _ zs m _ ho.row ht' (by omega) (by omega) (by omega)).mono ?_
          rintro e w1 ⟨A1', c1', rfl, hrow1, hc1, hf1⟩
          have ha1 := Appd.of hrow1 hc1 hf1
          rw [← List.length_append]
          obtain ⟨z1, hz1⟩ : ∃ z, z = zs ++ hexOf m := ⟨_, rfl⟩
          rw [← hz1] at ha1 ⊢
          have hl1 : z1.length ≤ zs.length + 5 := by rw [ha1.len]; have := hexOf_le 5 m (by omega); omega
          have ho1 := ho.app ha1
          have Hz1 := Lib.hid hz1
          clear hrow1 hc1 hf1 hz1 ha1
          go_wp2_with (at_builtin; first
            | (refine wpList_appd rfl _ _ rfl _ z1 (by rfl) (ho1.alloc _).row (some ⟨w1.heap.size, 0, none⟩) 2 2 [13, 10] rfl (by rfl) (Rd.of_block (heap_alloc_new w1 _) rfl) (by omega) ?_; intro A2' c2' w2 z2 ha2; have ho2 := (ho1.alloc _).app ha2; have hl2 : z2.length ≤ z1.length + 2 := (by rw [ha2.len]; simp); have Hz2 := Lib.hid ha2.eq; clear ha2)
            | (refine wpList_appd rfl _ _ rfl _ z2 (by rfl) ho2.row A1 m c1 (ys.take m) Htl.out (by rfl) ((hrd.take m).chg ho2.chg (fun _ _ _ => id)) (by omega) ?_; intro A3' c3' w3 z3 ha3; have ho3 := ho2.app ha3; have hl3 : z3.length ≤ z2.length + 100000 := (by rw [ha3.len, Htl.out]; omega); have Hz3 := Lib.hid ha3.eq; clear ha3)
            | (refine wpList_appd rfl _ _ rfl _ z3 (by rfl) (ho3.alloc _).row (some ⟨w3.heap.size, 0, none⟩) 2 2 [13, 10] rfl (by rfl) (Rd.of_block (heap_alloc_new w3 _) rfl) (by omega) ?_; intro A4' c4' w4 z4 ha4; have ho4 := (ho3.alloc _).app ha4; have Hz4 := Lib.hid ha4.eq; clear ha4))
          go_roundw
          case rel =>
            have hl5 : (ys.drop m).length = ys.length - m := by simp
            exact ⟨⟨_, c1 - m, ys.drop m, A4', c4', z4, by rw [hl5], rfl, hrd.drop (by omega) hy1, by rw [hl5]; omega, by omega, by rw [hl5]; omega, ho4, by rw [Hz4.out, Hz3.out, Hz2.out, Hz1.out, ← Htt.out, Hst.out]; simp [List.append_assoc]⟩⟩
          case measure => simp [slen]; omega
        · have hst := chunkW_step (sz := sz') (n := ys.length) hlt0 (by have := Hmx.out; omega)
          have Hst := Lib.hid hst
          have htl : (ys.take ys.length).length = ys.length := by rw [List.length_take]; omega
          have Htl := Lib.hid htl
          clear hst htl
          go_wp2_with fail
          refine (app_int _ zs ys.length _ ho.row ht' (by omega) (by omega) (by omega)).mono ?_
          rintro e w1 ⟨A1', c1', rfl, hrow1, hc1, hf1⟩
          have ha1 := Appd.of hrow1 hc1 hf1
          rw [← List.length_append]
          obtain ⟨z1, hz1⟩ : ∃ z, z = zs ++ hexOf ys.length := ⟨_, rfl⟩
          rw [← hz1] at ha1 ⊢
          have hl1 : z1.length ≤ zs.length + 5 := by rw [ha1.len]; have := hexOf_le 5 ys.length (by omega); omega
          have ho1 := ho.app ha1
          have Hz1 := Lib.hid hz1
          clear hrow1 hc1 hf1 hz1 ha1
          go_wp2_with (at_builtin; first
            | (refine wpList_appd rfl _ _ rfl _ z1 (by rfl) (ho1.alloc _).row (some ⟨w1.heap.size, 0, none⟩) 2 2 [13, 10] rfl (by rfl) (Rd.of_block (heap_alloc_new w1 _) rfl) (by omega) ?_; intro A2' c2' w2 z2 ha2; have ho2 := (ho1.alloc _).app ha2; have hl2 : z2.length ≤ z1.length + 2 := (by rw [ha2.len]; simp); have Hz2 := Lib.hid ha2.eq; clear ha2)
            | (refine wpList_appd rfl _ _ rfl _ z2 (by rfl) ho2.row A1 ys.length c1 (ys.take ys.length) Htl.out (by rfl) ((hrd.take ys.length).chg ho2.chg (fun _ _ _ => id)) (by omega) ?_; intro A3' c3' w3 z3 ha3; have ho3 := ho2.app ha3; have hl3 : z3.length ≤ z2.length + 100000 := (by rw [ha3.len, Htl.out]; omega); have Hz3 := Lib.hid ha3.eq; clear ha3)
            | (refine wpList_appd rfl _ _ rfl _ z3 (by rfl) (ho3.alloc _).row (some ⟨w3.heap.size, 0, none⟩) 2 2 [13, 10] rfl (by rfl) (Rd.of_block (heap_alloc_new w3 _) rfl) (by omega) ?_; intro A4' c4' w4 z4 ha4; have ho4 := (ho3.alloc _).app ha4; have Hz4 := Lib.hid ha4.eq; clear ha4))
          go_roundw
          case rel =>
            have hl5 : (ys.drop ys.length).length = ys.length - ys.length := by simp
            exact ⟨⟨_, c1 - ys.length, [], A4', c4', z4, rfl, rfl, Rd.nil _ _, Nat.zero_le _, by omega, Nat.zero_le _, ho4, by rw [Hz4.out, Hz3.out, Hz2.out, Hz1.out, ← Htt.out, Hst.out]; simp [List.append_assoc]⟩⟩
          case measure => simp [slen]; omega
      · have hy0 : ys = [] := List.length_eq_zero_iff.1 (by omega)
        have Hy0 := Lib.hid hy0
        clear hy0
        go_wp2_with (at_builtin; refine wpList_appd rfl _ _ rfl _ zs (by rfl) (ho.alloc _).row (some ⟨wr.heap.size, 0, none⟩) 5 5 lastW rfl (by rfl) (Rd.of_block (heap_alloc_new wr _) rfl) (by omega) ?_; intro A4' c4' w4 z4 ha4; have ho4 := (ho.alloc _).app ha4; have Hz4 := Lib.hid ha4.eq; clear ha4)
        go_ret
        have he : z4 = total := by rw [Hz4.out, ← Htt.out, Hy0.out, chunkW_nil]; rfl
        subst he
        exact ⟨A4', c4', rfl, ho4.row, ho4.chg, ho4.foot⟩
end Go.Proofs.YtkbmajkoojgkpaaDoor
