/- FieldLists: whatever the fields and the name, the law that says how many fields have a name, and which value it has, answers true, and the arguments read as they did. No condition beside the row's own: the listed tables read as the program's text lays them (the card ties them). -/
import Derived.Test.YtkbmajkoojgkpaaDoorRows
import Derived.Test.YtkbmajkoojgkpaaDoorCards
import Derived.Test.YtkbmajkoojgkpaaDoorTie
import Derived.Test.YtkbmajkoojgkpaaDoorFieldLaid
import Derived.Test.YtkbmajkoojgkpaaDoorListsW
import Derived.ChangeOld
import Derived.ChangeMaps5
import Derived.SevenTiedAt
namespace Go.Proofs.YtkbmajkoojgkpaaDoor.lawFieldLists
open Go.ChangeShapes Go.WideShapes Go.ChangeAt Go.RowKit

theorem own : ownKnob Tryd.prog.godebug = none := by kernel_rfl
theorem laidOut : laidOutB Tryd.prog = true := by kernel_rfl
theorem Chg.low {w w' : World} (h : Chg w w' (fun _ => False)) : Below w.heap.size w w' := h.below (Nat.le_refl _) (fun _ _ => id)

set_option maxRecDepth 100000 in
theorem lifted (os : Os) (started : os.Started) (H : Type) (enc : TypeId × Value → H) :
    ReturnsInHanded {} Tryd.checked os 10 .any (fun w args => (Rows.fieldListsSpec.pre enc Tryd.prog Tryd.f10 [] false w args ∧ laidMetH Tryd.prog laidU w) ∧ sizedMet enc Tryd.prog Tryd.f10 (OpenSpec.ofChange Rows.fieldListsSpec) false w args)
      (Rows.fieldListsSpec.post enc Tryd.prog Tryd.f10 false true false false) := by
  refine lifted_shaped (C := Tryd.checked) own started (by kernel_rfl) Tryd.func10
    (ChangeSpec.witness_shaped (enc := enc) (C := Tryd.checked) (os := os) (X := fun w _ => laidMetH Tryd.prog laidU w) false (World.laidAll Tryd.prog os laidU) #[.slice none 0 0, .string ⟨#[]⟩] 8 (World.laidAll_os _ _ _)
      (World.shaped_of_ZipB (by kernel_rfl) (by kernel_rfl)) (by kernel_rfl) (by kernel_rfl) (by kernel_rfl) (laidU_met os _)) ?_
  intro W base args ds gs before hval0 hW hsh
  have hval : ∀ (j : Nat) t v, Tryd.f10.params[j]? = some t → args[j]? = some v → Value.okWide Tryd.prog W .any base t v := hval0
  have hW' := hW
  obtain ⟨p, q, hA0, hV, rfl, hfz, hnd⟩ := hW
  have hA : DataW.TrodAll enc Tryd.prog W 0 (fun _ => true) true Tryd.f10.params.toList args.toList ds p := hA0
  rw [Tryd.params10] at hA hval
  obtain ⟨v0, vs0, d0, ds0, p0, q0, hargs, rfl, rfl, h0, r0⟩ := trodAll_cons hA
  obtain ⟨v1, vs1, d1, ds1, p1, q1, rfl, rfl, rfl, h1, r1⟩ := trodAll_cons r0
  obtain ⟨rfl, rfl, rfl⟩ := trodAll_nil r1
  obtain rfl : args = #[v0, v1] := by cases args; simp_all
  obtain ⟨rfl, rfl⟩ := trodVars_none hV
  obtain ⟨a0, len0, cap0, rfl⟩ := okWide_slice Tryd.underlying52 (hval 0 52 v0 rfl rfl)
  have k0 := h0
  have lt0 : ∀ x ∈ p0, x.block < W.heap.size := by obtain ⟨m, hm⟩ := k0; exact DataW.trod_lt m _ _ _ hm
  obtain ⟨f0, hf0⟩ := h0
  obtain ⟨fs0, hn0, hr0⟩ := open_fields hf0
  obtain ⟨s1, rfl, rfl, rfl, hw1⟩ := Go.ChangeMaps.open_string Tryd.underlying9 (hval 1 9 v1 rfl rfl) h1
  have k1 := h1
  have lt1 : ∀ x ∈ ([] : List MemPlace), x.block < W.heap.size := fun _ hx => by cases hx
  obtain ⟨m, hmx⟩ := maxL_of hsh
  clear hA0 hval0
  refine (listsW a0 len0 cap0 fs0 s1.data.toList m W hmx hn0 hr0).mono fun e W' ⟨he, hc⟩ => ?_
  have bel := Chg.low hc
  subst he
  exact ⟨_, rfl, _, _, _, [], _, [], hW', trodAll_mk1 (shut_bool Tryd.underlying4 _), (trodAll_cons_mk (Below.trod laidOut (by kernel_rfl) (of_decide_eq_true (by kernel_rfl)) k0 bel lt0) (trodAll_cons_mk (Below.trod laidOut (by kernel_rfl) (of_decide_eq_true (by kernel_rfl)) k1 bel lt1) trodAll_mk0)), rfl, bel.frame _, fun h => by cases h⟩

theorem over : Rows.fieldListsRow.holds Tryd.pinned (OpenSpec.ofChange Rows.fieldListsSpec) :=
  OpenClaim.holds_of_wide 10 Tryd.f10 rfl rfl rfl rfl rfl rfl rfl ⟨rfl, rfl, rfl, rfl, rfl⟩ rfl rfl rfl rfl rfl (by kernel_rfl) Tryd.func10 (by kernel_rfl)
    (of_decide_eq_true (by kernel_rfl)) (by unfold Func.isWrapper; first | (rw [if_pos (by decide +kernel)]; kernel_rfl) | (rw [if_neg (by decide +kernel)]; exact ⟨rfl, rfl⟩))
    (fun os started H enc _ => lifted os started H enc)

theorem proved : Rows.FieldListsCardSaid :=
  Claim7.holds_tied_plain_at .later [] [.data, .pinned] true (true, "12bf1f6835e937716795c98578cb4e86f841575c4685e651ed6da22154897343") false
    over (fun _ h => by cases h) (by kernel_rfl) (fun _ h => by cases h) fieldLists_row_tie rfl ⟨rfl, rfl⟩ (by kernel_rfl) rfl
    (fun f fn hf hfn => by
      obtain rfl : f = 10 := Option.some.inj ((show Tryd.prog.funcNamed "coffer/cofferlaw22.FieldLists" = some 10 by kernel_rfl).symm.trans hf) |>.symm
      obtain rfl : fn = Tryd.f10 := (Option.some.inj (Tryd.func10.symm.trans hfn)).symm
      exact ⟨by kernel_rfl, fun j t ht => by
        rw [Tryd.params10] at ht
        have hm : t ∈ [52, 9] := by simpa using Array.mem_of_getElem? ht
        have hall : ([52, 9].all fun u => !Tryd.prog.wantsStandIn u) = true := by kernel_rfl
        exact (show Tryd.prog.wantsStandIn t = false by simpa using List.all_eq_true.1 hall t hm)⟩)
    (by kernel_rfl)
#print axioms proved
end Go.Proofs.YtkbmajkoojgkpaaDoor.lawFieldLists
