/- WireNone: the closed law that says what a nil wire, and a zero one, answers is true and changes nothing that was there. No condition beside the row's own: the listed tables read as the program's text lays them (the card ties them). -/
import Derived.Test.YtkbmajkoojgkpaaDoorRows
import Derived.Test.YtkbmajkoojgkpaaDoorCards
import Derived.Test.YtkbmajkoojgkpaaDoorTie
import Derived.Test.YtkbmajkoojgkpaaDoorWLaid
import Derived.Test.YtkbmajkoojgkpaaDoorWNoneW
import Derived.ChangeOld
import Derived.ChangeMaps5
import Derived.SevenTiedAt
namespace Go.Proofs.YtkbmajkoojgkpaaDoor.lawWireNone
open Go.ChangeShapes Go.WideShapes Go.ChangeAt Go.RowKit

theorem own : ownKnob Tryd.prog.godebug = none := by kernel_rfl
theorem laidOut : laidOutB Tryd.prog = true := by kernel_rfl
theorem Chg.low {w w' : World} (h : Chg w w' (fun _ => False)) : Below w.heap.size w w' := h.below (Nat.le_refl _) (fun _ _ => id)

set_option maxRecDepth 100000 in
theorem lifted (os : Os) (started : os.Started) (H : Type) (enc : TypeId × Value → H) :
    ReturnsInHanded {} Tryd.checked os 13 .any (fun w args => (Rows.wireNoneSpec.pre enc Tryd.prog Tryd.f13 [] false w args ∧ laidMetH Tryd.prog laidW w) ∧ sizedMet enc Tryd.prog Tryd.f13 (OpenSpec.ofChange Rows.wireNoneSpec) false w args)
      (Rows.wireNoneSpec.post enc Tryd.prog Tryd.f13 false true false false) := by
  refine lifted_shaped (C := Tryd.checked) own started (by kernel_rfl) Tryd.func13
    (ChangeSpec.witness_shaped (enc := enc) (C := Tryd.checked) (os := os) (X := fun w _ => laidMetH Tryd.prog laidW w) false (World.laidAll Tryd.prog os laidW) #[] 8 (World.laidAll_os _ _ _)
      (World.shaped_of_ZipB (by kernel_rfl) (by kernel_rfl)) (by kernel_rfl) (by kernel_rfl) (by kernel_rfl) (laidW_met os _)) ?_
  intro W base args ds gs before hval0 hW hsh
  have hval : ∀ (j : Nat) t v, Tryd.f13.params[j]? = some t → args[j]? = some v → Value.okWide Tryd.prog W .any base t v := hval0
  have hW' := hW
  obtain ⟨p, q, hA0, hV, rfl, hfz, hnd⟩ := hW
  have hA : DataW.TrodAll enc Tryd.prog W 0 (fun _ => true) true Tryd.f13.params.toList args.toList ds p := hA0
  rw [Tryd.params13] at hA hval
  obtain ⟨rfl, rfl, rfl⟩ := trodAll_none hA
  obtain ⟨rfl, rfl⟩ := trodVars_none hV
  obtain ⟨m, hmx⟩ := maxL_of hsh
  clear hA0 hval0
  refine (wnoneW m W hmx).mono fun e W' ⟨he, hc⟩ => ?_
  have bel := Chg.low hc
  subst he
  exact ⟨_, rfl, _, _, _, [], _, [], hW', trodAll_mk1 (shut_bool Tryd.underlying4 _), trodAll_mk0, rfl, bel.frame _, fun h => by cases h⟩

theorem over : Rows.wireNoneRow.holds Tryd.pinned (OpenSpec.ofChange Rows.wireNoneSpec) :=
  OpenClaim.holds_of_wide 13 Tryd.f13 rfl rfl rfl rfl rfl rfl rfl ⟨rfl, rfl, rfl, rfl, rfl⟩ rfl rfl rfl rfl rfl (by kernel_rfl) Tryd.func13 (by kernel_rfl)
    (of_decide_eq_true (by kernel_rfl)) (by unfold Func.isWrapper; first | (rw [if_pos (by decide +kernel)]; kernel_rfl) | (rw [if_neg (by decide +kernel)]; exact ⟨rfl, rfl⟩))
    (fun os started H enc _ => lifted os started H enc)

theorem proved : Rows.WireNoneCardSaid :=
  Claim7.holds_tied_plain_at .later [] [.data, .pinned, .pinned] true (true, "12bf1f6835e937716795c98578cb4e86f841575c4685e651ed6da22154897343") false
    over (fun _ h => by cases h) (by kernel_rfl) (fun _ h => by cases h) wireNone_row_tie rfl ⟨rfl, rfl⟩ (by kernel_rfl) rfl
    (fun f fn hf hfn => by
      obtain rfl : f = 13 := Option.some.inj ((show Tryd.prog.funcNamed "coffer/cofferlaw24.WireNone" = some 13 by kernel_rfl).symm.trans hf) |>.symm
      obtain rfl : fn = Tryd.f13 := (Option.some.inj (Tryd.func13.symm.trans hfn)).symm
      exact ⟨by kernel_rfl, fun j t ht => by
        rw [Tryd.params13] at ht
        simp at ht⟩)
    (by kernel_rfl)
#print axioms proved
end Go.Proofs.YtkbmajkoojgkpaaDoor.lawWireNone
