/- A drawn region walked by hand: the condition on the world may be made stronger on the way. -/
import Derived.Deep.RegionHeld3
import Derived.Test.YtkbmajkoojgkpaaDoorProg
namespace Go.Proofs.YtkbmajkoojgkpaaDoor

theorem wpAnyH_stronger {P : Program} {md : Region.Mode} {ops : Array Oper} {Q : Exit → Act → World → Prop} {S S' : World → Prop} (hs : ∀ w, S' w → S w) :
    ∀ (fuel : Nat) (listed : Array Bool) (a : Act) (w : World), wpAnyH P md ops Q S' fuel listed a w → wpAnyH P md ops Q S fuel listed a w
  | 0, _, _, _, h => h
  | fuel + 1, _, _, _, h => ⟨h.1, fun i hi => wpOp_mono (fun a' w' h' => ⟨hs _ h'.1, wpAnyH_stronger hs fuel _ a' w' h'.2⟩) (h.2 i hi)⟩
end Go.Proofs.YtkbmajkoojgkpaaDoor
