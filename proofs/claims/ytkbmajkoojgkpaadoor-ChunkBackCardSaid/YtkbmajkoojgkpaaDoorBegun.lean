/- begun: the program does something yet. -/
import Derived.Test.YtkbmajkoojgkpaaDoorData
import Derived.Lib.SlBytesConst
namespace Go.Proofs.YtkbmajkoojgkpaaDoor
open Go.RowKit

/-- The bytes that begun feeds. -/
def begunBytes : List UInt8 := [51, 13, 10, 97, 98, 99, 13, 10, 48, 13, 10, 13, 10, 88]
theorem begun_feed : feedF (st0 2 0) begunBytes = (13, 0, { next := 9, left := 0, digits := 0, got := [97, 98, 99], bad := 0 }) := by kernel_rfl
theorem st0_ok : (st0 2 0).Ok := by
  refine ⟨?_, ?_, ?_, ?_, ?_, ?_, ?_, ?_, ?_, ?_, ?_, ?_, ?_⟩ <;> simp [st0]

theorem Body.chg {w w' : World} {g : Nat} {v : Value} {s : St} {S : Nat → Prop} (h : Body w g v s) (hc : Chg w w' S) (hS : ∀ k, Foot g v k → ¬ S k) : Body w' g v s :=
  ⟨h.blk.chg hc (hS g (.inl rfl)), h.row.chg hc (fun k e => hS k (.inr e))⟩
theorem Rd.of_block {w : World} {g : Nat} {cs : Array Value} {t : TypeId} {fr : Nat × Nat} {xs : List UInt8} (hb : w.heap[g]? = some (.cells cs t fr)) (e : cs.toList = Bs xs) : Rd w (some ⟨g, 0, none⟩) xs :=
  ⟨fun _ => ⟨_, rfl, fun j u hu => by
    refine World.news_of_block hb j _ ?_
    rw [e]
    simp [Bs, hu]⟩⟩

set_option maxHeartbeats 1000000 in
theorem begun_any (w : World) : Calls Tryd.prog 14 #[] w fun e w' => e = .returned (.bool true) ∧ Chg w w' (fun _ => False) := by
  have kc := fun (w : World) (C : Array Value) (n c : Nat) => Lib.run_convert_bytes_const (P := Tryd.prog) w 22 5 C n c Tryd.underlying22 Tryd.underlying5
  have hstr : ((str [97, 98, 99]).toList == [97, 98, 99]) = true := by rw [str_toList]; decide
  go_enter Tryd.func14, Tryd.ntmps14
  go_wp2_with (first
    | (go_at_call 21; refine (chunked_any _).mono ?_; rintro e w1 ⟨g, rfl, hg, hb, hc⟩)
    | (go_at_call 22; refine (feed_any g _ (st0 2 0) _ 14 14 begunBytes _ (hb.chg ((Chg.refl w1 (fun _ => False)).alloc _) (fun _ _ => id)) st0_ok (by decide) (Rd.of_block (heap_alloc_new w1 _) rfl) rfl (by decide) ?_).mono ?_; (intro ad e _ hf; rcases hf with hf | hf; (have := hb.blk.lt; simp at e; subst e; simp at hf; omega); (simp [Value.ownBlock] at hf)); rw [begun_feed]; rintro e w2 ⟨rfl, v2, hb2, hc2, hf2⟩)
    | (go_at_call 23; refine (done_any g v2 _ w2 hb2).mono ?_; rintro e w3 ⟨rfl, rfl⟩)
    | (go_at_call 24; refine (data_any g v2 _ w2 hb2 (by decide)).mono ?_; rintro e w3 ⟨A, c, rfl, hr3, hc3, hf3⟩; have hcv := conv_rd w3 A c 3 [97, 98, 99] rfl (Rd.of_row hr3)))
  go_ret
  refine ⟨rfl, (((hc.alloc _).trans hc2 fun i hi e => ?_).trans hc3 fun i hi e => e)⟩
  rcases e with e | e
  · omega
  · simp [Value.ownBlock] at e
end Go.Proofs.YtkbmajkoojgkpaaDoor
