/- The walk of FieldLists, and its argument opened. -/
import Derived.Test.YtkbmajkoojgkpaaDoorField5
import Derived.Test.YtkbmajkoojgkpaaDoorField8
import Derived.Deep.Slices
import Derived.ProofKit
import Derived.OpenShut
import Derived.ChangeOld
import Derived.ChangeMaps5
namespace Go.Proofs.YtkbmajkoojgkpaaDoor
open Go.RowKit

theorem getV_form (name : List UInt8) (fs : List Fld) : ∃ (v : List UInt8) (z : Int), getV name fs = .tuple #[.string (str v), .int .i64 z] := by
  unfold getV
  split
  · exact ⟨[], 5, rfl⟩
  · split
    · exact ⟨_, 0, rfl⟩
    · exact ⟨[], 6, rfl⟩

set_option maxHeartbeats 4000000 in
set_option maxRecDepth 100000 in
theorem listsW (A : Option Addr) (n c : Nat) (fs : List Fld) (name : List UInt8) (m : Int) (w : World) (hm : MaxL w m) (hn : fs.length = n) (hr : RdF w A fs) :
    Calls Tryd.prog 10 #[.slice A n c, .string (str name)] w fun e w' => e = .returned (.bool true) ∧ Chg w w' (fun _ => False) := by
  subst hn
  have hsz := str_size name
  go_enter Tryd.func10, Tryd.ntmps10
  go_wp2_with fail
  refine (begun22_any m w hm).mono ?_
  rintro e w1 ⟨rfl, hc1⟩
  by_cases hl1 : fs.length ≤ 60
  case neg =>
    go_wp2
    go_ret
    exact ⟨rfl, hc1⟩
  by_cases hl2 : name.length ≤ 200
  case neg =>
    go_wp2
    go_ret
    exact ⟨rfl, hc1⟩
  obtain ⟨v, z, hv⟩ := getV_form name fs
  have hr1 := hr.chg hc1 (fun _ _ => id)
  have hg := get_any A fs.length c fs name w1 rfl hr1 (by omega)
  have hrg := fun (wz : World) (h : RdF wz A fs) => ref_get_any A fs.length c fs name wz rfl h (by omega)
  have hco := fun (wz : World) (h : RdF wz A fs) => count_any A fs.length c fs name wz rfl h (by omega)
  have hrc := fun (wz : World) (h : RdF wz A fs) => ref_count_any A fs.length c fs name wz rfl h (by omega)
  rw [hv] at hg hrg
  clear hv
  generalize cntF name fs = q at *
  have hs2 : ((str v).toList == (str v).toList) = true := by simp
  go_wp2_with fail
  refine hg.mono ?_
  rintro e w2 ⟨rfl, hc2⟩
  have hr2 := hr1.chg hc2 (fun _ _ => id)
  go_wp2_with fail
  refine (hrg _ hr2).mono ?_
  rintro e w3 ⟨rfl, rfl⟩
  go_wp2_with (first | (go_at_call 34; refine (hco _ hr2).mono ?_; rintro e w4 ⟨rfl, hc4⟩) | (go_at_call 35; refine (hrc _ (hr2.chg hc4 (fun _ _ => id))).mono ?_; rintro e w5 ⟨rfl, rfl⟩))
  go_ret
  exact ⟨by simp, (hc1.trans hc2 (fun _ _ h => h)).trans hc4 (fun _ _ h => h)⟩

section
open Go.ChangeShapes Go.WideShapes Go.ChangeAt
variable {H : Type} {enc : TypeId × Value → H} {W : World} {base : Nat} {spare : Nat → Bool} {held : Bool}
theorem open_field {cs : List Value} {fuel : Nat} {x : DataW H × List MemPlace} (h : DataW.trod enc Tryd.prog W base spare held fuel 42 cs = some x) :
    ∃ a b : List UInt8, cs = [.string (str a), .string (str b)] := by
  have c2 : Tryd.prog.cellsOf 42 = 2 := by kernel_rfl
  have c9 : Tryd.prog.cellsOf 9 = 1 := by kernel_rfl
  obtain ⟨y0, y1, n, _, hl, h0, h1⟩ := trod_struct2 Tryd.underlying42 h
  rw [c2] at hl
  simp only [c9] at h0 h1
  obtain ⟨s0, e0, _⟩ := DataW.trod_string Tryd.underlying9 h0
  obtain ⟨s1, e1, _⟩ := DataW.trod_string Tryd.underlying9 h1
  match cs, hl with
  | [a0, a1], _ =>
    simp at e0 e1
    subst e0 e1
    exact ⟨s0.data.toList, s1.data.toList, rfl⟩
theorem open_fields {a : Option Addr} {len cap fuel : Nat} {x : DataW H × List MemPlace} (h : DataW.trod enc Tryd.prog W base spare held fuel 52 [.slice a len cap] = some x) :
    ∃ fs : List Fld, fs.length = len ∧ RdF W a fs := by
  have c2 : Tryd.prog.cellsOf 42 = 2 := by kernel_rfl
  rcases Go.Deep.open_slice Tryd.underlying52 h with ⟨hcs, _⟩ | ⟨x, l, c, m, n, D, Pl, hcs, _, hl, hm, hmm, _, hx⟩
  · simp at hcs
    obtain ⟨rfl, rfl, rfl⟩ := hcs
    exact ⟨[], rfl, ⟨fun h => absurd h (by simp)⟩⟩
  · simp at hcs
    obtain ⟨rfl, rfl, rfl⟩ := hcs
    have hlm : len ≤ m := by rw [hmm]; split <;> omega
    rw [c2] at hx
    obtain ⟨f, hf⟩ := Go.Deep.choose_lt (α := Fld) (p := fun i p => W.cells? base (x.add (i * 2)) 2 = some [.string (str p.1), .string (str p.2)]) (n := len) (fun i hi => by
      obtain ⟨cs, h1, h2⟩ := hx i (by omega)
      obtain ⟨p1, p2, rfl⟩ := open_field h2
      exact ⟨(p1, p2), h1⟩)
    refine ⟨(List.range len).map f, by simp, ⟨fun _ => ⟨x, rfl, fun j hj => ?_⟩⟩⟩
    have hj' : j < len := by simpa using hj
    have hc := hf j hj'
    obtain ⟨_, hlen, hcell⟩ := World.cells?_some hc
    simp only [List.getElem_map, List.getElem_range]
    have e0 : (x.add (j * 2)).add 0 = x.add (j * 2) := by simp [Addr.add]
    have h0 := hcell 0 (by decide)
    rw [e0] at h0
    exact ⟨h0, hcell 1 (by decide)⟩
end
end Go.Proofs.YtkbmajkoojgkpaaDoor
