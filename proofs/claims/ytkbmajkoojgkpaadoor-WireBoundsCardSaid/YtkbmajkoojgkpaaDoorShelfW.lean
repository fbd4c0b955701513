/-
  DERIVED: THE SHELF's CONTRACTS AT THIS DUMP, IN PLAIN WORDS (tools/lay-plain.mjs out of 'YtkbmajkoojgkpaaDoorShelfW.lean', which tools/lay-shelf.mjs wrote): THE SAME DECLARATIONS UNDER THE SAME NAMES: 'import', 'namespace', 'open', 'def', 'theorem' AND NOTHING ELSE: no command of the shelf's: FOR A HAND-IN. Each laying: the table of numbers ('.._ren') and one theorem, a field a fact of the dump's own or the kernel's comparison; each contract: ONE APPLICATION.
-/
import Derived.Shelf.LaysM
import Derived.Shelf.Strings.OnBuilder
import Derived.Shelf.Small.Wraps
import Derived.Shelf.Strings.Prefix
import Derived.Test.YtkbmajkoojgkpaaDoorProg
namespace Go.Proofs
open Go.Shelf
def Tryd.lays159_ren : Go.Shelf.Ren := ⟨fun | 159 => 96 | 165 => 108 | 166 => 109 | 167 => 110 | 169 => 111 | 230 => 112 | 204 => 113 | 240 => 116 | 241 => 117 | 197 => 72 | 118 => 118 | 168 => 119 | 270 => 120 | 262 => 121 | 276 => 122 | 277 => 123 | 260 => 89 | 242 => 124 | 313 => 125 | 278 => 126 | 274 => 127 | 275 => 128 | n => n, fun | 9 => 9 | 4 => 4 | 3 => 3 | 5 => 5 | 72 => 135 | 0 => 0 | 76 => 139 | 75 => 138 | 107 => 144 | 70 => 133 | 20 => 20 | 37 => 22 | 127 => 146 | 21 => 21 | 105 => 99 | 164 => 153 | 162 => 159 | 203 => 157 | 119 => 128 | 46 => 84 | 139 => 131 | 138 => 130 | 51 => 122 | 160 => 160 | 208 => 166 | 206 => 164 | 80 => 142 | n => n, fun | 13 => 6 | 3 => 2 | 4 => 3 | n => n⟩
theorem Tryd.lays159 : Go.Proofs.Lays.n159 Tryd.prog Tryd.lays159_ren := {
  mixed := by kernel_rfl
  f118 := Tryd.func118.trans (congrArg some (by kernel_rfl))
  f159 := Tryd.func96.trans (congrArg some (by kernel_rfl))
  f165 := Tryd.func108.trans (congrArg some (by kernel_rfl))
  f166 := Tryd.func109.trans (congrArg some (by kernel_rfl))
  f167 := Tryd.func110.trans (congrArg some (by kernel_rfl))
  f168 := Tryd.func119.trans (congrArg some (by kernel_rfl))
  f169 := Tryd.func111.trans (congrArg some (by kernel_rfl))
  f197 := Tryd.func72.trans (congrArg some (by kernel_rfl))
  f204 := Tryd.func113.trans (congrArg some (by kernel_rfl))
  f230 := Tryd.func112.trans (congrArg some (by kernel_rfl))
  f240 := Tryd.func116.trans (congrArg some (by kernel_rfl))
  f241 := Tryd.func117.trans (congrArg some (by kernel_rfl))
  f242 := Tryd.func124.trans (congrArg some (by kernel_rfl))
  f260 := Tryd.func89.trans (congrArg some (by kernel_rfl))
  f262 := Tryd.func121.trans (congrArg some (by kernel_rfl))
  f270 := Tryd.func120.trans (congrArg some (by kernel_rfl))
  f274 := Tryd.func127.trans (congrArg some (by kernel_rfl))
  f275 := Tryd.func128.trans (congrArg some (by kernel_rfl))
  f276 := Tryd.func122.trans (congrArg some (by kernel_rfl))
  f277 := Tryd.func123.trans (congrArg some (by kernel_rfl))
  f278 := Tryd.func126.trans (congrArg some (by kernel_rfl))
  f313 := Tryd.func125.trans (congrArg some (by kernel_rfl))
  t0 := Tryd.underlying0
  a0 := Tryd.isAgg0
  z0 := Tryd.sizeOf0
  v0 := Tryd.zeroValue0
  t3 := Tryd.underlying3
  a3 := Tryd.isAgg3
  z3 := Tryd.sizeOf3
  v3 := Tryd.zeroValue3
  t4 := Tryd.underlying4
  a4 := Tryd.isAgg4
  z4 := Tryd.sizeOf4
  v4 := Tryd.zeroValue4
  t5 := Tryd.underlying5
  a5 := Tryd.isAgg5
  z5 := Tryd.sizeOf5
  v5 := Tryd.zeroValue5
  t9 := Tryd.underlying9
  a9 := Tryd.isAgg9
  z9 := Tryd.sizeOf9
  v9 := Tryd.zeroValue9
  t20 := Tryd.underlying20
  a20 := Tryd.isAgg20
  z20 := Tryd.sizeOf20
  v20 := Tryd.zeroValue20
  t21 := Tryd.underlying21
  a21 := Tryd.isAgg21
  z21 := Tryd.sizeOf21
  v21 := Tryd.zeroValue21
  t37 := Tryd.underlying22
  a37 := Tryd.isAgg22
  z37 := Tryd.sizeOf22
  v37 := Tryd.zeroValue22
  t46 := Tryd.underlying84
  a46 := Tryd.isAgg84
  z46 := Tryd.sizeOf84
  v46 := Tryd.zeroValue84
  t51 := Tryd.underlying122
  a51 := Tryd.isAgg122
  z51 := Tryd.sizeOf122
  v51 := Tryd.zeroValue122
  t70 := Tryd.underlying133
  a70 := Tryd.isAgg133
  z70 := Tryd.sizeOf133
  v70 := Tryd.zeroValue133
  t72 := Tryd.underlying135
  a72 := Tryd.isAgg135
  z72 := Tryd.sizeOf135
  v72 := Tryd.zeroValue135
  t75 := Tryd.underlying138
  a75 := Tryd.isAgg138
  z75 := Tryd.sizeOf138
  v75 := Tryd.zeroValue138
  t76 := Tryd.underlying139
  a76 := Tryd.isAgg139
  z76 := Tryd.sizeOf139
  v76 := Tryd.zeroValue139
  t105 := Tryd.underlying99
  a105 := Tryd.isAgg99
  z105 := Tryd.sizeOf99
  v105 := Tryd.zeroValue99
  t107 := Tryd.underlying144
  a107 := Tryd.isAgg144
  z107 := Tryd.sizeOf144
  v107 := Tryd.zeroValue144
  t119 := Tryd.underlying128
  a119 := Tryd.isAgg128
  z119 := Tryd.sizeOf128
  t127 := Tryd.underlying146
  a127 := Tryd.isAgg146
  z127 := Tryd.sizeOf146
  v127 := Tryd.zeroValue146
  t138 := Tryd.underlying130
  a138 := Tryd.isAgg130
  z138 := Tryd.sizeOf130
  v138 := Tryd.zeroValue130
  t139 := Tryd.underlying131
  a139 := Tryd.isAgg131
  z139 := Tryd.sizeOf131
  v139 := Tryd.zeroValue131
  t160 := Tryd.underlying160
  a160 := Tryd.isAgg160
  z160 := Tryd.sizeOf160
  v160 := Tryd.zeroValue160
  t162 := Tryd.underlying159
  a162 := Tryd.isAgg159
  z162 := Tryd.sizeOf159
  v162 := Tryd.zeroValue159
  t164 := Tryd.underlying153
  a164 := Tryd.isAgg153
  z164 := Tryd.sizeOf153
  v164 := Tryd.zeroValue153
  t203 := Tryd.underlying157
  a203 := Tryd.isAgg157
  z203 := Tryd.sizeOf157
  v203 := Tryd.zeroValue157
  t206 := Tryd.underlying164
  a206 := Tryd.isAgg164
  z206 := Tryd.sizeOf164
  v206 := Tryd.zeroValue164
  t208 := Tryd.underlying166
  a208 := Tryd.isAgg166
  z208 := Tryd.sizeOf166
  v208 := Tryd.zeroValue166
  g3 := by kernel_rfl
  g4 := by kernel_rfl
  g13 := by kernel_rfl }
theorem Tryd.Builder_Extra_159 : Builder.Extra Tryd.prog Tryd.lays159_ren := {
  sizeBuilder := by kernel_rfl
  liesBuilder := by kernel_rfl
  t5 := Tryd.underlying5
  a5 := Tryd.isAgg5
  z5 := Tryd.sizeOf5
  v5 := Tryd.zeroValue5
  infoByte := by kernel_rfl
  cellsByte := by kernel_rfl
  sizeByte := by kernel_rfl
  neB5 := by decide }
open Go.RowKit in
/-- strings.ToLower: "ToLower returns s with all Unicode letters mapped to their lower case.": ON ASCII TEXT OF AT MOST 2^47 BYTES. Below the heap's end the world is as it was: where a letter turns, the call makes a builder and its buffer. (LAID: no walk: one application.) -/
theorem Tryd.strings_ToLower_ascii (s : ByteArray) (w : World) (hs : s.size ≤ 140737488355328) (hascii : ∀ (j : Nat) (b : UInt8), s.data.toList[j]? = some b → b.toNat < 128) :
    Calls Tryd.prog 96 #[.string s] w fun e w' => e = .returned (.string ⟨(Lib.toLowerA s.data.toList).toArray⟩) ∧ Below w.heap.size w w' := Any.strings_ToLower_ascii Tryd.lays159 Tryd.Builder_Extra_159 s w hs hascii
def Tryd.lays104_ren : Go.Shelf.Ren := ⟨fun | 104 => 78 | 211 => 94 | 207 => 107 | n => n, fun | 9 => 9 | 4 => 4 | 24 => 103 | 3 => 3 | n => n, fun | n => n⟩
theorem Tryd.lays104 : Go.Proofs.Lays.n104 Tryd.prog Tryd.lays104_ren := {
  mixed := by kernel_rfl
  f104 := Tryd.func78.trans (congrArg some (by kernel_rfl))
  f207 := Tryd.func107.trans (congrArg some (by kernel_rfl))
  f211 := Tryd.func94.trans (congrArg some (by kernel_rfl))
  t3 := Tryd.underlying3
  a3 := Tryd.isAgg3
  z3 := Tryd.sizeOf3
  v3 := Tryd.zeroValue3
  t4 := Tryd.underlying4
  a4 := Tryd.isAgg4
  z4 := Tryd.sizeOf4
  v4 := Tryd.zeroValue4
  t9 := Tryd.underlying9
  a9 := Tryd.isAgg9
  z9 := Tryd.sizeOf9
  v9 := Tryd.zeroValue9
  t24 := Tryd.underlying103
  a24 := Tryd.isAgg103
  z24 := Tryd.sizeOf103
  v24 := Tryd.zeroValue103 }
open Go.RowKit in
/-- strings.CutSuffix: "CutSuffix returns s without the provided ending suffix string and reports whether it found the suffix. If s doesn't end with suffix, CutSuffix returns s, false. If suffix is the empty string, CutSuffix returns s, true.": IT RETURNS '(Lib.trimSuffix s p, Lib.hasSuffix s p)'; the world is as it was. (LAID: no walk: one application.) -/
theorem Tryd.strings_CutSuffix (s p : ByteArray) (w : World) (hs : s.size ≤ 9223372036854775807) :
    Calls Tryd.prog 78 #[.string s, .string p] w fun e w' => e = .returned (.tuple #[.string ⟨(Lib.trimSuffix s.data.toList p.data.toList).toArray⟩, .bool (Lib.hasSuffix s.data.toList p.data.toList)]) ∧ w' = w := Any.strings_CutSuffix Tryd.lays104 s p w hs
end Go.Proofs
