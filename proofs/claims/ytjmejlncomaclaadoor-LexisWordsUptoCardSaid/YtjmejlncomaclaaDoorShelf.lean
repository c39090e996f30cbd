/-
  DERIVED: THE SHELF's CONTRACTS AT THIS DUMP, IN PLAIN WORDS (tools/lay-plain.mjs out of 'TrydShelf.lean', which tools/lay-shelf.mjs wrote): THE SAME DECLARATIONS UNDER THE SAME NAMES: 'import', 'namespace', 'open', 'def', 'theorem' AND NOTHING ELSE: no command of the shelf's: FOR A HAND-IN. Each laying: the table of numbers ('.._ren') and one theorem, a field a fact of the dump's own or the kernel's comparison; each contract: ONE APPLICATION.
-/
import Derived.Shelf.Strings.Prefix
import Derived.Shelf.Strings.Fields
import Derived.Test.YtjmejlncomaclaaDoorProg
namespace Go.Proofs
open Go.Shelf
def Tryd.lays99_ren : Go.Shelf.Ren := ⟨fun | 99 => 64 | 206 => 75 | n => n, fun | 9 => 9 | 4 => 4 | 3 => 3 | n => n, fun | n => n⟩
theorem Tryd.lays99 : Go.Proofs.Lays.n99 Tryd.prog Tryd.lays99_ren := {
  mixed := by kernel_rfl
  f99 := Tryd.func64.trans (congrArg some (by kernel_rfl))
  f206 := Tryd.func75.trans (congrArg some (by kernel_rfl))
  t3 := Tryd.underlying3
  a3 := Tryd.isAgg3
  z3 := Tryd.sizeOf3
  v3 := Tryd.zeroValue3
  t4 := Tryd.underlying4
  a4 := Tryd.isAgg4
  z4 := Tryd.sizeOf4
  v4 := Tryd.zeroValue4
  t9 := Tryd.underlying9
  a9 := Tryd.isAgg9
  z9 := Tryd.sizeOf9
  v9 := Tryd.zeroValue9 }
open Go.RowKit Go.Lib in
/-- strings.HasPrefix: "HasPrefix reports whether the string s begins with prefix.": IT RETURNS 'Lib.hasPrefix s prefix'; the world is as it was. (LAID: no walk: one application.) -/
theorem Tryd.strings_HasPrefix (s p : ByteArray) (w : World) :
    Calls Tryd.prog 64 #[.string s, .string p] w fun e w' => e = .returned (.bool (Lib.hasPrefix s.data.toList p.data.toList)) ∧ w' = w := Any.strings_HasPrefix Tryd.lays99 s p w
def Tryd.lays157_ren : Go.Shelf.Ren := ⟨fun | 157 => 63 | 229 => 73 | 199 => 74 | 261 => 86 | 311 => 94 | 312 => 95 | n => n, fun | 9 => 9 | 31 => 24 | 3 => 3 | 5 => 5 | 4 => 4 | 119 => 129 | 0 => 0 | 40 => 146 | 152 => 157 | 21 => 21 | 154 => 159 | 51 => 160 | 141 => 162 | 196 => 172 | 193 => 169 | 198 => 175 | 49 => 173 | 194 => 170 | 201 => 178 | 226 => 181 | 46 => 133 | 227 => 182 | n => n, fun | 0 => 4 | 6 => 6 | n => n⟩
theorem Tryd.lays157 : Go.Proofs.Lays.n157 Tryd.prog Tryd.lays157_ren := {
  mixed := by kernel_rfl
  f157 := Tryd.func63.trans (congrArg some (by kernel_rfl))
  f199 := Tryd.func74.trans (congrArg some (by kernel_rfl))
  f229 := Tryd.func73.trans (congrArg some (by kernel_rfl))
  f261 := Tryd.func86.trans (congrArg some (by kernel_rfl))
  f311 := Tryd.func94.trans (congrArg some (by kernel_rfl))
  f312 := Tryd.func95.trans (congrArg some (by kernel_rfl))
  t0 := Tryd.underlying0
  a0 := Tryd.isAgg0
  z0 := Tryd.sizeOf0
  v0 := Tryd.zeroValue0
  t3 := Tryd.underlying3
  a3 := Tryd.isAgg3
  z3 := Tryd.sizeOf3
  v3 := Tryd.zeroValue3
  t4 := Tryd.underlying4
  a4 := Tryd.isAgg4
  z4 := Tryd.sizeOf4
  v4 := Tryd.zeroValue4
  t5 := Tryd.underlying5
  a5 := Tryd.isAgg5
  z5 := Tryd.sizeOf5
  v5 := Tryd.zeroValue5
  t9 := Tryd.underlying9
  a9 := Tryd.isAgg9
  z9 := Tryd.sizeOf9
  v9 := Tryd.zeroValue9
  t21 := Tryd.underlying21
  a21 := Tryd.isAgg21
  z21 := Tryd.sizeOf21
  v21 := Tryd.zeroValue21
  t31 := Tryd.underlying24
  a31 := Tryd.isAgg24
  z31 := Tryd.sizeOf24
  v31 := Tryd.zeroValue24
  t40 := Tryd.underlying146
  a40 := Tryd.isAgg146
  z40 := Tryd.sizeOf146
  v40 := Tryd.zeroValue146
  t46 := Tryd.underlying133
  a46 := Tryd.isAgg133
  z46 := Tryd.sizeOf133
  v46 := Tryd.zeroValue133
  t49 := Tryd.underlying173
  a49 := Tryd.isAgg173
  z49 := Tryd.sizeOf173
  v49 := Tryd.zeroValue173
  t51 := Tryd.underlying160
  a51 := Tryd.isAgg160
  z51 := Tryd.sizeOf160
  v51 := Tryd.zeroValue160
  t119 := Tryd.underlying129
  a119 := Tryd.isAgg129
  z119 := Tryd.sizeOf129
  t141 := Tryd.underlying162
  a141 := Tryd.isAgg162
  z141 := Tryd.sizeOf162
  v141 := Tryd.zeroValue162
  t152 := Tryd.underlying157
  a152 := Tryd.isAgg157
  z152 := Tryd.sizeOf157
  v152 := Tryd.zeroValue157
  t154 := Tryd.underlying159
  a154 := Tryd.isAgg159
  z154 := Tryd.sizeOf159
  v154 := Tryd.zeroValue159
  t193 := Tryd.underlying169
  a193 := Tryd.isAgg169
  z193 := Tryd.sizeOf169
  v193 := Tryd.zeroValue169
  t194 := Tryd.underlying170
  a194 := Tryd.isAgg170
  z194 := Tryd.sizeOf170
  v194 := Tryd.zeroValue170
  t196 := Tryd.underlying172
  a196 := Tryd.isAgg172
  z196 := Tryd.sizeOf172
  v196 := Tryd.zeroValue172
  t198 := Tryd.underlying175
  a198 := Tryd.isAgg175
  z198 := Tryd.sizeOf175
  v198 := Tryd.zeroValue175
  t201 := Tryd.underlying178
  a201 := Tryd.isAgg178
  z201 := Tryd.sizeOf178
  v201 := Tryd.zeroValue178
  t226 := Tryd.underlying181
  a226 := Tryd.isAgg181
  z226 := Tryd.sizeOf181
  v226 := Tryd.zeroValue181
  t227 := Tryd.underlying182
  a227 := Tryd.isAgg182
  z227 := Tryd.sizeOf182
  v227 := Tryd.zeroValue182
  g0 := by kernel_rfl
  g6 := by kernel_rfl }
open Go.RowKit Go.Lib in
/-- strings.Fields, the table by 'Lib.TabIs' (as strings.TrimSpace's contract). 'hg': the table's number, by its name: at a dump 'by kernel_rfl'. (LAID: no walk: one application.) -/
theorem Tryd.strings_Fields (s : ByteArray) (w : World) (hs : s.size < 4294967281) (hascii : ∀ (j : Nat) b, s.data.toList[j]? = some b → b.toNat < 128) (htab : Lib.TabIs Tryd.prog w "strings.asciiSpace" .u8 Lib.asciiSpaceTab) :
    Calls Tryd.prog 63 #[.string s] w fun e w' =>
      e = .returned (.slice (some ⟨w.heap.size, 0, none⟩) (Lib.fields s.data.toList).length (Lib.fields s.data.toList).length) ∧ w' = w.alloc (.cells ((Lib.fields s.data.toList).map fun l => Value.string ⟨l.toArray⟩).toArray 9) := Any.strings_Fields Tryd.lays157 (by kernel_rfl) (by kernel_rfl) s w hs hascii htab
end Go.Proofs
