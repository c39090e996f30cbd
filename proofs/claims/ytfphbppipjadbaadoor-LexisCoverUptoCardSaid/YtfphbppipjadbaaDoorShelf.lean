/-
  DERIVED: THE SHELF's CONTRACTS AT THIS DUMP, IN PLAIN WORDS (tools/lay-plain.mjs out of 'TrydShelf.lean', which tools/lay-shelf.mjs wrote): THE SAME DECLARATIONS UNDER THE SAME NAMES: 'import', 'namespace', 'open', 'def', 'theorem' AND NOTHING ELSE: no command of the shelf's: FOR A HAND-IN. Each laying: the table of numbers ('.._ren') and one theorem, a field a fact of the dump's own or the kernel's comparison; each contract: ONE APPLICATION.
-/
import Derived.Shelf.Strings.Prefix
import Derived.Shelf.Strings.Fields
import Derived.Test.YtfphbppipjadbaaDoorProg
namespace Go.Proofs
open Go.Shelf
def Tryd.lays99_ren : Go.Shelf.Ren := ⟨fun | 99 => 82 | 206 => 104 | n => n, fun | 9 => 9 | 4 => 4 | 3 => 3 | n => n, fun | n => n⟩
theorem Tryd.lays99 : Go.Proofs.Lays.n99 Tryd.prog Tryd.lays99_ren := {
  mixed := by kernel_rfl
  f99 := Tryd.func82.trans (congrArg some (by kernel_rfl))
  f206 := Tryd.func104.trans (congrArg some (by kernel_rfl))
  t3 := Tryd.underlying3
  a3 := Tryd.isAgg3
  z3 := Tryd.sizeOf3
  v3 := Tryd.zeroValue3
  t4 := Tryd.underlying4
  a4 := Tryd.isAgg4
  z4 := Tryd.sizeOf4
  v4 := Tryd.zeroValue4
  t9 := Tryd.underlying9
  a9 := Tryd.isAgg9
  z9 := Tryd.sizeOf9
  v9 := Tryd.zeroValue9 }
open Go.RowKit Go.Lib in
/-- strings.HasPrefix: "HasPrefix reports whether the string s begins with prefix.": IT RETURNS 'Lib.hasPrefix s prefix'; the world is as it was. (LAID: no walk: one application.) -/
theorem Tryd.strings_HasPrefix (s p : ByteArray) (w : World) :
    Calls Tryd.prog 82 #[.string s, .string p] w fun e w' => e = .returned (.bool (Lib.hasPrefix s.data.toList p.data.toList)) ∧ w' = w := Any.strings_HasPrefix Tryd.lays99 s p w
def Tryd.lays157_ren : Go.Shelf.Ren := ⟨fun | 157 => 81 | 229 => 102 | 199 => 103 | 261 => 123 | 311 => 141 | 312 => 142 | n => n, fun | 9 => 9 | 31 => 35 | 3 => 3 | 5 => 5 | 4 => 4 | 119 => 174 | 0 => 0 | 40 => 200 | 152 => 217 | 21 => 21 | 154 => 219 | 51 => 220 | 141 => 222 | 196 => 237 | 193 => 234 | 198 => 240 | 49 => 238 | 194 => 235 | 201 => 243 | 226 => 248 | 46 => 178 | 227 => 249 | n => n, fun | 0 => 4 | 6 => 6 | n => n⟩
theorem Tryd.lays157 : Go.Proofs.Lays.n157 Tryd.prog Tryd.lays157_ren := {
  mixed := by kernel_rfl
  f157 := Tryd.func81.trans (congrArg some (by kernel_rfl))
  f199 := Tryd.func103.trans (congrArg some (by kernel_rfl))
  f229 := Tryd.func102.trans (congrArg some (by kernel_rfl))
  f261 := Tryd.func123.trans (congrArg some (by kernel_rfl))
  f311 := Tryd.func141.trans (congrArg some (by kernel_rfl))
  f312 := Tryd.func142.trans (congrArg some (by kernel_rfl))
  t0 := Tryd.underlying0
  a0 := Tryd.isAgg0
  z0 := Tryd.sizeOf0
  v0 := Tryd.zeroValue0
  t3 := Tryd.underlying3
  a3 := Tryd.isAgg3
  z3 := Tryd.sizeOf3
  v3 := Tryd.zeroValue3
  t4 := Tryd.underlying4
  a4 := Tryd.isAgg4
  z4 := Tryd.sizeOf4
  v4 := Tryd.zeroValue4
  t5 := Tryd.underlying5
  a5 := Tryd.isAgg5
  z5 := Tryd.sizeOf5
  v5 := Tryd.zeroValue5
  t9 := Tryd.underlying9
  a9 := Tryd.isAgg9
  z9 := Tryd.sizeOf9
  v9 := Tryd.zeroValue9
  t21 := Tryd.underlying21
  a21 := Tryd.isAgg21
  z21 := Tryd.sizeOf21
  v21 := Tryd.zeroValue21
  t31 := Tryd.underlying35
  a31 := Tryd.isAgg35
  z31 := Tryd.sizeOf35
  v31 := Tryd.zeroValue35
  t40 := Tryd.underlying200
  a40 := Tryd.isAgg200
  z40 := Tryd.sizeOf200
  v40 := Tryd.zeroValue200
  t46 := Tryd.underlying178
  a46 := Tryd.isAgg178
  z46 := Tryd.sizeOf178
  v46 := Tryd.zeroValue178
  t49 := Tryd.underlying238
  a49 := Tryd.isAgg238
  z49 := Tryd.sizeOf238
  v49 := Tryd.zeroValue238
  t51 := Tryd.underlying220
  a51 := Tryd.isAgg220
  z51 := Tryd.sizeOf220
  v51 := Tryd.zeroValue220
  t119 := Tryd.underlying174
  a119 := Tryd.isAgg174
  z119 := Tryd.sizeOf174
  t141 := Tryd.underlying222
  a141 := Tryd.isAgg222
  z141 := Tryd.sizeOf222
  v141 := Tryd.zeroValue222
  t152 := Tryd.underlying217
  a152 := Tryd.isAgg217
  z152 := Tryd.sizeOf217
  v152 := Tryd.zeroValue217
  t154 := Tryd.underlying219
  a154 := Tryd.isAgg219
  z154 := Tryd.sizeOf219
  v154 := Tryd.zeroValue219
  t193 := Tryd.underlying234
  a193 := Tryd.isAgg234
  z193 := Tryd.sizeOf234
  v193 := Tryd.zeroValue234
  t194 := Tryd.underlying235
  a194 := Tryd.isAgg235
  z194 := Tryd.sizeOf235
  v194 := Tryd.zeroValue235
  t196 := Tryd.underlying237
  a196 := Tryd.isAgg237
  z196 := Tryd.sizeOf237
  v196 := Tryd.zeroValue237
  t198 := Tryd.underlying240
  a198 := Tryd.isAgg240
  z198 := Tryd.sizeOf240
  v198 := Tryd.zeroValue240
  t201 := Tryd.underlying243
  a201 := Tryd.isAgg243
  z201 := Tryd.sizeOf243
  v201 := Tryd.zeroValue243
  t226 := Tryd.underlying248
  a226 := Tryd.isAgg248
  z226 := Tryd.sizeOf248
  v226 := Tryd.zeroValue248
  t227 := Tryd.underlying249
  a227 := Tryd.isAgg249
  z227 := Tryd.sizeOf249
  v227 := Tryd.zeroValue249
  g0 := by kernel_rfl
  g6 := by kernel_rfl }
open Go.RowKit Go.Lib in
/-- strings.Fields, the table by 'Lib.TabIs' (as strings.TrimSpace's contract). 'hg': the table's number, by its name: at a dump 'by kernel_rfl'. (LAID: no walk: one application.) -/
theorem Tryd.strings_Fields (s : ByteArray) (w : World) (hs : s.size < 4294967281) (hascii : ∀ (j : Nat) b, s.data.toList[j]? = some b → b.toNat < 128) (htab : Lib.TabIs Tryd.prog w "strings.asciiSpace" .u8 Lib.asciiSpaceTab) :
    Calls Tryd.prog 81 #[.string s] w fun e w' =>
      e = .returned (.slice (some ⟨w.heap.size, 0, none⟩) (Lib.fields s.data.toList).length (Lib.fields s.data.toList).length) ∧ w' = w.alloc (.cells ((Lib.fields s.data.toList).map fun l => Value.string ⟨l.toArray⟩).toArray 9) := Any.strings_Fields Tryd.lays157 (by kernel_rfl) (by kernel_rfl) s w hs hascii htab
end Go.Proofs
