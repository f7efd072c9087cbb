/-
  DERIVED: THE SHELF's CONTRACTS AT THIS DUMP, IN PLAIN WORDS (tools/lay-plain.mjs out of 'TrydShelfS.lean', which tools/lay-shelf.mjs wrote): THE SAME DECLARATIONS UNDER THE SAME NAMES: 'import', 'namespace', 'open', 'def', 'theorem' AND NOTHING ELSE: no command of the shelf's: FOR A HAND-IN. Each laying: the table of numbers ('.._ren') and one theorem, a field a fact of the dump's own or the kernel's comparison; each contract: ONE APPLICATION.
-/
import Derived.Shelf.Strings.Builder1
import Derived.Shelf.Strings.Search1
import Derived.Shelf.Strings.Count
import Derived.Shelf.Strings.OnBuilder
import Derived.Test.YtcpjmlcfjgbgeaaDoorProg
namespace Go.Proofs
open Go.Shelf
def Tryd.lays156_ren : Go.Shelf.Ren := ⟨fun | 156 => 79 | 165 => 121 | 166 => 122 | 169 => 123 | 240 => 145 | 241 => 146 | 276 => 171 | 277 => 172 | n => n, fun | 31 => 139 | 9 => 9 | 3 => 3 | 4 => 4 | 0 => 0 | 20 => 20 | 72 => 200 | 76 => 203 | 70 => 197 | 37 => 198 | 75 => 202 | 127 => 235 | 164 => 261 | 5 => 5 | 80 => 205 | n => n, fun | n => n⟩
theorem Tryd.lays156 : Go.Proofs.Lays.n156 Tryd.prog Tryd.lays156_ren := {
  mixed := by kernel_rfl
  f156 := Tryd.func79.trans (congrArg some (by kernel_rfl))
  f165 := Tryd.func121.trans (congrArg some (by kernel_rfl))
  f166 := Tryd.func122.trans (congrArg some (by kernel_rfl))
  f169 := Tryd.func123.trans (congrArg some (by kernel_rfl))
  f240 := Tryd.func145.trans (congrArg some (by kernel_rfl))
  f241 := Tryd.func146.trans (congrArg some (by kernel_rfl))
  f276 := Tryd.func171.trans (congrArg some (by kernel_rfl))
  f277 := Tryd.func172.trans (congrArg some (by kernel_rfl))
  t0 := Tryd.underlying0
  a0 := Tryd.isAgg0
  z0 := Tryd.sizeOf0
  v0 := Tryd.zeroValue0
  t3 := Tryd.underlying3
  a3 := Tryd.isAgg3
  z3 := Tryd.sizeOf3
  v3 := Tryd.zeroValue3
  t4 := Tryd.underlying4
  a4 := Tryd.isAgg4
  z4 := Tryd.sizeOf4
  v4 := Tryd.zeroValue4
  t9 := Tryd.underlying9
  a9 := Tryd.isAgg9
  z9 := Tryd.sizeOf9
  v9 := Tryd.zeroValue9
  t20 := Tryd.underlying20
  a20 := Tryd.isAgg20
  z20 := Tryd.sizeOf20
  v20 := Tryd.zeroValue20
  t31 := Tryd.underlying139
  a31 := Tryd.isAgg139
  z31 := Tryd.sizeOf139
  v31 := Tryd.zeroValue139
  t37 := Tryd.underlying198
  a37 := Tryd.isAgg198
  z37 := Tryd.sizeOf198
  v37 := Tryd.zeroValue198
  t70 := Tryd.underlying197
  a70 := Tryd.isAgg197
  z70 := Tryd.sizeOf197
  v70 := Tryd.zeroValue197
  t72 := Tryd.underlying200
  a72 := Tryd.isAgg200
  z72 := Tryd.sizeOf200
  v72 := Tryd.zeroValue200
  t75 := Tryd.underlying202
  a75 := Tryd.isAgg202
  z75 := Tryd.sizeOf202
  v75 := Tryd.zeroValue202
  t76 := Tryd.underlying203
  a76 := Tryd.isAgg203
  z76 := Tryd.sizeOf203
  v76 := Tryd.zeroValue203
  t127 := Tryd.underlying235
  a127 := Tryd.isAgg235
  z127 := Tryd.sizeOf235
  v127 := Tryd.zeroValue235
  t164 := Tryd.underlying261
  a164 := Tryd.isAgg261
  z164 := Tryd.sizeOf261
  v164 := Tryd.zeroValue261 }
theorem Tryd.Builder_Extra_156 : Builder.Extra Tryd.prog Tryd.lays156_ren := {
  sizeBuilder := by kernel_rfl
  liesBuilder := by kernel_rfl
  t5 := Tryd.underlying5
  a5 := Tryd.isAgg5
  z5 := Tryd.sizeOf5
  v5 := Tryd.zeroValue5
  infoByte := by kernel_rfl
  cellsByte := by kernel_rfl
  sizeByte := by kernel_rfl
  neB5 := by decide }
open Go.RowKit in
/-- strings.Join: "Join concatenates the elements of its first argument to create a single string. The separator string sep is placed between elements in the resulting string.": HOWEVER MANY ELEMENTS. Below the heap's end the world is as it was. (LAID: no walk: one application.) -/
theorem Tryd.strings_Join (bk o c : Nat) (xs : List ByteArray) (sep : ByteArray) (w : World) (hcells : ∀ (j : Nat) x, xs[j]? = some x → w.cell? ⟨bk, o + j, none⟩ = some (.string x)) (hbk : bk < w.heap.size) (hN : xs.length ≤ 140737488355328) (hcap : xs.length ≤ c) (hlen : (Lib.join (xs.map (·.data.toList)) sep.data.toList).length ≤ 140737488355328) :
    Calls Tryd.prog 79 #[.slice (some ⟨bk, o, none⟩) xs.length c, .string sep] w fun e w' => e = .returned (.string ⟨(Lib.join (xs.map (·.data.toList)) sep.data.toList).toArray⟩) ∧ Below w.heap.size w w' := Any.strings_Join Tryd.lays156 Tryd.Builder_Extra_156 bk o c xs sep w hcells hbk hN hcap hlen
def Tryd.lays217_ren : Go.Shelf.Ren := ⟨fun | 217 => 181 | 266 => 186 | n => n, fun | 9 => 9 | 5 => 5 | 3 => 3 | n => n, fun | n => n⟩
theorem Tryd.lays217 : Go.Proofs.Lays.n217 Tryd.prog Tryd.lays217_ren := {
  mixed := by kernel_rfl
  f217 := Tryd.func181.trans (congrArg some (by kernel_rfl))
  f266 := Tryd.func186.trans (congrArg some (by kernel_rfl))
  t3 := Tryd.underlying3
  a3 := Tryd.isAgg3
  z3 := Tryd.sizeOf3
  v3 := Tryd.zeroValue3
  t5 := Tryd.underlying5
  a5 := Tryd.isAgg5
  z5 := Tryd.sizeOf5
  v5 := Tryd.zeroValue5
  t9 := Tryd.underlying9
  a9 := Tryd.isAgg9
  z9 := Tryd.sizeOf9
  v9 := Tryd.zeroValue9 }
open Go.RowKit Go.Lib in
/-- internal/stringslite.IndexByte (what strings.IndexByte calls): IT RETURNS 'Lib.indexByte s c'; the world is as it was. (LAID: no walk: one application.) -/
theorem Tryd.stringslite_IndexByte (s : ByteArray) (c : Int) (w : World) :
    Calls Tryd.prog 181 #[.string s, .int .u8 c] w fun e w' => e = .returned (.int .i64 (Lib.indexByte s.data.toList c.toNat.toUInt8)) ∧ w' = w := Any.stringslite_IndexByte Tryd.lays217 s c w
def Tryd.lays138_ren : Go.Shelf.Ren := ⟨fun | 138 => 143 | 195 => 167 | 218 => 169 | 143 => 144 | 219 => 170 | 217 => 181 | 225 => 182 | 224 => 183 | 267 => 184 | 266 => 186 | 314 => 187 | n => n, fun | 9 => 9 | 3 => 3 | 4 => 4 | 5 => 5 | 0 => 0 | 46 => 208 | 146 => 253 | 51 => 212 | n => n, fun | 1 => 0 | n => n⟩
theorem Tryd.lays138 : Go.Proofs.Lays.n138 Tryd.prog Tryd.lays138_ren := {
  mixed := by kernel_rfl
  f138 := Tryd.func143.trans (congrArg some (by kernel_rfl))
  f143 := Tryd.func144.trans (congrArg some (by kernel_rfl))
  f195 := Tryd.func167.trans (congrArg some (by kernel_rfl))
  f217 := Tryd.func181.trans (congrArg some (by kernel_rfl))
  f218 := Tryd.func169.trans (congrArg some (by kernel_rfl))
  f219 := Tryd.func170.trans (congrArg some (by kernel_rfl))
  f224 := Tryd.func183.trans (congrArg some (by kernel_rfl))
  f225 := Tryd.func182.trans (congrArg some (by kernel_rfl))
  f266 := Tryd.func186.trans (congrArg some (by kernel_rfl))
  f267 := Tryd.func184.trans (congrArg some (by kernel_rfl))
  f314 := Tryd.func187.trans (congrArg some (by kernel_rfl))
  t0 := Tryd.underlying0
  a0 := Tryd.isAgg0
  z0 := Tryd.sizeOf0
  v0 := Tryd.zeroValue0
  t3 := Tryd.underlying3
  a3 := Tryd.isAgg3
  z3 := Tryd.sizeOf3
  v3 := Tryd.zeroValue3
  t4 := Tryd.underlying4
  a4 := Tryd.isAgg4
  z4 := Tryd.sizeOf4
  v4 := Tryd.zeroValue4
  t5 := Tryd.underlying5
  a5 := Tryd.isAgg5
  z5 := Tryd.sizeOf5
  v5 := Tryd.zeroValue5
  t9 := Tryd.underlying9
  a9 := Tryd.isAgg9
  z9 := Tryd.sizeOf9
  v9 := Tryd.zeroValue9
  t46 := Tryd.underlying208
  a46 := Tryd.isAgg208
  z46 := Tryd.sizeOf208
  v46 := Tryd.zeroValue208
  t51 := Tryd.underlying212
  a51 := Tryd.isAgg212
  z51 := Tryd.sizeOf212
  v51 := Tryd.zeroValue212
  t146 := Tryd.underlying253
  a146 := Tryd.isAgg253
  z146 := Tryd.sizeOf253
  v146 := Tryd.zeroValue253
  g1 := by kernel_rfl }
open Go.RowKit Go.Lib in
/-- strings.Count AT A substr OF ONE BYTE ('hp'): "Count counts the number of non-overlapping instances of substr in s.": IT RETURNS 'Lib.countByte s (that byte)'; the world is as it was. ✋ NO CONTRACT HERE YET at an empty substr (utf8.RuneCountInString) or at a longer one (a loop over strings.Index). (LAID: no walk: one application.) -/
theorem Tryd.strings_Count_one (s : ByteArray) (c : UInt8) (w : World) :
    Calls Tryd.prog 143 #[.string s, .string ⟨#[c]⟩] w fun e w' => e = .returned (.int .i64 (Lib.countByte s.data.toList c)) ∧ w' = w := Any.strings_Count_one Tryd.lays138 s c w
end Go.Proofs
