/- What the library's strings.Count, Index, Join do, at this dump: applications of the shelf, written by its plain mode. -/
import Derived.Shelf.Strings.OnBuilder
import Derived.Shelf.Strings.Search3
import Derived.Shelf.Strings.Count
import Derived.Test.YthnddodclpdmaaaDoorProg
namespace Go.Proofs
open Go.Shelf
def Tryd.lays156_ren : Go.Shelf.Ren := ⟨fun | 156 => 80 | 165 => 111 | 166 => 112 | 169 => 113 | 240 => 136 | 241 => 137 | 276 => 149 | 277 => 150 | n => n, fun | 31 => 41 | 9 => 9 | 3 => 3 | 4 => 4 | 0 => 0 | 20 => 20 | 72 => 194 | 76 => 198 | 70 => 192 | 37 => 161 | 75 => 197 | 127 => 226 | 164 => 238 | 5 => 5 | 80 => 200 | n => n, fun | n => n⟩
theorem Tryd.lays156 : Go.Proofs.Lays.n156 Tryd.prog Tryd.lays156_ren := {
  mixed := by kernel_rfl
  f156 := Tryd.func80.trans (congrArg some (by kernel_rfl))
  f165 := Tryd.func111.trans (congrArg some (by kernel_rfl))
  f166 := Tryd.func112.trans (congrArg some (by kernel_rfl))
  f169 := Tryd.func113.trans (congrArg some (by kernel_rfl))
  f240 := Tryd.func136.trans (congrArg some (by kernel_rfl))
  f241 := Tryd.func137.trans (congrArg some (by kernel_rfl))
  f276 := Tryd.func149.trans (congrArg some (by kernel_rfl))
  f277 := Tryd.func150.trans (congrArg some (by kernel_rfl))
  t0 := Tryd.underlying0
  a0 := Tryd.isAgg0
  z0 := Tryd.sizeOf0
  v0 := Tryd.zeroValue0
  t3 := Tryd.underlying3
  a3 := Tryd.isAgg3
  z3 := Tryd.sizeOf3
  v3 := Tryd.zeroValue3
  t4 := Tryd.underlying4
  a4 := Tryd.isAgg4
  z4 := Tryd.sizeOf4
  v4 := Tryd.zeroValue4
  t9 := Tryd.underlying9
  a9 := Tryd.isAgg9
  z9 := Tryd.sizeOf9
  v9 := Tryd.zeroValue9
  t20 := Tryd.underlying20
  a20 := Tryd.isAgg20
  z20 := Tryd.sizeOf20
  v20 := Tryd.zeroValue20
  t31 := Tryd.underlying41
  a31 := Tryd.isAgg41
  z31 := Tryd.sizeOf41
  v31 := Tryd.zeroValue41
  t37 := Tryd.underlying161
  a37 := Tryd.isAgg161
  z37 := Tryd.sizeOf161
  v37 := Tryd.zeroValue161
  t70 := Tryd.underlying192
  a70 := Tryd.isAgg192
  z70 := Tryd.sizeOf192
  v70 := Tryd.zeroValue192
  t72 := Tryd.underlying194
  a72 := Tryd.isAgg194
  z72 := Tryd.sizeOf194
  v72 := Tryd.zeroValue194
  t75 := Tryd.underlying197
  a75 := Tryd.isAgg197
  z75 := Tryd.sizeOf197
  v75 := Tryd.zeroValue197
  t76 := Tryd.underlying198
  a76 := Tryd.isAgg198
  z76 := Tryd.sizeOf198
  v76 := Tryd.zeroValue198
  t127 := Tryd.underlying226
  a127 := Tryd.isAgg226
  z127 := Tryd.sizeOf226
  v127 := Tryd.zeroValue226
  t164 := Tryd.underlying238
  a164 := Tryd.isAgg238
  z164 := Tryd.sizeOf238
  v164 := Tryd.zeroValue238 }
theorem Tryd.Builder_Extra_156 : Builder.Extra Tryd.prog Tryd.lays156_ren := {
  sizeBuilder := by kernel_rfl
  liesBuilder := by kernel_rfl
  t5 := Tryd.underlying5
  a5 := Tryd.isAgg5
  z5 := Tryd.sizeOf5
  v5 := Tryd.zeroValue5
  infoByte := by kernel_rfl
  cellsByte := by kernel_rfl
  sizeByte := by kernel_rfl
  neB5 := by decide }
open Go.RowKit in
/-- No element: the empty string; the world is as it was. (Whatever the slice's address and capacity: a nil slice too.) (LAID: no walk: one application.) -/
theorem Tryd.strings_Join_none (a : Option Addr) (c : Nat) (sep : ByteArray) (w : World) :
    Calls Tryd.prog 80 #[.slice a 0 c, .string sep] w fun e w' => e = .returned (.string ⟨#[]⟩) ∧ w' = w := Any.strings_Join_none Tryd.lays156 Tryd.Builder_Extra_156 a c sep w
open Go.RowKit in
/-- strings.Join: "Join concatenates the elements of its first argument to create a single string. The separator string sep is placed between elements in the resulting string.": HOWEVER MANY ELEMENTS. Below the heap's end the world is as it was. (LAID: no walk: one application.) -/
theorem Tryd.strings_Join (bk o c : Nat) (xs : List ByteArray) (sep : ByteArray) (w : World) (hcells : ∀ (j : Nat) x, xs[j]? = some x → w.cell? ⟨bk, o + j, none⟩ = some (.string x)) (hbk : bk < w.heap.size) (hN : xs.length ≤ 140737488355328) (hcap : xs.length ≤ c) (hlen : (Lib.join (xs.map (·.data.toList)) sep.data.toList).length ≤ 140737488355328) :
    Calls Tryd.prog 80 #[.slice (some ⟨bk, o, none⟩) xs.length c, .string sep] w fun e w' => e = .returned (.string ⟨(Lib.join (xs.map (·.data.toList)) sep.data.toList).toArray⟩) ∧ Below w.heap.size w w' := Any.strings_Join Tryd.lays156 Tryd.Builder_Extra_156 bk o c xs sep w hcells hbk hN hcap hlen
def Tryd.lays143_ren : Go.Shelf.Ren := ⟨fun | 143 => 134 | 219 => 148 | 217 => 153 | 225 => 154 | 224 => 155 | 267 => 156 | 266 => 157 | 314 => 158 | n => n, fun | 9 => 9 | 3 => 3 | 4 => 4 | 5 => 5 | 46 => 243 | 146 => 249 | 51 => 248 | n => n, fun | 1 => 0 | n => n⟩
theorem Tryd.lays143 : Go.Proofs.Lays.n143 Tryd.prog Tryd.lays143_ren := {
  mixed := by kernel_rfl
  f143 := Tryd.func134.trans (congrArg some (by kernel_rfl))
  f217 := Tryd.func153.trans (congrArg some (by kernel_rfl))
  f219 := Tryd.func148.trans (congrArg some (by kernel_rfl))
  f224 := Tryd.func155.trans (congrArg some (by kernel_rfl))
  f225 := Tryd.func154.trans (congrArg some (by kernel_rfl))
  f266 := Tryd.func157.trans (congrArg some (by kernel_rfl))
  f267 := Tryd.func156.trans (congrArg some (by kernel_rfl))
  f314 := Tryd.func158.trans (congrArg some (by kernel_rfl))
  t3 := Tryd.underlying3
  a3 := Tryd.isAgg3
  z3 := Tryd.sizeOf3
  v3 := Tryd.zeroValue3
  t4 := Tryd.underlying4
  a4 := Tryd.isAgg4
  z4 := Tryd.sizeOf4
  v4 := Tryd.zeroValue4
  t5 := Tryd.underlying5
  a5 := Tryd.isAgg5
  z5 := Tryd.sizeOf5
  v5 := Tryd.zeroValue5
  t9 := Tryd.underlying9
  a9 := Tryd.isAgg9
  z9 := Tryd.sizeOf9
  v9 := Tryd.zeroValue9
  t46 := Tryd.underlying243
  a46 := Tryd.isAgg243
  z46 := Tryd.sizeOf243
  v46 := Tryd.zeroValue243
  t51 := Tryd.underlying248
  a51 := Tryd.isAgg248
  z51 := Tryd.sizeOf248
  v51 := Tryd.zeroValue248
  t146 := Tryd.underlying249
  a146 := Tryd.isAgg249
  z146 := Tryd.sizeOf249
  v146 := Tryd.zeroValue249
  g1 := by kernel_rfl }
open Go.RowKit Go.Lib in
/-- strings.Index: "Index returns the index of the first instance of substr in s, or -1 if substr is not present in s.": AT A substr OF ONE BYTE c: IT RETURNS 'Lib.indexByte s c'; the world is as it was. (LAID: no walk: one application.) -/
theorem Tryd.strings_Index_one (s : ByteArray) (c : UInt8) (w : World) :
    Calls Tryd.prog 134 #[.string s, .string ⟨#[c]⟩] w fun e w' => e = .returned (.int .i64 (Lib.indexByte s.data.toList c)) ∧ w' = w := Any.strings_Index_one Tryd.lays143 s c w
def Tryd.lays138_ren : Go.Shelf.Ren := ⟨fun | 138 => 133 | 195 => 145 | 218 => 147 | 143 => 134 | 219 => 148 | 217 => 153 | 225 => 154 | 224 => 155 | 267 => 156 | 266 => 157 | 314 => 158 | n => n, fun | 9 => 9 | 3 => 3 | 4 => 4 | 5 => 5 | 0 => 0 | 46 => 243 | 146 => 249 | 51 => 248 | n => n, fun | 1 => 0 | n => n⟩
theorem Tryd.lays138 : Go.Proofs.Lays.n138 Tryd.prog Tryd.lays138_ren := {
  mixed := by kernel_rfl
  f138 := Tryd.func133.trans (congrArg some (by kernel_rfl))
  f143 := Tryd.func134.trans (congrArg some (by kernel_rfl))
  f195 := Tryd.func145.trans (congrArg some (by kernel_rfl))
  f217 := Tryd.func153.trans (congrArg some (by kernel_rfl))
  f218 := Tryd.func147.trans (congrArg some (by kernel_rfl))
  f219 := Tryd.func148.trans (congrArg some (by kernel_rfl))
  f224 := Tryd.func155.trans (congrArg some (by kernel_rfl))
  f225 := Tryd.func154.trans (congrArg some (by kernel_rfl))
  f266 := Tryd.func157.trans (congrArg some (by kernel_rfl))
  f267 := Tryd.func156.trans (congrArg some (by kernel_rfl))
  f314 := Tryd.func158.trans (congrArg some (by kernel_rfl))
  t0 := Tryd.underlying0
  a0 := Tryd.isAgg0
  z0 := Tryd.sizeOf0
  v0 := Tryd.zeroValue0
  t3 := Tryd.underlying3
  a3 := Tryd.isAgg3
  z3 := Tryd.sizeOf3
  v3 := Tryd.zeroValue3
  t4 := Tryd.underlying4
  a4 := Tryd.isAgg4
  z4 := Tryd.sizeOf4
  v4 := Tryd.zeroValue4
  t5 := Tryd.underlying5
  a5 := Tryd.isAgg5
  z5 := Tryd.sizeOf5
  v5 := Tryd.zeroValue5
  t9 := Tryd.underlying9
  a9 := Tryd.isAgg9
  z9 := Tryd.sizeOf9
  v9 := Tryd.zeroValue9
  t46 := Tryd.underlying243
  a46 := Tryd.isAgg243
  z46 := Tryd.sizeOf243
  v46 := Tryd.zeroValue243
  t51 := Tryd.underlying248
  a51 := Tryd.isAgg248
  z51 := Tryd.sizeOf248
  v51 := Tryd.zeroValue248
  t146 := Tryd.underlying249
  a146 := Tryd.isAgg249
  z146 := Tryd.sizeOf249
  v146 := Tryd.zeroValue249
  g1 := by kernel_rfl }
open Go.RowKit Go.Lib in
/-- strings.Count AT A substr OF ONE BYTE ('hp'): "Count counts the number of non-overlapping instances of substr in s.": IT RETURNS 'Lib.countByte s (that byte)'; the world is as it was. ✋ NO CONTRACT HERE YET at an empty substr (utf8.RuneCountInString) or at a longer one (a loop over strings.Index). (LAID: no walk: one application.) -/
theorem Tryd.strings_Count_one (s : ByteArray) (c : UInt8) (w : World) :
    Calls Tryd.prog 133 #[.string s, .string ⟨#[c]⟩] w fun e w' => e = .returned (.int .i64 (Lib.countByte s.data.toList c)) ∧ w' = w := Any.strings_Count_one Tryd.lays138 s c w
end Go.Proofs
