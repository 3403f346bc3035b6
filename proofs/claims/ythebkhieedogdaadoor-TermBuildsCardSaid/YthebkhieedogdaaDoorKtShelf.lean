/- Contracts of the library, laid off the shelf (its plain text). -/
import Derived.Shelf.Strings.OnBuilder
import Derived.Shelf.Strings.Fields
import Derived.Test.YthebkhieedogdaaDoorProg
namespace Go.Proofs
open Go.Shelf
def Tryd.lays156_ren : Go.Shelf.Ren := ⟨fun | 156 => 69 | 165 => 85 | 166 => 86 | 169 => 87 | 240 => 96 | 241 => 97 | 276 => 102 | 277 => 103 | n => n, fun | 31 => 34 | 9 => 9 | 3 => 3 | 4 => 4 | 0 => 0 | 20 => 20 | 72 => 141 | 76 => 143 | 70 => 139 | 37 => 136 | 75 => 38 | 127 => 154 | 164 => 161 | 5 => 5 | 80 => 129 | n => n, fun | n => n⟩
theorem Tryd.lays156 : Go.Proofs.Lays.n156 Tryd.prog Tryd.lays156_ren := {
  mixed := by kernel_rfl
  f156 := Tryd.func69.trans (congrArg some (by kernel_rfl))
  f165 := Tryd.func85.trans (congrArg some (by kernel_rfl))
  f166 := Tryd.func86.trans (congrArg some (by kernel_rfl))
  f169 := Tryd.func87.trans (congrArg some (by kernel_rfl))
  f240 := Tryd.func96.trans (congrArg some (by kernel_rfl))
  f241 := Tryd.func97.trans (congrArg some (by kernel_rfl))
  f276 := Tryd.func102.trans (congrArg some (by kernel_rfl))
  f277 := Tryd.func103.trans (congrArg some (by kernel_rfl))
  t0 := Tryd.underlying0
  a0 := Tryd.isAgg0
  z0 := Tryd.sizeOf0
  v0 := Tryd.zeroValue0
  t3 := Tryd.underlying3
  a3 := Tryd.isAgg3
  z3 := Tryd.sizeOf3
  v3 := Tryd.zeroValue3
  t4 := Tryd.underlying4
  a4 := Tryd.isAgg4
  z4 := Tryd.sizeOf4
  v4 := Tryd.zeroValue4
  t9 := Tryd.underlying9
  a9 := Tryd.isAgg9
  z9 := Tryd.sizeOf9
  v9 := Tryd.zeroValue9
  t20 := Tryd.underlying20
  a20 := Tryd.isAgg20
  z20 := Tryd.sizeOf20
  v20 := Tryd.zeroValue20
  t31 := Tryd.underlying34
  a31 := Tryd.isAgg34
  z31 := Tryd.sizeOf34
  v31 := Tryd.zeroValue34
  t37 := Tryd.underlying136
  a37 := Tryd.isAgg136
  z37 := Tryd.sizeOf136
  v37 := Tryd.zeroValue136
  t70 := Tryd.underlying139
  a70 := Tryd.isAgg139
  z70 := Tryd.sizeOf139
  v70 := Tryd.zeroValue139
  t72 := Tryd.underlying141
  a72 := Tryd.isAgg141
  z72 := Tryd.sizeOf141
  v72 := Tryd.zeroValue141
  t75 := Tryd.underlying38
  a75 := Tryd.isAgg38
  z75 := Tryd.sizeOf38
  v75 := Tryd.zeroValue38
  t76 := Tryd.underlying143
  a76 := Tryd.isAgg143
  z76 := Tryd.sizeOf143
  v76 := Tryd.zeroValue143
  t127 := Tryd.underlying154
  a127 := Tryd.isAgg154
  z127 := Tryd.sizeOf154
  v127 := Tryd.zeroValue154
  t164 := Tryd.underlying161
  a164 := Tryd.isAgg161
  z164 := Tryd.sizeOf161
  v164 := Tryd.zeroValue161 }
theorem Tryd.Builder_Extra_156 : Builder.Extra Tryd.prog Tryd.lays156_ren := {
  sizeBuilder := by kernel_rfl
  liesBuilder := by kernel_rfl
  t5 := Tryd.underlying5
  a5 := Tryd.isAgg5
  z5 := Tryd.sizeOf5
  v5 := Tryd.zeroValue5
  infoByte := by kernel_rfl
  cellsByte := by kernel_rfl
  sizeByte := by kernel_rfl
  neB5 := by decide }
open Go.RowKit in
/-- No element: the empty string; the world is as it was. (Whatever the slice's address and capacity: a nil slice too.) (LAID: no walk: one application.) -/
theorem Tryd.strings_Join_none (a : Option Addr) (c : Nat) (sep : ByteArray) (w : World) :
    Calls Tryd.prog 69 #[.slice a 0 c, .string sep] w fun e w' => e = .returned (.string ⟨#[]⟩) ∧ w' = w := Any.strings_Join_none Tryd.lays156 Tryd.Builder_Extra_156 a c sep w
open Go.RowKit in
/-- strings.Join: "Join concatenates the elements of its first argument to create a single string. The separator string sep is placed between elements in the resulting string.": HOWEVER MANY ELEMENTS. Below the heap's end the world is as it was. (LAID: no walk: one application.) -/
theorem Tryd.strings_Join (bk o c : Nat) (xs : List ByteArray) (sep : ByteArray) (w : World) (hcells : ∀ (j : Nat) x, xs[j]? = some x → w.cell? ⟨bk, o + j, none⟩ = some (.string x)) (hbk : bk < w.heap.size) (hN : xs.length ≤ 140737488355328) (hcap : xs.length ≤ c) (hlen : (Lib.join (xs.map (·.data.toList)) sep.data.toList).length ≤ 140737488355328) :
    Calls Tryd.prog 69 #[.slice (some ⟨bk, o, none⟩) xs.length c, .string sep] w fun e w' => e = .returned (.string ⟨(Lib.join (xs.map (·.data.toList)) sep.data.toList).toArray⟩) ∧ Below w.heap.size w w' := Any.strings_Join Tryd.lays156 Tryd.Builder_Extra_156 bk o c xs sep w hcells hbk hN hcap hlen
open Go.RowKit in
/-- (*strings.Builder).String: "String returns the accumulated string.": OF A BUILDER THAT HOLDS AT LEAST ONE BYTE. ✋ THE MODEL FREEZES THOSE BYTES IN THE BUFFER (unsafe.String): a later write INTO them ends the model's run without an answer; a later append BEHIND them goes on. The statement's order of evaluation is drawn: one draw. THE FORM '_f': IT SAYS BESIDES THAT THE BUILDER IS A BUILDER STILL ('Lib.IsBuilderF', the same bytes): SO IT CAN BE WRITTEN ON: 'b.WriteString(b.String()[:k])'. (LAID: no walk: one application.) -/
def Tryd.lays157_ren : Go.Shelf.Ren := ⟨fun | 157 => 80 | 229 => 89 | 199 => 90 | 261 => 99 | 311 => 104 | 312 => 105 | n => n, fun | 9 => 9 | 31 => 34 | 3 => 3 | 5 => 5 | 4 => 4 | 119 => 145 | 0 => 0 | 40 => 147 | 152 => 155 | 21 => 21 | 154 => 157 | 51 => 150 | 141 => 159 | 196 => 167 | 193 => 164 | 198 => 170 | 49 => 168 | 194 => 165 | 201 => 173 | 226 => 177 | 46 => 152 | 227 => 178 | n => n, fun | 0 => 3 | 6 => 5 | n => n⟩
theorem Tryd.lays157 : Go.Proofs.Lays.n157 Tryd.prog Tryd.lays157_ren := {
  mixed := by kernel_rfl
  f157 := Tryd.func80.trans (congrArg some (by kernel_rfl))
  f199 := Tryd.func90.trans (congrArg some (by kernel_rfl))
  f229 := Tryd.func89.trans (congrArg some (by kernel_rfl))
  f261 := Tryd.func99.trans (congrArg some (by kernel_rfl))
  f311 := Tryd.func104.trans (congrArg some (by kernel_rfl))
  f312 := Tryd.func105.trans (congrArg some (by kernel_rfl))
  t0 := Tryd.underlying0
  a0 := Tryd.isAgg0
  z0 := Tryd.sizeOf0
  v0 := Tryd.zeroValue0
  t3 := Tryd.underlying3
  a3 := Tryd.isAgg3
  z3 := Tryd.sizeOf3
  v3 := Tryd.zeroValue3
  t4 := Tryd.underlying4
  a4 := Tryd.isAgg4
  z4 := Tryd.sizeOf4
  v4 := Tryd.zeroValue4
  t5 := Tryd.underlying5
  a5 := Tryd.isAgg5
  z5 := Tryd.sizeOf5
  v5 := Tryd.zeroValue5
  t9 := Tryd.underlying9
  a9 := Tryd.isAgg9
  z9 := Tryd.sizeOf9
  v9 := Tryd.zeroValue9
  t21 := Tryd.underlying21
  a21 := Tryd.isAgg21
  z21 := Tryd.sizeOf21
  v21 := Tryd.zeroValue21
  t31 := Tryd.underlying34
  a31 := Tryd.isAgg34
  z31 := Tryd.sizeOf34
  v31 := Tryd.zeroValue34
  t40 := Tryd.underlying147
  a40 := Tryd.isAgg147
  z40 := Tryd.sizeOf147
  v40 := Tryd.zeroValue147
  t46 := Tryd.underlying152
  a46 := Tryd.isAgg152
  z46 := Tryd.sizeOf152
  v46 := Tryd.zeroValue152
  t49 := Tryd.underlying168
  a49 := Tryd.isAgg168
  z49 := Tryd.sizeOf168
  v49 := Tryd.zeroValue168
  t51 := Tryd.underlying150
  a51 := Tryd.isAgg150
  z51 := Tryd.sizeOf150
  v51 := Tryd.zeroValue150
  t119 := Tryd.underlying145
  a119 := Tryd.isAgg145
  z119 := Tryd.sizeOf145
  t141 := Tryd.underlying159
  a141 := Tryd.isAgg159
  z141 := Tryd.sizeOf159
  v141 := Tryd.zeroValue159
  t152 := Tryd.underlying155
  a152 := Tryd.isAgg155
  z152 := Tryd.sizeOf155
  v152 := Tryd.zeroValue155
  t154 := Tryd.underlying157
  a154 := Tryd.isAgg157
  z154 := Tryd.sizeOf157
  v154 := Tryd.zeroValue157
  t193 := Tryd.underlying164
  a193 := Tryd.isAgg164
  z193 := Tryd.sizeOf164
  v193 := Tryd.zeroValue164
  t194 := Tryd.underlying165
  a194 := Tryd.isAgg165
  z194 := Tryd.sizeOf165
  v194 := Tryd.zeroValue165
  t196 := Tryd.underlying167
  a196 := Tryd.isAgg167
  z196 := Tryd.sizeOf167
  v196 := Tryd.zeroValue167
  t198 := Tryd.underlying170
  a198 := Tryd.isAgg170
  z198 := Tryd.sizeOf170
  v198 := Tryd.zeroValue170
  t201 := Tryd.underlying173
  a201 := Tryd.isAgg173
  z201 := Tryd.sizeOf173
  v201 := Tryd.zeroValue173
  t226 := Tryd.underlying177
  a226 := Tryd.isAgg177
  z226 := Tryd.sizeOf177
  v226 := Tryd.zeroValue177
  t227 := Tryd.underlying178
  a227 := Tryd.isAgg178
  z227 := Tryd.sizeOf178
  v227 := Tryd.zeroValue178
  g0 := by kernel_rfl
  g6 := by kernel_rfl }
open Go.RowKit Go.Lib in
/-- strings.Fields, the table by 'Lib.TabIs' (as strings.TrimSpace's contract). 'hg': the table's number, by its name: at a dump 'by kernel_rfl'. (LAID: no walk: one application.) -/
theorem Tryd.strings_Fields (s : ByteArray) (w : World) (hs : s.size < 4294967281) (hascii : ∀ (j : Nat) b, s.data.toList[j]? = some b → b.toNat < 128) (htab : Lib.TabIs Tryd.prog w "strings.asciiSpace" .u8 Lib.asciiSpaceTab) :
    Calls Tryd.prog 80 #[.string s] w fun e w' =>
      e = .returned (.slice (some ⟨w.heap.size, 0, none⟩) (Lib.fields s.data.toList).length (Lib.fields s.data.toList).length) ∧ w' = w.alloc (.cells ((Lib.fields s.data.toList).map fun l => Value.string ⟨l.toArray⟩).toArray 9) := Any.strings_Fields Tryd.lays157 (by kernel_rfl) (by kernel_rfl) s w hs hascii htab
end Go.Proofs
