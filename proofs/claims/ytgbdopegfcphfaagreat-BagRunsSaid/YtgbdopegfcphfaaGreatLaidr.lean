/- The shelf's contract on strings.Repeat, laid at this program (written by the kit's lay-plain.mjs). No condition. -/
import Derived.Shelf.Strings.Repeat
import Derived.Ground.Names2Prog
import Derived.Test.YtgbdopegfcphfaaGreatProg
namespace Go.Proofs
open Go.Shelf
def Tryz.lays105_ren : Go.Shelf.Ren := ⟨fun | 105 => 174 | 212 => 173 | 99 => 230 | 165 => 231 | 166 => 232 | 170 => 233 | 169 => 234 | 263 => 228 | 264 => 229 | 206 => 299 | 240 => 300 | 241 => 301 | 276 => 334 | 277 => 335 | n => n, fun | 9 => 9 | 3 => 3 | 4 => 4 | 20 => 20 | 0 => 0 | 46 => 154 | 109 => 243 | 5 => 5 | 72 => 305 | 76 => 309 | 51 => 151 | 146 => 264 | 53 => 153 | 148 => 301 | 70 => 303 | 37 => 73 | 75 => 308 | 127 => 361 | 164 => 382 | 80 => 208 | n => n, fun | n => n⟩
theorem Tryz.lays105 : Go.Proofs.Lays.n105 Tryz.prog Tryz.lays105_ren := {
  mixed := by kernel_rfl
  f99 := Tryz.func230.trans (congrArg some (by kernel_rfl))
  f105 := Tryz.func174.trans (congrArg some (by kernel_rfl))
  f165 := Tryz.func231.trans (congrArg some (by kernel_rfl))
  f166 := Tryz.func232.trans (congrArg some (by kernel_rfl))
  f169 := Tryz.func234.trans (congrArg some (by kernel_rfl))
  f170 := Tryz.func233.trans (congrArg some (by kernel_rfl))
  f206 := Tryz.func299.trans (congrArg some (by kernel_rfl))
  f212 := Tryz.func173.trans (congrArg some (by kernel_rfl))
  f240 := Tryz.func300.trans (congrArg some (by kernel_rfl))
  f241 := Tryz.func301.trans (congrArg some (by kernel_rfl))
  f263 := Tryz.func228.trans (congrArg some (by kernel_rfl))
  f264 := Tryz.func229.trans (congrArg some (by kernel_rfl))
  f276 := Tryz.func334.trans (congrArg some (by kernel_rfl))
  f277 := Tryz.func335.trans (congrArg some (by kernel_rfl))
  t0 := Tryz.underlying0
  a0 := Tryz.isAgg0
  z0 := Tryz.sizeOf0
  v0 := Tryz.zeroValue0
  t3 := Tryz.underlying3
  a3 := Tryz.isAgg3
  z3 := Tryz.sizeOf3
  v3 := Tryz.zeroValue3
  t4 := Tryz.underlying4
  a4 := Tryz.isAgg4
  z4 := Tryz.sizeOf4
  v4 := Tryz.zeroValue4
  t5 := Tryz.underlying5
  a5 := Tryz.isAgg5
  z5 := Tryz.sizeOf5
  v5 := Tryz.zeroValue5
  t9 := Tryz.underlying9
  a9 := Tryz.isAgg9
  z9 := Tryz.sizeOf9
  v9 := Tryz.zeroValue9
  t20 := Tryz.underlying20
  a20 := Tryz.isAgg20
  z20 := Tryz.sizeOf20
  v20 := Tryz.zeroValue20
  t37 := Tryz.underlying73
  a37 := Tryz.isAgg73
  z37 := Tryz.sizeOf73
  v37 := Tryz.zeroValue73
  t46 := Tryz.underlying154
  a46 := Tryz.isAgg154
  z46 := Tryz.sizeOf154
  v46 := Tryz.zeroValue154
  t51 := Tryz.underlying151
  a51 := Tryz.isAgg151
  z51 := Tryz.sizeOf151
  v51 := Tryz.zeroValue151
  t53 := Tryz.underlying153
  a53 := Tryz.isAgg153
  z53 := Tryz.sizeOf153
  v53 := Tryz.zeroValue153
  t70 := Tryz.underlying303
  a70 := Tryz.isAgg303
  z70 := Tryz.sizeOf303
  v70 := Tryz.zeroValue303
  t72 := Tryz.underlying305
  a72 := Tryz.isAgg305
  z72 := Tryz.sizeOf305
  v72 := Tryz.zeroValue305
  t75 := Tryz.underlying308
  a75 := Tryz.isAgg308
  z75 := Tryz.sizeOf308
  v75 := Tryz.zeroValue308
  t76 := Tryz.underlying309
  a76 := Tryz.isAgg309
  z76 := Tryz.sizeOf309
  v76 := Tryz.zeroValue309
  t109 := Tryz.underlying243
  a109 := Tryz.isAgg243
  z109 := Tryz.sizeOf243
  v109 := Tryz.zeroValue243
  t127 := Tryz.underlying361
  a127 := Tryz.isAgg361
  z127 := Tryz.sizeOf361
  v127 := Tryz.zeroValue361
  t146 := Tryz.underlying264
  a146 := Tryz.isAgg264
  z146 := Tryz.sizeOf264
  v146 := Tryz.zeroValue264
  t148 := Tryz.underlying301
  a148 := Tryz.isAgg301
  z148 := Tryz.sizeOf301
  v148 := Tryz.zeroValue301
  t164 := Tryz.underlying382
  a164 := Tryz.isAgg382
  z164 := Tryz.sizeOf382
  v164 := Tryz.zeroValue382 }
theorem Tryz.Builder_Extra_105 : Builder.Extra Tryz.prog Tryz.lays105_ren := {
  sizeBuilder := by kernel_rfl
  liesBuilder := by kernel_rfl
  t5 := Tryz.underlying5
  a5 := Tryz.isAgg5
  z5 := Tryz.sizeOf5
  v5 := Tryz.zeroValue5
  infoByte := by kernel_rfl
  cellsByte := by kernel_rfl
  sizeByte := by kernel_rfl
  neB5 := by decide }
open Go.RowKit Go.Lib in
/-- **strings.Repeat: count ≥ 0, the result within one allocation: count copies of s.** (LAID: no walk: one application.) -/
theorem Tryz.strings_Repeat (s : ByteArray) (c : Nat) (w : World) (hc : c ≤ 9223372036854775807) (hlen : s.size * c ≤ 140737488355328) :
    Calls Tryz.prog 174 #[.string s, .int .i64 c] w fun e w' => e = .returned (.string ⟨(Lib.repeatL s.data.toList c).toArray⟩) ∧ Below w.heap.size w w' := Any.strings_Repeat Tryz.lays105 Tryz.Builder_Extra_105 s c w hc hlen
end Go.Proofs
