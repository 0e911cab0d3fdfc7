/- The kit's SlLaysE.n45 laid in plain words (printed by py/lay.py). -/
import Derived.Test.YtekmadgacepdfaaGreatChecked
import Derived.Shelf.SlLaysE
namespace Go.Proofs.YtekmadgacepdfaaGreat
set_option linter.unusedVariables false
open Go.Shelf

def delI_ren : Go.Shelf.Ren := ⟨fun | 0 => 0 | 1 => 1 | 2 => 2 | 45 => 107 | 53 => 85 | 59 => 162 | 63 => 130 | 64 => 131 | 68 => 194 | 70 => 156 | 71 => 157 | 72 => 158 | 73 => 159 | 74 => 160 | 75 => 161 | 76 => 163 | 77 => 164 | 78 => 165 | 79 => 166 | 88 => 189 | 89 => 190 | 90 => 191 | 91 => 192 | 92 => 193 | 96 => 203 | 98 => 206 | 99 => 207 | 100 => 208 | 101 => 209 | 102 => 210 | 103 => 211 | 104 => 212 | 105 => 213 | 106 => 214 | 107 => 215 | 108 => 216 | 109 => 217 | 110 => 218 | 111 => 219 | 112 => 220 | 113 => 221 | n => n, fun | 0 => 0 | 1 => 1 | 2 => 2 | 3 => 3 | 4 => 4 | 5 => 5 | 6 => 6 | 7 => 7 | 8 => 8 | 9 => 9 | 10 => 10 | 11 => 11 | 12 => 12 | 13 => 13 | 14 => 14 | 15 => 15 | 16 => 16 | 17 => 17 | 18 => 18 | 19 => 19 | 20 => 20 | 21 => 21 | 22 => 50 | 23 => 2 | 28 => 113 | 30 => 80 | 32 => 137 | 38 => 155 | 44 => 199 | 51 => 177 | 52 => 180 | 53 => 138 | 56 => 175 | 57 => 176 | 59 => 193 | 60 => 194 | 61 => 195 | 62 => 196 | 63 => 197 | 64 => 198 | 65 => 200 | 66 => 201 | 67 => 202 | 68 => 203 | 69 => 141 | 75 => 218 | 76 => 219 | 77 => 220 | 78 => 221 | 79 => 222 | 80 => 223 | 83 => 228 | 84 => 229 | 85 => 230 | 87 => 233 | 88 => 234 | 89 => 235 | 90 => 236 | 91 => 237 | 92 => 238 | 93 => 52 | 94 => 239 | 95 => 240 | 96 => 241 | 97 => 242 | 98 => 243 | 99 => 244 | 100 => 245 | 101 => 246 | 102 => 247 | n => n, fun | n => n⟩
theorem delI : SlLaysE.n45 Tryz.prog delI_ren := {
 mixed := by kernel_rfl,
 f45 := ⟨Tryz.f107.name, by decide, Tryz.func107.trans (congrArg some (by kernel_rfl))⟩,
 t0 := Tryz.underlying0,
 a0 := Tryz.isAgg0,
 z0 := Tryz.sizeOf0,
 v0 := Tryz.zeroValue0,
 t3 := Tryz.underlying3,
 a3 := Tryz.isAgg3,
 z3 := Tryz.sizeOf3,
 v3 := Tryz.zeroValue3,
 t4 := Tryz.underlying4,
 a4 := Tryz.isAgg4,
 z4 := Tryz.sizeOf4,
 v4 := Tryz.zeroValue4,
 t22 := Tryz.underlying50,
 a22 := Tryz.isAgg50,
 z22 := Tryz.sizeOf50,
 v22 := Tryz.zeroValue50,
 a23 := Tryz.isAgg2,
 z23 := Tryz.sizeOf2 }
end Go.Proofs.YtekmadgacepdfaaGreat
