/- A part of the proof of TiedSymbolFormat: Y0, YO, YT, YTW, WD, PL, SH, IT, SC, SP, YM, YN, YP, YQ, Y1, YA. -/
import Derived.Test.YtgdhgnhgmbkpdaaGreatDoorPkFM3
import Derived.Test.YtgdhgnhgmbkpdaaGreatDoorChecked
import Derived.Lib.SmallJoins
import Derived.WideKeyArgs
import Derived.Deep.Slices
import Derived.OpenShut
import Derived.ChangeSame
import Derived.Lib.LaidTab
import Derived.ProofKit
import Derived.Deep.DeepHandedRow
import Derived.Test.YtgdhgnhgmbkpdaaGreatDoorRows
import Derived.Test.YtgdhgnhgmbkpdaaGreatDoorTie
import Derived.Test.YtgdhgnhgmbkpdaaGreatDoorCards
import Derived.Deep.DeepLaidRun
import Derived.Stop.LaidErr
import Derived.Shelf.Vars
import Derived.Lib.Bytealg
import Derived.Lib.IndexMore
import Derived.Lib.AtoiTie
import Derived.Lib.AtoiAllCases
import Derived.Lib.ItoaNum
import Derived.Shelf.Small.Bits
import Derived.Shelf.Strconv.Atoi
import Derived.Shelf.Strconv.Itoa0
import Derived.Shelf.Strconv.Itoa1
import Derived.Shelf.LaysM
import Derived.Shelf.Strconv.Itoa2
import Derived.Shelf.Strconv.Itoa3
import Derived.Shelf.Strconv.Itoa4
import Derived.Shelf.Strconv.AtoiErrFast
import Derived.Shelf.Strconv.ParseIntEmpty
import Derived.Shelf.Strconv.AtoiFail
import Derived.Shelf.Strconv.Clone
import Derived.Shelf.Strconv.SyntaxError
import Derived.Shelf.LaysC
import Derived.Shelf.Strconv.ToError
import Derived.Shelf.Strconv.Lower
import Derived.Shelf.Strconv.ParseUint10
import Derived.Shelf.Strconv.ParseUint10Empty
import Derived.Shelf.Strconv.ParseUint10Any
import Derived.Shelf.Strconv.ParseInt10
import Derived.Shelf.Strconv.AtoiLong
import Derived.Shelf.Strconv.AtoiInnerAll
import Derived.Shelf.Strconv.RangeError
import Derived.Shelf.Strconv.ToErrorRange
import Derived.Shelf.Strconv.AtoiAll
import Derived.Shelf.Strconv.ParseUintEmpty
import Derived.Shelf.Strconv.ParseUint10b64
import Derived.Shelf.Strconv.ParseUint10b32
import Derived.Shelf.Strconv.ParseUint10b16
import Derived.Shelf.Strconv.ParseUint10b8
import Derived.Shelf.Strconv.ParseUint10At
import Derived.Shelf.Strconv.ParseInt10At64
import Derived.Shelf.Strconv.ParseInt10At32
import Derived.Shelf.Strconv.ParseInt10At16
import Derived.Shelf.Strconv.ParseInt10At8
import Derived.Shelf.Strconv.ParseInt10All
import Derived.Shelf.Strconv.ParseIntPublic10
import Derived.Shelf.Strings.Search1
import Derived.Shelf.Strings.Search2
import Derived.Shelf.Strings.Search3
import Derived.Shelf.Strings.Cut
import Derived.Shelf.Strings.Shaped
import Derived.RangeFuncKeeps
import Derived.RangeFuncLeaves
import Derived.WalkKit
import Derived.OwnWalkIn
import Derived.TacticsInMore
import Derived.LoopNIn
import Derived.LoopIn
import Derived.Lib.AppendIntMem
set_option linter.unusedSimpArgs false
set_option linter.unusedVariables false
namespace Go.Proofs.YtgdhgnhgmbkpdaaGreatDoor.S
open Go.QfSy Go.RowKit
theorem tyLen : Nat.blt Tryz.prog.types.toList.length 1000000 = true := by kernel_rfl
theorem fnLen : Nat.blt Tryz.prog.funcs.toList.length 1000000 = true := by kernel_rfl
theorem fnNames : Tryz.prog.funcs.toList.all (fun fn => !(fn.name == "runtime.NumGoroutine")) = true := by kernel_rfl
theorem noesc (x : Value) (w : World) : (callFunc 86 #[x]).run Tryz.prog w = .ok (.value x) w := by kernel_rfl
set_option maxRecDepth 100000 in
noncomputable def tiTr : Tr TypeInfo := (.node (some (Tryz.prog.types.toList.getD 0 default)) (.node (some (Tryz.prog.types.toList.getD 1 default)) (.node (some (Tryz.prog.types.toList.getD 3 default)) (.node (some (Tryz.prog.types.toList.getD 7 default)) (.node (some (Tryz.prog.types.toList.getD 15 default)) (.node (some (Tryz.prog.types.toList.getD 31 default)) (.node (some (Tryz.prog.types.toList.getD 63 default)) (.node (some (Tryz.prog.types.toList.getD 127 default)) (.node (some (Tryz.prog.types.toList.getD 255 default)) .nil .nil) .nil) (.node (some (Tryz.prog.types.toList.getD 191 default)) .nil .nil)) (.node (some (Tryz.prog.types.toList.getD 95 default)) (.node (some (Tryz.prog.types.toList.getD 159 default)) .nil .nil) (.node (some (Tryz.prog.types.toList.getD 223 default)) .nil .nil))) (.node (some (Tryz.prog.types.toList.getD 47 default)) (.node (some (Tryz.prog.types.toList.getD 79 default)) (.node (some (Tryz.prog.types.toList.getD 143 default)) .nil .nil) (.node (some (Tryz.prog.types.toList.getD 207 default)) .nil .nil)) (.node (some (Tryz.prog.types.toList.getD 111 default)) (.node (some (Tryz.prog.types.toList.getD 175 default)) .nil .nil) (.node (some (Tryz.prog.types.toList.getD 239 default)) .nil .nil)))) (.node (some (Tryz.prog.types.toList.getD 23 default)) (.node (some (Tryz.prog.types.toList.getD 39 default)) (.node (some (Tryz.prog.types.toList.getD 71 default)) (.node (some (Tryz.prog.types.toList.getD 135 default)) .nil .nil) (.node (some (Tryz.prog.types.toList.getD 199 default)) .nil .nil)) (.node (some (Tryz.prog.types.toList.getD 103 default)) (.node (some (Tryz.prog.types.toList.getD 167 default)) .nil .nil) (.node (some (Tryz.prog.types.toList.getD 231 default)) .nil .nil))) (.node (some (Tryz.prog.types.toList.getD 55 default)) (.node (some (Tryz.prog.types.toList.getD 87 default)) (.node (some (Tryz.prog.types.toList.getD 151 default)) .nil .nil) (.node (some (Tryz.prog.types.toList.getD 215 default)) .nil .nil)) (.node (some (Tryz.prog.types.toList.getD 119 default)) (.node (some (Tryz.prog.types.toList.getD 183 default)) .nil .nil) (.node (some (Tryz.prog.types.toList.getD 247 default)) .nil .nil))))) (.node (some (Tryz.prog.types.toList.getD 11 default)) (.node (some (Tryz.prog.types.toList.getD 19 default)) (.node (some (Tryz.prog.types.toList.getD 35 default)) (.node (some (Tryz.prog.types.toList.getD 67 default)) (.node (some (Tryz.prog.types.toList.getD 131 default)) (.node (some (Tryz.prog.types.toList.getD 259 default)) .nil .nil) .nil) (.node (some (Tryz.prog.types.toList.getD 195 default)) .nil .nil)) (.node (some (Tryz.prog.types.toList.getD 99 default)) (.node (some (Tryz.prog.types.toList.getD 163 default)) .nil .nil) (.node (some (Tryz.prog.types.toList.getD 227 default)) .nil .nil))) (.node (some (Tryz.prog.types.toList.getD 51 default)) (.node (some (Tryz.prog.types.toList.getD 83 default)) (.node (some (Tryz.prog.types.toList.getD 147 default)) .nil .nil) (.node (some (Tryz.prog.types.toList.getD 211 default)) .nil .nil)) (.node (some (Tryz.prog.types.toList.getD 115 default)) (.node (some (Tryz.prog.types.toList.getD 179 default)) .nil .nil) (.node (some (Tryz.prog.types.toList.getD 243 default)) .nil .nil)))) (.node (some (Tryz.prog.types.toList.getD 27 default)) (.node (some (Tryz.prog.types.toList.getD 43 default)) (.node (some (Tryz.prog.types.toList.getD 75 default)) (.node (some (Tryz.prog.types.toList.getD 139 default)) .nil .nil) (.node (some (Tryz.prog.types.toList.getD 203 default)) .nil .nil)) (.node (some (Tryz.prog.types.toList.getD 107 default)) (.node (some (Tryz.prog.types.toList.getD 171 default)) .nil .nil) (.node (some (Tryz.prog.types.toList.getD 235 default)) .nil .nil))) (.node (some (Tryz.prog.types.toList.getD 59 default)) (.node (some (Tryz.prog.types.toList.getD 91 default)) (.node (some (Tryz.prog.types.toList.getD 155 default)) .nil .nil) (.node (some (Tryz.prog.types.toList.getD 219 default)) .nil .nil)) (.node (some (Tryz.prog.types.toList.getD 123 default)) (.node (some (Tryz.prog.types.toList.getD 187 default)) .nil .nil) (.node (some (Tryz.prog.types.toList.getD 251 default)) .nil .nil)))))) (.node (some (Tryz.prog.types.toList.getD 5 default)) (.node (some (Tryz.prog.types.toList.getD 9 default)) (.node (some (Tryz.prog.types.toList.getD 17 default)) (.node (some (Tryz.prog.types.toList.getD 33 default)) (.node (some (Tryz.prog.types.toList.getD 65 default)) (.node (some (Tryz.prog.types.toList.getD 129 default)) (.node (some (Tryz.prog.types.toList.getD 257 default)) .nil .nil) .nil) (.node (some (Tryz.prog.types.toList.getD 193 default)) .nil .nil)) (.node (some (Tryz.prog.types.toList.getD 97 default)) (.node (some (Tryz.prog.types.toList.getD 161 default)) .nil .nil) (.node (some (Tryz.prog.types.toList.getD 225 default)) .nil .nil))) (.node (some (Tryz.prog.types.toList.getD 49 default)) (.node (some (Tryz.prog.types.toList.getD 81 default)) (.node (some (Tryz.prog.types.toList.getD 145 default)) .nil .nil) (.node (some (Tryz.prog.types.toList.getD 209 default)) .nil .nil)) (.node (some (Tryz.prog.types.toList.getD 113 default)) (.node (some (Tryz.prog.types.toList.getD 177 default)) .nil .nil) (.node (some (Tryz.prog.types.toList.getD 241 default)) .nil .nil)))) (.node (some (Tryz.prog.types.toList.getD 25 default)) (.node (some (Tryz.prog.types.toList.getD 41 default)) (.node (some (Tryz.prog.types.toList.getD 73 default)) (.node (some (Tryz.prog.types.toList.getD 137 default)) .nil .nil) (.node (some (Tryz.prog.types.toList.getD 201 default)) .nil .nil)) (.node (some (Tryz.prog.types.toList.getD 105 default)) (.node (some (Tryz.prog.types.toList.getD 169 default)) .nil .nil) (.node (some (Tryz.prog.types.toList.getD 233 default)) .nil .nil))) (.node (some (Tryz.prog.types.toList.getD 57 default)) (.node (some (Tryz.prog.types.toList.getD 89 default)) (.node (some (Tryz.prog.types.toList.getD 153 default)) .nil .nil) (.node (some (Tryz.prog.types.toList.getD 217 default)) .nil .nil)) (.node (some (Tryz.prog.types.toList.getD 121 default)) (.node (some (Tryz.prog.types.toList.getD 185 default)) .nil .nil) (.node (some (Tryz.prog.types.toList.getD 249 default)) .nil .nil))))) (.node (some (Tryz.prog.types.toList.getD 13 default)) (.node (some (Tryz.prog.types.toList.getD 21 default)) (.node (some (Tryz.prog.types.toList.getD 37 default)) (.node (some (Tryz.prog.types.toList.getD 69 default)) (.node (some (Tryz.prog.types.toList.getD 133 default)) (.node (some (Tryz.prog.types.toList.getD 261 default)) .nil .nil) .nil) (.node (some (Tryz.prog.types.toList.getD 197 default)) .nil .nil)) (.node (some (Tryz.prog.types.toList.getD 101 default)) (.node (some (Tryz.prog.types.toList.getD 165 default)) .nil .nil) (.node (some (Tryz.prog.types.toList.getD 229 default)) .nil .nil))) (.node (some (Tryz.prog.types.toList.getD 53 default)) (.node (some (Tryz.prog.types.toList.getD 85 default)) (.node (some (Tryz.prog.types.toList.getD 149 default)) .nil .nil) (.node (some (Tryz.prog.types.toList.getD 213 default)) .nil .nil)) (.node (some (Tryz.prog.types.toList.getD 117 default)) (.node (some (Tryz.prog.types.toList.getD 181 default)) .nil .nil) (.node (some (Tryz.prog.types.toList.getD 245 default)) .nil .nil)))) (.node (some (Tryz.prog.types.toList.getD 29 default)) (.node (some (Tryz.prog.types.toList.getD 45 default)) (.node (some (Tryz.prog.types.toList.getD 77 default)) (.node (some (Tryz.prog.types.toList.getD 141 default)) .nil .nil) (.node (some (Tryz.prog.types.toList.getD 205 default)) .nil .nil)) (.node (some (Tryz.prog.types.toList.getD 109 default)) (.node (some (Tryz.prog.types.toList.getD 173 default)) .nil .nil) (.node (some (Tryz.prog.types.toList.getD 237 default)) .nil .nil))) (.node (some (Tryz.prog.types.toList.getD 61 default)) (.node (some (Tryz.prog.types.toList.getD 93 default)) (.node (some (Tryz.prog.types.toList.getD 157 default)) .nil .nil) (.node (some (Tryz.prog.types.toList.getD 221 default)) .nil .nil)) (.node (some (Tryz.prog.types.toList.getD 125 default)) (.node (some (Tryz.prog.types.toList.getD 189 default)) .nil .nil) (.node (some (Tryz.prog.types.toList.getD 253 default)) .nil .nil))))))) (.node (some (Tryz.prog.types.toList.getD 2 default)) (.node (some (Tryz.prog.types.toList.getD 4 default)) (.node (some (Tryz.prog.types.toList.getD 8 default)) (.node (some (Tryz.prog.types.toList.getD 16 default)) (.node (some (Tryz.prog.types.toList.getD 32 default)) (.node (some (Tryz.prog.types.toList.getD 64 default)) (.node (some (Tryz.prog.types.toList.getD 128 default)) (.node (some (Tryz.prog.types.toList.getD 256 default)) .nil .nil) .nil) (.node (some (Tryz.prog.types.toList.getD 192 default)) .nil .nil)) (.node (some (Tryz.prog.types.toList.getD 96 default)) (.node (some (Tryz.prog.types.toList.getD 160 default)) .nil .nil) (.node (some (Tryz.prog.types.toList.getD 224 default)) .nil .nil))) (.node (some (Tryz.prog.types.toList.getD 48 default)) (.node (some (Tryz.prog.types.toList.getD 80 default)) (.node (some (Tryz.prog.types.toList.getD 144 default)) .nil .nil) (.node (some (Tryz.prog.types.toList.getD 208 default)) .nil .nil)) (.node (some (Tryz.prog.types.toList.getD 112 default)) (.node (some (Tryz.prog.types.toList.getD 176 default)) .nil .nil) (.node (some (Tryz.prog.types.toList.getD 240 default)) .nil .nil)))) (.node (some (Tryz.prog.types.toList.getD 24 default)) (.node (some (Tryz.prog.types.toList.getD 40 default)) (.node (some (Tryz.prog.types.toList.getD 72 default)) (.node (some (Tryz.prog.types.toList.getD 136 default)) .nil .nil) (.node (some (Tryz.prog.types.toList.getD 200 default)) .nil .nil)) (.node (some (Tryz.prog.types.toList.getD 104 default)) (.node (some (Tryz.prog.types.toList.getD 168 default)) .nil .nil) (.node (some (Tryz.prog.types.toList.getD 232 default)) .nil .nil))) (.node (some (Tryz.prog.types.toList.getD 56 default)) (.node (some (Tryz.prog.types.toList.getD 88 default)) (.node (some (Tryz.prog.types.toList.getD 152 default)) .nil .nil) (.node (some (Tryz.prog.types.toList.getD 216 default)) .nil .nil)) (.node (some (Tryz.prog.types.toList.getD 120 default)) (.node (some (Tryz.prog.types.toList.getD 184 default)) .nil .nil) (.node (some (Tryz.prog.types.toList.getD 248 default)) .nil .nil))))) (.node (some (Tryz.prog.types.toList.getD 12 default)) (.node (some (Tryz.prog.types.toList.getD 20 default)) (.node (some (Tryz.prog.types.toList.getD 36 default)) (.node (some (Tryz.prog.types.toList.getD 68 default)) (.node (some (Tryz.prog.types.toList.getD 132 default)) (.node (some (Tryz.prog.types.toList.getD 260 default)) .nil .nil) .nil) (.node (some (Tryz.prog.types.toList.getD 196 default)) .nil .nil)) (.node (some (Tryz.prog.types.toList.getD 100 default)) (.node (some (Tryz.prog.types.toList.getD 164 default)) .nil .nil) (.node (some (Tryz.prog.types.toList.getD 228 default)) .nil .nil))) (.node (some (Tryz.prog.types.toList.getD 52 default)) (.node (some (Tryz.prog.types.toList.getD 84 default)) (.node (some (Tryz.prog.types.toList.getD 148 default)) .nil .nil) (.node (some (Tryz.prog.types.toList.getD 212 default)) .nil .nil)) (.node (some (Tryz.prog.types.toList.getD 116 default)) (.node (some (Tryz.prog.types.toList.getD 180 default)) .nil .nil) (.node (some (Tryz.prog.types.toList.getD 244 default)) .nil .nil)))) (.node (some (Tryz.prog.types.toList.getD 28 default)) (.node (some (Tryz.prog.types.toList.getD 44 default)) (.node (some (Tryz.prog.types.toList.getD 76 default)) (.node (some (Tryz.prog.types.toList.getD 140 default)) .nil .nil) (.node (some (Tryz.prog.types.toList.getD 204 default)) .nil .nil)) (.node (some (Tryz.prog.types.toList.getD 108 default)) (.node (some (Tryz.prog.types.toList.getD 172 default)) .nil .nil) (.node (some (Tryz.prog.types.toList.getD 236 default)) .nil .nil))) (.node (some (Tryz.prog.types.toList.getD 60 default)) (.node (some (Tryz.prog.types.toList.getD 92 default)) (.node (some (Tryz.prog.types.toList.getD 156 default)) .nil .nil) (.node (some (Tryz.prog.types.toList.getD 220 default)) .nil .nil)) (.node (some (Tryz.prog.types.toList.getD 124 default)) (.node (some (Tryz.prog.types.toList.getD 188 default)) .nil .nil) (.node (some (Tryz.prog.types.toList.getD 252 default)) .nil .nil)))))) (.node (some (Tryz.prog.types.toList.getD 6 default)) (.node (some (Tryz.prog.types.toList.getD 10 default)) (.node (some (Tryz.prog.types.toList.getD 18 default)) (.node (some (Tryz.prog.types.toList.getD 34 default)) (.node (some (Tryz.prog.types.toList.getD 66 default)) (.node (some (Tryz.prog.types.toList.getD 130 default)) (.node (some (Tryz.prog.types.toList.getD 258 default)) .nil .nil) .nil) (.node (some (Tryz.prog.types.toList.getD 194 default)) .nil .nil)) (.node (some (Tryz.prog.types.toList.getD 98 default)) (.node (some (Tryz.prog.types.toList.getD 162 default)) .nil .nil) (.node (some (Tryz.prog.types.toList.getD 226 default)) .nil .nil))) (.node (some (Tryz.prog.types.toList.getD 50 default)) (.node (some (Tryz.prog.types.toList.getD 82 default)) (.node (some (Tryz.prog.types.toList.getD 146 default)) .nil .nil) (.node (some (Tryz.prog.types.toList.getD 210 default)) .nil .nil)) (.node (some (Tryz.prog.types.toList.getD 114 default)) (.node (some (Tryz.prog.types.toList.getD 178 default)) .nil .nil) (.node (some (Tryz.prog.types.toList.getD 242 default)) .nil .nil)))) (.node (some (Tryz.prog.types.toList.getD 26 default)) (.node (some (Tryz.prog.types.toList.getD 42 default)) (.node (some (Tryz.prog.types.toList.getD 74 default)) (.node (some (Tryz.prog.types.toList.getD 138 default)) .nil .nil) (.node (some (Tryz.prog.types.toList.getD 202 default)) .nil .nil)) (.node (some (Tryz.prog.types.toList.getD 106 default)) (.node (some (Tryz.prog.types.toList.getD 170 default)) .nil .nil) (.node (some (Tryz.prog.types.toList.getD 234 default)) .nil .nil))) (.node (some (Tryz.prog.types.toList.getD 58 default)) (.node (some (Tryz.prog.types.toList.getD 90 default)) (.node (some (Tryz.prog.types.toList.getD 154 default)) .nil .nil) (.node (some (Tryz.prog.types.toList.getD 218 default)) .nil .nil)) (.node (some (Tryz.prog.types.toList.getD 122 default)) (.node (some (Tryz.prog.types.toList.getD 186 default)) .nil .nil) (.node (some (Tryz.prog.types.toList.getD 250 default)) .nil .nil))))) (.node (some (Tryz.prog.types.toList.getD 14 default)) (.node (some (Tryz.prog.types.toList.getD 22 default)) (.node (some (Tryz.prog.types.toList.getD 38 default)) (.node (some (Tryz.prog.types.toList.getD 70 default)) (.node (some (Tryz.prog.types.toList.getD 134 default)) (.node (some (Tryz.prog.types.toList.getD 262 default)) .nil .nil) .nil) (.node (some (Tryz.prog.types.toList.getD 198 default)) .nil .nil)) (.node (some (Tryz.prog.types.toList.getD 102 default)) (.node (some (Tryz.prog.types.toList.getD 166 default)) .nil .nil) (.node (some (Tryz.prog.types.toList.getD 230 default)) .nil .nil))) (.node (some (Tryz.prog.types.toList.getD 54 default)) (.node (some (Tryz.prog.types.toList.getD 86 default)) (.node (some (Tryz.prog.types.toList.getD 150 default)) .nil .nil) (.node (some (Tryz.prog.types.toList.getD 214 default)) .nil .nil)) (.node (some (Tryz.prog.types.toList.getD 118 default)) (.node (some (Tryz.prog.types.toList.getD 182 default)) .nil .nil) (.node (some (Tryz.prog.types.toList.getD 246 default)) .nil .nil)))) (.node (some (Tryz.prog.types.toList.getD 30 default)) (.node (some (Tryz.prog.types.toList.getD 46 default)) (.node (some (Tryz.prog.types.toList.getD 78 default)) (.node (some (Tryz.prog.types.toList.getD 142 default)) .nil .nil) (.node (some (Tryz.prog.types.toList.getD 206 default)) .nil .nil)) (.node (some (Tryz.prog.types.toList.getD 110 default)) (.node (some (Tryz.prog.types.toList.getD 174 default)) .nil .nil) (.node (some (Tryz.prog.types.toList.getD 238 default)) .nil .nil))) (.node (some (Tryz.prog.types.toList.getD 62 default)) (.node (some (Tryz.prog.types.toList.getD 94 default)) (.node (some (Tryz.prog.types.toList.getD 158 default)) .nil .nil) (.node (some (Tryz.prog.types.toList.getD 222 default)) .nil .nil)) (.node (some (Tryz.prog.types.toList.getD 126 default)) (.node (some (Tryz.prog.types.toList.getD 190 default)) .nil .nil) (.node (some (Tryz.prog.types.toList.getD 254 default)) .nil .nil))))))))
set_option maxRecDepth 100000 in
noncomputable def fsTr : Tr Func := (.node (some (Tryz.prog.funcs.toList.getD 0 default)) (.node (some (Tryz.prog.funcs.toList.getD 1 default)) (.node (some (Tryz.prog.funcs.toList.getD 3 default)) (.node (some (Tryz.prog.funcs.toList.getD 7 default)) (.node (some (Tryz.prog.funcs.toList.getD 15 default)) (.node (some (Tryz.prog.funcs.toList.getD 31 default)) (.node (some (Tryz.prog.funcs.toList.getD 63 default)) (.node (some (Tryz.prog.funcs.toList.getD 127 default)) .nil .nil) (.node (some (Tryz.prog.funcs.toList.getD 191 default)) .nil .nil)) (.node (some (Tryz.prog.funcs.toList.getD 95 default)) (.node (some (Tryz.prog.funcs.toList.getD 159 default)) .nil .nil) (.node (some (Tryz.prog.funcs.toList.getD 223 default)) .nil .nil))) (.node (some (Tryz.prog.funcs.toList.getD 47 default)) (.node (some (Tryz.prog.funcs.toList.getD 79 default)) (.node (some (Tryz.prog.funcs.toList.getD 143 default)) .nil .nil) (.node (some (Tryz.prog.funcs.toList.getD 207 default)) .nil .nil)) (.node (some (Tryz.prog.funcs.toList.getD 111 default)) (.node (some (Tryz.prog.funcs.toList.getD 175 default)) .nil .nil) .nil))) (.node (some (Tryz.prog.funcs.toList.getD 23 default)) (.node (some (Tryz.prog.funcs.toList.getD 39 default)) (.node (some (Tryz.prog.funcs.toList.getD 71 default)) (.node (some (Tryz.prog.funcs.toList.getD 135 default)) .nil .nil) (.node (some (Tryz.prog.funcs.toList.getD 199 default)) .nil .nil)) (.node (some (Tryz.prog.funcs.toList.getD 103 default)) (.node (some (Tryz.prog.funcs.toList.getD 167 default)) .nil .nil) (.node (some (Tryz.prog.funcs.toList.getD 231 default)) .nil .nil))) (.node (some (Tryz.prog.funcs.toList.getD 55 default)) (.node (some (Tryz.prog.funcs.toList.getD 87 default)) (.node (some (Tryz.prog.funcs.toList.getD 151 default)) .nil .nil) (.node (some (Tryz.prog.funcs.toList.getD 215 default)) .nil .nil)) (.node (some (Tryz.prog.funcs.toList.getD 119 default)) (.node (some (Tryz.prog.funcs.toList.getD 183 default)) .nil .nil) .nil)))) (.node (some (Tryz.prog.funcs.toList.getD 11 default)) (.node (some (Tryz.prog.funcs.toList.getD 19 default)) (.node (some (Tryz.prog.funcs.toList.getD 35 default)) (.node (some (Tryz.prog.funcs.toList.getD 67 default)) (.node (some (Tryz.prog.funcs.toList.getD 131 default)) .nil .nil) (.node (some (Tryz.prog.funcs.toList.getD 195 default)) .nil .nil)) (.node (some (Tryz.prog.funcs.toList.getD 99 default)) (.node (some (Tryz.prog.funcs.toList.getD 163 default)) .nil .nil) (.node (some (Tryz.prog.funcs.toList.getD 227 default)) .nil .nil))) (.node (some (Tryz.prog.funcs.toList.getD 51 default)) (.node (some (Tryz.prog.funcs.toList.getD 83 default)) (.node (some (Tryz.prog.funcs.toList.getD 147 default)) .nil .nil) (.node (some (Tryz.prog.funcs.toList.getD 211 default)) .nil .nil)) (.node (some (Tryz.prog.funcs.toList.getD 115 default)) (.node (some (Tryz.prog.funcs.toList.getD 179 default)) .nil .nil) .nil))) (.node (some (Tryz.prog.funcs.toList.getD 27 default)) (.node (some (Tryz.prog.funcs.toList.getD 43 default)) (.node (some (Tryz.prog.funcs.toList.getD 75 default)) (.node (some (Tryz.prog.funcs.toList.getD 139 default)) .nil .nil) (.node (some (Tryz.prog.funcs.toList.getD 203 default)) .nil .nil)) (.node (some (Tryz.prog.funcs.toList.getD 107 default)) (.node (some (Tryz.prog.funcs.toList.getD 171 default)) .nil .nil) (.node (some (Tryz.prog.funcs.toList.getD 235 default)) .nil .nil))) (.node (some (Tryz.prog.funcs.toList.getD 59 default)) (.node (some (Tryz.prog.funcs.toList.getD 91 default)) (.node (some (Tryz.prog.funcs.toList.getD 155 default)) .nil .nil) (.node (some (Tryz.prog.funcs.toList.getD 219 default)) .nil .nil)) (.node (some (Tryz.prog.funcs.toList.getD 123 default)) (.node (some (Tryz.prog.funcs.toList.getD 187 default)) .nil .nil) .nil))))) (.node (some (Tryz.prog.funcs.toList.getD 5 default)) (.node (some (Tryz.prog.funcs.toList.getD 9 default)) (.node (some (Tryz.prog.funcs.toList.getD 17 default)) (.node (some (Tryz.prog.funcs.toList.getD 33 default)) (.node (some (Tryz.prog.funcs.toList.getD 65 default)) (.node (some (Tryz.prog.funcs.toList.getD 129 default)) .nil .nil) (.node (some (Tryz.prog.funcs.toList.getD 193 default)) .nil .nil)) (.node (some (Tryz.prog.funcs.toList.getD 97 default)) (.node (some (Tryz.prog.funcs.toList.getD 161 default)) .nil .nil) (.node (some (Tryz.prog.funcs.toList.getD 225 default)) .nil .nil))) (.node (some (Tryz.prog.funcs.toList.getD 49 default)) (.node (some (Tryz.prog.funcs.toList.getD 81 default)) (.node (some (Tryz.prog.funcs.toList.getD 145 default)) .nil .nil) (.node (some (Tryz.prog.funcs.toList.getD 209 default)) .nil .nil)) (.node (some (Tryz.prog.funcs.toList.getD 113 default)) (.node (some (Tryz.prog.funcs.toList.getD 177 default)) .nil .nil) .nil))) (.node (some (Tryz.prog.funcs.toList.getD 25 default)) (.node (some (Tryz.prog.funcs.toList.getD 41 default)) (.node (some (Tryz.prog.funcs.toList.getD 73 default)) (.node (some (Tryz.prog.funcs.toList.getD 137 default)) .nil .nil) (.node (some (Tryz.prog.funcs.toList.getD 201 default)) .nil .nil)) (.node (some (Tryz.prog.funcs.toList.getD 105 default)) (.node (some (Tryz.prog.funcs.toList.getD 169 default)) .nil .nil) (.node (some (Tryz.prog.funcs.toList.getD 233 default)) .nil .nil))) (.node (some (Tryz.prog.funcs.toList.getD 57 default)) (.node (some (Tryz.prog.funcs.toList.getD 89 default)) (.node (some (Tryz.prog.funcs.toList.getD 153 default)) .nil .nil) (.node (some (Tryz.prog.funcs.toList.getD 217 default)) .nil .nil)) (.node (some (Tryz.prog.funcs.toList.getD 121 default)) (.node (some (Tryz.prog.funcs.toList.getD 185 default)) .nil .nil) .nil)))) (.node (some (Tryz.prog.funcs.toList.getD 13 default)) (.node (some (Tryz.prog.funcs.toList.getD 21 default)) (.node (some (Tryz.prog.funcs.toList.getD 37 default)) (.node (some (Tryz.prog.funcs.toList.getD 69 default)) (.node (some (Tryz.prog.funcs.toList.getD 133 default)) .nil .nil) (.node (some (Tryz.prog.funcs.toList.getD 197 default)) .nil .nil)) (.node (some (Tryz.prog.funcs.toList.getD 101 default)) (.node (some (Tryz.prog.funcs.toList.getD 165 default)) .nil .nil) (.node (some (Tryz.prog.funcs.toList.getD 229 default)) .nil .nil))) (.node (some (Tryz.prog.funcs.toList.getD 53 default)) (.node (some (Tryz.prog.funcs.toList.getD 85 default)) (.node (some (Tryz.prog.funcs.toList.getD 149 default)) .nil .nil) (.node (some (Tryz.prog.funcs.toList.getD 213 default)) .nil .nil)) (.node (some (Tryz.prog.funcs.toList.getD 117 default)) (.node (some (Tryz.prog.funcs.toList.getD 181 default)) .nil .nil) .nil))) (.node (some (Tryz.prog.funcs.toList.getD 29 default)) (.node (some (Tryz.prog.funcs.toList.getD 45 default)) (.node (some (Tryz.prog.funcs.toList.getD 77 default)) (.node (some (Tryz.prog.funcs.toList.getD 141 default)) .nil .nil) (.node (some (Tryz.prog.funcs.toList.getD 205 default)) .nil .nil)) (.node (some (Tryz.prog.funcs.toList.getD 109 default)) (.node (some (Tryz.prog.funcs.toList.getD 173 default)) .nil .nil) .nil)) (.node (some (Tryz.prog.funcs.toList.getD 61 default)) (.node (some (Tryz.prog.funcs.toList.getD 93 default)) (.node (some (Tryz.prog.funcs.toList.getD 157 default)) .nil .nil) (.node (some (Tryz.prog.funcs.toList.getD 221 default)) .nil .nil)) (.node (some (Tryz.prog.funcs.toList.getD 125 default)) (.node (some (Tryz.prog.funcs.toList.getD 189 default)) .nil .nil) .nil)))))) (.node (some (Tryz.prog.funcs.toList.getD 2 default)) (.node (some (Tryz.prog.funcs.toList.getD 4 default)) (.node (some (Tryz.prog.funcs.toList.getD 8 default)) (.node (some (Tryz.prog.funcs.toList.getD 16 default)) (.node (some (Tryz.prog.funcs.toList.getD 32 default)) (.node (some (Tryz.prog.funcs.toList.getD 64 default)) (.node (some (Tryz.prog.funcs.toList.getD 128 default)) .nil .nil) (.node (some (Tryz.prog.funcs.toList.getD 192 default)) .nil .nil)) (.node (some (Tryz.prog.funcs.toList.getD 96 default)) (.node (some (Tryz.prog.funcs.toList.getD 160 default)) .nil .nil) (.node (some (Tryz.prog.funcs.toList.getD 224 default)) .nil .nil))) (.node (some (Tryz.prog.funcs.toList.getD 48 default)) (.node (some (Tryz.prog.funcs.toList.getD 80 default)) (.node (some (Tryz.prog.funcs.toList.getD 144 default)) .nil .nil) (.node (some (Tryz.prog.funcs.toList.getD 208 default)) .nil .nil)) (.node (some (Tryz.prog.funcs.toList.getD 112 default)) (.node (some (Tryz.prog.funcs.toList.getD 176 default)) .nil .nil) .nil))) (.node (some (Tryz.prog.funcs.toList.getD 24 default)) (.node (some (Tryz.prog.funcs.toList.getD 40 default)) (.node (some (Tryz.prog.funcs.toList.getD 72 default)) (.node (some (Tryz.prog.funcs.toList.getD 136 default)) .nil .nil) (.node (some (Tryz.prog.funcs.toList.getD 200 default)) .nil .nil)) (.node (some (Tryz.prog.funcs.toList.getD 104 default)) (.node (some (Tryz.prog.funcs.toList.getD 168 default)) .nil .nil) (.node (some (Tryz.prog.funcs.toList.getD 232 default)) .nil .nil))) (.node (some (Tryz.prog.funcs.toList.getD 56 default)) (.node (some (Tryz.prog.funcs.toList.getD 88 default)) (.node (some (Tryz.prog.funcs.toList.getD 152 default)) .nil .nil) (.node (some (Tryz.prog.funcs.toList.getD 216 default)) .nil .nil)) (.node (some (Tryz.prog.funcs.toList.getD 120 default)) (.node (some (Tryz.prog.funcs.toList.getD 184 default)) .nil .nil) .nil)))) (.node (some (Tryz.prog.funcs.toList.getD 12 default)) (.node (some (Tryz.prog.funcs.toList.getD 20 default)) (.node (some (Tryz.prog.funcs.toList.getD 36 default)) (.node (some (Tryz.prog.funcs.toList.getD 68 default)) (.node (some (Tryz.prog.funcs.toList.getD 132 default)) .nil .nil) (.node (some (Tryz.prog.funcs.toList.getD 196 default)) .nil .nil)) (.node (some (Tryz.prog.funcs.toList.getD 100 default)) (.node (some (Tryz.prog.funcs.toList.getD 164 default)) .nil .nil) (.node (some (Tryz.prog.funcs.toList.getD 228 default)) .nil .nil))) (.node (some (Tryz.prog.funcs.toList.getD 52 default)) (.node (some (Tryz.prog.funcs.toList.getD 84 default)) (.node (some (Tryz.prog.funcs.toList.getD 148 default)) .nil .nil) (.node (some (Tryz.prog.funcs.toList.getD 212 default)) .nil .nil)) (.node (some (Tryz.prog.funcs.toList.getD 116 default)) (.node (some (Tryz.prog.funcs.toList.getD 180 default)) .nil .nil) .nil))) (.node (some (Tryz.prog.funcs.toList.getD 28 default)) (.node (some (Tryz.prog.funcs.toList.getD 44 default)) (.node (some (Tryz.prog.funcs.toList.getD 76 default)) (.node (some (Tryz.prog.funcs.toList.getD 140 default)) .nil .nil) (.node (some (Tryz.prog.funcs.toList.getD 204 default)) .nil .nil)) (.node (some (Tryz.prog.funcs.toList.getD 108 default)) (.node (some (Tryz.prog.funcs.toList.getD 172 default)) .nil .nil) (.node (some (Tryz.prog.funcs.toList.getD 236 default)) .nil .nil))) (.node (some (Tryz.prog.funcs.toList.getD 60 default)) (.node (some (Tryz.prog.funcs.toList.getD 92 default)) (.node (some (Tryz.prog.funcs.toList.getD 156 default)) .nil .nil) (.node (some (Tryz.prog.funcs.toList.getD 220 default)) .nil .nil)) (.node (some (Tryz.prog.funcs.toList.getD 124 default)) (.node (some (Tryz.prog.funcs.toList.getD 188 default)) .nil .nil) .nil))))) (.node (some (Tryz.prog.funcs.toList.getD 6 default)) (.node (some (Tryz.prog.funcs.toList.getD 10 default)) (.node (some (Tryz.prog.funcs.toList.getD 18 default)) (.node (some (Tryz.prog.funcs.toList.getD 34 default)) (.node (some (Tryz.prog.funcs.toList.getD 66 default)) (.node (some (Tryz.prog.funcs.toList.getD 130 default)) .nil .nil) (.node (some (Tryz.prog.funcs.toList.getD 194 default)) .nil .nil)) (.node (some (Tryz.prog.funcs.toList.getD 98 default)) (.node (some (Tryz.prog.funcs.toList.getD 162 default)) .nil .nil) (.node (some (Tryz.prog.funcs.toList.getD 226 default)) .nil .nil))) (.node (some (Tryz.prog.funcs.toList.getD 50 default)) (.node (some (Tryz.prog.funcs.toList.getD 82 default)) (.node (some (Tryz.prog.funcs.toList.getD 146 default)) .nil .nil) (.node (some (Tryz.prog.funcs.toList.getD 210 default)) .nil .nil)) (.node (some (Tryz.prog.funcs.toList.getD 114 default)) (.node (some (Tryz.prog.funcs.toList.getD 178 default)) .nil .nil) .nil))) (.node (some (Tryz.prog.funcs.toList.getD 26 default)) (.node (some (Tryz.prog.funcs.toList.getD 42 default)) (.node (some (Tryz.prog.funcs.toList.getD 74 default)) (.node (some (Tryz.prog.funcs.toList.getD 138 default)) .nil .nil) (.node (some (Tryz.prog.funcs.toList.getD 202 default)) .nil .nil)) (.node (some (Tryz.prog.funcs.toList.getD 106 default)) (.node (some (Tryz.prog.funcs.toList.getD 170 default)) .nil .nil) (.node (some (Tryz.prog.funcs.toList.getD 234 default)) .nil .nil))) (.node (some (Tryz.prog.funcs.toList.getD 58 default)) (.node (some (Tryz.prog.funcs.toList.getD 90 default)) (.node (some (Tryz.prog.funcs.toList.getD 154 default)) .nil .nil) (.node (some (Tryz.prog.funcs.toList.getD 218 default)) .nil .nil)) (.node (some (Tryz.prog.funcs.toList.getD 122 default)) (.node (some (Tryz.prog.funcs.toList.getD 186 default)) .nil .nil) .nil)))) (.node (some (Tryz.prog.funcs.toList.getD 14 default)) (.node (some (Tryz.prog.funcs.toList.getD 22 default)) (.node (some (Tryz.prog.funcs.toList.getD 38 default)) (.node (some (Tryz.prog.funcs.toList.getD 70 default)) (.node (some (Tryz.prog.funcs.toList.getD 134 default)) .nil .nil) (.node (some (Tryz.prog.funcs.toList.getD 198 default)) .nil .nil)) (.node (some (Tryz.prog.funcs.toList.getD 102 default)) (.node (some (Tryz.prog.funcs.toList.getD 166 default)) .nil .nil) (.node (some (Tryz.prog.funcs.toList.getD 230 default)) .nil .nil))) (.node (some (Tryz.prog.funcs.toList.getD 54 default)) (.node (some (Tryz.prog.funcs.toList.getD 86 default)) (.node (some (Tryz.prog.funcs.toList.getD 150 default)) .nil .nil) (.node (some (Tryz.prog.funcs.toList.getD 214 default)) .nil .nil)) (.node (some (Tryz.prog.funcs.toList.getD 118 default)) (.node (some (Tryz.prog.funcs.toList.getD 182 default)) .nil .nil) .nil))) (.node (some (Tryz.prog.funcs.toList.getD 30 default)) (.node (some (Tryz.prog.funcs.toList.getD 46 default)) (.node (some (Tryz.prog.funcs.toList.getD 78 default)) (.node (some (Tryz.prog.funcs.toList.getD 142 default)) .nil .nil) (.node (some (Tryz.prog.funcs.toList.getD 206 default)) .nil .nil)) (.node (some (Tryz.prog.funcs.toList.getD 110 default)) (.node (some (Tryz.prog.funcs.toList.getD 174 default)) .nil .nil) .nil)) (.node (some (Tryz.prog.funcs.toList.getD 62 default)) (.node (some (Tryz.prog.funcs.toList.getD 94 default)) (.node (some (Tryz.prog.funcs.toList.getD 158 default)) .nil .nil) (.node (some (Tryz.prog.funcs.toList.getD 222 default)) .nil .nil)) (.node (some (Tryz.prog.funcs.toList.getD 126 default)) (.node (some (Tryz.prog.funcs.toList.getD 190 default)) .nil .nil) .nil)))))))
set_option maxRecDepth 100000 in
theorem tiTr_eq : tiTr = Tr.ofList Tryz.prog.types.toList := by kernel_rfl
set_option maxRecDepth 100000 in
theorem fsTr_eq : fsTr = Tr.ofList Tryz.prog.funcs.toList := by kernel_rfl
noncomputable def EV : Env := ⟨tiTr, fsTr, 9, lzOf Tryz.prog, 86, 59, true⟩
noncomputable def EC : Env := ⟨tiTr, fsTr, 9, lzOf Tryz.prog, 86, 59, false⟩
theorem evOk : EnvOk Tryz.prog EV := by
  have h := envOf_ok Tryz.prog 9 86 59 true tyLen fnLen fnNames noesc Tryz.checked.mixed
  have e : EV = envOf Tryz.prog 9 86 59 true := by unfold EV envOf; rw [tiTr_eq, fsTr_eq]
  rw [e]
  exact h
theorem ecOk : EnvOk Tryz.prog EC := by
  have h := envOf_ok Tryz.prog 9 86 59 false tyLen fnLen fnNames noesc Tryz.checked.mixed
  have e : EC = envOf Tryz.prog 9 86 59 false := by unfold EC envOf; rw [tiTr_eq, fsTr_eq]
  rw [e]
  exact h
structure MuG (p : Prop) : Prop where
  mk :: out : p
structure InG (p : Prop) : Prop where
  mk :: out : p
structure CtG : Prop where
  mk :: out : False
structure GnG : Prop where
  mk :: out : False
theorem CtG.no {q : Prop} (h : CtG) : q := h.out.elim
theorem GnG.no {q : Prop} (h : GnG) : q := h.out.elim
theorem evNg : Nat.ble EV.ng 1000 = true := rfl
theorem ecNg : Nat.ble EC.ng 1000 = true := rfl
end Go.Proofs.YtgdhgnhgmbkpdaaGreatDoor.S

namespace Go.Proofs.YtgdhgnhgmbkpdaaGreatDoor.S
open Go.ChangeShapes Go.WideShapes Go.ChangeAt Go.RowKit Go.Joins Go.Deep
open Go.QfSy (Con RV RRel RsRel FzAt roC Fz Tb TabW PureC)
def I64 (n : Int) : Prop := -9223372036854775808 ≤ n ∧ n ≤ 9223372036854775807
def U8 (n : Int) : Prop := 0 ≤ n ∧ n ≤ 255
def fits (c : Con) : Prop := I64 c.exp ∧ I64 c.dim ∧ I64 c.sign ∧ I64 c.oddity
def vals (c : Con) : List Value := [.int .i64 c.exp, .int .i64 c.dim, .int .i64 c.sign, .bool c.odd, .int .i64 c.oddity]
structure Prt where
  x0 : Int
  x1 : Int
  x2 : Int
  x3 : Int
  x4 : Int
deriving Inhabited
def Prt.rvs (p : Prt) : List RV := [.int .u8 p.x0, .int .u8 p.x1, .int .u8 p.x2, .int .u8 p.x3, .int .u8 p.x4]
def Prt.ok (p : Prt) : Prop := U8 p.x0 ∧ U8 p.x1 ∧ U8 p.x2 ∧ U8 p.x3 ∧ U8 p.x4
def Prt.zero : Prt := ⟨0, 0, 0, 0, 0⟩
def Prt.vals (p : Prt) : List Value := [.int .u8 p.x0, .int .u8 p.x1, .int .u8 p.x2, .int .u8 p.x3, .int .u8 p.x4]
def roP (L : List Prt) : RV := .sl L.length 5 (fun i => (L.getD i Prt.zero).rvs)
def Wz (w : World) : Fz := fun B => w.heap[B]?
theorem wf_i64 {n : Int} (h : (Lit.int .i64 n).wf = true) : I64 n := by
  simp only [Lit.wf, Bool.and_eq_true, decide_eq_true_eq] at h
  exact h
theorem wf_u8 {n : Int} (h : (Lit.int .u8 n).wf = true) : 0 ≤ n ∧ n ≤ 255 := by
  simp only [Lit.wf, Bool.and_eq_true, decide_eq_true_eq] at h
  exact h
theorem list_of {α : Type} {R : Nat → α → Prop} : ∀ {n : Nat}, (∀ i, i < n → ∃ c, R i c) → ∃ l : List α, l.length = n ∧ ∀ i c, l[i]? = some c → R i c
  | 0, _ => ⟨[], rfl, fun i c h => by simp at h⟩
  | n + 1, h => by
    obtain ⟨l, hl, hr⟩ := list_of (n := n) (R := R) (fun i hi => h i (by omega))
    obtain ⟨c, hc⟩ := h n (by omega)
    refine ⟨l ++ [c], by simp [hl], fun i x hx => ?_⟩
    by_cases hi : i < n
    · rw [List.getElem?_append_left (by omega)] at hx
      exact hr i x hx
    · rw [List.getElem?_append_right (by omega)] at hx
      have : i = n := by
        have := (List.getElem?_eq_some_iff.1 hx).1
        simp at this
        omega
      subst this
      simp [hl] at hx
      subst hx
      exact hc
theorem five_of {α : Type} {l : List α} (h : l.length = 5) : ∃ a b c d e, l = [a, b, c, d, e] := by
  match l, h with
  | [a, b, c, d, e], _ => exact ⟨a, b, c, d, e, rfl⟩
section
variable {H : Type} {enc : TypeId × Value → H} {P : Program} {w : World} {base : Nat} {spare : Nat → Bool} {held : Bool}
theorem one_int {n : Nat} {t : TypeId} {k : IntKind} {v : Value} {o : Option (DataW H × List MemPlace)} (ht : P.underlying t = some (.int k)) (h : DataW.trod enc P w base spare held n t [v] = o) (ho : o ≠ none) : ∃ z, v = .int k z ∧ (Lit.int k z).wf = true := by
  cases o with
  | none => exact absurd rfl ho
  | some x =>
    obtain ⟨z, hc, _, hw⟩ := DataW.trod_int ht h
    simp at hc
    exact ⟨z, hc, hw⟩
theorem one_bool {n : Nat} {t : TypeId} {v : Value} {o : Option (DataW H × List MemPlace)} (ht : P.underlying t = some .bool) (h : DataW.trod enc P w base spare held n t [v] = o) (ho : o ≠ none) : ∃ z, v = .bool z := by
  cases o with
  | none => exact absurd rfl ho
  | some x =>
    obtain ⟨z, hc, _⟩ := DataW.trod_bool ht h
    simp at hc
    exact ⟨z, hc⟩
theorem at_some {α : Type} {l : List α} {n i : Nat} (h : l.length = n) (hi : i < n) : l[i]? ≠ none := by
  rw [List.getElem?_eq_getElem (by omega)]
  exact Option.some_ne_none _
structure ConTy (P : Program) (t ti tb : TypeId) (fs : Array Field) : Prop where
  und : P.underlying t = some (.struct fs)
  cells : P.cellsOf t = 5
  one : oneCellFields P fs = true
  size : fs.size = 5
  f0 : fs[0]?.map (·.type) = some ti
  f1 : fs[1]?.map (·.type) = some ti
  f2 : fs[2]?.map (·.type) = some ti
  f3 : fs[3]?.map (·.type) = some tb
  f4 : fs[4]?.map (·.type) = some ti
  int : P.underlying ti = some (.int .i64)
  bool : P.underlying tb = some .bool
theorem fld {fs : Array Field} {i : Nat} {t : TypeId} (h : fs[i]?.map (·.type) = some t) : ∃ f, fs[i]? = some f ∧ f.type = t := by
  cases hf : fs[i]? with
  | none => rw [hf] at h; cases h
  | some f => rw [hf] at h; exact ⟨f, rfl, by simpa using h⟩
theorem open_con {t ti tb : TypeId} {fs : Array Field} (hT : ConTy P t ti tb fs) {n : Nat} {cs : List Value} {x : DataW H × List MemPlace} (h : DataW.trod enc P w base spare held n t cs = some x) : ∃ c : Con, cs = vals c ∧ fits c := by
  obtain ⟨ys, m, _, hy, hlen, hyl, hf⟩ := DataW.trod_struct hT.und h
  rw [hT.cells] at hlen
  obtain ⟨c0, c1, c2, c3, c4, rfl⟩ := five_of hlen
  have key : ∀ {i : Nat} {u : TypeId}, fs[i]?.map (·.type) = some u → DataW.trod enc P w base spare held m u (([c0, c1, c2, c3, c4].drop i).take 1) = ys[i]? := by
    intro i u hu
    obtain ⟨f, h1, rfl⟩ := fld hu
    obtain ⟨o, k⟩ := hone_of hT.one i f h1
    have := hf i f h1
    rw [o, k] at this
    exact this
  have hys : ys.length = 5 := hyl.trans hT.size
  obtain ⟨z0, rfl, w0⟩ := one_int hT.int (key hT.f0) (at_some hys (by omega))
  obtain ⟨z1, rfl, w1⟩ := one_int hT.int (key hT.f1) (at_some hys (by omega))
  obtain ⟨z2, rfl, w2⟩ := one_int hT.int (key hT.f2) (at_some hys (by omega))
  obtain ⟨z3, rfl⟩ := one_bool hT.bool (key hT.f3) (at_some hys (by omega))
  obtain ⟨z4, rfl, w4⟩ := one_int hT.int (key hT.f4) (at_some hys (by omega))
  exact ⟨⟨z0, z1, z2, z3, z4⟩, rfl, wf_i64 w0, wf_i64 w1, wf_i64 w2, wf_i64 w4⟩
theorem spot_none {b : Addr} {v : Value} (h : w.cell? b = some v) : b = ⟨b.block, b.off, none⟩ := by
  cases b with
  | mk b o s =>
    cases s with
    | none => rfl
    | some s =>
      unfold World.cell? at h
      split at h <;> simp at h
theorem add_form (a : Addr) (k : Nat) : (a.add k).block = a.block ∧ (a.add k).off = a.off + k := by
  unfold Addr.add
  split
  · rename_i h; subst h; exact ⟨rfl, rfl⟩
  · exact ⟨rfl, rfl⟩
theorem cell_fz {b o : Nat} {v : Value} (h : w.cell? ⟨b, o, none⟩ = some v) : FzAt (Wz w) b o v := by
  unfold World.cell? at h
  split at h
  · rename_i c el fr hc
    simp at h
    exact ⟨c, el, fr, hc, h⟩
  · cases h
theorem five_at {a : Addr} {i : Nat} {cs : List Value} (h : w.cells? base (a.add (i * 5)) 5 = some cs) : cs.length = 5 ∧ a.block < w.heap.size ∧ ∀ j u, cs[j]? = some u → w.cell? ⟨a.block, a.off + i * 5 + j, none⟩ = some u := by
  obtain ⟨_, hl, hc⟩ := World.cells?_some h
  have hlt := World.cells?_block h (by omega)
  refine ⟨hl, by rw [(add_form a (i * 5)).1] at hlt; exact hlt, fun j u hu => ?_⟩
  have hj : j < 5 := by have := (List.getElem?_eq_some_iff.1 hu).1; omega
  have h1 := (hc j hj).trans hu
  have h2 := spot_none h1
  obtain ⟨e1, e2⟩ := add_form (a.add (i * 5)) j
  obtain ⟨e3, e4⟩ := add_form a (i * 5)
  rw [h2, e1, e2, e3, e4] at h1
  exact h1
theorem con_rel {F : Fz} (c : Con) : RsRel F c.rvs (vals c) := .cons (.int _ _) (.cons (.int _ _) (.cons (.int _ _) (.cons (.bool _) (.cons (.int _ _) .nil))))
theorem prt_rel {F : Fz} (p : Prt) : RsRel F p.rvs p.vals := .cons (.int _ _) (.cons (.int _ _) (.cons (.int _ _) (.cons (.int _ _) (.cons (.int _ _) .nil))))
theorem open_rows {α : Type} [Inhabited α] {t u : TypeId} (hcell : P.cellsOf u = 5) (ht : P.underlying t = some (.slice u)) (rv : α → List RV) (vl : α → List Value) (ok : α → Prop) (z : α) (hrel : ∀ (F : Fz) x, RsRel F (rv x) (vl x)) (hlen : ∀ x, (vl x).length = 5)
    (hone : ∀ {n : Nat} {cs : List Value} {x : DataW H × List MemPlace}, DataW.trod enc P w base spare held n u cs = some x → ∃ c : α, cs = vl c ∧ ok c)
    {n : Nat} {v : Value} {x : DataW H × List MemPlace} (h : DataW.trod enc P w base spare held n t [v] = some x) : ∃ L : List α, L.length ≤ maxLen ∧ RRel (Wz w) (.sl L.length 5 (fun i => rv (L.getD i z))) v ∧ ∀ c ∈ L, ok c := by
  rcases open_slice ht h with ⟨h0, _⟩ | ⟨a, len, cap, m, n', D, Pl, hcs, hb, hl, hm, hmm, hx, hi⟩
  · simp at h0
    subst h0
    exact ⟨[], Nat.zero_le _, .sl0 _ _ _ _ rfl, by simp⟩
  · simp at hcs
    rw [hcell] at hi
    have hlm : len ≤ m := by rw [hmm]; split <;> omega
    have hall : ∀ i, i < len → ∃ c : α, ok c ∧ ∀ j u, (vl c)[j]? = some u → w.cell? ⟨a.block, a.off + i * 5 + j, none⟩ = some u := by
      intro i him
      obtain ⟨cs', hc, ht⟩ := hi i (by omega)
      obtain ⟨c, rfl, hfit⟩ := hone ht
      obtain ⟨_, hlt, hat⟩ := five_at hc
      exact ⟨c, hfit, hat⟩
    obtain ⟨L, hll, hr⟩ := list_of hall
    refine ⟨L, by rw [hll]; exact Nat.le_trans hl hm, ?_, fun c hc => ?_⟩
    · subst hcs
      by_cases h0 : len = 0
      · subst h0
        exact .sl0 _ _ _ _ hll
      · have hsp : a = ⟨a.block, a.off, none⟩ := by
          obtain ⟨cs', hc, _⟩ := hi 0 (by omega)
          obtain ⟨_, hl5, hc5⟩ := World.cells?_some hc
          have h1 := hc5 0 (by omega)
          rw [List.getElem?_eq_getElem (by omega)] at h1
          have := spot_none h1
          simpa [Addr.add] using this
        rw [hsp, ← hll]
        refine .sl (fun i => vl (L.getD i z)) (by rw [hll]; exact hl) (fun i _ => hlen _) (fun i j u hi' hu => ?_) (fun i _ => hrel _ _)
        have he : L[i]? = some (L.getD i z) := by simp [hi']
        exact cell_fz ((hr i _ he).2 j u hu)
    · obtain ⟨i, hi', he⟩ := List.getElem_of_mem hc
      exact (hr i c (by rw [List.getElem?_eq_getElem hi', he])).1
theorem open_lst {t u ti tb : TypeId} {fs : Array Field} (hT : ConTy P u ti tb fs) (ht : P.underlying t = some (.slice u)) {n : Nat} {v : Value} {x : DataW H × List MemPlace} (h : DataW.trod enc P w base spare held n t [v] = some x) : ∃ L : List Con, L.length ≤ maxLen ∧ RRel (Wz w) (roC L) v ∧ ∀ c ∈ L, fits c :=
  open_rows hT.cells ht Con.rvs vals fits Con.zero (fun _ c => con_rel c) (fun _ => rfl) (fun h => open_con hT h) h
structure PartTy (P : Program) (t tu : TypeId) : Prop where
  und : P.underlying t = some (.array 5 tu)
  cells : P.cellsOf t = 5
  u8 : P.underlying tu = some (.int .u8)
  one : P.cellsOf tu = 1
theorem open_part {t tu : TypeId} (hT : PartTy P t tu) {n : Nat} {cs : List Value} {x : DataW H × List MemPlace} (h : DataW.trod enc P w base spare held n t cs = some x) :
    ∃ p : Prt, cs = p.vals ∧ p.ok := by
  obtain ⟨ys, m, _, hy, hlen, hyl, hf⟩ := DataW.trod_array hT.und h
  rw [hT.cells] at hlen
  obtain ⟨c0, c1, c2, c3, c4, rfl⟩ := five_of hlen
  rw [hT.one] at hf
  have f0 := hf 0 (by omega)
  have f1 := hf 1 (by omega)
  have f2 := hf 2 (by omega)
  have f3 := hf 3 (by omega)
  have f4 := hf 4 (by omega)
  obtain ⟨z0, rfl, w0⟩ := one_int hT.u8 f0 (at_some hyl (by omega))
  obtain ⟨z1, rfl, w1⟩ := one_int hT.u8 f1 (at_some hyl (by omega))
  obtain ⟨z2, rfl, w2⟩ := one_int hT.u8 f2 (at_some hyl (by omega))
  obtain ⟨z3, rfl, w3⟩ := one_int hT.u8 f3 (at_some hyl (by omega))
  obtain ⟨z4, rfl, w4⟩ := one_int hT.u8 f4 (at_some hyl (by omega))
  exact ⟨⟨z0, z1, z2, z3, z4⟩, rfl, wf_u8 w0, wf_u8 w1, wf_u8 w2, wf_u8 w3, wf_u8 w4⟩
theorem open_prts {t u tu : TypeId} (hT : PartTy P u tu) (ht : P.underlying t = some (.slice u)) {n : Nat} {v : Value} {x : DataW H × List MemPlace} (h : DataW.trod enc P w base spare held n t [v] = some x) : ∃ L : List Prt, L.length ≤ maxLen ∧ RRel (Wz w) (roP L) v ∧ ∀ c ∈ L, c.ok :=
  open_rows hT.cells ht Prt.rvs Prt.vals Prt.ok Prt.zero (fun _ c => prt_rel c) (fun _ => rfl) (fun h => open_part hT h) h
theorem trodAll_stays (hl : laidOutB P = true) {W W' : World} (hb : Below W.heap.size W W') : ∀ {ts : List TypeId} {vs : List Value} {ds : List (DataW H)} {ps : List MemPlace}, (∀ t ∈ ts, P.readableRec t = true ∧ t < P.types.size) →
    DataW.TrodAll enc P W 0 (fun _ => true) true ts vs ds ps → (∀ p ∈ ps, p.block < W.heap.size) → ∀ sp : Nat → Bool, (∀ p ∈ ps, sp p.block = true) → DataW.TrodAll enc P W' 0 sp true ts vs ds ps
  | [], vs, ds, ps, _, h, _, sp, _ => by
    cases vs <;> cases ds <;> simp [DataW.TrodAll] at h ⊢
    exact h
  | t :: ts, vs, ds, ps, ht, h, hlt, sp, hs => by
    obtain ⟨v, vs', d, ds', p, q, rfl, rfl, rfl, h1, h2⟩ := trodAll_cons h
    obtain ⟨r1, r2⟩ := ht t (by simp)
    exact trodAll_cons_mk (WideElems.Trod_stays hl r1 r2 h1 (fun x hx => hb.same (hlt x (by simp [hx]))) (fun x hx => hs x (by simp [hx])))
      (trodAll_stays hl hb (fun u hu => ht u (by simp [hu])) h2 (fun x hx => hlt x (by simp [hx])) sp (fun x hx => hs x (by simp [hx])))
theorem law_post {f : Func} {s : ChangeSpec} {apart fresh handsOn again : Bool} {W W' : World} {args : Array Value} {ds : List (DataW H)} {gs : List (DataW H)} {before : List MemPlace} {tb : TypeId}
    (hl : laidOutB P = true) (htys : ∀ t ∈ f.params.toList, P.readableRec t = true ∧ t < P.types.size) (hvars : s.vars = []) (htb : P.underlying tb = some .bool) (hres : f.resultTypes = #[tb])
    (hW : DataW.Whole enc P f.params.toList s.vars apart W args.toList ds gs before) (hfn : s.fn H ds = { results := [.lit (.bool true)], args := ds })
    (hb : Below W.heap.size W W') : s.post enc P f apart fresh handsOn again W args (.bool true) W' := by
  have hlt : ∀ p ∈ before, p.block < W.heap.size := fun p hp => hW.lt p hp
  have hW' := hW
  obtain ⟨p, q, hA, hV, rfl, hfz, hnd⟩ := hW
  rw [hvars] at hV
  obtain ⟨rfl, rfl⟩ := trodVars_none hV
  simp only [List.append_nil] at hW' hlt hfz hnd
  have hfn' : s.fn H (ds ++ []) = { results := [.lit (.bool true)], args := ds } := by rw [List.append_nil]; exact hfn
  have hbool : ∀ (b : Nat) (sp : Nat → Bool) (hd : Bool), DataW.TrodAll enc P W' b sp hd f.resultTypes.toList ((Value.bool true).resultList f.resultTypes.size) (s.fn H (ds ++ [])).results [] := by
    intro b sp hd
    rw [hres, hfn']
    exact trodAll_mk1 ⟨1, by simp [DataW.trod, htb, Value.cells]⟩
  have hargs : ∀ sp : Nat → Bool, (∀ x ∈ p, sp x.block = true) → DataW.TrodAll enc P W' 0 sp true f.params.toList args.toList (s.fn H (ds ++ [])).args p := by
    intro sp hs
    rw [hfn']
    exact trodAll_stays hl hb htys hA hlt sp hs
  have hvs : ∀ sp : Nat → Bool, DataW.TrodVars enc P W' sp s.vars (s.fn H (ds ++ [])).vars [] := by
    intro sp
    rw [hfn', hvars]
    rfl
  have hold : ∀ x ∈ p, (fun b => decide (b < W.heap.size)) x.block = true := fun x hx => by simpa using hlt x hx
  refine ⟨ds, [], p, [], p, [], hW', hbool _ _ _, hargs _ hold, hvs _, World.keptBut_mono (fun x hx => ⟨hx, ?_⟩) (hb.frame (· ∈ p)), fun _ => ?_⟩
  · exact Or.inr (by simpa using hx)
  · refine ⟨?_, _, _, ([] ++ p) ++ [], ⟨[] ++ p, [], trodAll_append (hargs _ (fun _ _ => rfl)) (hbool _ _ _), hvs _, rfl, ?_, ?_⟩, ?_⟩
    · intro j t r ht hr
      rw [hres] at ht hr
      match j, ht with
      | 0, ht =>
        simp at ht hr
        subst ht
        simp [Value.resultList] at hr
        subst hr
        exact okWide_bool_mk htb _
      | j + 1, ht => simp at ht
    · intro b off hp
      have hin : MemPlace.cell b off ∈ p := by simpa using hp
      rw [hb.frozen (hlt _ hin)]
      exact hfz b off hin
    · intro ha
      simpa using hnd ha
    · intro x hx _
      simpa using hx
end
theorem pure_calls {P : Program} {ts : List Tb} {f : Nat} {A : List RV} (h : PureC P ts f A (.bool true)) {w : World} (hT : TabW ts w) {Args : List Value} (hR : RsRel (Wz w) A Args) :
    Calls P f Args.toArray w fun e w' => e = .returned (.bool true) ∧ Below w.heap.size w w' := by
  refine (h.2 w (Wz w) Args hT (fun B x hx => hx) hR).mono ?_
  rintro e w' ⟨V, F', rfl, _, _, _, hV, hb⟩
  cases hV
  exact ⟨rfl, hb⟩
theorem tab_block {P : Program} {W : World} {name : String} {k : IntKind} {zs : List Int} {g : Nat} {t : TypeId} {cs : Array Value} (hg : P.globalNamed name = some g) (ht : Lib.TabIs P W name k zs) (h1 : W.heap[g]? = some (.cells cs t)) :
    W.heap[g]? = some (.cells (zs.map fun z => Value.int k z).toArray t (0, 0)) := by
  unfold Lib.TabIs World.var? at ht
  rw [hg] at ht
  simp only [Option.bind_some, h1] at ht
  injection ht with ht
  rw [h1, ht]
theorem row_of {P : Program} {W : World} {g : Nat} {t : TypeId} (hsz : g < P.globals.size) (hr : (((begin P (fun _ _ => 0) default).world.heap[g]?).bind Obj.row?).map (·.2) = some t) (hS : W.ShapedOpen P) :
    ∃ cs u, W.heap[g]? = some (.cells cs u) ∧ u = t := by
  cases hz : ((begin P (fun _ _ => 0) default).world.heap[g]?).bind Obj.row? with
  | none => rw [hz] at hr; cases hr
  | some zt =>
    obtain ⟨zero, u⟩ := zt
    rw [hz] at hr
    obtain ⟨cs, h1, _⟩ := hS.1 g zero _ hsz hz
    exact ⟨cs, u, h1, by simpa using hr⟩
structure TwoTy (P : Program) (t t0 t1 : TypeId) (f0 f1 : Field) : Prop where
  und : P.underlying t = some (.struct #[f0, f1])
  one : oneCellFields P #[f0, f1] = true
  cells : P.cellsOf t = 2
  e0 : f0.type = t0
  e1 : f1.type = t1
section
variable {H : Type} {enc : TypeId × Value → H} {P : Program} {w : World} {base : Nat} {spare : Nat → Bool} {held : Bool} {r : Reach} {b0 : Nat} {v : Value} {d : DataW H} {p : List MemPlace}
theorem two_of {t t0 t1 : TypeId} {f0 f1 : Field} (hT : TwoTy P t t0 t1 f0 f1) (hv : Value.okWide P w r b0 t v) (h : DataW.Trod enc P w base spare held t v d p) :
    ∃ v0 v1 y0 y1 n, v = .agg #[v0, v1] ∧ DataW.trod enc P w base spare held n t0 [v0] = some y0 ∧ DataW.trod enc P w base spare held n t1 [v1] = some y1 := by
  obtain ⟨v0, v1, y0, y1, n, e, _, _, h0, h1⟩ := open_agg2 hT.und hT.one hT.cells hv h
  rw [hT.e0] at h0
  rw [hT.e1] at h1
  exact ⟨v0, v1, y0, y1, n, e, h0, h1⟩
structure LocalTys (P : Program) (t : TypeId) : Prop where
  has : ∃ (t0 t1 u ti tb : TypeId) (f0 f1 : Field) (fs : Array Field), TwoTy P t t0 t1 f0 f1 ∧ ConTy P u ti tb fs ∧ P.underlying t0 = some (.int .i64) ∧ P.underlying t1 = some (.slice u)
structure SymbolTys (P : Program) (t : TypeId) : Prop where
  has : ∃ (t0 t1 u tu : TypeId) (f0 f1 : Field), TwoTy P t t0 t1 f0 f1 ∧ PartTy P u tu ∧ P.underlying t0 = some (.int .u8) ∧ P.underlying t1 = some (.slice u)
theorem open_local {t : TypeId} (hT : LocalTys P t) (hv : Value.okWide P w r b0 t v) (h : DataW.Trod enc P w base spare held t v d p) :
    ∃ q L, RRel (Wz w) (.agg [.int .i64 q, roC L]) v ∧ I64 q ∧ L.length ≤ maxLen ∧ ∀ x ∈ L, fits x := by
  obtain ⟨_, _, _, _, _, _, _, _, h1, h2, h3, h4⟩ := hT.has
  obtain ⟨v0, v1, y0, y1, n, rfl, g0, g1⟩ := two_of h1 hv h
  obtain ⟨z, rfl, hz⟩ := one_int h3 g0 (Option.some_ne_none _)
  obtain ⟨L, hl, hR, hf⟩ := open_lst h2 h4 g1
  exact ⟨z, L, .agg (.cons (.int _ _) (.cons hR .nil)), wf_i64 hz, hl, hf⟩
theorem open_symbol {t : TypeId} (hT : SymbolTys P t) (hv : Value.okWide P w r b0 t v) (h : DataW.Trod enc P w base spare held t v d p) :
    ∃ q L, RRel (Wz w) (.agg [.int .u8 q, roP L]) v ∧ U8 q ∧ L.length ≤ maxLen ∧ ∀ x ∈ L, x.ok := by
  obtain ⟨_, _, _, _, _, _, h1, h2, h3, h4⟩ := hT.has
  obtain ⟨v0, v1, y0, y1, n, rfl, g0, g1⟩ := two_of h1 hv h
  obtain ⟨z, rfl, hz⟩ := one_int h3 g0 (Option.some_ne_none _)
  obtain ⟨L, hl, hR, hf⟩ := open_prts h2 h4 g1
  exact ⟨z, L, .agg (.cons (.int _ _) (.cons hR .nil)), wf_u8 hz, hl, hf⟩
end
section
variable {H : Type} {enc : TypeId × Value → H} {P : Program} {w : World} {base : Nat} {spare : Nat → Bool} {held : Bool} {r : Reach} {b0 : Nat} {v : Value} {d : DataW H} {p : List MemPlace}
end
theorem conTy : ∃ fs, ConTy Tryz.prog 59 3 4 fs :=
  ⟨_, { und := Tryz.underlying59, cells := by kernel_rfl, one := by kernel_rfl, size := by kernel_rfl, f0 := by kernel_rfl, f1 := by kernel_rfl, f2 := by kernel_rfl, f3 := by kernel_rfl, f4 := by kernel_rfl, int := Tryz.underlying3, bool := Tryz.underlying4 }⟩
theorem partTy : PartTy Tryz.prog 93 5 := { und := Tryz.underlying93, cells := by kernel_rfl, u8 := Tryz.underlying5, one := by kernel_rfl }
theorem localTys : LocalTys Tryz.prog 24 := by
  obtain ⟨fs, hC⟩ := conTy
  exact ⟨_, _, _, _, _, _, _, _, { und := Tryz.underlying24, one := by kernel_rfl, cells := by kernel_rfl, e0 := rfl, e1 := rfl }, hC, Tryz.underlying2, Tryz.underlying22⟩
theorem symbolTys : SymbolTys Tryz.prog 27 :=
  ⟨_, _, _, _, _, _, { und := Tryz.underlying27, one := by kernel_rfl, cells := by kernel_rfl, e0 := rfl, e1 := rfl }, partTy, Tryz.underlying5, Tryz.underlying25⟩
end Go.Proofs.YtgdhgnhgmbkpdaaGreatDoor.S

namespace Go.Proofs.YtgdhgnhgmbkpdaaGreatDoor.S
open Go.QfSy
def tabs : List Tb := [
  ⟨7, .u8, [0, 1, 28, 2, 29, 14, 24, 3, 30, 22, 20, 15, 25, 17, 4, 8, 31, 27, 13, 23, 21, 19, 16, 7, 26, 12, 18, 6, 11, 5, 10, 9], 239⟩,
  ⟨8, .u8, [0, 1, 56, 2, 57, 49, 28, 3, 61, 58, 42, 50, 38, 29, 17, 4, 62, 47, 59, 36, 45, 43, 51, 22, 53, 39, 33, 30, 24, 18, 12, 5, 63, 55, 48, 27, 60, 41, 37, 16, 46, 35, 44, 21, 52, 32, 23, 11, 54, 26, 40, 15, 34, 20, 31, 10, 25, 14, 19, 9, 13, 8, 7, 6], 240⟩,
  ⟨1, .u64, [1, 10, 100, 1000, 10000, 100000, 1000000, 10000000, 100000000, 1000000000, 10000000000, 100000000000, 1000000000000, 10000000000000, 100000000000000, 1000000000000000, 10000000000000000, 100000000000000000, 1000000000000000000, 10000000000000000000], 176⟩,
  ⟨4, .u8, [], 54⟩,
  ⟨3, .u8, [], 54⟩,
  ⟨0, .i64, [7, 11, 13, 17, 19, 23, 29, 31], 173⟩,
  ⟨2, .i64, [], 3⟩]
end Go.Proofs.YtgdhgnhgmbkpdaaGreatDoor.S

namespace Go.Proofs.YtgdhgnhgmbkpdaaGreatDoor.S
open Go.ChangeShapes Go.WideShapes Go.ChangeAt Go.RowKit Go.QfSy
theorem own : ownKnob Tryz.prog.godebug = none := by kernel_rfl
theorem laidOut : laidOutB Tryz.prog = true := by kernel_rfl
theorem star : "*" ++ "errors.errorString" = "*errors.errorString" := by decide
theorem rowErr (u : TypeId) (h : Tryz.prog.typeName? 3 u = some "*errors.errorString") : u = 219 :=
  typeName_ptr_named (nm := "errors.errorString") (by rw [star]; kernel_rfl) (by kernel_rfl) (by decide) u (by rw [star]; exact h)
theorem cellsErr : Tryz.prog.cellsOf 221 = 1 := by kernel_rfl
theorem cellsStr : Tryz.prog.cellsOf 9 = 1 := by kernel_rfl
theorem gn0 : Tryz.prog.globalNamed "math/bits.deBruijn32tab" = some 7 := by kernel_rfl
theorem gt0 : (Tryz.prog.globals[7]?).map (·.type) = some 239 := by kernel_rfl
theorem gs0 : 7 < Tryz.prog.globals.size := by show Nat.lt _ _; exact Nat.le_of_ble_eq_true (by kernel_rfl)
theorem gr0 : (((begin Tryz.prog (fun _ _ => 0) default).world.heap[7]?).bind Obj.row?).map (·.2) = some 239 := by kernel_rfl
theorem gc0 : Tryz.prog.cellsOf 239 = 32 := by kernel_rfl
theorem ge0 : Tryz.prog.cellsOf 5 = 1 := by kernel_rfl
theorem gl0 {W : World} {rest : List (String × DataW Unit)} (h : laidMet Tryz.prog (("math/bits.deBruijn32tab", Rows.laid_math_bits_deBruijn32tab) :: rest) W) (hS : W.ShapedOpen Tryz.prog) : TabAt ⟨7, .u8, [0, 1, 28, 2, 29, 14, 24, 3, 30, 22, 20, 15, 25, 17, 4, 8, 31, 27, 13, 23, 21, 19, 16, 7, 26, 12, 18, 6, 11, 5, 10, 9], 239⟩ W := by
  have ht : Lib.TabIs Tryz.prog W "math/bits.deBruijn32tab" .u8 [0, 1, 28, 2, 29, 14, 24, 3, 30, 22, 20, 15, 25, 17, 4, 8, 31, 27, 13, 23, 21, 19, 16, 7, 26, 12, 18, 6, 11, 5, 10, 9] :=
    Lib.tabIs_of_head gn0 gt0 Tryz.underlying239 Tryz.underlying5 ge0 gc0 h
  obtain ⟨cs, t, h1, h2⟩ := row_of gs0 gr0 hS
  subst h2
  exact tab_block gn0 ht h1
theorem gn1 : Tryz.prog.globalNamed "math/bits.deBruijn64tab" = some 8 := by kernel_rfl
theorem gt1 : (Tryz.prog.globals[8]?).map (·.type) = some 240 := by kernel_rfl
theorem gs1 : 8 < Tryz.prog.globals.size := by show Nat.lt _ _; exact Nat.le_of_ble_eq_true (by kernel_rfl)
theorem gr1 : (((begin Tryz.prog (fun _ _ => 0) default).world.heap[8]?).bind Obj.row?).map (·.2) = some 240 := by kernel_rfl
theorem gc1 : Tryz.prog.cellsOf 240 = 64 := by kernel_rfl
theorem ge1 : Tryz.prog.cellsOf 5 = 1 := by kernel_rfl
theorem gl1 {W : World} {rest : List (String × DataW Unit)} (h : laidMet Tryz.prog (("math/bits.deBruijn64tab", Rows.laid_math_bits_deBruijn64tab) :: rest) W) (hS : W.ShapedOpen Tryz.prog) : TabAt ⟨8, .u8, [0, 1, 56, 2, 57, 49, 28, 3, 61, 58, 42, 50, 38, 29, 17, 4, 62, 47, 59, 36, 45, 43, 51, 22, 53, 39, 33, 30, 24, 18, 12, 5, 63, 55, 48, 27, 60, 41, 37, 16, 46, 35, 44, 21, 52, 32, 23, 11, 54, 26, 40, 15, 34, 20, 31, 10, 25, 14, 19, 9, 13, 8, 7, 6], 240⟩ W := by
  have ht : Lib.TabIs Tryz.prog W "math/bits.deBruijn64tab" .u8 [0, 1, 56, 2, 57, 49, 28, 3, 61, 58, 42, 50, 38, 29, 17, 4, 62, 47, 59, 36, 45, 43, 51, 22, 53, 39, 33, 30, 24, 18, 12, 5, 63, 55, 48, 27, 60, 41, 37, 16, 46, 35, 44, 21, 52, 32, 23, 11, 54, 26, 40, 15, 34, 20, 31, 10, 25, 14, 19, 9, 13, 8, 7, 6] :=
    Lib.tabIs_of_head gn1 gt1 Tryz.underlying240 Tryz.underlying5 ge1 gc1 h
  obtain ⟨cs, t, h1, h2⟩ := row_of gs1 gr1 hS
  subst h2
  exact tab_block gn1 ht h1
theorem gn2 : Tryz.prog.globalNamed "internal/strconv.uint64pow10" = some 1 := by kernel_rfl
theorem gt2 : (Tryz.prog.globals[1]?).map (·.type) = some 176 := by kernel_rfl
theorem gs2 : 1 < Tryz.prog.globals.size := by show Nat.lt _ _; exact Nat.le_of_ble_eq_true (by kernel_rfl)
theorem gr2 : (((begin Tryz.prog (fun _ _ => 0) default).world.heap[1]?).bind Obj.row?).map (·.2) = some 176 := by kernel_rfl
theorem gc2 : Tryz.prog.cellsOf 176 = 20 := by kernel_rfl
theorem ge2 : Tryz.prog.cellsOf 126 = 1 := by kernel_rfl
theorem gl2 {W : World} {rest : List (String × DataW Unit)} (h : laidMet Tryz.prog (("internal/strconv.uint64pow10", Rows.laid_internal_strconv_uint64pow10) :: rest) W) (hS : W.ShapedOpen Tryz.prog) : TabAt ⟨1, .u64, [1, 10, 100, 1000, 10000, 100000, 1000000, 10000000, 100000000, 1000000000, 10000000000, 100000000000, 1000000000000, 10000000000000, 100000000000000, 1000000000000000, 10000000000000000, 100000000000000000, 1000000000000000000, 10000000000000000000], 176⟩ W := by
  have ht : Lib.TabIs Tryz.prog W "internal/strconv.uint64pow10" .u64 [1, 10, 100, 1000, 10000, 100000, 1000000, 10000000, 100000000, 1000000000, 10000000000, 100000000000, 1000000000000, 10000000000000, 100000000000000, 1000000000000000, 10000000000000000, 100000000000000000, 1000000000000000000, 10000000000000000000] :=
    Lib.tabIs_of_head gn2 gt2 Tryz.underlying176 Tryz.underlying126 ge2 gc2 h
  obtain ⟨cs, t, h1, h2⟩ := row_of gs2 gr2 hS
  subst h2
  exact tab_block gn2 ht h1
theorem gn4 : Tryz.prog.globalNamed "strconv.ErrRange" = some 4 := by kernel_rfl
theorem gt4 : (Tryz.prog.globals[4]?).map (·.type) = some 54 := by kernel_rfl
theorem gs4 : 4 < Tryz.prog.globals.size := by show Nat.lt _ _; exact Nat.le_of_ble_eq_true (by kernel_rfl)
theorem gr4 : (((begin Tryz.prog (fun _ _ => 0) default).world.heap[4]?).bind Obj.row?).map (·.2) = some 54 := by kernel_rfl
theorem gl4 {W : World} {rest : List (String × DataW Unit)} (h : laidMet Tryz.prog (("strconv.ErrRange", Rows.laid_strconv_ErrRange) :: rest) W) (hS : W.ShapedOpen Tryz.prog) : TabAt ⟨4, .u8, [], 54⟩ W := by
  obtain ⟨a, s, hv, _⟩ := laid_sentinel h gn4 gt4 Tryz.underlying54 rowErr Tryz.underlying219 Tryz.underlying221 rfl rfl Tryz.underlying9 cellsErr cellsStr
  obtain ⟨cs, t, h1, h2⟩ := row_of gs4 gr4 hS
  subst h2
  unfold World.var? at hv
  rw [gn4] at hv
  simp only [Option.bind_some, h1] at hv
  injection hv with hv
  have e : W.heap[4]? = some (.cells #[.iface 219 (.pointer (some a))] 54 (0, 0)) := by rw [h1, hv]
  exact ⟨_, .inr ⟨rfl, _, _, rfl⟩, e⟩
theorem gn5 : Tryz.prog.globalNamed "strconv.ErrSyntax" = some 3 := by kernel_rfl
theorem gt5 : (Tryz.prog.globals[3]?).map (·.type) = some 54 := by kernel_rfl
theorem gs5 : 3 < Tryz.prog.globals.size := by show Nat.lt _ _; exact Nat.le_of_ble_eq_true (by kernel_rfl)
theorem gr5 : (((begin Tryz.prog (fun _ _ => 0) default).world.heap[3]?).bind Obj.row?).map (·.2) = some 54 := by kernel_rfl
theorem gl5 {W : World} {rest : List (String × DataW Unit)} (h : laidMet Tryz.prog (("strconv.ErrSyntax", Rows.laid_strconv_ErrSyntax) :: rest) W) (hS : W.ShapedOpen Tryz.prog) : TabAt ⟨3, .u8, [], 54⟩ W := by
  obtain ⟨a, s, hv, _⟩ := laid_sentinel h gn5 gt5 Tryz.underlying54 rowErr Tryz.underlying219 Tryz.underlying221 rfl rfl Tryz.underlying9 cellsErr cellsStr
  obtain ⟨cs, t, h1, h2⟩ := row_of gs5 gr5 hS
  subst h2
  unfold World.var? at hv
  rw [gn5] at hv
  simp only [Option.bind_some, h1] at hv
  injection hv with hv
  have e : W.heap[3]? = some (.cells #[.iface 219 (.pointer (some a))] 54 (0, 0)) := by rw [h1, hv]
  exact ⟨_, .inr ⟨rfl, _, _, rfl⟩, e⟩
theorem gn6 : Tryz.prog.globalNamed "quadform/prime.offsets" = some 0 := by kernel_rfl
theorem gt6 : (Tryz.prog.globals[0]?).map (·.type) = some 173 := by kernel_rfl
theorem gs6 : 0 < Tryz.prog.globals.size := by show Nat.lt _ _; exact Nat.le_of_ble_eq_true (by kernel_rfl)
theorem gr6 : (((begin Tryz.prog (fun _ _ => 0) default).world.heap[0]?).bind Obj.row?).map (·.2) = some 173 := by kernel_rfl
theorem gc6 : Tryz.prog.cellsOf 173 = 8 := by kernel_rfl
theorem ge6 : Tryz.prog.cellsOf 2 = 1 := by kernel_rfl
theorem gl6 {W : World} {rest : List (String × DataW Unit)} (h : laidMet Tryz.prog (("quadform/prime.offsets", Rows.laid_quadform_prime_offsets) :: rest) W) (hS : W.ShapedOpen Tryz.prog) : TabAt ⟨0, .i64, [7, 11, 13, 17, 19, 23, 29, 31], 173⟩ W := by
  have ht : Lib.TabIs Tryz.prog W "quadform/prime.offsets" .i64 [7, 11, 13, 17, 19, 23, 29, 31] :=
    Lib.tabIs_of_head gn6 gt6 Tryz.underlying173 Tryz.underlying2 ge6 gc6 h
  obtain ⟨cs, t, h1, h2⟩ := row_of gs6 gr6 hS
  subst h2
  exact tab_block gn6 ht h1
theorem gsM : 2 < Tryz.prog.globals.size := by show Nat.lt _ _; exact Nat.le_of_ble_eq_true (by kernel_rfl)
theorem grM : ((begin Tryz.prog (fun _ _ => 0) default).world.heap[2]?).bind Obj.row? = some (#[.int .i64 0], 3) := by kernel_rfl
theorem glM {W : World} (hS : W.ShapedOpen Tryz.prog) : TabAt ⟨2, .i64, [], 3⟩ W := by
  obtain ⟨cs, hh, hs, hr⟩ := hS.1 _ _ _ gsM grM
  obtain ⟨m, hm⟩ := Go.Proofs.cell_of_shapedOpen_int hS gsM grM rfl (by kernel_rfl) (by kernel_rfl) Tryz.underlying3
  refine ⟨.int .i64 m, ⟨m, rfl⟩, ?_⟩
  show W.heap[2]? = _
  rw [hh]
  have h1 : cs.size = 1 := hs
  simp only [World.cell?, hh] at hm
  obtain ⟨l⟩ := cs
  match l, h1 with
  | [x], _ =>
    have : x = Value.int .i64 m := by simpa using hm
    rw [this]
theorem tabs_of {W : World} (h : laidMet Tryz.prog [("math/bits.deBruijn32tab", Rows.laid_math_bits_deBruijn32tab), ("math/bits.deBruijn64tab", Rows.laid_math_bits_deBruijn64tab), ("internal/strconv.uint64pow10", Rows.laid_internal_strconv_uint64pow10), ("unicode/utf8.acceptRanges", Rows.laid_unicode_utf8_acceptRanges), ("strconv.ErrRange", Rows.laid_strconv_ErrRange), ("strconv.ErrSyntax", Rows.laid_strconv_ErrSyntax), ("quadform/prime.offsets", Rows.laid_quadform_prime_offsets), ("unicode/utf8.first", Rows.laid_unicode_utf8_first)] W) (hS : W.ShapedOpen Tryz.prog) : TabW tabs W := by
  intro t ht
  simp only [tabs, List.mem_cons, List.not_mem_nil, or_false] at ht
  rcases ht with rfl | rfl | rfl | rfl | rfl | rfl | rfl
  · exact gl0 h hS
  · exact gl1 (laidMet.tail h) hS
  · exact gl2 (laidMet.tail (laidMet.tail h)) hS
  · exact gl4 (laidMet.tail (laidMet.tail (laidMet.tail (laidMet.tail h)))) hS
  · exact gl5 (laidMet.tail (laidMet.tail (laidMet.tail (laidMet.tail (laidMet.tail h))))) hS
  · exact gl6 (laidMet.tail (laidMet.tail (laidMet.tail (laidMet.tail (laidMet.tail (laidMet.tail h)))))) hS
  · exact glM hS
def dc0 : DataW Unit → List Value
  | .lit (.int k n) => [.int k n]
  | _ => []
def dc1 : DataW Unit → List Value
  | .lit (.int k n) => [.int k n]
  | .agg l => l.flatMap dc0
  | _ => []
def dc2 : DataW Unit → Array Value
  | .agg l => (l.flatMap dc1).toArray
  | _ => #[]
def lay2 (g : Nat) (cs : Array Value) (w : World) : World :=
  { w with heap := w.heap.modify g fun
      | .cells _ t frozen => .cells cs t frozen
      | o => o }
noncomputable def low : Nat := (World.holding Tryz.prog default ⟨#[], #[], []⟩).heap.size
noncomputable def laidWorld (os : Os) : World := (lay2 5 (dc2 Rows.laid_unicode_utf8_first) (lay2 0 (dc2 Rows.laid_quadform_prime_offsets) (lay2 3 #[.iface 219 (.pointer (some ⟨low + 1, 0, none⟩))] (lay2 4 #[.iface 219 (.pointer (some ⟨low + 0, 0, none⟩))] (lay2 6 (dc2 Rows.laid_unicode_utf8_acceptRanges) (lay2 1 (dc2 Rows.laid_internal_strconv_uint64pow10) (lay2 8 (dc2 Rows.laid_math_bits_deBruijn64tab) (lay2 7 (dc2 Rows.laid_math_bits_deBruijn32tab) (World.holding Tryz.prog os ⟨#[.cells #[.string { data := #[118, 97, 108, 117, 101, 32, 111, 117, 116, 32, 111, 102, 32, 114, 97, 110, 103, 101] }] 221, .cells #[.string { data := #[105, 110, 118, 97, 108, 105, 100, 32, 115, 121, 110, 116, 97, 120] }] 221], #[], []⟩)))))))))
end Go.Proofs.YtgdhgnhgmbkpdaaGreatDoor.S

namespace Go.Proofs.YtgdhgnhgmbkpdaaGreatDoor.S
open Go.Lib
def spl : List UInt8 → List (List UInt8)
  | [] => [[]]
  | c :: l => if c = 32 then [] :: spl l else match spl l with
    | w :: ws => (c :: w) :: ws
    | [] => [[c]]
theorem spl_ne : ∀ l, spl l ≠ []
  | [] => by simp [spl]
  | c :: l => by
    rw [spl]
    split
    · simp
    · split <;> simp
theorem spl_none : ∀ {l : List UInt8}, indexByte l 32 = -1 → spl l = [l]
  | [], _ => rfl
  | c :: l, h => by
    unfold indexByte at h
    split at h
    · cases h
    · rename_i hc
      have hc : c ≠ 32 := by simpa using hc
      have h2 : indexByte l 32 = -1 := by
        split at h
        · rename_i h3; simpa using h3
        · have := indexByte_ge l 32; omega
      rw [spl, if_neg hc, spl_none h2]
theorem spl_some : ∀ {l : List UInt8} {i : Nat}, indexByte l 32 = (i : Int) → i < l.length ∧ spl l = l.take i :: spl (l.drop (i + 1))
  | [], i, h => by unfold indexByte at h; omega
  | c :: l, i, h => by
    unfold indexByte at h
    split at h
    · rename_i hc
      have hc : c = 32 := by simpa using hc
      have : i = 0 := by omega
      subst this
      refine ⟨by simp, ?_⟩
      rw [spl, if_pos hc]; rfl
    · rename_i hc
      have hc : c ≠ 32 := by simpa using hc
      split at h
      · omega
      · rename_i h3
        have h3 : indexByte l 32 ≠ -1 := by simpa using h3
        have h4 := indexByte_ge l 32
        obtain ⟨j, rfl⟩ : ∃ j, i = j + 1 := ⟨i - 1, by omega⟩
        obtain ⟨q1, q2⟩ := spl_some (l := l) (i := j) (by omega)
        refine ⟨by simp; omega, ?_⟩
        rw [spl, if_neg hc, q2]
        rfl
end Go.Proofs.YtgdhgnhgmbkpdaaGreatDoor.S

namespace Go.Proofs.YtgdhgnhgmbkpdaaGreatDoor.S
open Go.Lib
theorem index_one {c : UInt8} : ∀ {a : List UInt8} (b : List UInt8), c ∉ a → index (a ++ c :: b) [c] = a.length
  | [], b, _ => by simp [index, List.isPrefixOf]
  | x :: a, b, h => by
    have hx : c ≠ x := fun e => h (by rw [e]; exact List.mem_cons_self)
    have ih := index_one (a := a) b (fun hm => h (List.mem_cons_of_mem _ hm))
    show (if [c].isPrefixOf (x :: (a ++ c :: b)) then 0 else if index (a ++ c :: b) [c] == -1 then -1 else index (a ++ c :: b) [c] + 1) = _
    rw [ih]
    have h1 : [c].isPrefixOf (x :: (a ++ c :: b)) = false := by simp [List.isPrefixOf, hx]
    rw [h1]
    have h2 : ((a.length : Int) == -1) = false := by rw [beq_eq_false_iff_ne]; omega
    rw [h2]
    simp
theorem cut_one {c : UInt8} {a : List UInt8} (b : List UInt8) (h : c ∉ a) : cut (a ++ c :: b) [c] = (a, b, true) := by
  unfold cut
  rw [index_one b h, if_pos (by omega)]
  have e1 : ((a.length : Int)).toNat = a.length := by omega
  rw [e1]
  have e2 : (a ++ c :: b).take a.length = a := by simp
  have e3 : (a ++ c :: b).drop (a.length + [c].length) = b := by
    rw [← List.drop_drop, List.drop_left]; rfl
  rw [e2, e3]
theorem spl_word0 : ∀ {w : List UInt8}, (32 : UInt8) ∉ w → spl w = [w]
  | [], _ => rfl
  | c :: l, h => by
    have hc : c ≠ 32 := fun e => h (by rw [e]; exact List.mem_cons_self)
    rw [spl, if_neg hc, spl_word0 (fun hm => h (List.mem_cons_of_mem _ hm))]
theorem spl_app : ∀ {w : List UInt8} (r : List UInt8), (32 : UInt8) ∉ w → spl (w ++ 32 :: r) = w :: spl r
  | [], r, _ => by show spl (32 :: r) = _; rw [spl, if_pos rfl]
  | c :: l, r, h => by
    have hc : c ≠ 32 := fun e => h (by rw [e]; exact List.mem_cons_self)
    show spl (c :: (l ++ 32 :: r)) = _
    rw [spl, if_neg hc, spl_app r (fun hm => h (List.mem_cons_of_mem _ hm))]
theorem decFrom_cons (acc : Nat) (c : UInt8) (r : List UInt8) : decFrom acc (c :: r) = (digitVal c).bind fun d => decFrom (acc * 10 + d) r := by
  rw [decFrom]; cases digitVal c <;> rfl
theorem decFrom_app : ∀ (a b : List UInt8) (acc : Nat), decFrom acc (a ++ b) = (decFrom acc a).bind fun m => decFrom m b
  | [], b, acc => rfl
  | c :: a, b, acc => by
    show decFrom acc (c :: (a ++ b)) = _
    rw [decFrom_cons, decFrom_cons]
    cases digitVal c with
    | none => rfl
    | some d => exact decFrom_app a b (acc * 10 + d)
theorem dig_val : ∀ d : Fin 10, digitVal (UInt8.ofNat (48 + d.val)) = some d.val := by decide
theorem decFrom_one (acc d : Nat) (h : d < 10) : decFrom acc [UInt8.ofNat (48 + d)] = some (acc * 10 + d) := by
  rw [decFrom_cons, dig_val ⟨d, h⟩]
  rfl
theorem decFrom_dig (n : Nat) : decFrom 0 (decDigits n) = some n := by
  rw [decDigits]
  split
  · rename_i h
    rw [decFrom_one 0 n h]; simp
  · rename_i h
    rw [decFrom_app, decFrom_dig (n / 10)]
    show decFrom (n / 10) _ = _
    rw [decFrom_one _ _ (by omega)]
    congr 1
    omega
termination_by n
decreasing_by omega
theorem dig_byte : ∀ d : Fin 10, 48 ≤ (UInt8.ofNat (48 + d.val)).toNat ∧ (UInt8.ofNat (48 + d.val)).toNat ≤ 57 := by decide
theorem dec_bytes (n : Nat) : ∀ c ∈ decDigits n, 48 ≤ c.toNat ∧ c.toNat ≤ 57 := by
  rw [decDigits]
  split
  · rename_i h
    intro c hc
    rw [List.mem_singleton] at hc
    subst hc
    exact dig_byte ⟨n, h⟩
  · intro c hc
    rcases List.mem_append.1 hc with hc | hc
    · exact dec_bytes (n / 10) c hc
    · rw [List.mem_singleton] at hc
      subst hc
      exact dig_byte ⟨n % 10, by omega⟩
termination_by n
decreasing_by omega
theorem dec_ne (n : Nat) : decDigits n ≠ [] := by
  rw [decDigits]
  split
  · simp
  · simp
theorem dec_free {n : Nat} {c : UInt8} (h : c.toNat < 48 ∨ 57 < c.toNat) : c ∉ decDigits n := fun hm => by
  have := dec_bytes n c hm
  omega
theorem atoi_dec (n : Nat) (hl : (decDigits n).length ≤ 18) (hn : n < 9223372036854775808) : atoiAll (decDigits n) = .ok (n : Int) := by
  have hm : parseMag (decDigits n) = .ok n := by
    rw [parseMag_short _ hl]
    unfold decNat
    have : (decDigits n).isEmpty = false := by
      cases h : decDigits n with
      | nil => exact absurd h (dec_ne n)
      | cons c l => rfl
    rw [this, decFrom_dig]
    rfl
  cases h : decDigits n with
  | nil => exact absurd h (dec_ne n)
  | cons c r =>
    have hb := dec_bytes n c (by rw [h]; exact List.mem_cons_self)
    rw [atoiAll_plain c r (by omega) (by omega), ← h, hm]
    show (if 9223372036854775808 ≤ n then NumEnd.range else .ok (n : Int)) = _
    rw [if_neg (by omega)]
end Go.Proofs.YtgdhgnhgmbkpdaaGreatDoor.S

namespace Go.Proofs.YtgdhgnhgmbkpdaaGreatDoor.S
open Go.Shelf
def sh_lays171_ren : Go.Shelf.Ren := ⟨fun | 171 => 30 | 243 => 56 | 246 => 55 | 283 => 87 | 284 => 88 | 285 => 89 | 286 => 90 | 129 => 130 | 317 => 129 | 318 => 131 | 319 => 132 | 320 => 133 | 337 => 168 | 338 => 169 | n => n, fun | 3 => 3 | 9 => 9 | 2 => 2 | 4 => 4 | 171 => 125 | 0 => 0 | 53 => 126 | 37 => 39 | 5 => 5 | 173 => 129 | 212 => 176 | 51 => 177 | 20 => 20 | 213 => 178 | 46 => 135 | 232 => 239 | 233 => 240 | n => n, fun | 17 => 1 | 18 => 7 | 19 => 8 | n => n⟩
theorem sh_lays171 : Go.Proofs.Lays.n171 Tryz.prog sh_lays171_ren := {
  mixed := by kernel_rfl
  f129 := Tryz.func130.trans (congrArg some (by kernel_rfl))
  f171 := Tryz.func30.trans (congrArg some (by kernel_rfl))
  f243 := Tryz.func56.trans (congrArg some (by kernel_rfl))
  f246 := Tryz.func55.trans (congrArg some (by kernel_rfl))
  f283 := Tryz.func87.trans (congrArg some (by kernel_rfl))
  f284 := Tryz.func88.trans (congrArg some (by kernel_rfl))
  f285 := Tryz.func89.trans (congrArg some (by kernel_rfl))
  f286 := Tryz.func90.trans (congrArg some (by kernel_rfl))
  f317 := Tryz.func129.trans (congrArg some (by kernel_rfl))
  f318 := Tryz.func131.trans (congrArg some (by kernel_rfl))
  f319 := Tryz.func132.trans (congrArg some (by kernel_rfl))
  f320 := Tryz.func133.trans (congrArg some (by kernel_rfl))
  f337 := Tryz.func168.trans (congrArg some (by kernel_rfl))
  f338 := Tryz.func169.trans (congrArg some (by kernel_rfl))
  t0 := Tryz.underlying0
  a0 := Tryz.isAgg0
  z0 := Tryz.sizeOf0
  v0 := Tryz.zeroValue0
  t2 := Tryz.underlying2
  a2 := Tryz.isAgg2
  z2 := Tryz.sizeOf2
  v2 := Tryz.zeroValue2
  t3 := Tryz.underlying3
  a3 := Tryz.isAgg3
  z3 := Tryz.sizeOf3
  v3 := Tryz.zeroValue3
  t4 := Tryz.underlying4
  a4 := Tryz.isAgg4
  z4 := Tryz.sizeOf4
  v4 := Tryz.zeroValue4
  t5 := Tryz.underlying5
  a5 := Tryz.isAgg5
  z5 := Tryz.sizeOf5
  v5 := Tryz.zeroValue5
  t9 := Tryz.underlying9
  a9 := Tryz.isAgg9
  z9 := Tryz.sizeOf9
  v9 := Tryz.zeroValue9
  t20 := Tryz.underlying20
  a20 := Tryz.isAgg20
  z20 := Tryz.sizeOf20
  v20 := Tryz.zeroValue20
  t37 := Tryz.underlying39
  a37 := Tryz.isAgg39
  z37 := Tryz.sizeOf39
  v37 := Tryz.zeroValue39
  t46 := Tryz.underlying135
  a46 := Tryz.isAgg135
  z46 := Tryz.sizeOf135
  v46 := Tryz.zeroValue135
  t51 := Tryz.underlying177
  a51 := Tryz.isAgg177
  z51 := Tryz.sizeOf177
  v51 := Tryz.zeroValue177
  t53 := Tryz.underlying126
  a53 := Tryz.isAgg126
  z53 := Tryz.sizeOf126
  v53 := Tryz.zeroValue126
  t171 := Tryz.underlying125
  a171 := Tryz.isAgg125
  z171 := Tryz.sizeOf125
  v171 := Tryz.zeroValue125
  t173 := Tryz.underlying129
  a173 := Tryz.isAgg129
  z173 := Tryz.sizeOf129
  v173 := Tryz.zeroValue129
  t212 := Tryz.underlying176
  a212 := Tryz.isAgg176
  z212 := Tryz.sizeOf176
  v212 := Tryz.zeroValue176
  t213 := Tryz.underlying178
  a213 := Tryz.isAgg178
  z213 := Tryz.sizeOf178
  t232 := Tryz.underlying239
  a232 := Tryz.isAgg239
  z232 := Tryz.sizeOf239
  v232 := Tryz.zeroValue239
  t233 := Tryz.underlying240
  a233 := Tryz.isAgg240
  z233 := Tryz.sizeOf240
  v233 := Tryz.zeroValue240
  g17 := by kernel_rfl
  g18 := by kernel_rfl
  g19 := by kernel_rfl }
open Go.RowKit Go.Sort Go.Lib in
theorem sh_strconv_Itoa_small (i : Nat) (hi : i < 100) (w : World) :
    Calls Tryz.prog 30 #[.int .i64 i] w fun e w' => e = .returned (.string ⟨(Lib.decDigits i).toArray⟩) ∧ w' = w := Any.strconv_Itoa_small sh_lays171 i hi w
def sh_laysM173_ren : Go.Shelf.Ren := ⟨fun | 173 => 29 | 246 => 55 | 283 => 87 | 284 => 88 | 285 => 89 | 286 => 90 | 129 => 130 | 317 => 129 | 318 => 131 | 319 => 132 | 320 => 133 | 337 => 168 | 338 => 169 | n => n, fun | 2 => 2 | 3 => 3 | 9 => 9 | 4 => 4 | 171 => 125 | 0 => 0 | 53 => 126 | 37 => 39 | 5 => 5 | 173 => 129 | 212 => 176 | 51 => 177 | 20 => 20 | 213 => 178 | 46 => 135 | 232 => 239 | 233 => 240 | n => n, fun | 17 => 1 | 18 => 7 | 19 => 8 | n => n⟩
theorem sh_laysM173 : Go.Proofs.LaysM.n173 Tryz.prog sh_laysM173_ren := {
  mixed := by kernel_rfl
  f129 := Tryz.func130.trans (congrArg some (by kernel_rfl))
  f173 := Tryz.func29.trans (congrArg some (by kernel_rfl))
  f246 := Tryz.func55.trans (congrArg some (by kernel_rfl))
  f283 := Tryz.func87.trans (congrArg some (by kernel_rfl))
  f284 := Tryz.func88.trans (congrArg some (by kernel_rfl))
  f285 := Tryz.func89.trans (congrArg some (by kernel_rfl))
  f286 := Tryz.func90.trans (congrArg some (by kernel_rfl))
  f317 := Tryz.func129.trans (congrArg some (by kernel_rfl))
  f318 := Tryz.func131.trans (congrArg some (by kernel_rfl))
  f319 := Tryz.func132.trans (congrArg some (by kernel_rfl))
  f320 := Tryz.func133.trans (congrArg some (by kernel_rfl))
  f337 := Tryz.func168.trans (congrArg some (by kernel_rfl))
  f338 := Tryz.func169.trans (congrArg some (by kernel_rfl))
  t0 := Tryz.underlying0
  a0 := Tryz.isAgg0
  z0 := Tryz.sizeOf0
  v0 := Tryz.zeroValue0
  t2 := Tryz.underlying2
  a2 := Tryz.isAgg2
  z2 := Tryz.sizeOf2
  v2 := Tryz.zeroValue2
  t3 := Tryz.underlying3
  a3 := Tryz.isAgg3
  z3 := Tryz.sizeOf3
  v3 := Tryz.zeroValue3
  t4 := Tryz.underlying4
  a4 := Tryz.isAgg4
  z4 := Tryz.sizeOf4
  v4 := Tryz.zeroValue4
  t5 := Tryz.underlying5
  a5 := Tryz.isAgg5
  z5 := Tryz.sizeOf5
  v5 := Tryz.zeroValue5
  t9 := Tryz.underlying9
  a9 := Tryz.isAgg9
  z9 := Tryz.sizeOf9
  v9 := Tryz.zeroValue9
  t20 := Tryz.underlying20
  a20 := Tryz.isAgg20
  z20 := Tryz.sizeOf20
  v20 := Tryz.zeroValue20
  t37 := Tryz.underlying39
  a37 := Tryz.isAgg39
  z37 := Tryz.sizeOf39
  v37 := Tryz.zeroValue39
  t46 := Tryz.underlying135
  a46 := Tryz.isAgg135
  z46 := Tryz.sizeOf135
  v46 := Tryz.zeroValue135
  t51 := Tryz.underlying177
  a51 := Tryz.isAgg177
  z51 := Tryz.sizeOf177
  v51 := Tryz.zeroValue177
  t53 := Tryz.underlying126
  a53 := Tryz.isAgg126
  z53 := Tryz.sizeOf126
  v53 := Tryz.zeroValue126
  t171 := Tryz.underlying125
  a171 := Tryz.isAgg125
  z171 := Tryz.sizeOf125
  v171 := Tryz.zeroValue125
  t173 := Tryz.underlying129
  a173 := Tryz.isAgg129
  z173 := Tryz.sizeOf129
  v173 := Tryz.zeroValue129
  t212 := Tryz.underlying176
  a212 := Tryz.isAgg176
  z212 := Tryz.sizeOf176
  v212 := Tryz.zeroValue176
  t213 := Tryz.underlying178
  a213 := Tryz.isAgg178
  z213 := Tryz.sizeOf178
  t232 := Tryz.underlying239
  a232 := Tryz.isAgg239
  z232 := Tryz.sizeOf239
  v232 := Tryz.zeroValue239
  t233 := Tryz.underlying240
  a233 := Tryz.isAgg240
  z233 := Tryz.sizeOf240
  v233 := Tryz.zeroValue240
  g17 := by kernel_rfl
  g18 := by kernel_rfl
  g19 := by kernel_rfl
  i0 := by kernel_rfl
  i2 := by kernel_rfl
  i3 := by kernel_rfl
  i4 := by kernel_rfl
  i5 := by kernel_rfl
  i9 := by kernel_rfl
  i20 := by kernel_rfl
  i37 := by kernel_rfl
  i46 := by kernel_rfl
  i51 := by kernel_rfl
  i53 := by kernel_rfl
  i171 := by kernel_rfl
  i173 := by kernel_rfl
  i212 := by kernel_rfl
  i232 := by kernel_rfl
  i233 := by kernel_rfl
  m17 := by kernel_rfl
  m18 := by kernel_rfl
  m19 := by kernel_rfl }
open Go.RowKit Go.Sort Go.Lib in
theorem sh_strconv_FormatInt_10 (n : Int) (h0 : -9223372036854775808 ≤ n) (h1 : n ≤ 9223372036854775807) (w : World) (htab : Lib.TabIs Tryz.prog w "internal/strconv.uint64pow10" .u64 Lib.pow10Tab) :
    Calls Tryz.prog 29 #[.int .i64 n, .int .i64 10] w fun e w' => e = .returned (.string ⟨(Lib.itoa n).toArray⟩) ∧ ∃ k os, w' = grow (w.drewN k) os := Any.strconv_FormatInt_10 sh_laysM173 n h0 h1 w htab
def sh_laysC172_ren : Go.Shelf.Ren := ⟨fun | 172 => 64 | 244 => 101 | 245 => 62 | 247 => 61 | 279 => 94 | 280 => 95 | 281 => 96 | 282 => 97 | 287 => 93 | 316 => 141 | 171 => 30 | 205 => 142 | 321 => 139 | 322 => 140 | 243 => 56 | 246 => 55 | 283 => 87 | 284 => 88 | 285 => 89 | 286 => 90 | 129 => 130 | 317 => 129 | 318 => 131 | 319 => 132 | 320 => 133 | 337 => 168 | 338 => 169 | n => n, fun | 9 => 9 | 3 => 3 | 75 => 54 | 76 => 55 | 4 => 4 | 5 => 5 | 167 => 132 | 37 => 39 | 0 => 0 | 85 => 65 | 2 => 2 | 168 => 136 | 53 => 126 | 175 => 133 | 46 => 135 | 210 => 184 | 127 => 88 | 145 => 221 | 143 => 219 | 21 => 21 | 171 => 125 | 173 => 129 | 212 => 176 | 51 => 177 | 20 => 20 | 213 => 178 | 232 => 239 | 233 => 240 | 80 => 61 | n => n, fun | 15 => 3 | 16 => 4 | 17 => 1 | 18 => 7 | 19 => 8 | n => n⟩
theorem sh_laysC172 : Go.Proofs.LaysC.n172 Tryz.prog sh_laysC172_ren := {
  mixed := by kernel_rfl
  f129 := Tryz.func130.trans (congrArg some (by kernel_rfl))
  f171 := Tryz.func30.trans (congrArg some (by kernel_rfl))
  f172 := Tryz.func64.trans (congrArg some (by kernel_rfl))
  f205 := Tryz.func142.trans (congrArg some (by kernel_rfl))
  f243 := Tryz.func56.trans (congrArg some (by kernel_rfl))
  f244 := Tryz.func101.trans (congrArg some (by kernel_rfl))
  f245 := Tryz.func62.trans (congrArg some (by kernel_rfl))
  f246 := Tryz.func55.trans (congrArg some (by kernel_rfl))
  f247 := Tryz.func61.trans (congrArg some (by kernel_rfl))
  f279 := Tryz.func94.trans (congrArg some (by kernel_rfl))
  f280 := Tryz.func95.trans (congrArg some (by kernel_rfl))
  f281 := Tryz.func96.trans (congrArg some (by kernel_rfl))
  f282 := Tryz.func97.trans (congrArg some (by kernel_rfl))
  f283 := Tryz.func87.trans (congrArg some (by kernel_rfl))
  f284 := Tryz.func88.trans (congrArg some (by kernel_rfl))
  f285 := Tryz.func89.trans (congrArg some (by kernel_rfl))
  f286 := Tryz.func90.trans (congrArg some (by kernel_rfl))
  f287 := Tryz.func93.trans (congrArg some (by kernel_rfl))
  f316 := Tryz.func141.trans (congrArg some (by kernel_rfl))
  f317 := Tryz.func129.trans (congrArg some (by kernel_rfl))
  f318 := Tryz.func131.trans (congrArg some (by kernel_rfl))
  f319 := Tryz.func132.trans (congrArg some (by kernel_rfl))
  f320 := Tryz.func133.trans (congrArg some (by kernel_rfl))
  f321 := Tryz.func139.trans (congrArg some (by kernel_rfl))
  f322 := Tryz.func140.trans (congrArg some (by kernel_rfl))
  f337 := Tryz.func168.trans (congrArg some (by kernel_rfl))
  f338 := Tryz.func169.trans (congrArg some (by kernel_rfl))
  t0 := Tryz.underlying0
  a0 := Tryz.isAgg0
  z0 := Tryz.sizeOf0
  v0 := Tryz.zeroValue0
  t2 := Tryz.underlying2
  a2 := Tryz.isAgg2
  z2 := Tryz.sizeOf2
  v2 := Tryz.zeroValue2
  t3 := Tryz.underlying3
  a3 := Tryz.isAgg3
  z3 := Tryz.sizeOf3
  v3 := Tryz.zeroValue3
  t4 := Tryz.underlying4
  a4 := Tryz.isAgg4
  z4 := Tryz.sizeOf4
  v4 := Tryz.zeroValue4
  t5 := Tryz.underlying5
  a5 := Tryz.isAgg5
  z5 := Tryz.sizeOf5
  v5 := Tryz.zeroValue5
  t9 := Tryz.underlying9
  a9 := Tryz.isAgg9
  z9 := Tryz.sizeOf9
  v9 := Tryz.zeroValue9
  t20 := Tryz.underlying20
  a20 := Tryz.isAgg20
  z20 := Tryz.sizeOf20
  v20 := Tryz.zeroValue20
  t21 := Tryz.underlying21
  a21 := Tryz.isAgg21
  z21 := Tryz.sizeOf21
  v21 := Tryz.zeroValue21
  t37 := Tryz.underlying39
  a37 := Tryz.isAgg39
  z37 := Tryz.sizeOf39
  v37 := Tryz.zeroValue39
  t46 := Tryz.underlying135
  a46 := Tryz.isAgg135
  z46 := Tryz.sizeOf135
  v46 := Tryz.zeroValue135
  t51 := Tryz.underlying177
  a51 := Tryz.isAgg177
  z51 := Tryz.sizeOf177
  v51 := Tryz.zeroValue177
  t53 := Tryz.underlying126
  a53 := Tryz.isAgg126
  z53 := Tryz.sizeOf126
  v53 := Tryz.zeroValue126
  t75 := Tryz.underlying54
  a75 := Tryz.isAgg54
  z75 := Tryz.sizeOf54
  v75 := Tryz.zeroValue54
  t76 := Tryz.underlying55
  a76 := Tryz.isAgg55
  z76 := Tryz.sizeOf55
  v76 := Tryz.zeroValue55
  t85 := Tryz.underlying65
  a85 := Tryz.isAgg65
  z85 := Tryz.sizeOf65
  v85 := Tryz.zeroValue65
  t127 := Tryz.underlying88
  a127 := Tryz.isAgg88
  z127 := Tryz.sizeOf88
  v127 := Tryz.zeroValue88
  t143 := Tryz.underlying219
  a143 := Tryz.isAgg219
  z143 := Tryz.sizeOf219
  v143 := Tryz.zeroValue219
  t145 := Tryz.underlying221
  a145 := Tryz.isAgg221
  z145 := Tryz.sizeOf221
  v145 := Tryz.zeroValue221
  t167 := Tryz.underlying132
  a167 := Tryz.isAgg132
  z167 := Tryz.sizeOf132
  v167 := Tryz.zeroValue132
  t168 := Tryz.underlying136
  a168 := Tryz.isAgg136
  z168 := Tryz.sizeOf136
  v168 := Tryz.zeroValue136
  t171 := Tryz.underlying125
  a171 := Tryz.isAgg125
  z171 := Tryz.sizeOf125
  v171 := Tryz.zeroValue125
  t173 := Tryz.underlying129
  a173 := Tryz.isAgg129
  z173 := Tryz.sizeOf129
  v173 := Tryz.zeroValue129
  t175 := Tryz.underlying133
  a175 := Tryz.isAgg133
  z175 := Tryz.sizeOf133
  v175 := Tryz.zeroValue133
  t210 := Tryz.underlying184
  a210 := Tryz.isAgg184
  z210 := Tryz.sizeOf184
  v210 := Tryz.zeroValue184
  t212 := Tryz.underlying176
  a212 := Tryz.isAgg176
  z212 := Tryz.sizeOf176
  v212 := Tryz.zeroValue176
  t213 := Tryz.underlying178
  a213 := Tryz.isAgg178
  z213 := Tryz.sizeOf178
  t232 := Tryz.underlying239
  a232 := Tryz.isAgg239
  z232 := Tryz.sizeOf239
  v232 := Tryz.zeroValue239
  t233 := Tryz.underlying240
  a233 := Tryz.isAgg240
  z233 := Tryz.sizeOf240
  v233 := Tryz.zeroValue240
  g15 := by kernel_rfl
  g16 := by kernel_rfl
  g17 := by kernel_rfl
  g18 := by kernel_rfl
  g19 := by kernel_rfl
  t80 := Tryz.underlying61
  a80 := Tryz.isAgg61
  z80 := Tryz.sizeOf61
  v80 := Tryz.zeroValue61
  i0 := by kernel_rfl
  i2 := by kernel_rfl
  i3 := by kernel_rfl
  i4 := by kernel_rfl
  i5 := by kernel_rfl
  i9 := by kernel_rfl
  i20 := by kernel_rfl
  i21 := by kernel_rfl
  i37 := by kernel_rfl
  i46 := by kernel_rfl
  i51 := by kernel_rfl
  i53 := by kernel_rfl
  i75 := by kernel_rfl
  i76 := by kernel_rfl
  i80 := by kernel_rfl
  i85 := by kernel_rfl
  i127 := by kernel_rfl
  i143 := by kernel_rfl
  i145 := by kernel_rfl
  i167 := by kernel_rfl
  i168 := by kernel_rfl
  i171 := by kernel_rfl
  i173 := by kernel_rfl
  i175 := by kernel_rfl
  i210 := by kernel_rfl
  i212 := by kernel_rfl
  i232 := by kernel_rfl
  i233 := by kernel_rfl
  m15 := by kernel_rfl
  m16 := by kernel_rfl
  m17 := by kernel_rfl
  m18 := by kernel_rfl
  m19 := by kernel_rfl
  c0 := by kernel_rfl
  c2 := by kernel_rfl
  c3 := by kernel_rfl
  c4 := by kernel_rfl
  c5 := by kernel_rfl
  c9 := by kernel_rfl
  c20 := by kernel_rfl
  c21 := by kernel_rfl
  c37 := by kernel_rfl
  c46 := by kernel_rfl
  c51 := by kernel_rfl
  c53 := by kernel_rfl
  c75 := by kernel_rfl
  c76 := by kernel_rfl
  c80 := by kernel_rfl
  c85 := by kernel_rfl
  c127 := by kernel_rfl
  c143 := by kernel_rfl
  c145 := by kernel_rfl
  c167 := by kernel_rfl
  c168 := by kernel_rfl
  c171 := by kernel_rfl
  c173 := by kernel_rfl
  c175 := by kernel_rfl
  c210 := by kernel_rfl
  c212 := by kernel_rfl
  c213 := by kernel_rfl
  c232 := by kernel_rfl
  c233 := by kernel_rfl }
open Go.RowKit in
theorem sh_strconv_Atoi_ok (s : ByteArray) (hmax : s.size ≤ 9223372036854775806) (v : Int) (h : Lib.atoiAll s.data.toList = .ok v) (w : World) :
    Calls Tryz.prog 64 #[.string s] w fun e w' => e = .returned (.tuple #[.int .i64 v, .nilIface]) ∧ (w' = w ∨ ∃ t, w' = Lib.bytesWorld w 5 t) := Any.strconv_Atoi_ok sh_laysC172 s hmax v h w
open Go.RowKit in
theorem sh_strconv_Atoi_syntax (s : ByteArray) (hlim : s.size ≤ 281474976710656) (h : Lib.atoiAll s.data.toList = Lib.atoiAll []) (ev : Value) (w : World) (hv : w.cell? ⟨3, 0, none⟩ = some ev) (hev : ev = .nilIface ∨ ∃ te pe, ev = .iface te pe) :
    Calls Tryz.prog 64 #[.string s] w fun e w' => ∃ N, e = .returned (.tuple #[.int .i64 (0), .iface 136 (.pointer (some ⟨N, 0, none⟩))]) ∧ w.heap.size ≤ N ∧ w'.heap[N]? = some (.cells #[.string ⟨#[65, 116, 111, 105]⟩, .string s, ev] 184 (0, 0)) ∧ Below w.heap.size w w' := Any.strconv_Atoi_syntax sh_laysC172 s hlim h ev w hv hev
open Go.RowKit in
theorem sh_strconv_Atoi_range (s : ByteArray) (hlim : s.size ≤ 281474976710656) (h : Lib.atoiAll s.data.toList = .range) (ev : Value) (w : World) (hv : w.cell? ⟨4, 0, none⟩ = some ev) (hev : ev = .nilIface ∨ ∃ te pe, ev = .iface te pe) :
    Calls Tryz.prog 64 #[.string s] w fun e w' => ∃ N, e = .returned (.tuple #[.int .i64 (Lib.atoiSat s.data.toList), .iface 136 (.pointer (some ⟨N, 0, none⟩))]) ∧ w.heap.size ≤ N ∧ w'.heap[N]? = some (.cells #[.string ⟨#[65, 116, 111, 105]⟩, .string s, ev] 184 (0, 0)) ∧ Below w.heap.size w w' := Any.strconv_Atoi_range sh_laysC172 s hlim h ev w hv hev
def sh_laysC174_ren : Go.Shelf.Ren := ⟨fun | 174 => 35 | 247 => 61 | 245 => 62 | 287 => 93 | 279 => 94 | 280 => 95 | 281 => 96 | 282 => 97 | 321 => 139 | 322 => 140 | 316 => 141 | 171 => 30 | 205 => 142 | 243 => 56 | 246 => 55 | 283 => 87 | 284 => 88 | 285 => 89 | 286 => 90 | 129 => 130 | 317 => 129 | 318 => 131 | 319 => 132 | 320 => 133 | 337 => 168 | 338 => 169 | n => n, fun | 9 => 9 | 3 => 3 | 2 => 2 | 75 => 54 | 85 => 65 | 4 => 4 | 167 => 132 | 5 => 5 | 53 => 126 | 175 => 133 | 46 => 135 | 168 => 136 | 37 => 39 | 0 => 0 | 210 => 184 | 21 => 21 | 127 => 88 | 145 => 221 | 143 => 219 | 171 => 125 | 173 => 129 | 212 => 176 | 51 => 177 | 20 => 20 | 213 => 178 | 232 => 239 | 233 => 240 | 80 => 61 | n => n, fun | 15 => 3 | 16 => 4 | 17 => 1 | 18 => 7 | 19 => 8 | n => n⟩
theorem sh_laysC174 : Go.Proofs.LaysC.n174 Tryz.prog sh_laysC174_ren := {
  mixed := by kernel_rfl
  f129 := Tryz.func130.trans (congrArg some (by kernel_rfl))
  f171 := Tryz.func30.trans (congrArg some (by kernel_rfl))
  f174 := Tryz.func35.trans (congrArg some (by kernel_rfl))
  f205 := Tryz.func142.trans (congrArg some (by kernel_rfl))
  f243 := Tryz.func56.trans (congrArg some (by kernel_rfl))
  f245 := Tryz.func62.trans (congrArg some (by kernel_rfl))
  f246 := Tryz.func55.trans (congrArg some (by kernel_rfl))
  f247 := Tryz.func61.trans (congrArg some (by kernel_rfl))
  f279 := Tryz.func94.trans (congrArg some (by kernel_rfl))
  f280 := Tryz.func95.trans (congrArg some (by kernel_rfl))
  f281 := Tryz.func96.trans (congrArg some (by kernel_rfl))
  f282 := Tryz.func97.trans (congrArg some (by kernel_rfl))
  f283 := Tryz.func87.trans (congrArg some (by kernel_rfl))
  f284 := Tryz.func88.trans (congrArg some (by kernel_rfl))
  f285 := Tryz.func89.trans (congrArg some (by kernel_rfl))
  f286 := Tryz.func90.trans (congrArg some (by kernel_rfl))
  f287 := Tryz.func93.trans (congrArg some (by kernel_rfl))
  f316 := Tryz.func141.trans (congrArg some (by kernel_rfl))
  f317 := Tryz.func129.trans (congrArg some (by kernel_rfl))
  f318 := Tryz.func131.trans (congrArg some (by kernel_rfl))
  f319 := Tryz.func132.trans (congrArg some (by kernel_rfl))
  f320 := Tryz.func133.trans (congrArg some (by kernel_rfl))
  f321 := Tryz.func139.trans (congrArg some (by kernel_rfl))
  f322 := Tryz.func140.trans (congrArg some (by kernel_rfl))
  f337 := Tryz.func168.trans (congrArg some (by kernel_rfl))
  f338 := Tryz.func169.trans (congrArg some (by kernel_rfl))
  t0 := Tryz.underlying0
  a0 := Tryz.isAgg0
  z0 := Tryz.sizeOf0
  v0 := Tryz.zeroValue0
  t2 := Tryz.underlying2
  a2 := Tryz.isAgg2
  z2 := Tryz.sizeOf2
  v2 := Tryz.zeroValue2
  t3 := Tryz.underlying3
  a3 := Tryz.isAgg3
  z3 := Tryz.sizeOf3
  v3 := Tryz.zeroValue3
  t4 := Tryz.underlying4
  a4 := Tryz.isAgg4
  z4 := Tryz.sizeOf4
  v4 := Tryz.zeroValue4
  t5 := Tryz.underlying5
  a5 := Tryz.isAgg5
  z5 := Tryz.sizeOf5
  v5 := Tryz.zeroValue5
  t9 := Tryz.underlying9
  a9 := Tryz.isAgg9
  z9 := Tryz.sizeOf9
  v9 := Tryz.zeroValue9
  t20 := Tryz.underlying20
  a20 := Tryz.isAgg20
  z20 := Tryz.sizeOf20
  v20 := Tryz.zeroValue20
  t21 := Tryz.underlying21
  a21 := Tryz.isAgg21
  z21 := Tryz.sizeOf21
  v21 := Tryz.zeroValue21
  t37 := Tryz.underlying39
  a37 := Tryz.isAgg39
  z37 := Tryz.sizeOf39
  v37 := Tryz.zeroValue39
  t46 := Tryz.underlying135
  a46 := Tryz.isAgg135
  z46 := Tryz.sizeOf135
  v46 := Tryz.zeroValue135
  t51 := Tryz.underlying177
  a51 := Tryz.isAgg177
  z51 := Tryz.sizeOf177
  v51 := Tryz.zeroValue177
  t53 := Tryz.underlying126
  a53 := Tryz.isAgg126
  z53 := Tryz.sizeOf126
  v53 := Tryz.zeroValue126
  t75 := Tryz.underlying54
  a75 := Tryz.isAgg54
  z75 := Tryz.sizeOf54
  v75 := Tryz.zeroValue54
  t85 := Tryz.underlying65
  a85 := Tryz.isAgg65
  z85 := Tryz.sizeOf65
  v85 := Tryz.zeroValue65
  t127 := Tryz.underlying88
  a127 := Tryz.isAgg88
  z127 := Tryz.sizeOf88
  v127 := Tryz.zeroValue88
  t143 := Tryz.underlying219
  a143 := Tryz.isAgg219
  z143 := Tryz.sizeOf219
  v143 := Tryz.zeroValue219
  t145 := Tryz.underlying221
  a145 := Tryz.isAgg221
  z145 := Tryz.sizeOf221
  v145 := Tryz.zeroValue221
  t167 := Tryz.underlying132
  a167 := Tryz.isAgg132
  z167 := Tryz.sizeOf132
  v167 := Tryz.zeroValue132
  t168 := Tryz.underlying136
  a168 := Tryz.isAgg136
  z168 := Tryz.sizeOf136
  v168 := Tryz.zeroValue136
  t171 := Tryz.underlying125
  a171 := Tryz.isAgg125
  z171 := Tryz.sizeOf125
  v171 := Tryz.zeroValue125
  t173 := Tryz.underlying129
  a173 := Tryz.isAgg129
  z173 := Tryz.sizeOf129
  v173 := Tryz.zeroValue129
  t175 := Tryz.underlying133
  a175 := Tryz.isAgg133
  z175 := Tryz.sizeOf133
  v175 := Tryz.zeroValue133
  t210 := Tryz.underlying184
  a210 := Tryz.isAgg184
  z210 := Tryz.sizeOf184
  v210 := Tryz.zeroValue184
  t212 := Tryz.underlying176
  a212 := Tryz.isAgg176
  z212 := Tryz.sizeOf176
  v212 := Tryz.zeroValue176
  t213 := Tryz.underlying178
  a213 := Tryz.isAgg178
  z213 := Tryz.sizeOf178
  t232 := Tryz.underlying239
  a232 := Tryz.isAgg239
  z232 := Tryz.sizeOf239
  v232 := Tryz.zeroValue239
  t233 := Tryz.underlying240
  a233 := Tryz.isAgg240
  z233 := Tryz.sizeOf240
  v233 := Tryz.zeroValue240
  g15 := by kernel_rfl
  g16 := by kernel_rfl
  g17 := by kernel_rfl
  g18 := by kernel_rfl
  g19 := by kernel_rfl
  t80 := Tryz.underlying61
  a80 := Tryz.isAgg61
  z80 := Tryz.sizeOf61
  v80 := Tryz.zeroValue61
  i0 := by kernel_rfl
  i2 := by kernel_rfl
  i3 := by kernel_rfl
  i4 := by kernel_rfl
  i5 := by kernel_rfl
  i9 := by kernel_rfl
  i20 := by kernel_rfl
  i21 := by kernel_rfl
  i37 := by kernel_rfl
  i46 := by kernel_rfl
  i51 := by kernel_rfl
  i53 := by kernel_rfl
  i75 := by kernel_rfl
  i80 := by kernel_rfl
  i85 := by kernel_rfl
  i127 := by kernel_rfl
  i143 := by kernel_rfl
  i145 := by kernel_rfl
  i167 := by kernel_rfl
  i168 := by kernel_rfl
  i171 := by kernel_rfl
  i173 := by kernel_rfl
  i175 := by kernel_rfl
  i210 := by kernel_rfl
  i212 := by kernel_rfl
  i232 := by kernel_rfl
  i233 := by kernel_rfl
  m15 := by kernel_rfl
  m16 := by kernel_rfl
  m17 := by kernel_rfl
  m18 := by kernel_rfl
  m19 := by kernel_rfl
  c0 := by kernel_rfl
  c2 := by kernel_rfl
  c3 := by kernel_rfl
  c4 := by kernel_rfl
  c5 := by kernel_rfl
  c9 := by kernel_rfl
  c20 := by kernel_rfl
  c21 := by kernel_rfl
  c37 := by kernel_rfl
  c46 := by kernel_rfl
  c51 := by kernel_rfl
  c53 := by kernel_rfl
  c75 := by kernel_rfl
  c80 := by kernel_rfl
  c85 := by kernel_rfl
  c127 := by kernel_rfl
  c143 := by kernel_rfl
  c145 := by kernel_rfl
  c167 := by kernel_rfl
  c168 := by kernel_rfl
  c171 := by kernel_rfl
  c173 := by kernel_rfl
  c175 := by kernel_rfl
  c210 := by kernel_rfl
  c212 := by kernel_rfl
  c213 := by kernel_rfl
  c232 := by kernel_rfl
  c233 := by kernel_rfl }
open Go.RowKit in
theorem sh_strconv_ParseInt_10_at64_ok (s : ByteArray) (hmax : s.size ≤ 9223372036854775806) (v : Int) (h : Lib.parseIntB 64 s.data.toList = .ok v) (w : World) :
    Calls Tryz.prog 35 #[.string s, .int .i64 10, .int .i64 64] w fun e w' => e = .returned (.tuple #[.int .i64 v, .nilIface]) ∧ (w' = w ∨ ∃ t, w' = Lib.bytesWorld w 5 t) := Any.strconv_ParseInt_10_at64_ok sh_laysC174 s hmax v h w
open Go.RowKit in
theorem sh_strconv_ParseInt_10_at64_syntax (s : ByteArray) (hlim : s.size ≤ 281474976710656) (h : Lib.parseIntB 64 s.data.toList = Lib.parseIntB 64 []) (ev : Value) (w : World) (hv : w.cell? ⟨3, 0, none⟩ = some ev) (hev : ev = .nilIface ∨ ∃ te pe, ev = .iface te pe) :
    Calls Tryz.prog 35 #[.string s, .int .i64 10, .int .i64 64] w fun e w' => ∃ N, e = .returned (.tuple #[.int .i64 (0), .iface 136 (.pointer (some ⟨N, 0, none⟩))]) ∧ w.heap.size ≤ N ∧ w'.heap[N]? = some (.cells #[.string ⟨#[80, 97, 114, 115, 101, 73, 110, 116]⟩, .string s, ev] 184 (0, 0)) ∧ Below w.heap.size w w' := Any.strconv_ParseInt_10_at64_syntax sh_laysC174 s hlim h ev w hv hev
open Go.RowKit in
theorem sh_strconv_ParseInt_10_at64_range (s : ByteArray) (hlim : s.size ≤ 281474976710656) (h : Lib.parseIntB 64 s.data.toList = .range) (ev : Value) (w : World) (hv : w.cell? ⟨4, 0, none⟩ = some ev) (hev : ev = .nilIface ∨ ∃ te pe, ev = .iface te pe) :
    Calls Tryz.prog 35 #[.string s, .int .i64 10, .int .i64 64] w fun e w' => ∃ N, e = .returned (.tuple #[.int .i64 (Lib.intSat 64 s.data.toList), .iface 136 (.pointer (some ⟨N, 0, none⟩))]) ∧ w.heap.size ≤ N ∧ w'.heap[N]? = some (.cells #[.string ⟨#[80, 97, 114, 115, 101, 73, 110, 116]⟩, .string s, ev] 184 (0, 0)) ∧ Below w.heap.size w w' := Any.strconv_ParseInt_10_at64_range sh_laysC174 s hlim h ev w hv hev
def sh_lays143_ren : Go.Shelf.Ren := ⟨fun | 143 => 100 | 219 => 92 | 217 => 135 | 225 => 136 | 224 => 137 | 267 => 138 | 266 => 170 | 314 => 171 | n => n, fun | 9 => 9 | 3 => 3 | 4 => 4 | 5 => 5 | 46 => 135 | 146 => 217 | 51 => 177 | n => n, fun | 1 => 2 | n => n⟩
theorem sh_lays143 : Go.Proofs.Lays.n143 Tryz.prog sh_lays143_ren := {
  mixed := by kernel_rfl
  f143 := Tryz.func100.trans (congrArg some (by kernel_rfl))
  f217 := Tryz.func135.trans (congrArg some (by kernel_rfl))
  f219 := Tryz.func92.trans (congrArg some (by kernel_rfl))
  f224 := Tryz.func137.trans (congrArg some (by kernel_rfl))
  f225 := Tryz.func136.trans (congrArg some (by kernel_rfl))
  f266 := Tryz.func170.trans (congrArg some (by kernel_rfl))
  f267 := Tryz.func138.trans (congrArg some (by kernel_rfl))
  f314 := Tryz.func171.trans (congrArg some (by kernel_rfl))
  t3 := Tryz.underlying3
  a3 := Tryz.isAgg3
  z3 := Tryz.sizeOf3
  v3 := Tryz.zeroValue3
  t4 := Tryz.underlying4
  a4 := Tryz.isAgg4
  z4 := Tryz.sizeOf4
  v4 := Tryz.zeroValue4
  t5 := Tryz.underlying5
  a5 := Tryz.isAgg5
  z5 := Tryz.sizeOf5
  v5 := Tryz.zeroValue5
  t9 := Tryz.underlying9
  a9 := Tryz.isAgg9
  z9 := Tryz.sizeOf9
  v9 := Tryz.zeroValue9
  t46 := Tryz.underlying135
  a46 := Tryz.isAgg135
  z46 := Tryz.sizeOf135
  v46 := Tryz.zeroValue135
  t51 := Tryz.underlying177
  a51 := Tryz.isAgg177
  z51 := Tryz.sizeOf177
  v51 := Tryz.zeroValue177
  t146 := Tryz.underlying217
  a146 := Tryz.isAgg217
  z146 := Tryz.sizeOf217
  v146 := Tryz.zeroValue217
  g1 := by kernel_rfl }
open Go.RowKit Go.Lib in
theorem sh_strings_Index_one (s : ByteArray) (c : UInt8) (w : World) :
    Calls Tryz.prog 100 #[.string s, .string ⟨#[c]⟩] w fun e w' => e = .returned (.int .i64 (Lib.indexByte s.data.toList c)) ∧ w' = w := Any.strings_Index_one sh_lays143 s c w
def sh_lays145_ren : Go.Shelf.Ren := ⟨fun | 145 => 34 | 220 => 60 | 219 => 92 | 217 => 135 | 225 => 136 | 224 => 137 | 267 => 138 | 266 => 170 | 314 => 171 | n => n, fun | 9 => 9 | 4 => 4 | 59 => 63 | 3 => 3 | 5 => 5 | 46 => 135 | 146 => 217 | 51 => 177 | n => n, fun | 1 => 2 | n => n⟩
theorem sh_lays145 : Go.Proofs.Lays.n145 Tryz.prog sh_lays145_ren := {
  mixed := by kernel_rfl
  f145 := Tryz.func34.trans (congrArg some (by kernel_rfl))
  f217 := Tryz.func135.trans (congrArg some (by kernel_rfl))
  f219 := Tryz.func92.trans (congrArg some (by kernel_rfl))
  f220 := Tryz.func60.trans (congrArg some (by kernel_rfl))
  f224 := Tryz.func137.trans (congrArg some (by kernel_rfl))
  f225 := Tryz.func136.trans (congrArg some (by kernel_rfl))
  f266 := Tryz.func170.trans (congrArg some (by kernel_rfl))
  f267 := Tryz.func138.trans (congrArg some (by kernel_rfl))
  f314 := Tryz.func171.trans (congrArg some (by kernel_rfl))
  t3 := Tryz.underlying3
  a3 := Tryz.isAgg3
  z3 := Tryz.sizeOf3
  v3 := Tryz.zeroValue3
  t4 := Tryz.underlying4
  a4 := Tryz.isAgg4
  z4 := Tryz.sizeOf4
  v4 := Tryz.zeroValue4
  t5 := Tryz.underlying5
  a5 := Tryz.isAgg5
  z5 := Tryz.sizeOf5
  v5 := Tryz.zeroValue5
  t9 := Tryz.underlying9
  a9 := Tryz.isAgg9
  z9 := Tryz.sizeOf9
  v9 := Tryz.zeroValue9
  t46 := Tryz.underlying135
  a46 := Tryz.isAgg135
  z46 := Tryz.sizeOf135
  v46 := Tryz.zeroValue135
  t51 := Tryz.underlying177
  a51 := Tryz.isAgg177
  z51 := Tryz.sizeOf177
  v51 := Tryz.zeroValue177
  t59 := Tryz.underlying63
  a59 := Tryz.isAgg63
  z59 := Tryz.sizeOf63
  v59 := Tryz.zeroValue63
  t146 := Tryz.underlying217
  a146 := Tryz.isAgg217
  z146 := Tryz.sizeOf217
  v146 := Tryz.zeroValue217
  g1 := by kernel_rfl }
open Go.RowKit Go.Lib in
theorem sh_strings_Cut (s sep : ByteArray) (m : Int) (w : World) (hs : s.size < 4294967281) (hm : w.cell? ⟨2, 0, none⟩ = some (.int .i64 m)) :
    Calls Tryz.prog 34 #[.string s, .string sep] w fun e w' => e = .returned (.tuple #[.string ⟨(Lib.cut s.data.toList sep.data.toList).1.toArray⟩, .string ⟨(Lib.cut s.data.toList sep.data.toList).2.1.toArray⟩, .bool (Lib.cut s.data.toList sep.data.toList).2.2]) ∧ ∃ n, w' = w.drewN n := Any.strings_Cut sh_lays145 s sep m w hs hm
end Go.Proofs.YtgdhgnhgmbkpdaaGreatDoor.S

namespace Go.Proofs.YtgdhgnhgmbkpdaaGreatDoor.S
open Go.RowKit Go.QfSy Go.Lib
attribute [local go_sem] Oper.semAt_some
def boxLen (B : Nat) (w : World) : Nat := match (w.heap[B]? : Option Obj) with
  | some (Obj.cells cs _ _) => match (cs[0]? : Option Value) with
    | some (Value.string s) => s.size
    | _ => 0
  | _ => 0
def strL (l : List UInt8) : ByteArray := ⟨l.toArray⟩
theorem box_cell {W : World} {B t : Nat} {v : Value} (h : W.heap[B]? = some (.cells #[v] t (0, 0))) : W.cell? ⟨B, 0, none⟩ = some v ∧ W.frozen? ⟨B, 0, none⟩ = false := by
  constructor
  · simp [World.cell?, h]
  · simp [World.frozen?, h]
theorem lt_of_some {W : World} {B : Nat} {o : Obj} (h : W.heap[B]? = some o) : B < W.heap.size := by
  rcases Nat.lt_or_ge B W.heap.size with h1 | h1
  · exact h1
  · rw [Array.getElem?_eq_none h1] at h; cases h
theorem box_put {W : World} {B t : Nat} {v v' : Value} (h : W.heap[B]? = some (.cells #[v] t (0, 0))) : (W.setCell ⟨B, 0, none⟩ v').heap[B]? = some (.cells #[v'] t (0, 0)) ∧ ItStep B W (W.setCell ⟨B, 0, none⟩ v') := by
  have hl := lt_of_some h
  constructor
  · unfold World.setCell
    simp only [Array.getElem?_modify, if_pos, h, Option.map_some]
    simp
  · refine ⟨?_, ?_, ?_, ?_, ?_⟩ <;> simp [World.setCell, h, World.putObj]
    intro k hk hne
    simp [Array.getElem?_modify, Ne.symm hne]
theorem str_take (l : List UInt8) (i : Nat) : (strL l).extract 0 i = strL (l.take i) := by
  apply ByteArray.ext
  rw [ByteArray.data_extract]
  simp [strL]
theorem str_drop (l : List UInt8) (i : Nat) : (strL l).extract i l.length = strL (l.drop i) := by
  apply ByteArray.ext
  rw [ByteArray.data_extract]
  simp [strL]
  exact List.take_of_length_le (by simp)
theorem indexByte_le (l : List UInt8) : indexByte l 32 ≤ l.length := by
  by_cases h : indexByte l 32 < 0
  · omega
  · obtain ⟨i, hi⟩ : ∃ i : Nat, indexByte l 32 = (i : Int) := ⟨(indexByte l 32).toNat, by omega⟩
    have := (spl_some hi).1
    omega
set_option maxHeartbeats 4000000 in
set_option maxRecDepth 100000 in
theorem split_iter (s : ByteArray) (hs : s.size ≤ 1000000) : IterC Tryz.prog 98 9 3 (strL [32]) s ((spl s.data.toList).map strL) := by
  intro n l Bp Bs Bv J Jx W hne1 hne2 hp hs1 hv hst hY h0
  refine callsIn_of_wp Tryz.func98 rfl trivial ?_ rfl
  simp only [ptr0, Tryz.ntmps98, List.size_toArray, List.length_cons, List.length_nil, Nat.reduceAdd, Nat.reduceSub, Array.replicate_succ, Array.replicate_zero, List.push_toArray, List.append_toArray, List.nil_append, List.cons_append]
  obtain ⟨cp, fp⟩ := box_cell hp
  obtain ⟨cs, fs⟩ := box_cell hs1
  obtain ⟨cv, fv⟩ := box_cell hv
  gi_wp2
  gi_loopw [7] (fun _ wr => ∃ (k : Nat) (r : List UInt8), J k wr ∧ wr.heap[Bp]? = some (strBox (strL [32]) 9) ∧ wr.heap[Bs]? = some (strBox (strL r) 9) ∧ wr.heap[Bv]? = some (.cells #[.int .i64 0] 3 (0, 0)) ∧ r.length ≤ 1000000 ∧ (spl s.data.toList).drop k = spl r)
    (fun _ wr => boxLen Bs wr)
  case atStart =>
    exact ⟨0, s.data.toList, h0, hp, by rw [hs1]; rfl, hv, (by show s.data.toList.length ≤ _; rw [Array.length_toList]; exact hs), rfl⟩
  case round =>
    obtain ⟨k, r, hJ, hp', hs', hv', hr, hd⟩ := hrel
    obtain ⟨cp', fp'⟩ := box_cell hp'
    obtain ⟨cs', fs'⟩ := box_cell hs'
    obtain ⟨cv', fv'⟩ := box_cell hv'
    have hsz : (strL [32]).size = 1 := rfl
    have hszr : (strL r).size = r.length := by show r.toArray.size = _; simp
    have hge := indexByte_ge r 32
    have hle := indexByte_le r
    have hdl : (strL r).data.toList = r := rfl
    obtain ⟨z, hz⟩ : ∃ z, indexByte r 32 = z := ⟨_, rfl⟩
    rw [hz] at hge hle
    have hidx : ∀ w, Calls Tryz.prog 100 #[.string (strL r), .string (strL [32])] w fun e w' => e = .returned (.int .i64 z) ∧ w' = w := fun w => by
      have := sh_strings_Index_one (strL r) 32 w
      rw [hdl, hz] at this
      exact this
    by_cases hneg : z < 0
    · have hm1 : z = -1 := by omega
      subst hm1
      have hw := spl_none hz
      rw [hw] at hd
      have hk : ((spl s.data.toList).map strL)[k]? = some (strL r) := by
        have := congrArg (fun l => l[0]?) hd
        simp at this
        simp [this]
      have hkl : k + 1 = ((spl s.data.toList).map strL).length := by
        have := congrArg List.length hd
        have h2 := (List.getElem?_eq_some_iff.1 hk).1
        simp at this h2 ⊢
        omega
      obtain ⟨fn, tmps, assign, body, hy, hR⟩ := hY (n - 1) k (strL r) wr hk hJ
      gi_wp2
      refine ⟨trivial, (fun h => by first | (cases h; done) | (simp [Fence.wide] at h; done)), (callsIn_wide.2 (hidx _)).mono ?_⟩
      rintro e w' ⟨rfl, rfl⟩
      gi_wp2
      refine ⟨(fun h => by first | (cases h; done) | (simp [Fence.wide] at h; done)), hR.mono ?_⟩
      rintro e W3 ⟨hk3, ⟨rfl, hJ3⟩ | ⟨rfl, hJx3⟩⟩
      · gi_wp2
        refine bodyPost_end (results_none rfl _ _ _) rfl ⟨⟨_, rfl⟩, .inl ?_⟩
        rw [← hkl]; exact hJ3
      · gi_wp2
        exact bodyPost_end (results_none rfl _ _ _) rfl ⟨⟨_, rfl⟩, .inr hJx3⟩
    · obtain ⟨i, rfl⟩ : ∃ i : Nat, z = (i : Int) := ⟨z.toNat, by omega⟩
      obtain ⟨hil, hw⟩ := spl_some hz
      rw [hw] at hd
      have hk : ((spl s.data.toList).map strL)[k]? = some (strL (r.take i)) := by
        have := congrArg (fun l => l[0]?) hd
        simp at this
        simp [this]
      have hd' : (spl s.data.toList).drop (k + 1) = spl (r.drop (i + 1)) := by
        have := congrArg (List.drop 1) hd
        simpa [List.drop_drop] using this
      obtain ⟨fn, tmps, assign, body, hy, hR⟩ := hY (n - 1) k (strL (r.take i)) wr hk hJ
      have hx1 : (strL r).extract 0 i = strL (r.take i) := str_take r i
      have hx2 : (strL r).extract (i + 1) r.length = strL (r.drop (i + 1)) := str_drop r (i + 1)
      gi_wp2
      refine ⟨trivial, (fun h => by first | (cases h; done) | (simp [Fence.wide] at h; done)), (callsIn_wide.2 (hidx _)).mono ?_⟩
      rintro e w' ⟨rfl, rfl⟩
      gi_wp2
      refine ⟨(fun h => by first | (cases h; done) | (simp [Fence.wide] at h; done)), hR.mono ?_⟩
      rintro e W3 ⟨hk3, ⟨rfl, hJ3⟩ | ⟨rfl, hJx3⟩⟩
      · obtain ⟨kp, ks, kv⟩ : W3.heap[Bp]? = some (strBox (strL [32]) 9) ∧ W3.heap[Bs]? = some (strBox (strL r) 9) ∧ W3.heap[Bv]? = some (.cells #[.int .i64 0] 3 (0, 0)) := by
          obtain ⟨_, hk3⟩ := hk3
          exact ⟨by rw [hk3 Bp (by simp)]; exact hp', by rw [hk3 Bs (by simp)]; exact hs', by rw [hk3 Bv (by simp)]; exact hv'⟩
        obtain ⟨cp3, fp3⟩ := box_cell kp
        obtain ⟨cs3, fs3⟩ := box_cell ks
        obtain ⟨cv3, fv3⟩ := box_cell kv
        gi_wp2
        obtain ⟨qs, qo⟩ := box_put (v' := .string (strL (r.drop (i + 1)))) ks
        refine ⟨⟨_, _, _, _, _, _, _, _, _, _, _, _, _, _, _, _, _, _, _, _, _, _, ⟨k + 1, r.drop (i + 1), hst _ _ _ hJ3 qo, ?_, qs, ?_, ?_, hd'⟩, rfl⟩, ?_⟩
        · rw [qo.heap Bp (lt_of_some kp) hne1]; exact kp
        · rw [qo.heap Bv (lt_of_some kv) hne2]; exact kv
        · rw [List.length_drop]; omega
        · have e1 : boxLen Bs w' = r.length := by unfold boxLen; rw [hs']; exact hszr
          have e2 : boxLen Bs (W3.setCell ⟨Bs, 0, none⟩ (.string (strL (r.drop (i + 1))))) = (r.drop (i + 1)).length := by unfold boxLen; rw [qs]; show (r.drop (i + 1)).toArray.size = _; simp
          rw [e1, e2, List.length_drop]; omega
      · gi_wp2
        exact bodyPost_ret (results_none rfl _ _ _) rfl ⟨⟨_, rfl⟩, .inr hJx3⟩
end Go.Proofs.YtgdhgnhgmbkpdaaGreatDoor.S

namespace Go.Proofs.YtgdhgnhgmbkpdaaGreatDoor.S
open Go.QfSy Go.RowKit
def maxT : Tb := ⟨2, .i64, [], 3⟩
def rngT : Tb := ⟨4, .u8, [], 54⟩
def synT : Tb := ⟨3, .u8, [], 54⟩
def powT : Tb := ⟨1, .u64, [1, 10, 100, 1000, 10000, 100000, 1000000, 10000000, 100000000, 1000000000, 10000000000, 100000000000, 1000000000000, 10000000000000, 100000000000000, 1000000000000000, 10000000000000000, 100000000000000000, 1000000000000000000, 10000000000000000000], 176⟩
theorem max_of {w : World} (h : TabAt maxT w) : ∃ m, w.cell? ⟨2, 0, none⟩ = some (.int .i64 m) := by
  obtain ⟨v, ⟨n, rfl⟩, h⟩ := h
  exact ⟨n, (box_cell h).1⟩
theorem err_of {g t : Nat} {w : World} (h : TabAt ⟨g, .u8, [], t⟩ w) : ∃ ev, w.cell? ⟨g, 0, none⟩ = some ev ∧ (ev = .nilIface ∨ ∃ te pe, ev = .iface te pe) := by
  obtain ⟨v, hv, h⟩ := h
  refine ⟨v, (box_cell h).1, ?_⟩
  rcases hv with ⟨h1, _⟩ | ⟨_, t, x, rfl⟩
  · cases h1
  · exact .inr ⟨t, x, rfl⟩
theorem flatP {tabs : List Tb} {f : Nat} {A : List RV} {R : RV} (hfn : ∃ fn, Tryz.prog.funcs[f]? = some fn ∧ fn.body.isSome = true)
    (h : ∀ (w : World) (F : Fz) (Args : List Value), TabW tabs w → Vld F w → RsRel F A Args → Calls Tryz.prog f Args.toArray w fun e w' => ∃ V, e = .returned V ∧ (∀ F, RRel F R V) ∧ Below w.heap.size w w') : PureC Tryz.prog tabs f A R := by
  refine ⟨hfn, ?_⟩
  intro w F Args ht hF hr
  refine (h w F Args ht hF hr).mono ?_
  rintro e w' ⟨V, rfl, hR, hb⟩
  exact ⟨V, F, rfl, fun _ _ h => h, hF.below hb, fun _ _ h => .inl h, hR F, hb⟩
theorem below_drew (w : World) (n : Nat) : Below w.heap.size w (w.drewN n) := ⟨rfl, rfl, rfl, Nat.le_refl _, fun _ _ => rfl⟩
def cutR (s sep : ByteArray) : RV := .tup [.str (strL (Lib.cut s.data.toList sep.data.toList).1), .str (strL (Lib.cut s.data.toList sep.data.toList).2.1), .bool (Lib.cut s.data.toList sep.data.toList).2.2]
theorem cut_pure (s sep : ByteArray) (hs : s.size ≤ 1000000) : PureC Tryz.prog [maxT] 34 [.str s, .str sep] (cutR s sep) := by
  refine flatP ⟨_, Tryz.func34, rfl⟩ ?_
  intro w F Args ht hF hr
  cases hr with | cons h0 hr => cases hr with | cons h1 hr =>
  cases hr; cases h0; cases h1
  obtain ⟨m, hm⟩ := max_of (ht maxT (by simp))
  refine (sh_strings_Cut s sep m w (by omega) hm).mono ?_
  rintro e w' ⟨rfl, n, rfl⟩
  exact ⟨_, rfl, fun F => .tup (.cons (.str _) (.cons (.str _) (.cons (.bool _) .nil))), below_drew w n⟩
def atoiV (l : List UInt8) : Int := match Lib.atoiAll l with
  | .ok v => v
  | .range => Lib.atoiSat l
  | _ => 0
def atoiE (l : List UInt8) : Bool := match Lib.atoiAll l with
  | .ok _ => true
  | _ => false
theorem atoi_pure (s : ByteArray) (hs : s.size ≤ 1000000) : PureC Tryz.prog [rngT, synT] 64 [.str s] (.tup [.int .i64 (atoiV s.data.toList), .err (atoiE s.data.toList)]) := by
  refine flatP ⟨_, Tryz.func64, rfl⟩ ?_
  intro w F Args ht hF hr
  cases hr with | cons h0 hr =>
  cases hr; cases h0
  unfold atoiV atoiE
  cases h : Lib.atoiAll s.data.toList with
  | ok v =>
    refine (sh_strconv_Atoi_ok s (by omega) v h w).mono ?_
    rintro e w' ⟨rfl, hw⟩
    refine ⟨_, rfl, fun F => .tup (.cons (.int _ _) (.cons (.err (.inl ⟨rfl, rfl⟩)) .nil)), ?_⟩
    rcases hw with rfl | ⟨t, rfl⟩
    · exact ⟨rfl, rfl, rfl, Nat.le_refl _, fun _ _ => rfl⟩
    · exact Go.Joins.below_bytesWorld _ _ _ _ (Nat.le_refl _)
  | range =>
    obtain ⟨ev, h1, h2⟩ := err_of (ht rngT (by simp))
    refine (sh_strconv_Atoi_range s (by omega) h ev w h1 h2).mono ?_
    rintro e w' ⟨N, rfl, _, _, hb⟩
    exact ⟨_, rfl, fun F => .tup (.cons (.int _ _) (.cons (.err (.inr ⟨rfl, _, _, rfl⟩)) .nil)), hb⟩
  | _ =>
    obtain ⟨ev, h1, h2⟩ := err_of (ht synT (by simp))
    refine (sh_strconv_Atoi_syntax s (by omega) h ev w h1 h2).mono ?_
    rintro e w' ⟨N, rfl, _, _, hb⟩
    exact ⟨_, rfl, fun F => .tup (.cons (.int _ _) (.cons (.err (.inr ⟨rfl, _, _, rfl⟩)) .nil)), hb⟩
def prsV (l : List UInt8) : Int := match Lib.parseIntB 64 l with
  | .ok v => v
  | .range => Lib.intSat 64 l
  | _ => 0
def prsE (l : List UInt8) : Bool := match Lib.parseIntB 64 l with
  | .ok _ => true
  | _ => false
theorem prs_pure (s : ByteArray) (hs : s.size ≤ 1000000) : PureC Tryz.prog [rngT, synT] 35 [.str s, .int .i64 10, .int .i64 64] (.tup [.int .i64 (prsV s.data.toList), .err (prsE s.data.toList)]) := by
  refine flatP ⟨_, Tryz.func35, rfl⟩ ?_
  intro w F Args ht hF hr
  cases hr with | cons h0 hr => cases hr with | cons h1 hr => cases hr with | cons h2 hr =>
  cases hr; cases h0; cases h1; cases h2
  unfold prsV prsE
  cases h : Lib.parseIntB 64 s.data.toList with
  | ok v =>
    refine (sh_strconv_ParseInt_10_at64_ok s (by omega) v h w).mono ?_
    rintro e w' ⟨rfl, hw⟩
    refine ⟨_, rfl, fun F => .tup (.cons (.int _ _) (.cons (.err (.inl ⟨rfl, rfl⟩)) .nil)), ?_⟩
    rcases hw with rfl | ⟨t, rfl⟩
    · exact ⟨rfl, rfl, rfl, Nat.le_refl _, fun _ _ => rfl⟩
    · exact Go.Joins.below_bytesWorld _ _ _ _ (Nat.le_refl _)
  | range =>
    obtain ⟨ev, h1, h2⟩ := err_of (ht rngT (by simp))
    refine (sh_strconv_ParseInt_10_at64_range s (by omega) h ev w h1 h2).mono ?_
    rintro e w' ⟨N, rfl, _, _, hb⟩
    exact ⟨_, rfl, fun F => .tup (.cons (.int _ _) (.cons (.err (.inr ⟨rfl, _, _, rfl⟩)) .nil)), hb⟩
  | _ =>
    obtain ⟨ev, h1, h2⟩ := err_of (ht synT (by simp))
    refine (sh_strconv_ParseInt_10_at64_syntax s (by omega) h ev w h1 h2).mono ?_
    rintro e w' ⟨N, rfl, _, _, hb⟩
    exact ⟨_, rfl, fun F => .tup (.cons (.int _ _) (.cons (.err (.inr ⟨rfl, _, _, rfl⟩)) .nil)), hb⟩
def digS (n : Int) : ByteArray := strL (Lib.itoa n)
theorem itoa_pure (n : Int) (h0 : 0 ≤ n) (h1 : n < 100) : PureC Tryz.prog [] 30 [.int .i64 n] (.str (digS n)) := by
  refine flatP ⟨_, Tryz.func30, rfl⟩ ?_
  intro w F Args ht hF hr
  cases hr with | cons h0' hr =>
  cases hr; cases h0'
  obtain ⟨i, rfl⟩ : ∃ i : Nat, n = (i : Int) := ⟨n.toNat, by omega⟩
  refine (sh_strconv_Itoa_small i (by omega) w).mono ?_
  rintro e w' ⟨rfl, rfl⟩
  refine ⟨_, rfl, fun F => ?_, ⟨rfl, rfl, rfl, Nat.le_refl _, fun _ _ => rfl⟩⟩
  have : digS (i : Int) = ⟨(Lib.decDigits i).toArray⟩ := by
    unfold digS Lib.itoa strL
    rw [if_neg (by omega)]
    simp
  rw [this]
  exact .str _
theorem pow_of {w : World} (h : TabAt powT w) : Lib.TabIs Tryz.prog w "internal/strconv.uint64pow10" .u64 Lib.pow10Tab := by
  have h : w.heap[1]? = _ := h
  have hg : Tryz.prog.globalNamed "internal/strconv.uint64pow10" = some 1 := by kernel_rfl
  unfold Lib.TabIs World.var?
  rw [hg]
  simp only [Option.bind_some, h]
  rfl
theorem fmt_pure (n : Int) (h0 : -9223372036854775808 ≤ n) (h1 : n ≤ 9223372036854775807) : PureC Tryz.prog [powT] 29 [.int .i64 n, .int .i64 10] (.str (digS n)) := by
  refine flatP ⟨_, Tryz.func29, rfl⟩ ?_
  intro w F Args ht hF hr
  cases hr with | cons h0' hr => cases hr with | cons h1' hr =>
  cases hr; cases h0'; cases h1'
  refine (sh_strconv_FormatInt_10 n h0 h1 w (pow_of (ht powT (by simp)))).mono ?_
  rintro e w' ⟨rfl, k, os, rfl⟩
  exact ⟨_, rfl, fun F => .str _, Lib.below_grow _ _ (Nat.le_refl _) _ _⟩
noncomputable def entsS : List OEnt := [
  ⟨34, [maxT], fun A => match A with
    | [.str s, .str p] => some (cutR s p, [s.size ≤ 1000000])
    | _ => none⟩,
  ⟨64, [rngT, synT], fun A => match A with
    | [.str s] => some (.tup [.int .i64 (atoiV s.data.toList), .err (atoiE s.data.toList)], [s.size ≤ 1000000])
    | _ => none⟩,
  ⟨35, [rngT, synT], fun A => match A with
    | [.str s, .int .i64 10, .int .i64 64] => some (.tup [.int .i64 (prsV s.data.toList), .err (prsE s.data.toList)], [s.size ≤ 1000000])
    | _ => none⟩,
  ⟨30, [], fun A => match A with
    | [.int .i64 n] => some (.str (digS n), [0 ≤ n ∧ n < 100])
    | _ => none⟩,
  ⟨29, [powT], fun A => match A with
    | [.int .i64 n, .int .i64 10] => some (.str (digS n), [-9223372036854775808 ≤ n ∧ n ≤ 9223372036854775807])
    | _ => none⟩]
theorem entsS_ok : ∀ e ∈ entsS, EntOk Tryz.prog e := by
  intro e he
  simp only [entsS, List.mem_cons, List.not_mem_nil, or_false] at he
  rcases he with rfl | rfl | rfl | rfl | rfl
  · intro A R ms h hm
    simp only at h
    split at h
    · cases h; exact cut_pure _ _ (hm _ (by simp))
    · cases h
  · intro A R ms h hm
    simp only at h
    split at h
    · cases h; exact atoi_pure _ (hm _ (by simp))
    · cases h
  · intro A R ms h hm
    simp only at h
    split at h
    · cases h; exact prs_pure _ (hm _ (by simp))
    · cases h
  · intro A R ms h hm
    simp only at h
    split at h
    · cases h
      have := hm _ (List.mem_singleton.2 rfl)
      exact itoa_pure _ this.1 this.2
    · cases h
  · intro A R ms h hm
    simp only at h
    split at h
    · cases h
      have := hm _ (List.mem_singleton.2 rfl)
      exact fmt_pure _ this.1 this.2
    · cases h
end Go.Proofs.YtgdhgnhgmbkpdaaGreatDoor.S

namespace Go.Proofs.YtgdhgnhgmbkpdaaGreatDoor.S
open Go.QfSy Go.RowKit
def cA (s : ByteArray) (p : List UInt8) : ByteArray := strL (Lib.cut s.data.toList p).1
def cB (s : ByteArray) (p : List UInt8) : ByteArray := strL (Lib.cut s.data.toList p).2.1
def neg0 (s : ByteArray) : Bool := ((s[0]?.getD 0).toNat : Int) == 45
def tl1 (s : ByteArray) : ByteArray := s.extract 1 s.size
theorem strL_size (l : List UInt8) : (strL l).size = l.length := by show l.toArray.size = _; simp
theorem cA_size (s : ByteArray) (p : List UInt8) : (cA s p).size ≤ s.size := by
  unfold cA Lib.cut
  rw [strL_size]
  have : s.data.toList.length = s.size := by rw [Array.length_toList]; rfl
  split <;> simp <;> omega
theorem cB_size (s : ByteArray) (p : List UInt8) : (cB s p).size ≤ s.size := by
  unfold cB Lib.cut
  rw [strL_size]
  have : s.data.toList.length = s.size := by rw [Array.length_toList]; rfl
  split <;> simp <;> omega
theorem tl1_size (s : ByteArray) : (tl1 s).size ≤ s.size := by unfold tl1; simp
def eqB (a b : ByteArray) : Bool := a.toList == b.toList
theorem eqB_true {a b : ByteArray} (h : eqB a b = true) : a = b := by
  unfold eqB at h
  rw [ByteArray.toList_eq, ByteArray.toList_eq] at h
  apply ByteArray.ext
  apply Array.ext'
  simpa using h
theorem eqB_self (a : ByteArray) : eqB a a = true := by unfold eqB; simp
theorem size_pos {s : ByteArray} (h : eqB s ⟨#[]⟩ = false) : 0 < s.size := by
  rcases Nat.eq_zero_or_pos s.size with h0 | h0
  · have : s = ⟨#[]⟩ := by
      apply ByteArray.ext
      exact Array.eq_empty_of_size_eq_zero h0
    rw [this, eqB_self] at h
    cases h
  · exact h0
def pcS (w : ByteArray) : Con × Bool :=
  bif eqB (cB w [94]) ⟨#[]⟩ then (Con.zero, false) else
    (⟨atoiV (cA w [94]).data.toList, atoiV (tl1 (cB w [94])).data.toList, bif neg0 (cB w [94]) then -1 else 1, false, 0⟩, atoiE (cA w [94]).data.toList && atoiE (tl1 (cB w [94])).data.toList)
set_option maxHeartbeats 4000000 in
set_option maxRecDepth 100000 in
theorem pcS_pure (w : ByteArray) (hw : w.size ≤ 1000000) : PureC Tryz.prog [maxT, rngT, synT] 37 [.str w] (.tup [.agg (pcS w).1.rvs, .bool (pcS w).2]) := by
  have z1 := cA_size w [94]; have z2 := cB_size w [94]; have z3 := tl1_size (cB w [94])
  have rr := fun (tp : List Bool) (ms : List Prop) h hm => pure_run evOk (callF_ok evOk (orcOf_ok entsS_ok) 8) Tryz.func37 (A := [.str w]) rfl none_ann rfl rfl evNg (tabs := [maxT, rngT, synT]) (R := .tup [.agg (pcS w).1.rvs, .bool (pcS w).2]) (tp := tp) (ms := ms) h hm
  refine Or.elim (Bool.eq_false_or_eq_true ((strL (Lib.cut w.data.toList #[(94 : UInt8)].toList).snd.fst).toList == (ByteArray.mk #[]).toList)) (fun d1 => rr [true] [(0 : Int) = (pcS w).fst.exp, (0 : Int) = (pcS w).fst.dim, (0 : Int) = (pcS w).fst.sign, false = (pcS w).fst.odd, (0 : Int) = (pcS w).fst.oddity, false = (pcS w).snd, Dec ((strL (Lib.cut w.data.toList #[(94 : UInt8)].toList).snd.fst).toList == (ByteArray.mk #[]).toList) true, w.size ≤ (1000000 : Nat)] (by kernel_rfl) ⟨?_, ?_, ?_, ?_, ?_, ?_, d1, (?_ : w.size ≤ (1000000 : Nat))⟩)
           (fun d1 => Or.elim (Bool.eq_false_or_eq_true ((↑((strL (Lib.cut w.data.toList #[(94 : UInt8)].toList).snd.fst)[Int.toNat (0 : Int)]?.getD (0 : UInt8)).toNat : Int) == (45 : Int))) (fun d2 => Or.elim (Bool.eq_false_or_eq_true (atoiE (strL (Lib.cut w.data.toList #[(94 : UInt8)].toList).fst).data.toList)) (fun d3 => rr [false, true, true] [atoiV (strL (Lib.cut w.data.toList #[(94 : UInt8)].toList).fst).data.toList = (pcS w).fst.exp, atoiV ((strL (Lib.cut w.data.toList #[(94 : UInt8)].toList).snd.fst).extract (Int.toNat (1 : Int)) (strL (Lib.cut w.data.toList #[(94 : UInt8)].toList).snd.fst).size).data.toList = (pcS w).fst.dim, (-1 : Int) = (pcS w).fst.sign, false = (pcS w).fst.odd, (0 : Int) = (pcS w).fst.oddity, atoiE ((strL (Lib.cut w.data.toList #[(94 : UInt8)].toList).snd.fst).extract (Int.toNat (1 : Int)) (strL (Lib.cut w.data.toList #[(94 : UInt8)].toList).snd.fst).size).data.toList = (pcS w).snd, Dec (atoiE (strL (Lib.cut w.data.toList #[(94 : UInt8)].toList).fst).data.toList) true, ((strL (Lib.cut w.data.toList #[(94 : UInt8)].toList).snd.fst).extract (Int.toNat (1 : Int)) (strL (Lib.cut w.data.toList #[(94 : UInt8)].toList).snd.fst).size).size ≤ (1000000 : Nat), (0 : Int) ≤ (1 : Int) ∧ (1 : Int) ≤ (↑(strL (Lib.cut w.data.toList #[(94 : UInt8)].toList).snd.fst).size : Int), (strL (Lib.cut w.data.toList #[(94 : UInt8)].toList).fst).size ≤ (1000000 : Nat), Dec ((↑((strL (Lib.cut w.data.toList #[(94 : UInt8)].toList).snd.fst)[Int.toNat (0 : Int)]?.getD (0 : UInt8)).toNat : Int) == (45 : Int)) true, (0 : Int) ≤ (0 : Int) ∧ Int.toNat (0 : Int) < (strL (Lib.cut w.data.toList #[(94 : UInt8)].toList).snd.fst).size, Dec ((strL (Lib.cut w.data.toList #[(94 : UInt8)].toList).snd.fst).toList == (ByteArray.mk #[]).toList) false, w.size ≤ (1000000 : Nat)] (by kernel_rfl) ⟨?_, ?_, ?_, ?_, ?_, ?_, d3, ?_, ?_, ?_, d2, ?_, d1, (?_ : w.size ≤ (1000000 : Nat))⟩)
           (fun d3 => rr [false, true, false] [atoiV (strL (Lib.cut w.data.toList #[(94 : UInt8)].toList).fst).data.toList = (pcS w).fst.exp, atoiV ((strL (Lib.cut w.data.toList #[(94 : UInt8)].toList).snd.fst).extract (Int.toNat (1 : Int)) (strL (Lib.cut w.data.toList #[(94 : UInt8)].toList).snd.fst).size).data.toList = (pcS w).fst.dim, (-1 : Int) = (pcS w).fst.sign, false = (pcS w).fst.odd, (0 : Int) = (pcS w).fst.oddity, false = (pcS w).snd, Dec (atoiE (strL (Lib.cut w.data.toList #[(94 : UInt8)].toList).fst).data.toList) false, ((strL (Lib.cut w.data.toList #[(94 : UInt8)].toList).snd.fst).extract (Int.toNat (1 : Int)) (strL (Lib.cut w.data.toList #[(94 : UInt8)].toList).snd.fst).size).size ≤ (1000000 : Nat), (0 : Int) ≤ (1 : Int) ∧ (1 : Int) ≤ (↑(strL (Lib.cut w.data.toList #[(94 : UInt8)].toList).snd.fst).size : Int), (strL (Lib.cut w.data.toList #[(94 : UInt8)].toList).fst).size ≤ (1000000 : Nat), Dec ((↑((strL (Lib.cut w.data.toList #[(94 : UInt8)].toList).snd.fst)[Int.toNat (0 : Int)]?.getD (0 : UInt8)).toNat : Int) == (45 : Int)) true, (0 : Int) ≤ (0 : Int) ∧ Int.toNat (0 : Int) < (strL (Lib.cut w.data.toList #[(94 : UInt8)].toList).snd.fst).size, Dec ((strL (Lib.cut w.data.toList #[(94 : UInt8)].toList).snd.fst).toList == (ByteArray.mk #[]).toList) false, w.size ≤ (1000000 : Nat)] (by kernel_rfl) ⟨?_, ?_, ?_, ?_, ?_, ?_, d3, ?_, ?_, ?_, d2, ?_, d1, (?_ : w.size ≤ (1000000 : Nat))⟩))
           (fun d2 => Or.elim (Bool.eq_false_or_eq_true (atoiE (strL (Lib.cut w.data.toList #[(94 : UInt8)].toList).fst).data.toList)) (fun d3 => rr [false, false, true] [atoiV (strL (Lib.cut w.data.toList #[(94 : UInt8)].toList).fst).data.toList = (pcS w).fst.exp, atoiV ((strL (Lib.cut w.data.toList #[(94 : UInt8)].toList).snd.fst).extract (Int.toNat (1 : Int)) (strL (Lib.cut w.data.toList #[(94 : UInt8)].toList).snd.fst).size).data.toList = (pcS w).fst.dim, (1 : Int) = (pcS w).fst.sign, false = (pcS w).fst.odd, (0 : Int) = (pcS w).fst.oddity, atoiE ((strL (Lib.cut w.data.toList #[(94 : UInt8)].toList).snd.fst).extract (Int.toNat (1 : Int)) (strL (Lib.cut w.data.toList #[(94 : UInt8)].toList).snd.fst).size).data.toList = (pcS w).snd, Dec (atoiE (strL (Lib.cut w.data.toList #[(94 : UInt8)].toList).fst).data.toList) true, ((strL (Lib.cut w.data.toList #[(94 : UInt8)].toList).snd.fst).extract (Int.toNat (1 : Int)) (strL (Lib.cut w.data.toList #[(94 : UInt8)].toList).snd.fst).size).size ≤ (1000000 : Nat), (0 : Int) ≤ (1 : Int) ∧ (1 : Int) ≤ (↑(strL (Lib.cut w.data.toList #[(94 : UInt8)].toList).snd.fst).size : Int), (strL (Lib.cut w.data.toList #[(94 : UInt8)].toList).fst).size ≤ (1000000 : Nat), Dec ((↑((strL (Lib.cut w.data.toList #[(94 : UInt8)].toList).snd.fst)[Int.toNat (0 : Int)]?.getD (0 : UInt8)).toNat : Int) == (45 : Int)) false, (0 : Int) ≤ (0 : Int) ∧ Int.toNat (0 : Int) < (strL (Lib.cut w.data.toList #[(94 : UInt8)].toList).snd.fst).size, Dec ((strL (Lib.cut w.data.toList #[(94 : UInt8)].toList).snd.fst).toList == (ByteArray.mk #[]).toList) false, w.size ≤ (1000000 : Nat)] (by kernel_rfl) ⟨?_, ?_, ?_, ?_, ?_, ?_, d3, ?_, ?_, ?_, d2, ?_, d1, (?_ : w.size ≤ (1000000 : Nat))⟩)
           (fun d3 => rr [false, false, false] [atoiV (strL (Lib.cut w.data.toList #[(94 : UInt8)].toList).fst).data.toList = (pcS w).fst.exp, atoiV ((strL (Lib.cut w.data.toList #[(94 : UInt8)].toList).snd.fst).extract (Int.toNat (1 : Int)) (strL (Lib.cut w.data.toList #[(94 : UInt8)].toList).snd.fst).size).data.toList = (pcS w).fst.dim, (1 : Int) = (pcS w).fst.sign, false = (pcS w).fst.odd, (0 : Int) = (pcS w).fst.oddity, false = (pcS w).snd, Dec (atoiE (strL (Lib.cut w.data.toList #[(94 : UInt8)].toList).fst).data.toList) false, ((strL (Lib.cut w.data.toList #[(94 : UInt8)].toList).snd.fst).extract (Int.toNat (1 : Int)) (strL (Lib.cut w.data.toList #[(94 : UInt8)].toList).snd.fst).size).size ≤ (1000000 : Nat), (0 : Int) ≤ (1 : Int) ∧ (1 : Int) ≤ (↑(strL (Lib.cut w.data.toList #[(94 : UInt8)].toList).snd.fst).size : Int), (strL (Lib.cut w.data.toList #[(94 : UInt8)].toList).fst).size ≤ (1000000 : Nat), Dec ((↑((strL (Lib.cut w.data.toList #[(94 : UInt8)].toList).snd.fst)[Int.toNat (0 : Int)]?.getD (0 : UInt8)).toNat : Int) == (45 : Int)) false, (0 : Int) ≤ (0 : Int) ∧ Int.toNat (0 : Int) < (strL (Lib.cut w.data.toList #[(94 : UInt8)].toList).snd.fst).size, Dec ((strL (Lib.cut w.data.toList #[(94 : UInt8)].toList).snd.fst).toList == (ByteArray.mk #[]).toList) false, w.size ≤ (1000000 : Nat)] (by kernel_rfl) ⟨?_, ?_, ?_, ?_, ?_, ?_, d3, ?_, ?_, ?_, d2, ?_, d1, (?_ : w.size ≤ (1000000 : Nat))⟩)))
  all_goals first | (first | (with_reducible rfl) | exact hw | (show (cA w [94]).size ≤ 1000000; omega) | (show (tl1 (cB w [94])).size ≤ 1000000; omega) | (have := size_pos (s := cB w [94]) d1; show (0 : Int) ≤ 1 ∧ (1 : Int) ≤ ((cB w [94]).size : Int); omega) | (have := size_pos (s := cB w [94]) d1; show (0 : Int) ≤ 0 ∧ 0 < (cB w [94]).size; omega) | (unfold pcS; rw [show eqB (cB w [94]) ⟨#[]⟩ = _ from d1]; simp only [cond_true, cond_false]; done) | (unfold pcS; rw [show eqB (cB w [94]) ⟨#[]⟩ = _ from d1]; simp only [cond_true, cond_false]; first | (with_reducible rfl) | ((rw [show neg0 (cB w [94]) = _ from d2]) <;> rfl) | ((rw [show atoiE (cA w [94]).data.toList = _ from d3, Bool.true_and]) <;> rfl) | ((rw [show atoiE (cA w [94]).data.toList = _ from d3, Bool.false_and]) <;> rfl) | rfl))
end Go.Proofs.YtgdhgnhgmbkpdaaGreatDoor.S

namespace Go.Proofs.YtgdhgnhgmbkpdaaGreatDoor.S
open Go.QfSy Go.RowKit
theorem w64 {n : Int} (h1 : -9223372036854775808 ≤ n) (h2 : n ≤ 9223372036854775807) : IntKind.i64.wrap n = n := by
  rw [IntKind.wrap_i64]; omega
abbrev at_ (L : List Con) (i : Nat) : Con := L.getD i Con.zero
theorem drop_at {L : List Con} {k : Nat} (h : k < L.length) : L.drop k = at_ L k :: L.drop (k + 1) := by
  rw [List.drop_eq_getElem_cons h]
  simp [at_, h]
theorem take_at {L : List Con} {k : Nat} (h : k < L.length) : L.take (k + 1) = L.take k ++ [at_ L k] := by
  rw [List.take_succ_eq_append_getElem h]
  simp [at_, h]
def dimS : List Con → Int
  | [] => 0
  | c :: l => c.dim + dimS l
theorem dimS_append (a b : List Con) : dimS (a ++ b) = dimS a + dimS b := by
  induction a with
  | nil => simp [dimS]
  | cons c a ih => simp only [List.cons_append, dimS, ih]; omega
theorem dimS_take {L : List Con} {k : Nat} (h : k < L.length) : dimS (L.take (k + 1)) = dimS (L.take k) + (at_ L k).dim := by
  rw [take_at h, dimS_append]; simp [dimS]
def okO (c : Con) (last s : Int) : Bool := decide (0 ≤ c.exp ∧ c.exp ≤ 60 ∧ last < c.exp ∧ (c.sign = 1 ∨ c.sign = -1) ∧ 1 ≤ c.dim ∧ c.dim ≤ 8 - s)
def ordL : List Con → Int → Int → Bool
  | [], _, _ => true
  | c :: l, last, s => okO c last s && ordL l c.exp (s + c.dim)
def orderV (L : List Con) : Bool := ordL L (-1) 0 && decide (dimS L > 0)
def lastO (L : List Con) (k : Nat) : Int := if k = 0 then -1 else (at_ L (k - 1)).exp
theorem lastO_succ (L : List Con) (k : Nat) : lastO L (k + 1) = (at_ L k).exp := by simp [lastO]
theorem ord_next {L : List Con} {k : Nat} {s : Int} (hk : k < L.length) (ho : okO (at_ L k) (lastO L k) s = true) : ordL (L.drop (k + 1)) (lastO L (k + 1)) (s + (at_ L k).dim) = ordL (L.drop k) (lastO L k) s := by
  rw [drop_at hk, lastO_succ]
  show _ = (okO (at_ L k) (lastO L k) s && _)
  rw [ho, Bool.true_and]
theorem ord_end {L : List Con} {k : Nat} (hk : L.length ≤ k) (l s : Int) : ordL (L.drop k) l s = true := by
  rw [List.drop_eq_nil_of_le hk]; rfl
theorem dimS_all {L : List Con} {k : Nat} (hk : L.length ≤ k) : dimS (L.take k) = dimS L := by rw [List.take_of_length_le hk]
theorem okO_iff {L : List Con} {k : Nat} {s : Int} : okO (at_ L k) (lastO L k) s = true ↔ (0 ≤ (at_ L k).exp ∧ (at_ L k).exp ≤ 60 ∧ (k = 0 ∨ (at_ L (k - 1)).exp < (at_ L k).exp) ∧ ((at_ L k).sign = 1 ∨ (at_ L k).sign = -1) ∧ 1 ≤ (at_ L k).dim ∧ (at_ L k).dim ≤ 8 - s) := by
  unfold okO lastO
  rw [decide_eq_true_eq]
  split
  · rename_i h
    constructor
    · rintro ⟨a, b, c, d⟩; exact ⟨a, b, .inl h, d⟩
    · rintro ⟨a, b, c, d⟩; exact ⟨a, b, by omega, d⟩
  · rename_i h
    constructor
    · rintro ⟨a, b, c, d⟩; exact ⟨a, b, .inr c, d⟩
    · rintro ⟨a, b, c, d⟩; exact ⟨a, b, by omega, d⟩
end Go.Proofs.YtgdhgnhgmbkpdaaGreatDoor.S

namespace Go.Proofs.YtgdhgnhgmbkpdaaGreatDoor.S
open Go.QfSy Go.RowKit
def RImp (a b : RV) : Prop := ∀ F V, RRel F a V → RRel F b V
def RImps (A B : List RV) : Prop := ∀ F Vs, RsRel F A Vs → RsRel F B Vs
theorem RImp.same {a : RV} : RImp a a := fun _ _ h => h
theorem RImps.nil : RImps [] [] := fun _ _ h => h
theorem RImps.same {A : List RV} : RImps A A := fun _ _ h => h
theorem RImps.cons {a b : RV} {A B : List RV} (h : RImp a b) (t : RImps A B) : RImps (a :: A) (b :: B) := fun F Vs k => by
  cases k with
  | cons k1 k2 => exact .cons (h _ _ k1) (t _ _ k2)
theorem RImp.agg {A B : List RV} (h : RImps A B) : RImp (.agg A) (.agg B) := fun F V k => by
  cases k with
  | agg k => exact .agg (h _ _ k)
theorem RImp.con {n : Nat} {row : Nat → List RV} (h : ∀ i, i < n → row i = (Con.ofR (row i)).rvs) : RImp (.sl n 5 row) (roC (consR n row)) := fun F V k => roC_ro h k
theorem intsR_ro (k : IntKind) (l : List Int) : intsR l.length (fun i => [.int k (l.getD i 0)]) = l := by
  apply List.ext_getElem
  · simp [intsR]
  · intro i h1 h2
    simp [intsR, intR, h2]
theorem RImp.ints {n : Nat} {row : Nat → List RV} (h : ∀ i, i < n → row i = [.int .i64 (intR (row i))]) : RImp (.sl n 1 row) (rI .i64 (intsR n row)) := fun F V k => by
  unfold rI
  have hn : (intsR n row).length = n := by simp [intsR]
  rw [hn]
  refine k.rows (fun i hi => ?_)
  rw [h i hi]
  simp [intsR, hi]
theorem PureC.imp {P : Program} {tabs : List Tb} {f : Nat} {A A' : List RV} {R : RV} (h : PureC P tabs f A' R) (ha : RImps A A') : PureC P tabs f A R := h.args ha
theorem consR_len {n : Nat} {row : Nat → List RV} : (consR n row).length = n := by simp [consR]
theorem intsR_len {n : Nat} {row : Nat → List RV} : (intsR n row).length = n := by simp [intsR]
def okC (c : Con) : Prop := (0 ≤ c.exp ∧ c.exp ≤ 1000) ∧ (1 ≤ c.dim ∧ c.dim ≤ 1000) ∧ (c.sign = 1 ∨ c.sign = -1) ∧ (0 ≤ c.oddity ∧ c.oddity ≤ 7)
def okL (L : List Con) : Prop := L.length ≤ 1000 ∧ ∀ c ∈ L, okC c
def okE (L : List Con) : Prop := L.length ≤ 1000 ∧ ∀ c ∈ L, 0 ≤ c.exp ∧ c.exp ≤ 1000
theorem okL.e {L : List Con} (h : okL L) : okE L := ⟨h.1, fun c hc => (h.2 c hc).1⟩
theorem okL.at {L : List Con} (h : okL L) {k : Nat} (hk : k < L.length) : okC (at_ L k) := by
  have : at_ L k = L[k] := by simp [at_, hk]
  rw [this]; exact h.2 _ (List.getElem_mem hk)
theorem okE.at {L : List Con} (h : okE L) {k : Nat} (hk : k < L.length) : 0 ≤ (at_ L k).exp ∧ (at_ L k).exp ≤ 1000 := by
  have : at_ L k = L[k] := by simp [at_, hk]
  rw [this]; exact h.2 _ (List.getElem_mem hk)
theorem okE.at' {L : List Con} (h : okE L) (k : Nat) : 0 ≤ (at_ L k).exp ∧ (at_ L k).exp ≤ 1000 := by
  rcases Nat.lt_or_ge k L.length with hk | hk
  · exact h.at hk
  · have : at_ L k = Con.zero := by simp [at_, hk]
    rw [this]; decide
theorem okL.set {L : List Con} (h : okL L) {c : Con} (hc : okC c) (k : Nat) : okL (L.set k c) := by
  refine ⟨by simpa using h.1, fun x hx => ?_⟩
  rcases List.mem_or_eq_of_mem_set hx with h1 | h1
  · exact h.2 x h1
  · rw [h1]; exact hc
abbrev Acc := List (List Int) × Option (List Int)
def allA : Acc → List (List Int)
  | (F, none) => F
  | (F, some l) => F ++ [l]
def grpS (b j : Bool) (k : Nat) (a : Acc) : Acc := bif b then (match a.2 with
    | none => (a.1, some [(k : Int)])
    | some l => bif j then (a.1, some (l ++ [(k : Int)])) else (a.1 ++ [l], some [(k : Int)])) else a
def grpA (b j : Nat → Bool) : Nat → Acc
  | 0 => ([], none)
  | k + 1 => grpS (b k) (j k) k (grpA b j k)
def inR (n : Nat) (l : List Int) : Prop := ∀ x ∈ l, 0 ≤ x ∧ x < (n : Int)
theorem inR.at {n : Nat} {l : List Int} (h : inR n l) {t : Nat} (ht : t < l.length) : 0 ≤ l.getD t 0 ∧ l.getD t 0 < (n : Int) := by
  have : l.getD t 0 = l[t] := by simp [ht]
  rw [this]; exact h _ (List.getElem_mem ht)
theorem inR.mono {n m : Nat} {l : List Int} (h : inR n l) (hm : n ≤ m) : inR m l := fun x hx => ⟨(h x hx).1, by have := (h x hx).2; omega⟩
structure GrpOk (b : Nat → Bool) (k : Nat) (a : Acc) : Prop where
  none : a.2 = none → a.1 = [] ∧ ∀ i, i < k → b i = false
  rows : ∀ l ∈ allA a, l ≠ [] ∧ inR k l ∧ l.length ≤ k
  len : (allA a).length ≤ k
theorem grp_ok (b j : Nat → Bool) : ∀ k, GrpOk b k (grpA b j k)
  | 0 => ⟨fun _ => ⟨rfl, fun i hi => by omega⟩, fun l hl => by simp [grpA, allA] at hl, by simp [grpA, allA]⟩
  | k + 1 => by
    have ih := grp_ok b j k
    have e : grpA b j (k + 1) = grpS (b k) (j k) k (grpA b j k) := rfl
    rw [e]
    generalize grpA b j k = a at ih
    obtain ⟨F, o⟩ := a
    obtain ⟨h1, h2, h3⟩ := ih
    have new : ([(k : Int)] : List Int) ≠ [] ∧ inR (k + 1) [(k : Int)] ∧ ([(k : Int)] : List Int).length ≤ k + 1 := ⟨by simp, fun x hx => by rw [List.mem_singleton.1 hx]; omega, by simp⟩
    cases hb : b k with
    | false =>
      simp only [grpS, cond_false]
      refine ⟨fun h => ⟨(h1 h).1, fun i hi => ?_⟩, fun l hl => ⟨(h2 l hl).1, (h2 l hl).2.1.mono (by omega), by have := (h2 l hl).2.2; omega⟩, by omega⟩
      rcases Nat.lt_or_ge i k with h' | h'
      · exact (h1 h).2 i h'
      · have : i = k := by omega
        subst this; exact hb
    | true =>
      cases o with
      | none =>
        simp only [grpS, cond_true]
        have hF : F = [] := (h1 rfl).1
        refine ⟨fun h => (by cases h), fun l hl => ?_, ?_⟩
        · rw [hF] at hl
          simp only [allA, List.nil_append, List.mem_singleton] at hl
          subst hl; exact new
        · rw [hF]; simp [allA]
      | some l0 =>
        have h0 := h2 l0 (by simp [allA])
        cases hj : j k with
        | true =>
          simp only [grpS, cond_true]
          refine ⟨fun h => (by cases h), fun l hl => ?_, by simp only [allA, List.length_append, List.length_cons, List.length_nil] at h3 ⊢; omega⟩
          simp only [allA, List.mem_append, List.mem_singleton] at hl
          rcases hl with hl | hl
          · have := h2 l (by simp [allA, hl])
            exact ⟨this.1, this.2.1.mono (by omega), by have := this.2.2; omega⟩
          · subst hl
            refine ⟨by simp, fun x hx => ?_, by have := h0.2.2; simp; omega⟩
            rcases List.mem_append.1 hx with hx | hx
            · have := h0.2.1 x hx; omega
            · rw [List.mem_singleton.1 hx]; omega
        | false =>
          simp only [grpS, cond_true, cond_false]
          refine ⟨fun h => (by cases h), fun l hl => ?_, by simp only [allA, List.length_append, List.length_cons, List.length_nil] at h3 ⊢; omega⟩
          simp only [allA, List.mem_append, List.mem_singleton] at hl
          rcases hl with (hl | hl) | hl
          · have := h2 l (by simp [allA, hl])
            exact ⟨this.1, this.2.1.mono (by omega), by have := this.2.2; omega⟩
          · subst hl; exact ⟨h0.1, h0.2.1.mono (by omega), by have := h0.2.2; omega⟩
          · subst hl; exact new
def oddB (L : List Con) (k : Nat) : Bool := (at_ L k).odd
def joinB (L : List Con) (k : Nat) : Bool := decide (0 < k) && ((at_ L (k - 1)).odd && decide ((at_ L (k - 1)).exp = (at_ L k).exp - 1))
def partsA (L : List Con) (k : Nat) : Acc := grpA (oddB L) (joinB L) k
def partsM (L : List Con) : List (List Int) := allA (partsA L L.length)
theorem parts_rows {L : List Con} : ∀ l ∈ partsM L, l ≠ [] ∧ inR L.length l ∧ l.length ≤ L.length := (grp_ok (oddB L) (joinB L) L.length).rows
theorem parts_len {L : List Con} : (partsM L).length ≤ L.length := (grp_ok (oddB L) (joinB L) L.length).len
abbrev rowAt (P : List (List Int)) (t : Nat) : List Int := P.getD t []
theorem rowAt_mem {P : List (List Int)} {t : Nat} (ht : t < P.length) : rowAt P t ∈ P := by
  have : rowAt P t = P[t] := by simp [rowAt, ht]
  rw [this]; exact List.getElem_mem ht
theorem drop_row {P : List (List Int)} {t : Nat} (ht : t < P.length) : P.drop t = rowAt P t :: P.drop (t + 1) := by
  rw [List.drop_eq_getElem_cons ht]; simp [rowAt, ht]
theorem drop_int {l : List Int} {t : Nat} (ht : t < l.length) : l.drop t = l.getD t 0 :: l.drop (t + 1) := by
  rw [List.drop_eq_getElem_cons ht]; simp [ht]
theorem take_int {l : List Int} {t : Nat} (ht : t < l.length) : l.take (t + 1) = l.take t ++ [l.getD t 0] := by
  rw [List.take_succ_eq_append_getElem ht]; simp [ht]
theorem take_row {P : List (List Int)} {t : Nat} (ht : t < P.length) : P.take (t + 1) = P.take t ++ [rowAt P t] := by
  rw [List.take_succ_eq_append_getElem ht]; simp [rowAt, ht]
def hasI (i : Int) : List Int → Bool
  | [] => false
  | x :: l => (x == i) || hasI i l
def findR (i : Int) : List (List Int) → List Int
  | [] => []
  | l :: P => bif hasI i l then l else findR i P
theorem findR_mem {i : Int} : ∀ {P : List (List Int)}, findR i P = [] ∨ findR i P ∈ P
  | [] => .inl rfl
  | l :: P => by
    simp only [findR]
    cases hasI i l with
    | true => exact .inr (by simp)
    | false =>
      rcases findR_mem (i := i) (P := P) with h | h
      · exact .inl h
      · exact .inr (by simp [h])
def anyR (i : Int) : List (List Int) → Bool
  | [] => false
  | l :: P => hasI i l || anyR i P
theorem findR_none {i : Int} : ∀ {P : List (List Int)}, anyR i P = false → findR i P = []
  | [], _ => rfl
  | l :: P, h => by
    simp only [anyR, Bool.or_eq_false_iff] at h
    simp only [findR, h.1, cond_false]
    exact findR_none h.2
def partM (L : List Con) (i : Int) : List Int := findR i (partsM L)
theorem partM_ok {L : List Con} {i : Int} : inR L.length (partM L i) ∧ (partM L i).length ≤ L.length := by
  unfold partM
  rcases findR_mem (i := i) (P := partsM L) with h | h
  · rw [h]; exact ⟨fun x hx => by simp at hx, by simp⟩
  · exact (parts_rows _ h).2
def sumO (L : List Con) : List Int → Int
  | [] => 0
  | i :: l => (at_ L i.toNat).oddity + sumO L l
theorem sumO_append (L : List Con) (a b : List Int) : sumO L (a ++ b) = sumO L a + sumO L b := by
  induction a with
  | nil => simp [sumO]
  | cons c a ih => simp only [List.cons_append, sumO, ih]; omega
theorem sumO_b {L : List Con} (hL : okL L) : ∀ {l : List Int}, inR L.length l → 0 ≤ sumO L l ∧ sumO L l ≤ 7 * l.length
  | [], _ => by simp [sumO]
  | i :: l, h => by
    have h1 := h i (by simp)
    have h2 := (hL.at (k := i.toNat) (by omega)).2.2.2
    have ih := sumO_b hL (l := l) (fun x hx => h x (by simp [hx]))
    simp only [sumO, List.length_cons]
    omega
def totM (L : List Con) (l : List Int) : Int := sumO L l % 8
def badM (L : List Con) (l : List Int) : Bool := decide (l.length = 2) && ((at_ L (l.getD 0 0).toNat).dim == 1 && ((at_ L (l.getD 1 0).toNat).dim == 1 && (totM L l % 4 == 0)))
def linkM (L : List Con) (k : Nat) : Bool :=
  bif (at_ L k).exp - (at_ L (k - 1)).exp == 1 then ((at_ L (k - 1)).odd != (at_ L k).odd) || ((at_ L (k - 1)).odd && !badM L (partM L k))
  else bif (at_ L k).exp - (at_ L (k - 1)).exp == 2 then (at_ L (k - 1)).odd && (at_ L k).odd else false
def setO (L : List Con) (i t : Int) : List Con := L.set i.toNat { at_ L i.toNat with oddity := t }
def zeroP (L : List Con) : List Int → List Con
  | [] => L
  | i :: l => zeroP (setO L i 0) l
def fuseP (L0 : List Con) (L : List Con) (l : List Int) : List Con := setO (zeroP L l) (l.getD 0 0) (totM L0 l)
def fuseG (L0 : List Con) : List Con → List (List Int) → List Con
  | L, [] => L
  | L, l :: P => fuseG L0 (fuseP L0 L l) P
def fuseM (L : List Con) : List Con := fuseG L L (partsM L)
theorem setO_len {L : List Con} {i t : Int} : (setO L i t).length = L.length := by simp [setO]
theorem zeroP_len : ∀ {l : List Int} {L : List Con}, (zeroP L l).length = L.length
  | [], _ => rfl
  | i :: l, L => by simp only [zeroP]; rw [zeroP_len, setO_len]
theorem fuseP_len {L0 L : List Con} {l : List Int} : (fuseP L0 L l).length = L.length := by unfold fuseP; rw [setO_len, zeroP_len]
theorem fuseG_len {L0 : List Con} : ∀ {P : List (List Int)} {L : List Con}, (fuseG L0 L P).length = L.length
  | [], _ => rfl
  | l :: P, L => by simp only [fuseG]; rw [fuseG_len, fuseP_len]
theorem fuseM_len {L : List Con} : (fuseM L).length = L.length := fuseG_len
theorem setO_ok {L : List Con} (h : okL L) {i t : Int} (hi : 0 ≤ i ∧ i < (L.length : Int)) (ht : 0 ≤ t ∧ t ≤ 7) : okL (setO L i t) := by
  have := h.at (k := i.toNat) (by omega)
  exact h.set (show okC { at_ L i.toNat with oddity := t } from ⟨this.1, this.2.1, this.2.2.1, ht⟩) _
theorem zeroP_ok : ∀ {l : List Int} {L : List Con}, okL L → inR L.length l → okL (zeroP L l)
  | [], _, h, _ => h
  | i :: l, L, h, hl => by
    simp only [zeroP]
    refine zeroP_ok (setO_ok h (hl i (by simp)) (by decide)) ?_
    rw [setO_len]
    exact fun x hx => hl x (by simp [hx])
theorem totM_b (L : List Con) (l : List Int) : 0 ≤ totM L l ∧ totM L l ≤ 7 := by unfold totM; omega
theorem fuseP_ok {L0 L : List Con} (h : okL L) {l : List Int} (hl : inR L.length l) (hne : l ≠ []) : okL (fuseP L0 L l) := by
  unfold fuseP
  refine setO_ok (zeroP_ok h hl) ?_ (totM_b _ _)
  rw [zeroP_len]
  exact hl.at (by cases l with | nil => exact absurd rfl hne | cons a l => simp)
theorem fuseG_ok {L0 : List Con} : ∀ {P : List (List Int)} {L : List Con}, okL L → (∀ l ∈ P, l ≠ [] ∧ inR L.length l) → okL (fuseG L0 L P)
  | [], _, h, _ => h
  | l :: P, L, h, hP => by
    simp only [fuseG]
    refine fuseG_ok (fuseP_ok h (hP l (by simp)).2 (hP l (by simp)).1) ?_
    rw [fuseP_len]
    exact fun x hx => hP x (by simp [hx])
theorem fuseM_ok {L : List Con} (h : okL L) : okL (fuseM L) := fuseG_ok h (fun l hl => ⟨(parts_rows l hl).1, (parts_rows l hl).2.1⟩)
def flipS (L : List Con) (i : Nat) : List Con := L.set i { at_ L i with sign := -(at_ L i).sign }
def add4 (L : List Con) (i : Int) : List Con := setO L i (((at_ L i.toNat).oddity + 4) % 8)
def stepM (L : List Con) (i : Nat) : List Con :=
  let p := partM L ((i : Int) - 1)
  let q := partM L i
  let L1 := flipS (flipS L i) (i - 1)
  let L2 := bif decide (0 < p.length) then add4 L1 (p.getD 0 0) else L1
  bif decide (0 < q.length) && ((p.length == 0) || !(p.getD 0 0 == q.getD 0 0)) then add4 L2 (q.getD 0 0) else L2
theorem flipS_len {L : List Con} {i : Nat} : (flipS L i).length = L.length := by simp [flipS]
theorem add4_len {L : List Con} {i : Int} : (add4 L i).length = L.length := by simp [add4, setO_len]
theorem stepM_len {L : List Con} {i : Nat} : (stepM L i).length = L.length := by
  unfold stepM
  simp only
  cases decide (0 < (partM L ((i : Int) - 1)).length) <;> cases (decide (0 < (partM L (i : Int)).length) && (((partM L ((i : Int) - 1)).length == 0) || !((partM L ((i : Int) - 1)).getD 0 0 == (partM L (i : Int)).getD 0 0))) <;> simp only [cond_true, cond_false, add4_len, flipS_len]
theorem flipS_ok {L : List Con} (h : okL L) {i : Nat} (hi : i < L.length) : okL (flipS L i) := by
  have := h.at hi
  refine h.set (show okC { at_ L i with sign := -(at_ L i).sign } from ⟨this.1, this.2.1, ?_, this.2.2.2⟩) _
  have h3 := this.2.2.1
  show -(at_ L i).sign = 1 ∨ -(at_ L i).sign = -1
  omega
theorem add4_ok {L : List Con} (h : okL L) {i : Int} (hi : 0 ≤ i ∧ i < (L.length : Int)) : okL (add4 L i) := setO_ok h hi (by omega)
theorem stepM_ok {L : List Con} (h : okL L) {i : Nat} (hi : i < L.length) : okL (stepM L i) := by
  have h1 : okL (flipS (flipS L i) (i - 1)) := flipS_ok (flipS_ok h hi) (by rw [flipS_len]; omega)
  have hl : (flipS (flipS L i) (i - 1)).length = L.length := by simp only [flipS_len]
  have hp := (partM_ok (L := L) (i := (i : Int) - 1)).1
  have hq := (partM_ok (L := L) (i := (i : Int))).1
  unfold stepM
  simp only
  have h2 : okL (bif decide (0 < (partM L ((i : Int) - 1)).length) then add4 (flipS (flipS L i) (i - 1)) ((partM L ((i : Int) - 1)).getD 0 0) else flipS (flipS L i) (i - 1)) ∧ (bif decide (0 < (partM L ((i : Int) - 1)).length) then add4 (flipS (flipS L i) (i - 1)) ((partM L ((i : Int) - 1)).getD 0 0) else flipS (flipS L i) (i - 1)).length = L.length := by
    cases hd : decide (0 < (partM L ((i : Int) - 1)).length) with
    | false => exact ⟨h1, hl⟩
    | true => exact ⟨add4_ok h1 (by rw [hl]; exact hp.at (of_decide_eq_true hd)), by simp only [cond_true, add4_len, hl]⟩
  generalize (bif decide (0 < (partM L ((i : Int) - 1)).length) then add4 (flipS (flipS L i) (i - 1)) ((partM L ((i : Int) - 1)).getD 0 0) else flipS (flipS L i) (i - 1)) = M at h2
  cases hd : (decide (0 < (partM L (i : Int)).length) && (((partM L ((i : Int) - 1)).length == 0) || !((partM L ((i : Int) - 1)).getD 0 0 == (partM L (i : Int)).getD 0 0))) with
  | false => exact h2.1
  | true =>
    simp only [Bool.and_eq_true] at hd
    exact add4_ok h2.1 (by rw [h2.2]; exact hq.at (of_decide_eq_true hd.1))
def canS (L : List Con) (k : Nat) : List Con := bif (at_ L k).sign == -1 && linkM L k then stepM L k else L
def canG (L : List Con) : Nat → List Con
  | 0 => L
  | k + 1 => canG (canS L (k + 1)) k
def canM (L : List Con) : List Con := canG (fuseM L) ((fuseM L).length - 1)
theorem canS_len {L : List Con} {k : Nat} : (canS L k).length = L.length := by
  unfold canS
  cases ((at_ L k).sign == -1 && linkM L k) <;> simp only [cond_true, cond_false, stepM_len]
theorem canS_ok {L : List Con} (h : okL L) {k : Nat} (hk : k < L.length) : okL (canS L k) := by
  unfold canS
  cases ((at_ L k).sign == -1 && linkM L k)
  · exact h
  · exact stepM_ok h hk
end Go.Proofs.YtgdhgnhgmbkpdaaGreatDoor.S

namespace Go.Proofs.YtgdhgnhgmbkpdaaGreatDoor.S
open Go.QfSy Go.RowKit
noncomputable def partsFin (L : List Con) : List (List Int) := (partsA L L.length).1
noncomputable def partsLst (L : List Con) : List Int := (partsA L L.length).2.getD []
noncomputable def partsAnn (L : List Con) : Ann := ⟨⟨[(0, (roC L).av), (3, .nils), (6, (roC L).av), (7, .vint .i64 L.length), (8, .int .i64 0)], [], 1000⟩, some (partsA L L.length).2.isNone, fun d => match d with
  | true => (.exit 0, ⟨[(3, .nils)], [], 1003⟩)
  | false => (.exit 0, ⟨[(3, .lo 1001 ((partsFin L).length + 1))], [(1001, ⟨.rows .i64 (partsFin L) 1002 (partsLst L).length, 107, 1, true, true⟩), (1002, ⟨.ints .i64 (partsLst L), 3, 1, true, true⟩)], 1003⟩)⟩
noncomputable def partsS (L : List Con) : Nat × List (List Int) × Option (List Int) → St
  | (k, _, none) => ⟨[(0, (roC L).av), (3, .nils), (6, (roC L).av), (7, .vint .i64 L.length), (8, .vint .i64 (k : Int))], [], 1003⟩
  | (k, F, some l) => ⟨[(0, (roC L).av), (3, .lo 1001 (F.length + 1)), (6, (roC L).av), (7, .vint .i64 L.length), (8, .vint .i64 (k : Int))], [(1001, ⟨.rows .i64 F 1002 l.length, 107, 1, true, true⟩), (1002, ⟨.ints .i64 l, 3, 1, true, true⟩)], 1003⟩
def partsI (L : List Con) (i : Nat × List (List Int) × Option (List Int)) : Prop := i.1 ≤ L.length ∧ partsA L i.1 = i.2
theorem partsI_ok {L : List Con} {i : Nat × List (List Int) × Option (List Int)} (h : partsI L i) : GrpOk (oddB L) i.1 i.2 := by rw [← h.2]; exact grp_ok _ _ _
theorem partsI_no {L : List Con} {k : Nat} {a : Acc} (h : partsI L (k, a)) (hk : k < L.length) (ho : (at_ L k).odd = false) : partsI L (k + 1, a) := by
  refine ⟨hk, ?_⟩
  show grpS (oddB L k) (joinB L k) k (partsA L k) = a
  rw [h.2, show oddB L k = false from ho]; rfl
theorem partsI_new {L : List Con} {k : Nat} {F : List (List Int)} {l : List Int} (h : partsI L (k, F, some l)) (hk : k < L.length) (ho : (at_ L k).odd = true) (hj : joinB L k = false) : partsI L (k + 1, F ++ [l], some [(k : Int)]) := by
  refine ⟨hk, ?_⟩
  show grpS (oddB L k) (joinB L k) k (partsA L k) = _
  rw [h.2, show oddB L k = true from ho, hj]; rfl
theorem partsI_app {L : List Con} {k : Nat} {F : List (List Int)} {l : List Int} (h : partsI L (k, F, some l)) (hk : k < L.length) (ho : (at_ L k).odd = true) (hj : joinB L k = true) : partsI L (k + 1, F, some (l ++ [(k : Int)])) := by
  refine ⟨hk, ?_⟩
  show grpS (oddB L k) (joinB L k) k (partsA L k) = _
  rw [h.2, show oddB L k = true from ho, hj]; rfl
theorem partsI_one {L : List Con} {k : Nat} {F : List (List Int)} (h : partsI L (k, F, none)) (hk : k < L.length) (ho : (at_ L k).odd = true) : partsI L (k + 1, [], some [(k : Int)]) := by
  have hF : F = [] := ((partsI_ok h).none rfl).1
  subst hF
  refine ⟨hk, ?_⟩
  show grpS (oddB L k) (joinB L k) k (partsA L k) = _
  rw [h.2, show oddB L k = true from ho]; rfl
theorem partsI_end {L : List Con} {k : Nat} {a : Acc} (h : partsI L (k, a)) (hk : L.length ≤ k) : partsA L L.length = a := by
  have h1 : k ≤ L.length := h.1
  have : k = L.length := by omega
  subst this; exact h.2
theorem partsI_fin {L : List Con} {k : Nat} {F : List (List Int)} {l : List Int} (h : partsI L (k, F, some l)) (hk : L.length ≤ k) : partsFin L = F ∧ partsLst L = l := by
  have := partsI_end h hk
  unfold partsFin partsLst
  rw [this]
  exact ⟨rfl, rfl⟩
theorem joinB_t {L : List Con} {k : Nat} (h1 : 0 < k) (h2 : (at_ L (k - 1)).odd = true) (h3 : (at_ L (k - 1)).exp = (at_ L k).exp - 1) : joinB L k = true := by
  unfold joinB; rw [h2, h3]; simp [h1]
theorem joinB_1 {L : List Con} {k : Nat} (h1 : ¬ 0 < k) : joinB L k = false := by unfold joinB; simp [h1]
theorem joinB_2 {L : List Con} {k : Nat} (h1 : (at_ L (k - 1)).odd = false) : joinB L k = false := by unfold joinB; rw [h1]; simp
theorem joinB_3 {L : List Con} {k : Nat} (h1 : ¬ (at_ L (k - 1)).exp = (at_ L k).exp - 1) : joinB L k = false := by unfold joinB; simp only [h1, decide_false, Bool.and_false]
theorem parts_nil {L : List Con} (h : (partsA L L.length).2.isNone = true) : partsM L = [] := by
  have h1 := grp_ok (oddB L) (joinB L) L.length
  have h2 : (partsA L L.length).2 = none := by simpa using h
  have h3 := h1.none h2
  unfold partsM
  generalize hp : partsA L L.length = a at h2
  obtain ⟨F, o⟩ := a
  have h2 : o = none := h2
  subst h2
  have h4 : (partsA L L.length).1 = [] := h3.1
  rw [hp] at h4
  exact h4
theorem parts_cons {L : List Con} (h : (partsA L L.length).2.isNone = false) : partsM L = partsFin L ++ [partsLst L] := by
  unfold partsM partsFin partsLst
  generalize partsA L L.length = a at h
  obtain ⟨F, o⟩ := a
  cases o with
  | none => cases h
  | some l => rfl
set_option maxRecDepth 100000 in
theorem parts_loop (L : List Con) (hL : okE L) : AnnOk Tryz.prog EV.ng (Nat.max 1 Tryz.f77.ntmps) (bodyAt Tryz.f77 [0, 1, 0, 1, 1]) (partsAnn L) := by
  refine ann_of evOk (callF_ok evOk (noOrc_ok _ _) 8) none_ann (by kernel_rfl) (by kernel_rfl) (partsS L) (fun i => L.length - i.1) (fun d i => partsI L i ∧ d = (partsA L L.length).2.isNone) ?_ ?_
  · intro d hd
    exact ⟨(0, [], none), [L.length = L.length ∧ (fun i => (L.getD i Con.zero).rvs) = fun i => (L.getD i Con.zero).rvs, L.length = L.length ∧ (fun i => (L.getD i Con.zero).rvs) = fun i => (L.getD i Con.zero).rvs, (↑L.length : Int) = (↑L.length : Int), (0 : Int) = (↑(0 : Nat) : Int)], by kernel_rfl, (by refine ⟨?_, ?_, ?_, (?_ : (0 : Int) = (↑(0 : Nat) : Int))⟩ <;> (first | rfl | assumption | omega | simp_all)), (by exact ⟨⟨Nat.zero_le _, rfl⟩, hd.symm⟩)⟩
  · rintro d hd ⟨k, F, o⟩ hI
    cases d
    · -- d = false
      obtain ⟨hI, hD⟩ := hI
      have hG := partsI_ok hI
      have hk : k ≤ L.length := hI.1
      have hl := hL.1
      have ek : IntKind.i64.wrap ((k : Int) + 1) = ((k + 1 : Nat) : Int) := by rw [w64 (by omega) (by omega)]; omega
      have em : IntKind.i64.wrap ((k : Int) - 1) = (k : Int) - 1 := w64 (by omega) (by omega)
      have et : ((k : Int) - 1).toNat = k - 1 := by omega
      have ew : IntKind.i64.wrap ((at_ L k).exp - 1) = (at_ L k).exp - 1 := by have := hL.at' k; exact w64 (by omega) (by omega)
      have hFk : F.length ≤ k := by have := hG.len; cases o <;> simp [allA] at this <;> omega
      have eF : IntKind.i64.wrap (((F.length + 1 : Nat) : Int) - 1) = (F.length : Int) := by rw [w64 (by omega) (by omega)]; omega
      rcases o with _ | l
      · -- 1
        refine Or.elim (Bool.eq_false_or_eq_true (decide ((↑k : Int) < (↑L.length : Int)))) (fun d1 => Or.elim (Bool.eq_false_or_eq_true ((L.getD k Con.zero).odd)) (fun d2 => Or.elim (Bool.eq_false_or_eq_true (decide ((↑k : Int) > (0 : Int)))) (fun d3 => Or.elim (Bool.eq_false_or_eq_true ((L.getD (IntKind.i64.wrap ((↑k : Int) - (1 : Int))).toNat Con.zero).odd)) (fun d4 => GnG.no ?_)
           (fun d4 => ⟨[true, false, true, false], .inl ⟨(k + 1, [], some [(k : Int)]), [L.length = L.length ∧ (fun i => (L.getD i Con.zero).rvs) = fun i => (L.getD i Con.zero).rvs, (1 : Nat) = (0 : Nat) + (1 : Nat), L.length = L.length ∧ (fun i => (L.getD i Con.zero).rvs) = fun i => (L.getD i Con.zero).rvs, (↑L.length : Int) = (↑L.length : Int), IntKind.i64.wrap ((↑k : Int) + (1 : Int)) = (↑(k + (1 : Nat)) : Int), ([] : List (List Int)) = [] ∧ (1 : Nat) = [(↑k : Int)].length, [(↑k : Int)] = [(↑k : Int)], Dec (L.getD (IntKind.i64.wrap ((↑k : Int) - (1 : Int))).toNat Con.zero).odd false, (0 : Int) ≤ IntKind.i64.wrap ((↑k : Int) - (1 : Int)) ∧ IntKind.i64.wrap ((↑k : Int) - (1 : Int)) < (↑L.length : Int), Dec (decide ((↑k : Int) > (0 : Int))) true, Dec (!(L.getD k Con.zero).odd) false, (0 : Int) ≤ (↑k : Int) ∧ (↑k : Int) < (↑L.length : Int), Dec (decide ((↑k : Int) < (↑L.length : Int))) true], by kernel_rfl, ⟨?_, ?_, ?_, ?_, ?_, ?_, ?_, d4, ?_, d3, (dN d2), ?_, d1⟩, MuG.out ?_, InG.out ?_⟩⟩))
           (fun d3 => ⟨[true, false, false], .inl ⟨(k + 1, [], some [(k : Int)]), [L.length = L.length ∧ (fun i => (L.getD i Con.zero).rvs) = fun i => (L.getD i Con.zero).rvs, (1 : Nat) = (0 : Nat) + (1 : Nat), L.length = L.length ∧ (fun i => (L.getD i Con.zero).rvs) = fun i => (L.getD i Con.zero).rvs, (↑L.length : Int) = (↑L.length : Int), IntKind.i64.wrap ((↑k : Int) + (1 : Int)) = (↑(k + (1 : Nat)) : Int), ([] : List (List Int)) = [] ∧ (1 : Nat) = [(↑k : Int)].length, [(↑k : Int)] = [(↑k : Int)], Dec (decide ((↑k : Int) > (0 : Int))) false, Dec (!(L.getD k Con.zero).odd) false, (0 : Int) ≤ (↑k : Int) ∧ (↑k : Int) < (↑L.length : Int), Dec (decide ((↑k : Int) < (↑L.length : Int))) true], by kernel_rfl, ⟨?_, ?_, ?_, ?_, ?_, ?_, ?_, d3, (dN d2), ?_, d1⟩, MuG.out ?_, InG.out ?_⟩⟩))
           (fun d2 => ⟨[true, true], .inl ⟨(k + 1, F, none), [L.length = L.length ∧ (fun i => (L.getD i Con.zero).rvs) = fun i => (L.getD i Con.zero).rvs, L.length = L.length ∧ (fun i => (L.getD i Con.zero).rvs) = fun i => (L.getD i Con.zero).rvs, (↑L.length : Int) = (↑L.length : Int), IntKind.i64.wrap ((↑k : Int) + (1 : Int)) = (↑(k + (1 : Nat)) : Int), Dec (!(L.getD k Con.zero).odd) true, (0 : Int) ≤ (↑k : Int) ∧ (↑k : Int) < (↑L.length : Int), Dec (decide ((↑k : Int) < (↑L.length : Int))) true], by kernel_rfl, ⟨?_, ?_, ?_, ?_, (dN d2), ?_, d1⟩, MuG.out ?_, InG.out ?_⟩⟩))
           (fun d1 => CtG.no ?_)
        all_goals first | (refine MuG.mk ?_; (simp only [decide_eq_true_eq, decide_eq_false_iff_not] at *; show L.length - (k + 1) < L.length - k; omega)) | (refine InG.mk ?_; (simp only [em, et, ew, decide_eq_true_eq, decide_eq_false_iff_not, gt_iff_lt, beq_iff_eq, beq_eq_false_iff_ne, ne_eq] at *; first | exact ⟨partsI_no hI (by omega) d2, hD⟩ | exact ⟨partsI_one hI (by omega) d2, hD⟩ | exact ⟨partsI_app hI (by omega) d2 (joinB_t (by omega) d4 d5), hD⟩ | exact ⟨partsI_new hI (by omega) d2 (joinB_1 (by omega)), hD⟩ | exact ⟨partsI_new hI (by omega) d2 (joinB_2 d4), hD⟩ | exact ⟨partsI_new hI (by omega) d2 (joinB_3 d5), hD⟩)) | (refine CtG.mk ?_; (simp only [decide_eq_false_iff_not] at *; have h0 := partsI_end hI (by omega); rw [h0] at hD; cases hD)) | (refine GnG.mk ?_; (have h0 := ((partsI_ok hI).none rfl).2 (k - 1) (by simp only [decide_eq_true_eq] at d3; show k - 1 < k; omega); simp only [em, et] at d4; exact Bool.noConfusion ((show false = _ from h0.symm).trans d4))) | (first | rfl | exact ⟨rfl, rfl⟩ | ((try simp only [em, ek, et, eF, ew, Int.toNat_natCast, decide_eq_true_eq, decide_eq_false_iff_not, gt_iff_lt, View.num] at *) <;> first | omega | exact ⟨rfl, rfl⟩ | (have := (hG.rows l (by simp [allA])).2.2; exact ⟨by trivial, by omega⟩) | (rw [(partsI_fin hI (by omega)).1]; done) | (rw [(partsI_fin hI (by omega)).2]; done) | (rw [(partsI_fin hI (by omega)).1, (partsI_fin hI (by omega)).2]; exact ⟨rfl, rfl⟩) | (simp; done)))
      · -- 2
        refine Or.elim (Bool.eq_false_or_eq_true (decide ((↑k : Int) < (↑L.length : Int)))) (fun d1 => Or.elim (Bool.eq_false_or_eq_true ((L.getD k Con.zero).odd)) (fun d2 => Or.elim (Bool.eq_false_or_eq_true (decide ((↑k : Int) > (0 : Int)))) (fun d3 => Or.elim (Bool.eq_false_or_eq_true ((L.getD (IntKind.i64.wrap ((↑k : Int) - (1 : Int))).toNat Con.zero).odd)) (fun d4 => Or.elim (Bool.eq_false_or_eq_true ((L.getD (IntKind.i64.wrap ((↑k : Int) - (1 : Int))).toNat Con.zero).exp == IntKind.i64.wrap ((L.getD k Con.zero).exp - (1 : Int)))) (fun d5 => ⟨[true, false, true, true, true], .inl ⟨(k + 1, F, some (l ++ [(k : Int)])), [L.length = L.length ∧ (fun i => (L.getD i Con.zero).rvs) = fun i => (L.getD i Con.zero).rvs, F.length + (1 : Nat) = F.length + (1 : Nat), L.length = L.length ∧ (fun i => (L.getD i Con.zero).rvs) = fun i => (L.getD i Con.zero).rvs, (↑L.length : Int) = (↑L.length : Int), IntKind.i64.wrap ((↑k : Int) + (1 : Int)) = (↑(k + (1 : Nat)) : Int), F = F ∧ l.length + (1 : Nat) = (l ++ [(↑k : Int)]).length, l ++ [(↑k : Int)] = l ++ [(↑k : Int)], (IntKind.i64.wrap ((↑(F.length + (1 : Nat)) : Int) - (1 : Int))).toNat = F.length, (0 : Int) ≤ IntKind.i64.wrap ((↑(F.length + (1 : Nat)) : Int) - (1 : Int)) ∧ IntKind.i64.wrap ((↑(F.length + (1 : Nat)) : Int) - (1 : Int)) < (↑(F.length + (1 : Nat)) : Int), (View.ints IntKind.i64 l).num = l.length ∧ l.length + (1 : Nat) ≤ (1000000 : Nat), (IntKind.i64.wrap ((↑(F.length + (1 : Nat)) : Int) - (1 : Int))).toNat = F.length, (0 : Int) ≤ IntKind.i64.wrap ((↑(F.length + (1 : Nat)) : Int) - (1 : Int)) ∧ IntKind.i64.wrap ((↑(F.length + (1 : Nat)) : Int) - (1 : Int)) < (↑(F.length + (1 : Nat)) : Int), Dec ((L.getD (IntKind.i64.wrap ((↑k : Int) - (1 : Int))).toNat Con.zero).exp == IntKind.i64.wrap ((L.getD k Con.zero).exp - (1 : Int))) true, (0 : Int) ≤ IntKind.i64.wrap ((↑k : Int) - (1 : Int)) ∧ IntKind.i64.wrap ((↑k : Int) - (1 : Int)) < (↑L.length : Int), Dec (L.getD (IntKind.i64.wrap ((↑k : Int) - (1 : Int))).toNat Con.zero).odd true, (0 : Int) ≤ IntKind.i64.wrap ((↑k : Int) - (1 : Int)) ∧ IntKind.i64.wrap ((↑k : Int) - (1 : Int)) < (↑L.length : Int), Dec (decide ((↑k : Int) > (0 : Int))) true, Dec (!(L.getD k Con.zero).odd) false, (0 : Int) ≤ (↑k : Int) ∧ (↑k : Int) < (↑L.length : Int), Dec (decide ((↑k : Int) < (↑L.length : Int))) true], by kernel_rfl, ⟨?_, ?_, ?_, ?_, ?_, ?_, ?_, ?_, ?_, ?_, ?_, ?_, d5, ?_, d4, ?_, d3, (dN d2), ?_, d1⟩, MuG.out ?_, InG.out ?_⟩⟩)
           (fun d5 => ⟨[true, false, true, true, false], .inl ⟨(k + 1, F ++ [l], some [(k : Int)]), [L.length = L.length ∧ (fun i => (L.getD i Con.zero).rvs) = fun i => (L.getD i Con.zero).rvs, F.length + (1 : Nat) + (1 : Nat) = (F ++ [l]).length + (1 : Nat), L.length = L.length ∧ (fun i => (L.getD i Con.zero).rvs) = fun i => (L.getD i Con.zero).rvs, (↑L.length : Int) = (↑L.length : Int), IntKind.i64.wrap ((↑k : Int) + (1 : Int)) = (↑(k + (1 : Nat)) : Int), F ++ [l] = F ++ [l] ∧ (1 : Nat) = [(↑k : Int)].length, [(↑k : Int)] = [(↑k : Int)], F.length + (1 : Nat) + (1 : Nat) ≤ (1000000 : Nat), F.length + (1 : Nat) = F.length + (1 : Nat) ∧ l.length = l.length, Dec ((L.getD (IntKind.i64.wrap ((↑k : Int) - (1 : Int))).toNat Con.zero).exp == IntKind.i64.wrap ((L.getD k Con.zero).exp - (1 : Int))) false, (0 : Int) ≤ IntKind.i64.wrap ((↑k : Int) - (1 : Int)) ∧ IntKind.i64.wrap ((↑k : Int) - (1 : Int)) < (↑L.length : Int), Dec (L.getD (IntKind.i64.wrap ((↑k : Int) - (1 : Int))).toNat Con.zero).odd true, (0 : Int) ≤ IntKind.i64.wrap ((↑k : Int) - (1 : Int)) ∧ IntKind.i64.wrap ((↑k : Int) - (1 : Int)) < (↑L.length : Int), Dec (decide ((↑k : Int) > (0 : Int))) true, Dec (!(L.getD k Con.zero).odd) false, (0 : Int) ≤ (↑k : Int) ∧ (↑k : Int) < (↑L.length : Int), Dec (decide ((↑k : Int) < (↑L.length : Int))) true], by kernel_rfl, ⟨?_, ?_, ?_, ?_, ?_, ?_, ?_, ?_, ?_, d5, ?_, d4, ?_, d3, (dN d2), ?_, d1⟩, MuG.out ?_, InG.out ?_⟩⟩))
           (fun d4 => ⟨[true, false, true, false], .inl ⟨(k + 1, F ++ [l], some [(k : Int)]), [L.length = L.length ∧ (fun i => (L.getD i Con.zero).rvs) = fun i => (L.getD i Con.zero).rvs, F.length + (1 : Nat) + (1 : Nat) = (F ++ [l]).length + (1 : Nat), L.length = L.length ∧ (fun i => (L.getD i Con.zero).rvs) = fun i => (L.getD i Con.zero).rvs, (↑L.length : Int) = (↑L.length : Int), IntKind.i64.wrap ((↑k : Int) + (1 : Int)) = (↑(k + (1 : Nat)) : Int), F ++ [l] = F ++ [l] ∧ (1 : Nat) = [(↑k : Int)].length, [(↑k : Int)] = [(↑k : Int)], F.length + (1 : Nat) + (1 : Nat) ≤ (1000000 : Nat), F.length + (1 : Nat) = F.length + (1 : Nat) ∧ l.length = l.length, Dec (L.getD (IntKind.i64.wrap ((↑k : Int) - (1 : Int))).toNat Con.zero).odd false, (0 : Int) ≤ IntKind.i64.wrap ((↑k : Int) - (1 : Int)) ∧ IntKind.i64.wrap ((↑k : Int) - (1 : Int)) < (↑L.length : Int), Dec (decide ((↑k : Int) > (0 : Int))) true, Dec (!(L.getD k Con.zero).odd) false, (0 : Int) ≤ (↑k : Int) ∧ (↑k : Int) < (↑L.length : Int), Dec (decide ((↑k : Int) < (↑L.length : Int))) true], by kernel_rfl, ⟨?_, ?_, ?_, ?_, ?_, ?_, ?_, ?_, ?_, d4, ?_, d3, (dN d2), ?_, d1⟩, MuG.out ?_, InG.out ?_⟩⟩))
           (fun d3 => ⟨[true, false, false], .inl ⟨(k + 1, F ++ [l], some [(k : Int)]), [L.length = L.length ∧ (fun i => (L.getD i Con.zero).rvs) = fun i => (L.getD i Con.zero).rvs, F.length + (1 : Nat) + (1 : Nat) = (F ++ [l]).length + (1 : Nat), L.length = L.length ∧ (fun i => (L.getD i Con.zero).rvs) = fun i => (L.getD i Con.zero).rvs, (↑L.length : Int) = (↑L.length : Int), IntKind.i64.wrap ((↑k : Int) + (1 : Int)) = (↑(k + (1 : Nat)) : Int), F ++ [l] = F ++ [l] ∧ (1 : Nat) = [(↑k : Int)].length, [(↑k : Int)] = [(↑k : Int)], F.length + (1 : Nat) + (1 : Nat) ≤ (1000000 : Nat), F.length + (1 : Nat) = F.length + (1 : Nat) ∧ l.length = l.length, Dec (decide ((↑k : Int) > (0 : Int))) false, Dec (!(L.getD k Con.zero).odd) false, (0 : Int) ≤ (↑k : Int) ∧ (↑k : Int) < (↑L.length : Int), Dec (decide ((↑k : Int) < (↑L.length : Int))) true], by kernel_rfl, ⟨?_, ?_, ?_, ?_, ?_, ?_, ?_, ?_, ?_, d3, (dN d2), ?_, d1⟩, MuG.out ?_, InG.out ?_⟩⟩))
           (fun d2 => ⟨[true, true], .inl ⟨(k + 1, F, some l), [L.length = L.length ∧ (fun i => (L.getD i Con.zero).rvs) = fun i => (L.getD i Con.zero).rvs, F.length + (1 : Nat) = F.length + (1 : Nat), L.length = L.length ∧ (fun i => (L.getD i Con.zero).rvs) = fun i => (L.getD i Con.zero).rvs, (↑L.length : Int) = (↑L.length : Int), IntKind.i64.wrap ((↑k : Int) + (1 : Int)) = (↑(k + (1 : Nat)) : Int), F = F ∧ l.length = l.length, l = l, Dec (!(L.getD k Con.zero).odd) true, (0 : Int) ≤ (↑k : Int) ∧ (↑k : Int) < (↑L.length : Int), Dec (decide ((↑k : Int) < (↑L.length : Int))) true], by kernel_rfl, ⟨?_, ?_, ?_, ?_, ?_, ?_, ?_, (dN d2), ?_, d1⟩, MuG.out ?_, InG.out ?_⟩⟩))
           (fun d1 => ⟨[false], .inr ⟨[F.length + (1 : Nat) = (partsFin L).length + (1 : Nat), F = partsFin L ∧ l.length = (partsLst L).length, l = partsLst L, Dec (decide ((↑k : Int) < (↑L.length : Int))) false], by kernel_rfl, ⟨?_, ?_, ?_, d1⟩, rfl⟩⟩)
        all_goals first | (refine MuG.mk ?_; (simp only [decide_eq_true_eq, decide_eq_false_iff_not] at *; show L.length - (k + 1) < L.length - k; omega)) | (refine InG.mk ?_; (simp only [em, et, ew, decide_eq_true_eq, decide_eq_false_iff_not, gt_iff_lt, beq_iff_eq, beq_eq_false_iff_ne, ne_eq] at *; first | exact ⟨partsI_no hI (by omega) d2, hD⟩ | exact ⟨partsI_one hI (by omega) d2, hD⟩ | exact ⟨partsI_app hI (by omega) d2 (joinB_t (by omega) d4 d5), hD⟩ | exact ⟨partsI_new hI (by omega) d2 (joinB_1 (by omega)), hD⟩ | exact ⟨partsI_new hI (by omega) d2 (joinB_2 d4), hD⟩ | exact ⟨partsI_new hI (by omega) d2 (joinB_3 d5), hD⟩)) | (refine CtG.mk ?_; (simp only [decide_eq_false_iff_not] at *; have h0 := partsI_end hI (by omega); rw [h0] at hD; cases hD)) | (refine GnG.mk ?_; (have h0 := ((partsI_ok hI).none rfl).2 (k - 1) (by simp only [decide_eq_true_eq] at d3; show k - 1 < k; omega); simp only [em, et] at d4; exact Bool.noConfusion ((show false = _ from h0.symm).trans d4))) | (first | rfl | exact ⟨rfl, rfl⟩ | ((try simp only [em, ek, et, eF, ew, Int.toNat_natCast, decide_eq_true_eq, decide_eq_false_iff_not, gt_iff_lt, View.num] at *) <;> first | omega | exact ⟨rfl, rfl⟩ | (have := (hG.rows l (by simp [allA])).2.2; exact ⟨by trivial, by omega⟩) | (rw [(partsI_fin hI (by omega)).1]; done) | (rw [(partsI_fin hI (by omega)).2]; done) | (rw [(partsI_fin hI (by omega)).1, (partsI_fin hI (by omega)).2]; exact ⟨rfl, rfl⟩) | (simp; done)))
    · -- d = true
      obtain ⟨hI, hD⟩ := hI
      have hG := partsI_ok hI
      have hk : k ≤ L.length := hI.1
      have hl := hL.1
      have ek : IntKind.i64.wrap ((k : Int) + 1) = ((k + 1 : Nat) : Int) := by rw [w64 (by omega) (by omega)]; omega
      have em : IntKind.i64.wrap ((k : Int) - 1) = (k : Int) - 1 := w64 (by omega) (by omega)
      have et : ((k : Int) - 1).toNat = k - 1 := by omega
      have ew : IntKind.i64.wrap ((at_ L k).exp - 1) = (at_ L k).exp - 1 := by have := hL.at' k; exact w64 (by omega) (by omega)
      have hFk : F.length ≤ k := by have := hG.len; cases o <;> simp [allA] at this <;> omega
      have eF : IntKind.i64.wrap (((F.length + 1 : Nat) : Int) - 1) = (F.length : Int) := by rw [w64 (by omega) (by omega)]; omega
      rcases o with _ | l
      · -- 1
        refine Or.elim (Bool.eq_false_or_eq_true (decide ((↑k : Int) < (↑L.length : Int)))) (fun d1 => Or.elim (Bool.eq_false_or_eq_true ((L.getD k Con.zero).odd)) (fun d2 => Or.elim (Bool.eq_false_or_eq_true (decide ((↑k : Int) > (0 : Int)))) (fun d3 => Or.elim (Bool.eq_false_or_eq_true ((L.getD (IntKind.i64.wrap ((↑k : Int) - (1 : Int))).toNat Con.zero).odd)) (fun d4 => GnG.no ?_)
           (fun d4 => ⟨[true, false, true, false], .inl ⟨(k + 1, [], some [(k : Int)]), [L.length = L.length ∧ (fun i => (L.getD i Con.zero).rvs) = fun i => (L.getD i Con.zero).rvs, (1 : Nat) = (0 : Nat) + (1 : Nat), L.length = L.length ∧ (fun i => (L.getD i Con.zero).rvs) = fun i => (L.getD i Con.zero).rvs, (↑L.length : Int) = (↑L.length : Int), IntKind.i64.wrap ((↑k : Int) + (1 : Int)) = (↑(k + (1 : Nat)) : Int), ([] : List (List Int)) = [] ∧ (1 : Nat) = [(↑k : Int)].length, [(↑k : Int)] = [(↑k : Int)], Dec (L.getD (IntKind.i64.wrap ((↑k : Int) - (1 : Int))).toNat Con.zero).odd false, (0 : Int) ≤ IntKind.i64.wrap ((↑k : Int) - (1 : Int)) ∧ IntKind.i64.wrap ((↑k : Int) - (1 : Int)) < (↑L.length : Int), Dec (decide ((↑k : Int) > (0 : Int))) true, Dec (!(L.getD k Con.zero).odd) false, (0 : Int) ≤ (↑k : Int) ∧ (↑k : Int) < (↑L.length : Int), Dec (decide ((↑k : Int) < (↑L.length : Int))) true], by kernel_rfl, ⟨?_, ?_, ?_, ?_, ?_, ?_, ?_, d4, ?_, d3, (dN d2), ?_, d1⟩, MuG.out ?_, InG.out ?_⟩⟩))
           (fun d3 => ⟨[true, false, false], .inl ⟨(k + 1, [], some [(k : Int)]), [L.length = L.length ∧ (fun i => (L.getD i Con.zero).rvs) = fun i => (L.getD i Con.zero).rvs, (1 : Nat) = (0 : Nat) + (1 : Nat), L.length = L.length ∧ (fun i => (L.getD i Con.zero).rvs) = fun i => (L.getD i Con.zero).rvs, (↑L.length : Int) = (↑L.length : Int), IntKind.i64.wrap ((↑k : Int) + (1 : Int)) = (↑(k + (1 : Nat)) : Int), ([] : List (List Int)) = [] ∧ (1 : Nat) = [(↑k : Int)].length, [(↑k : Int)] = [(↑k : Int)], Dec (decide ((↑k : Int) > (0 : Int))) false, Dec (!(L.getD k Con.zero).odd) false, (0 : Int) ≤ (↑k : Int) ∧ (↑k : Int) < (↑L.length : Int), Dec (decide ((↑k : Int) < (↑L.length : Int))) true], by kernel_rfl, ⟨?_, ?_, ?_, ?_, ?_, ?_, ?_, d3, (dN d2), ?_, d1⟩, MuG.out ?_, InG.out ?_⟩⟩))
           (fun d2 => ⟨[true, true], .inl ⟨(k + 1, F, none), [L.length = L.length ∧ (fun i => (L.getD i Con.zero).rvs) = fun i => (L.getD i Con.zero).rvs, L.length = L.length ∧ (fun i => (L.getD i Con.zero).rvs) = fun i => (L.getD i Con.zero).rvs, (↑L.length : Int) = (↑L.length : Int), IntKind.i64.wrap ((↑k : Int) + (1 : Int)) = (↑(k + (1 : Nat)) : Int), Dec (!(L.getD k Con.zero).odd) true, (0 : Int) ≤ (↑k : Int) ∧ (↑k : Int) < (↑L.length : Int), Dec (decide ((↑k : Int) < (↑L.length : Int))) true], by kernel_rfl, ⟨?_, ?_, ?_, ?_, (dN d2), ?_, d1⟩, MuG.out ?_, InG.out ?_⟩⟩))
           (fun d1 => ⟨[false], .inr ⟨[Dec (decide ((↑k : Int) < (↑L.length : Int))) false], by kernel_rfl, d1, rfl⟩⟩)
        all_goals first | (refine MuG.mk ?_; (simp only [decide_eq_true_eq, decide_eq_false_iff_not] at *; show L.length - (k + 1) < L.length - k; omega)) | (refine InG.mk ?_; (simp only [em, et, ew, decide_eq_true_eq, decide_eq_false_iff_not, gt_iff_lt, beq_iff_eq, beq_eq_false_iff_ne, ne_eq] at *; first | exact ⟨partsI_no hI (by omega) d2, hD⟩ | exact ⟨partsI_one hI (by omega) d2, hD⟩ | exact ⟨partsI_app hI (by omega) d2 (joinB_t (by omega) d4 d5), hD⟩ | exact ⟨partsI_new hI (by omega) d2 (joinB_1 (by omega)), hD⟩ | exact ⟨partsI_new hI (by omega) d2 (joinB_2 d4), hD⟩ | exact ⟨partsI_new hI (by omega) d2 (joinB_3 d5), hD⟩)) | (refine CtG.mk ?_; (simp only [decide_eq_false_iff_not] at *; have h0 := partsI_end hI (by omega); rw [h0] at hD; cases hD)) | (refine GnG.mk ?_; (have h0 := ((partsI_ok hI).none rfl).2 (k - 1) (by simp only [decide_eq_true_eq] at d3; show k - 1 < k; omega); simp only [em, et] at d4; exact Bool.noConfusion ((show false = _ from h0.symm).trans d4))) | (first | rfl | exact ⟨rfl, rfl⟩ | ((try simp only [em, ek, et, eF, ew, Int.toNat_natCast, decide_eq_true_eq, decide_eq_false_iff_not, gt_iff_lt, View.num] at *) <;> first | omega | exact ⟨rfl, rfl⟩ | (have := (hG.rows l (by simp [allA])).2.2; exact ⟨by trivial, by omega⟩) | (rw [(partsI_fin hI (by omega)).1]; done) | (rw [(partsI_fin hI (by omega)).2]; done) | (rw [(partsI_fin hI (by omega)).1, (partsI_fin hI (by omega)).2]; exact ⟨rfl, rfl⟩) | (simp; done)))
      · -- 2
        refine Or.elim (Bool.eq_false_or_eq_true (decide ((↑k : Int) < (↑L.length : Int)))) (fun d1 => Or.elim (Bool.eq_false_or_eq_true ((L.getD k Con.zero).odd)) (fun d2 => Or.elim (Bool.eq_false_or_eq_true (decide ((↑k : Int) > (0 : Int)))) (fun d3 => Or.elim (Bool.eq_false_or_eq_true ((L.getD (IntKind.i64.wrap ((↑k : Int) - (1 : Int))).toNat Con.zero).odd)) (fun d4 => Or.elim (Bool.eq_false_or_eq_true ((L.getD (IntKind.i64.wrap ((↑k : Int) - (1 : Int))).toNat Con.zero).exp == IntKind.i64.wrap ((L.getD k Con.zero).exp - (1 : Int)))) (fun d5 => ⟨[true, false, true, true, true], .inl ⟨(k + 1, F, some (l ++ [(k : Int)])), [L.length = L.length ∧ (fun i => (L.getD i Con.zero).rvs) = fun i => (L.getD i Con.zero).rvs, F.length + (1 : Nat) = F.length + (1 : Nat), L.length = L.length ∧ (fun i => (L.getD i Con.zero).rvs) = fun i => (L.getD i Con.zero).rvs, (↑L.length : Int) = (↑L.length : Int), IntKind.i64.wrap ((↑k : Int) + (1 : Int)) = (↑(k + (1 : Nat)) : Int), F = F ∧ l.length + (1 : Nat) = (l ++ [(↑k : Int)]).length, l ++ [(↑k : Int)] = l ++ [(↑k : Int)], (IntKind.i64.wrap ((↑(F.length + (1 : Nat)) : Int) - (1 : Int))).toNat = F.length, (0 : Int) ≤ IntKind.i64.wrap ((↑(F.length + (1 : Nat)) : Int) - (1 : Int)) ∧ IntKind.i64.wrap ((↑(F.length + (1 : Nat)) : Int) - (1 : Int)) < (↑(F.length + (1 : Nat)) : Int), (View.ints IntKind.i64 l).num = l.length ∧ l.length + (1 : Nat) ≤ (1000000 : Nat), (IntKind.i64.wrap ((↑(F.length + (1 : Nat)) : Int) - (1 : Int))).toNat = F.length, (0 : Int) ≤ IntKind.i64.wrap ((↑(F.length + (1 : Nat)) : Int) - (1 : Int)) ∧ IntKind.i64.wrap ((↑(F.length + (1 : Nat)) : Int) - (1 : Int)) < (↑(F.length + (1 : Nat)) : Int), Dec ((L.getD (IntKind.i64.wrap ((↑k : Int) - (1 : Int))).toNat Con.zero).exp == IntKind.i64.wrap ((L.getD k Con.zero).exp - (1 : Int))) true, (0 : Int) ≤ IntKind.i64.wrap ((↑k : Int) - (1 : Int)) ∧ IntKind.i64.wrap ((↑k : Int) - (1 : Int)) < (↑L.length : Int), Dec (L.getD (IntKind.i64.wrap ((↑k : Int) - (1 : Int))).toNat Con.zero).odd true, (0 : Int) ≤ IntKind.i64.wrap ((↑k : Int) - (1 : Int)) ∧ IntKind.i64.wrap ((↑k : Int) - (1 : Int)) < (↑L.length : Int), Dec (decide ((↑k : Int) > (0 : Int))) true, Dec (!(L.getD k Con.zero).odd) false, (0 : Int) ≤ (↑k : Int) ∧ (↑k : Int) < (↑L.length : Int), Dec (decide ((↑k : Int) < (↑L.length : Int))) true], by kernel_rfl, ⟨?_, ?_, ?_, ?_, ?_, ?_, ?_, ?_, ?_, ?_, ?_, ?_, d5, ?_, d4, ?_, d3, (dN d2), ?_, d1⟩, MuG.out ?_, InG.out ?_⟩⟩)
           (fun d5 => ⟨[true, false, true, true, false], .inl ⟨(k + 1, F ++ [l], some [(k : Int)]), [L.length = L.length ∧ (fun i => (L.getD i Con.zero).rvs) = fun i => (L.getD i Con.zero).rvs, F.length + (1 : Nat) + (1 : Nat) = (F ++ [l]).length + (1 : Nat), L.length = L.length ∧ (fun i => (L.getD i Con.zero).rvs) = fun i => (L.getD i Con.zero).rvs, (↑L.length : Int) = (↑L.length : Int), IntKind.i64.wrap ((↑k : Int) + (1 : Int)) = (↑(k + (1 : Nat)) : Int), F ++ [l] = F ++ [l] ∧ (1 : Nat) = [(↑k : Int)].length, [(↑k : Int)] = [(↑k : Int)], F.length + (1 : Nat) + (1 : Nat) ≤ (1000000 : Nat), F.length + (1 : Nat) = F.length + (1 : Nat) ∧ l.length = l.length, Dec ((L.getD (IntKind.i64.wrap ((↑k : Int) - (1 : Int))).toNat Con.zero).exp == IntKind.i64.wrap ((L.getD k Con.zero).exp - (1 : Int))) false, (0 : Int) ≤ IntKind.i64.wrap ((↑k : Int) - (1 : Int)) ∧ IntKind.i64.wrap ((↑k : Int) - (1 : Int)) < (↑L.length : Int), Dec (L.getD (IntKind.i64.wrap ((↑k : Int) - (1 : Int))).toNat Con.zero).odd true, (0 : Int) ≤ IntKind.i64.wrap ((↑k : Int) - (1 : Int)) ∧ IntKind.i64.wrap ((↑k : Int) - (1 : Int)) < (↑L.length : Int), Dec (decide ((↑k : Int) > (0 : Int))) true, Dec (!(L.getD k Con.zero).odd) false, (0 : Int) ≤ (↑k : Int) ∧ (↑k : Int) < (↑L.length : Int), Dec (decide ((↑k : Int) < (↑L.length : Int))) true], by kernel_rfl, ⟨?_, ?_, ?_, ?_, ?_, ?_, ?_, ?_, ?_, d5, ?_, d4, ?_, d3, (dN d2), ?_, d1⟩, MuG.out ?_, InG.out ?_⟩⟩))
           (fun d4 => ⟨[true, false, true, false], .inl ⟨(k + 1, F ++ [l], some [(k : Int)]), [L.length = L.length ∧ (fun i => (L.getD i Con.zero).rvs) = fun i => (L.getD i Con.zero).rvs, F.length + (1 : Nat) + (1 : Nat) = (F ++ [l]).length + (1 : Nat), L.length = L.length ∧ (fun i => (L.getD i Con.zero).rvs) = fun i => (L.getD i Con.zero).rvs, (↑L.length : Int) = (↑L.length : Int), IntKind.i64.wrap ((↑k : Int) + (1 : Int)) = (↑(k + (1 : Nat)) : Int), F ++ [l] = F ++ [l] ∧ (1 : Nat) = [(↑k : Int)].length, [(↑k : Int)] = [(↑k : Int)], F.length + (1 : Nat) + (1 : Nat) ≤ (1000000 : Nat), F.length + (1 : Nat) = F.length + (1 : Nat) ∧ l.length = l.length, Dec (L.getD (IntKind.i64.wrap ((↑k : Int) - (1 : Int))).toNat Con.zero).odd false, (0 : Int) ≤ IntKind.i64.wrap ((↑k : Int) - (1 : Int)) ∧ IntKind.i64.wrap ((↑k : Int) - (1 : Int)) < (↑L.length : Int), Dec (decide ((↑k : Int) > (0 : Int))) true, Dec (!(L.getD k Con.zero).odd) false, (0 : Int) ≤ (↑k : Int) ∧ (↑k : Int) < (↑L.length : Int), Dec (decide ((↑k : Int) < (↑L.length : Int))) true], by kernel_rfl, ⟨?_, ?_, ?_, ?_, ?_, ?_, ?_, ?_, ?_, d4, ?_, d3, (dN d2), ?_, d1⟩, MuG.out ?_, InG.out ?_⟩⟩))
           (fun d3 => ⟨[true, false, false], .inl ⟨(k + 1, F ++ [l], some [(k : Int)]), [L.length = L.length ∧ (fun i => (L.getD i Con.zero).rvs) = fun i => (L.getD i Con.zero).rvs, F.length + (1 : Nat) + (1 : Nat) = (F ++ [l]).length + (1 : Nat), L.length = L.length ∧ (fun i => (L.getD i Con.zero).rvs) = fun i => (L.getD i Con.zero).rvs, (↑L.length : Int) = (↑L.length : Int), IntKind.i64.wrap ((↑k : Int) + (1 : Int)) = (↑(k + (1 : Nat)) : Int), F ++ [l] = F ++ [l] ∧ (1 : Nat) = [(↑k : Int)].length, [(↑k : Int)] = [(↑k : Int)], F.length + (1 : Nat) + (1 : Nat) ≤ (1000000 : Nat), F.length + (1 : Nat) = F.length + (1 : Nat) ∧ l.length = l.length, Dec (decide ((↑k : Int) > (0 : Int))) false, Dec (!(L.getD k Con.zero).odd) false, (0 : Int) ≤ (↑k : Int) ∧ (↑k : Int) < (↑L.length : Int), Dec (decide ((↑k : Int) < (↑L.length : Int))) true], by kernel_rfl, ⟨?_, ?_, ?_, ?_, ?_, ?_, ?_, ?_, ?_, d3, (dN d2), ?_, d1⟩, MuG.out ?_, InG.out ?_⟩⟩))
           (fun d2 => ⟨[true, true], .inl ⟨(k + 1, F, some l), [L.length = L.length ∧ (fun i => (L.getD i Con.zero).rvs) = fun i => (L.getD i Con.zero).rvs, F.length + (1 : Nat) = F.length + (1 : Nat), L.length = L.length ∧ (fun i => (L.getD i Con.zero).rvs) = fun i => (L.getD i Con.zero).rvs, (↑L.length : Int) = (↑L.length : Int), IntKind.i64.wrap ((↑k : Int) + (1 : Int)) = (↑(k + (1 : Nat)) : Int), F = F ∧ l.length = l.length, l = l, Dec (!(L.getD k Con.zero).odd) true, (0 : Int) ≤ (↑k : Int) ∧ (↑k : Int) < (↑L.length : Int), Dec (decide ((↑k : Int) < (↑L.length : Int))) true], by kernel_rfl, ⟨?_, ?_, ?_, ?_, ?_, ?_, ?_, (dN d2), ?_, d1⟩, MuG.out ?_, InG.out ?_⟩⟩))
           (fun d1 => CtG.no ?_)
        all_goals first | (refine MuG.mk ?_; (simp only [decide_eq_true_eq, decide_eq_false_iff_not] at *; show L.length - (k + 1) < L.length - k; omega)) | (refine InG.mk ?_; (simp only [em, et, ew, decide_eq_true_eq, decide_eq_false_iff_not, gt_iff_lt, beq_iff_eq, beq_eq_false_iff_ne, ne_eq] at *; first | exact ⟨partsI_no hI (by omega) d2, hD⟩ | exact ⟨partsI_one hI (by omega) d2, hD⟩ | exact ⟨partsI_app hI (by omega) d2 (joinB_t (by omega) d4 d5), hD⟩ | exact ⟨partsI_new hI (by omega) d2 (joinB_1 (by omega)), hD⟩ | exact ⟨partsI_new hI (by omega) d2 (joinB_2 d4), hD⟩ | exact ⟨partsI_new hI (by omega) d2 (joinB_3 d5), hD⟩)) | (refine CtG.mk ?_; (simp only [decide_eq_false_iff_not] at *; have h0 := partsI_end hI (by omega); rw [h0] at hD; cases hD)) | (refine GnG.mk ?_; (have h0 := ((partsI_ok hI).none rfl).2 (k - 1) (by simp only [decide_eq_true_eq] at d3; show k - 1 < k; omega); simp only [em, et] at d4; exact Bool.noConfusion ((show false = _ from h0.symm).trans d4))) | (first | rfl | exact ⟨rfl, rfl⟩ | ((try simp only [em, ek, et, eF, ew, Int.toNat_natCast, decide_eq_true_eq, decide_eq_false_iff_not, gt_iff_lt, View.num] at *) <;> first | omega | exact ⟨rfl, rfl⟩ | (have := (hG.rows l (by simp [allA])).2.2; exact ⟨by trivial, by omega⟩) | (rw [(partsI_fin hI (by omega)).1]; done) | (rw [(partsI_fin hI (by omega)).2]; done) | (rw [(partsI_fin hI (by omega)).1, (partsI_fin hI (by omega)).2]; exact ⟨rfl, rfl⟩) | (simp; done)))
set_option maxRecDepth 100000 in
theorem parts_pure (L : List Con) (hL : okE L) : PureC Tryz.prog [] 77 [roC L] (roR .i64 (partsM L)) := by
  have rr := fun (tp : List Bool) (ms : List Prop) h hm => pure_run evOk (callF_ok evOk (noOrc_ok _ _) 8) Tryz.func77 (A := [roC L]) (N := Nat.max 1 Tryz.f77.ntmps) rfl (one_ann (parts_loop L hL)) rfl rfl evNg (tabs := []) (R := roR .i64 (partsM L)) (tp := tp) (ms := ms) h hm
  refine Or.elim (Bool.eq_false_or_eq_true ((partsA L L.length).snd.isNone)) (fun d1 => rr [true] [(partsM L).length = (0 : Nat), L.length = L.length ∧ (fun i => (L.getD i Con.zero).rvs) = fun i => (L.getD i Con.zero).rvs, L.length = L.length ∧ (fun i => (L.getD i Con.zero).rvs) = fun i => (L.getD i Con.zero).rvs, (↑L.length : Int) = (↑L.length : Int), Dec (partsA L L.length).snd.isNone true] (by kernel_rfl) ⟨?_, ?_, ?_, ?_, d1⟩)
           (fun d1 => rr [false] [(partsFin L).length + (1 : Nat) = (partsM L).length ∧ (partsFin L).length + (1 : Nat) = (partsFin L).length + (1 : Nat) ∧ (partsLst L).length = (partsLst L).length ∧ ∀ (i : Nat), i < (partsFin L).length + (1 : Nat) → (fun i => [rI IntKind.i64 ((partsM L).getD i [])]) i = [rI IntKind.i64 ((partsFin L ++ [partsLst L]).getD i [])], L.length = L.length ∧ (fun i => (L.getD i Con.zero).rvs) = fun i => (L.getD i Con.zero).rvs, L.length = L.length ∧ (fun i => (L.getD i Con.zero).rvs) = fun i => (L.getD i Con.zero).rvs, (↑L.length : Int) = (↑L.length : Int), Dec (partsA L L.length).snd.isNone false] (by kernel_rfl) ⟨?_, ?_, ?_, ?_, d1⟩)
  all_goals first | (first | rfl | exact ⟨rfl, rfl⟩ | (rw [parts_nil d1]; rfl) | (rw [parts_cons d1]; exact ⟨by simp, rfl, rfl, fun i _ => rfl⟩))
noncomputable def totAnn (L : List Con) (l : List Int) : Ann := ⟨⟨[(0, (roC L).av), (5, .int .i64 0), (8, (rI .i64 l).av), (9, .vint .i64 l.length), (10, .int .i64 0)], [], 1000⟩, none, fun _ => (.exit 0, ⟨[(5, .vint .i64 (sumO L l))], [], 1000⟩)⟩
theorem sumO_take {L : List Con} {l : List Int} {t : Nat} (ht : t < l.length) : sumO L (l.take (t + 1)) = sumO L (l.take t) + (at_ L (l.getD t 0).toNat).oddity := by
  rw [take_int ht, sumO_append]; simp [sumO]
theorem odd_b {L : List Con} {l : List Int} {t : Nat} (hL : okL L) (hl : inR L.length l) (ht : t < l.length) : 0 ≤ (at_ L (l.getD t 0).toNat).oddity ∧ (at_ L (l.getD t 0).toNat).oddity ≤ 7 := by
  have h1 := hl.at ht
  exact (hL.at (k := (l.getD t 0).toNat) (by omega)).2.2.2
set_option maxRecDepth 100000 in
theorem tot_loop (L : List Con) (l : List Int) (hL : okL L) (hl : inR L.length l) (hn : l.length ≤ 1000) : AnnOk Tryz.prog EV.ng (Nat.max 2 Tryz.f108.ntmps) (bodyAt Tryz.f108 [0, 1, 0, 1, 1]) (totAnn L l) := by
  refine ann_of evOk (callF_ok evOk (noOrc_ok _ _) 8) none_ann (by kernel_rfl) (by kernel_rfl) (fun i : Nat × Int => (fun (t : Nat) (n : Int) => (⟨[(0, (roC L).av), (5, .vint .i64 n), (8, (rI .i64 l).av), (9, .vint .i64 l.length), (10, .vint .i64 (t : Int))], [], 1000⟩ : St)) i.1 i.2) (fun i : Nat × Int => (fun (t : Nat) (n : Int) => (l.length - t : Nat)) i.1 i.2) (fun (d : Bool) (i : Nat × Int) => (fun (t : Nat) (n : Int) => (t ≤ l.length ∧ n = sumO L (l.take t) : Prop)) i.1 i.2) ?_ ?_
  · intro d hd
    exact ⟨(0, 0), [L.length = L.length ∧ (fun i => (L.getD i Con.zero).rvs) = fun i => (L.getD i Con.zero).rvs, (0 : Int) = (0 : Int), l.length = l.length ∧ (fun j => [RV.int IntKind.i64 (l.getD j (0 : Int))]) = fun j => [RV.int IntKind.i64 (l.getD j (0 : Int))], (↑l.length : Int) = (↑l.length : Int), (0 : Int) = (↑(0 : Nat) : Int)], by kernel_rfl, (by refine ⟨?_, ?_, ?_, ?_, (?_ : (0 : Int) = (↑(0 : Nat) : Int))⟩ <;> (first | rfl | assumption | omega | simp_all)), (by exact ⟨Nat.zero_le _, rfl⟩)⟩
  · rintro d hd ⟨t, n⟩ hI
    cases d
    · -- d = false
      exact Bool.noConfusion (show false = true from hd)
    · -- d = true
      obtain ⟨ht, hs⟩ := hI
      have ek : IntKind.i64.wrap ((t : Int) + 1) = ((t + 1 : Nat) : Int) := by rw [w64 (by omega) (by omega)]; omega
      have hb := sumO_b hL (l := l.take t) (fun x hx => hl x (List.mem_of_mem_take hx))
      have hb2 : ((l.take t).length : Int) ≤ 1000 := by simp only [List.length_take]; omega
      refine Or.elim (Bool.eq_false_or_eq_true (decide ((↑t : Int) < (↑l.length : Int)))) (fun d1 => ⟨[true], .inl ⟨(t + 1, n + (at_ L (l.getD t 0).toNat).oddity), [L.length = L.length ∧ (fun i => (L.getD i Con.zero).rvs) = fun i => (L.getD i Con.zero).rvs, IntKind.i64.wrap (n + (L.getD (l.getD t (0 : Int)).toNat Con.zero).oddity) = n + (at_ L (l.getD t (0 : Int)).toNat).oddity, l.length = l.length ∧ (fun j => [RV.int IntKind.i64 (l.getD j (0 : Int))]) = fun j => [RV.int IntKind.i64 (l.getD j (0 : Int))], (↑l.length : Int) = (↑l.length : Int), IntKind.i64.wrap ((↑t : Int) + (1 : Int)) = (↑(t + (1 : Nat)) : Int), (0 : Int) ≤ l.getD t (0 : Int) ∧ l.getD t (0 : Int) < (↑L.length : Int), (0 : Int) ≤ (↑t : Int) ∧ (↑t : Int) < (↑l.length : Int), Dec (decide ((↑t : Int) < (↑l.length : Int))) true], by kernel_rfl, ⟨?_, ?_, ?_, ?_, ?_, ?_, ?_, d1⟩, MuG.out ?_, InG.out ?_⟩⟩)
           (fun d1 => ⟨[false], .inr ⟨[n = sumO L l, Dec (decide ((↑t : Int) < (↑l.length : Int))) false], by kernel_rfl, ⟨?_, d1⟩, rfl⟩⟩)
      all_goals first | (refine MuG.mk ?_; (simp only [decide_eq_true_eq] at *; show l.length - (t + 1) < l.length - t; omega)) | (refine InG.mk ?_; (simp only [decide_eq_true_eq] at *; exact ⟨by omega, by rw [sumO_take (by omega), hs]⟩)) | (refine CtG.mk ?_; (simp_all)) | (first | rfl | exact ⟨rfl, rfl⟩ | ((try simp only [ek, Int.toNat_natCast, decide_eq_true_eq, decide_eq_false_iff_not] at *) <;> first | omega | (have h1 := hl.at (t := t) (by omega); omega) | (have h2 := odd_b (t := t) hL hl (by omega); simp only [at_] at h2 ⊢; exact w64 (by omega) (by omega)) | (rw [hs, List.take_of_length_le (by omega)]; done)))
set_option maxRecDepth 100000 in
theorem total_pure (L : List Con) (l : List Int) (hL : okL L) (hl : inR L.length l) (hn : l.length ≤ 1000) : PureC Tryz.prog [] 108 [roC L, rI .i64 l] (.int .i64 (totM L l)) := by
  have rr := fun (tp : List Bool) (ms : List Prop) h hm => pure_run evOk (callF_ok evOk (noOrc_ok _ _) 8) Tryz.func108 (A := [roC L, rI .i64 l]) (N := Nat.max 1 Tryz.f108.ntmps) rfl (one_ann (tot_loop L l hL hl hn)) rfl rfl evNg (tabs := []) (R := .int .i64 (totM L l)) (tp := tp) (ms := ms) h hm
  refine rr [] [(sumO L l).tmod (8 : Int) = totM L l, (8 : Int) ≠ (0 : Int), L.length = L.length ∧ (fun i => (L.getD i Con.zero).rvs) = fun i => (L.getD i Con.zero).rvs, l.length = l.length ∧ (fun j => [RV.int IntKind.i64 (l.getD j (0 : Int))]) = fun j => [RV.int IntKind.i64 (l.getD j (0 : Int))], (↑l.length : Int) = (↑l.length : Int)] (by kernel_rfl) ⟨?_, ?_, ?_, ?_, (?_ : (↑l.length : Int) = (↑l.length : Int))⟩
  all_goals first | (first | rfl | exact ⟨rfl, rfl⟩ | decide | (exact Int.tmod_eq_emod_of_nonneg (sumO_b hL hl).1))
end Go.Proofs.YtgdhgnhgmbkpdaaGreatDoor.S

namespace Go.Proofs.YtgdhgnhgmbkpdaaGreatDoor.S
open Go.QfSy Go.RowKit
noncomputable def entsP : List OEnt := [
  ⟨77, [], fun A => match A with
    | [.sl n 5 row] => some (roR .i64 (partsM (consR n row)), [(∀ i, i < n → row i = (Con.ofR (row i)).rvs) ∧ okE (consR n row)])
    | _ => none⟩,
  ⟨108, [], fun A => match A with
    | [.sl n 5 row, .sl m 1 row'] => some (.int .i64 (totM (consR n row) (intsR m row')), [(∀ i, i < n → row i = (Con.ofR (row i)).rvs) ∧ (∀ i, i < m → row' i = [.int .i64 (intR (row' i))]) ∧ okL (consR n row) ∧ inR (consR n row).length (intsR m row') ∧ m ≤ 1000])
    | _ => none⟩]
theorem entsP_ok : ∀ e ∈ entsP, EntOk Tryz.prog e := by
  intro e he
  simp only [entsP, List.mem_cons, List.not_mem_nil, or_false] at he
  rcases he with rfl | rfl
  all_goals
    intro A R ms h hm
    simp only at h
    split at h
    all_goals first | (cases h; done) | cases h
  · obtain ⟨h1, h2⟩ := all_one hm
    exact PureC.imp (parts_pure _ h2) (.cons (.con h1) .nil)
  · obtain ⟨h1, h2, h3, h4, h5⟩ := all_one hm
    exact PureC.imp (total_pure _ _ h3 h4 (by rw [intsR_len]; exact h5)) (.cons (.con h1) (.cons (.ints h2) .nil))
theorem hasI_drop {i : Int} {l : List Int} {t : Nat} (ht : t < l.length) : hasI i (l.drop t) = ((l.getD t 0 == i) || hasI i (l.drop (t + 1))) := by
  rw [drop_int ht]; rfl
theorem anyR_drop {i : Int} {P : List (List Int)} {j : Nat} (hj : j < P.length) : anyR i (P.drop j) = (hasI i (rowAt P j) || anyR i (P.drop (j + 1))) := by
  rw [drop_row hj]; rfl
theorem findR_drop {i : Int} {P : List (List Int)} {j : Nat} (hj : j < P.length) : findR i (P.drop j) = (bif hasI i (rowAt P j) then rowAt P j else findR i (P.drop (j + 1))) := by
  rw [drop_row hj]; rfl
noncomputable def poIn (P : List (List Int)) (a : Int) (j : Nat) : Ann := ⟨⟨[(1, .vint .i64 a), (10, (roR .i64 P).av), (11, .vint .i64 P.length), (12, .vint .i64 (j : Int)), (6, (rI .i64 (rowAt P j)).av), (16, (rI .i64 (rowAt P j)).av), (17, .vint .i64 (rowAt P j).length), (18, .int .i64 0)], [], 1000⟩, some (hasI a (rowAt P j)), fun d => match d with
  | true => (.ret, ⟨[(4, (rI .i64 (rowAt P j)).av)], [], 1000⟩)
  | false => (.exit 2, ⟨[(1, .vint .i64 a), (10, (roR .i64 P).av), (11, .vint .i64 P.length), (12, .vint .i64 (j : Int))], [], 1000⟩)⟩
set_option maxRecDepth 100000 in
theorem po_in (P : List (List Int)) (a : Int) (j : Nat) (hn : (rowAt P j).length ≤ 1000) : AnnOk Tryz.prog EV.ng (Nat.max 2 Tryz.f76.ntmps) (bodyAt Tryz.f76 [0, 1, 1, 0, 0, 1, 1, 0, 0, 1, 0, 1]) (poIn P a j) := by
  refine ann_of evOk (callF_ok evOk (noOrc_ok _ _) 8) none_ann (by kernel_rfl) (by kernel_rfl) (fun i : Nat => (fun (t : Nat) => (⟨[(1, .vint .i64 a), (10, (roR .i64 P).av), (11, .vint .i64 P.length), (12, .vint .i64 (j : Int)), (6, (rI .i64 (rowAt P j)).av), (16, (rI .i64 (rowAt P j)).av), (17, .vint .i64 (rowAt P j).length), (18, .vint .i64 (t : Int))], [], 1000⟩ : St)) i) (fun i : Nat => (fun (t : Nat) => ((rowAt P j).length - t : Nat)) i) (fun (d : Bool) (i : Nat) => (fun (t : Nat) => (t ≤ (rowAt P j).length ∧ hasI a ((rowAt P j).drop t) = d : Prop)) i) ?_ ?_
  · intro d hd
    exact ⟨(0), [a = a, P.length = P.length ∧ (fun i => [rI IntKind.i64 (P.getD i [])]) = fun i => [rI IntKind.i64 (P.getD i [])], (↑P.length : Int) = (↑P.length : Int), (↑j : Int) = (↑j : Int), (rowAt P j).length = (rowAt P j).length ∧ (fun j_1 => [RV.int IntKind.i64 ((rowAt P j).getD j_1 (0 : Int))]) = fun j_1 => [RV.int IntKind.i64 ((rowAt P j).getD j_1 (0 : Int))], (rowAt P j).length = (rowAt P j).length ∧ (fun j_1 => [RV.int IntKind.i64 ((rowAt P j).getD j_1 (0 : Int))]) = fun j_1 => [RV.int IntKind.i64 ((rowAt P j).getD j_1 (0 : Int))], (↑(rowAt P j).length : Int) = (↑(rowAt P j).length : Int), (0 : Int) = (↑(0 : Nat) : Int)], by kernel_rfl, (by refine ⟨?_, ?_, ?_, ?_, ?_, ?_, ?_, (?_ : (0 : Int) = (↑(0 : Nat) : Int))⟩ <;> (first | rfl | assumption | omega | simp_all)), (by exact ⟨Nat.zero_le _, hd⟩)⟩
  · rintro d hd t hI
    cases d
    · -- d = false
      obtain ⟨ht, hs⟩ := hI
      have ek : IntKind.i64.wrap ((t : Int) + 1) = ((t + 1 : Nat) : Int) := by rw [w64 (by omega) (by omega)]; omega
      refine Or.elim (Bool.eq_false_or_eq_true (decide ((↑t : Int) < (↑(rowAt P j).length : Int)))) (fun d1 => Or.elim (Bool.eq_false_or_eq_true ((rowAt P j).getD t (0 : Int) == a)) (fun d2 => CtG.no ?_)
           (fun d2 => ⟨[true, false], .inl ⟨(t + 1), [a = a, P.length = P.length ∧ (fun i => [rI IntKind.i64 (P.getD i [])]) = fun i => [rI IntKind.i64 (P.getD i [])], (↑P.length : Int) = (↑P.length : Int), (↑j : Int) = (↑j : Int), (rowAt P j).length = (rowAt P j).length ∧ (fun j_1 => [RV.int IntKind.i64 ((rowAt P j).getD j_1 (0 : Int))]) = fun j_1 => [RV.int IntKind.i64 ((rowAt P j).getD j_1 (0 : Int))], (rowAt P j).length = (rowAt P j).length ∧ (fun j_1 => [RV.int IntKind.i64 ((rowAt P j).getD j_1 (0 : Int))]) = fun j_1 => [RV.int IntKind.i64 ((rowAt P j).getD j_1 (0 : Int))], (↑(rowAt P j).length : Int) = (↑(rowAt P j).length : Int), IntKind.i64.wrap ((↑t : Int) + (1 : Int)) = (↑(t + (1 : Nat)) : Int), Dec ((rowAt P j).getD t (0 : Int) == a) false, (0 : Int) ≤ (↑t : Int) ∧ (↑t : Int) < (↑(rowAt P j).length : Int), Dec (decide ((↑t : Int) < (↑(rowAt P j).length : Int))) true], by kernel_rfl, ⟨?_, ?_, ?_, ?_, ?_, ?_, ?_, ?_, d2, ?_, d1⟩, MuG.out ?_, InG.out ?_⟩⟩))
           (fun d1 => ⟨[false], .inr ⟨[a = a, P.length = P.length ∧ (fun i => [rI IntKind.i64 (P.getD i [])]) = fun i => [rI IntKind.i64 (P.getD i [])], (↑P.length : Int) = (↑P.length : Int), (↑j : Int) = (↑j : Int), Dec (decide ((↑t : Int) < (↑(rowAt P j).length : Int))) false], by kernel_rfl, ⟨?_, ?_, ?_, ?_, d1⟩, rfl⟩⟩)
      all_goals first | (refine MuG.mk ?_; (simp only [decide_eq_true_eq] at *; show (rowAt P j).length - (t + 1) < (rowAt P j).length - t; omega)) | (refine InG.mk ?_; (simp only [decide_eq_true_eq] at *; rw [hasI_drop (by omega), d2] at hs; exact ⟨by omega, hs⟩)) | (refine CtG.mk ?_; (simp only [decide_eq_true_eq, decide_eq_false_iff_not] at *; first | (rw [List.drop_eq_nil_of_le (by omega)] at hs; cases hs; done) | (rw [hasI_drop (by omega), d2] at hs; cases hs; done))) | (first | rfl | exact ⟨rfl, rfl⟩ | ((try simp only [ek, Int.toNat_natCast, decide_eq_true_eq, decide_eq_false_iff_not] at *) <;> omega))
    · -- d = true
      obtain ⟨ht, hs⟩ := hI
      have ek : IntKind.i64.wrap ((t : Int) + 1) = ((t + 1 : Nat) : Int) := by rw [w64 (by omega) (by omega)]; omega
      refine Or.elim (Bool.eq_false_or_eq_true (decide ((↑t : Int) < (↑(rowAt P j).length : Int)))) (fun d1 => Or.elim (Bool.eq_false_or_eq_true ((rowAt P j).getD t (0 : Int) == a)) (fun d2 => ⟨[true, true], .inr ⟨[(rowAt P j).length = (rowAt P j).length ∧ (fun j_1 => [RV.int IntKind.i64 ((rowAt P j).getD j_1 (0 : Int))]) = fun j_1 => [RV.int IntKind.i64 ((rowAt P j).getD j_1 (0 : Int))], Dec ((rowAt P j).getD t (0 : Int) == a) true, (0 : Int) ≤ (↑t : Int) ∧ (↑t : Int) < (↑(rowAt P j).length : Int), Dec (decide ((↑t : Int) < (↑(rowAt P j).length : Int))) true], by kernel_rfl, ⟨?_, d2, ?_, d1⟩, rfl⟩⟩)
           (fun d2 => ⟨[true, false], .inl ⟨(t + 1), [a = a, P.length = P.length ∧ (fun i => [rI IntKind.i64 (P.getD i [])]) = fun i => [rI IntKind.i64 (P.getD i [])], (↑P.length : Int) = (↑P.length : Int), (↑j : Int) = (↑j : Int), (rowAt P j).length = (rowAt P j).length ∧ (fun j_1 => [RV.int IntKind.i64 ((rowAt P j).getD j_1 (0 : Int))]) = fun j_1 => [RV.int IntKind.i64 ((rowAt P j).getD j_1 (0 : Int))], (rowAt P j).length = (rowAt P j).length ∧ (fun j_1 => [RV.int IntKind.i64 ((rowAt P j).getD j_1 (0 : Int))]) = fun j_1 => [RV.int IntKind.i64 ((rowAt P j).getD j_1 (0 : Int))], (↑(rowAt P j).length : Int) = (↑(rowAt P j).length : Int), IntKind.i64.wrap ((↑t : Int) + (1 : Int)) = (↑(t + (1 : Nat)) : Int), Dec ((rowAt P j).getD t (0 : Int) == a) false, (0 : Int) ≤ (↑t : Int) ∧ (↑t : Int) < (↑(rowAt P j).length : Int), Dec (decide ((↑t : Int) < (↑(rowAt P j).length : Int))) true], by kernel_rfl, ⟨?_, ?_, ?_, ?_, ?_, ?_, ?_, ?_, d2, ?_, d1⟩, MuG.out ?_, InG.out ?_⟩⟩))
           (fun d1 => CtG.no ?_)
      all_goals first | (refine MuG.mk ?_; (simp only [decide_eq_true_eq] at *; show (rowAt P j).length - (t + 1) < (rowAt P j).length - t; omega)) | (refine InG.mk ?_; (simp only [decide_eq_true_eq] at *; rw [hasI_drop (by omega), d2] at hs; exact ⟨by omega, hs⟩)) | (refine CtG.mk ?_; (simp only [decide_eq_true_eq, decide_eq_false_iff_not] at *; first | (rw [List.drop_eq_nil_of_le (by omega)] at hs; cases hs; done) | (rw [hasI_drop (by omega), d2] at hs; cases hs; done))) | (first | rfl | exact ⟨rfl, rfl⟩ | ((try simp only [ek, Int.toNat_natCast, decide_eq_true_eq, decide_eq_false_iff_not] at *) <;> omega))
noncomputable def poOut (P : List (List Int)) (a : Int) : Ann := ⟨⟨[(1, .vint .i64 a), (10, (roR .i64 P).av), (11, .vint .i64 P.length), (12, .int .i64 0)], [], 1000⟩, some (anyR a P), fun d => match d with
  | true => (.ret, ⟨[(4, (rI .i64 (findR a P)).av)], [], 1000⟩)
  | false => (.exit 0, ⟨[], [], 1000⟩)⟩
set_option maxRecDepth 100000 in
theorem po_out (P : List (List Int)) (a : Int) (hn : ∀ l ∈ P, l.length ≤ 1000) (hm : P.length ≤ 1000) : AnnOk Tryz.prog EV.ng (Nat.max 2 Tryz.f76.ntmps) (bodyAt Tryz.f76 [0, 1, 0, 1]) (poOut P a) := by
  refine ann_ofI evOk (callF_ok evOk (noOrc_ok _ _) 8) (by kernel_rfl) (by kernel_rfl) (fun i : Nat => (fun (j : Nat) => (⟨[(1, .vint .i64 a), (10, (roR .i64 P).av), (11, .vint .i64 P.length), (12, .vint .i64 (j : Int))], [], 1000⟩ : St)) i) (fun i : Nat => (fun (j : Nat) => (P.length - j : Nat)) i) (fun (d : Bool) (i : Nat) => (fun (j : Nat) => (j ≤ P.length ∧ anyR a (P.drop j) = d ∧ findR a (P.drop j) = findR a P : Prop)) i) (fun i : Nat => (fun (j : Nat) => ([([0, 1, 1, 0, 0, 1, 1, 0, 0, 1, 0, 1], poIn P a j)] : List (List Nat × Ann))) i) ?_ ?_ ?_
  · rintro d hd j hI
    exact one_ann (po_in P a j (by rcases Nat.lt_or_ge j P.length with h | h; exact hn _ (rowAt_mem h); simp [rowAt, h]))
  · intro d hd
    exact ⟨(0), [a = a, P.length = P.length ∧ (fun i => [rI IntKind.i64 (P.getD i [])]) = fun i => [rI IntKind.i64 (P.getD i [])], (↑P.length : Int) = (↑P.length : Int), (0 : Int) = (↑(0 : Nat) : Int)], by kernel_rfl, (by refine ⟨?_, ?_, ?_, (?_ : (0 : Int) = (↑(0 : Nat) : Int))⟩ <;> (first | rfl | assumption | omega | simp_all)), (by exact ⟨Nat.zero_le _, hd, rfl⟩)⟩
  · rintro d hd j hI
    cases d
    · -- d = false
      obtain ⟨ht, hs, hf⟩ := hI
      have ek : IntKind.i64.wrap ((j : Int) + 1) = ((j + 1 : Nat) : Int) := by rw [w64 (by omega) (by omega)]; omega
      refine Or.elim (Bool.eq_false_or_eq_true (decide ((↑j : Int) < (↑P.length : Int)))) (fun d1 => Or.elim (Bool.eq_false_or_eq_true (hasI a (rowAt P j))) (fun d2 => CtG.no ?_)
           (fun d2 => ⟨[true, false], .inl ⟨(j + 1), [a = a, P.length = P.length ∧ (fun i => [rI IntKind.i64 (P.getD i [])]) = fun i => [rI IntKind.i64 (P.getD i [])], (↑P.length : Int) = (↑P.length : Int), IntKind.i64.wrap ((↑j : Int) + (1 : Int)) = (↑(j + (1 : Nat)) : Int), a = a, P.length = P.length ∧ (fun i => [rI IntKind.i64 (P.getD i [])]) = fun i => [rI IntKind.i64 (P.getD i [])], (↑P.length : Int) = (↑P.length : Int), (↑j : Int) = (↑j : Int), (P.getD j []).length = (rowAt P j).length ∧ (fun j_1 => [RV.int IntKind.i64 ((P.getD j []).getD j_1 (0 : Int))]) = fun j_1 => [RV.int IntKind.i64 ((rowAt P j).getD j_1 (0 : Int))], (P.getD j []).length = (rowAt P j).length ∧ (fun j_1 => [RV.int IntKind.i64 ((P.getD j []).getD j_1 (0 : Int))]) = fun j_1 => [RV.int IntKind.i64 ((rowAt P j).getD j_1 (0 : Int))], (↑(P.getD j []).length : Int) = (↑(rowAt P j).length : Int), Dec (hasI a (rowAt P j)) false, (0 : Int) ≤ (↑j : Int) ∧ (↑j : Int) < (↑P.length : Int), Dec (decide ((↑j : Int) < (↑P.length : Int))) true], by kernel_rfl, ⟨?_, ?_, ?_, ?_, ?_, ?_, ?_, ?_, ?_, ?_, ?_, d2, ?_, d1⟩, MuG.out ?_, InG.out ?_⟩⟩))
           (fun d1 => ⟨[false], .inr ⟨[Dec (decide ((↑j : Int) < (↑P.length : Int))) false], by kernel_rfl, d1, rfl⟩⟩)
      all_goals first | (refine MuG.mk ?_; (simp only [decide_eq_true_eq] at *; show P.length - (j + 1) < P.length - j; omega)) | (refine InG.mk ?_; (simp only [decide_eq_true_eq] at *; rw [anyR_drop (by omega), d2] at hs; rw [findR_drop (by omega), d2] at hf; exact ⟨by omega, hs, hf⟩)) | (refine CtG.mk ?_; (simp only [decide_eq_true_eq, decide_eq_false_iff_not] at *; first | (rw [List.drop_eq_nil_of_le (by omega)] at hs; cases hs; done) | (rw [anyR_drop (by omega), d2] at hs; cases hs; done))) | (first | rfl | exact ⟨rfl, rfl⟩ | ((try simp only [ek, Int.toNat_natCast, decide_eq_true_eq, decide_eq_false_iff_not] at *) <;> first | omega | (rw [← hf, findR_drop (by omega), d2]; exact ⟨rfl, rfl⟩)))
    · -- d = true
      obtain ⟨ht, hs, hf⟩ := hI
      have ek : IntKind.i64.wrap ((j : Int) + 1) = ((j + 1 : Nat) : Int) := by rw [w64 (by omega) (by omega)]; omega
      refine Or.elim (Bool.eq_false_or_eq_true (decide ((↑j : Int) < (↑P.length : Int)))) (fun d1 => Or.elim (Bool.eq_false_or_eq_true (hasI a (rowAt P j))) (fun d2 => ⟨[true, true], .inr ⟨[(rowAt P j).length = (findR a P).length ∧ (fun j_1 => [RV.int IntKind.i64 ((rowAt P j).getD j_1 (0 : Int))]) = fun j => [RV.int IntKind.i64 ((findR a P).getD j (0 : Int))], a = a, P.length = P.length ∧ (fun i => [rI IntKind.i64 (P.getD i [])]) = fun i => [rI IntKind.i64 (P.getD i [])], (↑P.length : Int) = (↑P.length : Int), (↑j : Int) = (↑j : Int), (P.getD j []).length = (rowAt P j).length ∧ (fun j_1 => [RV.int IntKind.i64 ((P.getD j []).getD j_1 (0 : Int))]) = fun j_1 => [RV.int IntKind.i64 ((rowAt P j).getD j_1 (0 : Int))], (P.getD j []).length = (rowAt P j).length ∧ (fun j_1 => [RV.int IntKind.i64 ((P.getD j []).getD j_1 (0 : Int))]) = fun j_1 => [RV.int IntKind.i64 ((rowAt P j).getD j_1 (0 : Int))], (↑(P.getD j []).length : Int) = (↑(rowAt P j).length : Int), Dec (hasI a (rowAt P j)) true, (0 : Int) ≤ (↑j : Int) ∧ (↑j : Int) < (↑P.length : Int), Dec (decide ((↑j : Int) < (↑P.length : Int))) true], by kernel_rfl, ⟨?_, ?_, ?_, ?_, ?_, ?_, ?_, ?_, d2, ?_, d1⟩, rfl⟩⟩)
           (fun d2 => ⟨[true, false], .inl ⟨(j + 1), [a = a, P.length = P.length ∧ (fun i => [rI IntKind.i64 (P.getD i [])]) = fun i => [rI IntKind.i64 (P.getD i [])], (↑P.length : Int) = (↑P.length : Int), IntKind.i64.wrap ((↑j : Int) + (1 : Int)) = (↑(j + (1 : Nat)) : Int), a = a, P.length = P.length ∧ (fun i => [rI IntKind.i64 (P.getD i [])]) = fun i => [rI IntKind.i64 (P.getD i [])], (↑P.length : Int) = (↑P.length : Int), (↑j : Int) = (↑j : Int), (P.getD j []).length = (rowAt P j).length ∧ (fun j_1 => [RV.int IntKind.i64 ((P.getD j []).getD j_1 (0 : Int))]) = fun j_1 => [RV.int IntKind.i64 ((rowAt P j).getD j_1 (0 : Int))], (P.getD j []).length = (rowAt P j).length ∧ (fun j_1 => [RV.int IntKind.i64 ((P.getD j []).getD j_1 (0 : Int))]) = fun j_1 => [RV.int IntKind.i64 ((rowAt P j).getD j_1 (0 : Int))], (↑(P.getD j []).length : Int) = (↑(rowAt P j).length : Int), Dec (hasI a (rowAt P j)) false, (0 : Int) ≤ (↑j : Int) ∧ (↑j : Int) < (↑P.length : Int), Dec (decide ((↑j : Int) < (↑P.length : Int))) true], by kernel_rfl, ⟨?_, ?_, ?_, ?_, ?_, ?_, ?_, ?_, ?_, ?_, ?_, d2, ?_, d1⟩, MuG.out ?_, InG.out ?_⟩⟩))
           (fun d1 => CtG.no ?_)
      all_goals first | (refine MuG.mk ?_; (simp only [decide_eq_true_eq] at *; show P.length - (j + 1) < P.length - j; omega)) | (refine InG.mk ?_; (simp only [decide_eq_true_eq] at *; rw [anyR_drop (by omega), d2] at hs; rw [findR_drop (by omega), d2] at hf; exact ⟨by omega, hs, hf⟩)) | (refine CtG.mk ?_; (simp only [decide_eq_true_eq, decide_eq_false_iff_not] at *; first | (rw [List.drop_eq_nil_of_le (by omega)] at hs; cases hs; done) | (rw [anyR_drop (by omega), d2] at hs; cases hs; done))) | (first | rfl | exact ⟨rfl, rfl⟩ | ((try simp only [ek, Int.toNat_natCast, decide_eq_true_eq, decide_eq_false_iff_not] at *) <;> first | omega | (rw [← hf, findR_drop (by omega), d2]; exact ⟨rfl, rfl⟩)))
set_option maxRecDepth 100000 in
theorem partOf_pure (L : List Con) (a : Int) (hL : okE L) : PureC Tryz.prog [] 76 [roC L, .int .i64 a] (rI .i64 (partM L a)) := by
  have rr := fun (tp : List Bool) (ms : List Prop) h hm => pure_run evOk (callF_ok evOk (orcOf_ok entsP_ok) 8) Tryz.func76 (A := [roC L, .int .i64 a]) (N := Nat.max 1 Tryz.f76.ntmps) rfl (one_ann (po_out (partsM L) a (fun l hl => Nat.le_trans (parts_rows l hl).2.2 hL.1) (Nat.le_trans parts_len hL.1))) rfl rfl evNg (tabs := []) (R := rI .i64 (partM L a)) (tp := tp) (ms := ms) h hm
  refine Or.elim (Bool.eq_false_or_eq_true (anyR a (partsM L))) (fun d1 => rr [true] [(findR a (partsM L)).length = (partM L a).length ∧ (fun j => [RV.int IntKind.i64 ((findR a (partsM L)).getD j (0 : Int))]) = fun j => [RV.int IntKind.i64 ((partM L a).getD j (0 : Int))], a = a, (partsM (consR L.length fun i => (L.getD i Con.zero).rvs)).length = (partsM L).length ∧ (fun i => [rI IntKind.i64 ((partsM (consR L.length fun i => (L.getD i Con.zero).rvs)).getD i [])]) = fun i => [rI IntKind.i64 ((partsM L).getD i [])], (↑(partsM (consR L.length fun i => (L.getD i Con.zero).rvs)).length : Int) = (↑(partsM L).length : Int), Dec (anyR a (partsM L)) true, (∀ (i : Nat), i < L.length → (fun i => (L.getD i Con.zero).rvs) i = (Con.ofR ((fun i => (L.getD i Con.zero).rvs) i)).rvs) ∧ okE (consR L.length fun i => (L.getD i Con.zero).rvs)] (by kernel_rfl) ⟨?_, ?_, ?_, ?_, d1, (?_ : (∀ (i : Nat), i < L.length → (fun i => (L.getD i Con.zero).rvs) i = (Con.ofR ((fun i => (L.getD i Con.zero).rvs) i)).rvs) ∧ okE (consR L.length fun i => (L.getD i Con.zero).rvs))⟩)
           (fun d1 => rr [false] [(partM L a).length = (0 : Nat), a = a, (partsM (consR L.length fun i => (L.getD i Con.zero).rvs)).length = (partsM L).length ∧ (fun i => [rI IntKind.i64 ((partsM (consR L.length fun i => (L.getD i Con.zero).rvs)).getD i [])]) = fun i => [rI IntKind.i64 ((partsM L).getD i [])], (↑(partsM (consR L.length fun i => (L.getD i Con.zero).rvs)).length : Int) = (↑(partsM L).length : Int), Dec (anyR a (partsM L)) false, (∀ (i : Nat), i < L.length → (fun i => (L.getD i Con.zero).rvs) i = (Con.ofR ((fun i => (L.getD i Con.zero).rvs) i)).rvs) ∧ okE (consR L.length fun i => (L.getD i Con.zero).rvs)] (by kernel_rfl) ⟨?_, ?_, ?_, ?_, d1, (?_ : (∀ (i : Nat), i < L.length → (fun i => (L.getD i Con.zero).rvs) i = (Con.ofR ((fun i => (L.getD i Con.zero).rvs) i)).rvs) ∧ okE (consR L.length fun i => (L.getD i Con.zero).rvs))⟩)
  all_goals first | (first | rfl | exact ⟨rfl, rfl⟩ | ((try simp only [consR_ro] at *) <;> first | rfl | trivial | exact ⟨rfl, rfl⟩ | exact ⟨trivial, trivial⟩ | exact ⟨fun _ _ => rfl, hL⟩ | (show (findR a (partsM L)).length = 0; rw [findR_none d1]; rfl)))
set_option maxRecDepth 100000 in
theorem bad_pure (L : List Con) (l : List Int) (hL : okL L) (hl : inR L.length l) (hn : l.length ≤ 1000) : PureC Tryz.prog [] 151 [roC L, rI .i64 l] (.bool (badM L l)) := by
  have rr := fun (tp : List Bool) (ms : List Prop) h hm => pure_run evOk (callF_ok evOk (orcOf_ok entsP_ok) 8) Tryz.func151 (A := [roC L, rI .i64 l]) rfl none_ann rfl rfl evNg (tabs := []) (R := .bool (badM L l)) (tp := tp) (ms := ms) h hm
  refine Or.elim (Bool.eq_false_or_eq_true ((↑l.length : Int) == (2 : Int))) (fun d1 => Or.elim (Bool.eq_false_or_eq_true ((L.getD (l.getD (Int.toNat (0 : Int)) (0 : Int)).toNat Con.zero).dim == (1 : Int))) (fun d2 => Or.elim (Bool.eq_false_or_eq_true ((L.getD (l.getD (Int.toNat (1 : Int)) (0 : Int)).toNat Con.zero).dim == (1 : Int))) (fun d3 => rr [true, true, true] [((totM (consR L.length fun i => (L.getD i Con.zero).rvs) (intsR l.length fun j => [RV.int IntKind.i64 (l.getD j (0 : Int))])).tmod (4 : Int) == (0 : Int)) = badM L l, (4 : Int) ≠ (0 : Int), (∀ (i : Nat), i < L.length → (fun i => (L.getD i Con.zero).rvs) i = (Con.ofR ((fun i => (L.getD i Con.zero).rvs) i)).rvs) ∧ (∀ (i : Nat), i < l.length → (fun j => [RV.int IntKind.i64 (l.getD j (0 : Int))]) i = [RV.int IntKind.i64 (intR ((fun j => [RV.int IntKind.i64 (l.getD j (0 : Int))]) i))]) ∧ okL (consR L.length fun i => (L.getD i Con.zero).rvs) ∧ inR (consR L.length fun i => (L.getD i Con.zero).rvs).length (intsR l.length fun j => [RV.int IntKind.i64 (l.getD j (0 : Int))]) ∧ l.length ≤ (1000 : Nat), Dec ((L.getD (l.getD (Int.toNat (1 : Int)) (0 : Int)).toNat Con.zero).dim == (1 : Int)) true, (0 : Int) ≤ l.getD (Int.toNat (1 : Int)) (0 : Int) ∧ l.getD (Int.toNat (1 : Int)) (0 : Int) < (↑L.length : Int), (0 : Int) ≤ (1 : Int) ∧ (1 : Int) < (↑l.length : Int), Dec ((L.getD (l.getD (Int.toNat (0 : Int)) (0 : Int)).toNat Con.zero).dim == (1 : Int)) true, (0 : Int) ≤ l.getD (Int.toNat (0 : Int)) (0 : Int) ∧ l.getD (Int.toNat (0 : Int)) (0 : Int) < (↑L.length : Int), (0 : Int) ≤ (0 : Int) ∧ (0 : Int) < (↑l.length : Int), Dec ((↑l.length : Int) == (2 : Int)) true] (by kernel_rfl) ⟨?_, ?_, ?_, d3, ?_, ?_, d2, ?_, ?_, d1⟩)
           (fun d3 => rr [true, true, false] [false = badM L l, Dec ((L.getD (l.getD (Int.toNat (1 : Int)) (0 : Int)).toNat Con.zero).dim == (1 : Int)) false, (0 : Int) ≤ l.getD (Int.toNat (1 : Int)) (0 : Int) ∧ l.getD (Int.toNat (1 : Int)) (0 : Int) < (↑L.length : Int), (0 : Int) ≤ (1 : Int) ∧ (1 : Int) < (↑l.length : Int), Dec ((L.getD (l.getD (Int.toNat (0 : Int)) (0 : Int)).toNat Con.zero).dim == (1 : Int)) true, (0 : Int) ≤ l.getD (Int.toNat (0 : Int)) (0 : Int) ∧ l.getD (Int.toNat (0 : Int)) (0 : Int) < (↑L.length : Int), (0 : Int) ≤ (0 : Int) ∧ (0 : Int) < (↑l.length : Int), Dec ((↑l.length : Int) == (2 : Int)) true] (by kernel_rfl) ⟨?_, d3, ?_, ?_, d2, ?_, ?_, d1⟩))
           (fun d2 => rr [true, false] [false = badM L l, Dec ((L.getD (l.getD (Int.toNat (0 : Int)) (0 : Int)).toNat Con.zero).dim == (1 : Int)) false, (0 : Int) ≤ l.getD (Int.toNat (0 : Int)) (0 : Int) ∧ l.getD (Int.toNat (0 : Int)) (0 : Int) < (↑L.length : Int), (0 : Int) ≤ (0 : Int) ∧ (0 : Int) < (↑l.length : Int), Dec ((↑l.length : Int) == (2 : Int)) true] (by kernel_rfl) ⟨?_, d2, ?_, ?_, d1⟩))
           (fun d1 => rr [false] [false = badM L l, Dec ((↑l.length : Int) == (2 : Int)) false] (by kernel_rfl) ⟨?_, d1⟩)
  all_goals first | (first | rfl | exact ⟨rfl, rfl⟩ | decide | (simp only [consR_ro, intsR_ro, beq_iff_eq, beq_eq_false_iff_ne, ne_eq] at * <;> first | omega | exact ⟨fun _ _ => rfl, fun _ _ => rfl, hL, hl, hn⟩ | (have h0 := hl.at (t := 0) (by omega); exact h0) | (have h0 := hl.at (t := 1) (by omega); exact h0) | (rw [Int.tmod_eq_emod_of_nonneg (totM_b L l).1]; have e : l.length = 2 := (by omega); unfold badM; simp [e]; simp_all; done) | (unfold badM; have e : l.length = 2 := (by omega); simp_all; done) | (unfold badM; have e : ¬ l.length = 2 := (by omega); simp [e]; done)))
noncomputable def entsQ : List OEnt := [
  ⟨76, [], fun A => match A with
    | [.sl n 5 row, .int .i64 a] => some (rI .i64 (partM (consR n row) a), [(∀ i, i < n → row i = (Con.ofR (row i)).rvs) ∧ okE (consR n row)])
    | _ => none⟩,
  ⟨151, [], fun A => match A with
    | [.sl n 5 row, .sl m 1 row'] => some (.bool (badM (consR n row) (intsR m row')), [(∀ i, i < n → row i = (Con.ofR (row i)).rvs) ∧ (∀ i, i < m → row' i = [.int .i64 (intR (row' i))]) ∧ okL (consR n row) ∧ inR (consR n row).length (intsR m row') ∧ m ≤ 1000])
    | _ => none⟩]
theorem entsQ_ok : ∀ e ∈ entsQ, EntOk Tryz.prog e := by
  intro e he
  simp only [entsQ, List.mem_cons, List.not_mem_nil, or_false] at he
  rcases he with rfl | rfl
  all_goals
    intro A R ms h hm
    simp only at h
    split at h
    all_goals first | (cases h; done) | cases h
  · obtain ⟨h1, h2⟩ := all_one hm
    exact PureC.imp (partOf_pure _ _ h2) (.cons (.con h1) (.cons .same .nil))
  · obtain ⟨h1, h2, h3, h4, h5⟩ := all_one hm
    exact PureC.imp (bad_pure _ _ h3 h4 (by rw [intsR_len]; exact h5)) (.cons (.con h1) (.cons (.ints h2) .nil))
set_option maxRecDepth 100000 in
theorem linked_pure (L : List Con) (k : Nat) (hL : okL L) (h1 : 1 ≤ k) (h2 : k < L.length) : PureC Tryz.prog [] 109 [roC L, .int .i64 (k : Int)] (.bool (linkM L k)) := by
  have hl := hL.1; have a1 := hL.e.at' k; have a2 := hL.e.at' (k - 1); have em : IntKind.i64.wrap ((k : Int) - 1) = (k : Int) - 1 := w64 (by omega) (by omega); have et : ((k : Int) - 1).toNat = k - 1 := (by omega); have ed : IntKind.i64.wrap ((at_ L k).exp - (at_ L (k - 1)).exp) = (at_ L k).exp - (at_ L (k - 1)).exp := w64 (by omega) (by omega); have hp := partM_ok (L := L) (i := (k : Int))
  have rr := fun (tp : List Bool) (ms : List Prop) h hm => pure_run evOk (callF_ok evOk (orcOf_ok entsQ_ok) 8) Tryz.func109 (A := [roC L, .int .i64 (k : Int)]) rfl none_ann rfl rfl evNg (tabs := []) (R := .bool (linkM L k)) (tp := tp) (ms := ms) h hm
  refine Or.elim (Bool.eq_false_or_eq_true (IntKind.i64.wrap ((L.getD k Con.zero).exp - (L.getD (IntKind.i64.wrap ((↑k : Int) - (1 : Int))).toNat Con.zero).exp) == (1 : Int))) (fun d1 => Or.elim (Bool.eq_false_or_eq_true ((L.getD (IntKind.i64.wrap ((↑k : Int) - (1 : Int))).toNat Con.zero).odd == (L.getD k Con.zero).odd)) (fun d2 => Or.elim (Bool.eq_false_or_eq_true ((L.getD (IntKind.i64.wrap ((↑k : Int) - (1 : Int))).toNat Con.zero).odd)) (fun d3 => rr [true, false, true] [(!badM (consR L.length fun i => (L.getD i Con.zero).rvs) (intsR (partM (consR L.length fun i => (L.getD i Con.zero).rvs) (↑k : Int)).length fun j => [RV.int IntKind.i64 ((partM (consR L.length fun i => (L.getD i Con.zero).rvs) (↑k : Int)).getD j (0 : Int))])) = linkM L k, (∀ (i : Nat), i < L.length → (fun i => (L.getD i Con.zero).rvs) i = (Con.ofR ((fun i => (L.getD i Con.zero).rvs) i)).rvs) ∧ (∀ (i : Nat), i < (partM (consR L.length fun i => (L.getD i Con.zero).rvs) (↑k : Int)).length → (fun j => [RV.int IntKind.i64 ((partM (consR L.length fun i => (L.getD i Con.zero).rvs) (↑k : Int)).getD j (0 : Int))]) i = [RV.int IntKind.i64 (intR ((fun j => [RV.int IntKind.i64 ((partM (consR L.length fun i => (L.getD i Con.zero).rvs) (↑k : Int)).getD j (0 : Int))]) i))]) ∧ okL (consR L.length fun i => (L.getD i Con.zero).rvs) ∧ inR (consR L.length fun i => (L.getD i Con.zero).rvs).length (intsR (partM (consR L.length fun i => (L.getD i Con.zero).rvs) (↑k : Int)).length fun j => [RV.int IntKind.i64 ((partM (consR L.length fun i => (L.getD i Con.zero).rvs) (↑k : Int)).getD j (0 : Int))]) ∧ (partM (consR L.length fun i => (L.getD i Con.zero).rvs) (↑k : Int)).length ≤ (1000 : Nat), (∀ (i : Nat), i < L.length → (fun i => (L.getD i Con.zero).rvs) i = (Con.ofR ((fun i => (L.getD i Con.zero).rvs) i)).rvs) ∧ okE (consR L.length fun i => (L.getD i Con.zero).rvs), Dec (L.getD (IntKind.i64.wrap ((↑k : Int) - (1 : Int))).toNat Con.zero).odd true, Dec (!(L.getD (IntKind.i64.wrap ((↑k : Int) - (1 : Int))).toNat Con.zero).odd == (L.getD k Con.zero).odd) false, Dec (IntKind.i64.wrap ((L.getD k Con.zero).exp - (L.getD (IntKind.i64.wrap ((↑k : Int) - (1 : Int))).toNat Con.zero).exp) == (1 : Int)) true, (L.getD k Con.zero).exp = (L.getD k Con.zero).exp, (L.getD k Con.zero).dim = (L.getD k Con.zero).dim, (L.getD k Con.zero).sign = (L.getD k Con.zero).sign, (L.getD k Con.zero).odd = (L.getD k Con.zero).odd, (L.getD k Con.zero).oddity = (L.getD k Con.zero).oddity, (0 : Int) ≤ (↑k : Int) ∧ (↑k : Int) < (↑L.length : Int), (0 : Int) ≤ IntKind.i64.wrap ((↑k : Int) - (1 : Int)) ∧ IntKind.i64.wrap ((↑k : Int) - (1 : Int)) < (↑L.length : Int)] (by kernel_rfl) ⟨?_, ?_, ?_, d3, (dN d2), d1, ?_, ?_, ?_, ?_, ?_, ?_, (?_ : (0 : Int) ≤ IntKind.i64.wrap ((↑k : Int) - (1 : Int)) ∧ IntKind.i64.wrap ((↑k : Int) - (1 : Int)) < (↑L.length : Int))⟩)
           (fun d3 => rr [true, false, false] [false = linkM L k, Dec (L.getD (IntKind.i64.wrap ((↑k : Int) - (1 : Int))).toNat Con.zero).odd false, Dec (!(L.getD (IntKind.i64.wrap ((↑k : Int) - (1 : Int))).toNat Con.zero).odd == (L.getD k Con.zero).odd) false, Dec (IntKind.i64.wrap ((L.getD k Con.zero).exp - (L.getD (IntKind.i64.wrap ((↑k : Int) - (1 : Int))).toNat Con.zero).exp) == (1 : Int)) true, (L.getD k Con.zero).exp = (L.getD k Con.zero).exp, (L.getD k Con.zero).dim = (L.getD k Con.zero).dim, (L.getD k Con.zero).sign = (L.getD k Con.zero).sign, (L.getD k Con.zero).odd = (L.getD k Con.zero).odd, (L.getD k Con.zero).oddity = (L.getD k Con.zero).oddity, (0 : Int) ≤ (↑k : Int) ∧ (↑k : Int) < (↑L.length : Int), (0 : Int) ≤ IntKind.i64.wrap ((↑k : Int) - (1 : Int)) ∧ IntKind.i64.wrap ((↑k : Int) - (1 : Int)) < (↑L.length : Int)] (by kernel_rfl) ⟨?_, d3, (dN d2), d1, ?_, ?_, ?_, ?_, ?_, ?_, (?_ : (0 : Int) ≤ IntKind.i64.wrap ((↑k : Int) - (1 : Int)) ∧ IntKind.i64.wrap ((↑k : Int) - (1 : Int)) < (↑L.length : Int))⟩))
           (fun d2 => rr [true, true] [true = linkM L k, Dec (!(L.getD (IntKind.i64.wrap ((↑k : Int) - (1 : Int))).toNat Con.zero).odd == (L.getD k Con.zero).odd) true, Dec (IntKind.i64.wrap ((L.getD k Con.zero).exp - (L.getD (IntKind.i64.wrap ((↑k : Int) - (1 : Int))).toNat Con.zero).exp) == (1 : Int)) true, (L.getD k Con.zero).exp = (L.getD k Con.zero).exp, (L.getD k Con.zero).dim = (L.getD k Con.zero).dim, (L.getD k Con.zero).sign = (L.getD k Con.zero).sign, (L.getD k Con.zero).odd = (L.getD k Con.zero).odd, (L.getD k Con.zero).oddity = (L.getD k Con.zero).oddity, (0 : Int) ≤ (↑k : Int) ∧ (↑k : Int) < (↑L.length : Int), (0 : Int) ≤ IntKind.i64.wrap ((↑k : Int) - (1 : Int)) ∧ IntKind.i64.wrap ((↑k : Int) - (1 : Int)) < (↑L.length : Int)] (by kernel_rfl) ⟨?_, (dN d2), d1, ?_, ?_, ?_, ?_, ?_, ?_, (?_ : (0 : Int) ≤ IntKind.i64.wrap ((↑k : Int) - (1 : Int)) ∧ IntKind.i64.wrap ((↑k : Int) - (1 : Int)) < (↑L.length : Int))⟩))
           (fun d1 => Or.elim (Bool.eq_false_or_eq_true (IntKind.i64.wrap ((L.getD k Con.zero).exp - (L.getD (IntKind.i64.wrap ((↑k : Int) - (1 : Int))).toNat Con.zero).exp) == (2 : Int))) (fun d2 => Or.elim (Bool.eq_false_or_eq_true ((L.getD (IntKind.i64.wrap ((↑k : Int) - (1 : Int))).toNat Con.zero).odd)) (fun d3 => rr [false, true, true] [(L.getD k Con.zero).odd = linkM L k, Dec (L.getD (IntKind.i64.wrap ((↑k : Int) - (1 : Int))).toNat Con.zero).odd true, Dec (IntKind.i64.wrap ((L.getD k Con.zero).exp - (L.getD (IntKind.i64.wrap ((↑k : Int) - (1 : Int))).toNat Con.zero).exp) == (2 : Int)) true, Dec (IntKind.i64.wrap ((L.getD k Con.zero).exp - (L.getD (IntKind.i64.wrap ((↑k : Int) - (1 : Int))).toNat Con.zero).exp) == (1 : Int)) false, (L.getD k Con.zero).exp = (L.getD k Con.zero).exp, (L.getD k Con.zero).dim = (L.getD k Con.zero).dim, (L.getD k Con.zero).sign = (L.getD k Con.zero).sign, (L.getD k Con.zero).odd = (L.getD k Con.zero).odd, (L.getD k Con.zero).oddity = (L.getD k Con.zero).oddity, (0 : Int) ≤ (↑k : Int) ∧ (↑k : Int) < (↑L.length : Int), (0 : Int) ≤ IntKind.i64.wrap ((↑k : Int) - (1 : Int)) ∧ IntKind.i64.wrap ((↑k : Int) - (1 : Int)) < (↑L.length : Int)] (by kernel_rfl) ⟨?_, d3, d2, d1, ?_, ?_, ?_, ?_, ?_, ?_, (?_ : (0 : Int) ≤ IntKind.i64.wrap ((↑k : Int) - (1 : Int)) ∧ IntKind.i64.wrap ((↑k : Int) - (1 : Int)) < (↑L.length : Int))⟩)
           (fun d3 => rr [false, true, false] [false = linkM L k, Dec (L.getD (IntKind.i64.wrap ((↑k : Int) - (1 : Int))).toNat Con.zero).odd false, Dec (IntKind.i64.wrap ((L.getD k Con.zero).exp - (L.getD (IntKind.i64.wrap ((↑k : Int) - (1 : Int))).toNat Con.zero).exp) == (2 : Int)) true, Dec (IntKind.i64.wrap ((L.getD k Con.zero).exp - (L.getD (IntKind.i64.wrap ((↑k : Int) - (1 : Int))).toNat Con.zero).exp) == (1 : Int)) false, (L.getD k Con.zero).exp = (L.getD k Con.zero).exp, (L.getD k Con.zero).dim = (L.getD k Con.zero).dim, (L.getD k Con.zero).sign = (L.getD k Con.zero).sign, (L.getD k Con.zero).odd = (L.getD k Con.zero).odd, (L.getD k Con.zero).oddity = (L.getD k Con.zero).oddity, (0 : Int) ≤ (↑k : Int) ∧ (↑k : Int) < (↑L.length : Int), (0 : Int) ≤ IntKind.i64.wrap ((↑k : Int) - (1 : Int)) ∧ IntKind.i64.wrap ((↑k : Int) - (1 : Int)) < (↑L.length : Int)] (by kernel_rfl) ⟨?_, d3, d2, d1, ?_, ?_, ?_, ?_, ?_, ?_, (?_ : (0 : Int) ≤ IntKind.i64.wrap ((↑k : Int) - (1 : Int)) ∧ IntKind.i64.wrap ((↑k : Int) - (1 : Int)) < (↑L.length : Int))⟩))
           (fun d2 => rr [false, false] [false = linkM L k, Dec (IntKind.i64.wrap ((L.getD k Con.zero).exp - (L.getD (IntKind.i64.wrap ((↑k : Int) - (1 : Int))).toNat Con.zero).exp) == (2 : Int)) false, Dec (IntKind.i64.wrap ((L.getD k Con.zero).exp - (L.getD (IntKind.i64.wrap ((↑k : Int) - (1 : Int))).toNat Con.zero).exp) == (1 : Int)) false, (L.getD k Con.zero).exp = (L.getD k Con.zero).exp, (L.getD k Con.zero).dim = (L.getD k Con.zero).dim, (L.getD k Con.zero).sign = (L.getD k Con.zero).sign, (L.getD k Con.zero).odd = (L.getD k Con.zero).odd, (L.getD k Con.zero).oddity = (L.getD k Con.zero).oddity, (0 : Int) ≤ (↑k : Int) ∧ (↑k : Int) < (↑L.length : Int), (0 : Int) ≤ IntKind.i64.wrap ((↑k : Int) - (1 : Int)) ∧ IntKind.i64.wrap ((↑k : Int) - (1 : Int)) < (↑L.length : Int)] (by kernel_rfl) ⟨?_, d2, d1, ?_, ?_, ?_, ?_, ?_, ?_, (?_ : (0 : Int) ≤ IntKind.i64.wrap ((↑k : Int) - (1 : Int)) ∧ IntKind.i64.wrap ((↑k : Int) - (1 : Int)) < (↑L.length : Int))⟩))
  all_goals first | (first | rfl | exact ⟨rfl, rfl⟩ | decide | ((try simp only [at_, em, et, ed, consR_ro, intsR_ro, Int.toNat_natCast] at *) <;> first | rfl | trivial | omega | exact ⟨fun _ _ => rfl, hL.e⟩ | exact ⟨fun _ _ => rfl, fun _ _ => rfl, hL, hp.1, by omega⟩ | (simp only [linkM, at_, *]; done) | (simp_all [linkM]; done)))
end Go.Proofs.YtgdhgnhgmbkpdaaGreatDoor.S

namespace Go.Proofs.YtgdhgnhgmbkpdaaGreatDoor.S
open Go.QfSy Go.RowKit
noncomputable def legalR_v (e d s : Int) (o : Bool) (t : Int) : Bool := (bif decide (e < (0 : Int)) then false else (bif decide (e > (60 : Int)) then false else (bif decide (d < (1 : Int)) then false else (bif decide (d > (8 : Int)) then false else (bif s == (1 : Int) then (bif decide (t < (0 : Int)) then false else (bif decide (t > (7 : Int)) then false else (bif o then (bif (IntKind.i64.wrap (t - d)).tmod (2 : Int) == (0 : Int) then (bif d == (1 : Int) then (bif t == (1 : Int) then true else (t == (7 : Int))) else (bif d == (2 : Int) then (t != (4 : Int)) else true)) else false) else (bif d.tmod (2 : Int) == (0 : Int) then (t == (0 : Int)) else false)))) else (bif s == (-1 : Int) then (bif decide (t < (0 : Int)) then false else (bif decide (t > (7 : Int)) then false else (bif o then (bif (IntKind.i64.wrap (t - d)).tmod (2 : Int) == (0 : Int) then (bif d == (1 : Int) then (bif t == (3 : Int) then true else (t == (5 : Int))) else (bif d == (2 : Int) then (t != (0 : Int)) else true)) else false) else (bif d.tmod (2 : Int) == (0 : Int) then (t == (0 : Int)) else false)))) else false))))))
set_option maxRecDepth 100000 in
theorem legalR (e d s : Int) (o : Bool) (t : Int) : PureC Tryz.prog [] 75 [.agg (Con.mk e d s o t).rvs] (.bool (legalR_v e d s o t)) := by
  have rr := fun (tp : List Bool) (ms : List Prop) h hm => pure_run evOk (callF_ok evOk (noOrc_ok _ _) 8) Tryz.func75 (A := [.agg (Con.mk e d s o t).rvs]) rfl none_ann rfl rfl evNg (tabs := []) (R := .bool (legalR_v e d s o t)) (tp := tp) (ms := ms) h hm
  refine Or.elim (Bool.eq_false_or_eq_true (decide (e < (0 : Int)))) (fun d1 => rr [true] [false = legalR_v e d s o t, Dec (decide (e < (0 : Int))) true] (by kernel_rfl) ⟨(((ct d1).trans rfl) : legalR_v e d s o t = _).symm, d1⟩)
    (fun d1 => Or.elim (Bool.eq_false_or_eq_true (decide (e > (60 : Int)))) (fun d2 => rr [false, true] [false = legalR_v e d s o t, Dec (decide (e > (60 : Int))) true, Dec (decide (e < (0 : Int))) false] (by kernel_rfl) ⟨(((cf d1).trans ((ct d2).trans rfl)) : legalR_v e d s o t = _).symm, d2, d1⟩)
    (fun d2 => Or.elim (Bool.eq_false_or_eq_true (decide (d < (1 : Int)))) (fun d3 => rr [false, false, true] [false = legalR_v e d s o t, Dec (decide (d < (1 : Int))) true, Dec (decide (e > (60 : Int))) false, Dec (decide (e < (0 : Int))) false] (by kernel_rfl) ⟨(((cf d1).trans ((cf d2).trans ((ct d3).trans rfl))) : legalR_v e d s o t = _).symm, d3, d2, d1⟩)
    (fun d3 => Or.elim (Bool.eq_false_or_eq_true (decide (d > (8 : Int)))) (fun d4 => rr [false, false, false, true] [false = legalR_v e d s o t, Dec (decide (d > (8 : Int))) true, Dec (decide (d < (1 : Int))) false, Dec (decide (e > (60 : Int))) false, Dec (decide (e < (0 : Int))) false] (by kernel_rfl) ⟨(((cf d1).trans ((cf d2).trans ((cf d3).trans ((ct d4).trans rfl)))) : legalR_v e d s o t = _).symm, d4, d3, d2, d1⟩)
    (fun d4 => Or.elim (Bool.eq_false_or_eq_true (s == (1 : Int))) (fun d5 => Or.elim (Bool.eq_false_or_eq_true (decide (t < (0 : Int)))) (fun d6 => rr [false, false, false, false, false, true] [false = legalR_v e d s o t, Dec (decide (t < (0 : Int))) true, Dec (s != (1 : Int)) false, Dec (decide (d > (8 : Int))) false, Dec (decide (d < (1 : Int))) false, Dec (decide (e > (60 : Int))) false, Dec (decide (e < (0 : Int))) false] (by kernel_rfl) ⟨(((cf d1).trans ((cf d2).trans ((cf d3).trans ((cf d4).trans ((ct d5).trans ((ct d6).trans rfl)))))) : legalR_v e d s o t = _).symm, d6, (dN d5), d4, d3, d2, d1⟩)
    (fun d6 => Or.elim (Bool.eq_false_or_eq_true (decide (t > (7 : Int)))) (fun d7 => rr [false, false, false, false, false, false, true] [false = legalR_v e d s o t, Dec (decide (t > (7 : Int))) true, Dec (decide (t < (0 : Int))) false, Dec (s != (1 : Int)) false, Dec (decide (d > (8 : Int))) false, Dec (decide (d < (1 : Int))) false, Dec (decide (e > (60 : Int))) false, Dec (decide (e < (0 : Int))) false] (by kernel_rfl) ⟨(((cf d1).trans ((cf d2).trans ((cf d3).trans ((cf d4).trans ((ct d5).trans ((cf d6).trans ((ct d7).trans rfl))))))) : legalR_v e d s o t = _).symm, d7, d6, (dN d5), d4, d3, d2, d1⟩)
    (fun d7 => Or.elim (Bool.eq_false_or_eq_true (o)) (fun d8 => Or.elim (Bool.eq_false_or_eq_true ((IntKind.i64.wrap (t - d)).tmod (2 : Int) == (0 : Int))) (fun d9 => Or.elim (Bool.eq_false_or_eq_true (d == (1 : Int))) (fun d10 => Or.elim (Bool.eq_false_or_eq_true (t == (1 : Int))) (fun d11 => rr [false, false, false, false, false, false, false, false, false, true, true, true] [true = legalR_v e d s o t, Dec (t == (1 : Int)) true, Dec (s == (1 : Int)) true, Dec (d == (1 : Int)) true, Dec ((IntKind.i64.wrap (t - d)).tmod (2 : Int) != (0 : Int)) false, (2 : Int) ≠ (0 : Int), Dec (!o) false, Dec (decide (t > (7 : Int))) false, Dec (decide (t < (0 : Int))) false, Dec (s != (1 : Int)) false, Dec (decide (d > (8 : Int))) false, Dec (decide (d < (1 : Int))) false, Dec (decide (e > (60 : Int))) false, Dec (decide (e < (0 : Int))) false] (by kernel_rfl) ⟨(((cf d1).trans ((cf d2).trans ((cf d3).trans ((cf d4).trans ((ct d5).trans ((cf d6).trans ((cf d7).trans ((ct d8).trans ((ct d9).trans ((ct d10).trans ((ct d11).trans rfl))))))))))) : legalR_v e d s o t = _).symm, d11, d5, d10, (dN d9), ?_, (dN d8), d7, d6, (dN d5), d4, d3, d2, d1⟩)
    (fun d11 => rr [false, false, false, false, false, false, false, false, false, true, true, false] [(t == (7 : Int)) = legalR_v e d s o t, Dec (t == (1 : Int)) false, Dec (s == (1 : Int)) true, Dec (d == (1 : Int)) true, Dec ((IntKind.i64.wrap (t - d)).tmod (2 : Int) != (0 : Int)) false, (2 : Int) ≠ (0 : Int), Dec (!o) false, Dec (decide (t > (7 : Int))) false, Dec (decide (t < (0 : Int))) false, Dec (s != (1 : Int)) false, Dec (decide (d > (8 : Int))) false, Dec (decide (d < (1 : Int))) false, Dec (decide (e > (60 : Int))) false, Dec (decide (e < (0 : Int))) false] (by kernel_rfl) ⟨(((cf d1).trans ((cf d2).trans ((cf d3).trans ((cf d4).trans ((ct d5).trans ((cf d6).trans ((cf d7).trans ((ct d8).trans ((ct d9).trans ((ct d10).trans ((cf d11).trans rfl))))))))))) : legalR_v e d s o t = _).symm, d11, d5, d10, (dN d9), ?_, (dN d8), d7, d6, (dN d5), d4, d3, d2, d1⟩))
    (fun d10 => Or.elim (Bool.eq_false_or_eq_true (d == (2 : Int))) (fun d11 => rr [false, false, false, false, false, false, false, false, false, false, false, true, true] [(t != (4 : Int)) = legalR_v e d s o t, Dec (s == (1 : Int)) true, Dec (d == (2 : Int)) true, Dec (d == (1 : Int)) false, Dec (d == (1 : Int)) false, Dec ((IntKind.i64.wrap (t - d)).tmod (2 : Int) != (0 : Int)) false, (2 : Int) ≠ (0 : Int), Dec (!o) false, Dec (decide (t > (7 : Int))) false, Dec (decide (t < (0 : Int))) false, Dec (s != (1 : Int)) false, Dec (decide (d > (8 : Int))) false, Dec (decide (d < (1 : Int))) false, Dec (decide (e > (60 : Int))) false, Dec (decide (e < (0 : Int))) false] (by kernel_rfl) ⟨(((cf d1).trans ((cf d2).trans ((cf d3).trans ((cf d4).trans ((ct d5).trans ((cf d6).trans ((cf d7).trans ((ct d8).trans ((ct d9).trans ((cf d10).trans ((ct d11).trans rfl))))))))))) : legalR_v e d s o t = _).symm, d5, d11, d10, d10, (dN d9), ?_, (dN d8), d7, d6, (dN d5), d4, d3, d2, d1⟩)
    (fun d11 => rr [false, false, false, false, false, false, false, false, false, false, false, false, false] [true = legalR_v e d s o t, Dec (d == (2 : Int)) false, Dec (d == (2 : Int)) false, Dec (d == (1 : Int)) false, Dec (d == (1 : Int)) false, Dec ((IntKind.i64.wrap (t - d)).tmod (2 : Int) != (0 : Int)) false, (2 : Int) ≠ (0 : Int), Dec (!o) false, Dec (decide (t > (7 : Int))) false, Dec (decide (t < (0 : Int))) false, Dec (s != (1 : Int)) false, Dec (decide (d > (8 : Int))) false, Dec (decide (d < (1 : Int))) false, Dec (decide (e > (60 : Int))) false, Dec (decide (e < (0 : Int))) false] (by kernel_rfl) ⟨(((cf d1).trans ((cf d2).trans ((cf d3).trans ((cf d4).trans ((ct d5).trans ((cf d6).trans ((cf d7).trans ((ct d8).trans ((ct d9).trans ((cf d10).trans ((cf d11).trans rfl))))))))))) : legalR_v e d s o t = _).symm, d11, d11, d10, d10, (dN d9), ?_, (dN d8), d7, d6, (dN d5), d4, d3, d2, d1⟩)))
    (fun d9 => rr [false, false, false, false, false, false, false, false, true] [false = legalR_v e d s o t, Dec ((IntKind.i64.wrap (t - d)).tmod (2 : Int) != (0 : Int)) true, (2 : Int) ≠ (0 : Int), Dec (!o) false, Dec (decide (t > (7 : Int))) false, Dec (decide (t < (0 : Int))) false, Dec (s != (1 : Int)) false, Dec (decide (d > (8 : Int))) false, Dec (decide (d < (1 : Int))) false, Dec (decide (e > (60 : Int))) false, Dec (decide (e < (0 : Int))) false] (by kernel_rfl) ⟨(((cf d1).trans ((cf d2).trans ((cf d3).trans ((cf d4).trans ((ct d5).trans ((cf d6).trans ((cf d7).trans ((ct d8).trans ((cf d9).trans rfl))))))))) : legalR_v e d s o t = _).symm, (dN d9), ?_, (dN d8), d7, d6, (dN d5), d4, d3, d2, d1⟩))
    (fun d8 => Or.elim (Bool.eq_false_or_eq_true (d.tmod (2 : Int) == (0 : Int))) (fun d9 => rr [false, false, false, false, false, false, false, true, true] [(t == (0 : Int)) = legalR_v e d s o t, Dec (d.tmod (2 : Int) == (0 : Int)) true, (2 : Int) ≠ (0 : Int), Dec (!o) true, Dec (decide (t > (7 : Int))) false, Dec (decide (t < (0 : Int))) false, Dec (s != (1 : Int)) false, Dec (decide (d > (8 : Int))) false, Dec (decide (d < (1 : Int))) false, Dec (decide (e > (60 : Int))) false, Dec (decide (e < (0 : Int))) false] (by kernel_rfl) ⟨(((cf d1).trans ((cf d2).trans ((cf d3).trans ((cf d4).trans ((ct d5).trans ((cf d6).trans ((cf d7).trans ((cf d8).trans ((ct d9).trans rfl))))))))) : legalR_v e d s o t = _).symm, d9, ?_, (dN d8), d7, d6, (dN d5), d4, d3, d2, d1⟩)
    (fun d9 => rr [false, false, false, false, false, false, false, true, false] [false = legalR_v e d s o t, Dec (d.tmod (2 : Int) == (0 : Int)) false, (2 : Int) ≠ (0 : Int), Dec (!o) true, Dec (decide (t > (7 : Int))) false, Dec (decide (t < (0 : Int))) false, Dec (s != (1 : Int)) false, Dec (decide (d > (8 : Int))) false, Dec (decide (d < (1 : Int))) false, Dec (decide (e > (60 : Int))) false, Dec (decide (e < (0 : Int))) false] (by kernel_rfl) ⟨(((cf d1).trans ((cf d2).trans ((cf d3).trans ((cf d4).trans ((ct d5).trans ((cf d6).trans ((cf d7).trans ((cf d8).trans ((cf d9).trans rfl))))))))) : legalR_v e d s o t = _).symm, d9, ?_, (dN d8), d7, d6, (dN d5), d4, d3, d2, d1⟩)))))
    (fun d5 => Or.elim (Bool.eq_false_or_eq_true (s == (-1 : Int))) (fun d6 => Or.elim (Bool.eq_false_or_eq_true (decide (t < (0 : Int)))) (fun d7 => rr [false, false, false, false, true, false, true] [false = legalR_v e d s o t, Dec (decide (t < (0 : Int))) true, Dec (s != (-1 : Int)) false, Dec (s != (1 : Int)) true, Dec (decide (d > (8 : Int))) false, Dec (decide (d < (1 : Int))) false, Dec (decide (e > (60 : Int))) false, Dec (decide (e < (0 : Int))) false] (by kernel_rfl) ⟨(((cf d1).trans ((cf d2).trans ((cf d3).trans ((cf d4).trans ((cf d5).trans ((ct d6).trans ((ct d7).trans rfl))))))) : legalR_v e d s o t = _).symm, d7, (dN d6), (dN d5), d4, d3, d2, d1⟩)
    (fun d7 => Or.elim (Bool.eq_false_or_eq_true (decide (t > (7 : Int)))) (fun d8 => rr [false, false, false, false, true, false, false, true] [false = legalR_v e d s o t, Dec (decide (t > (7 : Int))) true, Dec (decide (t < (0 : Int))) false, Dec (s != (-1 : Int)) false, Dec (s != (1 : Int)) true, Dec (decide (d > (8 : Int))) false, Dec (decide (d < (1 : Int))) false, Dec (decide (e > (60 : Int))) false, Dec (decide (e < (0 : Int))) false] (by kernel_rfl) ⟨(((cf d1).trans ((cf d2).trans ((cf d3).trans ((cf d4).trans ((cf d5).trans ((ct d6).trans ((cf d7).trans ((ct d8).trans rfl)))))))) : legalR_v e d s o t = _).symm, d8, d7, (dN d6), (dN d5), d4, d3, d2, d1⟩)
    (fun d8 => Or.elim (Bool.eq_false_or_eq_true (o)) (fun d9 => Or.elim (Bool.eq_false_or_eq_true ((IntKind.i64.wrap (t - d)).tmod (2 : Int) == (0 : Int))) (fun d10 => Or.elim (Bool.eq_false_or_eq_true (d == (1 : Int))) (fun d11 => Or.elim (Bool.eq_false_or_eq_true (t == (3 : Int))) (fun d12 => rr [false, false, false, false, true, false, false, false, false, false, true, false, true, true] [true = legalR_v e d s o t, Dec (t == (3 : Int)) true, Dec (d == (1 : Int)) true, Dec (s == (1 : Int)) false, Dec (d == (1 : Int)) true, Dec ((IntKind.i64.wrap (t - d)).tmod (2 : Int) != (0 : Int)) false, (2 : Int) ≠ (0 : Int), Dec (!o) false, Dec (decide (t > (7 : Int))) false, Dec (decide (t < (0 : Int))) false, Dec (s != (-1 : Int)) false, Dec (s != (1 : Int)) true, Dec (decide (d > (8 : Int))) false, Dec (decide (d < (1 : Int))) false, Dec (decide (e > (60 : Int))) false, Dec (decide (e < (0 : Int))) false] (by kernel_rfl) ⟨(((cf d1).trans ((cf d2).trans ((cf d3).trans ((cf d4).trans ((cf d5).trans ((ct d6).trans ((cf d7).trans ((cf d8).trans ((ct d9).trans ((ct d10).trans ((ct d11).trans ((ct d12).trans rfl)))))))))))) : legalR_v e d s o t = _).symm, d12, d11, d5, d11, (dN d10), ?_, (dN d9), d8, d7, (dN d6), (dN d5), d4, d3, d2, d1⟩)
    (fun d12 => rr [false, false, false, false, true, false, false, false, false, false, true, false, true, false] [(t == (5 : Int)) = legalR_v e d s o t, Dec (t == (3 : Int)) false, Dec (d == (1 : Int)) true, Dec (s == (1 : Int)) false, Dec (d == (1 : Int)) true, Dec ((IntKind.i64.wrap (t - d)).tmod (2 : Int) != (0 : Int)) false, (2 : Int) ≠ (0 : Int), Dec (!o) false, Dec (decide (t > (7 : Int))) false, Dec (decide (t < (0 : Int))) false, Dec (s != (-1 : Int)) false, Dec (s != (1 : Int)) true, Dec (decide (d > (8 : Int))) false, Dec (decide (d < (1 : Int))) false, Dec (decide (e > (60 : Int))) false, Dec (decide (e < (0 : Int))) false] (by kernel_rfl) ⟨(((cf d1).trans ((cf d2).trans ((cf d3).trans ((cf d4).trans ((cf d5).trans ((ct d6).trans ((cf d7).trans ((cf d8).trans ((ct d9).trans ((ct d10).trans ((ct d11).trans ((cf d12).trans rfl)))))))))))) : legalR_v e d s o t = _).symm, d12, d11, d5, d11, (dN d10), ?_, (dN d9), d8, d7, (dN d6), (dN d5), d4, d3, d2, d1⟩))
    (fun d11 => Or.elim (Bool.eq_false_or_eq_true (d == (2 : Int))) (fun d12 => rr [false, false, false, false, true, false, false, false, false, false, false, false, true, false, true] [(t != (0 : Int)) = legalR_v e d s o t, Dec (d == (2 : Int)) true, Dec (s == (1 : Int)) false, Dec (d == (2 : Int)) true, Dec (d == (1 : Int)) false, Dec (d == (1 : Int)) false, Dec ((IntKind.i64.wrap (t - d)).tmod (2 : Int) != (0 : Int)) false, (2 : Int) ≠ (0 : Int), Dec (!o) false, Dec (decide (t > (7 : Int))) false, Dec (decide (t < (0 : Int))) false, Dec (s != (-1 : Int)) false, Dec (s != (1 : Int)) true, Dec (decide (d > (8 : Int))) false, Dec (decide (d < (1 : Int))) false, Dec (decide (e > (60 : Int))) false, Dec (decide (e < (0 : Int))) false] (by kernel_rfl) ⟨(((cf d1).trans ((cf d2).trans ((cf d3).trans ((cf d4).trans ((cf d5).trans ((ct d6).trans ((cf d7).trans ((cf d8).trans ((ct d9).trans ((ct d10).trans ((cf d11).trans ((ct d12).trans rfl)))))))))))) : legalR_v e d s o t = _).symm, d12, d5, d12, d11, d11, (dN d10), ?_, (dN d9), d8, d7, (dN d6), (dN d5), d4, d3, d2, d1⟩)
    (fun d12 => rr [false, false, false, false, true, false, false, false, false, false, false, false, false, false] [true = legalR_v e d s o t, Dec (d == (2 : Int)) false, Dec (d == (2 : Int)) false, Dec (d == (1 : Int)) false, Dec (d == (1 : Int)) false, Dec ((IntKind.i64.wrap (t - d)).tmod (2 : Int) != (0 : Int)) false, (2 : Int) ≠ (0 : Int), Dec (!o) false, Dec (decide (t > (7 : Int))) false, Dec (decide (t < (0 : Int))) false, Dec (s != (-1 : Int)) false, Dec (s != (1 : Int)) true, Dec (decide (d > (8 : Int))) false, Dec (decide (d < (1 : Int))) false, Dec (decide (e > (60 : Int))) false, Dec (decide (e < (0 : Int))) false] (by kernel_rfl) ⟨(((cf d1).trans ((cf d2).trans ((cf d3).trans ((cf d4).trans ((cf d5).trans ((ct d6).trans ((cf d7).trans ((cf d8).trans ((ct d9).trans ((ct d10).trans ((cf d11).trans ((cf d12).trans rfl)))))))))))) : legalR_v e d s o t = _).symm, d12, d12, d11, d11, (dN d10), ?_, (dN d9), d8, d7, (dN d6), (dN d5), d4, d3, d2, d1⟩)))
    (fun d10 => rr [false, false, false, false, true, false, false, false, false, true] [false = legalR_v e d s o t, Dec ((IntKind.i64.wrap (t - d)).tmod (2 : Int) != (0 : Int)) true, (2 : Int) ≠ (0 : Int), Dec (!o) false, Dec (decide (t > (7 : Int))) false, Dec (decide (t < (0 : Int))) false, Dec (s != (-1 : Int)) false, Dec (s != (1 : Int)) true, Dec (decide (d > (8 : Int))) false, Dec (decide (d < (1 : Int))) false, Dec (decide (e > (60 : Int))) false, Dec (decide (e < (0 : Int))) false] (by kernel_rfl) ⟨(((cf d1).trans ((cf d2).trans ((cf d3).trans ((cf d4).trans ((cf d5).trans ((ct d6).trans ((cf d7).trans ((cf d8).trans ((ct d9).trans ((cf d10).trans rfl)))))))))) : legalR_v e d s o t = _).symm, (dN d10), ?_, (dN d9), d8, d7, (dN d6), (dN d5), d4, d3, d2, d1⟩))
    (fun d9 => Or.elim (Bool.eq_false_or_eq_true (d.tmod (2 : Int) == (0 : Int))) (fun d10 => rr [false, false, false, false, true, false, false, false, true, true] [(t == (0 : Int)) = legalR_v e d s o t, Dec (d.tmod (2 : Int) == (0 : Int)) true, (2 : Int) ≠ (0 : Int), Dec (!o) true, Dec (decide (t > (7 : Int))) false, Dec (decide (t < (0 : Int))) false, Dec (s != (-1 : Int)) false, Dec (s != (1 : Int)) true, Dec (decide (d > (8 : Int))) false, Dec (decide (d < (1 : Int))) false, Dec (decide (e > (60 : Int))) false, Dec (decide (e < (0 : Int))) false] (by kernel_rfl) ⟨(((cf d1).trans ((cf d2).trans ((cf d3).trans ((cf d4).trans ((cf d5).trans ((ct d6).trans ((cf d7).trans ((cf d8).trans ((cf d9).trans ((ct d10).trans rfl)))))))))) : legalR_v e d s o t = _).symm, d10, ?_, (dN d9), d8, d7, (dN d6), (dN d5), d4, d3, d2, d1⟩)
    (fun d10 => rr [false, false, false, false, true, false, false, false, true, false] [false = legalR_v e d s o t, Dec (d.tmod (2 : Int) == (0 : Int)) false, (2 : Int) ≠ (0 : Int), Dec (!o) true, Dec (decide (t > (7 : Int))) false, Dec (decide (t < (0 : Int))) false, Dec (s != (-1 : Int)) false, Dec (s != (1 : Int)) true, Dec (decide (d > (8 : Int))) false, Dec (decide (d < (1 : Int))) false, Dec (decide (e > (60 : Int))) false, Dec (decide (e < (0 : Int))) false] (by kernel_rfl) ⟨(((cf d1).trans ((cf d2).trans ((cf d3).trans ((cf d4).trans ((cf d5).trans ((ct d6).trans ((cf d7).trans ((cf d8).trans ((cf d9).trans ((cf d10).trans rfl)))))))))) : legalR_v e d s o t = _).symm, d10, ?_, (dN d9), d8, d7, (dN d6), (dN d5), d4, d3, d2, d1⟩)))))
    (fun d6 => rr [false, false, false, false, true, true] [false = legalR_v e d s o t, Dec (s != (-1 : Int)) true, Dec (s != (1 : Int)) true, Dec (decide (d > (8 : Int))) false, Dec (decide (d < (1 : Int))) false, Dec (decide (e > (60 : Int))) false, Dec (decide (e < (0 : Int))) false] (by kernel_rfl) ⟨(((cf d1).trans ((cf d2).trans ((cf d3).trans ((cf d4).trans ((cf d5).trans ((cf d6).trans rfl)))))) : legalR_v e d s o t = _).symm, (dN d6), (dN d5), d4, d3, d2, d1⟩))))))
  all_goals first | (decide)
end Go.Proofs.YtgdhgnhgmbkpdaaGreatDoor.S

namespace Go.Proofs.YtgdhgnhgmbkpdaaGreatDoor.S
open Go.QfSy Go.RowKit
def orderA (L : List Con) : Ann := ⟨⟨[(0, (roC L).av), (3, .int .i64 0), (6, (roC L).av), (7, .vint .i64 L.length), (8, .int .i64 0)], [], 1000⟩, some (ordL L (-1) 0), fun d => match d with
  | true => (.exit 0, ⟨[(3, .vint .i64 (dimS L))], [], 1000⟩)
  | false => (.ret, ⟨[(2, .bool false)], [], 1000⟩)⟩
set_option maxRecDepth 100000 in
theorem order_loop (L : List Con) (hn : L.length ≤ 1000000) : AnnOk Tryz.prog EV.ng (Nat.max 1 Tryz.f58.ntmps) (bodyAt Tryz.f58 [0, 1, 0, 1, 1]) (orderA L) := by
  refine ann_of evOk (callF_ok evOk (noOrc_ok _ _) 8) none_ann (by kernel_rfl) (by kernel_rfl) (fun i : Nat × Int => (fun (k : Nat) (s : Int) => (⟨[(0, (roC L).av), (3, .vint .i64 s), (6, (roC L).av), (7, .vint .i64 L.length), (8, .vint .i64 (k : Int))], [], 1000⟩ : St)) i.1 i.2) (fun i : Nat × Int => (fun (k : Nat) (s : Int) => (L.length - k : Nat)) i.1 i.2) (fun (d : Bool) (i : Nat × Int) => (fun (k : Nat) (s : Int) => (k ≤ L.length ∧ 0 ≤ s ∧ s ≤ 8 ∧ s = dimS (L.take k) ∧ ordL (L.drop k) (lastO L k) s = d : Prop)) i.1 i.2) ?_ ?_
  · intro d hd
    exact ⟨(0, 0), [L.length = L.length ∧ (fun i => (L.getD i Con.zero).rvs) = fun i => (L.getD i Con.zero).rvs, (0 : Int) = (0 : Int), L.length = L.length ∧ (fun i => (L.getD i Con.zero).rvs) = fun i => (L.getD i Con.zero).rvs, (↑L.length : Int) = (↑L.length : Int), (0 : Int) = (↑(0 : Nat) : Int)], by kernel_rfl, (by refine ⟨?_, ?_, ?_, ?_, (?_ : (0 : Int) = (↑(0 : Nat) : Int))⟩ <;> (first | rfl | assumption | omega | simp_all)), (by exact ⟨Nat.zero_le _, by decide, by decide, rfl, hd⟩)⟩
  · rintro d hd ⟨k, s⟩ hI
    cases d
    · -- d = false
      obtain ⟨hk, hs0, hs8, hsum, hord⟩ := hI
      have e8 : IntKind.i64.wrap ((8 : Int) - s) = 8 - s := w64 (by omega) (by omega)
      have ek : IntKind.i64.wrap ((k : Int) + 1) = ((k + 1 : Nat) : Int) := by rw [w64 (by omega) (by omega)]; omega
      have em : IntKind.i64.wrap ((k : Int) - 1) = (k : Int) - 1 := w64 (by omega) (by omega)
      have et : ((k : Int) - 1).toNat = k - 1 := by omega
      have hiff := @okO_iff L k s
      refine Or.elim (Bool.eq_false_or_eq_true (decide ((↑k : Int) < (↑L.length : Int)))) (fun d1 => Or.elim (Bool.eq_false_or_eq_true (decide ((L.getD k Con.zero).exp < (0 : Int)))) (fun d2 => ⟨[true, true], .inr ⟨[Dec (decide ((L.getD k Con.zero).exp < (0 : Int))) true, (0 : Int) ≤ (↑k : Int) ∧ (↑k : Int) < (↑L.length : Int), Dec (decide ((↑k : Int) < (↑L.length : Int))) true], by kernel_rfl, ⟨d2, ?_, d1⟩, rfl⟩⟩)
           (fun d2 => Or.elim (Bool.eq_false_or_eq_true (decide ((L.getD k Con.zero).exp > (60 : Int)))) (fun d3 => ⟨[true, false, true], .inr ⟨[Dec (decide ((L.getD k Con.zero).exp > (60 : Int))) true, Dec (decide ((L.getD k Con.zero).exp < (0 : Int))) false, (0 : Int) ≤ (↑k : Int) ∧ (↑k : Int) < (↑L.length : Int), Dec (decide ((↑k : Int) < (↑L.length : Int))) true], by kernel_rfl, ⟨d3, d2, ?_, d1⟩, rfl⟩⟩)
           (fun d3 => Or.elim (Bool.eq_false_or_eq_true (decide ((↑k : Int) > (0 : Int)))) (fun d4 => Or.elim (Bool.eq_false_or_eq_true (decide ((L.getD k Con.zero).exp ≤ (L.getD (IntKind.i64.wrap ((↑k : Int) - (1 : Int))).toNat Con.zero).exp))) (fun d5 => ⟨[true, false, false, true, true], .inr ⟨[Dec (decide ((L.getD k Con.zero).exp ≤ (L.getD (IntKind.i64.wrap ((↑k : Int) - (1 : Int))).toNat Con.zero).exp)) true, (0 : Int) ≤ IntKind.i64.wrap ((↑k : Int) - (1 : Int)) ∧ IntKind.i64.wrap ((↑k : Int) - (1 : Int)) < (↑L.length : Int), Dec (decide ((↑k : Int) > (0 : Int))) true, Dec (decide ((L.getD k Con.zero).exp > (60 : Int))) false, Dec (decide ((L.getD k Con.zero).exp < (0 : Int))) false, (0 : Int) ≤ (↑k : Int) ∧ (↑k : Int) < (↑L.length : Int), Dec (decide ((↑k : Int) < (↑L.length : Int))) true], by kernel_rfl, ⟨d5, ?_, d4, d3, d2, ?_, d1⟩, rfl⟩⟩)
           (fun d5 => Or.elim (Bool.eq_false_or_eq_true ((L.getD k Con.zero).sign == (1 : Int))) (fun d6 => Or.elim (Bool.eq_false_or_eq_true (decide ((L.getD k Con.zero).dim < (1 : Int)))) (fun d7 => ⟨[true, false, false, true, false, false, true], .inr ⟨[Dec (decide ((L.getD k Con.zero).dim < (1 : Int))) true, Dec ((L.getD k Con.zero).sign != (1 : Int)) false, Dec (decide ((L.getD k Con.zero).exp ≤ (L.getD (IntKind.i64.wrap ((↑k : Int) - (1 : Int))).toNat Con.zero).exp)) false, (0 : Int) ≤ IntKind.i64.wrap ((↑k : Int) - (1 : Int)) ∧ IntKind.i64.wrap ((↑k : Int) - (1 : Int)) < (↑L.length : Int), Dec (decide ((↑k : Int) > (0 : Int))) true, Dec (decide ((L.getD k Con.zero).exp > (60 : Int))) false, Dec (decide ((L.getD k Con.zero).exp < (0 : Int))) false, (0 : Int) ≤ (↑k : Int) ∧ (↑k : Int) < (↑L.length : Int), Dec (decide ((↑k : Int) < (↑L.length : Int))) true], by kernel_rfl, ⟨d7, (dN d6), d5, ?_, d4, d3, d2, ?_, d1⟩, rfl⟩⟩)
           (fun d7 => Or.elim (Bool.eq_false_or_eq_true (decide ((L.getD k Con.zero).dim > IntKind.i64.wrap ((8 : Int) - s)))) (fun d8 => ⟨[true, false, false, true, false, false, false, true], .inr ⟨[Dec (decide ((L.getD k Con.zero).dim > IntKind.i64.wrap ((8 : Int) - s))) true, Dec (decide ((L.getD k Con.zero).dim < (1 : Int))) false, Dec ((L.getD k Con.zero).sign != (1 : Int)) false, Dec (decide ((L.getD k Con.zero).exp ≤ (L.getD (IntKind.i64.wrap ((↑k : Int) - (1 : Int))).toNat Con.zero).exp)) false, (0 : Int) ≤ IntKind.i64.wrap ((↑k : Int) - (1 : Int)) ∧ IntKind.i64.wrap ((↑k : Int) - (1 : Int)) < (↑L.length : Int), Dec (decide ((↑k : Int) > (0 : Int))) true, Dec (decide ((L.getD k Con.zero).exp > (60 : Int))) false, Dec (decide ((L.getD k Con.zero).exp < (0 : Int))) false, (0 : Int) ≤ (↑k : Int) ∧ (↑k : Int) < (↑L.length : Int), Dec (decide ((↑k : Int) < (↑L.length : Int))) true], by kernel_rfl, ⟨d8, d7, (dN d6), d5, ?_, d4, d3, d2, ?_, d1⟩, rfl⟩⟩)
           (fun d8 => ⟨[true, false, false, true, false, false, false, false], .inl ⟨(k + 1, s + (at_ L k).dim), [L.length = L.length ∧ (fun i => (L.getD i Con.zero).rvs) = fun i => (L.getD i Con.zero).rvs, IntKind.i64.wrap (s + (L.getD k Con.zero).dim) = s + (at_ L k).dim, L.length = L.length ∧ (fun i => (L.getD i Con.zero).rvs) = fun i => (L.getD i Con.zero).rvs, (↑L.length : Int) = (↑L.length : Int), IntKind.i64.wrap ((↑k : Int) + (1 : Int)) = (↑(k + (1 : Nat)) : Int), Dec (decide ((L.getD k Con.zero).dim > IntKind.i64.wrap ((8 : Int) - s))) false, Dec (decide ((L.getD k Con.zero).dim < (1 : Int))) false, Dec ((L.getD k Con.zero).sign != (1 : Int)) false, Dec (decide ((L.getD k Con.zero).exp ≤ (L.getD (IntKind.i64.wrap ((↑k : Int) - (1 : Int))).toNat Con.zero).exp)) false, (0 : Int) ≤ IntKind.i64.wrap ((↑k : Int) - (1 : Int)) ∧ IntKind.i64.wrap ((↑k : Int) - (1 : Int)) < (↑L.length : Int), Dec (decide ((↑k : Int) > (0 : Int))) true, Dec (decide ((L.getD k Con.zero).exp > (60 : Int))) false, Dec (decide ((L.getD k Con.zero).exp < (0 : Int))) false, (0 : Int) ≤ (↑k : Int) ∧ (↑k : Int) < (↑L.length : Int), Dec (decide ((↑k : Int) < (↑L.length : Int))) true], by kernel_rfl, ⟨?_, ?_, ?_, ?_, ?_, d8, d7, (dN d6), d5, ?_, d4, d3, d2, ?_, d1⟩, MuG.out ?_, InG.out ?_⟩⟩)))
           (fun d6 => Or.elim (Bool.eq_false_or_eq_true ((L.getD k Con.zero).sign == (-1 : Int))) (fun d7 => Or.elim (Bool.eq_false_or_eq_true (decide ((L.getD k Con.zero).dim < (1 : Int)))) (fun d8 => ⟨[true, false, false, true, false, true, false, true], .inr ⟨[Dec (decide ((L.getD k Con.zero).dim < (1 : Int))) true, Dec ((L.getD k Con.zero).sign != (-1 : Int)) false, Dec ((L.getD k Con.zero).sign != (1 : Int)) true, Dec (decide ((L.getD k Con.zero).exp ≤ (L.getD (IntKind.i64.wrap ((↑k : Int) - (1 : Int))).toNat Con.zero).exp)) false, (0 : Int) ≤ IntKind.i64.wrap ((↑k : Int) - (1 : Int)) ∧ IntKind.i64.wrap ((↑k : Int) - (1 : Int)) < (↑L.length : Int), Dec (decide ((↑k : Int) > (0 : Int))) true, Dec (decide ((L.getD k Con.zero).exp > (60 : Int))) false, Dec (decide ((L.getD k Con.zero).exp < (0 : Int))) false, (0 : Int) ≤ (↑k : Int) ∧ (↑k : Int) < (↑L.length : Int), Dec (decide ((↑k : Int) < (↑L.length : Int))) true], by kernel_rfl, ⟨d8, (dN d7), (dN d6), d5, ?_, d4, d3, d2, ?_, d1⟩, rfl⟩⟩)
           (fun d8 => Or.elim (Bool.eq_false_or_eq_true (decide ((L.getD k Con.zero).dim > IntKind.i64.wrap ((8 : Int) - s)))) (fun d9 => ⟨[true, false, false, true, false, true, false, false, true], .inr ⟨[Dec (decide ((L.getD k Con.zero).dim > IntKind.i64.wrap ((8 : Int) - s))) true, Dec (decide ((L.getD k Con.zero).dim < (1 : Int))) false, Dec ((L.getD k Con.zero).sign != (-1 : Int)) false, Dec ((L.getD k Con.zero).sign != (1 : Int)) true, Dec (decide ((L.getD k Con.zero).exp ≤ (L.getD (IntKind.i64.wrap ((↑k : Int) - (1 : Int))).toNat Con.zero).exp)) false, (0 : Int) ≤ IntKind.i64.wrap ((↑k : Int) - (1 : Int)) ∧ IntKind.i64.wrap ((↑k : Int) - (1 : Int)) < (↑L.length : Int), Dec (decide ((↑k : Int) > (0 : Int))) true, Dec (decide ((L.getD k Con.zero).exp > (60 : Int))) false, Dec (decide ((L.getD k Con.zero).exp < (0 : Int))) false, (0 : Int) ≤ (↑k : Int) ∧ (↑k : Int) < (↑L.length : Int), Dec (decide ((↑k : Int) < (↑L.length : Int))) true], by kernel_rfl, ⟨d9, d8, (dN d7), (dN d6), d5, ?_, d4, d3, d2, ?_, d1⟩, rfl⟩⟩)
           (fun d9 => ⟨[true, false, false, true, false, true, false, false, false], .inl ⟨(k + 1, s + (at_ L k).dim), [L.length = L.length ∧ (fun i => (L.getD i Con.zero).rvs) = fun i => (L.getD i Con.zero).rvs, IntKind.i64.wrap (s + (L.getD k Con.zero).dim) = s + (at_ L k).dim, L.length = L.length ∧ (fun i => (L.getD i Con.zero).rvs) = fun i => (L.getD i Con.zero).rvs, (↑L.length : Int) = (↑L.length : Int), IntKind.i64.wrap ((↑k : Int) + (1 : Int)) = (↑(k + (1 : Nat)) : Int), Dec (decide ((L.getD k Con.zero).dim > IntKind.i64.wrap ((8 : Int) - s))) false, Dec (decide ((L.getD k Con.zero).dim < (1 : Int))) false, Dec ((L.getD k Con.zero).sign != (-1 : Int)) false, Dec ((L.getD k Con.zero).sign != (1 : Int)) true, Dec (decide ((L.getD k Con.zero).exp ≤ (L.getD (IntKind.i64.wrap ((↑k : Int) - (1 : Int))).toNat Con.zero).exp)) false, (0 : Int) ≤ IntKind.i64.wrap ((↑k : Int) - (1 : Int)) ∧ IntKind.i64.wrap ((↑k : Int) - (1 : Int)) < (↑L.length : Int), Dec (decide ((↑k : Int) > (0 : Int))) true, Dec (decide ((L.getD k Con.zero).exp > (60 : Int))) false, Dec (decide ((L.getD k Con.zero).exp < (0 : Int))) false, (0 : Int) ≤ (↑k : Int) ∧ (↑k : Int) < (↑L.length : Int), Dec (decide ((↑k : Int) < (↑L.length : Int))) true], by kernel_rfl, ⟨?_, ?_, ?_, ?_, ?_, d9, d8, (dN d7), (dN d6), d5, ?_, d4, d3, d2, ?_, d1⟩, MuG.out ?_, InG.out ?_⟩⟩)))
           (fun d7 => ⟨[true, false, false, true, false, true, true], .inr ⟨[Dec ((L.getD k Con.zero).sign != (-1 : Int)) true, Dec ((L.getD k Con.zero).sign != (1 : Int)) true, Dec (decide ((L.getD k Con.zero).exp ≤ (L.getD (IntKind.i64.wrap ((↑k : Int) - (1 : Int))).toNat Con.zero).exp)) false, (0 : Int) ≤ IntKind.i64.wrap ((↑k : Int) - (1 : Int)) ∧ IntKind.i64.wrap ((↑k : Int) - (1 : Int)) < (↑L.length : Int), Dec (decide ((↑k : Int) > (0 : Int))) true, Dec (decide ((L.getD k Con.zero).exp > (60 : Int))) false, Dec (decide ((L.getD k Con.zero).exp < (0 : Int))) false, (0 : Int) ≤ (↑k : Int) ∧ (↑k : Int) < (↑L.length : Int), Dec (decide ((↑k : Int) < (↑L.length : Int))) true], by kernel_rfl, ⟨(dN d7), (dN d6), d5, ?_, d4, d3, d2, ?_, d1⟩, rfl⟩⟩))))
           (fun d4 => Or.elim (Bool.eq_false_or_eq_true ((L.getD k Con.zero).sign == (1 : Int))) (fun d5 => Or.elim (Bool.eq_false_or_eq_true (decide ((L.getD k Con.zero).dim < (1 : Int)))) (fun d6 => ⟨[true, false, false, false, false, true], .inr ⟨[Dec (decide ((L.getD k Con.zero).dim < (1 : Int))) true, Dec ((L.getD k Con.zero).sign != (1 : Int)) false, Dec (decide ((↑k : Int) > (0 : Int))) false, Dec (decide ((L.getD k Con.zero).exp > (60 : Int))) false, Dec (decide ((L.getD k Con.zero).exp < (0 : Int))) false, (0 : Int) ≤ (↑k : Int) ∧ (↑k : Int) < (↑L.length : Int), Dec (decide ((↑k : Int) < (↑L.length : Int))) true], by kernel_rfl, ⟨d6, (dN d5), d4, d3, d2, ?_, d1⟩, rfl⟩⟩)
           (fun d6 => Or.elim (Bool.eq_false_or_eq_true (decide ((L.getD k Con.zero).dim > IntKind.i64.wrap ((8 : Int) - s)))) (fun d7 => ⟨[true, false, false, false, false, false, true], .inr ⟨[Dec (decide ((L.getD k Con.zero).dim > IntKind.i64.wrap ((8 : Int) - s))) true, Dec (decide ((L.getD k Con.zero).dim < (1 : Int))) false, Dec ((L.getD k Con.zero).sign != (1 : Int)) false, Dec (decide ((↑k : Int) > (0 : Int))) false, Dec (decide ((L.getD k Con.zero).exp > (60 : Int))) false, Dec (decide ((L.getD k Con.zero).exp < (0 : Int))) false, (0 : Int) ≤ (↑k : Int) ∧ (↑k : Int) < (↑L.length : Int), Dec (decide ((↑k : Int) < (↑L.length : Int))) true], by kernel_rfl, ⟨d7, d6, (dN d5), d4, d3, d2, ?_, d1⟩, rfl⟩⟩)
           (fun d7 => ⟨[true, false, false, false, false, false, false], .inl ⟨(k + 1, s + (at_ L k).dim), [L.length = L.length ∧ (fun i => (L.getD i Con.zero).rvs) = fun i => (L.getD i Con.zero).rvs, IntKind.i64.wrap (s + (L.getD k Con.zero).dim) = s + (at_ L k).dim, L.length = L.length ∧ (fun i => (L.getD i Con.zero).rvs) = fun i => (L.getD i Con.zero).rvs, (↑L.length : Int) = (↑L.length : Int), IntKind.i64.wrap ((↑k : Int) + (1 : Int)) = (↑(k + (1 : Nat)) : Int), Dec (decide ((L.getD k Con.zero).dim > IntKind.i64.wrap ((8 : Int) - s))) false, Dec (decide ((L.getD k Con.zero).dim < (1 : Int))) false, Dec ((L.getD k Con.zero).sign != (1 : Int)) false, Dec (decide ((↑k : Int) > (0 : Int))) false, Dec (decide ((L.getD k Con.zero).exp > (60 : Int))) false, Dec (decide ((L.getD k Con.zero).exp < (0 : Int))) false, (0 : Int) ≤ (↑k : Int) ∧ (↑k : Int) < (↑L.length : Int), Dec (decide ((↑k : Int) < (↑L.length : Int))) true], by kernel_rfl, ⟨?_, ?_, ?_, ?_, ?_, d7, d6, (dN d5), d4, d3, d2, ?_, d1⟩, MuG.out ?_, InG.out ?_⟩⟩)))
           (fun d5 => Or.elim (Bool.eq_false_or_eq_true ((L.getD k Con.zero).sign == (-1 : Int))) (fun d6 => Or.elim (Bool.eq_false_or_eq_true (decide ((L.getD k Con.zero).dim < (1 : Int)))) (fun d7 => ⟨[true, false, false, false, true, false, true], .inr ⟨[Dec (decide ((L.getD k Con.zero).dim < (1 : Int))) true, Dec ((L.getD k Con.zero).sign != (-1 : Int)) false, Dec ((L.getD k Con.zero).sign != (1 : Int)) true, Dec (decide ((↑k : Int) > (0 : Int))) false, Dec (decide ((L.getD k Con.zero).exp > (60 : Int))) false, Dec (decide ((L.getD k Con.zero).exp < (0 : Int))) false, (0 : Int) ≤ (↑k : Int) ∧ (↑k : Int) < (↑L.length : Int), Dec (decide ((↑k : Int) < (↑L.length : Int))) true], by kernel_rfl, ⟨d7, (dN d6), (dN d5), d4, d3, d2, ?_, d1⟩, rfl⟩⟩)
           (fun d7 => Or.elim (Bool.eq_false_or_eq_true (decide ((L.getD k Con.zero).dim > IntKind.i64.wrap ((8 : Int) - s)))) (fun d8 => ⟨[true, false, false, false, true, false, false, true], .inr ⟨[Dec (decide ((L.getD k Con.zero).dim > IntKind.i64.wrap ((8 : Int) - s))) true, Dec (decide ((L.getD k Con.zero).dim < (1 : Int))) false, Dec ((L.getD k Con.zero).sign != (-1 : Int)) false, Dec ((L.getD k Con.zero).sign != (1 : Int)) true, Dec (decide ((↑k : Int) > (0 : Int))) false, Dec (decide ((L.getD k Con.zero).exp > (60 : Int))) false, Dec (decide ((L.getD k Con.zero).exp < (0 : Int))) false, (0 : Int) ≤ (↑k : Int) ∧ (↑k : Int) < (↑L.length : Int), Dec (decide ((↑k : Int) < (↑L.length : Int))) true], by kernel_rfl, ⟨d8, d7, (dN d6), (dN d5), d4, d3, d2, ?_, d1⟩, rfl⟩⟩)
           (fun d8 => ⟨[true, false, false, false, true, false, false, false], .inl ⟨(k + 1, s + (at_ L k).dim), [L.length = L.length ∧ (fun i => (L.getD i Con.zero).rvs) = fun i => (L.getD i Con.zero).rvs, IntKind.i64.wrap (s + (L.getD k Con.zero).dim) = s + (at_ L k).dim, L.length = L.length ∧ (fun i => (L.getD i Con.zero).rvs) = fun i => (L.getD i Con.zero).rvs, (↑L.length : Int) = (↑L.length : Int), IntKind.i64.wrap ((↑k : Int) + (1 : Int)) = (↑(k + (1 : Nat)) : Int), Dec (decide ((L.getD k Con.zero).dim > IntKind.i64.wrap ((8 : Int) - s))) false, Dec (decide ((L.getD k Con.zero).dim < (1 : Int))) false, Dec ((L.getD k Con.zero).sign != (-1 : Int)) false, Dec ((L.getD k Con.zero).sign != (1 : Int)) true, Dec (decide ((↑k : Int) > (0 : Int))) false, Dec (decide ((L.getD k Con.zero).exp > (60 : Int))) false, Dec (decide ((L.getD k Con.zero).exp < (0 : Int))) false, (0 : Int) ≤ (↑k : Int) ∧ (↑k : Int) < (↑L.length : Int), Dec (decide ((↑k : Int) < (↑L.length : Int))) true], by kernel_rfl, ⟨?_, ?_, ?_, ?_, ?_, d8, d7, (dN d6), (dN d5), d4, d3, d2, ?_, d1⟩, MuG.out ?_, InG.out ?_⟩⟩)))
           (fun d6 => ⟨[true, false, false, false, true, true], .inr ⟨[Dec ((L.getD k Con.zero).sign != (-1 : Int)) true, Dec ((L.getD k Con.zero).sign != (1 : Int)) true, Dec (decide ((↑k : Int) > (0 : Int))) false, Dec (decide ((L.getD k Con.zero).exp > (60 : Int))) false, Dec (decide ((L.getD k Con.zero).exp < (0 : Int))) false, (0 : Int) ≤ (↑k : Int) ∧ (↑k : Int) < (↑L.length : Int), Dec (decide ((↑k : Int) < (↑L.length : Int))) true], by kernel_rfl, ⟨(dN d6), (dN d5), d4, d3, d2, ?_, d1⟩, rfl⟩⟩))))))
           (fun d1 => CtG.no ?_)
      all_goals first | (refine MuG.mk ?_; (simp only [decide_eq_true_eq] at d1; show L.length - (k + 1) < L.length - k; omega)) | (refine InG.mk ?_; (simp only [at_, e8, em, et, decide_eq_true_eq, decide_eq_false_iff_not, Int.toNat_natCast, beq_iff_eq, beq_eq_false_iff_ne, ne_eq] at *; have hlt : k < L.length := (by omega); have ho := hiff.2 (by refine ⟨?_, ?_, ?_, ?_, ?_, ?_⟩ <;> omega); exact ⟨by omega, by omega, by omega, by rw [dimS_take hlt, hsum], by rw [ord_next hlt ho, hord]⟩)) | (refine CtG.mk ?_; (simp only [at_, e8, em, et, decide_eq_true_eq, decide_eq_false_iff_not, Int.toNat_natCast, beq_iff_eq, beq_eq_false_iff_ne, ne_eq] at *; first | (have := ord_end (L := L) (k := k) (by omega) (lastO L k) s; simp_all; done) | (have hlt : k < L.length := (by omega); rw [drop_at hlt] at hord; simp only [ordL, Bool.and_eq_true] at hord; have := hiff.1 hord.1; omega))) | (first | rfl | exact ⟨rfl, rfl⟩ | (simp only [at_, e8, em, ek, et, decide_eq_true_eq, decide_eq_false_iff_not, Int.toNat_natCast] at * <;> first | omega | (rw [w64 (by omega) (by omega)]) | (rw [hsum]; exact dimS_all (by omega))))
    · -- d = true
      obtain ⟨hk, hs0, hs8, hsum, hord⟩ := hI
      have e8 : IntKind.i64.wrap ((8 : Int) - s) = 8 - s := w64 (by omega) (by omega)
      have ek : IntKind.i64.wrap ((k : Int) + 1) = ((k + 1 : Nat) : Int) := by rw [w64 (by omega) (by omega)]; omega
      have em : IntKind.i64.wrap ((k : Int) - 1) = (k : Int) - 1 := w64 (by omega) (by omega)
      have et : ((k : Int) - 1).toNat = k - 1 := by omega
      have hiff := @okO_iff L k s
      refine Or.elim (Bool.eq_false_or_eq_true (decide ((↑k : Int) < (↑L.length : Int)))) (fun d1 => Or.elim (Bool.eq_false_or_eq_true (decide ((L.getD k Con.zero).exp < (0 : Int)))) (fun d2 => CtG.no ?_)
           (fun d2 => Or.elim (Bool.eq_false_or_eq_true (decide ((L.getD k Con.zero).exp > (60 : Int)))) (fun d3 => CtG.no ?_)
           (fun d3 => Or.elim (Bool.eq_false_or_eq_true (decide ((↑k : Int) > (0 : Int)))) (fun d4 => Or.elim (Bool.eq_false_or_eq_true (decide ((L.getD k Con.zero).exp ≤ (L.getD (IntKind.i64.wrap ((↑k : Int) - (1 : Int))).toNat Con.zero).exp))) (fun d5 => CtG.no ?_)
           (fun d5 => Or.elim (Bool.eq_false_or_eq_true ((L.getD k Con.zero).sign == (1 : Int))) (fun d6 => Or.elim (Bool.eq_false_or_eq_true (decide ((L.getD k Con.zero).dim < (1 : Int)))) (fun d7 => CtG.no ?_)
           (fun d7 => Or.elim (Bool.eq_false_or_eq_true (decide ((L.getD k Con.zero).dim > IntKind.i64.wrap ((8 : Int) - s)))) (fun d8 => CtG.no ?_)
           (fun d8 => ⟨[true, false, false, true, false, false, false, false], .inl ⟨(k + 1, s + (at_ L k).dim), [L.length = L.length ∧ (fun i => (L.getD i Con.zero).rvs) = fun i => (L.getD i Con.zero).rvs, IntKind.i64.wrap (s + (L.getD k Con.zero).dim) = s + (at_ L k).dim, L.length = L.length ∧ (fun i => (L.getD i Con.zero).rvs) = fun i => (L.getD i Con.zero).rvs, (↑L.length : Int) = (↑L.length : Int), IntKind.i64.wrap ((↑k : Int) + (1 : Int)) = (↑(k + (1 : Nat)) : Int), Dec (decide ((L.getD k Con.zero).dim > IntKind.i64.wrap ((8 : Int) - s))) false, Dec (decide ((L.getD k Con.zero).dim < (1 : Int))) false, Dec ((L.getD k Con.zero).sign != (1 : Int)) false, Dec (decide ((L.getD k Con.zero).exp ≤ (L.getD (IntKind.i64.wrap ((↑k : Int) - (1 : Int))).toNat Con.zero).exp)) false, (0 : Int) ≤ IntKind.i64.wrap ((↑k : Int) - (1 : Int)) ∧ IntKind.i64.wrap ((↑k : Int) - (1 : Int)) < (↑L.length : Int), Dec (decide ((↑k : Int) > (0 : Int))) true, Dec (decide ((L.getD k Con.zero).exp > (60 : Int))) false, Dec (decide ((L.getD k Con.zero).exp < (0 : Int))) false, (0 : Int) ≤ (↑k : Int) ∧ (↑k : Int) < (↑L.length : Int), Dec (decide ((↑k : Int) < (↑L.length : Int))) true], by kernel_rfl, ⟨?_, ?_, ?_, ?_, ?_, d8, d7, (dN d6), d5, ?_, d4, d3, d2, ?_, d1⟩, MuG.out ?_, InG.out ?_⟩⟩)))
           (fun d6 => Or.elim (Bool.eq_false_or_eq_true ((L.getD k Con.zero).sign == (-1 : Int))) (fun d7 => Or.elim (Bool.eq_false_or_eq_true (decide ((L.getD k Con.zero).dim < (1 : Int)))) (fun d8 => CtG.no ?_)
           (fun d8 => Or.elim (Bool.eq_false_or_eq_true (decide ((L.getD k Con.zero).dim > IntKind.i64.wrap ((8 : Int) - s)))) (fun d9 => CtG.no ?_)
           (fun d9 => ⟨[true, false, false, true, false, true, false, false, false], .inl ⟨(k + 1, s + (at_ L k).dim), [L.length = L.length ∧ (fun i => (L.getD i Con.zero).rvs) = fun i => (L.getD i Con.zero).rvs, IntKind.i64.wrap (s + (L.getD k Con.zero).dim) = s + (at_ L k).dim, L.length = L.length ∧ (fun i => (L.getD i Con.zero).rvs) = fun i => (L.getD i Con.zero).rvs, (↑L.length : Int) = (↑L.length : Int), IntKind.i64.wrap ((↑k : Int) + (1 : Int)) = (↑(k + (1 : Nat)) : Int), Dec (decide ((L.getD k Con.zero).dim > IntKind.i64.wrap ((8 : Int) - s))) false, Dec (decide ((L.getD k Con.zero).dim < (1 : Int))) false, Dec ((L.getD k Con.zero).sign != (-1 : Int)) false, Dec ((L.getD k Con.zero).sign != (1 : Int)) true, Dec (decide ((L.getD k Con.zero).exp ≤ (L.getD (IntKind.i64.wrap ((↑k : Int) - (1 : Int))).toNat Con.zero).exp)) false, (0 : Int) ≤ IntKind.i64.wrap ((↑k : Int) - (1 : Int)) ∧ IntKind.i64.wrap ((↑k : Int) - (1 : Int)) < (↑L.length : Int), Dec (decide ((↑k : Int) > (0 : Int))) true, Dec (decide ((L.getD k Con.zero).exp > (60 : Int))) false, Dec (decide ((L.getD k Con.zero).exp < (0 : Int))) false, (0 : Int) ≤ (↑k : Int) ∧ (↑k : Int) < (↑L.length : Int), Dec (decide ((↑k : Int) < (↑L.length : Int))) true], by kernel_rfl, ⟨?_, ?_, ?_, ?_, ?_, d9, d8, (dN d7), (dN d6), d5, ?_, d4, d3, d2, ?_, d1⟩, MuG.out ?_, InG.out ?_⟩⟩)))
           (fun d7 => CtG.no ?_))))
           (fun d4 => Or.elim (Bool.eq_false_or_eq_true ((L.getD k Con.zero).sign == (1 : Int))) (fun d5 => Or.elim (Bool.eq_false_or_eq_true (decide ((L.getD k Con.zero).dim < (1 : Int)))) (fun d6 => CtG.no ?_)
           (fun d6 => Or.elim (Bool.eq_false_or_eq_true (decide ((L.getD k Con.zero).dim > IntKind.i64.wrap ((8 : Int) - s)))) (fun d7 => CtG.no ?_)
           (fun d7 => ⟨[true, false, false, false, false, false, false], .inl ⟨(k + 1, s + (at_ L k).dim), [L.length = L.length ∧ (fun i => (L.getD i Con.zero).rvs) = fun i => (L.getD i Con.zero).rvs, IntKind.i64.wrap (s + (L.getD k Con.zero).dim) = s + (at_ L k).dim, L.length = L.length ∧ (fun i => (L.getD i Con.zero).rvs) = fun i => (L.getD i Con.zero).rvs, (↑L.length : Int) = (↑L.length : Int), IntKind.i64.wrap ((↑k : Int) + (1 : Int)) = (↑(k + (1 : Nat)) : Int), Dec (decide ((L.getD k Con.zero).dim > IntKind.i64.wrap ((8 : Int) - s))) false, Dec (decide ((L.getD k Con.zero).dim < (1 : Int))) false, Dec ((L.getD k Con.zero).sign != (1 : Int)) false, Dec (decide ((↑k : Int) > (0 : Int))) false, Dec (decide ((L.getD k Con.zero).exp > (60 : Int))) false, Dec (decide ((L.getD k Con.zero).exp < (0 : Int))) false, (0 : Int) ≤ (↑k : Int) ∧ (↑k : Int) < (↑L.length : Int), Dec (decide ((↑k : Int) < (↑L.length : Int))) true], by kernel_rfl, ⟨?_, ?_, ?_, ?_, ?_, d7, d6, (dN d5), d4, d3, d2, ?_, d1⟩, MuG.out ?_, InG.out ?_⟩⟩)))
           (fun d5 => Or.elim (Bool.eq_false_or_eq_true ((L.getD k Con.zero).sign == (-1 : Int))) (fun d6 => Or.elim (Bool.eq_false_or_eq_true (decide ((L.getD k Con.zero).dim < (1 : Int)))) (fun d7 => CtG.no ?_)
           (fun d7 => Or.elim (Bool.eq_false_or_eq_true (decide ((L.getD k Con.zero).dim > IntKind.i64.wrap ((8 : Int) - s)))) (fun d8 => CtG.no ?_)
           (fun d8 => ⟨[true, false, false, false, true, false, false, false], .inl ⟨(k + 1, s + (at_ L k).dim), [L.length = L.length ∧ (fun i => (L.getD i Con.zero).rvs) = fun i => (L.getD i Con.zero).rvs, IntKind.i64.wrap (s + (L.getD k Con.zero).dim) = s + (at_ L k).dim, L.length = L.length ∧ (fun i => (L.getD i Con.zero).rvs) = fun i => (L.getD i Con.zero).rvs, (↑L.length : Int) = (↑L.length : Int), IntKind.i64.wrap ((↑k : Int) + (1 : Int)) = (↑(k + (1 : Nat)) : Int), Dec (decide ((L.getD k Con.zero).dim > IntKind.i64.wrap ((8 : Int) - s))) false, Dec (decide ((L.getD k Con.zero).dim < (1 : Int))) false, Dec ((L.getD k Con.zero).sign != (-1 : Int)) false, Dec ((L.getD k Con.zero).sign != (1 : Int)) true, Dec (decide ((↑k : Int) > (0 : Int))) false, Dec (decide ((L.getD k Con.zero).exp > (60 : Int))) false, Dec (decide ((L.getD k Con.zero).exp < (0 : Int))) false, (0 : Int) ≤ (↑k : Int) ∧ (↑k : Int) < (↑L.length : Int), Dec (decide ((↑k : Int) < (↑L.length : Int))) true], by kernel_rfl, ⟨?_, ?_, ?_, ?_, ?_, d8, d7, (dN d6), (dN d5), d4, d3, d2, ?_, d1⟩, MuG.out ?_, InG.out ?_⟩⟩)))
           (fun d6 => CtG.no ?_))))))
           (fun d1 => ⟨[false], .inr ⟨[s = dimS L, Dec (decide ((↑k : Int) < (↑L.length : Int))) false], by kernel_rfl, ⟨?_, d1⟩, rfl⟩⟩)
      all_goals first | (refine MuG.mk ?_; (simp only [decide_eq_true_eq] at d1; show L.length - (k + 1) < L.length - k; omega)) | (refine InG.mk ?_; (simp only [at_, e8, em, et, decide_eq_true_eq, decide_eq_false_iff_not, Int.toNat_natCast, beq_iff_eq, beq_eq_false_iff_ne, ne_eq] at *; have hlt : k < L.length := (by omega); have ho := hiff.2 (by refine ⟨?_, ?_, ?_, ?_, ?_, ?_⟩ <;> omega); exact ⟨by omega, by omega, by omega, by rw [dimS_take hlt, hsum], by rw [ord_next hlt ho, hord]⟩)) | (refine CtG.mk ?_; (simp only [at_, e8, em, et, decide_eq_true_eq, decide_eq_false_iff_not, Int.toNat_natCast, beq_iff_eq, beq_eq_false_iff_ne, ne_eq] at *; first | (have := ord_end (L := L) (k := k) (by omega) (lastO L k) s; simp_all; done) | (have hlt : k < L.length := (by omega); rw [drop_at hlt] at hord; simp only [ordL, Bool.and_eq_true] at hord; have := hiff.1 hord.1; omega))) | (first | rfl | exact ⟨rfl, rfl⟩ | (simp only [at_, e8, em, ek, et, decide_eq_true_eq, decide_eq_false_iff_not, Int.toNat_natCast] at * <;> first | omega | (rw [w64 (by omega) (by omega)]) | (rw [hsum]; exact dimS_all (by omega))))
set_option maxRecDepth 100000 in
theorem order_pure (L : List Con) (hn : L.length ≤ 1000000) : PureC Tryz.prog [] 58 [roC L] (.bool (orderV L)) := by
  have rr := fun (tp : List Bool) (ms : List Prop) h hm => pure_run evOk (callF_ok evOk (noOrc_ok _ _) 8) Tryz.func58 (A := [roC L]) (N := Nat.max 1 Tryz.f58.ntmps) rfl (one_ann (order_loop L hn)) rfl rfl evNg (tabs := []) (R := .bool (orderV L)) (tp := tp) (ms := ms) h hm
  refine Or.elim (Bool.eq_false_or_eq_true (ordL L (-1 : Int) (0 : Int))) (fun d1 => rr [true] [decide (dimS L > (0 : Int)) = orderV L, L.length = L.length ∧ (fun i => (L.getD i Con.zero).rvs) = fun i => (L.getD i Con.zero).rvs, L.length = L.length ∧ (fun i => (L.getD i Con.zero).rvs) = fun i => (L.getD i Con.zero).rvs, (↑L.length : Int) = (↑L.length : Int), Dec (ordL L (-1 : Int) (0 : Int)) true] (by kernel_rfl) ⟨?_, ?_, ?_, ?_, d1⟩)
           (fun d1 => rr [false] [false = orderV L, L.length = L.length ∧ (fun i => (L.getD i Con.zero).rvs) = fun i => (L.getD i Con.zero).rvs, L.length = L.length ∧ (fun i => (L.getD i Con.zero).rvs) = fun i => (L.getD i Con.zero).rvs, (↑L.length : Int) = (↑L.length : Int), Dec (ordL L (-1 : Int) (0 : Int)) false] (by kernel_rfl) ⟨?_, ?_, ?_, ?_, d1⟩)
  all_goals first | (first | rfl | exact ⟨rfl, rfl⟩ | (simp only [orderV, d1, Bool.true_and, Bool.false_and, Bool.and_true]))
end Go.Proofs.YtgdhgnhgmbkpdaaGreatDoor.S

