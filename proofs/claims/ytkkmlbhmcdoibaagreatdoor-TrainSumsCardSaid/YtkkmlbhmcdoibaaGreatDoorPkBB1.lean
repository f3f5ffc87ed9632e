/- A part of the proof of the laws: Y0, YO, YM, YB, YC, YD, YN, YL, VQ, VE, YT, Y2, VX, YP, VA, YQ, VB, TA, TB, Y1, YA. -/
import Derived.Test.YtkkmlbhmcdoibaaGreatDoorPkBM3
import Derived.Test.YtkkmlbhmcdoibaaGreatDoorChecked
import Derived.Lib.SmallJoins
import Derived.WideKeyArgs
import Derived.Deep.Slices
import Derived.OpenShut
import Derived.ChangeSame
import Derived.Lib.LaidTab
import Derived.ProofKit
import Derived.Deep.DeepHandedRow
import Derived.WalkKit
import Derived.Lib.Hide
import Derived.Laws.Rows
import Derived.WalkMore
import Derived.Below
import Derived.BigQuiet
import Derived.Deep.QuietTactic
import Derived.Deep.RegionWith
import Derived.Deep.RegionHeld3
import Derived.Laws.StructEq
import Derived.Test.YtkkmlbhmcdoibaaGreatDoorRows
import Derived.Test.YtkkmlbhmcdoibaaGreatDoorTie
import Derived.Test.YtkkmlbhmcdoibaaGreatDoorCards
import Derived.Stop.LaidErr
set_option linter.unusedSimpArgs false
set_option linter.unusedVariables false
namespace Go.Proofs.YtkkmlbhmcdoibaaGreatDoor.S
open Go.QfSy Go.RowKit
theorem tyLen : Nat.blt Tryz.prog.types.toList.length 1000000 = true := by kernel_rfl
theorem fnLen : Nat.blt Tryz.prog.funcs.toList.length 1000000 = true := by kernel_rfl
theorem fnNames : Tryz.prog.funcs.toList.all (fun fn => !(fn.name == "runtime.NumGoroutine")) = true := by kernel_rfl
theorem noesc (x : Value) (w : World) : (callFunc 76 #[x]).run Tryz.prog w = .ok (.value x) w := by kernel_rfl
set_option maxRecDepth 100000 in
noncomputable def tiTr : Tr TypeInfo := (.node (some (Tryz.prog.types.toList.getD 0 default)) (.node (some (Tryz.prog.types.toList.getD 1 default)) (.node (some (Tryz.prog.types.toList.getD 3 default)) (.node (some (Tryz.prog.types.toList.getD 7 default)) (.node (some (Tryz.prog.types.toList.getD 15 default)) (.node (some (Tryz.prog.types.toList.getD 31 default)) (.node (some (Tryz.prog.types.toList.getD 63 default)) (.node (some (Tryz.prog.types.toList.getD 127 default)) .nil .nil) (.node (some (Tryz.prog.types.toList.getD 191 default)) .nil .nil)) (.node (some (Tryz.prog.types.toList.getD 95 default)) (.node (some (Tryz.prog.types.toList.getD 159 default)) .nil .nil) .nil)) (.node (some (Tryz.prog.types.toList.getD 47 default)) (.node (some (Tryz.prog.types.toList.getD 79 default)) (.node (some (Tryz.prog.types.toList.getD 143 default)) .nil .nil) .nil) (.node (some (Tryz.prog.types.toList.getD 111 default)) (.node (some (Tryz.prog.types.toList.getD 175 default)) .nil .nil) .nil))) (.node (some (Tryz.prog.types.toList.getD 23 default)) (.node (some (Tryz.prog.types.toList.getD 39 default)) (.node (some (Tryz.prog.types.toList.getD 71 default)) (.node (some (Tryz.prog.types.toList.getD 135 default)) .nil .nil) (.node (some (Tryz.prog.types.toList.getD 199 default)) .nil .nil)) (.node (some (Tryz.prog.types.toList.getD 103 default)) (.node (some (Tryz.prog.types.toList.getD 167 default)) .nil .nil) .nil)) (.node (some (Tryz.prog.types.toList.getD 55 default)) (.node (some (Tryz.prog.types.toList.getD 87 default)) (.node (some (Tryz.prog.types.toList.getD 151 default)) .nil .nil) .nil) (.node (some (Tryz.prog.types.toList.getD 119 default)) (.node (some (Tryz.prog.types.toList.getD 183 default)) .nil .nil) .nil)))) (.node (some (Tryz.prog.types.toList.getD 11 default)) (.node (some (Tryz.prog.types.toList.getD 19 default)) (.node (some (Tryz.prog.types.toList.getD 35 default)) (.node (some (Tryz.prog.types.toList.getD 67 default)) (.node (some (Tryz.prog.types.toList.getD 131 default)) .nil .nil) (.node (some (Tryz.prog.types.toList.getD 195 default)) .nil .nil)) (.node (some (Tryz.prog.types.toList.getD 99 default)) (.node (some (Tryz.prog.types.toList.getD 163 default)) .nil .nil) .nil)) (.node (some (Tryz.prog.types.toList.getD 51 default)) (.node (some (Tryz.prog.types.toList.getD 83 default)) (.node (some (Tryz.prog.types.toList.getD 147 default)) .nil .nil) .nil) (.node (some (Tryz.prog.types.toList.getD 115 default)) (.node (some (Tryz.prog.types.toList.getD 179 default)) .nil .nil) .nil))) (.node (some (Tryz.prog.types.toList.getD 27 default)) (.node (some (Tryz.prog.types.toList.getD 43 default)) (.node (some (Tryz.prog.types.toList.getD 75 default)) (.node (some (Tryz.prog.types.toList.getD 139 default)) .nil .nil) (.node (some (Tryz.prog.types.toList.getD 203 default)) .nil .nil)) (.node (some (Tryz.prog.types.toList.getD 107 default)) (.node (some (Tryz.prog.types.toList.getD 171 default)) .nil .nil) .nil)) (.node (some (Tryz.prog.types.toList.getD 59 default)) (.node (some (Tryz.prog.types.toList.getD 91 default)) (.node (some (Tryz.prog.types.toList.getD 155 default)) .nil .nil) .nil) (.node (some (Tryz.prog.types.toList.getD 123 default)) (.node (some (Tryz.prog.types.toList.getD 187 default)) .nil .nil) .nil))))) (.node (some (Tryz.prog.types.toList.getD 5 default)) (.node (some (Tryz.prog.types.toList.getD 9 default)) (.node (some (Tryz.prog.types.toList.getD 17 default)) (.node (some (Tryz.prog.types.toList.getD 33 default)) (.node (some (Tryz.prog.types.toList.getD 65 default)) (.node (some (Tryz.prog.types.toList.getD 129 default)) .nil .nil) (.node (some (Tryz.prog.types.toList.getD 193 default)) .nil .nil)) (.node (some (Tryz.prog.types.toList.getD 97 default)) (.node (some (Tryz.prog.types.toList.getD 161 default)) .nil .nil) .nil)) (.node (some (Tryz.prog.types.toList.getD 49 default)) (.node (some (Tryz.prog.types.toList.getD 81 default)) (.node (some (Tryz.prog.types.toList.getD 145 default)) .nil .nil) .nil) (.node (some (Tryz.prog.types.toList.getD 113 default)) (.node (some (Tryz.prog.types.toList.getD 177 default)) .nil .nil) .nil))) (.node (some (Tryz.prog.types.toList.getD 25 default)) (.node (some (Tryz.prog.types.toList.getD 41 default)) (.node (some (Tryz.prog.types.toList.getD 73 default)) (.node (some (Tryz.prog.types.toList.getD 137 default)) .nil .nil) (.node (some (Tryz.prog.types.toList.getD 201 default)) .nil .nil)) (.node (some (Tryz.prog.types.toList.getD 105 default)) (.node (some (Tryz.prog.types.toList.getD 169 default)) .nil .nil) .nil)) (.node (some (Tryz.prog.types.toList.getD 57 default)) (.node (some (Tryz.prog.types.toList.getD 89 default)) (.node (some (Tryz.prog.types.toList.getD 153 default)) .nil .nil) .nil) (.node (some (Tryz.prog.types.toList.getD 121 default)) (.node (some (Tryz.prog.types.toList.getD 185 default)) .nil .nil) .nil)))) (.node (some (Tryz.prog.types.toList.getD 13 default)) (.node (some (Tryz.prog.types.toList.getD 21 default)) (.node (some (Tryz.prog.types.toList.getD 37 default)) (.node (some (Tryz.prog.types.toList.getD 69 default)) (.node (some (Tryz.prog.types.toList.getD 133 default)) .nil .nil) (.node (some (Tryz.prog.types.toList.getD 197 default)) .nil .nil)) (.node (some (Tryz.prog.types.toList.getD 101 default)) (.node (some (Tryz.prog.types.toList.getD 165 default)) .nil .nil) .nil)) (.node (some (Tryz.prog.types.toList.getD 53 default)) (.node (some (Tryz.prog.types.toList.getD 85 default)) (.node (some (Tryz.prog.types.toList.getD 149 default)) .nil .nil) .nil) (.node (some (Tryz.prog.types.toList.getD 117 default)) (.node (some (Tryz.prog.types.toList.getD 181 default)) .nil .nil) .nil))) (.node (some (Tryz.prog.types.toList.getD 29 default)) (.node (some (Tryz.prog.types.toList.getD 45 default)) (.node (some (Tryz.prog.types.toList.getD 77 default)) (.node (some (Tryz.prog.types.toList.getD 141 default)) .nil .nil) .nil) (.node (some (Tryz.prog.types.toList.getD 109 default)) (.node (some (Tryz.prog.types.toList.getD 173 default)) .nil .nil) .nil)) (.node (some (Tryz.prog.types.toList.getD 61 default)) (.node (some (Tryz.prog.types.toList.getD 93 default)) (.node (some (Tryz.prog.types.toList.getD 157 default)) .nil .nil) .nil) (.node (some (Tryz.prog.types.toList.getD 125 default)) (.node (some (Tryz.prog.types.toList.getD 189 default)) .nil .nil) .nil)))))) (.node (some (Tryz.prog.types.toList.getD 2 default)) (.node (some (Tryz.prog.types.toList.getD 4 default)) (.node (some (Tryz.prog.types.toList.getD 8 default)) (.node (some (Tryz.prog.types.toList.getD 16 default)) (.node (some (Tryz.prog.types.toList.getD 32 default)) (.node (some (Tryz.prog.types.toList.getD 64 default)) (.node (some (Tryz.prog.types.toList.getD 128 default)) .nil .nil) (.node (some (Tryz.prog.types.toList.getD 192 default)) .nil .nil)) (.node (some (Tryz.prog.types.toList.getD 96 default)) (.node (some (Tryz.prog.types.toList.getD 160 default)) .nil .nil) .nil)) (.node (some (Tryz.prog.types.toList.getD 48 default)) (.node (some (Tryz.prog.types.toList.getD 80 default)) (.node (some (Tryz.prog.types.toList.getD 144 default)) .nil .nil) .nil) (.node (some (Tryz.prog.types.toList.getD 112 default)) (.node (some (Tryz.prog.types.toList.getD 176 default)) .nil .nil) .nil))) (.node (some (Tryz.prog.types.toList.getD 24 default)) (.node (some (Tryz.prog.types.toList.getD 40 default)) (.node (some (Tryz.prog.types.toList.getD 72 default)) (.node (some (Tryz.prog.types.toList.getD 136 default)) .nil .nil) (.node (some (Tryz.prog.types.toList.getD 200 default)) .nil .nil)) (.node (some (Tryz.prog.types.toList.getD 104 default)) (.node (some (Tryz.prog.types.toList.getD 168 default)) .nil .nil) .nil)) (.node (some (Tryz.prog.types.toList.getD 56 default)) (.node (some (Tryz.prog.types.toList.getD 88 default)) (.node (some (Tryz.prog.types.toList.getD 152 default)) .nil .nil) .nil) (.node (some (Tryz.prog.types.toList.getD 120 default)) (.node (some (Tryz.prog.types.toList.getD 184 default)) .nil .nil) .nil)))) (.node (some (Tryz.prog.types.toList.getD 12 default)) (.node (some (Tryz.prog.types.toList.getD 20 default)) (.node (some (Tryz.prog.types.toList.getD 36 default)) (.node (some (Tryz.prog.types.toList.getD 68 default)) (.node (some (Tryz.prog.types.toList.getD 132 default)) .nil .nil) (.node (some (Tryz.prog.types.toList.getD 196 default)) .nil .nil)) (.node (some (Tryz.prog.types.toList.getD 100 default)) (.node (some (Tryz.prog.types.toList.getD 164 default)) .nil .nil) .nil)) (.node (some (Tryz.prog.types.toList.getD 52 default)) (.node (some (Tryz.prog.types.toList.getD 84 default)) (.node (some (Tryz.prog.types.toList.getD 148 default)) .nil .nil) .nil) (.node (some (Tryz.prog.types.toList.getD 116 default)) (.node (some (Tryz.prog.types.toList.getD 180 default)) .nil .nil) .nil))) (.node (some (Tryz.prog.types.toList.getD 28 default)) (.node (some (Tryz.prog.types.toList.getD 44 default)) (.node (some (Tryz.prog.types.toList.getD 76 default)) (.node (some (Tryz.prog.types.toList.getD 140 default)) .nil .nil) (.node (some (Tryz.prog.types.toList.getD 204 default)) .nil .nil)) (.node (some (Tryz.prog.types.toList.getD 108 default)) (.node (some (Tryz.prog.types.toList.getD 172 default)) .nil .nil) .nil)) (.node (some (Tryz.prog.types.toList.getD 60 default)) (.node (some (Tryz.prog.types.toList.getD 92 default)) (.node (some (Tryz.prog.types.toList.getD 156 default)) .nil .nil) .nil) (.node (some (Tryz.prog.types.toList.getD 124 default)) (.node (some (Tryz.prog.types.toList.getD 188 default)) .nil .nil) .nil))))) (.node (some (Tryz.prog.types.toList.getD 6 default)) (.node (some (Tryz.prog.types.toList.getD 10 default)) (.node (some (Tryz.prog.types.toList.getD 18 default)) (.node (some (Tryz.prog.types.toList.getD 34 default)) (.node (some (Tryz.prog.types.toList.getD 66 default)) (.node (some (Tryz.prog.types.toList.getD 130 default)) .nil .nil) (.node (some (Tryz.prog.types.toList.getD 194 default)) .nil .nil)) (.node (some (Tryz.prog.types.toList.getD 98 default)) (.node (some (Tryz.prog.types.toList.getD 162 default)) .nil .nil) .nil)) (.node (some (Tryz.prog.types.toList.getD 50 default)) (.node (some (Tryz.prog.types.toList.getD 82 default)) (.node (some (Tryz.prog.types.toList.getD 146 default)) .nil .nil) .nil) (.node (some (Tryz.prog.types.toList.getD 114 default)) (.node (some (Tryz.prog.types.toList.getD 178 default)) .nil .nil) .nil))) (.node (some (Tryz.prog.types.toList.getD 26 default)) (.node (some (Tryz.prog.types.toList.getD 42 default)) (.node (some (Tryz.prog.types.toList.getD 74 default)) (.node (some (Tryz.prog.types.toList.getD 138 default)) .nil .nil) (.node (some (Tryz.prog.types.toList.getD 202 default)) .nil .nil)) (.node (some (Tryz.prog.types.toList.getD 106 default)) (.node (some (Tryz.prog.types.toList.getD 170 default)) .nil .nil) .nil)) (.node (some (Tryz.prog.types.toList.getD 58 default)) (.node (some (Tryz.prog.types.toList.getD 90 default)) (.node (some (Tryz.prog.types.toList.getD 154 default)) .nil .nil) .nil) (.node (some (Tryz.prog.types.toList.getD 122 default)) (.node (some (Tryz.prog.types.toList.getD 186 default)) .nil .nil) .nil)))) (.node (some (Tryz.prog.types.toList.getD 14 default)) (.node (some (Tryz.prog.types.toList.getD 22 default)) (.node (some (Tryz.prog.types.toList.getD 38 default)) (.node (some (Tryz.prog.types.toList.getD 70 default)) (.node (some (Tryz.prog.types.toList.getD 134 default)) .nil .nil) (.node (some (Tryz.prog.types.toList.getD 198 default)) .nil .nil)) (.node (some (Tryz.prog.types.toList.getD 102 default)) (.node (some (Tryz.prog.types.toList.getD 166 default)) .nil .nil) .nil)) (.node (some (Tryz.prog.types.toList.getD 54 default)) (.node (some (Tryz.prog.types.toList.getD 86 default)) (.node (some (Tryz.prog.types.toList.getD 150 default)) .nil .nil) .nil) (.node (some (Tryz.prog.types.toList.getD 118 default)) (.node (some (Tryz.prog.types.toList.getD 182 default)) .nil .nil) .nil))) (.node (some (Tryz.prog.types.toList.getD 30 default)) (.node (some (Tryz.prog.types.toList.getD 46 default)) (.node (some (Tryz.prog.types.toList.getD 78 default)) (.node (some (Tryz.prog.types.toList.getD 142 default)) .nil .nil) .nil) (.node (some (Tryz.prog.types.toList.getD 110 default)) (.node (some (Tryz.prog.types.toList.getD 174 default)) .nil .nil) .nil)) (.node (some (Tryz.prog.types.toList.getD 62 default)) (.node (some (Tryz.prog.types.toList.getD 94 default)) (.node (some (Tryz.prog.types.toList.getD 158 default)) .nil .nil) .nil) (.node (some (Tryz.prog.types.toList.getD 126 default)) (.node (some (Tryz.prog.types.toList.getD 190 default)) .nil .nil) .nil)))))))
set_option maxRecDepth 100000 in
noncomputable def fsTr : Tr Func := (.node (some (Tryz.prog.funcs.toList.getD 0 default)) (.node (some (Tryz.prog.funcs.toList.getD 1 default)) (.node (some (Tryz.prog.funcs.toList.getD 3 default)) (.node (some (Tryz.prog.funcs.toList.getD 7 default)) (.node (some (Tryz.prog.funcs.toList.getD 15 default)) (.node (some (Tryz.prog.funcs.toList.getD 31 default)) (.node (some (Tryz.prog.funcs.toList.getD 63 default)) (.node (some (Tryz.prog.funcs.toList.getD 127 default)) .nil .nil) .nil) (.node (some (Tryz.prog.funcs.toList.getD 95 default)) (.node (some (Tryz.prog.funcs.toList.getD 159 default)) .nil .nil) .nil)) (.node (some (Tryz.prog.funcs.toList.getD 47 default)) (.node (some (Tryz.prog.funcs.toList.getD 79 default)) (.node (some (Tryz.prog.funcs.toList.getD 143 default)) .nil .nil) .nil) (.node (some (Tryz.prog.funcs.toList.getD 111 default)) .nil .nil))) (.node (some (Tryz.prog.funcs.toList.getD 23 default)) (.node (some (Tryz.prog.funcs.toList.getD 39 default)) (.node (some (Tryz.prog.funcs.toList.getD 71 default)) (.node (some (Tryz.prog.funcs.toList.getD 135 default)) .nil .nil) .nil) (.node (some (Tryz.prog.funcs.toList.getD 103 default)) .nil .nil)) (.node (some (Tryz.prog.funcs.toList.getD 55 default)) (.node (some (Tryz.prog.funcs.toList.getD 87 default)) (.node (some (Tryz.prog.funcs.toList.getD 151 default)) .nil .nil) .nil) (.node (some (Tryz.prog.funcs.toList.getD 119 default)) .nil .nil)))) (.node (some (Tryz.prog.funcs.toList.getD 11 default)) (.node (some (Tryz.prog.funcs.toList.getD 19 default)) (.node (some (Tryz.prog.funcs.toList.getD 35 default)) (.node (some (Tryz.prog.funcs.toList.getD 67 default)) (.node (some (Tryz.prog.funcs.toList.getD 131 default)) .nil .nil) .nil) (.node (some (Tryz.prog.funcs.toList.getD 99 default)) .nil .nil)) (.node (some (Tryz.prog.funcs.toList.getD 51 default)) (.node (some (Tryz.prog.funcs.toList.getD 83 default)) (.node (some (Tryz.prog.funcs.toList.getD 147 default)) .nil .nil) .nil) (.node (some (Tryz.prog.funcs.toList.getD 115 default)) .nil .nil))) (.node (some (Tryz.prog.funcs.toList.getD 27 default)) (.node (some (Tryz.prog.funcs.toList.getD 43 default)) (.node (some (Tryz.prog.funcs.toList.getD 75 default)) (.node (some (Tryz.prog.funcs.toList.getD 139 default)) .nil .nil) .nil) (.node (some (Tryz.prog.funcs.toList.getD 107 default)) .nil .nil)) (.node (some (Tryz.prog.funcs.toList.getD 59 default)) (.node (some (Tryz.prog.funcs.toList.getD 91 default)) (.node (some (Tryz.prog.funcs.toList.getD 155 default)) .nil .nil) .nil) (.node (some (Tryz.prog.funcs.toList.getD 123 default)) .nil .nil))))) (.node (some (Tryz.prog.funcs.toList.getD 5 default)) (.node (some (Tryz.prog.funcs.toList.getD 9 default)) (.node (some (Tryz.prog.funcs.toList.getD 17 default)) (.node (some (Tryz.prog.funcs.toList.getD 33 default)) (.node (some (Tryz.prog.funcs.toList.getD 65 default)) (.node (some (Tryz.prog.funcs.toList.getD 129 default)) .nil .nil) .nil) (.node (some (Tryz.prog.funcs.toList.getD 97 default)) (.node (some (Tryz.prog.funcs.toList.getD 161 default)) .nil .nil) .nil)) (.node (some (Tryz.prog.funcs.toList.getD 49 default)) (.node (some (Tryz.prog.funcs.toList.getD 81 default)) (.node (some (Tryz.prog.funcs.toList.getD 145 default)) .nil .nil) .nil) (.node (some (Tryz.prog.funcs.toList.getD 113 default)) .nil .nil))) (.node (some (Tryz.prog.funcs.toList.getD 25 default)) (.node (some (Tryz.prog.funcs.toList.getD 41 default)) (.node (some (Tryz.prog.funcs.toList.getD 73 default)) (.node (some (Tryz.prog.funcs.toList.getD 137 default)) .nil .nil) .nil) (.node (some (Tryz.prog.funcs.toList.getD 105 default)) .nil .nil)) (.node (some (Tryz.prog.funcs.toList.getD 57 default)) (.node (some (Tryz.prog.funcs.toList.getD 89 default)) (.node (some (Tryz.prog.funcs.toList.getD 153 default)) .nil .nil) .nil) (.node (some (Tryz.prog.funcs.toList.getD 121 default)) .nil .nil)))) (.node (some (Tryz.prog.funcs.toList.getD 13 default)) (.node (some (Tryz.prog.funcs.toList.getD 21 default)) (.node (some (Tryz.prog.funcs.toList.getD 37 default)) (.node (some (Tryz.prog.funcs.toList.getD 69 default)) (.node (some (Tryz.prog.funcs.toList.getD 133 default)) .nil .nil) .nil) (.node (some (Tryz.prog.funcs.toList.getD 101 default)) .nil .nil)) (.node (some (Tryz.prog.funcs.toList.getD 53 default)) (.node (some (Tryz.prog.funcs.toList.getD 85 default)) (.node (some (Tryz.prog.funcs.toList.getD 149 default)) .nil .nil) .nil) (.node (some (Tryz.prog.funcs.toList.getD 117 default)) .nil .nil))) (.node (some (Tryz.prog.funcs.toList.getD 29 default)) (.node (some (Tryz.prog.funcs.toList.getD 45 default)) (.node (some (Tryz.prog.funcs.toList.getD 77 default)) (.node (some (Tryz.prog.funcs.toList.getD 141 default)) .nil .nil) .nil) (.node (some (Tryz.prog.funcs.toList.getD 109 default)) .nil .nil)) (.node (some (Tryz.prog.funcs.toList.getD 61 default)) (.node (some (Tryz.prog.funcs.toList.getD 93 default)) (.node (some (Tryz.prog.funcs.toList.getD 157 default)) .nil .nil) .nil) (.node (some (Tryz.prog.funcs.toList.getD 125 default)) .nil .nil)))))) (.node (some (Tryz.prog.funcs.toList.getD 2 default)) (.node (some (Tryz.prog.funcs.toList.getD 4 default)) (.node (some (Tryz.prog.funcs.toList.getD 8 default)) (.node (some (Tryz.prog.funcs.toList.getD 16 default)) (.node (some (Tryz.prog.funcs.toList.getD 32 default)) (.node (some (Tryz.prog.funcs.toList.getD 64 default)) (.node (some (Tryz.prog.funcs.toList.getD 128 default)) .nil .nil) .nil) (.node (some (Tryz.prog.funcs.toList.getD 96 default)) (.node (some (Tryz.prog.funcs.toList.getD 160 default)) .nil .nil) .nil)) (.node (some (Tryz.prog.funcs.toList.getD 48 default)) (.node (some (Tryz.prog.funcs.toList.getD 80 default)) (.node (some (Tryz.prog.funcs.toList.getD 144 default)) .nil .nil) .nil) (.node (some (Tryz.prog.funcs.toList.getD 112 default)) .nil .nil))) (.node (some (Tryz.prog.funcs.toList.getD 24 default)) (.node (some (Tryz.prog.funcs.toList.getD 40 default)) (.node (some (Tryz.prog.funcs.toList.getD 72 default)) (.node (some (Tryz.prog.funcs.toList.getD 136 default)) .nil .nil) .nil) (.node (some (Tryz.prog.funcs.toList.getD 104 default)) .nil .nil)) (.node (some (Tryz.prog.funcs.toList.getD 56 default)) (.node (some (Tryz.prog.funcs.toList.getD 88 default)) (.node (some (Tryz.prog.funcs.toList.getD 152 default)) .nil .nil) .nil) (.node (some (Tryz.prog.funcs.toList.getD 120 default)) .nil .nil)))) (.node (some (Tryz.prog.funcs.toList.getD 12 default)) (.node (some (Tryz.prog.funcs.toList.getD 20 default)) (.node (some (Tryz.prog.funcs.toList.getD 36 default)) (.node (some (Tryz.prog.funcs.toList.getD 68 default)) (.node (some (Tryz.prog.funcs.toList.getD 132 default)) .nil .nil) .nil) (.node (some (Tryz.prog.funcs.toList.getD 100 default)) .nil .nil)) (.node (some (Tryz.prog.funcs.toList.getD 52 default)) (.node (some (Tryz.prog.funcs.toList.getD 84 default)) (.node (some (Tryz.prog.funcs.toList.getD 148 default)) .nil .nil) .nil) (.node (some (Tryz.prog.funcs.toList.getD 116 default)) .nil .nil))) (.node (some (Tryz.prog.funcs.toList.getD 28 default)) (.node (some (Tryz.prog.funcs.toList.getD 44 default)) (.node (some (Tryz.prog.funcs.toList.getD 76 default)) (.node (some (Tryz.prog.funcs.toList.getD 140 default)) .nil .nil) .nil) (.node (some (Tryz.prog.funcs.toList.getD 108 default)) .nil .nil)) (.node (some (Tryz.prog.funcs.toList.getD 60 default)) (.node (some (Tryz.prog.funcs.toList.getD 92 default)) (.node (some (Tryz.prog.funcs.toList.getD 156 default)) .nil .nil) .nil) (.node (some (Tryz.prog.funcs.toList.getD 124 default)) .nil .nil))))) (.node (some (Tryz.prog.funcs.toList.getD 6 default)) (.node (some (Tryz.prog.funcs.toList.getD 10 default)) (.node (some (Tryz.prog.funcs.toList.getD 18 default)) (.node (some (Tryz.prog.funcs.toList.getD 34 default)) (.node (some (Tryz.prog.funcs.toList.getD 66 default)) (.node (some (Tryz.prog.funcs.toList.getD 130 default)) .nil .nil) .nil) (.node (some (Tryz.prog.funcs.toList.getD 98 default)) (.node (some (Tryz.prog.funcs.toList.getD 162 default)) .nil .nil) .nil)) (.node (some (Tryz.prog.funcs.toList.getD 50 default)) (.node (some (Tryz.prog.funcs.toList.getD 82 default)) (.node (some (Tryz.prog.funcs.toList.getD 146 default)) .nil .nil) .nil) (.node (some (Tryz.prog.funcs.toList.getD 114 default)) .nil .nil))) (.node (some (Tryz.prog.funcs.toList.getD 26 default)) (.node (some (Tryz.prog.funcs.toList.getD 42 default)) (.node (some (Tryz.prog.funcs.toList.getD 74 default)) (.node (some (Tryz.prog.funcs.toList.getD 138 default)) .nil .nil) .nil) (.node (some (Tryz.prog.funcs.toList.getD 106 default)) .nil .nil)) (.node (some (Tryz.prog.funcs.toList.getD 58 default)) (.node (some (Tryz.prog.funcs.toList.getD 90 default)) (.node (some (Tryz.prog.funcs.toList.getD 154 default)) .nil .nil) .nil) (.node (some (Tryz.prog.funcs.toList.getD 122 default)) .nil .nil)))) (.node (some (Tryz.prog.funcs.toList.getD 14 default)) (.node (some (Tryz.prog.funcs.toList.getD 22 default)) (.node (some (Tryz.prog.funcs.toList.getD 38 default)) (.node (some (Tryz.prog.funcs.toList.getD 70 default)) (.node (some (Tryz.prog.funcs.toList.getD 134 default)) .nil .nil) .nil) (.node (some (Tryz.prog.funcs.toList.getD 102 default)) .nil .nil)) (.node (some (Tryz.prog.funcs.toList.getD 54 default)) (.node (some (Tryz.prog.funcs.toList.getD 86 default)) (.node (some (Tryz.prog.funcs.toList.getD 150 default)) .nil .nil) .nil) (.node (some (Tryz.prog.funcs.toList.getD 118 default)) .nil .nil))) (.node (some (Tryz.prog.funcs.toList.getD 30 default)) (.node (some (Tryz.prog.funcs.toList.getD 46 default)) (.node (some (Tryz.prog.funcs.toList.getD 78 default)) (.node (some (Tryz.prog.funcs.toList.getD 142 default)) .nil .nil) .nil) (.node (some (Tryz.prog.funcs.toList.getD 110 default)) .nil .nil)) (.node (some (Tryz.prog.funcs.toList.getD 62 default)) (.node (some (Tryz.prog.funcs.toList.getD 94 default)) (.node (some (Tryz.prog.funcs.toList.getD 158 default)) .nil .nil) .nil) (.node (some (Tryz.prog.funcs.toList.getD 126 default)) .nil .nil)))))))
set_option maxRecDepth 100000 in
theorem tiTr_eq : tiTr = Tr.ofList Tryz.prog.types.toList := by kernel_rfl
set_option maxRecDepth 100000 in
theorem fsTr_eq : fsTr = Tr.ofList Tryz.prog.funcs.toList := by kernel_rfl
noncomputable def EV : Env := ⟨tiTr, fsTr, 4, lzOf Tryz.prog, 76, 25, true⟩
noncomputable def EC : Env := ⟨tiTr, fsTr, 4, lzOf Tryz.prog, 76, 25, false⟩
theorem evOk : EnvOk Tryz.prog EV := by
  have h := envOf_ok Tryz.prog 4 76 25 true tyLen fnLen fnNames noesc Tryz.checked.mixed
  have e : EV = envOf Tryz.prog 4 76 25 true := by unfold EV envOf; rw [tiTr_eq, fsTr_eq]
  rw [e]
  exact h
theorem ecOk : EnvOk Tryz.prog EC := by
  have h := envOf_ok Tryz.prog 4 76 25 false tyLen fnLen fnNames noesc Tryz.checked.mixed
  have e : EC = envOf Tryz.prog 4 76 25 false := by unfold EC envOf; rw [tiTr_eq, fsTr_eq]
  rw [e]
  exact h
structure MuG (p : Prop) : Prop where
  mk :: out : p
structure InG (p : Prop) : Prop where
  mk :: out : p
structure CtG : Prop where
  mk :: out : False
structure GnG : Prop where
  mk :: out : False
theorem CtG.no {q : Prop} (h : CtG) : q := h.out.elim
theorem GnG.no {q : Prop} (h : GnG) : q := h.out.elim
theorem evNg : Nat.ble EV.ng 1000 = true := rfl
theorem ecNg : Nat.ble EC.ng 1000 = true := rfl
end Go.Proofs.YtkkmlbhmcdoibaaGreatDoor.S

namespace Go.Proofs.YtkkmlbhmcdoibaaGreatDoor.S
open Go.ChangeShapes Go.WideShapes Go.ChangeAt Go.RowKit Go.Joins Go.Deep
open Go.QfSy (Con RV RRel RsRel FzAt roC Fz Tb TabW PureC)
def I64 (n : Int) : Prop := -9223372036854775808 ≤ n ∧ n ≤ 9223372036854775807
def U8 (n : Int) : Prop := 0 ≤ n ∧ n ≤ 255
def fits (c : Con) : Prop := I64 c.exp ∧ I64 c.dim ∧ I64 c.sign ∧ I64 c.oddity
def vals (c : Con) : List Value := [.int .i64 c.exp, .int .i64 c.dim, .int .i64 c.sign, .bool c.odd, .int .i64 c.oddity]
structure Prt where
  x0 : Int
  x1 : Int
  x2 : Int
  x3 : Int
  x4 : Int
deriving Inhabited
def Prt.rvs (p : Prt) : List RV := [.int .u8 p.x0, .int .u8 p.x1, .int .u8 p.x2, .int .u8 p.x3, .int .u8 p.x4]
def Prt.ok (p : Prt) : Prop := U8 p.x0 ∧ U8 p.x1 ∧ U8 p.x2 ∧ U8 p.x3 ∧ U8 p.x4
def Prt.zero : Prt := ⟨0, 0, 0, 0, 0⟩
def Prt.vals (p : Prt) : List Value := [.int .u8 p.x0, .int .u8 p.x1, .int .u8 p.x2, .int .u8 p.x3, .int .u8 p.x4]
def roP (L : List Prt) : RV := .sl L.length 5 (fun i => (L.getD i Prt.zero).rvs)
def Wz (w : World) : Fz := fun B => w.heap[B]?
theorem wf_u8 {n : Int} (h : (Lit.int .u8 n).wf = true) : 0 ≤ n ∧ n ≤ 255 := by
  simp only [Lit.wf, Bool.and_eq_true, decide_eq_true_eq] at h
  exact h
theorem list_of {α : Type} {R : Nat → α → Prop} : ∀ {n : Nat}, (∀ i, i < n → ∃ c, R i c) → ∃ l : List α, l.length = n ∧ ∀ i c, l[i]? = some c → R i c
  | 0, _ => ⟨[], rfl, fun i c h => by simp at h⟩
  | n + 1, h => by
    obtain ⟨l, hl, hr⟩ := list_of (n := n) (R := R) (fun i hi => h i (by omega))
    obtain ⟨c, hc⟩ := h n (by omega)
    refine ⟨l ++ [c], by simp [hl], fun i x hx => ?_⟩
    by_cases hi : i < n
    · rw [List.getElem?_append_left (by omega)] at hx
      exact hr i x hx
    · rw [List.getElem?_append_right (by omega)] at hx
      have : i = n := by
        have := (List.getElem?_eq_some_iff.1 hx).1
        simp at this
        omega
      subst this
      simp [hl] at hx
      subst hx
      exact hc
theorem five_of {α : Type} {l : List α} (h : l.length = 5) : ∃ a b c d e, l = [a, b, c, d, e] := by
  match l, h with
  | [a, b, c, d, e], _ => exact ⟨a, b, c, d, e, rfl⟩
section
variable {H : Type} {enc : TypeId × Value → H} {P : Program} {w : World} {base : Nat} {spare : Nat → Bool} {held : Bool}
theorem one_int {n : Nat} {t : TypeId} {k : IntKind} {v : Value} {o : Option (DataW H × List MemPlace)} (ht : P.underlying t = some (.int k)) (h : DataW.trod enc P w base spare held n t [v] = o) (ho : o ≠ none) : ∃ z, v = .int k z ∧ (Lit.int k z).wf = true := by
  cases o with
  | none => exact absurd rfl ho
  | some x =>
    obtain ⟨z, hc, _, hw⟩ := DataW.trod_int ht h
    simp at hc
    exact ⟨z, hc, hw⟩
theorem at_some {α : Type} {l : List α} {n i : Nat} (h : l.length = n) (hi : i < n) : l[i]? ≠ none := by
  rw [List.getElem?_eq_getElem (by omega)]
  exact Option.some_ne_none _
theorem spot_none {b : Addr} {v : Value} (h : w.cell? b = some v) : b = ⟨b.block, b.off, none⟩ := by
  cases b with
  | mk b o s =>
    cases s with
    | none => rfl
    | some s =>
      unfold World.cell? at h
      split at h <;> simp at h
theorem add_form (a : Addr) (k : Nat) : (a.add k).block = a.block ∧ (a.add k).off = a.off + k := by
  unfold Addr.add
  split
  · rename_i h; subst h; exact ⟨rfl, rfl⟩
  · exact ⟨rfl, rfl⟩
theorem cell_fz {b o : Nat} {v : Value} (h : w.cell? ⟨b, o, none⟩ = some v) : FzAt (Wz w) b o v := by
  unfold World.cell? at h
  split at h
  · rename_i c el fr hc
    simp at h
    exact ⟨c, el, fr, hc, h⟩
  · cases h
theorem five_at {a : Addr} {i : Nat} {cs : List Value} (h : w.cells? base (a.add (i * 5)) 5 = some cs) : cs.length = 5 ∧ a.block < w.heap.size ∧ ∀ j u, cs[j]? = some u → w.cell? ⟨a.block, a.off + i * 5 + j, none⟩ = some u := by
  obtain ⟨_, hl, hc⟩ := World.cells?_some h
  have hlt := World.cells?_block h (by omega)
  refine ⟨hl, by rw [(add_form a (i * 5)).1] at hlt; exact hlt, fun j u hu => ?_⟩
  have hj : j < 5 := by have := (List.getElem?_eq_some_iff.1 hu).1; omega
  have h1 := (hc j hj).trans hu
  have h2 := spot_none h1
  obtain ⟨e1, e2⟩ := add_form (a.add (i * 5)) j
  obtain ⟨e3, e4⟩ := add_form a (i * 5)
  rw [h2, e1, e2, e3, e4] at h1
  exact h1
theorem prt_rel {F : Fz} (p : Prt) : RsRel F p.rvs p.vals := .cons (.int _ _) (.cons (.int _ _) (.cons (.int _ _) (.cons (.int _ _) (.cons (.int _ _) .nil))))
theorem open_rows {α : Type} [Inhabited α] {t u : TypeId} (hcell : P.cellsOf u = 5) (ht : P.underlying t = some (.slice u)) (rv : α → List RV) (vl : α → List Value) (ok : α → Prop) (z : α) (hrel : ∀ (F : Fz) x, RsRel F (rv x) (vl x)) (hlen : ∀ x, (vl x).length = 5)
    (hone : ∀ {n : Nat} {cs : List Value} {x : DataW H × List MemPlace}, DataW.trod enc P w base spare held n u cs = some x → ∃ c : α, cs = vl c ∧ ok c)
    {n : Nat} {v : Value} {x : DataW H × List MemPlace} (h : DataW.trod enc P w base spare held n t [v] = some x) : ∃ L : List α, L.length ≤ maxLen ∧ RRel (Wz w) (.sl L.length 5 (fun i => rv (L.getD i z))) v ∧ ∀ c ∈ L, ok c := by
  rcases open_slice ht h with ⟨h0, _⟩ | ⟨a, len, cap, m, n', D, Pl, hcs, hb, hl, hm, hmm, hx, hi⟩
  · simp at h0
    subst h0
    exact ⟨[], Nat.zero_le _, .sl0 _ _ _ _ rfl, by simp⟩
  · simp at hcs
    rw [hcell] at hi
    have hlm : len ≤ m := by rw [hmm]; split <;> omega
    have hall : ∀ i, i < len → ∃ c : α, ok c ∧ ∀ j u, (vl c)[j]? = some u → w.cell? ⟨a.block, a.off + i * 5 + j, none⟩ = some u := by
      intro i him
      obtain ⟨cs', hc, ht⟩ := hi i (by omega)
      obtain ⟨c, rfl, hfit⟩ := hone ht
      obtain ⟨_, hlt, hat⟩ := five_at hc
      exact ⟨c, hfit, hat⟩
    obtain ⟨L, hll, hr⟩ := list_of hall
    refine ⟨L, by rw [hll]; exact Nat.le_trans hl hm, ?_, fun c hc => ?_⟩
    · subst hcs
      by_cases h0 : len = 0
      · subst h0
        exact .sl0 _ _ _ _ hll
      · have hsp : a = ⟨a.block, a.off, none⟩ := by
          obtain ⟨cs', hc, _⟩ := hi 0 (by omega)
          obtain ⟨_, hl5, hc5⟩ := World.cells?_some hc
          have h1 := hc5 0 (by omega)
          rw [List.getElem?_eq_getElem (by omega)] at h1
          have := spot_none h1
          simpa [Addr.add] using this
        rw [hsp, ← hll]
        refine .sl (fun i => vl (L.getD i z)) (by rw [hll]; exact hl) (fun i _ => hlen _) (fun i j u hi' hu => ?_) (fun i _ => hrel _ _)
        have he : L[i]? = some (L.getD i z) := by simp [hi']
        exact cell_fz ((hr i _ he).2 j u hu)
    · obtain ⟨i, hi', he⟩ := List.getElem_of_mem hc
      exact (hr i c (by rw [List.getElem?_eq_getElem hi', he])).1
structure PartTy (P : Program) (t tu : TypeId) : Prop where
  und : P.underlying t = some (.array 5 tu)
  cells : P.cellsOf t = 5
  u8 : P.underlying tu = some (.int .u8)
  one : P.cellsOf tu = 1
theorem open_part {t tu : TypeId} (hT : PartTy P t tu) {n : Nat} {cs : List Value} {x : DataW H × List MemPlace} (h : DataW.trod enc P w base spare held n t cs = some x) :
    ∃ p : Prt, cs = p.vals ∧ p.ok := by
  obtain ⟨ys, m, _, hy, hlen, hyl, hf⟩ := DataW.trod_array hT.und h
  rw [hT.cells] at hlen
  obtain ⟨c0, c1, c2, c3, c4, rfl⟩ := five_of hlen
  rw [hT.one] at hf
  have f0 := hf 0 (by omega)
  have f1 := hf 1 (by omega)
  have f2 := hf 2 (by omega)
  have f3 := hf 3 (by omega)
  have f4 := hf 4 (by omega)
  obtain ⟨z0, rfl, w0⟩ := one_int hT.u8 f0 (at_some hyl (by omega))
  obtain ⟨z1, rfl, w1⟩ := one_int hT.u8 f1 (at_some hyl (by omega))
  obtain ⟨z2, rfl, w2⟩ := one_int hT.u8 f2 (at_some hyl (by omega))
  obtain ⟨z3, rfl, w3⟩ := one_int hT.u8 f3 (at_some hyl (by omega))
  obtain ⟨z4, rfl, w4⟩ := one_int hT.u8 f4 (at_some hyl (by omega))
  exact ⟨⟨z0, z1, z2, z3, z4⟩, rfl, wf_u8 w0, wf_u8 w1, wf_u8 w2, wf_u8 w3, wf_u8 w4⟩
theorem open_prts {t u tu : TypeId} (hT : PartTy P u tu) (ht : P.underlying t = some (.slice u)) {n : Nat} {v : Value} {x : DataW H × List MemPlace} (h : DataW.trod enc P w base spare held n t [v] = some x) : ∃ L : List Prt, L.length ≤ maxLen ∧ RRel (Wz w) (roP L) v ∧ ∀ c ∈ L, c.ok :=
  open_rows hT.cells ht Prt.rvs Prt.vals Prt.ok Prt.zero (fun _ c => prt_rel c) (fun _ => rfl) (fun h => open_part hT h) h
theorem trodAll_stays (hl : laidOutB P = true) {W W' : World} (hb : Below W.heap.size W W') : ∀ {ts : List TypeId} {vs : List Value} {ds : List (DataW H)} {ps : List MemPlace}, (∀ t ∈ ts, P.readableRec t = true ∧ t < P.types.size) →
    DataW.TrodAll enc P W 0 (fun _ => true) true ts vs ds ps → (∀ p ∈ ps, p.block < W.heap.size) → ∀ sp : Nat → Bool, (∀ p ∈ ps, sp p.block = true) → DataW.TrodAll enc P W' 0 sp true ts vs ds ps
  | [], vs, ds, ps, _, h, _, sp, _ => by
    cases vs <;> cases ds <;> simp [DataW.TrodAll] at h ⊢
    exact h
  | t :: ts, vs, ds, ps, ht, h, hlt, sp, hs => by
    obtain ⟨v, vs', d, ds', p, q, rfl, rfl, rfl, h1, h2⟩ := trodAll_cons h
    obtain ⟨r1, r2⟩ := ht t (by simp)
    exact trodAll_cons_mk (WideElems.Trod_stays hl r1 r2 h1 (fun x hx => hb.same (hlt x (by simp [hx]))) (fun x hx => hs x (by simp [hx])))
      (trodAll_stays hl hb (fun u hu => ht u (by simp [hu])) h2 (fun x hx => hlt x (by simp [hx])) sp (fun x hx => hs x (by simp [hx])))
theorem law_post {f : Func} {s : ChangeSpec} {apart fresh handsOn again : Bool} {W W' : World} {args : Array Value} {ds : List (DataW H)} {gs : List (DataW H)} {before : List MemPlace} {tb : TypeId}
    (hl : laidOutB P = true) (htys : ∀ t ∈ f.params.toList, P.readableRec t = true ∧ t < P.types.size) (hvars : s.vars = []) (htb : P.underlying tb = some .bool) (hres : f.resultTypes = #[tb])
    (hW : DataW.Whole enc P f.params.toList s.vars apart W args.toList ds gs before) (hfn : s.fn H ds = { results := [.lit (.bool true)], args := ds })
    (hb : Below W.heap.size W W') : s.post enc P f apart fresh handsOn again W args (.bool true) W' := by
  have hlt : ∀ p ∈ before, p.block < W.heap.size := fun p hp => hW.lt p hp
  have hW' := hW
  obtain ⟨p, q, hA, hV, rfl, hfz, hnd⟩ := hW
  rw [hvars] at hV
  obtain ⟨rfl, rfl⟩ := trodVars_none hV
  simp only [List.append_nil] at hW' hlt hfz hnd
  have hfn' : s.fn H (ds ++ []) = { results := [.lit (.bool true)], args := ds } := by rw [List.append_nil]; exact hfn
  have hbool : ∀ (b : Nat) (sp : Nat → Bool) (hd : Bool), DataW.TrodAll enc P W' b sp hd f.resultTypes.toList ((Value.bool true).resultList f.resultTypes.size) (s.fn H (ds ++ [])).results [] := by
    intro b sp hd
    rw [hres, hfn']
    exact trodAll_mk1 ⟨1, by simp [DataW.trod, htb, Value.cells]⟩
  have hargs : ∀ sp : Nat → Bool, (∀ x ∈ p, sp x.block = true) → DataW.TrodAll enc P W' 0 sp true f.params.toList args.toList (s.fn H (ds ++ [])).args p := by
    intro sp hs
    rw [hfn']
    exact trodAll_stays hl hb htys hA hlt sp hs
  have hvs : ∀ sp : Nat → Bool, DataW.TrodVars enc P W' sp s.vars (s.fn H (ds ++ [])).vars [] := by
    intro sp
    rw [hfn', hvars]
    rfl
  have hold : ∀ x ∈ p, (fun b => decide (b < W.heap.size)) x.block = true := fun x hx => by simpa using hlt x hx
  refine ⟨ds, [], p, [], p, [], hW', hbool _ _ _, hargs _ hold, hvs _, World.keptBut_mono (fun x hx => ⟨hx, ?_⟩) (hb.frame (· ∈ p)), fun _ => ?_⟩
  · exact Or.inr (by simpa using hx)
  · refine ⟨?_, _, _, ([] ++ p) ++ [], ⟨[] ++ p, [], trodAll_append (hargs _ (fun _ _ => rfl)) (hbool _ _ _), hvs _, rfl, ?_, ?_⟩, ?_⟩
    · intro j t r ht hr
      rw [hres] at ht hr
      match j, ht with
      | 0, ht =>
        simp at ht hr
        subst ht
        simp [Value.resultList] at hr
        subst hr
        exact okWide_bool_mk htb _
      | j + 1, ht => simp at ht
    · intro b off hp
      have hin : MemPlace.cell b off ∈ p := by simpa using hp
      rw [hb.frozen (hlt _ hin)]
      exact hfz b off hin
    · intro ha
      simpa using hnd ha
    · intro x hx _
      simpa using hx
end
theorem pure_calls {P : Program} {ts : List Tb} {f : Nat} {A : List RV} (h : PureC P ts f A (.bool true)) {w : World} (hT : TabW ts w) {Args : List Value} (hR : RsRel (Wz w) A Args) :
    Calls P f Args.toArray w fun e w' => e = .returned (.bool true) ∧ Below w.heap.size w w' := by
  refine (h.2 w (Wz w) Args hT (fun B x hx => hx) hR).mono ?_
  rintro e w' ⟨V, F', rfl, _, _, _, hV, hb⟩
  cases hV
  exact ⟨rfl, hb⟩
theorem tab_block {P : Program} {W : World} {name : String} {k : IntKind} {zs : List Int} {g : Nat} {t : TypeId} {cs : Array Value} (hg : P.globalNamed name = some g) (ht : Lib.TabIs P W name k zs) (h1 : W.heap[g]? = some (.cells cs t)) :
    W.heap[g]? = some (.cells (zs.map fun z => Value.int k z).toArray t (0, 0)) := by
  unfold Lib.TabIs World.var? at ht
  rw [hg] at ht
  simp only [Option.bind_some, h1] at ht
  injection ht with ht
  rw [h1, ht]
theorem row_of {P : Program} {W : World} {g : Nat} {t : TypeId} (hsz : g < P.globals.size) (hr : (((begin P (fun _ _ => 0) default).world.heap[g]?).bind Obj.row?).map (·.2) = some t) (hS : W.ShapedOpen P) :
    ∃ cs u, W.heap[g]? = some (.cells cs u) ∧ u = t := by
  cases hz : ((begin P (fun _ _ => 0) default).world.heap[g]?).bind Obj.row? with
  | none => rw [hz] at hr; cases hr
  | some zt =>
    obtain ⟨zero, u⟩ := zt
    rw [hz] at hr
    obtain ⟨cs, h1, _⟩ := hS.1 g zero _ hsz hz
    exact ⟨cs, u, h1, by simpa using hr⟩
def dataCells : DataW Unit → Array Value
  | .agg l => (l.map fun | .lit (.int k n) => Value.int k n | _ => .bool false).toArray
  | _ => #[]
def layAt (g : Nat) (d : DataW Unit) (w : World) : World :=
  { w with heap := w.heap.modify g fun
      | .cells _ t frozen => .cells (dataCells d) t frozen
      | o => o }
structure TwoTy (P : Program) (t t0 t1 : TypeId) (f0 f1 : Field) : Prop where
  und : P.underlying t = some (.struct #[f0, f1])
  one : oneCellFields P #[f0, f1] = true
  cells : P.cellsOf t = 2
  e0 : f0.type = t0
  e1 : f1.type = t1
section
variable {H : Type} {enc : TypeId × Value → H} {P : Program} {w : World} {base : Nat} {spare : Nat → Bool} {held : Bool} {r : Reach} {b0 : Nat} {v : Value} {d : DataW H} {p : List MemPlace}
theorem two_of {t t0 t1 : TypeId} {f0 f1 : Field} (hT : TwoTy P t t0 t1 f0 f1) (hv : Value.okWide P w r b0 t v) (h : DataW.Trod enc P w base spare held t v d p) :
    ∃ v0 v1 y0 y1 n, v = .agg #[v0, v1] ∧ DataW.trod enc P w base spare held n t0 [v0] = some y0 ∧ DataW.trod enc P w base spare held n t1 [v1] = some y1 := by
  obtain ⟨v0, v1, y0, y1, n, e, _, _, h0, h1⟩ := open_agg2 hT.und hT.one hT.cells hv h
  rw [hT.e0] at h0
  rw [hT.e1] at h1
  exact ⟨v0, v1, y0, y1, n, e, h0, h1⟩
structure SymbolTys (P : Program) (t : TypeId) : Prop where
  has : ∃ (t0 t1 u tu : TypeId) (f0 f1 : Field), TwoTy P t t0 t1 f0 f1 ∧ PartTy P u tu ∧ P.underlying t0 = some (.int .u8) ∧ P.underlying t1 = some (.slice u)
theorem open_symbol {t : TypeId} (hT : SymbolTys P t) (hv : Value.okWide P w r b0 t v) (h : DataW.Trod enc P w base spare held t v d p) :
    ∃ q L, RRel (Wz w) (.agg [.int .u8 q, roP L]) v ∧ U8 q ∧ L.length ≤ maxLen ∧ ∀ x ∈ L, x.ok := by
  obtain ⟨_, _, _, _, _, _, h1, h2, h3, h4⟩ := hT.has
  obtain ⟨v0, v1, y0, y1, n, rfl, g0, g1⟩ := two_of h1 hv h
  obtain ⟨z, rfl, hz⟩ := one_int h3 g0 (Option.some_ne_none _)
  obtain ⟨L, hl, hR, hf⟩ := open_prts h2 h4 g1
  exact ⟨z, L, .agg (.cons (.int _ _) (.cons hR .nil)), wf_u8 hz, hl, hf⟩
end
section
variable {H : Type} {enc : TypeId × Value → H} {P : Program} {w : World} {base : Nat} {spare : Nat → Bool} {held : Bool} {r : Reach} {b0 : Nat} {v : Value} {d : DataW H} {p : List MemPlace}
end
theorem partTy : PartTy Tryz.prog 66 5 := { und := Tryz.underlying66, cells := by kernel_rfl, u8 := Tryz.underlying5, one := by kernel_rfl }
theorem symbolTys : SymbolTys Tryz.prog 33 :=
  ⟨_, _, _, _, _, _, { und := Tryz.underlying33, one := by kernel_rfl, cells := by kernel_rfl, e0 := rfl, e1 := rfl }, partTy, Tryz.underlying5, Tryz.underlying31⟩
end Go.Proofs.YtkkmlbhmcdoibaaGreatDoor.S

namespace Go.Proofs.YtkkmlbhmcdoibaaGreatDoor.S
open Go.QfSy Go.RowKit
theorem w64 {n : Int} (h1 : -9223372036854775808 ≤ n) (h2 : n ≤ 9223372036854775807) : IntKind.i64.wrap n = n := by
  rw [IntKind.wrap_i64]; omega
abbrev at_ (L : List Con) (i : Nat) : Con := L.getD i Con.zero
theorem drop_at {L : List Con} {k : Nat} (h : k < L.length) : L.drop k = at_ L k :: L.drop (k + 1) := by
  rw [List.drop_eq_getElem_cons h]
  simp [at_, h]
theorem take_at {L : List Con} {k : Nat} (h : k < L.length) : L.take (k + 1) = L.take k ++ [at_ L k] := by
  rw [List.take_succ_eq_append_getElem h]
  simp [at_, h]
def dimS : List Con → Int
  | [] => 0
  | c :: l => c.dim + dimS l
theorem dimS_append (a b : List Con) : dimS (a ++ b) = dimS a + dimS b := by
  induction a with
  | nil => simp [dimS]
  | cons c a ih => simp only [List.cons_append, dimS, ih]; omega
theorem dimS_take {L : List Con} {k : Nat} (h : k < L.length) : dimS (L.take (k + 1)) = dimS (L.take k) + (at_ L k).dim := by
  rw [take_at h, dimS_append]; simp [dimS]
def okO (c : Con) (last s : Int) : Bool := decide (0 ≤ c.exp ∧ c.exp ≤ 60 ∧ last < c.exp ∧ (c.sign = 1 ∨ c.sign = -1) ∧ 1 ≤ c.dim ∧ c.dim ≤ 8 - s)
def ordL : List Con → Int → Int → Bool
  | [], _, _ => true
  | c :: l, last, s => okO c last s && ordL l c.exp (s + c.dim)
def orderV (L : List Con) : Bool := ordL L (-1) 0 && decide (dimS L > 0)
end Go.Proofs.YtkkmlbhmcdoibaaGreatDoor.S

namespace Go.Proofs.YtkkmlbhmcdoibaaGreatDoor.S
open Go.QfSy Go.RowKit
noncomputable def oddityF_v (d s k : Int) : Int := (bif (IntKind.i64.wrap (IntKind.i64.wrap (k.tmod (8 : Int)) - d)).tmod (2 : Int) == (0 : Int) then (bif d == (1 : Int) then (bif IntKind.i64.wrap (k.tmod (8 : Int)) == (1 : Int) then (bif s == (1 : Int) then (bif d == (2 : Int) then (bif IntKind.i64.wrap (k.tmod (8 : Int)) == (4 : Int) then (2 : Int) else (bif s == (-1 : Int) then (bif IntKind.i64.wrap (k.tmod (8 : Int)) == (0 : Int) then (2 : Int) else (IntKind.i64.wrap (k.tmod (8 : Int)))) else (IntKind.i64.wrap (k.tmod (8 : Int))))) else (IntKind.i64.wrap (k.tmod (8 : Int)))) else ((IntKind.i64.wrap (IntKind.i64.wrap (k.tmod (8 : Int)) + (4 : Int))).tmod (8 : Int))) else (bif (IntKind.i64.wrap (k.tmod (8 : Int)) == (7 : Int)) == (s == (1 : Int)) then (bif d == (2 : Int) then (bif s == (1 : Int) then (bif IntKind.i64.wrap (k.tmod (8 : Int)) == (4 : Int) then (2 : Int) else (bif s == (-1 : Int) then (bif IntKind.i64.wrap (k.tmod (8 : Int)) == (0 : Int) then (2 : Int) else (IntKind.i64.wrap (k.tmod (8 : Int)))) else (IntKind.i64.wrap (k.tmod (8 : Int))))) else (bif s == (-1 : Int) then (bif IntKind.i64.wrap (k.tmod (8 : Int)) == (0 : Int) then (2 : Int) else (IntKind.i64.wrap (k.tmod (8 : Int)))) else (IntKind.i64.wrap (k.tmod (8 : Int))))) else (IntKind.i64.wrap (k.tmod (8 : Int)))) else ((IntKind.i64.wrap (IntKind.i64.wrap (k.tmod (8 : Int)) + (4 : Int))).tmod (8 : Int)))) else (bif d == (2 : Int) then (bif s == (1 : Int) then (bif IntKind.i64.wrap (k.tmod (8 : Int)) == (4 : Int) then (2 : Int) else (bif s == (-1 : Int) then (bif IntKind.i64.wrap (k.tmod (8 : Int)) == (0 : Int) then (2 : Int) else (IntKind.i64.wrap (k.tmod (8 : Int)))) else (IntKind.i64.wrap (k.tmod (8 : Int))))) else (bif s == (-1 : Int) then (bif IntKind.i64.wrap (k.tmod (8 : Int)) == (0 : Int) then (2 : Int) else (IntKind.i64.wrap (k.tmod (8 : Int)))) else (IntKind.i64.wrap (k.tmod (8 : Int))))) else (IntKind.i64.wrap (k.tmod (8 : Int))))) else (bif d == (1 : Int) then (bif (IntKind.i64.wrap (IntKind.i64.wrap (k.tmod (8 : Int)) + (1 : Int))).tmod (8 : Int) == (1 : Int) then (bif s == (1 : Int) then (bif d == (2 : Int) then (bif (IntKind.i64.wrap (IntKind.i64.wrap (k.tmod (8 : Int)) + (1 : Int))).tmod (8 : Int) == (4 : Int) then (2 : Int) else (bif s == (-1 : Int) then (bif (IntKind.i64.wrap (IntKind.i64.wrap (k.tmod (8 : Int)) + (1 : Int))).tmod (8 : Int) == (0 : Int) then (2 : Int) else ((IntKind.i64.wrap (IntKind.i64.wrap (k.tmod (8 : Int)) + (1 : Int))).tmod (8 : Int))) else ((IntKind.i64.wrap (IntKind.i64.wrap (k.tmod (8 : Int)) + (1 : Int))).tmod (8 : Int)))) else ((IntKind.i64.wrap (IntKind.i64.wrap (k.tmod (8 : Int)) + (1 : Int))).tmod (8 : Int))) else ((IntKind.i64.wrap ((IntKind.i64.wrap (IntKind.i64.wrap (k.tmod (8 : Int)) + (1 : Int))).tmod (8 : Int) + (4 : Int))).tmod (8 : Int))) else (bif ((IntKind.i64.wrap (IntKind.i64.wrap (k.tmod (8 : Int)) + (1 : Int))).tmod (8 : Int) == (7 : Int)) == (s == (1 : Int)) then (bif d == (2 : Int) then (bif s == (1 : Int) then (bif (IntKind.i64.wrap (IntKind.i64.wrap (k.tmod (8 : Int)) + (1 : Int))).tmod (8 : Int) == (4 : Int) then (2 : Int) else (bif s == (-1 : Int) then (bif (IntKind.i64.wrap (IntKind.i64.wrap (k.tmod (8 : Int)) + (1 : Int))).tmod (8 : Int) == (0 : Int) then (2 : Int) else ((IntKind.i64.wrap (IntKind.i64.wrap (k.tmod (8 : Int)) + (1 : Int))).tmod (8 : Int))) else ((IntKind.i64.wrap (IntKind.i64.wrap (k.tmod (8 : Int)) + (1 : Int))).tmod (8 : Int)))) else (bif s == (-1 : Int) then (bif (IntKind.i64.wrap (IntKind.i64.wrap (k.tmod (8 : Int)) + (1 : Int))).tmod (8 : Int) == (0 : Int) then (2 : Int) else ((IntKind.i64.wrap (IntKind.i64.wrap (k.tmod (8 : Int)) + (1 : Int))).tmod (8 : Int))) else ((IntKind.i64.wrap (IntKind.i64.wrap (k.tmod (8 : Int)) + (1 : Int))).tmod (8 : Int)))) else ((IntKind.i64.wrap (IntKind.i64.wrap (k.tmod (8 : Int)) + (1 : Int))).tmod (8 : Int))) else ((IntKind.i64.wrap ((IntKind.i64.wrap (IntKind.i64.wrap (k.tmod (8 : Int)) + (1 : Int))).tmod (8 : Int) + (4 : Int))).tmod (8 : Int)))) else (bif d == (2 : Int) then (bif s == (1 : Int) then (bif (IntKind.i64.wrap (IntKind.i64.wrap (k.tmod (8 : Int)) + (1 : Int))).tmod (8 : Int) == (4 : Int) then (2 : Int) else (bif s == (-1 : Int) then (bif (IntKind.i64.wrap (IntKind.i64.wrap (k.tmod (8 : Int)) + (1 : Int))).tmod (8 : Int) == (0 : Int) then (2 : Int) else ((IntKind.i64.wrap (IntKind.i64.wrap (k.tmod (8 : Int)) + (1 : Int))).tmod (8 : Int))) else ((IntKind.i64.wrap (IntKind.i64.wrap (k.tmod (8 : Int)) + (1 : Int))).tmod (8 : Int)))) else (bif s == (-1 : Int) then (bif (IntKind.i64.wrap (IntKind.i64.wrap (k.tmod (8 : Int)) + (1 : Int))).tmod (8 : Int) == (0 : Int) then (2 : Int) else ((IntKind.i64.wrap (IntKind.i64.wrap (k.tmod (8 : Int)) + (1 : Int))).tmod (8 : Int))) else ((IntKind.i64.wrap (IntKind.i64.wrap (k.tmod (8 : Int)) + (1 : Int))).tmod (8 : Int)))) else ((IntKind.i64.wrap (IntKind.i64.wrap (k.tmod (8 : Int)) + (1 : Int))).tmod (8 : Int)))))
set_option maxRecDepth 100000 in
theorem oddityF (d s k : Int) : PureC Tryz.prog [] 53 [.int .i64 d, .int .i64 s, .int .u8 k] (.int .i64 (oddityF_v d s k)) := by
  have rr := fun (tp : List Bool) (ms : List Prop) h hm => pure_run evOk (callF_ok evOk (noOrc_ok _ _) 8) Tryz.func53 (A := [.int .i64 d, .int .i64 s, .int .u8 k]) rfl none_ann rfl rfl evNg (tabs := []) (R := .int .i64 (oddityF_v d s k)) (tp := tp) (ms := ms) h hm
  refine Or.elim (Bool.eq_false_or_eq_true ((IntKind.i64.wrap (IntKind.i64.wrap (k.tmod (8 : Int)) - d)).tmod (2 : Int) == (0 : Int))) (fun d1 => Or.elim (Bool.eq_false_or_eq_true (d == (1 : Int))) (fun d2 => Or.elim (Bool.eq_false_or_eq_true (IntKind.i64.wrap (k.tmod (8 : Int)) == (1 : Int))) (fun d3 => Or.elim (Bool.eq_false_or_eq_true (s == (1 : Int))) (fun d4 => Or.elim (Bool.eq_false_or_eq_true (d == (2 : Int))) (fun d5 => Or.elim (Bool.eq_false_or_eq_true (IntKind.i64.wrap (k.tmod (8 : Int)) == (4 : Int))) (fun d6 => rr [false, true, true, false, true, true, true] [(2 : Int) = oddityF_v d s k, Dec (IntKind.i64.wrap (k.tmod (8 : Int)) == (4 : Int)) true, Dec (s == (1 : Int)) true, Dec (d == (2 : Int)) true, Dec (!true == (s == (1 : Int))) false, Dec (IntKind.i64.wrap (k.tmod (8 : Int)) == (1 : Int)) true, Dec (d == (1 : Int)) true, Dec ((IntKind.i64.wrap (IntKind.i64.wrap (k.tmod (8 : Int)) - d)).tmod (2 : Int) != (0 : Int)) false, (2 : Int) ≠ (0 : Int), (8 : Int) ≠ (0 : Int)] (by kernel_rfl) ⟨(((ct d1).trans ((ct d2).trans ((ct d3).trans ((ct d4).trans ((ct d5).trans ((ct d6).trans rfl)))))) : oddityF_v d s k = _).symm, d6, d4, d5, (dN (dT d4)), d3, d2, (dN d1), ?_, (?_ : (8 : Int) ≠ (0 : Int))⟩)
           (fun d6 => Or.elim (Bool.eq_false_or_eq_true (s == (-1 : Int))) (fun d7 => Or.elim (Bool.eq_false_or_eq_true (IntKind.i64.wrap (k.tmod (8 : Int)) == (0 : Int))) (fun d8 => rr [false, true, true, false, true, true, false, true, true] [(2 : Int) = oddityF_v d s k, Dec (IntKind.i64.wrap (k.tmod (8 : Int)) == (0 : Int)) true, Dec (s == (-1 : Int)) true, Dec (IntKind.i64.wrap (k.tmod (8 : Int)) == (4 : Int)) false, Dec (s == (1 : Int)) true, Dec (d == (2 : Int)) true, Dec (!true == (s == (1 : Int))) false, Dec (IntKind.i64.wrap (k.tmod (8 : Int)) == (1 : Int)) true, Dec (d == (1 : Int)) true, Dec ((IntKind.i64.wrap (IntKind.i64.wrap (k.tmod (8 : Int)) - d)).tmod (2 : Int) != (0 : Int)) false, (2 : Int) ≠ (0 : Int), (8 : Int) ≠ (0 : Int)] (by kernel_rfl) ⟨(((ct d1).trans ((ct d2).trans ((ct d3).trans ((ct d4).trans ((ct d5).trans ((cf d6).trans ((ct d7).trans ((ct d8).trans rfl)))))))) : oddityF_v d s k = _).symm, d8, d7, d6, d4, d5, (dN (dT d4)), d3, d2, (dN d1), ?_, (?_ : (8 : Int) ≠ (0 : Int))⟩)
           (fun d8 => rr [false, true, true, false, true, true, false, true, false] [(IntKind.i64.wrap (k.tmod (8 : Int))) = oddityF_v d s k, Dec (IntKind.i64.wrap (k.tmod (8 : Int)) == (0 : Int)) false, Dec (s == (-1 : Int)) true, Dec (IntKind.i64.wrap (k.tmod (8 : Int)) == (4 : Int)) false, Dec (s == (1 : Int)) true, Dec (d == (2 : Int)) true, Dec (!true == (s == (1 : Int))) false, Dec (IntKind.i64.wrap (k.tmod (8 : Int)) == (1 : Int)) true, Dec (d == (1 : Int)) true, Dec ((IntKind.i64.wrap (IntKind.i64.wrap (k.tmod (8 : Int)) - d)).tmod (2 : Int) != (0 : Int)) false, (2 : Int) ≠ (0 : Int), (8 : Int) ≠ (0 : Int)] (by kernel_rfl) ⟨(((ct d1).trans ((ct d2).trans ((ct d3).trans ((ct d4).trans ((ct d5).trans ((cf d6).trans ((ct d7).trans ((cf d8).trans rfl)))))))) : oddityF_v d s k = _).symm, d8, d7, d6, d4, d5, (dN (dT d4)), d3, d2, (dN d1), ?_, (?_ : (8 : Int) ≠ (0 : Int))⟩))
           (fun d7 => rr [false, true, true, false, true, true, false, false] [(IntKind.i64.wrap (k.tmod (8 : Int))) = oddityF_v d s k, Dec (s == (-1 : Int)) false, Dec (IntKind.i64.wrap (k.tmod (8 : Int)) == (4 : Int)) false, Dec (s == (1 : Int)) true, Dec (d == (2 : Int)) true, Dec (!true == (s == (1 : Int))) false, Dec (IntKind.i64.wrap (k.tmod (8 : Int)) == (1 : Int)) true, Dec (d == (1 : Int)) true, Dec ((IntKind.i64.wrap (IntKind.i64.wrap (k.tmod (8 : Int)) - d)).tmod (2 : Int) != (0 : Int)) false, (2 : Int) ≠ (0 : Int), (8 : Int) ≠ (0 : Int)] (by kernel_rfl) ⟨(((ct d1).trans ((ct d2).trans ((ct d3).trans ((ct d4).trans ((ct d5).trans ((cf d6).trans ((cf d7).trans rfl))))))) : oddityF_v d s k = _).symm, d7, d6, d4, d5, (dN (dT d4)), d3, d2, (dN d1), ?_, (?_ : (8 : Int) ≠ (0 : Int))⟩)))
           (fun d5 => rr [false, true, true, false, false] [(IntKind.i64.wrap (k.tmod (8 : Int))) = oddityF_v d s k, Dec (d == (2 : Int)) false, Dec (!true == (s == (1 : Int))) false, Dec (IntKind.i64.wrap (k.tmod (8 : Int)) == (1 : Int)) true, Dec (d == (1 : Int)) true, Dec ((IntKind.i64.wrap (IntKind.i64.wrap (k.tmod (8 : Int)) - d)).tmod (2 : Int) != (0 : Int)) false, (2 : Int) ≠ (0 : Int), (8 : Int) ≠ (0 : Int)] (by kernel_rfl) ⟨(((ct d1).trans ((ct d2).trans ((ct d3).trans ((ct d4).trans ((cf d5).trans rfl))))) : oddityF_v d s k = _).symm, d5, (dN (dT d4)), d3, d2, (dN d1), ?_, (?_ : (8 : Int) ≠ (0 : Int))⟩))
           (fun d4 => rr [false, true, true, true] [((IntKind.i64.wrap (IntKind.i64.wrap (k.tmod (8 : Int)) + (4 : Int))).tmod (8 : Int)) = oddityF_v d s k, (8 : Int) ≠ (0 : Int), Dec (!true == (s == (1 : Int))) true, Dec (IntKind.i64.wrap (k.tmod (8 : Int)) == (1 : Int)) true, Dec (d == (1 : Int)) true, Dec ((IntKind.i64.wrap (IntKind.i64.wrap (k.tmod (8 : Int)) - d)).tmod (2 : Int) != (0 : Int)) false, (2 : Int) ≠ (0 : Int), (8 : Int) ≠ (0 : Int)] (by kernel_rfl) ⟨(((ct d1).trans ((ct d2).trans ((ct d3).trans ((cf d4).trans rfl)))) : oddityF_v d s k = _).symm, ?_, (dN (dT d4)), d3, d2, (dN d1), ?_, (?_ : (8 : Int) ≠ (0 : Int))⟩))
           (fun d3 => Or.elim (Bool.eq_false_or_eq_true ((IntKind.i64.wrap (k.tmod (8 : Int)) == (7 : Int)) == (s == (1 : Int)))) (fun d4 => Or.elim (Bool.eq_false_or_eq_true (d == (2 : Int))) (fun d5 => Or.elim (Bool.eq_false_or_eq_true (s == (1 : Int))) (fun d6 => Or.elim (Bool.eq_false_or_eq_true (IntKind.i64.wrap (k.tmod (8 : Int)) == (4 : Int))) (fun d7 => rr [false, true, false, false, true, true, true] [(2 : Int) = oddityF_v d s k, Dec (IntKind.i64.wrap (k.tmod (8 : Int)) == (4 : Int)) true, Dec (s == (1 : Int)) true, Dec (d == (2 : Int)) true, Dec (!(IntKind.i64.wrap (k.tmod (8 : Int)) == (7 : Int)) == (s == (1 : Int))) false, Dec (IntKind.i64.wrap (k.tmod (8 : Int)) == (1 : Int)) false, Dec (d == (1 : Int)) true, Dec ((IntKind.i64.wrap (IntKind.i64.wrap (k.tmod (8 : Int)) - d)).tmod (2 : Int) != (0 : Int)) false, (2 : Int) ≠ (0 : Int), (8 : Int) ≠ (0 : Int)] (by kernel_rfl) ⟨(((ct d1).trans ((ct d2).trans ((cf d3).trans ((ct d4).trans ((ct d5).trans ((ct d6).trans ((ct d7).trans rfl))))))) : oddityF_v d s k = _).symm, d7, d6, d5, (dN d4), d3, d2, (dN d1), ?_, (?_ : (8 : Int) ≠ (0 : Int))⟩)
           (fun d7 => Or.elim (Bool.eq_false_or_eq_true (s == (-1 : Int))) (fun d8 => Or.elim (Bool.eq_false_or_eq_true (IntKind.i64.wrap (k.tmod (8 : Int)) == (0 : Int))) (fun d9 => rr [false, true, false, false, true, true, false, true, true] [(2 : Int) = oddityF_v d s k, Dec (IntKind.i64.wrap (k.tmod (8 : Int)) == (0 : Int)) true, Dec (s == (-1 : Int)) true, Dec (IntKind.i64.wrap (k.tmod (8 : Int)) == (4 : Int)) false, Dec (s == (1 : Int)) true, Dec (d == (2 : Int)) true, Dec (!(IntKind.i64.wrap (k.tmod (8 : Int)) == (7 : Int)) == (s == (1 : Int))) false, Dec (IntKind.i64.wrap (k.tmod (8 : Int)) == (1 : Int)) false, Dec (d == (1 : Int)) true, Dec ((IntKind.i64.wrap (IntKind.i64.wrap (k.tmod (8 : Int)) - d)).tmod (2 : Int) != (0 : Int)) false, (2 : Int) ≠ (0 : Int), (8 : Int) ≠ (0 : Int)] (by kernel_rfl) ⟨(((ct d1).trans ((ct d2).trans ((cf d3).trans ((ct d4).trans ((ct d5).trans ((ct d6).trans ((cf d7).trans ((ct d8).trans ((ct d9).trans rfl))))))))) : oddityF_v d s k = _).symm, d9, d8, d7, d6, d5, (dN d4), d3, d2, (dN d1), ?_, (?_ : (8 : Int) ≠ (0 : Int))⟩)
           (fun d9 => rr [false, true, false, false, true, true, false, true, false] [(IntKind.i64.wrap (k.tmod (8 : Int))) = oddityF_v d s k, Dec (IntKind.i64.wrap (k.tmod (8 : Int)) == (0 : Int)) false, Dec (s == (-1 : Int)) true, Dec (IntKind.i64.wrap (k.tmod (8 : Int)) == (4 : Int)) false, Dec (s == (1 : Int)) true, Dec (d == (2 : Int)) true, Dec (!(IntKind.i64.wrap (k.tmod (8 : Int)) == (7 : Int)) == (s == (1 : Int))) false, Dec (IntKind.i64.wrap (k.tmod (8 : Int)) == (1 : Int)) false, Dec (d == (1 : Int)) true, Dec ((IntKind.i64.wrap (IntKind.i64.wrap (k.tmod (8 : Int)) - d)).tmod (2 : Int) != (0 : Int)) false, (2 : Int) ≠ (0 : Int), (8 : Int) ≠ (0 : Int)] (by kernel_rfl) ⟨(((ct d1).trans ((ct d2).trans ((cf d3).trans ((ct d4).trans ((ct d5).trans ((ct d6).trans ((cf d7).trans ((ct d8).trans ((cf d9).trans rfl))))))))) : oddityF_v d s k = _).symm, d9, d8, d7, d6, d5, (dN d4), d3, d2, (dN d1), ?_, (?_ : (8 : Int) ≠ (0 : Int))⟩))
           (fun d8 => rr [false, true, false, false, true, true, false, false] [(IntKind.i64.wrap (k.tmod (8 : Int))) = oddityF_v d s k, Dec (s == (-1 : Int)) false, Dec (IntKind.i64.wrap (k.tmod (8 : Int)) == (4 : Int)) false, Dec (s == (1 : Int)) true, Dec (d == (2 : Int)) true, Dec (!(IntKind.i64.wrap (k.tmod (8 : Int)) == (7 : Int)) == (s == (1 : Int))) false, Dec (IntKind.i64.wrap (k.tmod (8 : Int)) == (1 : Int)) false, Dec (d == (1 : Int)) true, Dec ((IntKind.i64.wrap (IntKind.i64.wrap (k.tmod (8 : Int)) - d)).tmod (2 : Int) != (0 : Int)) false, (2 : Int) ≠ (0 : Int), (8 : Int) ≠ (0 : Int)] (by kernel_rfl) ⟨(((ct d1).trans ((ct d2).trans ((cf d3).trans ((ct d4).trans ((ct d5).trans ((ct d6).trans ((cf d7).trans ((cf d8).trans rfl)))))))) : oddityF_v d s k = _).symm, d8, d7, d6, d5, (dN d4), d3, d2, (dN d1), ?_, (?_ : (8 : Int) ≠ (0 : Int))⟩)))
           (fun d6 => Or.elim (Bool.eq_false_or_eq_true (s == (-1 : Int))) (fun d7 => Or.elim (Bool.eq_false_or_eq_true (IntKind.i64.wrap (k.tmod (8 : Int)) == (0 : Int))) (fun d8 => rr [false, true, false, false, true, false, true, true] [(2 : Int) = oddityF_v d s k, Dec (IntKind.i64.wrap (k.tmod (8 : Int)) == (0 : Int)) true, Dec (s == (-1 : Int)) true, Dec (s == (1 : Int)) false, Dec (d == (2 : Int)) true, Dec (!(IntKind.i64.wrap (k.tmod (8 : Int)) == (7 : Int)) == (s == (1 : Int))) false, Dec (IntKind.i64.wrap (k.tmod (8 : Int)) == (1 : Int)) false, Dec (d == (1 : Int)) true, Dec ((IntKind.i64.wrap (IntKind.i64.wrap (k.tmod (8 : Int)) - d)).tmod (2 : Int) != (0 : Int)) false, (2 : Int) ≠ (0 : Int), (8 : Int) ≠ (0 : Int)] (by kernel_rfl) ⟨(((ct d1).trans ((ct d2).trans ((cf d3).trans ((ct d4).trans ((ct d5).trans ((cf d6).trans ((ct d7).trans ((ct d8).trans rfl)))))))) : oddityF_v d s k = _).symm, d8, d7, d6, d5, (dN d4), d3, d2, (dN d1), ?_, (?_ : (8 : Int) ≠ (0 : Int))⟩)
           (fun d8 => rr [false, true, false, false, true, false, true, false] [(IntKind.i64.wrap (k.tmod (8 : Int))) = oddityF_v d s k, Dec (IntKind.i64.wrap (k.tmod (8 : Int)) == (0 : Int)) false, Dec (s == (-1 : Int)) true, Dec (s == (1 : Int)) false, Dec (d == (2 : Int)) true, Dec (!(IntKind.i64.wrap (k.tmod (8 : Int)) == (7 : Int)) == (s == (1 : Int))) false, Dec (IntKind.i64.wrap (k.tmod (8 : Int)) == (1 : Int)) false, Dec (d == (1 : Int)) true, Dec ((IntKind.i64.wrap (IntKind.i64.wrap (k.tmod (8 : Int)) - d)).tmod (2 : Int) != (0 : Int)) false, (2 : Int) ≠ (0 : Int), (8 : Int) ≠ (0 : Int)] (by kernel_rfl) ⟨(((ct d1).trans ((ct d2).trans ((cf d3).trans ((ct d4).trans ((ct d5).trans ((cf d6).trans ((ct d7).trans ((cf d8).trans rfl)))))))) : oddityF_v d s k = _).symm, d8, d7, d6, d5, (dN d4), d3, d2, (dN d1), ?_, (?_ : (8 : Int) ≠ (0 : Int))⟩))
           (fun d7 => rr [false, true, false, false, true, false, false] [(IntKind.i64.wrap (k.tmod (8 : Int))) = oddityF_v d s k, Dec (s == (-1 : Int)) false, Dec (s == (1 : Int)) false, Dec (d == (2 : Int)) true, Dec (!(IntKind.i64.wrap (k.tmod (8 : Int)) == (7 : Int)) == (s == (1 : Int))) false, Dec (IntKind.i64.wrap (k.tmod (8 : Int)) == (1 : Int)) false, Dec (d == (1 : Int)) true, Dec ((IntKind.i64.wrap (IntKind.i64.wrap (k.tmod (8 : Int)) - d)).tmod (2 : Int) != (0 : Int)) false, (2 : Int) ≠ (0 : Int), (8 : Int) ≠ (0 : Int)] (by kernel_rfl) ⟨(((ct d1).trans ((ct d2).trans ((cf d3).trans ((ct d4).trans ((ct d5).trans ((cf d6).trans ((cf d7).trans rfl))))))) : oddityF_v d s k = _).symm, d7, d6, d5, (dN d4), d3, d2, (dN d1), ?_, (?_ : (8 : Int) ≠ (0 : Int))⟩)))
           (fun d5 => rr [false, true, false, false, false] [(IntKind.i64.wrap (k.tmod (8 : Int))) = oddityF_v d s k, Dec (d == (2 : Int)) false, Dec (!(IntKind.i64.wrap (k.tmod (8 : Int)) == (7 : Int)) == (s == (1 : Int))) false, Dec (IntKind.i64.wrap (k.tmod (8 : Int)) == (1 : Int)) false, Dec (d == (1 : Int)) true, Dec ((IntKind.i64.wrap (IntKind.i64.wrap (k.tmod (8 : Int)) - d)).tmod (2 : Int) != (0 : Int)) false, (2 : Int) ≠ (0 : Int), (8 : Int) ≠ (0 : Int)] (by kernel_rfl) ⟨(((ct d1).trans ((ct d2).trans ((cf d3).trans ((ct d4).trans ((cf d5).trans rfl))))) : oddityF_v d s k = _).symm, d5, (dN d4), d3, d2, (dN d1), ?_, (?_ : (8 : Int) ≠ (0 : Int))⟩))
           (fun d4 => rr [false, true, false, true] [((IntKind.i64.wrap (IntKind.i64.wrap (k.tmod (8 : Int)) + (4 : Int))).tmod (8 : Int)) = oddityF_v d s k, (8 : Int) ≠ (0 : Int), Dec (!(IntKind.i64.wrap (k.tmod (8 : Int)) == (7 : Int)) == (s == (1 : Int))) true, Dec (IntKind.i64.wrap (k.tmod (8 : Int)) == (1 : Int)) false, Dec (d == (1 : Int)) true, Dec ((IntKind.i64.wrap (IntKind.i64.wrap (k.tmod (8 : Int)) - d)).tmod (2 : Int) != (0 : Int)) false, (2 : Int) ≠ (0 : Int), (8 : Int) ≠ (0 : Int)] (by kernel_rfl) ⟨(((ct d1).trans ((ct d2).trans ((cf d3).trans ((cf d4).trans rfl)))) : oddityF_v d s k = _).symm, ?_, (dN d4), d3, d2, (dN d1), ?_, (?_ : (8 : Int) ≠ (0 : Int))⟩)))
           (fun d2 => Or.elim (Bool.eq_false_or_eq_true (d == (2 : Int))) (fun d3 => Or.elim (Bool.eq_false_or_eq_true (s == (1 : Int))) (fun d4 => Or.elim (Bool.eq_false_or_eq_true (IntKind.i64.wrap (k.tmod (8 : Int)) == (4 : Int))) (fun d5 => rr [false, false, true, true, true] [(2 : Int) = oddityF_v d s k, Dec (IntKind.i64.wrap (k.tmod (8 : Int)) == (4 : Int)) true, Dec (s == (1 : Int)) true, Dec (d == (2 : Int)) true, Dec (d == (1 : Int)) false, Dec ((IntKind.i64.wrap (IntKind.i64.wrap (k.tmod (8 : Int)) - d)).tmod (2 : Int) != (0 : Int)) false, (2 : Int) ≠ (0 : Int), (8 : Int) ≠ (0 : Int)] (by kernel_rfl) ⟨(((ct d1).trans ((cf d2).trans ((ct d3).trans ((ct d4).trans ((ct d5).trans rfl))))) : oddityF_v d s k = _).symm, d5, d4, d3, d2, (dN d1), ?_, (?_ : (8 : Int) ≠ (0 : Int))⟩)
           (fun d5 => Or.elim (Bool.eq_false_or_eq_true (s == (-1 : Int))) (fun d6 => Or.elim (Bool.eq_false_or_eq_true (IntKind.i64.wrap (k.tmod (8 : Int)) == (0 : Int))) (fun d7 => rr [false, false, true, true, false, true, true] [(2 : Int) = oddityF_v d s k, Dec (IntKind.i64.wrap (k.tmod (8 : Int)) == (0 : Int)) true, Dec (s == (-1 : Int)) true, Dec (IntKind.i64.wrap (k.tmod (8 : Int)) == (4 : Int)) false, Dec (s == (1 : Int)) true, Dec (d == (2 : Int)) true, Dec (d == (1 : Int)) false, Dec ((IntKind.i64.wrap (IntKind.i64.wrap (k.tmod (8 : Int)) - d)).tmod (2 : Int) != (0 : Int)) false, (2 : Int) ≠ (0 : Int), (8 : Int) ≠ (0 : Int)] (by kernel_rfl) ⟨(((ct d1).trans ((cf d2).trans ((ct d3).trans ((ct d4).trans ((cf d5).trans ((ct d6).trans ((ct d7).trans rfl))))))) : oddityF_v d s k = _).symm, d7, d6, d5, d4, d3, d2, (dN d1), ?_, (?_ : (8 : Int) ≠ (0 : Int))⟩)
           (fun d7 => rr [false, false, true, true, false, true, false] [(IntKind.i64.wrap (k.tmod (8 : Int))) = oddityF_v d s k, Dec (IntKind.i64.wrap (k.tmod (8 : Int)) == (0 : Int)) false, Dec (s == (-1 : Int)) true, Dec (IntKind.i64.wrap (k.tmod (8 : Int)) == (4 : Int)) false, Dec (s == (1 : Int)) true, Dec (d == (2 : Int)) true, Dec (d == (1 : Int)) false, Dec ((IntKind.i64.wrap (IntKind.i64.wrap (k.tmod (8 : Int)) - d)).tmod (2 : Int) != (0 : Int)) false, (2 : Int) ≠ (0 : Int), (8 : Int) ≠ (0 : Int)] (by kernel_rfl) ⟨(((ct d1).trans ((cf d2).trans ((ct d3).trans ((ct d4).trans ((cf d5).trans ((ct d6).trans ((cf d7).trans rfl))))))) : oddityF_v d s k = _).symm, d7, d6, d5, d4, d3, d2, (dN d1), ?_, (?_ : (8 : Int) ≠ (0 : Int))⟩))
           (fun d6 => rr [false, false, true, true, false, false] [(IntKind.i64.wrap (k.tmod (8 : Int))) = oddityF_v d s k, Dec (s == (-1 : Int)) false, Dec (IntKind.i64.wrap (k.tmod (8 : Int)) == (4 : Int)) false, Dec (s == (1 : Int)) true, Dec (d == (2 : Int)) true, Dec (d == (1 : Int)) false, Dec ((IntKind.i64.wrap (IntKind.i64.wrap (k.tmod (8 : Int)) - d)).tmod (2 : Int) != (0 : Int)) false, (2 : Int) ≠ (0 : Int), (8 : Int) ≠ (0 : Int)] (by kernel_rfl) ⟨(((ct d1).trans ((cf d2).trans ((ct d3).trans ((ct d4).trans ((cf d5).trans ((cf d6).trans rfl)))))) : oddityF_v d s k = _).symm, d6, d5, d4, d3, d2, (dN d1), ?_, (?_ : (8 : Int) ≠ (0 : Int))⟩)))
           (fun d4 => Or.elim (Bool.eq_false_or_eq_true (s == (-1 : Int))) (fun d5 => Or.elim (Bool.eq_false_or_eq_true (IntKind.i64.wrap (k.tmod (8 : Int)) == (0 : Int))) (fun d6 => rr [false, false, true, false, true, true] [(2 : Int) = oddityF_v d s k, Dec (IntKind.i64.wrap (k.tmod (8 : Int)) == (0 : Int)) true, Dec (s == (-1 : Int)) true, Dec (s == (1 : Int)) false, Dec (d == (2 : Int)) true, Dec (d == (1 : Int)) false, Dec ((IntKind.i64.wrap (IntKind.i64.wrap (k.tmod (8 : Int)) - d)).tmod (2 : Int) != (0 : Int)) false, (2 : Int) ≠ (0 : Int), (8 : Int) ≠ (0 : Int)] (by kernel_rfl) ⟨(((ct d1).trans ((cf d2).trans ((ct d3).trans ((cf d4).trans ((ct d5).trans ((ct d6).trans rfl)))))) : oddityF_v d s k = _).symm, d6, d5, d4, d3, d2, (dN d1), ?_, (?_ : (8 : Int) ≠ (0 : Int))⟩)
           (fun d6 => rr [false, false, true, false, true, false] [(IntKind.i64.wrap (k.tmod (8 : Int))) = oddityF_v d s k, Dec (IntKind.i64.wrap (k.tmod (8 : Int)) == (0 : Int)) false, Dec (s == (-1 : Int)) true, Dec (s == (1 : Int)) false, Dec (d == (2 : Int)) true, Dec (d == (1 : Int)) false, Dec ((IntKind.i64.wrap (IntKind.i64.wrap (k.tmod (8 : Int)) - d)).tmod (2 : Int) != (0 : Int)) false, (2 : Int) ≠ (0 : Int), (8 : Int) ≠ (0 : Int)] (by kernel_rfl) ⟨(((ct d1).trans ((cf d2).trans ((ct d3).trans ((cf d4).trans ((ct d5).trans ((cf d6).trans rfl)))))) : oddityF_v d s k = _).symm, d6, d5, d4, d3, d2, (dN d1), ?_, (?_ : (8 : Int) ≠ (0 : Int))⟩))
           (fun d5 => rr [false, false, true, false, false] [(IntKind.i64.wrap (k.tmod (8 : Int))) = oddityF_v d s k, Dec (s == (-1 : Int)) false, Dec (s == (1 : Int)) false, Dec (d == (2 : Int)) true, Dec (d == (1 : Int)) false, Dec ((IntKind.i64.wrap (IntKind.i64.wrap (k.tmod (8 : Int)) - d)).tmod (2 : Int) != (0 : Int)) false, (2 : Int) ≠ (0 : Int), (8 : Int) ≠ (0 : Int)] (by kernel_rfl) ⟨(((ct d1).trans ((cf d2).trans ((ct d3).trans ((cf d4).trans ((cf d5).trans rfl))))) : oddityF_v d s k = _).symm, d5, d4, d3, d2, (dN d1), ?_, (?_ : (8 : Int) ≠ (0 : Int))⟩)))
           (fun d3 => rr [false, false, false] [(IntKind.i64.wrap (k.tmod (8 : Int))) = oddityF_v d s k, Dec (d == (2 : Int)) false, Dec (d == (1 : Int)) false, Dec ((IntKind.i64.wrap (IntKind.i64.wrap (k.tmod (8 : Int)) - d)).tmod (2 : Int) != (0 : Int)) false, (2 : Int) ≠ (0 : Int), (8 : Int) ≠ (0 : Int)] (by kernel_rfl) ⟨(((ct d1).trans ((cf d2).trans ((cf d3).trans rfl))) : oddityF_v d s k = _).symm, d3, d2, (dN d1), ?_, (?_ : (8 : Int) ≠ (0 : Int))⟩)))
           (fun d1 => Or.elim (Bool.eq_false_or_eq_true (d == (1 : Int))) (fun d2 => Or.elim (Bool.eq_false_or_eq_true ((IntKind.i64.wrap (IntKind.i64.wrap (k.tmod (8 : Int)) + (1 : Int))).tmod (8 : Int) == (1 : Int))) (fun d3 => Or.elim (Bool.eq_false_or_eq_true (s == (1 : Int))) (fun d4 => Or.elim (Bool.eq_false_or_eq_true (d == (2 : Int))) (fun d5 => Or.elim (Bool.eq_false_or_eq_true ((IntKind.i64.wrap (IntKind.i64.wrap (k.tmod (8 : Int)) + (1 : Int))).tmod (8 : Int) == (4 : Int))) (fun d6 => rr [true, true, true, false, true, true, true] [(2 : Int) = oddityF_v d s k, Dec ((IntKind.i64.wrap (IntKind.i64.wrap (k.tmod (8 : Int)) + (1 : Int))).tmod (8 : Int) == (4 : Int)) true, Dec (s == (1 : Int)) true, Dec (d == (2 : Int)) true, Dec (!true == (s == (1 : Int))) false, Dec ((IntKind.i64.wrap (IntKind.i64.wrap (k.tmod (8 : Int)) + (1 : Int))).tmod (8 : Int) == (1 : Int)) true, Dec (d == (1 : Int)) true, (8 : Int) ≠ (0 : Int), Dec ((IntKind.i64.wrap (IntKind.i64.wrap (k.tmod (8 : Int)) - d)).tmod (2 : Int) != (0 : Int)) true, (2 : Int) ≠ (0 : Int), (8 : Int) ≠ (0 : Int)] (by kernel_rfl) ⟨(((cf d1).trans ((ct d2).trans ((ct d3).trans ((ct d4).trans ((ct d5).trans ((ct d6).trans rfl)))))) : oddityF_v d s k = _).symm, d6, d4, d5, (dN (dT d4)), d3, d2, ?_, (dN d1), ?_, (?_ : (8 : Int) ≠ (0 : Int))⟩)
           (fun d6 => Or.elim (Bool.eq_false_or_eq_true (s == (-1 : Int))) (fun d7 => Or.elim (Bool.eq_false_or_eq_true ((IntKind.i64.wrap (IntKind.i64.wrap (k.tmod (8 : Int)) + (1 : Int))).tmod (8 : Int) == (0 : Int))) (fun d8 => rr [true, true, true, false, true, true, false, true, true] [(2 : Int) = oddityF_v d s k, Dec ((IntKind.i64.wrap (IntKind.i64.wrap (k.tmod (8 : Int)) + (1 : Int))).tmod (8 : Int) == (0 : Int)) true, Dec (s == (-1 : Int)) true, Dec ((IntKind.i64.wrap (IntKind.i64.wrap (k.tmod (8 : Int)) + (1 : Int))).tmod (8 : Int) == (4 : Int)) false, Dec (s == (1 : Int)) true, Dec (d == (2 : Int)) true, Dec (!true == (s == (1 : Int))) false, Dec ((IntKind.i64.wrap (IntKind.i64.wrap (k.tmod (8 : Int)) + (1 : Int))).tmod (8 : Int) == (1 : Int)) true, Dec (d == (1 : Int)) true, (8 : Int) ≠ (0 : Int), Dec ((IntKind.i64.wrap (IntKind.i64.wrap (k.tmod (8 : Int)) - d)).tmod (2 : Int) != (0 : Int)) true, (2 : Int) ≠ (0 : Int), (8 : Int) ≠ (0 : Int)] (by kernel_rfl) ⟨(((cf d1).trans ((ct d2).trans ((ct d3).trans ((ct d4).trans ((ct d5).trans ((cf d6).trans ((ct d7).trans ((ct d8).trans rfl)))))))) : oddityF_v d s k = _).symm, d8, d7, d6, d4, d5, (dN (dT d4)), d3, d2, ?_, (dN d1), ?_, (?_ : (8 : Int) ≠ (0 : Int))⟩)
           (fun d8 => rr [true, true, true, false, true, true, false, true, false] [((IntKind.i64.wrap (IntKind.i64.wrap (k.tmod (8 : Int)) + (1 : Int))).tmod (8 : Int)) = oddityF_v d s k, Dec ((IntKind.i64.wrap (IntKind.i64.wrap (k.tmod (8 : Int)) + (1 : Int))).tmod (8 : Int) == (0 : Int)) false, Dec (s == (-1 : Int)) true, Dec ((IntKind.i64.wrap (IntKind.i64.wrap (k.tmod (8 : Int)) + (1 : Int))).tmod (8 : Int) == (4 : Int)) false, Dec (s == (1 : Int)) true, Dec (d == (2 : Int)) true, Dec (!true == (s == (1 : Int))) false, Dec ((IntKind.i64.wrap (IntKind.i64.wrap (k.tmod (8 : Int)) + (1 : Int))).tmod (8 : Int) == (1 : Int)) true, Dec (d == (1 : Int)) true, (8 : Int) ≠ (0 : Int), Dec ((IntKind.i64.wrap (IntKind.i64.wrap (k.tmod (8 : Int)) - d)).tmod (2 : Int) != (0 : Int)) true, (2 : Int) ≠ (0 : Int), (8 : Int) ≠ (0 : Int)] (by kernel_rfl) ⟨(((cf d1).trans ((ct d2).trans ((ct d3).trans ((ct d4).trans ((ct d5).trans ((cf d6).trans ((ct d7).trans ((cf d8).trans rfl)))))))) : oddityF_v d s k = _).symm, d8, d7, d6, d4, d5, (dN (dT d4)), d3, d2, ?_, (dN d1), ?_, (?_ : (8 : Int) ≠ (0 : Int))⟩))
           (fun d7 => rr [true, true, true, false, true, true, false, false] [((IntKind.i64.wrap (IntKind.i64.wrap (k.tmod (8 : Int)) + (1 : Int))).tmod (8 : Int)) = oddityF_v d s k, Dec (s == (-1 : Int)) false, Dec ((IntKind.i64.wrap (IntKind.i64.wrap (k.tmod (8 : Int)) + (1 : Int))).tmod (8 : Int) == (4 : Int)) false, Dec (s == (1 : Int)) true, Dec (d == (2 : Int)) true, Dec (!true == (s == (1 : Int))) false, Dec ((IntKind.i64.wrap (IntKind.i64.wrap (k.tmod (8 : Int)) + (1 : Int))).tmod (8 : Int) == (1 : Int)) true, Dec (d == (1 : Int)) true, (8 : Int) ≠ (0 : Int), Dec ((IntKind.i64.wrap (IntKind.i64.wrap (k.tmod (8 : Int)) - d)).tmod (2 : Int) != (0 : Int)) true, (2 : Int) ≠ (0 : Int), (8 : Int) ≠ (0 : Int)] (by kernel_rfl) ⟨(((cf d1).trans ((ct d2).trans ((ct d3).trans ((ct d4).trans ((ct d5).trans ((cf d6).trans ((cf d7).trans rfl))))))) : oddityF_v d s k = _).symm, d7, d6, d4, d5, (dN (dT d4)), d3, d2, ?_, (dN d1), ?_, (?_ : (8 : Int) ≠ (0 : Int))⟩)))
           (fun d5 => rr [true, true, true, false, false] [((IntKind.i64.wrap (IntKind.i64.wrap (k.tmod (8 : Int)) + (1 : Int))).tmod (8 : Int)) = oddityF_v d s k, Dec (d == (2 : Int)) false, Dec (!true == (s == (1 : Int))) false, Dec ((IntKind.i64.wrap (IntKind.i64.wrap (k.tmod (8 : Int)) + (1 : Int))).tmod (8 : Int) == (1 : Int)) true, Dec (d == (1 : Int)) true, (8 : Int) ≠ (0 : Int), Dec ((IntKind.i64.wrap (IntKind.i64.wrap (k.tmod (8 : Int)) - d)).tmod (2 : Int) != (0 : Int)) true, (2 : Int) ≠ (0 : Int), (8 : Int) ≠ (0 : Int)] (by kernel_rfl) ⟨(((cf d1).trans ((ct d2).trans ((ct d3).trans ((ct d4).trans ((cf d5).trans rfl))))) : oddityF_v d s k = _).symm, d5, (dN (dT d4)), d3, d2, ?_, (dN d1), ?_, (?_ : (8 : Int) ≠ (0 : Int))⟩))
           (fun d4 => rr [true, true, true, true] [((IntKind.i64.wrap ((IntKind.i64.wrap (IntKind.i64.wrap (k.tmod (8 : Int)) + (1 : Int))).tmod (8 : Int) + (4 : Int))).tmod (8 : Int)) = oddityF_v d s k, (8 : Int) ≠ (0 : Int), Dec (!true == (s == (1 : Int))) true, Dec ((IntKind.i64.wrap (IntKind.i64.wrap (k.tmod (8 : Int)) + (1 : Int))).tmod (8 : Int) == (1 : Int)) true, Dec (d == (1 : Int)) true, (8 : Int) ≠ (0 : Int), Dec ((IntKind.i64.wrap (IntKind.i64.wrap (k.tmod (8 : Int)) - d)).tmod (2 : Int) != (0 : Int)) true, (2 : Int) ≠ (0 : Int), (8 : Int) ≠ (0 : Int)] (by kernel_rfl) ⟨(((cf d1).trans ((ct d2).trans ((ct d3).trans ((cf d4).trans rfl)))) : oddityF_v d s k = _).symm, ?_, (dN (dT d4)), d3, d2, ?_, (dN d1), ?_, (?_ : (8 : Int) ≠ (0 : Int))⟩))
           (fun d3 => Or.elim (Bool.eq_false_or_eq_true (((IntKind.i64.wrap (IntKind.i64.wrap (k.tmod (8 : Int)) + (1 : Int))).tmod (8 : Int) == (7 : Int)) == (s == (1 : Int)))) (fun d4 => Or.elim (Bool.eq_false_or_eq_true (d == (2 : Int))) (fun d5 => Or.elim (Bool.eq_false_or_eq_true (s == (1 : Int))) (fun d6 => Or.elim (Bool.eq_false_or_eq_true ((IntKind.i64.wrap (IntKind.i64.wrap (k.tmod (8 : Int)) + (1 : Int))).tmod (8 : Int) == (4 : Int))) (fun d7 => rr [true, true, false, false, true, true, true] [(2 : Int) = oddityF_v d s k, Dec ((IntKind.i64.wrap (IntKind.i64.wrap (k.tmod (8 : Int)) + (1 : Int))).tmod (8 : Int) == (4 : Int)) true, Dec (s == (1 : Int)) true, Dec (d == (2 : Int)) true, Dec (!((IntKind.i64.wrap (IntKind.i64.wrap (k.tmod (8 : Int)) + (1 : Int))).tmod (8 : Int) == (7 : Int)) == (s == (1 : Int))) false, Dec ((IntKind.i64.wrap (IntKind.i64.wrap (k.tmod (8 : Int)) + (1 : Int))).tmod (8 : Int) == (1 : Int)) false, Dec (d == (1 : Int)) true, (8 : Int) ≠ (0 : Int), Dec ((IntKind.i64.wrap (IntKind.i64.wrap (k.tmod (8 : Int)) - d)).tmod (2 : Int) != (0 : Int)) true, (2 : Int) ≠ (0 : Int), (8 : Int) ≠ (0 : Int)] (by kernel_rfl) ⟨(((cf d1).trans ((ct d2).trans ((cf d3).trans ((ct d4).trans ((ct d5).trans ((ct d6).trans ((ct d7).trans rfl))))))) : oddityF_v d s k = _).symm, d7, d6, d5, (dN d4), d3, d2, ?_, (dN d1), ?_, (?_ : (8 : Int) ≠ (0 : Int))⟩)
           (fun d7 => Or.elim (Bool.eq_false_or_eq_true (s == (-1 : Int))) (fun d8 => Or.elim (Bool.eq_false_or_eq_true ((IntKind.i64.wrap (IntKind.i64.wrap (k.tmod (8 : Int)) + (1 : Int))).tmod (8 : Int) == (0 : Int))) (fun d9 => rr [true, true, false, false, true, true, false, true, true] [(2 : Int) = oddityF_v d s k, Dec ((IntKind.i64.wrap (IntKind.i64.wrap (k.tmod (8 : Int)) + (1 : Int))).tmod (8 : Int) == (0 : Int)) true, Dec (s == (-1 : Int)) true, Dec ((IntKind.i64.wrap (IntKind.i64.wrap (k.tmod (8 : Int)) + (1 : Int))).tmod (8 : Int) == (4 : Int)) false, Dec (s == (1 : Int)) true, Dec (d == (2 : Int)) true, Dec (!((IntKind.i64.wrap (IntKind.i64.wrap (k.tmod (8 : Int)) + (1 : Int))).tmod (8 : Int) == (7 : Int)) == (s == (1 : Int))) false, Dec ((IntKind.i64.wrap (IntKind.i64.wrap (k.tmod (8 : Int)) + (1 : Int))).tmod (8 : Int) == (1 : Int)) false, Dec (d == (1 : Int)) true, (8 : Int) ≠ (0 : Int), Dec ((IntKind.i64.wrap (IntKind.i64.wrap (k.tmod (8 : Int)) - d)).tmod (2 : Int) != (0 : Int)) true, (2 : Int) ≠ (0 : Int), (8 : Int) ≠ (0 : Int)] (by kernel_rfl) ⟨(((cf d1).trans ((ct d2).trans ((cf d3).trans ((ct d4).trans ((ct d5).trans ((ct d6).trans ((cf d7).trans ((ct d8).trans ((ct d9).trans rfl))))))))) : oddityF_v d s k = _).symm, d9, d8, d7, d6, d5, (dN d4), d3, d2, ?_, (dN d1), ?_, (?_ : (8 : Int) ≠ (0 : Int))⟩)
           (fun d9 => rr [true, true, false, false, true, true, false, true, false] [((IntKind.i64.wrap (IntKind.i64.wrap (k.tmod (8 : Int)) + (1 : Int))).tmod (8 : Int)) = oddityF_v d s k, Dec ((IntKind.i64.wrap (IntKind.i64.wrap (k.tmod (8 : Int)) + (1 : Int))).tmod (8 : Int) == (0 : Int)) false, Dec (s == (-1 : Int)) true, Dec ((IntKind.i64.wrap (IntKind.i64.wrap (k.tmod (8 : Int)) + (1 : Int))).tmod (8 : Int) == (4 : Int)) false, Dec (s == (1 : Int)) true, Dec (d == (2 : Int)) true, Dec (!((IntKind.i64.wrap (IntKind.i64.wrap (k.tmod (8 : Int)) + (1 : Int))).tmod (8 : Int) == (7 : Int)) == (s == (1 : Int))) false, Dec ((IntKind.i64.wrap (IntKind.i64.wrap (k.tmod (8 : Int)) + (1 : Int))).tmod (8 : Int) == (1 : Int)) false, Dec (d == (1 : Int)) true, (8 : Int) ≠ (0 : Int), Dec ((IntKind.i64.wrap (IntKind.i64.wrap (k.tmod (8 : Int)) - d)).tmod (2 : Int) != (0 : Int)) true, (2 : Int) ≠ (0 : Int), (8 : Int) ≠ (0 : Int)] (by kernel_rfl) ⟨(((cf d1).trans ((ct d2).trans ((cf d3).trans ((ct d4).trans ((ct d5).trans ((ct d6).trans ((cf d7).trans ((ct d8).trans ((cf d9).trans rfl))))))))) : oddityF_v d s k = _).symm, d9, d8, d7, d6, d5, (dN d4), d3, d2, ?_, (dN d1), ?_, (?_ : (8 : Int) ≠ (0 : Int))⟩))
           (fun d8 => rr [true, true, false, false, true, true, false, false] [((IntKind.i64.wrap (IntKind.i64.wrap (k.tmod (8 : Int)) + (1 : Int))).tmod (8 : Int)) = oddityF_v d s k, Dec (s == (-1 : Int)) false, Dec ((IntKind.i64.wrap (IntKind.i64.wrap (k.tmod (8 : Int)) + (1 : Int))).tmod (8 : Int) == (4 : Int)) false, Dec (s == (1 : Int)) true, Dec (d == (2 : Int)) true, Dec (!((IntKind.i64.wrap (IntKind.i64.wrap (k.tmod (8 : Int)) + (1 : Int))).tmod (8 : Int) == (7 : Int)) == (s == (1 : Int))) false, Dec ((IntKind.i64.wrap (IntKind.i64.wrap (k.tmod (8 : Int)) + (1 : Int))).tmod (8 : Int) == (1 : Int)) false, Dec (d == (1 : Int)) true, (8 : Int) ≠ (0 : Int), Dec ((IntKind.i64.wrap (IntKind.i64.wrap (k.tmod (8 : Int)) - d)).tmod (2 : Int) != (0 : Int)) true, (2 : Int) ≠ (0 : Int), (8 : Int) ≠ (0 : Int)] (by kernel_rfl) ⟨(((cf d1).trans ((ct d2).trans ((cf d3).trans ((ct d4).trans ((ct d5).trans ((ct d6).trans ((cf d7).trans ((cf d8).trans rfl)))))))) : oddityF_v d s k = _).symm, d8, d7, d6, d5, (dN d4), d3, d2, ?_, (dN d1), ?_, (?_ : (8 : Int) ≠ (0 : Int))⟩)))
           (fun d6 => Or.elim (Bool.eq_false_or_eq_true (s == (-1 : Int))) (fun d7 => Or.elim (Bool.eq_false_or_eq_true ((IntKind.i64.wrap (IntKind.i64.wrap (k.tmod (8 : Int)) + (1 : Int))).tmod (8 : Int) == (0 : Int))) (fun d8 => rr [true, true, false, false, true, false, true, true] [(2 : Int) = oddityF_v d s k, Dec ((IntKind.i64.wrap (IntKind.i64.wrap (k.tmod (8 : Int)) + (1 : Int))).tmod (8 : Int) == (0 : Int)) true, Dec (s == (-1 : Int)) true, Dec (s == (1 : Int)) false, Dec (d == (2 : Int)) true, Dec (!((IntKind.i64.wrap (IntKind.i64.wrap (k.tmod (8 : Int)) + (1 : Int))).tmod (8 : Int) == (7 : Int)) == (s == (1 : Int))) false, Dec ((IntKind.i64.wrap (IntKind.i64.wrap (k.tmod (8 : Int)) + (1 : Int))).tmod (8 : Int) == (1 : Int)) false, Dec (d == (1 : Int)) true, (8 : Int) ≠ (0 : Int), Dec ((IntKind.i64.wrap (IntKind.i64.wrap (k.tmod (8 : Int)) - d)).tmod (2 : Int) != (0 : Int)) true, (2 : Int) ≠ (0 : Int), (8 : Int) ≠ (0 : Int)] (by kernel_rfl) ⟨(((cf d1).trans ((ct d2).trans ((cf d3).trans ((ct d4).trans ((ct d5).trans ((cf d6).trans ((ct d7).trans ((ct d8).trans rfl)))))))) : oddityF_v d s k = _).symm, d8, d7, d6, d5, (dN d4), d3, d2, ?_, (dN d1), ?_, (?_ : (8 : Int) ≠ (0 : Int))⟩)
           (fun d8 => rr [true, true, false, false, true, false, true, false] [((IntKind.i64.wrap (IntKind.i64.wrap (k.tmod (8 : Int)) + (1 : Int))).tmod (8 : Int)) = oddityF_v d s k, Dec ((IntKind.i64.wrap (IntKind.i64.wrap (k.tmod (8 : Int)) + (1 : Int))).tmod (8 : Int) == (0 : Int)) false, Dec (s == (-1 : Int)) true, Dec (s == (1 : Int)) false, Dec (d == (2 : Int)) true, Dec (!((IntKind.i64.wrap (IntKind.i64.wrap (k.tmod (8 : Int)) + (1 : Int))).tmod (8 : Int) == (7 : Int)) == (s == (1 : Int))) false, Dec ((IntKind.i64.wrap (IntKind.i64.wrap (k.tmod (8 : Int)) + (1 : Int))).tmod (8 : Int) == (1 : Int)) false, Dec (d == (1 : Int)) true, (8 : Int) ≠ (0 : Int), Dec ((IntKind.i64.wrap (IntKind.i64.wrap (k.tmod (8 : Int)) - d)).tmod (2 : Int) != (0 : Int)) true, (2 : Int) ≠ (0 : Int), (8 : Int) ≠ (0 : Int)] (by kernel_rfl) ⟨(((cf d1).trans ((ct d2).trans ((cf d3).trans ((ct d4).trans ((ct d5).trans ((cf d6).trans ((ct d7).trans ((cf d8).trans rfl)))))))) : oddityF_v d s k = _).symm, d8, d7, d6, d5, (dN d4), d3, d2, ?_, (dN d1), ?_, (?_ : (8 : Int) ≠ (0 : Int))⟩))
           (fun d7 => rr [true, true, false, false, true, false, false] [((IntKind.i64.wrap (IntKind.i64.wrap (k.tmod (8 : Int)) + (1 : Int))).tmod (8 : Int)) = oddityF_v d s k, Dec (s == (-1 : Int)) false, Dec (s == (1 : Int)) false, Dec (d == (2 : Int)) true, Dec (!((IntKind.i64.wrap (IntKind.i64.wrap (k.tmod (8 : Int)) + (1 : Int))).tmod (8 : Int) == (7 : Int)) == (s == (1 : Int))) false, Dec ((IntKind.i64.wrap (IntKind.i64.wrap (k.tmod (8 : Int)) + (1 : Int))).tmod (8 : Int) == (1 : Int)) false, Dec (d == (1 : Int)) true, (8 : Int) ≠ (0 : Int), Dec ((IntKind.i64.wrap (IntKind.i64.wrap (k.tmod (8 : Int)) - d)).tmod (2 : Int) != (0 : Int)) true, (2 : Int) ≠ (0 : Int), (8 : Int) ≠ (0 : Int)] (by kernel_rfl) ⟨(((cf d1).trans ((ct d2).trans ((cf d3).trans ((ct d4).trans ((ct d5).trans ((cf d6).trans ((cf d7).trans rfl))))))) : oddityF_v d s k = _).symm, d7, d6, d5, (dN d4), d3, d2, ?_, (dN d1), ?_, (?_ : (8 : Int) ≠ (0 : Int))⟩)))
           (fun d5 => rr [true, true, false, false, false] [((IntKind.i64.wrap (IntKind.i64.wrap (k.tmod (8 : Int)) + (1 : Int))).tmod (8 : Int)) = oddityF_v d s k, Dec (d == (2 : Int)) false, Dec (!((IntKind.i64.wrap (IntKind.i64.wrap (k.tmod (8 : Int)) + (1 : Int))).tmod (8 : Int) == (7 : Int)) == (s == (1 : Int))) false, Dec ((IntKind.i64.wrap (IntKind.i64.wrap (k.tmod (8 : Int)) + (1 : Int))).tmod (8 : Int) == (1 : Int)) false, Dec (d == (1 : Int)) true, (8 : Int) ≠ (0 : Int), Dec ((IntKind.i64.wrap (IntKind.i64.wrap (k.tmod (8 : Int)) - d)).tmod (2 : Int) != (0 : Int)) true, (2 : Int) ≠ (0 : Int), (8 : Int) ≠ (0 : Int)] (by kernel_rfl) ⟨(((cf d1).trans ((ct d2).trans ((cf d3).trans ((ct d4).trans ((cf d5).trans rfl))))) : oddityF_v d s k = _).symm, d5, (dN d4), d3, d2, ?_, (dN d1), ?_, (?_ : (8 : Int) ≠ (0 : Int))⟩))
           (fun d4 => rr [true, true, false, true] [((IntKind.i64.wrap ((IntKind.i64.wrap (IntKind.i64.wrap (k.tmod (8 : Int)) + (1 : Int))).tmod (8 : Int) + (4 : Int))).tmod (8 : Int)) = oddityF_v d s k, (8 : Int) ≠ (0 : Int), Dec (!((IntKind.i64.wrap (IntKind.i64.wrap (k.tmod (8 : Int)) + (1 : Int))).tmod (8 : Int) == (7 : Int)) == (s == (1 : Int))) true, Dec ((IntKind.i64.wrap (IntKind.i64.wrap (k.tmod (8 : Int)) + (1 : Int))).tmod (8 : Int) == (1 : Int)) false, Dec (d == (1 : Int)) true, (8 : Int) ≠ (0 : Int), Dec ((IntKind.i64.wrap (IntKind.i64.wrap (k.tmod (8 : Int)) - d)).tmod (2 : Int) != (0 : Int)) true, (2 : Int) ≠ (0 : Int), (8 : Int) ≠ (0 : Int)] (by kernel_rfl) ⟨(((cf d1).trans ((ct d2).trans ((cf d3).trans ((cf d4).trans rfl)))) : oddityF_v d s k = _).symm, ?_, (dN d4), d3, d2, ?_, (dN d1), ?_, (?_ : (8 : Int) ≠ (0 : Int))⟩)))
           (fun d2 => Or.elim (Bool.eq_false_or_eq_true (d == (2 : Int))) (fun d3 => Or.elim (Bool.eq_false_or_eq_true (s == (1 : Int))) (fun d4 => Or.elim (Bool.eq_false_or_eq_true ((IntKind.i64.wrap (IntKind.i64.wrap (k.tmod (8 : Int)) + (1 : Int))).tmod (8 : Int) == (4 : Int))) (fun d5 => rr [true, false, true, true, true] [(2 : Int) = oddityF_v d s k, Dec ((IntKind.i64.wrap (IntKind.i64.wrap (k.tmod (8 : Int)) + (1 : Int))).tmod (8 : Int) == (4 : Int)) true, Dec (s == (1 : Int)) true, Dec (d == (2 : Int)) true, Dec (d == (1 : Int)) false, (8 : Int) ≠ (0 : Int), Dec ((IntKind.i64.wrap (IntKind.i64.wrap (k.tmod (8 : Int)) - d)).tmod (2 : Int) != (0 : Int)) true, (2 : Int) ≠ (0 : Int), (8 : Int) ≠ (0 : Int)] (by kernel_rfl) ⟨(((cf d1).trans ((cf d2).trans ((ct d3).trans ((ct d4).trans ((ct d5).trans rfl))))) : oddityF_v d s k = _).symm, d5, d4, d3, d2, ?_, (dN d1), ?_, (?_ : (8 : Int) ≠ (0 : Int))⟩)
           (fun d5 => Or.elim (Bool.eq_false_or_eq_true (s == (-1 : Int))) (fun d6 => Or.elim (Bool.eq_false_or_eq_true ((IntKind.i64.wrap (IntKind.i64.wrap (k.tmod (8 : Int)) + (1 : Int))).tmod (8 : Int) == (0 : Int))) (fun d7 => rr [true, false, true, true, false, true, true] [(2 : Int) = oddityF_v d s k, Dec ((IntKind.i64.wrap (IntKind.i64.wrap (k.tmod (8 : Int)) + (1 : Int))).tmod (8 : Int) == (0 : Int)) true, Dec (s == (-1 : Int)) true, Dec ((IntKind.i64.wrap (IntKind.i64.wrap (k.tmod (8 : Int)) + (1 : Int))).tmod (8 : Int) == (4 : Int)) false, Dec (s == (1 : Int)) true, Dec (d == (2 : Int)) true, Dec (d == (1 : Int)) false, (8 : Int) ≠ (0 : Int), Dec ((IntKind.i64.wrap (IntKind.i64.wrap (k.tmod (8 : Int)) - d)).tmod (2 : Int) != (0 : Int)) true, (2 : Int) ≠ (0 : Int), (8 : Int) ≠ (0 : Int)] (by kernel_rfl) ⟨(((cf d1).trans ((cf d2).trans ((ct d3).trans ((ct d4).trans ((cf d5).trans ((ct d6).trans ((ct d7).trans rfl))))))) : oddityF_v d s k = _).symm, d7, d6, d5, d4, d3, d2, ?_, (dN d1), ?_, (?_ : (8 : Int) ≠ (0 : Int))⟩)
           (fun d7 => rr [true, false, true, true, false, true, false] [((IntKind.i64.wrap (IntKind.i64.wrap (k.tmod (8 : Int)) + (1 : Int))).tmod (8 : Int)) = oddityF_v d s k, Dec ((IntKind.i64.wrap (IntKind.i64.wrap (k.tmod (8 : Int)) + (1 : Int))).tmod (8 : Int) == (0 : Int)) false, Dec (s == (-1 : Int)) true, Dec ((IntKind.i64.wrap (IntKind.i64.wrap (k.tmod (8 : Int)) + (1 : Int))).tmod (8 : Int) == (4 : Int)) false, Dec (s == (1 : Int)) true, Dec (d == (2 : Int)) true, Dec (d == (1 : Int)) false, (8 : Int) ≠ (0 : Int), Dec ((IntKind.i64.wrap (IntKind.i64.wrap (k.tmod (8 : Int)) - d)).tmod (2 : Int) != (0 : Int)) true, (2 : Int) ≠ (0 : Int), (8 : Int) ≠ (0 : Int)] (by kernel_rfl) ⟨(((cf d1).trans ((cf d2).trans ((ct d3).trans ((ct d4).trans ((cf d5).trans ((ct d6).trans ((cf d7).trans rfl))))))) : oddityF_v d s k = _).symm, d7, d6, d5, d4, d3, d2, ?_, (dN d1), ?_, (?_ : (8 : Int) ≠ (0 : Int))⟩))
           (fun d6 => rr [true, false, true, true, false, false] [((IntKind.i64.wrap (IntKind.i64.wrap (k.tmod (8 : Int)) + (1 : Int))).tmod (8 : Int)) = oddityF_v d s k, Dec (s == (-1 : Int)) false, Dec ((IntKind.i64.wrap (IntKind.i64.wrap (k.tmod (8 : Int)) + (1 : Int))).tmod (8 : Int) == (4 : Int)) false, Dec (s == (1 : Int)) true, Dec (d == (2 : Int)) true, Dec (d == (1 : Int)) false, (8 : Int) ≠ (0 : Int), Dec ((IntKind.i64.wrap (IntKind.i64.wrap (k.tmod (8 : Int)) - d)).tmod (2 : Int) != (0 : Int)) true, (2 : Int) ≠ (0 : Int), (8 : Int) ≠ (0 : Int)] (by kernel_rfl) ⟨(((cf d1).trans ((cf d2).trans ((ct d3).trans ((ct d4).trans ((cf d5).trans ((cf d6).trans rfl)))))) : oddityF_v d s k = _).symm, d6, d5, d4, d3, d2, ?_, (dN d1), ?_, (?_ : (8 : Int) ≠ (0 : Int))⟩)))
           (fun d4 => Or.elim (Bool.eq_false_or_eq_true (s == (-1 : Int))) (fun d5 => Or.elim (Bool.eq_false_or_eq_true ((IntKind.i64.wrap (IntKind.i64.wrap (k.tmod (8 : Int)) + (1 : Int))).tmod (8 : Int) == (0 : Int))) (fun d6 => rr [true, false, true, false, true, true] [(2 : Int) = oddityF_v d s k, Dec ((IntKind.i64.wrap (IntKind.i64.wrap (k.tmod (8 : Int)) + (1 : Int))).tmod (8 : Int) == (0 : Int)) true, Dec (s == (-1 : Int)) true, Dec (s == (1 : Int)) false, Dec (d == (2 : Int)) true, Dec (d == (1 : Int)) false, (8 : Int) ≠ (0 : Int), Dec ((IntKind.i64.wrap (IntKind.i64.wrap (k.tmod (8 : Int)) - d)).tmod (2 : Int) != (0 : Int)) true, (2 : Int) ≠ (0 : Int), (8 : Int) ≠ (0 : Int)] (by kernel_rfl) ⟨(((cf d1).trans ((cf d2).trans ((ct d3).trans ((cf d4).trans ((ct d5).trans ((ct d6).trans rfl)))))) : oddityF_v d s k = _).symm, d6, d5, d4, d3, d2, ?_, (dN d1), ?_, (?_ : (8 : Int) ≠ (0 : Int))⟩)
           (fun d6 => rr [true, false, true, false, true, false] [((IntKind.i64.wrap (IntKind.i64.wrap (k.tmod (8 : Int)) + (1 : Int))).tmod (8 : Int)) = oddityF_v d s k, Dec ((IntKind.i64.wrap (IntKind.i64.wrap (k.tmod (8 : Int)) + (1 : Int))).tmod (8 : Int) == (0 : Int)) false, Dec (s == (-1 : Int)) true, Dec (s == (1 : Int)) false, Dec (d == (2 : Int)) true, Dec (d == (1 : Int)) false, (8 : Int) ≠ (0 : Int), Dec ((IntKind.i64.wrap (IntKind.i64.wrap (k.tmod (8 : Int)) - d)).tmod (2 : Int) != (0 : Int)) true, (2 : Int) ≠ (0 : Int), (8 : Int) ≠ (0 : Int)] (by kernel_rfl) ⟨(((cf d1).trans ((cf d2).trans ((ct d3).trans ((cf d4).trans ((ct d5).trans ((cf d6).trans rfl)))))) : oddityF_v d s k = _).symm, d6, d5, d4, d3, d2, ?_, (dN d1), ?_, (?_ : (8 : Int) ≠ (0 : Int))⟩))
           (fun d5 => rr [true, false, true, false, false] [((IntKind.i64.wrap (IntKind.i64.wrap (k.tmod (8 : Int)) + (1 : Int))).tmod (8 : Int)) = oddityF_v d s k, Dec (s == (-1 : Int)) false, Dec (s == (1 : Int)) false, Dec (d == (2 : Int)) true, Dec (d == (1 : Int)) false, (8 : Int) ≠ (0 : Int), Dec ((IntKind.i64.wrap (IntKind.i64.wrap (k.tmod (8 : Int)) - d)).tmod (2 : Int) != (0 : Int)) true, (2 : Int) ≠ (0 : Int), (8 : Int) ≠ (0 : Int)] (by kernel_rfl) ⟨(((cf d1).trans ((cf d2).trans ((ct d3).trans ((cf d4).trans ((cf d5).trans rfl))))) : oddityF_v d s k = _).symm, d5, d4, d3, d2, ?_, (dN d1), ?_, (?_ : (8 : Int) ≠ (0 : Int))⟩)))
           (fun d3 => rr [true, false, false] [((IntKind.i64.wrap (IntKind.i64.wrap (k.tmod (8 : Int)) + (1 : Int))).tmod (8 : Int)) = oddityF_v d s k, Dec (d == (2 : Int)) false, Dec (d == (1 : Int)) false, (8 : Int) ≠ (0 : Int), Dec ((IntKind.i64.wrap (IntKind.i64.wrap (k.tmod (8 : Int)) - d)).tmod (2 : Int) != (0 : Int)) true, (2 : Int) ≠ (0 : Int), (8 : Int) ≠ (0 : Int)] (by kernel_rfl) ⟨(((cf d1).trans ((cf d2).trans ((cf d3).trans rfl))) : oddityF_v d s k = _).symm, d3, d2, ?_, (dN d1), ?_, (?_ : (8 : Int) ≠ (0 : Int))⟩)))
  all_goals first | (decide)
end Go.Proofs.YtkkmlbhmcdoibaaGreatDoor.S

namespace Go.Proofs.YtkkmlbhmcdoibaaGreatDoor.S
open Go.QfSy Go.RowKit
def dimM (p : Prt) (r : Int) : Int := 1 + p.x1 % (if r < 3 then r else 3)
def signM (p : Prt) : Int := 1 - 2 * (p.x2 % 2)
def oddM (p : Prt) (r : Int) (two : Bool) : Bool := bif two then (bif dimM p r % 2 == 1 then true else decide (p.x3 % 3 > 0)) else false
noncomputable def conM (p : Prt) (e r : Int) (two : Bool) : Con := ⟨e, dimM p r, signM p, oddM p r two, bif oddM p r two then oddityF_v (dimM p r) (signM p) p.x4 else 0⟩
noncomputable def entsO : List OEnt := [
  ⟨53, [], fun A => match A with
    | [.int .i64 d, .int .i64 s, .int .u8 k] => some (.int .i64 (oddityF_v d s k), [])
    | _ => none⟩]
theorem entsO_ok : ∀ e ∈ entsO, EntOk Tryz.prog e := by
  intro e he
  simp only [entsO, List.mem_cons, List.not_mem_nil, or_false] at he
  subst he
  intro A R ms h hm
  simp only at h
  split at h
  · cases h; exact oddityF _ _ _
  · cases h
theorem dimM_b {p : Prt} {r : Int} (hp : p.ok) (h1 : 1 ≤ r) : 1 ≤ dimM p r ∧ dimM p r ≤ 3 ∧ dimM p r ≤ r := by
  obtain ⟨_, ⟨a, b⟩, _⟩ := hp
  unfold dimM
  split
  · have := Int.emod_nonneg p.x1 (b := r) (by omega)
    have := Int.emod_lt_of_pos p.x1 (b := r) (by omega)
    omega
  · omega
theorem signM_b {p : Prt} (hp : p.ok) : signM p = 1 ∨ signM p = -1 := by
  unfold signM; omega
theorem raw_dim {p : Prt} {r : Int} (hp : p.ok) (h1 : 1 ≤ r) (h2 : r ≤ 100) : IntKind.i64.wrap ((1 : Int) + (IntKind.i64.wrap p.x1).tmod (if r < (3 : Int) then r else (3 : Int))) = dimM p r := by
  have hb := dimM_b hp h1
  obtain ⟨_, ⟨a, b⟩, _⟩ := hp
  rw [w64 (n := p.x1) (by omega) (by omega), Int.tmod_eq_emod_of_nonneg a]
  exact w64 (by unfold dimM at hb; omega) (by unfold dimM at hb; omega)
theorem raw_sign {p : Prt} (hp : p.ok) : IntKind.i64.wrap ((1 : Int) - IntKind.i64.wrap ((2 : Int) * IntKind.i64.wrap (p.x2.tmod (2 : Int)))) = signM p := by
  obtain ⟨_, _, ⟨a, b⟩, _⟩ := hp
  rw [Int.tmod_eq_emod_of_nonneg a]
  unfold signM
  rw [w64 (n := p.x2 % 2) (by omega) (by omega), w64 (n := 2 * (p.x2 % 2)) (by omega) (by omega), w64 (by omega) (by omega)]
set_option maxRecDepth 100000 in
theorem constituentF (p : Prt) (e r : Int) (two : Bool) (hp : p.ok) (h1 : 1 ≤ r) (h2 : r ≤ 100) : PureC Tryz.prog [] 35 [.agg p.rvs, .int .i64 e, .int .i64 r, .bool two] (.agg (conM p e r two).rvs) := by
  have hd := raw_dim hp h1 h2; have hs := raw_sign hp; have hb := dimM_b hp h1; have ht : (dimM p r).tmod 2 = dimM p r % 2 := Int.tmod_eq_emod_of_nonneg (by omega); have hx : p.x3.tmod 3 = p.x3 % 3 := Int.tmod_eq_emod_of_nonneg (by have := hp.2.2.2.1.1; omega)
  have rr := fun (tp : List Bool) (ms : List Prop) h hm => pure_run evOk (callF_ok evOk (orcOf_ok entsO_ok) 8) Tryz.func35 (A := [.agg p.rvs, .int .i64 e, .int .i64 r, .bool two]) rfl none_ann rfl rfl evNg (tabs := []) (R := .agg (conM p e r two).rvs) (tp := tp) (ms := ms) h hm
  refine Or.elim (Bool.eq_false_or_eq_true (two)) (fun d1 => Or.elim (Bool.eq_false_or_eq_true ((IntKind.i64.wrap ((1 : Int) + (IntKind.i64.wrap p.x1).tmod (if r < (3 : Int) then r else (3 : Int)))).tmod (2 : Int) == (1 : Int))) (fun d2 => rr [true, true] [e = (conM p e r two).exp, IntKind.i64.wrap ((1 : Int) + (IntKind.i64.wrap p.x1).tmod (if r < (3 : Int) then r else (3 : Int))) = (conM p e r two).dim, IntKind.i64.wrap ((1 : Int) - IntKind.i64.wrap ((2 : Int) * IntKind.i64.wrap (p.x2.tmod (2 : Int)))) = (conM p e r two).sign, true = (conM p e r two).odd, oddityF_v (IntKind.i64.wrap ((1 : Int) + (IntKind.i64.wrap p.x1).tmod (if r < (3 : Int) then r else (3 : Int)))) (IntKind.i64.wrap ((1 : Int) - IntKind.i64.wrap ((2 : Int) * IntKind.i64.wrap (p.x2.tmod (2 : Int))))) p.x4 = (conM p e r two).oddity, Dec ((IntKind.i64.wrap ((1 : Int) + (IntKind.i64.wrap p.x1).tmod (if r < (3 : Int) then r else (3 : Int)))).tmod (2 : Int) == (1 : Int)) true, (2 : Int) ≠ (0 : Int), Dec two true, (2 : Int) ≠ (0 : Int), (if r < (3 : Int) then r else (3 : Int)) ≠ (0 : Int)] (by kernel_rfl) ⟨?_, ?_, ?_, ?_, ?_, d2, ?_, d1, ?_, (?_ : (if r < (3 : Int) then r else (3 : Int)) ≠ (0 : Int))⟩)
           (fun d2 => Or.elim (Bool.eq_false_or_eq_true (decide (p.x3.tmod (3 : Int) > (0 : Int)))) (fun d3 => rr [true, false, true] [e = (conM p e r two).exp, IntKind.i64.wrap ((1 : Int) + (IntKind.i64.wrap p.x1).tmod (if r < (3 : Int) then r else (3 : Int))) = (conM p e r two).dim, IntKind.i64.wrap ((1 : Int) - IntKind.i64.wrap ((2 : Int) * IntKind.i64.wrap (p.x2.tmod (2 : Int)))) = (conM p e r two).sign, decide (p.x3.tmod (3 : Int) > (0 : Int)) = (conM p e r two).odd, oddityF_v (IntKind.i64.wrap ((1 : Int) + (IntKind.i64.wrap p.x1).tmod (if r < (3 : Int) then r else (3 : Int)))) (IntKind.i64.wrap ((1 : Int) - IntKind.i64.wrap ((2 : Int) * IntKind.i64.wrap (p.x2.tmod (2 : Int))))) p.x4 = (conM p e r two).oddity, Dec (decide (p.x3.tmod (3 : Int) > (0 : Int))) true, (3 : Int) ≠ (0 : Int), Dec ((IntKind.i64.wrap ((1 : Int) + (IntKind.i64.wrap p.x1).tmod (if r < (3 : Int) then r else (3 : Int)))).tmod (2 : Int) == (1 : Int)) false, (2 : Int) ≠ (0 : Int), Dec two true, (2 : Int) ≠ (0 : Int), (if r < (3 : Int) then r else (3 : Int)) ≠ (0 : Int)] (by kernel_rfl) ⟨?_, ?_, ?_, ?_, ?_, d3, ?_, d2, ?_, d1, ?_, (?_ : (if r < (3 : Int) then r else (3 : Int)) ≠ (0 : Int))⟩)
           (fun d3 => rr [true, false, false] [e = (conM p e r two).exp, IntKind.i64.wrap ((1 : Int) + (IntKind.i64.wrap p.x1).tmod (if r < (3 : Int) then r else (3 : Int))) = (conM p e r two).dim, IntKind.i64.wrap ((1 : Int) - IntKind.i64.wrap ((2 : Int) * IntKind.i64.wrap (p.x2.tmod (2 : Int)))) = (conM p e r two).sign, decide (p.x3.tmod (3 : Int) > (0 : Int)) = (conM p e r two).odd, (0 : Int) = (conM p e r two).oddity, Dec (decide (p.x3.tmod (3 : Int) > (0 : Int))) false, (3 : Int) ≠ (0 : Int), Dec ((IntKind.i64.wrap ((1 : Int) + (IntKind.i64.wrap p.x1).tmod (if r < (3 : Int) then r else (3 : Int)))).tmod (2 : Int) == (1 : Int)) false, (2 : Int) ≠ (0 : Int), Dec two true, (2 : Int) ≠ (0 : Int), (if r < (3 : Int) then r else (3 : Int)) ≠ (0 : Int)] (by kernel_rfl) ⟨?_, ?_, ?_, ?_, ?_, d3, ?_, d2, ?_, d1, ?_, (?_ : (if r < (3 : Int) then r else (3 : Int)) ≠ (0 : Int))⟩)))
           (fun d1 => rr [false] [e = (conM p e r two).exp, IntKind.i64.wrap ((1 : Int) + (IntKind.i64.wrap p.x1).tmod (if r < (3 : Int) then r else (3 : Int))) = (conM p e r two).dim, IntKind.i64.wrap ((1 : Int) - IntKind.i64.wrap ((2 : Int) * IntKind.i64.wrap (p.x2.tmod (2 : Int)))) = (conM p e r two).sign, false = (conM p e r two).odd, (0 : Int) = (conM p e r two).oddity, Dec two false, (2 : Int) ≠ (0 : Int), (if r < (3 : Int) then r else (3 : Int)) ≠ (0 : Int)] (by kernel_rfl) ⟨?_, ?_, ?_, ?_, ?_, d1, ?_, (?_ : (if r < (3 : Int) then r else (3 : Int)) ≠ (0 : Int))⟩)
  all_goals first | (first | rfl | decide | (split <;> omega) | (simp only [hd, hs, ht, hx] at * <;> simp only [conM, oddM, hd, hs, ht, hx, *, cond_true, cond_false]))
end Go.Proofs.YtkkmlbhmcdoibaaGreatDoor.S

namespace Go.Proofs.YtkkmlbhmcdoibaaGreatDoor.S
open Go.QfSy Go.RowKit
abbrev atP (X : List Prt) (i : Nat) : Prt := X.getD i Prt.zero
theorem dropP {X : List Prt} {k : Nat} (h : k < X.length) : X.drop k = atP X k :: X.drop (k + 1) := by
  rw [List.drop_eq_getElem_cons h]
  simp [atP, h]
theorem okP {X : List Prt} (hX : ∀ p ∈ X, p.ok) (k : Nat) : (atP X k).ok := by
  unfold atP
  rcases Nat.lt_or_ge k X.length with h | h
  · have : X.getD k Prt.zero = X[k] := by simp [h]
    rw [this]
    exact hX _ (List.getElem_mem h)
  · have : X.getD k Prt.zero = Prt.zero := by simp [h]
    rw [this]
    refine ⟨?_, ?_, ?_, ?_, ?_⟩ <;> (unfold U8 Prt.zero; decide)
def expM (p : Prt) (e : Int) : Int := e + (1 + p.x0 % 4 % 3)
theorem expM_b {p : Prt} (e : Int) : e + 1 ≤ expM p e ∧ expM p e ≤ e + 3 := by unfold expM; omega
theorem raw_exp {p : Prt} (hp : p.ok) {e : Int} (h1 : -1 ≤ e) (h2 : e ≤ 1000000000) : IntKind.i64.wrap (e + IntKind.i64.wrap ((1 : Int) + ((IntKind.i64.wrap p.x0).tmod (4 : Int)).tmod (3 : Int))) = expM p e := by
  obtain ⟨⟨a, b⟩, _⟩ := hp
  rw [w64 (n := p.x0) (by omega) (by omega), Int.tmod_eq_emod_of_nonneg a, Int.tmod_eq_emod_of_nonneg (by omega)]
  unfold expM
  rw [w64 (n := 1 + p.x0 % 4 % 3) (by omega) (by omega), w64 (by omega) (by omega)]
noncomputable def listM (most : Int) (two : Bool) : List Prt → Int → Int → List Con
  | [], _, _ => []
  | p :: X, e, n => if n ≥ most then [] else conM p (expM p e) (most - n) two :: listM most two X (expM p e) (n + dimM p (most - n))
noncomputable def listF (most : Int) (two : Bool) (X : List Prt) : List Con := listM most two X (-1) 0
noncomputable def listV (most : Int) (two : Bool) (X : List Prt) : List Con := bif (listF most two X).isEmpty then [conM Prt.zero 0 1 two] else listF most two X
noncomputable def entsC : List OEnt := [
  ⟨35, [], fun A => match A with
    | [.agg [.int .u8 x0, .int .u8 x1, .int .u8 x2, .int .u8 x3, .int .u8 x4], .int .i64 e, .int .i64 r, .bool two] => some (.agg (conM ⟨x0, x1, x2, x3, x4⟩ e r two).rvs, [(⟨x0, x1, x2, x3, x4⟩ : Prt).ok ∧ 1 ≤ r ∧ r ≤ 100])
    | _ => none⟩]
theorem entsC_ok : ∀ e ∈ entsC, EntOk Tryz.prog e := by
  intro e he
  simp only [entsC, List.mem_cons, List.not_mem_nil, or_false] at he
  subst he
  intro A R ms h hm
  simp only at h
  split at h
  · cases h
    obtain ⟨h1, h2, h3⟩ := all_one hm
    exact constituentF _ _ _ _ h1 h2 h3
  · cases h
noncomputable def listA (most : Int) (two : Bool) (X : List Prt) : Ann := ⟨⟨[(1, .vint .i64 most), (2, .vbool two), (7, .nils), (8, .int .i64 (-1)), (9, .int .i64 0), (14, (roP X).av), (15, .vint .i64 X.length), (16, .int .i64 0)], [], 1001⟩, some (listF most two X).isEmpty, fun d => match d with
  | true => (.exit 0, ⟨[(2, .vbool two), (7, .nils), (9, .int .i64 0)], [], 1001⟩)
  | false => (.exit 0, ⟨[(2, .vbool two), (7, .lo 1001 (listF most two X).length), (9, .vint .i64 (dimS (listF most two X)))], [(1001, ⟨.con (listF most two X), 25, 5, true, true⟩)], 1002⟩)⟩
noncomputable def listS (most : Int) (two : Bool) (X : List Prt) : Nat × Int × Int × List Con → St
  | (k, e, n, []) => ⟨[(1, .vint .i64 most), (2, .vbool two), (7, .nils), (8, .vint .i64 e), (9, .vint .i64 n), (14, (roP X).av), (15, .vint .i64 X.length), (16, .vint .i64 (k : Int))], [], 1002⟩
  | (k, e, n, c :: l) => ⟨[(1, .vint .i64 most), (2, .vbool two), (7, .lo 1001 (l.length + 1)), (8, .vint .i64 e), (9, .vint .i64 n), (14, (roP X).av), (15, .vint .i64 X.length), (16, .vint .i64 (k : Int))], [(1001, ⟨.con (c :: l), 25, 5, true, true⟩)], 1002⟩
theorem dimS_nonneg {L : List Con} (h : ∀ c ∈ L, 1 ≤ c.dim) : 0 ≤ dimS L ∧ (L ≠ [] → 1 ≤ dimS L) := by
  induction L with
  | nil => simp [dimS]
  | cons c l ih =>
    have h1 := h c (by simp)
    have h2 := (ih (fun x hx => h x (by simp [hx]))).1
    simp only [dimS]
    exact ⟨by omega, fun _ => by omega⟩
def listI (most : Int) (two : Bool) (X : List Prt) (i : Nat × Int × Int × List Con) : Prop :=
  i.1 ≤ X.length ∧ -1 ≤ i.2.1 ∧ i.2.1 ≤ 3 * (i.1 : Int) ∧ 0 ≤ i.2.2.1 ∧ i.2.2.1 ≤ most ∧ i.2.2.1 = dimS i.2.2.2 ∧ i.2.2.2.length ≤ i.1 ∧ (∀ c ∈ i.2.2.2, 1 ≤ c.dim) ∧ i.2.2.2 ++ listM most two (X.drop i.1) i.2.1 i.2.2.1 = listF most two X
theorem listI_next {most : Int} {two : Bool} {X : List Prt} (hX : ∀ p ∈ X, p.ok) {k : Nat} {e n : Int} {acc : List Con} (h : listI most two X (k, e, n, acc)) (hk : k < X.length) (hn : n < most) :
    listI most two X (k + 1, expM (atP X k) e, n + dimM (atP X k) (most - n), acc ++ [conM (atP X k) (expM (atP X k) e) (most - n) two]) := by
  obtain ⟨a1, a2, a3, a4, a5, a6, a7, a8, a9⟩ := h
  simp only at a1 a2 a3 a4 a5 a6 a7 a8 a9
  have hb := expM_b (p := atP X k) e
  have hd := dimM_b (okP hX k) (r := most - n) (by omega)
  refine ⟨hk, ?_, ?_, ?_, ?_, ?_, ?_, ?_, ?_⟩
  · show -1 ≤ expM (atP X k) e
    omega
  · show expM (atP X k) e ≤ 3 * ((k + 1 : Nat) : Int)
    omega
  · show 0 ≤ n + dimM (atP X k) (most - n)
    omega
  · show n + dimM (atP X k) (most - n) ≤ most
    omega
  · show n + dimM (atP X k) (most - n) = dimS (acc ++ [_])
    rw [dimS_append, ← a6]
    simp [dimS, conM]
  · show (acc ++ [_]).length ≤ k + 1
    simp; omega
  · intro c hc
    rcases List.mem_append.1 hc with hc | hc
    · exact a8 c hc
    · rw [List.mem_singleton.1 hc]; exact hd.1
  · show (acc ++ [_]) ++ listM most two (X.drop (k + 1)) (expM (atP X k) e) (n + dimM (atP X k) (most - n)) = _
    rw [← a9, dropP hk]
    simp only [listM]
    rw [if_neg (by omega)]
    simp
theorem listI_end {most : Int} {two : Bool} {X : List Prt} {k : Nat} {e n : Int} {acc : List Con} (h : listI most two X (k, e, n, acc)) (hk : X.length ≤ k ∨ most ≤ n) : acc = listF most two X := by
  obtain ⟨a1, a2, a3, a4, a5, a6, a7, a8, a9⟩ := h
  simp only at a9
  rw [← a9]
  have : listM most two (X.drop k) e n = [] := by
    rcases hk with hk | hk
    · rw [List.drop_eq_nil_of_le hk]; rfl
    · cases hd : X.drop k with
      | nil => rfl
      | cons p l => simp only [listM]; rw [if_pos (by omega)]
  rw [this]; simp
set_option maxRecDepth 100000 in
theorem list_loop (most : Int) (two : Bool) (X : List Prt) (hX : ∀ p ∈ X, p.ok) (hm1 : 1 ≤ most) (hm2 : most ≤ 100) (hn : X.length ≤ 1000) : AnnOk Tryz.prog EV.ng (Nat.max 3 Tryz.f18.ntmps) (bodyAt Tryz.f18 [0, 1, 0, 1, 1, 1]) (listA most two X) := by
  refine ann_of evOk (callF_ok evOk (orcOf_ok entsC_ok) 8) none_ann (by kernel_rfl) (by kernel_rfl) (listS most two X) (fun i => X.length - i.1) (fun d i => listI most two X i ∧ d = (listF most two X).isEmpty) ?_ ?_
  · intro d hd
    exact ⟨(0, -1, 0, []), [most = most, two = two, (-1 : Int) = (-1 : Int), (0 : Int) = (0 : Int), X.length = X.length ∧ (fun i => (X.getD i Prt.zero).rvs) = fun i => (X.getD i Prt.zero).rvs, (↑X.length : Int) = (↑X.length : Int), (0 : Int) = (↑(0 : Nat) : Int)], by kernel_rfl, (by refine ⟨?_, ?_, ?_, ?_, ?_, ?_, (?_ : (0 : Int) = (↑(0 : Nat) : Int))⟩ <;> (first | rfl | assumption | omega | simp_all)), (by exact ⟨⟨Nat.zero_le _, by decide, by decide, by decide, by show (0 : Int) ≤ most; omega, rfl, Nat.le_refl _, by simp, rfl⟩, hd.symm⟩)⟩
  · rintro d hd ⟨k, e, n, acc⟩ hI
    cases d
    · -- d = false
      obtain ⟨hI, hD⟩ := hI
      have hI' := hI
      obtain ⟨a1, a2, a3, a4, a5, a6, a7, a8, a9⟩ := hI'
      simp only at a1 a2 a3 a4 a5 a6 a7 a8 a9
      have er := raw_exp (okP hX k) (e := e) (by omega) (by omega)
      have ek : IntKind.i64.wrap ((k : Int) + 1) = ((k + 1 : Nat) : Int) := by rw [w64 (by omega) (by omega)]; omega
      have em : IntKind.i64.wrap (most - n) = most - n := w64 (by omega) (by omega)
      have hempty : ∀ a, a = listF most two X → a.isEmpty = (listF most two X).isEmpty := fun a h => by rw [h]
      rcases acc with _ | ⟨c, l⟩
      · -- 1
        refine Or.elim (Bool.eq_false_or_eq_true (decide ((↑k : Int) < (↑X.length : Int)))) (fun d1 => Or.elim (Bool.eq_false_or_eq_true (decide (n ≥ most))) (fun d2 => CtG.no ?_)
           (fun d2 => ⟨[true, false], .inl ⟨(k + 1, expM (atP X k) e, n + dimM (atP X k) (most - n), [conM (atP X k) (expM (atP X k) e) (most - n) two]), [most = most, two = two, (1 : Nat) = (0 : Nat) + (1 : Nat), IntKind.i64.wrap (e + IntKind.i64.wrap ((1 : Int) + ((IntKind.i64.wrap (X.getD k Prt.zero).x0).tmod (4 : Int)).tmod (3 : Int))) = expM (atP X k) e, IntKind.i64.wrap (n + (conM (X.getD k Prt.zero) (IntKind.i64.wrap (e + IntKind.i64.wrap ((1 : Int) + ((IntKind.i64.wrap (X.getD k Prt.zero).x0).tmod (4 : Int)).tmod (3 : Int)))) (IntKind.i64.wrap (most - n)) two).dim) = n + dimM (atP X k) (most - n), X.length = X.length ∧ (fun i => (X.getD i Prt.zero).rvs) = fun i => (X.getD i Prt.zero).rvs, (↑X.length : Int) = (↑X.length : Int), IntKind.i64.wrap ((↑k : Int) + (1 : Int)) = (↑(k + (1 : Nat)) : Int), [conM (X.getD k Prt.zero) (IntKind.i64.wrap (e + IntKind.i64.wrap ((1 : Int) + ((IntKind.i64.wrap (X.getD k Prt.zero).x0).tmod (4 : Int)).tmod (3 : Int)))) (IntKind.i64.wrap (most - n)) two] = [conM (atP X k) (expM (atP X k) e) (most - n) two], (0 : Nat) < (1 : Nat) ∧ (1 : Nat) ≤ (1000000 : Nat), (X.getD k Prt.zero).ok ∧ (1 : Int) ≤ IntKind.i64.wrap (most - n) ∧ IntKind.i64.wrap (most - n) ≤ (100 : Int), (3 : Int) ≠ (0 : Int), (4 : Int) ≠ (0 : Int), Dec (decide (n ≥ most)) false, (0 : Int) ≤ (↑k : Int) ∧ (↑k : Int) < (↑X.length : Int), Dec (decide ((↑k : Int) < (↑X.length : Int))) true], by kernel_rfl, ⟨?_, ?_, ?_, ?_, ?_, ?_, ?_, ?_, ?_, ?_, ?_, ?_, ?_, d2, ?_, d1⟩, MuG.out ?_, InG.out ?_⟩⟩))
           (fun d1 => CtG.no ?_)
        all_goals first | (refine MuG.mk ?_; (simp only [decide_eq_true_eq, decide_eq_false_iff_not] at *; show X.length - (k + 1) < X.length - k; omega)) | (refine InG.mk ?_; (simp only [decide_eq_true_eq, decide_eq_false_iff_not] at *; exact ⟨listI_next hX hI (by omega) (by omega), hD⟩)) | (refine CtG.mk ?_; (simp only [decide_eq_true_eq, decide_eq_false_iff_not] at *; have := hempty _ (listI_end hI (by omega)); rw [← hD] at this; cases this)) | (first | rfl | exact ⟨rfl, rfl⟩ | ((try simp only [Int.toNat_natCast, er, em, ek, decide_eq_true_eq, decide_eq_false_iff_not, View.num] at *) <;> first | omega | exact a6 | exact ⟨okP hX k, by omega, by omega⟩ | (have hdm := dimM_b (okP hX k) (r := most - n) (by omega); show IntKind.i64.wrap (n + dimM (atP X k) (most - n)) = _; rw [w64 (by omega) (by omega)]) | (rw [← listI_end hI (by omega)]; rfl) | (have := listI_end hI (by omega); simp_all; done) | (rw [a6]; rw [listI_end hI (by omega)]; done) | (simp at a7 ⊢; omega) | rfl | simp))
      · -- 2
        refine Or.elim (Bool.eq_false_or_eq_true (decide ((↑k : Int) < (↑X.length : Int)))) (fun d1 => Or.elim (Bool.eq_false_or_eq_true (decide (n ≥ most))) (fun d2 => ⟨[true, true], .inr ⟨[two = two, l.length + (1 : Nat) = (listF most two X).length, n = dimS (listF most two X), c :: l = listF most two X, Dec (decide (n ≥ most)) true, (0 : Int) ≤ (↑k : Int) ∧ (↑k : Int) < (↑X.length : Int), Dec (decide ((↑k : Int) < (↑X.length : Int))) true], by kernel_rfl, ⟨?_, ?_, ?_, ?_, d2, ?_, d1⟩, rfl⟩⟩)
           (fun d2 => ⟨[true, false], .inl ⟨(k + 1, expM (atP X k) e, n + dimM (atP X k) (most - n), c :: (l ++ [conM (atP X k) (expM (atP X k) e) (most - n) two])), [most = most, two = two, l.length + (1 : Nat) + (1 : Nat) = (l ++ [conM (atP X k) (expM (atP X k) e) (most - n) two]).length + (1 : Nat), IntKind.i64.wrap (e + IntKind.i64.wrap ((1 : Int) + ((IntKind.i64.wrap (X.getD k Prt.zero).x0).tmod (4 : Int)).tmod (3 : Int))) = expM (atP X k) e, IntKind.i64.wrap (n + (conM (X.getD k Prt.zero) (IntKind.i64.wrap (e + IntKind.i64.wrap ((1 : Int) + ((IntKind.i64.wrap (X.getD k Prt.zero).x0).tmod (4 : Int)).tmod (3 : Int)))) (IntKind.i64.wrap (most - n)) two).dim) = n + dimM (atP X k) (most - n), X.length = X.length ∧ (fun i => (X.getD i Prt.zero).rvs) = fun i => (X.getD i Prt.zero).rvs, (↑X.length : Int) = (↑X.length : Int), IntKind.i64.wrap ((↑k : Int) + (1 : Int)) = (↑(k + (1 : Nat)) : Int), c :: l ++ [conM (X.getD k Prt.zero) (IntKind.i64.wrap (e + IntKind.i64.wrap ((1 : Int) + ((IntKind.i64.wrap (X.getD k Prt.zero).x0).tmod (4 : Int)).tmod (3 : Int)))) (IntKind.i64.wrap (most - n)) two] = c :: (l ++ [conM (atP X k) (expM (atP X k) e) (most - n) two]), (View.con (c :: l)).num = l.length + (1 : Nat) ∧ l.length + (1 : Nat) + (1 : Nat) ≤ (1000000 : Nat), (X.getD k Prt.zero).ok ∧ (1 : Int) ≤ IntKind.i64.wrap (most - n) ∧ IntKind.i64.wrap (most - n) ≤ (100 : Int), (3 : Int) ≠ (0 : Int), (4 : Int) ≠ (0 : Int), Dec (decide (n ≥ most)) false, (0 : Int) ≤ (↑k : Int) ∧ (↑k : Int) < (↑X.length : Int), Dec (decide ((↑k : Int) < (↑X.length : Int))) true], by kernel_rfl, ⟨?_, ?_, ?_, ?_, ?_, ?_, ?_, ?_, ?_, ?_, ?_, ?_, ?_, d2, ?_, d1⟩, MuG.out ?_, InG.out ?_⟩⟩))
           (fun d1 => ⟨[false], .inr ⟨[two = two, l.length + (1 : Nat) = (listF most two X).length, n = dimS (listF most two X), c :: l = listF most two X, Dec (decide ((↑k : Int) < (↑X.length : Int))) false], by kernel_rfl, ⟨?_, ?_, ?_, ?_, d1⟩, rfl⟩⟩)
        all_goals first | (refine MuG.mk ?_; (simp only [decide_eq_true_eq, decide_eq_false_iff_not] at *; show X.length - (k + 1) < X.length - k; omega)) | (refine InG.mk ?_; (simp only [decide_eq_true_eq, decide_eq_false_iff_not] at *; exact ⟨listI_next hX hI (by omega) (by omega), hD⟩)) | (refine CtG.mk ?_; (simp only [decide_eq_true_eq, decide_eq_false_iff_not] at *; have := hempty _ (listI_end hI (by omega)); rw [← hD] at this; cases this)) | (first | rfl | exact ⟨rfl, rfl⟩ | ((try simp only [Int.toNat_natCast, er, em, ek, decide_eq_true_eq, decide_eq_false_iff_not, View.num] at *) <;> first | omega | exact a6 | exact ⟨okP hX k, by omega, by omega⟩ | (have hdm := dimM_b (okP hX k) (r := most - n) (by omega); show IntKind.i64.wrap (n + dimM (atP X k) (most - n)) = _; rw [w64 (by omega) (by omega)]) | (rw [← listI_end hI (by omega)]; rfl) | (have := listI_end hI (by omega); simp_all; done) | (rw [a6]; rw [listI_end hI (by omega)]; done) | (simp at a7 ⊢; omega) | rfl | simp))
    · -- d = true
      obtain ⟨hI, hD⟩ := hI
      have hI' := hI
      obtain ⟨a1, a2, a3, a4, a5, a6, a7, a8, a9⟩ := hI'
      simp only at a1 a2 a3 a4 a5 a6 a7 a8 a9
      have er := raw_exp (okP hX k) (e := e) (by omega) (by omega)
      have ek : IntKind.i64.wrap ((k : Int) + 1) = ((k + 1 : Nat) : Int) := by rw [w64 (by omega) (by omega)]; omega
      have em : IntKind.i64.wrap (most - n) = most - n := w64 (by omega) (by omega)
      have hempty : ∀ a, a = listF most two X → a.isEmpty = (listF most two X).isEmpty := fun a h => by rw [h]
      rcases acc with _ | ⟨c, l⟩
      · -- 1
        refine Or.elim (Bool.eq_false_or_eq_true (decide ((↑k : Int) < (↑X.length : Int)))) (fun d1 => Or.elim (Bool.eq_false_or_eq_true (decide (n ≥ most))) (fun d2 => ⟨[true, true], .inr ⟨[two = two, n = (0 : Int), Dec (decide (n ≥ most)) true, (0 : Int) ≤ (↑k : Int) ∧ (↑k : Int) < (↑X.length : Int), Dec (decide ((↑k : Int) < (↑X.length : Int))) true], by kernel_rfl, ⟨?_, ?_, d2, ?_, d1⟩, rfl⟩⟩)
           (fun d2 => ⟨[true, false], .inl ⟨(k + 1, expM (atP X k) e, n + dimM (atP X k) (most - n), [conM (atP X k) (expM (atP X k) e) (most - n) two]), [most = most, two = two, (1 : Nat) = (0 : Nat) + (1 : Nat), IntKind.i64.wrap (e + IntKind.i64.wrap ((1 : Int) + ((IntKind.i64.wrap (X.getD k Prt.zero).x0).tmod (4 : Int)).tmod (3 : Int))) = expM (atP X k) e, IntKind.i64.wrap (n + (conM (X.getD k Prt.zero) (IntKind.i64.wrap (e + IntKind.i64.wrap ((1 : Int) + ((IntKind.i64.wrap (X.getD k Prt.zero).x0).tmod (4 : Int)).tmod (3 : Int)))) (IntKind.i64.wrap (most - n)) two).dim) = n + dimM (atP X k) (most - n), X.length = X.length ∧ (fun i => (X.getD i Prt.zero).rvs) = fun i => (X.getD i Prt.zero).rvs, (↑X.length : Int) = (↑X.length : Int), IntKind.i64.wrap ((↑k : Int) + (1 : Int)) = (↑(k + (1 : Nat)) : Int), [conM (X.getD k Prt.zero) (IntKind.i64.wrap (e + IntKind.i64.wrap ((1 : Int) + ((IntKind.i64.wrap (X.getD k Prt.zero).x0).tmod (4 : Int)).tmod (3 : Int)))) (IntKind.i64.wrap (most - n)) two] = [conM (atP X k) (expM (atP X k) e) (most - n) two], (0 : Nat) < (1 : Nat) ∧ (1 : Nat) ≤ (1000000 : Nat), (X.getD k Prt.zero).ok ∧ (1 : Int) ≤ IntKind.i64.wrap (most - n) ∧ IntKind.i64.wrap (most - n) ≤ (100 : Int), (3 : Int) ≠ (0 : Int), (4 : Int) ≠ (0 : Int), Dec (decide (n ≥ most)) false, (0 : Int) ≤ (↑k : Int) ∧ (↑k : Int) < (↑X.length : Int), Dec (decide ((↑k : Int) < (↑X.length : Int))) true], by kernel_rfl, ⟨?_, ?_, ?_, ?_, ?_, ?_, ?_, ?_, ?_, ?_, ?_, ?_, ?_, d2, ?_, d1⟩, MuG.out ?_, InG.out ?_⟩⟩))
           (fun d1 => ⟨[false], .inr ⟨[two = two, n = (0 : Int), Dec (decide ((↑k : Int) < (↑X.length : Int))) false], by kernel_rfl, ⟨?_, ?_, d1⟩, rfl⟩⟩)
        all_goals first | (refine MuG.mk ?_; (simp only [decide_eq_true_eq, decide_eq_false_iff_not] at *; show X.length - (k + 1) < X.length - k; omega)) | (refine InG.mk ?_; (simp only [decide_eq_true_eq, decide_eq_false_iff_not] at *; exact ⟨listI_next hX hI (by omega) (by omega), hD⟩)) | (refine CtG.mk ?_; (simp only [decide_eq_true_eq, decide_eq_false_iff_not] at *; have := hempty _ (listI_end hI (by omega)); rw [← hD] at this; cases this)) | (first | rfl | exact ⟨rfl, rfl⟩ | ((try simp only [Int.toNat_natCast, er, em, ek, decide_eq_true_eq, decide_eq_false_iff_not, View.num] at *) <;> first | omega | exact a6 | exact ⟨okP hX k, by omega, by omega⟩ | (have hdm := dimM_b (okP hX k) (r := most - n) (by omega); show IntKind.i64.wrap (n + dimM (atP X k) (most - n)) = _; rw [w64 (by omega) (by omega)]) | (rw [← listI_end hI (by omega)]; rfl) | (have := listI_end hI (by omega); simp_all; done) | (rw [a6]; rw [listI_end hI (by omega)]; done) | (simp at a7 ⊢; omega) | rfl | simp))
      · -- 2
        refine Or.elim (Bool.eq_false_or_eq_true (decide ((↑k : Int) < (↑X.length : Int)))) (fun d1 => Or.elim (Bool.eq_false_or_eq_true (decide (n ≥ most))) (fun d2 => CtG.no ?_)
           (fun d2 => ⟨[true, false], .inl ⟨(k + 1, expM (atP X k) e, n + dimM (atP X k) (most - n), c :: (l ++ [conM (atP X k) (expM (atP X k) e) (most - n) two])), [most = most, two = two, l.length + (1 : Nat) + (1 : Nat) = (l ++ [conM (atP X k) (expM (atP X k) e) (most - n) two]).length + (1 : Nat), IntKind.i64.wrap (e + IntKind.i64.wrap ((1 : Int) + ((IntKind.i64.wrap (X.getD k Prt.zero).x0).tmod (4 : Int)).tmod (3 : Int))) = expM (atP X k) e, IntKind.i64.wrap (n + (conM (X.getD k Prt.zero) (IntKind.i64.wrap (e + IntKind.i64.wrap ((1 : Int) + ((IntKind.i64.wrap (X.getD k Prt.zero).x0).tmod (4 : Int)).tmod (3 : Int)))) (IntKind.i64.wrap (most - n)) two).dim) = n + dimM (atP X k) (most - n), X.length = X.length ∧ (fun i => (X.getD i Prt.zero).rvs) = fun i => (X.getD i Prt.zero).rvs, (↑X.length : Int) = (↑X.length : Int), IntKind.i64.wrap ((↑k : Int) + (1 : Int)) = (↑(k + (1 : Nat)) : Int), c :: l ++ [conM (X.getD k Prt.zero) (IntKind.i64.wrap (e + IntKind.i64.wrap ((1 : Int) + ((IntKind.i64.wrap (X.getD k Prt.zero).x0).tmod (4 : Int)).tmod (3 : Int)))) (IntKind.i64.wrap (most - n)) two] = c :: (l ++ [conM (atP X k) (expM (atP X k) e) (most - n) two]), (View.con (c :: l)).num = l.length + (1 : Nat) ∧ l.length + (1 : Nat) + (1 : Nat) ≤ (1000000 : Nat), (X.getD k Prt.zero).ok ∧ (1 : Int) ≤ IntKind.i64.wrap (most - n) ∧ IntKind.i64.wrap (most - n) ≤ (100 : Int), (3 : Int) ≠ (0 : Int), (4 : Int) ≠ (0 : Int), Dec (decide (n ≥ most)) false, (0 : Int) ≤ (↑k : Int) ∧ (↑k : Int) < (↑X.length : Int), Dec (decide ((↑k : Int) < (↑X.length : Int))) true], by kernel_rfl, ⟨?_, ?_, ?_, ?_, ?_, ?_, ?_, ?_, ?_, ?_, ?_, ?_, ?_, d2, ?_, d1⟩, MuG.out ?_, InG.out ?_⟩⟩))
           (fun d1 => CtG.no ?_)
        all_goals first | (refine MuG.mk ?_; (simp only [decide_eq_true_eq, decide_eq_false_iff_not] at *; show X.length - (k + 1) < X.length - k; omega)) | (refine InG.mk ?_; (simp only [decide_eq_true_eq, decide_eq_false_iff_not] at *; exact ⟨listI_next hX hI (by omega) (by omega), hD⟩)) | (refine CtG.mk ?_; (simp only [decide_eq_true_eq, decide_eq_false_iff_not] at *; have := hempty _ (listI_end hI (by omega)); rw [← hD] at this; cases this)) | (first | rfl | exact ⟨rfl, rfl⟩ | ((try simp only [Int.toNat_natCast, er, em, ek, decide_eq_true_eq, decide_eq_false_iff_not, View.num] at *) <;> first | omega | exact a6 | exact ⟨okP hX k, by omega, by omega⟩ | (have hdm := dimM_b (okP hX k) (r := most - n) (by omega); show IntKind.i64.wrap (n + dimM (atP X k) (most - n)) = _; rw [w64 (by omega) (by omega)]) | (rw [← listI_end hI (by omega)]; rfl) | (have := listI_end hI (by omega); simp_all; done) | (rw [a6]; rw [listI_end hI (by omega)]; done) | (simp at a7 ⊢; omega) | rfl | simp))
theorem listM_dims {most : Int} {two : Bool} {X : List Prt} (hX : ∀ p ∈ X, p.ok) : ∀ {e n : Int}, ∀ c ∈ listM most two X e n, 1 ≤ c.dim := by
  induction X with
  | nil => intro e n c hc; simp [listM] at hc
  | cons p l ih =>
    intro e n c hc
    simp only [listM] at hc
    split at hc
    · simp at hc
    · rcases List.mem_cons.1 hc with hc | hc
      · rw [hc]; exact (dimM_b (hX p (by simp)) (r := most - n) (by omega)).1
      · exact ih (fun x hx => hX x (by simp [hx])) c hc
theorem listF_pos {most : Int} {two : Bool} {X : List Prt} (hX : ∀ p ∈ X, p.ok) (h : (listF most two X).isEmpty = false) : 1 ≤ dimS (listF most two X) := by
  refine (dimS_nonneg (listM_dims hX)).2 ?_
  intro h0
  unfold listF at h
  rw [h0] at h
  cases h
set_option maxRecDepth 100000 in
theorem list_pure (pr : Int) (X : List Prt) (most : Int) (two : Bool) (hX : ∀ p ∈ X, p.ok) (hm1 : 1 ≤ most) (hm2 : most ≤ 100) (hn : X.length ≤ 1000) : PureC Tryz.prog [] 18 [.agg [.int .u8 pr, roP X], .int .i64 most, .bool two] (roC (listV most two X)) := by
  have rr := fun (tp : List Bool) (ms : List Prop) h hm => pure_run evOk (callF_ok evOk (orcOf_ok entsC_ok) 8) Tryz.func18 (A := [.agg [.int .u8 pr, roP X], .int .i64 most, .bool two]) (N := Nat.max 1 Tryz.f18.ntmps) rfl (one_ann (list_loop most two X hX hm1 hm2 hn)) rfl rfl evNg (tabs := []) (R := roC (listV most two X)) (tp := tp) (ms := ms) h hm
  refine Or.elim (Bool.eq_false_or_eq_true ((listF most two X).isEmpty)) (fun d1 => rr [true] [(1 : Nat) = (listV most two X).length ∧ (1 : Nat) = [conM (Prt.mk (0 : Int) (0 : Int) (0 : Int) (0 : Int) (0 : Int)) (0 : Int) (1 : Int) two].length ∧ ∀ (i : Nat), i < (1 : Nat) → (fun i => ((listV most two X).getD i Con.zero).rvs) i = ([conM (Prt.mk (0 : Int) (0 : Int) (0 : Int) (0 : Int) (0 : Int)) (0 : Int) (1 : Int) two].getD i Con.zero).rvs, (0 : Nat) < (1 : Nat) ∧ (1 : Nat) ≤ (1000000 : Nat), (Prt.mk (0 : Int) (0 : Int) (0 : Int) (0 : Int) (0 : Int)).ok ∧ (1 : Int) ≤ (1 : Int) ∧ (1 : Int) ≤ (100 : Int), most = most, two = two, X.length = X.length ∧ (fun i => (X.getD i Prt.zero).rvs) = fun i => (X.getD i Prt.zero).rvs, (↑X.length : Int) = (↑X.length : Int), Dec (listF most two X).isEmpty true] (by kernel_rfl) ⟨?_, ?_, ?_, ?_, ?_, ?_, ?_, d1⟩)
           (fun d1 => Or.elim (Bool.eq_false_or_eq_true (dimS (listF most two X) == (0 : Int))) (fun d2 => rr [false, true] [(listF most two X).length + (1 : Nat) = (listV most two X).length ∧ (listF most two X).length + (1 : Nat) = (listF most two X ++ [conM (Prt.mk (0 : Int) (0 : Int) (0 : Int) (0 : Int) (0 : Int)) (0 : Int) (1 : Int) two]).length ∧ ∀ (i : Nat), i < (listF most two X).length + (1 : Nat) → (fun i => ((listV most two X).getD i Con.zero).rvs) i = ((listF most two X ++ [conM (Prt.mk (0 : Int) (0 : Int) (0 : Int) (0 : Int) (0 : Int)) (0 : Int) (1 : Int) two]).getD i Con.zero).rvs, (View.con (listF most two X)).num = (listF most two X).length ∧ (listF most two X).length + (1 : Nat) ≤ (1000000 : Nat), (Prt.mk (0 : Int) (0 : Int) (0 : Int) (0 : Int) (0 : Int)).ok ∧ (1 : Int) ≤ (1 : Int) ∧ (1 : Int) ≤ (100 : Int), Dec (dimS (listF most two X) == (0 : Int)) true, most = most, two = two, X.length = X.length ∧ (fun i => (X.getD i Prt.zero).rvs) = fun i => (X.getD i Prt.zero).rvs, (↑X.length : Int) = (↑X.length : Int), Dec (listF most two X).isEmpty false] (by kernel_rfl) ⟨?_, ?_, ?_, d2, ?_, ?_, ?_, ?_, d1⟩)
           (fun d2 => rr [false, false] [(listF most two X).length = (listV most two X).length ∧ (listF most two X).length = (listF most two X).length ∧ ∀ (i : Nat), i < (listF most two X).length → (fun i => ((listV most two X).getD i Con.zero).rvs) i = ((listF most two X).getD i Con.zero).rvs, Dec (dimS (listF most two X) == (0 : Int)) false, most = most, two = two, X.length = X.length ∧ (fun i => (X.getD i Prt.zero).rvs) = fun i => (X.getD i Prt.zero).rvs, (↑X.length : Int) = (↑X.length : Int), Dec (listF most two X).isEmpty false] (by kernel_rfl) ⟨?_, d2, ?_, ?_, ?_, ?_, d1⟩))
  all_goals first | (first | rfl | exact ⟨rfl, rfl⟩ | decide | (exfalso; have h0 := listF_pos hX d1; simp at d2; omega) | (simp only [listV, d1, cond_true, cond_false]; exact ⟨rfl, rfl, fun i _ => rfl⟩) | (rw [show listV most two X = listF most two X from by simp only [listV, d1, cond_false]]; exact ⟨rfl, rfl, fun i _ => rfl⟩) | (simp [Prt.ok, U8]; done))
end Go.Proofs.YtkkmlbhmcdoibaaGreatDoor.S

namespace Go.Proofs.YtkkmlbhmcdoibaaGreatDoor.S
open Go.QfSy Go.RowKit
def RImp (a b : RV) : Prop := ∀ F V, RRel F a V → RRel F b V
def RImps (A B : List RV) : Prop := ∀ F Vs, RsRel F A Vs → RsRel F B Vs
theorem RImp.same {a : RV} : RImp a a := fun _ _ h => h
theorem RImps.nil : RImps [] [] := fun _ _ h => h
theorem RImps.same {A : List RV} : RImps A A := fun _ _ h => h
theorem RImps.cons {a b : RV} {A B : List RV} (h : RImp a b) (t : RImps A B) : RImps (a :: A) (b :: B) := fun F Vs k => by
  cases k with
  | cons k1 k2 => exact .cons (h _ _ k1) (t _ _ k2)
theorem RImp.agg {A B : List RV} (h : RImps A B) : RImp (.agg A) (.agg B) := fun F V k => by
  cases k with
  | agg k => exact .agg (h _ _ k)
theorem RImp.con {n : Nat} {row : Nat → List RV} (h : ∀ i, i < n → row i = (Con.ofR (row i)).rvs) : RImp (.sl n 5 row) (roC (consR n row)) := fun F V k => roC_ro h k
theorem intsR_ro (k : IntKind) (l : List Int) : intsR l.length (fun i => [.int k (l.getD i 0)]) = l := by
  apply List.ext_getElem
  · simp [intsR]
  · intro i h1 h2
    simp [intsR, intR, h2]
theorem RImp.ints {n : Nat} {row : Nat → List RV} (h : ∀ i, i < n → row i = [.int .i64 (intR (row i))]) : RImp (.sl n 1 row) (rI .i64 (intsR n row)) := fun F V k => by
  unfold rI
  have hn : (intsR n row).length = n := by simp [intsR]
  rw [hn]
  refine k.rows (fun i hi => ?_)
  rw [h i hi]
  simp [intsR, hi]
theorem PureC.imp {P : Program} {tabs : List Tb} {f : Nat} {A A' : List RV} {R : RV} (h : PureC P tabs f A' R) (ha : RImps A A') : PureC P tabs f A R := h.args ha
theorem consR_len {n : Nat} {row : Nat → List RV} : (consR n row).length = n := by simp [consR]
theorem intsR_len {n : Nat} {row : Nat → List RV} : (intsR n row).length = n := by simp [intsR]
def okC (c : Con) : Prop := (0 ≤ c.exp ∧ c.exp ≤ 1000) ∧ (1 ≤ c.dim ∧ c.dim ≤ 1000) ∧ (c.sign = 1 ∨ c.sign = -1) ∧ (0 ≤ c.oddity ∧ c.oddity ≤ 7)
def okL (L : List Con) : Prop := L.length ≤ 1000 ∧ ∀ c ∈ L, okC c
def okE (L : List Con) : Prop := L.length ≤ 1000 ∧ ∀ c ∈ L, 0 ≤ c.exp ∧ c.exp ≤ 1000
theorem okL.e {L : List Con} (h : okL L) : okE L := ⟨h.1, fun c hc => (h.2 c hc).1⟩
theorem okL.at {L : List Con} (h : okL L) {k : Nat} (hk : k < L.length) : okC (at_ L k) := by
  have : at_ L k = L[k] := by simp [at_, hk]
  rw [this]; exact h.2 _ (List.getElem_mem hk)
theorem okE.at {L : List Con} (h : okE L) {k : Nat} (hk : k < L.length) : 0 ≤ (at_ L k).exp ∧ (at_ L k).exp ≤ 1000 := by
  have : at_ L k = L[k] := by simp [at_, hk]
  rw [this]; exact h.2 _ (List.getElem_mem hk)
theorem okE.at' {L : List Con} (h : okE L) (k : Nat) : 0 ≤ (at_ L k).exp ∧ (at_ L k).exp ≤ 1000 := by
  rcases Nat.lt_or_ge k L.length with hk | hk
  · exact h.at hk
  · have : at_ L k = Con.zero := by simp [at_, hk]
    rw [this]; decide
theorem okL.set {L : List Con} (h : okL L) {c : Con} (hc : okC c) (k : Nat) : okL (L.set k c) := by
  refine ⟨by simpa using h.1, fun x hx => ?_⟩
  rcases List.mem_or_eq_of_mem_set hx with h1 | h1
  · exact h.2 x h1
  · rw [h1]; exact hc
theorem at_set {L : List Con} {k i : Nat} {c : Con} : at_ (L.set k c) i = if k = i ∧ i < L.length then c else at_ L i := by
  simp only [at_, List.getD_eq_getElem?_getD, List.getElem?_set]
  by_cases h1 : k = i
  · subst h1
    by_cases h2 : k < L.length
    · simp [h2]
    · simp [h2]
  · simp [h1]
abbrev Acc := List (List Int) × Option (List Int)
def allA : Acc → List (List Int)
  | (F, none) => F
  | (F, some l) => F ++ [l]
def grpS (b j : Bool) (k : Nat) (a : Acc) : Acc := bif b then (match a.2 with
    | none => (a.1, some [(k : Int)])
    | some l => bif j then (a.1, some (l ++ [(k : Int)])) else (a.1 ++ [l], some [(k : Int)])) else a
def grpA (b j : Nat → Bool) : Nat → Acc
  | 0 => ([], none)
  | k + 1 => grpS (b k) (j k) k (grpA b j k)
def inR (n : Nat) (l : List Int) : Prop := ∀ x ∈ l, 0 ≤ x ∧ x < (n : Int)
theorem inR.at {n : Nat} {l : List Int} (h : inR n l) {t : Nat} (ht : t < l.length) : 0 ≤ l.getD t 0 ∧ l.getD t 0 < (n : Int) := by
  have : l.getD t 0 = l[t] := by simp [ht]
  rw [this]; exact h _ (List.getElem_mem ht)
theorem inR.mono {n m : Nat} {l : List Int} (h : inR n l) (hm : n ≤ m) : inR m l := fun x hx => ⟨(h x hx).1, by have := (h x hx).2; omega⟩
structure GrpOk (b : Nat → Bool) (k : Nat) (a : Acc) : Prop where
  none : a.2 = none → a.1 = [] ∧ ∀ i, i < k → b i = false
  rows : ∀ l ∈ allA a, l ≠ [] ∧ inR k l ∧ l.length ≤ k
  len : (allA a).length ≤ k
theorem grp_ok (b j : Nat → Bool) : ∀ k, GrpOk b k (grpA b j k)
  | 0 => ⟨fun _ => ⟨rfl, fun i hi => by omega⟩, fun l hl => by simp [grpA, allA] at hl, by simp [grpA, allA]⟩
  | k + 1 => by
    have ih := grp_ok b j k
    have e : grpA b j (k + 1) = grpS (b k) (j k) k (grpA b j k) := rfl
    rw [e]
    generalize grpA b j k = a at ih
    obtain ⟨F, o⟩ := a
    obtain ⟨h1, h2, h3⟩ := ih
    have new : ([(k : Int)] : List Int) ≠ [] ∧ inR (k + 1) [(k : Int)] ∧ ([(k : Int)] : List Int).length ≤ k + 1 := ⟨by simp, fun x hx => by rw [List.mem_singleton.1 hx]; omega, by simp⟩
    cases hb : b k with
    | false =>
      simp only [grpS, cond_false]
      refine ⟨fun h => ⟨(h1 h).1, fun i hi => ?_⟩, fun l hl => ⟨(h2 l hl).1, (h2 l hl).2.1.mono (by omega), by have := (h2 l hl).2.2; omega⟩, by omega⟩
      rcases Nat.lt_or_ge i k with h' | h'
      · exact (h1 h).2 i h'
      · have : i = k := by omega
        subst this; exact hb
    | true =>
      cases o with
      | none =>
        simp only [grpS, cond_true]
        have hF : F = [] := (h1 rfl).1
        refine ⟨fun h => (by cases h), fun l hl => ?_, ?_⟩
        · rw [hF] at hl
          simp only [allA, List.nil_append, List.mem_singleton] at hl
          subst hl; exact new
        · rw [hF]; simp [allA]
      | some l0 =>
        have h0 := h2 l0 (by simp [allA])
        cases hj : j k with
        | true =>
          simp only [grpS, cond_true]
          refine ⟨fun h => (by cases h), fun l hl => ?_, by simp only [allA, List.length_append, List.length_cons, List.length_nil] at h3 ⊢; omega⟩
          simp only [allA, List.mem_append, List.mem_singleton] at hl
          rcases hl with hl | hl
          · have := h2 l (by simp [allA, hl])
            exact ⟨this.1, this.2.1.mono (by omega), by have := this.2.2; omega⟩
          · subst hl
            refine ⟨by simp, fun x hx => ?_, by have := h0.2.2; simp; omega⟩
            rcases List.mem_append.1 hx with hx | hx
            · have := h0.2.1 x hx; omega
            · rw [List.mem_singleton.1 hx]; omega
        | false =>
          simp only [grpS, cond_true, cond_false]
          refine ⟨fun h => (by cases h), fun l hl => ?_, by simp only [allA, List.length_append, List.length_cons, List.length_nil] at h3 ⊢; omega⟩
          simp only [allA, List.mem_append, List.mem_singleton] at hl
          rcases hl with (hl | hl) | hl
          · have := h2 l (by simp [allA, hl])
            exact ⟨this.1, this.2.1.mono (by omega), by have := this.2.2; omega⟩
          · subst hl; exact ⟨h0.1, h0.2.1.mono (by omega), by have := h0.2.2; omega⟩
          · subst hl; exact new
def oddB (L : List Con) (k : Nat) : Bool := (at_ L k).odd
def joinB (L : List Con) (k : Nat) : Bool := decide (0 < k) && ((at_ L (k - 1)).odd && decide ((at_ L (k - 1)).exp = (at_ L k).exp - 1))
def partsA (L : List Con) (k : Nat) : Acc := grpA (oddB L) (joinB L) k
def partsM (L : List Con) : List (List Int) := allA (partsA L L.length)
theorem parts_rows {L : List Con} : ∀ l ∈ partsM L, l ≠ [] ∧ inR L.length l ∧ l.length ≤ L.length := (grp_ok (oddB L) (joinB L) L.length).rows
theorem parts_len {L : List Con} : (partsM L).length ≤ L.length := (grp_ok (oddB L) (joinB L) L.length).len
abbrev rowAt (P : List (List Int)) (t : Nat) : List Int := P.getD t []
theorem rowAt_mem {P : List (List Int)} {t : Nat} (ht : t < P.length) : rowAt P t ∈ P := by
  have : rowAt P t = P[t] := by simp [rowAt, ht]
  rw [this]; exact List.getElem_mem ht
theorem drop_row {P : List (List Int)} {t : Nat} (ht : t < P.length) : P.drop t = rowAt P t :: P.drop (t + 1) := by
  rw [List.drop_eq_getElem_cons ht]; simp [rowAt, ht]
theorem drop_int {l : List Int} {t : Nat} (ht : t < l.length) : l.drop t = l.getD t 0 :: l.drop (t + 1) := by
  rw [List.drop_eq_getElem_cons ht]; simp [ht]
theorem take_int {l : List Int} {t : Nat} (ht : t < l.length) : l.take (t + 1) = l.take t ++ [l.getD t 0] := by
  rw [List.take_succ_eq_append_getElem ht]; simp [ht]
def hasI (i : Int) : List Int → Bool
  | [] => false
  | x :: l => (x == i) || hasI i l
def findR (i : Int) : List (List Int) → List Int
  | [] => []
  | l :: P => bif hasI i l then l else findR i P
theorem findR_mem {i : Int} : ∀ {P : List (List Int)}, findR i P = [] ∨ findR i P ∈ P
  | [] => .inl rfl
  | l :: P => by
    simp only [findR]
    cases hasI i l with
    | true => exact .inr (by simp)
    | false =>
      rcases findR_mem (i := i) (P := P) with h | h
      · exact .inl h
      · exact .inr (by simp [h])
def anyR (i : Int) : List (List Int) → Bool
  | [] => false
  | l :: P => hasI i l || anyR i P
theorem findR_none {i : Int} : ∀ {P : List (List Int)}, anyR i P = false → findR i P = []
  | [], _ => rfl
  | l :: P, h => by
    simp only [anyR, Bool.or_eq_false_iff] at h
    simp only [findR, h.1, cond_false]
    exact findR_none h.2
def partM (L : List Con) (i : Int) : List Int := findR i (partsM L)
theorem partM_ok {L : List Con} {i : Int} : inR L.length (partM L i) ∧ (partM L i).length ≤ L.length := by
  unfold partM
  rcases findR_mem (i := i) (P := partsM L) with h | h
  · rw [h]; exact ⟨fun x hx => by simp at hx, by simp⟩
  · exact (parts_rows _ h).2
def sumO (L : List Con) : List Int → Int
  | [] => 0
  | i :: l => (at_ L i.toNat).oddity + sumO L l
def totM (L : List Con) (l : List Int) : Int := sumO L l % 8
def badM (L : List Con) (l : List Int) : Bool := decide (l.length = 2) && ((at_ L (l.getD 0 0).toNat).dim == 1 && ((at_ L (l.getD 1 0).toNat).dim == 1 && (totM L l % 4 == 0)))
def linkM (L : List Con) (k : Nat) : Bool :=
  bif (at_ L k).exp - (at_ L (k - 1)).exp == 1 then ((at_ L (k - 1)).odd != (at_ L k).odd) || ((at_ L (k - 1)).odd && !badM L (partM L k))
  else bif (at_ L k).exp - (at_ L (k - 1)).exp == 2 then (at_ L (k - 1)).odd && (at_ L k).odd else false
def setO (L : List Con) (i t : Int) : List Con := L.set i.toNat { at_ L i.toNat with oddity := t }
def zeroP (L : List Con) : List Int → List Con
  | [] => L
  | i :: l => zeroP (setO L i 0) l
def fuseP (L0 : List Con) (L : List Con) (l : List Int) : List Con := setO (zeroP L l) (l.getD 0 0) (totM L0 l)
def fuseG (L0 : List Con) : List Con → List (List Int) → List Con
  | L, [] => L
  | L, l :: P => fuseG L0 (fuseP L0 L l) P
def fuseM (L : List Con) : List Con := fuseG L L (partsM L)
theorem setO_len {L : List Con} {i t : Int} : (setO L i t).length = L.length := by simp [setO]
theorem zeroP_len : ∀ {l : List Int} {L : List Con}, (zeroP L l).length = L.length
  | [], _ => rfl
  | i :: l, L => by simp only [zeroP]; rw [zeroP_len, setO_len]
theorem fuseP_len {L0 L : List Con} {l : List Int} : (fuseP L0 L l).length = L.length := by unfold fuseP; rw [setO_len, zeroP_len]
theorem fuseG_len {L0 : List Con} : ∀ {P : List (List Int)} {L : List Con}, (fuseG L0 L P).length = L.length
  | [], _ => rfl
  | l :: P, L => by simp only [fuseG]; rw [fuseG_len, fuseP_len]
theorem fuseM_len {L : List Con} : (fuseM L).length = L.length := fuseG_len
theorem setO_ok {L : List Con} (h : okL L) {i t : Int} (hi : 0 ≤ i ∧ i < (L.length : Int)) (ht : 0 ≤ t ∧ t ≤ 7) : okL (setO L i t) := by
  have := h.at (k := i.toNat) (by omega)
  exact h.set (show okC { at_ L i.toNat with oddity := t } from ⟨this.1, this.2.1, this.2.2.1, ht⟩) _
theorem zeroP_ok : ∀ {l : List Int} {L : List Con}, okL L → inR L.length l → okL (zeroP L l)
  | [], _, h, _ => h
  | i :: l, L, h, hl => by
    simp only [zeroP]
    refine zeroP_ok (setO_ok h (hl i (by simp)) (by decide)) ?_
    rw [setO_len]
    exact fun x hx => hl x (by simp [hx])
theorem totM_b (L : List Con) (l : List Int) : 0 ≤ totM L l ∧ totM L l ≤ 7 := by unfold totM; omega
theorem fuseP_ok {L0 L : List Con} (h : okL L) {l : List Int} (hl : inR L.length l) (hne : l ≠ []) : okL (fuseP L0 L l) := by
  unfold fuseP
  refine setO_ok (zeroP_ok h hl) ?_ (totM_b _ _)
  rw [zeroP_len]
  exact hl.at (by cases l with | nil => exact absurd rfl hne | cons a l => simp)
theorem fuseG_ok {L0 : List Con} : ∀ {P : List (List Int)} {L : List Con}, okL L → (∀ l ∈ P, l ≠ [] ∧ inR L.length l) → okL (fuseG L0 L P)
  | [], _, h, _ => h
  | l :: P, L, h, hP => by
    simp only [fuseG]
    refine fuseG_ok (fuseP_ok h (hP l (by simp)).2 (hP l (by simp)).1) ?_
    rw [fuseP_len]
    exact fun x hx => hP x (by simp [hx])
theorem fuseM_ok {L : List Con} (h : okL L) : okL (fuseM L) := fuseG_ok h (fun l hl => ⟨(parts_rows l hl).1, (parts_rows l hl).2.1⟩)
def flipS (L : List Con) (i : Nat) : List Con := L.set i { at_ L i with sign := -(at_ L i).sign }
def add4 (L : List Con) (i : Int) : List Con := setO L i (((at_ L i.toNat).oddity + 4) % 8)
def stepM (L : List Con) (i : Nat) : List Con :=
  let p := partM L ((i : Int) - 1)
  let q := partM L i
  let L1 := flipS (flipS L i) (i - 1)
  let L2 := bif decide (0 < p.length) then add4 L1 (p.getD 0 0) else L1
  bif decide (0 < q.length) && ((p.length == 0) || !(p.getD 0 0 == q.getD 0 0)) then add4 L2 (q.getD 0 0) else L2
theorem flipS_len {L : List Con} {i : Nat} : (flipS L i).length = L.length := by simp [flipS]
theorem add4_len {L : List Con} {i : Int} : (add4 L i).length = L.length := by simp [add4, setO_len]
theorem stepM_len {L : List Con} {i : Nat} : (stepM L i).length = L.length := by
  unfold stepM
  simp only
  cases decide (0 < (partM L ((i : Int) - 1)).length) <;> cases (decide (0 < (partM L (i : Int)).length) && (((partM L ((i : Int) - 1)).length == 0) || !((partM L ((i : Int) - 1)).getD 0 0 == (partM L (i : Int)).getD 0 0))) <;> simp only [cond_true, cond_false, add4_len, flipS_len]
theorem flipS_ok {L : List Con} (h : okL L) {i : Nat} (hi : i < L.length) : okL (flipS L i) := by
  have := h.at hi
  refine h.set (show okC { at_ L i with sign := -(at_ L i).sign } from ⟨this.1, this.2.1, ?_, this.2.2.2⟩) _
  have h3 := this.2.2.1
  show -(at_ L i).sign = 1 ∨ -(at_ L i).sign = -1
  omega
theorem add4_ok {L : List Con} (h : okL L) {i : Int} (hi : 0 ≤ i ∧ i < (L.length : Int)) : okL (add4 L i) := setO_ok h hi (by omega)
theorem stepM_ok {L : List Con} (h : okL L) {i : Nat} (hi : i < L.length) : okL (stepM L i) := by
  have h1 : okL (flipS (flipS L i) (i - 1)) := flipS_ok (flipS_ok h hi) (by rw [flipS_len]; omega)
  have hl : (flipS (flipS L i) (i - 1)).length = L.length := by simp only [flipS_len]
  have hp := (partM_ok (L := L) (i := (i : Int) - 1)).1
  have hq := (partM_ok (L := L) (i := (i : Int))).1
  unfold stepM
  simp only
  have h2 : okL (bif decide (0 < (partM L ((i : Int) - 1)).length) then add4 (flipS (flipS L i) (i - 1)) ((partM L ((i : Int) - 1)).getD 0 0) else flipS (flipS L i) (i - 1)) ∧ (bif decide (0 < (partM L ((i : Int) - 1)).length) then add4 (flipS (flipS L i) (i - 1)) ((partM L ((i : Int) - 1)).getD 0 0) else flipS (flipS L i) (i - 1)).length = L.length := by
    cases hd : decide (0 < (partM L ((i : Int) - 1)).length) with
    | false => exact ⟨h1, hl⟩
    | true => exact ⟨add4_ok h1 (by rw [hl]; exact hp.at (of_decide_eq_true hd)), by simp only [cond_true, add4_len, hl]⟩
  generalize (bif decide (0 < (partM L ((i : Int) - 1)).length) then add4 (flipS (flipS L i) (i - 1)) ((partM L ((i : Int) - 1)).getD 0 0) else flipS (flipS L i) (i - 1)) = M at h2
  cases hd : (decide (0 < (partM L (i : Int)).length) && (((partM L ((i : Int) - 1)).length == 0) || !((partM L ((i : Int) - 1)).getD 0 0 == (partM L (i : Int)).getD 0 0))) with
  | false => exact h2.1
  | true =>
    simp only [Bool.and_eq_true] at hd
    exact add4_ok h2.1 (by rw [h2.2]; exact hq.at (of_decide_eq_true hd.1))
def canS (L : List Con) (k : Nat) : List Con := bif (at_ L k).sign == -1 && linkM L k then stepM L k else L
def canG (L : List Con) : Nat → List Con
  | 0 => L
  | k + 1 => canG (canS L (k + 1)) k
def canM (L : List Con) : List Con := canG (fuseM L) ((fuseM L).length - 1)
theorem canS_len {L : List Con} {k : Nat} : (canS L k).length = L.length := by
  unfold canS
  cases ((at_ L k).sign == -1 && linkM L k) <;> simp only [cond_true, cond_false, stepM_len]
theorem canS_ok {L : List Con} (h : okL L) {k : Nat} (hk : k < L.length) : okL (canS L k) := by
  unfold canS
  cases ((at_ L k).sign == -1 && linkM L k)
  · exact h
  · exact stepM_ok h hk
end Go.Proofs.YtkkmlbhmcdoibaaGreatDoor.S

namespace Go.Proofs.YtkkmlbhmcdoibaaGreatDoor.S
open Go.QfSy Go.RowKit
def Prt.ofR : List RV → Prt
  | [.int .u8 a, .int .u8 b, .int .u8 c, .int .u8 d, .int .u8 e] => ⟨a, b, c, d, e⟩
  | _ => Prt.zero
def prtR (n : Nat) (row : Nat → List RV) : List Prt := (List.range n).map fun i => Prt.ofR (row i)
theorem prtR_ro (L : List Prt) : prtR L.length (fun i => (L.getD i Prt.zero).rvs) = L := by
  apply List.ext_getElem
  · simp [prtR]
  · intro i h1 h2
    simp [prtR, h2]; rfl
theorem roP_ro {n : Nat} {row : Nat → List RV} (h : ∀ i, i < n → row i = (Prt.ofR (row i)).rvs) {F : Fz} {V : Value} (k : RRel F (.sl n 5 row) V) : RRel F (roP (prtR n row)) V := by
  unfold roP
  have hn : (prtR n row).length = n := by simp [prtR]
  rw [hn]
  refine k.rows (fun i hi => ?_)
  rw [h i hi]
  congr 1
  simp [prtR, hi]
theorem list_rows {pr most : Int} {two : Bool} {n : Nat} {row : Nat → List RV} (h1 : ∀ i, i < n → row i = (Prt.ofR (row i)).rvs) (h2 : ∀ p ∈ prtR n row, p.ok) (h3 : 1 ≤ most) (h4 : most ≤ 100) (h5 : n ≤ 1000) : PureC Tryz.prog [] 18 [.agg [.int .u8 pr, .sl n 5 row], .int .i64 most, .bool two] (roC (listV most two (prtR n row))) := by
  refine (list_pure pr _ most two h2 h3 h4 (by simpa [prtR] using h5)).args (fun F Args hr => ?_)
  cases hr with | cons k0 hr => cases k0 with | agg k0 => cases k0 with | cons a0 k0 => cases k0 with | cons a1 k0 =>
  cases k0
  exact .cons (.agg (.cons a0 (.cons (roP_ro h1 a1) .nil))) hr
theorem RImp.prt {n : Nat} {row : Nat → List RV} (h : ∀ i, i < n → row i = (Prt.ofR (row i)).rvs) : RImp (.sl n 5 row) (roP (prtR n row)) := fun F V k => roP_ro h k
theorem prtR_len {n : Nat} {row : Nat → List RV} : (prtR n row).length = n := by simp [prtR]
theorem listV_len {most : Int} {two : Bool} {X : List Prt} : (listV most two X).length ≤ X.length + 1 := by
  have key : ∀ (X : List Prt) (e n : Int), (listM most two X e n).length ≤ X.length := by
    intro X
    induction X with
    | nil => intro e n; simp [listM]
    | cons p l ih =>
      intro e n
      simp only [listM]
      split
      · simp
      · simp; exact ih _ _
  unfold listV
  cases (listF most two X).isEmpty
  · have := key X (-1) 0
    simp only [cond_false]; unfold listF; omega
  · simp
end Go.Proofs.YtkkmlbhmcdoibaaGreatDoor.S

namespace Go.Proofs.YtkkmlbhmcdoibaaGreatDoor.Q
open Go.RowKit
theorem below_drewN {B : Nat} {a w : World} (h : Below B a w) (n : Nat) : Below B a (w.drewN n) := ⟨h.os, h.tape, h.output, h.size, h.block⟩
structure Con where
  exp : Int
  dim : Int
  sign : Int
  odd : Bool
  oddity : Int
deriving DecidableEq
def I64 (n : Int) : Prop := -9223372036854775808 ≤ n ∧ n ≤ 9223372036854775807
def Con.agg (c : Con) : Value := .agg #[.int .i64 c.exp, .int .i64 c.dim, .int .i64 c.sign, .bool c.odd, .int .i64 c.oddity]
structure ConAt (w : World) (b o : Nat) (c : Con) : Prop where
  c0 : w.cell? ⟨b, o, none⟩ = some (.int .i64 c.exp)
  c1 : w.cell? ⟨b, o + 1, none⟩ = some (.int .i64 c.dim)
  c2 : w.cell? ⟨b, o + 2, none⟩ = some (.int .i64 c.sign)
  c3 : w.cell? ⟨b, o + 3, none⟩ = some (.bool c.odd)
  c4 : w.cell? ⟨b, o + 4, none⟩ = some (.int .i64 c.oddity)
theorem ConAt.below {w w' : World} {b o n : Nat} {c : Con} (h : ConAt w b o c) (hb : Below n w w') (hl : b < n) : ConAt w' b o c :=
  ⟨(hb.cell (p := ⟨b, _, none⟩) hl).trans h.c0, (hb.cell (p := ⟨b, _, none⟩) hl).trans h.c1, (hb.cell (p := ⟨b, _, none⟩) hl).trans h.c2, (hb.cell (p := ⟨b, _, none⟩) hl).trans h.c3, (hb.cell (p := ⟨b, _, none⟩) hl).trans h.c4⟩
def Lst (w : World) (v : Value) (l : List Con) : Prop :=
  (l = [] ∧ ∃ a c, v = .slice a 0 c) ∨
  (l ≠ [] ∧ ∃ b o cap, v = .slice (some ⟨b, o, none⟩) l.length cap ∧ b < w.heap.size ∧ l.length ≤ cap ∧ (∀ i c, l[i]? = some c → ConAt w b (o + i * 5) c))
theorem Lst.below {w w' : World} {v : Value} {l : List Con} {n : Nat} (h : Lst w v l) (hb : Below n w w') (hn : w.heap.size ≤ n) : Lst w' v l := by
  rcases h with ⟨h1, h2⟩ | ⟨h1, b, o, cap, h2, h3, hcp, h4⟩
  · exact .inl ⟨h1, h2⟩
  · refine .inr ⟨h1, b, o, cap, h2, ?_, hcp, fun i c hi => (h4 i c hi).below hb (by omega)⟩
    have := hb.size; omega
theorem con_eql (c : Con) (w : World) : (binOp .neq 25 c.agg c.agg).run Tryz.prog w = .ok (.bool false) w := by
  have u3 := Tryz.underlying3
  have a3 := Tryz.isAgg3
  have z3 := Tryz.sizeOf3
  have u4 := Tryz.underlying4
  have a4 := Tryz.isAgg4
  have z4 := Tryz.sizeOf4
  have hS : Tryz.prog.underlying 25 = some (.struct (Tryz.prog.fieldsOf 25)) := by kernel_rfl
  have hp : Tryz.prog.stoodInHeld 25 = false := by kernel_rfl
  simp only [Con.agg]
  rw [run_neq_struct, show (10000 : Nat) = 9999 + 1 from rfl, run_equalIn_agg w 9999 25 _ _ hS hp]
  simp only [Program.fieldsOf, Tryz.underlying25]
  go_simp
set_option maxHeartbeats 4000000 in
theorem sameList_cons (l : List Con) (n b o cap b' o' cap' : Nat) (w : World) (hn : Hid (l.length = n)) (hn0 : 0 < n) (hn1 : n ≤ 1000) (hb : b < w.heap.size) (hb' : b' < w.heap.size)
    (hc : Hid (∀ i c, l[i]? = some c → ConAt w b (o + i * 5) c)) (hc' : Hid (∀ i c, l[i]? = some c → ConAt w b' (o' + i * 5) c)) :
    Calls Tryz.prog 25 #[.slice (some ⟨b, o, none⟩) n cap, .slice (some ⟨b', o', none⟩) n cap'] w fun e w' => e = .returned (.bool true) ∧ Below w.heap.size w w' := by
  go_enter Tryz.func25, Tryz.ntmps25
  go_wp2
  go_loopw [13] (fun i wr => ∃ (k : Nat), k ≤ n ∧ i = .int .i64 k ∧ Below w.heap.size w wr) (fun i _ => (n - (intOf i).toNat))
  case atStart => exact ⟨0, by omega, rfl, Below.refl _ _⟩
  case round =>
    obtain ⟨k, hk, rfl, hbe⟩ := hrel
    by_cases hlt : k < n
    · obtain ⟨c, hkc⟩ : ∃ c, l[k]? = some c := ⟨l[k]'(by rw [hn.out]; exact hlt), List.getElem?_eq_getElem _⟩
      obtain ⟨g0, g1, g2, g3, g4⟩ := (hc.out k c hkc).below hbe hb
      obtain ⟨f0, f1, f2, f3, f4⟩ := (hc'.out k c hkc).below hbe hb'
      have hix : (0 : Int) ≤ (k : Int) := by omega
      have hix' : (k : Int) < (n : Int) := by omega
      clear hkc
      have hneq := con_eql c
      unfold Con.agg at hneq
      go_wp2
      go_hide hQ
      go_quiet (fail)
      subst hQ
      go_wp2
      go_roundw
      case rel => exact ⟨k + 1, by omega, by go_num, below_drewN hbe _⟩
      case measure => simp [intOf]; omega
    · go_wp2
      go_ret
      exact ⟨rfl, hbe⟩
theorem sameList_nil (a a' : Option Addr) (cap cap' : Nat) (w : World) :
    Calls Tryz.prog 25 #[.slice a 0 cap, .slice a' 0 cap'] w fun e w' => e = .returned (.bool true) ∧ Below w.heap.size w w' := by
  go_enter Tryz.func25, Tryz.ntmps25
  go_wp2
  go_loopw [13] (fun i wr => i = .int .i64 0 ∧ wr = w) (fun _ _ => 0)
  case atStart => exact ⟨rfl, rfl⟩
  case round =>
    obtain ⟨rfl, rfl⟩ := hrel
    go_wp2
    go_ret
    exact ⟨rfl, Below.refl _ _⟩
theorem sameList_calls (l : List Con) (v v' : Value) (w : World) (h : Lst w v l) (h' : Lst w v' l) (hn : l.length ≤ 1000) :
    Calls Tryz.prog 25 #[v, v'] w fun e w' => e = .returned (.bool true) ∧ Below w.heap.size w w' := by
  rcases h with ⟨rfl, a, c, rfl⟩ | ⟨hne, b, o, cap, rfl, hb, hcp, hc⟩
  · rcases h' with ⟨_, a', c', rfl⟩ | ⟨hne, _⟩
    · exact sameList_nil a a' c c' w
    · exact absurd rfl hne
  · rcases h' with ⟨rfl, _⟩ | ⟨_, b', o', cap', rfl, hb', hcp', hc'⟩
    · exact absurd rfl hne
    · have hpos : 0 < l.length := by cases l; exact absurd rfl hne; simp
      exact sameList_cons l l.length b o cap b' o' cap' w rfl hpos hn hb hb' hc hc'
set_option maxRecDepth 100000 in
set_option maxHeartbeats 1000000 in
theorem same_calls (p : Int) (l : List Con) (a a' : Option Addr) (n n' c c' : Nat) (w : World) (h : Hid (Lst w (.slice a n c) l)) (h' : Hid (Lst w (.slice a' n' c') l)) (hn : Hid (l.length ≤ 1000)) :
    Calls Tryz.prog 13 #[.agg #[.int .i64 p, .slice a n c], .agg #[.int .i64 p, .slice a' n' c']] w fun e w' => e = .returned (.bool true) ∧ Below w.heap.size w w' := by
  have hcall := Lib.hid (fun (W : World) (hW : Below w.heap.size w W) => sameList_calls l (.slice a n c) (.slice a' n' c') W (h.out.below hW (Nat.le_refl _)) (h'.out.below hW (Nat.le_refl _)) hn.out)
  clear h h'
  go_enter Tryz.func13, Tryz.ntmps13
  go_wp2_with (go_at_call 25; refine (hcall.out _ ?_).mono ?_; (exact ((Below.refl _ _).alloc (Nat.le_refl _) _).alloc (by simp) _); rintro e w1 ⟨rfl, hb1⟩)
  go_ret
  exact ⟨rfl, (((Below.refl _ _).alloc (Nat.le_refl _) _).alloc (by simp) _).trans (hb1.mono (by simp; omega))⟩
end Go.Proofs.YtkkmlbhmcdoibaaGreatDoor.Q

namespace Go.Proofs.YtkkmlbhmcdoibaaGreatDoor.S
open Go.QfSy Go.RowKit
def toQ (c : Con) : Q.Con := ⟨c.exp, c.dim, c.sign, c.odd, c.oddity⟩
theorem cell_of {F : Fz} {w : World} (hF : Vld F w) {B o : Nat} {v : Value} (h : FzAt F B o v) : w.cell? ⟨B, o, none⟩ = some v ∧ B < w.heap.size := by
  obtain ⟨cs, el, fr, h1, h2⟩ := h
  have h3 := hF _ _ h1
  refine ⟨?_, (Array.getElem?_eq_some_iff.1 h3).1⟩
  simp [World.cell?, h3, h2]
theorem rs5 {F : Fz} {c : Con} {Vs : List Value} (h : RsRel F c.rvs Vs) : Vs = [.int .i64 c.exp, .int .i64 c.dim, .int .i64 c.sign, .bool c.odd, .int .i64 c.oddity] := by
  unfold Con.rvs at h
  cases h with | cons h0 h => cases h with | cons h1 h => cases h with | cons h2 h => cases h with | cons h3 h => cases h with | cons h4 h =>
  cases h; cases h0; cases h1; cases h2; cases h3; cases h4
  rfl
theorem lst_of {F : Fz} {w : World} (hF : Vld F w) {L : List Con} {V : Value} (h : RRel F (roC L) V) : Q.Lst w V (L.map toQ) ∧ ∃ a n c, V = .slice a n c := by
  unfold roC at h
  cases h with
  | sl0 sz row a c hn =>
    have : L = [] := List.eq_nil_of_length_eq_zero hn
    subst this
    exact ⟨.inl ⟨rfl, a, c, rfl⟩, _, _, _, rfl⟩
  | @sl _ _ B o c _ cs hc hl hf h =>
    refine ⟨?_, _, _, _, rfl⟩
    cases L with
    | nil => exact .inl ⟨rfl, _, _, rfl⟩
    | cons c0 l =>
      have key : ∀ i, i < (c0 :: l).length → ∀ j v, ([.int .i64 ((c0 :: l).getD i Con.zero).exp, .int .i64 ((c0 :: l).getD i Con.zero).dim, .int .i64 ((c0 :: l).getD i Con.zero).sign, .bool ((c0 :: l).getD i Con.zero).odd, .int .i64 ((c0 :: l).getD i Con.zero).oddity] : List Value)[j]? = some v → w.cell? ⟨B, o + i * 5 + j, none⟩ = some v ∧ B < w.heap.size := by
        intro i hi j v hv
        have := rs5 (h i hi)
        exact cell_of hF (hf i j v hi (by rw [this]; exact hv))
      refine .inr ⟨by simp, B, o, c, by simp, (key 0 (by simp) 0 _ rfl).2, by simpa using hc, ?_⟩
      intro i q hq
      rw [List.getElem?_map] at hq
      cases hi : (c0 :: l)[i]? with
      | none => rw [hi] at hq; cases hq
      | some x =>
        rw [hi] at hq
        cases hq
        have hlt := (List.getElem?_eq_some_iff.1 hi).1
        have hx : (c0 :: l).getD i Con.zero = x := by rw [List.getD_eq_getElem?_getD, hi]; rfl
        have k := key i hlt
        rw [hx] at k
        exact ⟨(k 0 _ rfl).1, (k 1 _ rfl).1, (k 2 _ rfl).1, (k 3 _ rfl).1, (k 4 _ rfl).1⟩
theorem flat_pure {tabs : List Tb} {f : Nat} {A : List RV} {R : RV} {V : Value} (hR : ∀ F, RRel F R V) (hfn : ∃ fn, Tryz.prog.funcs[f]? = some fn ∧ fn.body.isSome = true)
    (h : ∀ (w : World) (F : Fz) (Args : List Value), TabW tabs w → Vld F w → RsRel F A Args → Calls Tryz.prog f Args.toArray w fun e w' => e = .returned V ∧ Below w.heap.size w w') : PureC Tryz.prog tabs f A R := by
  refine ⟨hfn, ?_⟩
  intro w F Args ht hF hr
  refine (h w F Args ht hF hr).mono ?_
  rintro e w' ⟨rfl, hb⟩
  exact ⟨V, F, rfl, fun _ _ h => h, hF.below hb, fun _ _ h => .inl h, hR F, hb⟩
theorem same_pure (p : Int) (L : List Con) (hn : L.length ≤ 1000) : PureC Tryz.prog [] 13 [.agg [.int .i64 p, roC L], .agg [.int .i64 p, roC L]] (.bool true) := by
  refine flat_pure (fun _ => .bool _) ⟨_, Tryz.func13, rfl⟩ ?_
  intro w F Args ht hF hr
  cases hr with | cons h0 hr => cases hr with | cons k0 hr => cases hr; cases h0 with | agg h0 => cases h0 with | cons h1 h0 => cases h1; cases h0 with | cons h2 h0 => cases h0; cases k0 with | agg k0 => cases k0 with | cons k1 k0 => cases k1; cases k0 with | cons k2 k0 =>
  cases k0
  obtain ⟨l1, a, n, c, rfl⟩ := lst_of hF h2
  obtain ⟨l2, a', n', c', rfl⟩ := lst_of hF k2
  exact Q.same_calls p _ a a' n n' c c' w (Lib.hid l1) (Lib.hid l2) (Lib.hid (by simpa using hn))
end Go.Proofs.YtkkmlbhmcdoibaaGreatDoor.S

namespace Go.Proofs.YtkkmlbhmcdoibaaGreatDoor.S
open Go.ChangeShapes Go.WideShapes Go.ChangeAt Go.RowKit Go.QfSy
theorem own : ownKnob Tryz.prog.godebug = none := by kernel_rfl
theorem laidOut : laidOutB Tryz.prog = true := by kernel_rfl
def tabs : List Tb := [
  ⟨2, .u8, [0, 1, 28, 2, 29, 14, 24, 3, 30, 22, 20, 15, 25, 17, 4, 8, 31, 27, 13, 23, 21, 19, 16, 7, 26, 12, 18, 6, 11, 5, 10, 9], 190⟩,
  ⟨3, .u8, [0, 1, 56, 2, 57, 49, 28, 3, 61, 58, 42, 50, 38, 29, 17, 4, 62, 47, 59, 36, 45, 43, 51, 22, 53, 39, 33, 30, 24, 18, 12, 5, 63, 55, 48, 27, 60, 41, 37, 16, 46, 35, 44, 21, 52, 32, 23, 11, 54, 26, 40, 15, 34, 20, 31, 10, 25, 14, 19, 9, 13, 8, 7, 6], 191⟩,
  ⟨0, .u64, [1, 10, 100, 1000, 10000, 100000, 1000000, 10000000, 100000000, 1000000000, 10000000000, 100000000000, 1000000000000, 10000000000000, 100000000000000, 1000000000000000, 10000000000000000, 100000000000000000, 1000000000000000000, 10000000000000000000], 170⟩,
  ⟨1, .i64, [7, 11, 13, 17, 19, 23, 29, 31], 175⟩]
theorem gn0 : Tryz.prog.globalNamed "math/bits.deBruijn32tab" = some 2 := by kernel_rfl
theorem gt0 : (Tryz.prog.globals[2]?).map (·.type) = some 190 := by kernel_rfl
theorem gs0 : 2 < Tryz.prog.globals.size := by show Nat.lt _ _; exact Nat.le_of_ble_eq_true (by kernel_rfl)
theorem gc0 : Tryz.prog.cellsOf 190 = 32 := by kernel_rfl
theorem ge0 : Tryz.prog.cellsOf 5 = 1 := by kernel_rfl
theorem gr0 : (((begin Tryz.prog (fun _ _ => 0) default).world.heap[2]?).bind Obj.row?).map (·.2) = some 190 := by kernel_rfl
theorem gn1 : Tryz.prog.globalNamed "math/bits.deBruijn64tab" = some 3 := by kernel_rfl
theorem gt1 : (Tryz.prog.globals[3]?).map (·.type) = some 191 := by kernel_rfl
theorem gs1 : 3 < Tryz.prog.globals.size := by show Nat.lt _ _; exact Nat.le_of_ble_eq_true (by kernel_rfl)
theorem gc1 : Tryz.prog.cellsOf 191 = 64 := by kernel_rfl
theorem ge1 : Tryz.prog.cellsOf 5 = 1 := by kernel_rfl
theorem gr1 : (((begin Tryz.prog (fun _ _ => 0) default).world.heap[3]?).bind Obj.row?).map (·.2) = some 191 := by kernel_rfl
theorem gn2 : Tryz.prog.globalNamed "internal/strconv.uint64pow10" = some 0 := by kernel_rfl
theorem gt2 : (Tryz.prog.globals[0]?).map (·.type) = some 170 := by kernel_rfl
theorem gs2 : 0 < Tryz.prog.globals.size := by show Nat.lt _ _; exact Nat.le_of_ble_eq_true (by kernel_rfl)
theorem gc2 : Tryz.prog.cellsOf 170 = 20 := by kernel_rfl
theorem ge2 : Tryz.prog.cellsOf 142 = 1 := by kernel_rfl
theorem gr2 : (((begin Tryz.prog (fun _ _ => 0) default).world.heap[0]?).bind Obj.row?).map (·.2) = some 170 := by kernel_rfl
theorem gn3 : Tryz.prog.globalNamed "quadform/prime.offsets" = some 1 := by kernel_rfl
theorem gt3 : (Tryz.prog.globals[1]?).map (·.type) = some 175 := by kernel_rfl
theorem gs3 : 1 < Tryz.prog.globals.size := by show Nat.lt _ _; exact Nat.le_of_ble_eq_true (by kernel_rfl)
theorem gc3 : Tryz.prog.cellsOf 175 = 8 := by kernel_rfl
theorem ge3 : Tryz.prog.cellsOf 2 = 1 := by kernel_rfl
theorem gr3 : (((begin Tryz.prog (fun _ _ => 0) default).world.heap[1]?).bind Obj.row?).map (·.2) = some 175 := by kernel_rfl
theorem gl0 {W : World} {rest : List (String × DataW Unit)} (h : laidMet Tryz.prog (("math/bits.deBruijn32tab", Rows.laid_math_bits_deBruijn32tab) :: rest) W) (hS : W.ShapedOpen Tryz.prog) : W.heap[2]? = some (.cells (([0, 1, 28, 2, 29, 14, 24, 3, 30, 22, 20, 15, 25, 17, 4, 8, 31, 27, 13, 23, 21, 19, 16, 7, 26, 12, 18, 6, 11, 5, 10, 9] : List Int).map (Value.int .u8)).toArray 190 (0, 0)) := by
  have ht : Lib.TabIs Tryz.prog W "math/bits.deBruijn32tab" .u8 [0, 1, 28, 2, 29, 14, 24, 3, 30, 22, 20, 15, 25, 17, 4, 8, 31, 27, 13, 23, 21, 19, 16, 7, 26, 12, 18, 6, 11, 5, 10, 9] :=
    Lib.tabIs_of_head gn0 gt0 Tryz.underlying190 Tryz.underlying5 ge0 gc0 h
  obtain ⟨cs, t, h1, h2⟩ := row_of gs0 gr0 hS
  subst h2
  exact tab_block gn0 ht h1
theorem gl1 {W : World} {rest : List (String × DataW Unit)} (h : laidMet Tryz.prog (("math/bits.deBruijn64tab", Rows.laid_math_bits_deBruijn64tab) :: rest) W) (hS : W.ShapedOpen Tryz.prog) : W.heap[3]? = some (.cells (([0, 1, 56, 2, 57, 49, 28, 3, 61, 58, 42, 50, 38, 29, 17, 4, 62, 47, 59, 36, 45, 43, 51, 22, 53, 39, 33, 30, 24, 18, 12, 5, 63, 55, 48, 27, 60, 41, 37, 16, 46, 35, 44, 21, 52, 32, 23, 11, 54, 26, 40, 15, 34, 20, 31, 10, 25, 14, 19, 9, 13, 8, 7, 6] : List Int).map (Value.int .u8)).toArray 191 (0, 0)) := by
  have ht : Lib.TabIs Tryz.prog W "math/bits.deBruijn64tab" .u8 [0, 1, 56, 2, 57, 49, 28, 3, 61, 58, 42, 50, 38, 29, 17, 4, 62, 47, 59, 36, 45, 43, 51, 22, 53, 39, 33, 30, 24, 18, 12, 5, 63, 55, 48, 27, 60, 41, 37, 16, 46, 35, 44, 21, 52, 32, 23, 11, 54, 26, 40, 15, 34, 20, 31, 10, 25, 14, 19, 9, 13, 8, 7, 6] :=
    Lib.tabIs_of_head gn1 gt1 Tryz.underlying191 Tryz.underlying5 ge1 gc1 h
  obtain ⟨cs, t, h1, h2⟩ := row_of gs1 gr1 hS
  subst h2
  exact tab_block gn1 ht h1
theorem gl2 {W : World} {rest : List (String × DataW Unit)} (h : laidMet Tryz.prog (("internal/strconv.uint64pow10", Rows.laid_internal_strconv_uint64pow10) :: rest) W) (hS : W.ShapedOpen Tryz.prog) : W.heap[0]? = some (.cells (([1, 10, 100, 1000, 10000, 100000, 1000000, 10000000, 100000000, 1000000000, 10000000000, 100000000000, 1000000000000, 10000000000000, 100000000000000, 1000000000000000, 10000000000000000, 100000000000000000, 1000000000000000000, 10000000000000000000] : List Int).map (Value.int .u64)).toArray 170 (0, 0)) := by
  have ht : Lib.TabIs Tryz.prog W "internal/strconv.uint64pow10" .u64 [1, 10, 100, 1000, 10000, 100000, 1000000, 10000000, 100000000, 1000000000, 10000000000, 100000000000, 1000000000000, 10000000000000, 100000000000000, 1000000000000000, 10000000000000000, 100000000000000000, 1000000000000000000, 10000000000000000000] :=
    Lib.tabIs_of_head gn2 gt2 Tryz.underlying170 Tryz.underlying142 ge2 gc2 h
  obtain ⟨cs, t, h1, h2⟩ := row_of gs2 gr2 hS
  subst h2
  exact tab_block gn2 ht h1
theorem gl3 {W : World} {rest : List (String × DataW Unit)} (h : laidMet Tryz.prog (("quadform/prime.offsets", Rows.laid_quadform_prime_offsets) :: rest) W) (hS : W.ShapedOpen Tryz.prog) : W.heap[1]? = some (.cells (([7, 11, 13, 17, 19, 23, 29, 31] : List Int).map (Value.int .i64)).toArray 175 (0, 0)) := by
  have ht : Lib.TabIs Tryz.prog W "quadform/prime.offsets" .i64 [7, 11, 13, 17, 19, 23, 29, 31] :=
    Lib.tabIs_of_head gn3 gt3 Tryz.underlying175 Tryz.underlying2 ge3 gc3 h
  obtain ⟨cs, t, h1, h2⟩ := row_of gs3 gr3 hS
  subst h2
  exact tab_block gn3 ht h1
theorem tabs_of {W : World} (h : laidMet Tryz.prog [("math/bits.deBruijn32tab", Rows.laid_math_bits_deBruijn32tab), ("math/bits.deBruijn64tab", Rows.laid_math_bits_deBruijn64tab), ("internal/strconv.uint64pow10", Rows.laid_internal_strconv_uint64pow10), ("quadform/prime.offsets", Rows.laid_quadform_prime_offsets)] W) (hS : W.ShapedOpen Tryz.prog) : TabW tabs W := by
  intro t ht
  simp only [tabs, List.mem_cons, List.not_mem_nil, or_false] at ht
  rcases ht with rfl | rfl | rfl | rfl
  · exact gl0 h hS
  · exact gl1 (laidMet.tail h) hS
  · exact gl2 (laidMet.tail (laidMet.tail h)) hS
  · exact gl3 (laidMet.tail (laidMet.tail (laidMet.tail h))) hS
noncomputable def laidWorld (os : Os) : World := (layAt 1 Rows.laid_quadform_prime_offsets (layAt 0 Rows.laid_internal_strconv_uint64pow10 (layAt 3 Rows.laid_math_bits_deBruijn64tab (layAt 2 Rows.laid_math_bits_deBruijn32tab (World.holding Tryz.prog os ⟨#[], #[], []⟩)))))
end Go.Proofs.YtkkmlbhmcdoibaaGreatDoor.S

namespace Go.Proofs.YtkkmlbhmcdoibaaGreatDoor.S
open Go.QfSy Go.RowKit
set_option maxRecDepth 1000000 in
theorem awake_run : isT0 (bodyF EC (callF EC noOrc 60) noLo 7 (RV.avl []) ⟨trOf (tabList tabs), 1000, [], []⟩) = true := by kernel_rfl
theorem awake_pure : PureC Tryz.prog tabs 7 [] (.bool true) :=
  pure_true ecOk (callF_ok ecOk (noOrc_ok _ _) 60) rfl rfl ecNg awake_run
end Go.Proofs.YtkkmlbhmcdoibaaGreatDoor.S

namespace Go.Proofs.YtkkmlbhmcdoibaaGreatDoor.S
open Go.QfSy Go.RowKit
noncomputable def entsLi : List OEnt := [
  ⟨18, [], fun A => match A with
    | [.agg [.int .u8 pr, .sl n 5 row], .int .i64 most, .bool two] => some (roC (listV most two (prtR n row)), [(∀ i, i < n → row i = (Prt.ofR (row i)).rvs) ∧ (∀ p ∈ prtR n row, p.ok) ∧ 1 ≤ most ∧ most ≤ 100 ∧ n ≤ 1000])
    | _ => none⟩]
theorem entsLi_ok : ∀ e ∈ entsLi, EntOk Tryz.prog e := by
  intro e he
  rw [List.mem_singleton.1 he]
  intro A R ms h hm
  simp only at h
  split at h
  · cases h
    obtain ⟨h1, h2, h3, h4, h5⟩ := all_one hm
    exact list_rows h1 h2 h3 h4 h5
  · cases h
end Go.Proofs.YtkkmlbhmcdoibaaGreatDoor.S

namespace Go.Proofs.YtkkmlbhmcdoibaaGreatDoor.S
open Go.QfSy Go.RowKit
noncomputable def partsFin (L : List Con) : List (List Int) := (partsA L L.length).1
noncomputable def partsLst (L : List Con) : List Int := (partsA L L.length).2.getD []
def partsI (L : List Con) (i : Nat × List (List Int) × Option (List Int)) : Prop := i.1 ≤ L.length ∧ partsA L i.1 = i.2
theorem partsI_ok {L : List Con} {i : Nat × List (List Int) × Option (List Int)} (h : partsI L i) : GrpOk (oddB L) i.1 i.2 := by rw [← h.2]; exact grp_ok _ _ _
theorem partsI_no {L : List Con} {k : Nat} {a : Acc} (h : partsI L (k, a)) (hk : k < L.length) (ho : (at_ L k).odd = false) : partsI L (k + 1, a) := by
  refine ⟨hk, ?_⟩
  show grpS (oddB L k) (joinB L k) k (partsA L k) = a
  rw [h.2, show oddB L k = false from ho]; rfl
theorem partsI_new {L : List Con} {k : Nat} {F : List (List Int)} {l : List Int} (h : partsI L (k, F, some l)) (hk : k < L.length) (ho : (at_ L k).odd = true) (hj : joinB L k = false) : partsI L (k + 1, F ++ [l], some [(k : Int)]) := by
  refine ⟨hk, ?_⟩
  show grpS (oddB L k) (joinB L k) k (partsA L k) = _
  rw [h.2, show oddB L k = true from ho, hj]; rfl
theorem partsI_app {L : List Con} {k : Nat} {F : List (List Int)} {l : List Int} (h : partsI L (k, F, some l)) (hk : k < L.length) (ho : (at_ L k).odd = true) (hj : joinB L k = true) : partsI L (k + 1, F, some (l ++ [(k : Int)])) := by
  refine ⟨hk, ?_⟩
  show grpS (oddB L k) (joinB L k) k (partsA L k) = _
  rw [h.2, show oddB L k = true from ho, hj]; rfl
theorem partsI_one {L : List Con} {k : Nat} {F : List (List Int)} (h : partsI L (k, F, none)) (hk : k < L.length) (ho : (at_ L k).odd = true) : partsI L (k + 1, [], some [(k : Int)]) := by
  have hF : F = [] := ((partsI_ok h).none rfl).1
  subst hF
  refine ⟨hk, ?_⟩
  show grpS (oddB L k) (joinB L k) k (partsA L k) = _
  rw [h.2, show oddB L k = true from ho]; rfl
theorem partsI_end {L : List Con} {k : Nat} {a : Acc} (h : partsI L (k, a)) (hk : L.length ≤ k) : partsA L L.length = a := by
  have h1 : k ≤ L.length := h.1
  have : k = L.length := by omega
  subst this; exact h.2
theorem partsI_fin {L : List Con} {k : Nat} {F : List (List Int)} {l : List Int} (h : partsI L (k, F, some l)) (hk : L.length ≤ k) : partsFin L = F ∧ partsLst L = l := by
  have := partsI_end h hk
  unfold partsFin partsLst
  rw [this]
  exact ⟨rfl, rfl⟩
theorem joinB_t {L : List Con} {k : Nat} (h1 : 0 < k) (h2 : (at_ L (k - 1)).odd = true) (h3 : (at_ L (k - 1)).exp = (at_ L k).exp - 1) : joinB L k = true := by
  unfold joinB; rw [h2, h3]; simp [h1]
theorem joinB_1 {L : List Con} {k : Nat} (h1 : ¬ 0 < k) : joinB L k = false := by unfold joinB; simp [h1]
theorem joinB_2 {L : List Con} {k : Nat} (h1 : (at_ L (k - 1)).odd = false) : joinB L k = false := by unfold joinB; rw [h1]; simp
theorem joinB_3 {L : List Con} {k : Nat} (h1 : ¬ (at_ L (k - 1)).exp = (at_ L k).exp - 1) : joinB L k = false := by unfold joinB; simp only [h1, decide_false, Bool.and_false]
theorem parts_nil {L : List Con} (h : (partsA L L.length).2.isNone = true) : partsM L = [] := by
  have h1 := grp_ok (oddB L) (joinB L) L.length
  have h2 : (partsA L L.length).2 = none := by simpa using h
  have h3 := h1.none h2
  unfold partsM
  generalize hp : partsA L L.length = a at h2
  obtain ⟨F, o⟩ := a
  have h2 : o = none := h2
  subst h2
  have h4 : (partsA L L.length).1 = [] := h3.1
  rw [hp] at h4
  exact h4
theorem parts_cons {L : List Con} (h : (partsA L L.length).2.isNone = false) : partsM L = partsFin L ++ [partsLst L] := by
  unfold partsM partsFin partsLst
  generalize partsA L L.length = a at h
  obtain ⟨F, o⟩ := a
  cases o with
  | none => cases h
  | some l => rfl
theorem odd_b {L : List Con} {l : List Int} {t : Nat} (hL : okL L) (hl : inR L.length l) (ht : t < l.length) : 0 ≤ (at_ L (l.getD t 0).toNat).oddity ∧ (at_ L (l.getD t 0).toNat).oddity ≤ 7 := by
  have h1 := hl.at ht
  exact (hL.at (k := (l.getD t 0).toNat) (by omega)).2.2.2
end Go.Proofs.YtkkmlbhmcdoibaaGreatDoor.S

namespace Go.Proofs.YtkkmlbhmcdoibaaGreatDoor.S
open Go.QfSy Go.RowKit
noncomputable def coH (p : Int) (L : List Con) : List (Nat × Blk) := [(1000, ⟨.plain [.vint .i64 p, (roC L).av], 30, 0, false, true⟩), (1001, ⟨.plain [.fn 46 [.ptr 1000 0], .fn 47 [.ptr 1000 0]], 79, 0, false, true⟩)]
noncomputable def coAnn (p : Int) (L : List Con) : Ann := ⟨⟨[(3, .ptr 1001 0), (5, .nils), (8, .vint .i64 L.length), (9, .int .i64 0)], coH p L, 1002⟩, some (partsA L L.length).2.isNone, fun d => match d with
  | true => (.exit 0, ⟨[(5, .nils)], [], 1010⟩)
  | false => (.exit 0, ⟨[(5, .lo 1003 ((partsFin L).length + 1))], [(1003, ⟨.rows .i64 (partsFin L) 1004 (partsLst L).length, 22, 1, true, true⟩), (1004, ⟨.ints .i64 (partsLst L), 3, 1, true, true⟩)], 1010⟩)⟩
noncomputable def coS (p : Int) (L : List Con) : Nat × List (List Int) × Option (List Int) → St
  | (k, _, none) => ⟨[(3, .ptr 1001 0), (5, .nils), (8, .vint .i64 L.length), (9, .vint .i64 (k : Int))], coH p L, 1010⟩
  | (k, F, some l) => ⟨[(3, .ptr 1001 0), (5, .lo 1003 (F.length + 1)), (8, .vint .i64 L.length), (9, .vint .i64 (k : Int))], coH p L ++ [(1003, ⟨.rows .i64 F 1004 l.length, 22, 1, true, true⟩), (1004, ⟨.ints .i64 l, 3, 1, true, true⟩)], 1010⟩
theorem joinB_t' {L : List Con} {k : Nat} (h1 : 0 < k) (h2 : (at_ L (k - 1)).odd = true) (h3 : (at_ L k).exp = (at_ L (k - 1)).exp + 1) : joinB L k = true := joinB_t h1 h2 (by omega)
theorem joinB_3' {L : List Con} {k : Nat} (h1 : ¬ (at_ L k).exp = (at_ L (k - 1)).exp + 1) : joinB L k = false := joinB_3 (by omega)
set_option maxRecDepth 100000 in
theorem co_loop (p : Int) (L : List Con) (hL : okE L) : AnnOk Tryz.prog EV.ng (Nat.max 2 Tryz.f45.ntmps) (bodyAt Tryz.f45 [0, 1, 0, 1, 1]) (coAnn p L) := by
  refine ann_of evOk (callF_ok evOk (noOrc_ok _ _) 8) none_ann (by kernel_rfl) (by kernel_rfl) (coS p L) (fun i => L.length - i.1) (fun d i => partsI L i ∧ d = (partsA L L.length).2.isNone) ?_ ?_
  · intro d hd
    exact ⟨(0, [], none), [(↑L.length : Int) = (↑L.length : Int), (0 : Int) = (↑(0 : Nat) : Int), p = p, L.length = L.length ∧ (fun i => (L.getD i Con.zero).rvs) = fun i => (L.getD i Con.zero).rvs], by kernel_rfl, (by refine ⟨?_, ?_, ?_, (?_ : L.length = L.length ∧ (fun i => (L.getD i Con.zero).rvs) = fun i => (L.getD i Con.zero).rvs)⟩ <;> (first | rfl | assumption | omega | simp_all)), (by exact ⟨⟨Nat.zero_le _, rfl⟩, hd.symm⟩)⟩
  · rintro d hd ⟨k, F, o⟩ hI
    cases d
    · -- d = false
      obtain ⟨hI, hD⟩ := hI
      have hG := partsI_ok hI
      have hk : k ≤ L.length := hI.1
      have hl := hL.1
      have ek : IntKind.i64.wrap ((k : Int) + 1) = ((k + 1 : Nat) : Int) := by rw [w64 (by omega) (by omega)]; omega
      have em : IntKind.i64.wrap ((k : Int) - 1) = (k : Int) - 1 := w64 (by omega) (by omega)
      have et : ((k : Int) - 1).toNat = k - 1 := by omega
      have ew : IntKind.i64.wrap ((at_ L (k - 1)).exp + 1) = (at_ L (k - 1)).exp + 1 := by have := hL.at' (k - 1); exact w64 (by omega) (by omega)
      have hFk : F.length ≤ k := by have := hG.len; cases o <;> simp [allA] at this <;> omega
      have eF : IntKind.i64.wrap (((F.length + 1 : Nat) : Int) - 1) = (F.length : Int) := by rw [w64 (by omega) (by omega)]; omega
      rcases o with _ | l
      · -- 1
        refine Or.elim (Bool.eq_false_or_eq_true (decide ((↑k : Int) < (↑L.length : Int)))) (fun d1 => Or.elim (Bool.eq_false_or_eq_true ((L.getD k Con.zero).odd)) (fun d2 => Or.elim (Bool.eq_false_or_eq_true (decide ((↑k : Int) > (0 : Int)))) (fun d3 => Or.elim (Bool.eq_false_or_eq_true ((L.getD (IntKind.i64.wrap ((↑k : Int) - (1 : Int))).toNat Con.zero).odd)) (fun d4 => GnG.no ?_)
           (fun d4 => ⟨[true, false, true, false], .inl ⟨(k + 1, [], some [(k : Int)]), [(1 : Nat) = (0 : Nat) + (1 : Nat), (↑L.length : Int) = (↑L.length : Int), IntKind.i64.wrap ((↑k : Int) + (1 : Int)) = (↑(k + (1 : Nat)) : Int), p = p, L.length = L.length ∧ (fun i => (L.getD i Con.zero).rvs) = fun i => (L.getD i Con.zero).rvs, ([] : List (List Int)) = [] ∧ (1 : Nat) = [(↑k : Int)].length, [(↑k : Int)] = [(↑k : Int)], Dec (L.getD (IntKind.i64.wrap ((↑k : Int) - (1 : Int))).toNat Con.zero).odd false, (0 : Int) ≤ IntKind.i64.wrap ((↑k : Int) - (1 : Int)) ∧ IntKind.i64.wrap ((↑k : Int) - (1 : Int)) < (↑L.length : Int), Dec (decide ((↑k : Int) > (0 : Int))) true, Dec (!(L.getD k Con.zero).odd) false, (0 : Int) ≤ (↑k : Int) ∧ (↑k : Int) < (↑L.length : Int), Dec (decide ((↑k : Int) < (↑L.length : Int))) true], by kernel_rfl, ⟨?_, ?_, ?_, ?_, ?_, ?_, ?_, d4, ?_, d3, (dN d2), ?_, d1⟩, MuG.out ?_, InG.out ?_⟩⟩))
           (fun d3 => ⟨[true, false, false], .inl ⟨(k + 1, [], some [(k : Int)]), [(1 : Nat) = (0 : Nat) + (1 : Nat), (↑L.length : Int) = (↑L.length : Int), IntKind.i64.wrap ((↑k : Int) + (1 : Int)) = (↑(k + (1 : Nat)) : Int), p = p, L.length = L.length ∧ (fun i => (L.getD i Con.zero).rvs) = fun i => (L.getD i Con.zero).rvs, ([] : List (List Int)) = [] ∧ (1 : Nat) = [(↑k : Int)].length, [(↑k : Int)] = [(↑k : Int)], Dec (decide ((↑k : Int) > (0 : Int))) false, Dec (!(L.getD k Con.zero).odd) false, (0 : Int) ≤ (↑k : Int) ∧ (↑k : Int) < (↑L.length : Int), Dec (decide ((↑k : Int) < (↑L.length : Int))) true], by kernel_rfl, ⟨?_, ?_, ?_, ?_, ?_, ?_, ?_, d3, (dN d2), ?_, d1⟩, MuG.out ?_, InG.out ?_⟩⟩))
           (fun d2 => ⟨[true, true], .inl ⟨(k + 1, F, none), [(↑L.length : Int) = (↑L.length : Int), IntKind.i64.wrap ((↑k : Int) + (1 : Int)) = (↑(k + (1 : Nat)) : Int), p = p, L.length = L.length ∧ (fun i => (L.getD i Con.zero).rvs) = fun i => (L.getD i Con.zero).rvs, Dec (!(L.getD k Con.zero).odd) true, (0 : Int) ≤ (↑k : Int) ∧ (↑k : Int) < (↑L.length : Int), Dec (decide ((↑k : Int) < (↑L.length : Int))) true], by kernel_rfl, ⟨?_, ?_, ?_, ?_, (dN d2), ?_, d1⟩, MuG.out ?_, InG.out ?_⟩⟩))
           (fun d1 => CtG.no ?_)
        all_goals first | (refine MuG.mk ?_; (simp only [decide_eq_true_eq, decide_eq_false_iff_not] at *; show L.length - (k + 1) < L.length - k; omega)) | (refine InG.mk ?_; (simp only [em, et, ew, decide_eq_true_eq, decide_eq_false_iff_not, gt_iff_lt, beq_iff_eq, beq_eq_false_iff_ne, ne_eq] at *; first | exact ⟨partsI_no hI (by omega) d2, hD⟩ | exact ⟨partsI_one hI (by omega) d2, hD⟩ | exact ⟨partsI_app hI (by omega) d2 (joinB_t' (by omega) d4 d5), hD⟩ | exact ⟨partsI_new hI (by omega) d2 (joinB_1 (by omega)), hD⟩ | exact ⟨partsI_new hI (by omega) d2 (joinB_2 d4), hD⟩ | exact ⟨partsI_new hI (by omega) d2 (joinB_3' d5), hD⟩)) | (refine CtG.mk ?_; (simp only [decide_eq_false_iff_not] at *; have h0 := partsI_end hI (by omega); rw [h0] at hD; cases hD)) | (refine GnG.mk ?_; (have h0 := ((partsI_ok hI).none rfl).2 (k - 1) (by simp only [decide_eq_true_eq] at d3; show k - 1 < k; omega); simp only [em, et] at d4; exact Bool.noConfusion ((show false = _ from h0.symm).trans d4))) | (first | rfl | exact ⟨rfl, rfl⟩ | ((try simp only [em, ek, et, eF, ew, Int.toNat_natCast, decide_eq_true_eq, decide_eq_false_iff_not, gt_iff_lt, View.num] at *) <;> first | omega | exact ⟨rfl, rfl⟩ | (have := (hG.rows l (by simp [allA])).2.2; exact ⟨by trivial, by omega⟩) | (rw [(partsI_fin hI (by omega)).1]; done) | (rw [(partsI_fin hI (by omega)).2]; done) | (rw [(partsI_fin hI (by omega)).1, (partsI_fin hI (by omega)).2]; exact ⟨rfl, rfl⟩) | (simp; done)))
      · -- 2
        refine Or.elim (Bool.eq_false_or_eq_true (decide ((↑k : Int) < (↑L.length : Int)))) (fun d1 => Or.elim (Bool.eq_false_or_eq_true ((L.getD k Con.zero).odd)) (fun d2 => Or.elim (Bool.eq_false_or_eq_true (decide ((↑k : Int) > (0 : Int)))) (fun d3 => Or.elim (Bool.eq_false_or_eq_true ((L.getD (IntKind.i64.wrap ((↑k : Int) - (1 : Int))).toNat Con.zero).odd)) (fun d4 => Or.elim (Bool.eq_false_or_eq_true ((L.getD k Con.zero).exp == IntKind.i64.wrap ((L.getD (IntKind.i64.wrap ((↑k : Int) - (1 : Int))).toNat Con.zero).exp + (1 : Int)))) (fun d5 => ⟨[true, false, true, true, true], .inl ⟨(k + 1, F, some (l ++ [(k : Int)])), [F.length + (1 : Nat) = F.length + (1 : Nat), (↑L.length : Int) = (↑L.length : Int), IntKind.i64.wrap ((↑k : Int) + (1 : Int)) = (↑(k + (1 : Nat)) : Int), p = p, L.length = L.length ∧ (fun i => (L.getD i Con.zero).rvs) = fun i => (L.getD i Con.zero).rvs, F = F ∧ l.length + (1 : Nat) = (l ++ [(↑k : Int)]).length, l ++ [(↑k : Int)] = l ++ [(↑k : Int)], (IntKind.i64.wrap ((↑(F.length + (1 : Nat)) : Int) - (1 : Int))).toNat = F.length, (0 : Int) ≤ IntKind.i64.wrap ((↑(F.length + (1 : Nat)) : Int) - (1 : Int)) ∧ IntKind.i64.wrap ((↑(F.length + (1 : Nat)) : Int) - (1 : Int)) < (↑(F.length + (1 : Nat)) : Int), (View.ints IntKind.i64 l).num = l.length ∧ l.length + (1 : Nat) ≤ (1000000 : Nat), (IntKind.i64.wrap ((↑(F.length + (1 : Nat)) : Int) - (1 : Int))).toNat = F.length, (0 : Int) ≤ IntKind.i64.wrap ((↑(F.length + (1 : Nat)) : Int) - (1 : Int)) ∧ IntKind.i64.wrap ((↑(F.length + (1 : Nat)) : Int) - (1 : Int)) < (↑(F.length + (1 : Nat)) : Int), Dec ((L.getD k Con.zero).exp == IntKind.i64.wrap ((L.getD (IntKind.i64.wrap ((↑k : Int) - (1 : Int))).toNat Con.zero).exp + (1 : Int))) true, (0 : Int) ≤ IntKind.i64.wrap ((↑k : Int) - (1 : Int)) ∧ IntKind.i64.wrap ((↑k : Int) - (1 : Int)) < (↑L.length : Int), (0 : Int) ≤ (↑k : Int) ∧ (↑k : Int) < (↑L.length : Int), Dec (L.getD (IntKind.i64.wrap ((↑k : Int) - (1 : Int))).toNat Con.zero).odd true, (0 : Int) ≤ IntKind.i64.wrap ((↑k : Int) - (1 : Int)) ∧ IntKind.i64.wrap ((↑k : Int) - (1 : Int)) < (↑L.length : Int), Dec (decide ((↑k : Int) > (0 : Int))) true, Dec (!(L.getD k Con.zero).odd) false, (0 : Int) ≤ (↑k : Int) ∧ (↑k : Int) < (↑L.length : Int), Dec (decide ((↑k : Int) < (↑L.length : Int))) true], by kernel_rfl, ⟨?_, ?_, ?_, ?_, ?_, ?_, ?_, ?_, ?_, ?_, ?_, ?_, d5, ?_, ?_, d4, ?_, d3, (dN d2), ?_, d1⟩, MuG.out ?_, InG.out ?_⟩⟩)
           (fun d5 => ⟨[true, false, true, true, false], .inl ⟨(k + 1, F ++ [l], some [(k : Int)]), [F.length + (1 : Nat) + (1 : Nat) = (F ++ [l]).length + (1 : Nat), (↑L.length : Int) = (↑L.length : Int), IntKind.i64.wrap ((↑k : Int) + (1 : Int)) = (↑(k + (1 : Nat)) : Int), p = p, L.length = L.length ∧ (fun i => (L.getD i Con.zero).rvs) = fun i => (L.getD i Con.zero).rvs, F ++ [l] = F ++ [l] ∧ (1 : Nat) = [(↑k : Int)].length, [(↑k : Int)] = [(↑k : Int)], F.length + (1 : Nat) + (1 : Nat) ≤ (1000000 : Nat), F.length + (1 : Nat) = F.length + (1 : Nat) ∧ l.length = l.length, Dec ((L.getD k Con.zero).exp == IntKind.i64.wrap ((L.getD (IntKind.i64.wrap ((↑k : Int) - (1 : Int))).toNat Con.zero).exp + (1 : Int))) false, (0 : Int) ≤ IntKind.i64.wrap ((↑k : Int) - (1 : Int)) ∧ IntKind.i64.wrap ((↑k : Int) - (1 : Int)) < (↑L.length : Int), (0 : Int) ≤ (↑k : Int) ∧ (↑k : Int) < (↑L.length : Int), Dec (L.getD (IntKind.i64.wrap ((↑k : Int) - (1 : Int))).toNat Con.zero).odd true, (0 : Int) ≤ IntKind.i64.wrap ((↑k : Int) - (1 : Int)) ∧ IntKind.i64.wrap ((↑k : Int) - (1 : Int)) < (↑L.length : Int), Dec (decide ((↑k : Int) > (0 : Int))) true, Dec (!(L.getD k Con.zero).odd) false, (0 : Int) ≤ (↑k : Int) ∧ (↑k : Int) < (↑L.length : Int), Dec (decide ((↑k : Int) < (↑L.length : Int))) true], by kernel_rfl, ⟨?_, ?_, ?_, ?_, ?_, ?_, ?_, ?_, ?_, d5, ?_, ?_, d4, ?_, d3, (dN d2), ?_, d1⟩, MuG.out ?_, InG.out ?_⟩⟩))
           (fun d4 => ⟨[true, false, true, false], .inl ⟨(k + 1, F ++ [l], some [(k : Int)]), [F.length + (1 : Nat) + (1 : Nat) = (F ++ [l]).length + (1 : Nat), (↑L.length : Int) = (↑L.length : Int), IntKind.i64.wrap ((↑k : Int) + (1 : Int)) = (↑(k + (1 : Nat)) : Int), p = p, L.length = L.length ∧ (fun i => (L.getD i Con.zero).rvs) = fun i => (L.getD i Con.zero).rvs, F ++ [l] = F ++ [l] ∧ (1 : Nat) = [(↑k : Int)].length, [(↑k : Int)] = [(↑k : Int)], F.length + (1 : Nat) + (1 : Nat) ≤ (1000000 : Nat), F.length + (1 : Nat) = F.length + (1 : Nat) ∧ l.length = l.length, Dec (L.getD (IntKind.i64.wrap ((↑k : Int) - (1 : Int))).toNat Con.zero).odd false, (0 : Int) ≤ IntKind.i64.wrap ((↑k : Int) - (1 : Int)) ∧ IntKind.i64.wrap ((↑k : Int) - (1 : Int)) < (↑L.length : Int), Dec (decide ((↑k : Int) > (0 : Int))) true, Dec (!(L.getD k Con.zero).odd) false, (0 : Int) ≤ (↑k : Int) ∧ (↑k : Int) < (↑L.length : Int), Dec (decide ((↑k : Int) < (↑L.length : Int))) true], by kernel_rfl, ⟨?_, ?_, ?_, ?_, ?_, ?_, ?_, ?_, ?_, d4, ?_, d3, (dN d2), ?_, d1⟩, MuG.out ?_, InG.out ?_⟩⟩))
           (fun d3 => ⟨[true, false, false], .inl ⟨(k + 1, F ++ [l], some [(k : Int)]), [F.length + (1 : Nat) + (1 : Nat) = (F ++ [l]).length + (1 : Nat), (↑L.length : Int) = (↑L.length : Int), IntKind.i64.wrap ((↑k : Int) + (1 : Int)) = (↑(k + (1 : Nat)) : Int), p = p, L.length = L.length ∧ (fun i => (L.getD i Con.zero).rvs) = fun i => (L.getD i Con.zero).rvs, F ++ [l] = F ++ [l] ∧ (1 : Nat) = [(↑k : Int)].length, [(↑k : Int)] = [(↑k : Int)], F.length + (1 : Nat) + (1 : Nat) ≤ (1000000 : Nat), F.length + (1 : Nat) = F.length + (1 : Nat) ∧ l.length = l.length, Dec (decide ((↑k : Int) > (0 : Int))) false, Dec (!(L.getD k Con.zero).odd) false, (0 : Int) ≤ (↑k : Int) ∧ (↑k : Int) < (↑L.length : Int), Dec (decide ((↑k : Int) < (↑L.length : Int))) true], by kernel_rfl, ⟨?_, ?_, ?_, ?_, ?_, ?_, ?_, ?_, ?_, d3, (dN d2), ?_, d1⟩, MuG.out ?_, InG.out ?_⟩⟩))
           (fun d2 => ⟨[true, true], .inl ⟨(k + 1, F, some l), [F.length + (1 : Nat) = F.length + (1 : Nat), (↑L.length : Int) = (↑L.length : Int), IntKind.i64.wrap ((↑k : Int) + (1 : Int)) = (↑(k + (1 : Nat)) : Int), p = p, L.length = L.length ∧ (fun i => (L.getD i Con.zero).rvs) = fun i => (L.getD i Con.zero).rvs, F = F ∧ l.length = l.length, l = l, Dec (!(L.getD k Con.zero).odd) true, (0 : Int) ≤ (↑k : Int) ∧ (↑k : Int) < (↑L.length : Int), Dec (decide ((↑k : Int) < (↑L.length : Int))) true], by kernel_rfl, ⟨?_, ?_, ?_, ?_, ?_, ?_, ?_, (dN d2), ?_, d1⟩, MuG.out ?_, InG.out ?_⟩⟩))
           (fun d1 => ⟨[false], .inr ⟨[F.length + (1 : Nat) = (partsFin L).length + (1 : Nat), F = partsFin L ∧ l.length = (partsLst L).length, l = partsLst L, Dec (decide ((↑k : Int) < (↑L.length : Int))) false], by kernel_rfl, ⟨?_, ?_, ?_, d1⟩, rfl⟩⟩)
        all_goals first | (refine MuG.mk ?_; (simp only [decide_eq_true_eq, decide_eq_false_iff_not] at *; show L.length - (k + 1) < L.length - k; omega)) | (refine InG.mk ?_; (simp only [em, et, ew, decide_eq_true_eq, decide_eq_false_iff_not, gt_iff_lt, beq_iff_eq, beq_eq_false_iff_ne, ne_eq] at *; first | exact ⟨partsI_no hI (by omega) d2, hD⟩ | exact ⟨partsI_one hI (by omega) d2, hD⟩ | exact ⟨partsI_app hI (by omega) d2 (joinB_t' (by omega) d4 d5), hD⟩ | exact ⟨partsI_new hI (by omega) d2 (joinB_1 (by omega)), hD⟩ | exact ⟨partsI_new hI (by omega) d2 (joinB_2 d4), hD⟩ | exact ⟨partsI_new hI (by omega) d2 (joinB_3' d5), hD⟩)) | (refine CtG.mk ?_; (simp only [decide_eq_false_iff_not] at *; have h0 := partsI_end hI (by omega); rw [h0] at hD; cases hD)) | (refine GnG.mk ?_; (have h0 := ((partsI_ok hI).none rfl).2 (k - 1) (by simp only [decide_eq_true_eq] at d3; show k - 1 < k; omega); simp only [em, et] at d4; exact Bool.noConfusion ((show false = _ from h0.symm).trans d4))) | (first | rfl | exact ⟨rfl, rfl⟩ | ((try simp only [em, ek, et, eF, ew, Int.toNat_natCast, decide_eq_true_eq, decide_eq_false_iff_not, gt_iff_lt, View.num] at *) <;> first | omega | exact ⟨rfl, rfl⟩ | (have := (hG.rows l (by simp [allA])).2.2; exact ⟨by trivial, by omega⟩) | (rw [(partsI_fin hI (by omega)).1]; done) | (rw [(partsI_fin hI (by omega)).2]; done) | (rw [(partsI_fin hI (by omega)).1, (partsI_fin hI (by omega)).2]; exact ⟨rfl, rfl⟩) | (simp; done)))
    · -- d = true
      obtain ⟨hI, hD⟩ := hI
      have hG := partsI_ok hI
      have hk : k ≤ L.length := hI.1
      have hl := hL.1
      have ek : IntKind.i64.wrap ((k : Int) + 1) = ((k + 1 : Nat) : Int) := by rw [w64 (by omega) (by omega)]; omega
      have em : IntKind.i64.wrap ((k : Int) - 1) = (k : Int) - 1 := w64 (by omega) (by omega)
      have et : ((k : Int) - 1).toNat = k - 1 := by omega
      have ew : IntKind.i64.wrap ((at_ L (k - 1)).exp + 1) = (at_ L (k - 1)).exp + 1 := by have := hL.at' (k - 1); exact w64 (by omega) (by omega)
      have hFk : F.length ≤ k := by have := hG.len; cases o <;> simp [allA] at this <;> omega
      have eF : IntKind.i64.wrap (((F.length + 1 : Nat) : Int) - 1) = (F.length : Int) := by rw [w64 (by omega) (by omega)]; omega
      rcases o with _ | l
      · -- 1
        refine Or.elim (Bool.eq_false_or_eq_true (decide ((↑k : Int) < (↑L.length : Int)))) (fun d1 => Or.elim (Bool.eq_false_or_eq_true ((L.getD k Con.zero).odd)) (fun d2 => Or.elim (Bool.eq_false_or_eq_true (decide ((↑k : Int) > (0 : Int)))) (fun d3 => Or.elim (Bool.eq_false_or_eq_true ((L.getD (IntKind.i64.wrap ((↑k : Int) - (1 : Int))).toNat Con.zero).odd)) (fun d4 => GnG.no ?_)
           (fun d4 => ⟨[true, false, true, false], .inl ⟨(k + 1, [], some [(k : Int)]), [(1 : Nat) = (0 : Nat) + (1 : Nat), (↑L.length : Int) = (↑L.length : Int), IntKind.i64.wrap ((↑k : Int) + (1 : Int)) = (↑(k + (1 : Nat)) : Int), p = p, L.length = L.length ∧ (fun i => (L.getD i Con.zero).rvs) = fun i => (L.getD i Con.zero).rvs, ([] : List (List Int)) = [] ∧ (1 : Nat) = [(↑k : Int)].length, [(↑k : Int)] = [(↑k : Int)], Dec (L.getD (IntKind.i64.wrap ((↑k : Int) - (1 : Int))).toNat Con.zero).odd false, (0 : Int) ≤ IntKind.i64.wrap ((↑k : Int) - (1 : Int)) ∧ IntKind.i64.wrap ((↑k : Int) - (1 : Int)) < (↑L.length : Int), Dec (decide ((↑k : Int) > (0 : Int))) true, Dec (!(L.getD k Con.zero).odd) false, (0 : Int) ≤ (↑k : Int) ∧ (↑k : Int) < (↑L.length : Int), Dec (decide ((↑k : Int) < (↑L.length : Int))) true], by kernel_rfl, ⟨?_, ?_, ?_, ?_, ?_, ?_, ?_, d4, ?_, d3, (dN d2), ?_, d1⟩, MuG.out ?_, InG.out ?_⟩⟩))
           (fun d3 => ⟨[true, false, false], .inl ⟨(k + 1, [], some [(k : Int)]), [(1 : Nat) = (0 : Nat) + (1 : Nat), (↑L.length : Int) = (↑L.length : Int), IntKind.i64.wrap ((↑k : Int) + (1 : Int)) = (↑(k + (1 : Nat)) : Int), p = p, L.length = L.length ∧ (fun i => (L.getD i Con.zero).rvs) = fun i => (L.getD i Con.zero).rvs, ([] : List (List Int)) = [] ∧ (1 : Nat) = [(↑k : Int)].length, [(↑k : Int)] = [(↑k : Int)], Dec (decide ((↑k : Int) > (0 : Int))) false, Dec (!(L.getD k Con.zero).odd) false, (0 : Int) ≤ (↑k : Int) ∧ (↑k : Int) < (↑L.length : Int), Dec (decide ((↑k : Int) < (↑L.length : Int))) true], by kernel_rfl, ⟨?_, ?_, ?_, ?_, ?_, ?_, ?_, d3, (dN d2), ?_, d1⟩, MuG.out ?_, InG.out ?_⟩⟩))
           (fun d2 => ⟨[true, true], .inl ⟨(k + 1, F, none), [(↑L.length : Int) = (↑L.length : Int), IntKind.i64.wrap ((↑k : Int) + (1 : Int)) = (↑(k + (1 : Nat)) : Int), p = p, L.length = L.length ∧ (fun i => (L.getD i Con.zero).rvs) = fun i => (L.getD i Con.zero).rvs, Dec (!(L.getD k Con.zero).odd) true, (0 : Int) ≤ (↑k : Int) ∧ (↑k : Int) < (↑L.length : Int), Dec (decide ((↑k : Int) < (↑L.length : Int))) true], by kernel_rfl, ⟨?_, ?_, ?_, ?_, (dN d2), ?_, d1⟩, MuG.out ?_, InG.out ?_⟩⟩))
           (fun d1 => ⟨[false], .inr ⟨[Dec (decide ((↑k : Int) < (↑L.length : Int))) false], by kernel_rfl, d1, rfl⟩⟩)
        all_goals first | (refine MuG.mk ?_; (simp only [decide_eq_true_eq, decide_eq_false_iff_not] at *; show L.length - (k + 1) < L.length - k; omega)) | (refine InG.mk ?_; (simp only [em, et, ew, decide_eq_true_eq, decide_eq_false_iff_not, gt_iff_lt, beq_iff_eq, beq_eq_false_iff_ne, ne_eq] at *; first | exact ⟨partsI_no hI (by omega) d2, hD⟩ | exact ⟨partsI_one hI (by omega) d2, hD⟩ | exact ⟨partsI_app hI (by omega) d2 (joinB_t' (by omega) d4 d5), hD⟩ | exact ⟨partsI_new hI (by omega) d2 (joinB_1 (by omega)), hD⟩ | exact ⟨partsI_new hI (by omega) d2 (joinB_2 d4), hD⟩ | exact ⟨partsI_new hI (by omega) d2 (joinB_3' d5), hD⟩)) | (refine CtG.mk ?_; (simp only [decide_eq_false_iff_not] at *; have h0 := partsI_end hI (by omega); rw [h0] at hD; cases hD)) | (refine GnG.mk ?_; (have h0 := ((partsI_ok hI).none rfl).2 (k - 1) (by simp only [decide_eq_true_eq] at d3; show k - 1 < k; omega); simp only [em, et] at d4; exact Bool.noConfusion ((show false = _ from h0.symm).trans d4))) | (first | rfl | exact ⟨rfl, rfl⟩ | ((try simp only [em, ek, et, eF, ew, Int.toNat_natCast, decide_eq_true_eq, decide_eq_false_iff_not, gt_iff_lt, View.num] at *) <;> first | omega | exact ⟨rfl, rfl⟩ | (have := (hG.rows l (by simp [allA])).2.2; exact ⟨by trivial, by omega⟩) | (rw [(partsI_fin hI (by omega)).1]; done) | (rw [(partsI_fin hI (by omega)).2]; done) | (rw [(partsI_fin hI (by omega)).1, (partsI_fin hI (by omega)).2]; exact ⟨rfl, rfl⟩) | (simp; done)))
      · -- 2
        refine Or.elim (Bool.eq_false_or_eq_true (decide ((↑k : Int) < (↑L.length : Int)))) (fun d1 => Or.elim (Bool.eq_false_or_eq_true ((L.getD k Con.zero).odd)) (fun d2 => Or.elim (Bool.eq_false_or_eq_true (decide ((↑k : Int) > (0 : Int)))) (fun d3 => Or.elim (Bool.eq_false_or_eq_true ((L.getD (IntKind.i64.wrap ((↑k : Int) - (1 : Int))).toNat Con.zero).odd)) (fun d4 => Or.elim (Bool.eq_false_or_eq_true ((L.getD k Con.zero).exp == IntKind.i64.wrap ((L.getD (IntKind.i64.wrap ((↑k : Int) - (1 : Int))).toNat Con.zero).exp + (1 : Int)))) (fun d5 => ⟨[true, false, true, true, true], .inl ⟨(k + 1, F, some (l ++ [(k : Int)])), [F.length + (1 : Nat) = F.length + (1 : Nat), (↑L.length : Int) = (↑L.length : Int), IntKind.i64.wrap ((↑k : Int) + (1 : Int)) = (↑(k + (1 : Nat)) : Int), p = p, L.length = L.length ∧ (fun i => (L.getD i Con.zero).rvs) = fun i => (L.getD i Con.zero).rvs, F = F ∧ l.length + (1 : Nat) = (l ++ [(↑k : Int)]).length, l ++ [(↑k : Int)] = l ++ [(↑k : Int)], (IntKind.i64.wrap ((↑(F.length + (1 : Nat)) : Int) - (1 : Int))).toNat = F.length, (0 : Int) ≤ IntKind.i64.wrap ((↑(F.length + (1 : Nat)) : Int) - (1 : Int)) ∧ IntKind.i64.wrap ((↑(F.length + (1 : Nat)) : Int) - (1 : Int)) < (↑(F.length + (1 : Nat)) : Int), (View.ints IntKind.i64 l).num = l.length ∧ l.length + (1 : Nat) ≤ (1000000 : Nat), (IntKind.i64.wrap ((↑(F.length + (1 : Nat)) : Int) - (1 : Int))).toNat = F.length, (0 : Int) ≤ IntKind.i64.wrap ((↑(F.length + (1 : Nat)) : Int) - (1 : Int)) ∧ IntKind.i64.wrap ((↑(F.length + (1 : Nat)) : Int) - (1 : Int)) < (↑(F.length + (1 : Nat)) : Int), Dec ((L.getD k Con.zero).exp == IntKind.i64.wrap ((L.getD (IntKind.i64.wrap ((↑k : Int) - (1 : Int))).toNat Con.zero).exp + (1 : Int))) true, (0 : Int) ≤ IntKind.i64.wrap ((↑k : Int) - (1 : Int)) ∧ IntKind.i64.wrap ((↑k : Int) - (1 : Int)) < (↑L.length : Int), (0 : Int) ≤ (↑k : Int) ∧ (↑k : Int) < (↑L.length : Int), Dec (L.getD (IntKind.i64.wrap ((↑k : Int) - (1 : Int))).toNat Con.zero).odd true, (0 : Int) ≤ IntKind.i64.wrap ((↑k : Int) - (1 : Int)) ∧ IntKind.i64.wrap ((↑k : Int) - (1 : Int)) < (↑L.length : Int), Dec (decide ((↑k : Int) > (0 : Int))) true, Dec (!(L.getD k Con.zero).odd) false, (0 : Int) ≤ (↑k : Int) ∧ (↑k : Int) < (↑L.length : Int), Dec (decide ((↑k : Int) < (↑L.length : Int))) true], by kernel_rfl, ⟨?_, ?_, ?_, ?_, ?_, ?_, ?_, ?_, ?_, ?_, ?_, ?_, d5, ?_, ?_, d4, ?_, d3, (dN d2), ?_, d1⟩, MuG.out ?_, InG.out ?_⟩⟩)
           (fun d5 => ⟨[true, false, true, true, false], .inl ⟨(k + 1, F ++ [l], some [(k : Int)]), [F.length + (1 : Nat) + (1 : Nat) = (F ++ [l]).length + (1 : Nat), (↑L.length : Int) = (↑L.length : Int), IntKind.i64.wrap ((↑k : Int) + (1 : Int)) = (↑(k + (1 : Nat)) : Int), p = p, L.length = L.length ∧ (fun i => (L.getD i Con.zero).rvs) = fun i => (L.getD i Con.zero).rvs, F ++ [l] = F ++ [l] ∧ (1 : Nat) = [(↑k : Int)].length, [(↑k : Int)] = [(↑k : Int)], F.length + (1 : Nat) + (1 : Nat) ≤ (1000000 : Nat), F.length + (1 : Nat) = F.length + (1 : Nat) ∧ l.length = l.length, Dec ((L.getD k Con.zero).exp == IntKind.i64.wrap ((L.getD (IntKind.i64.wrap ((↑k : Int) - (1 : Int))).toNat Con.zero).exp + (1 : Int))) false, (0 : Int) ≤ IntKind.i64.wrap ((↑k : Int) - (1 : Int)) ∧ IntKind.i64.wrap ((↑k : Int) - (1 : Int)) < (↑L.length : Int), (0 : Int) ≤ (↑k : Int) ∧ (↑k : Int) < (↑L.length : Int), Dec (L.getD (IntKind.i64.wrap ((↑k : Int) - (1 : Int))).toNat Con.zero).odd true, (0 : Int) ≤ IntKind.i64.wrap ((↑k : Int) - (1 : Int)) ∧ IntKind.i64.wrap ((↑k : Int) - (1 : Int)) < (↑L.length : Int), Dec (decide ((↑k : Int) > (0 : Int))) true, Dec (!(L.getD k Con.zero).odd) false, (0 : Int) ≤ (↑k : Int) ∧ (↑k : Int) < (↑L.length : Int), Dec (decide ((↑k : Int) < (↑L.length : Int))) true], by kernel_rfl, ⟨?_, ?_, ?_, ?_, ?_, ?_, ?_, ?_, ?_, d5, ?_, ?_, d4, ?_, d3, (dN d2), ?_, d1⟩, MuG.out ?_, InG.out ?_⟩⟩))
           (fun d4 => ⟨[true, false, true, false], .inl ⟨(k + 1, F ++ [l], some [(k : Int)]), [F.length + (1 : Nat) + (1 : Nat) = (F ++ [l]).length + (1 : Nat), (↑L.length : Int) = (↑L.length : Int), IntKind.i64.wrap ((↑k : Int) + (1 : Int)) = (↑(k + (1 : Nat)) : Int), p = p, L.length = L.length ∧ (fun i => (L.getD i Con.zero).rvs) = fun i => (L.getD i Con.zero).rvs, F ++ [l] = F ++ [l] ∧ (1 : Nat) = [(↑k : Int)].length, [(↑k : Int)] = [(↑k : Int)], F.length + (1 : Nat) + (1 : Nat) ≤ (1000000 : Nat), F.length + (1 : Nat) = F.length + (1 : Nat) ∧ l.length = l.length, Dec (L.getD (IntKind.i64.wrap ((↑k : Int) - (1 : Int))).toNat Con.zero).odd false, (0 : Int) ≤ IntKind.i64.wrap ((↑k : Int) - (1 : Int)) ∧ IntKind.i64.wrap ((↑k : Int) - (1 : Int)) < (↑L.length : Int), Dec (decide ((↑k : Int) > (0 : Int))) true, Dec (!(L.getD k Con.zero).odd) false, (0 : Int) ≤ (↑k : Int) ∧ (↑k : Int) < (↑L.length : Int), Dec (decide ((↑k : Int) < (↑L.length : Int))) true], by kernel_rfl, ⟨?_, ?_, ?_, ?_, ?_, ?_, ?_, ?_, ?_, d4, ?_, d3, (dN d2), ?_, d1⟩, MuG.out ?_, InG.out ?_⟩⟩))
           (fun d3 => ⟨[true, false, false], .inl ⟨(k + 1, F ++ [l], some [(k : Int)]), [F.length + (1 : Nat) + (1 : Nat) = (F ++ [l]).length + (1 : Nat), (↑L.length : Int) = (↑L.length : Int), IntKind.i64.wrap ((↑k : Int) + (1 : Int)) = (↑(k + (1 : Nat)) : Int), p = p, L.length = L.length ∧ (fun i => (L.getD i Con.zero).rvs) = fun i => (L.getD i Con.zero).rvs, F ++ [l] = F ++ [l] ∧ (1 : Nat) = [(↑k : Int)].length, [(↑k : Int)] = [(↑k : Int)], F.length + (1 : Nat) + (1 : Nat) ≤ (1000000 : Nat), F.length + (1 : Nat) = F.length + (1 : Nat) ∧ l.length = l.length, Dec (decide ((↑k : Int) > (0 : Int))) false, Dec (!(L.getD k Con.zero).odd) false, (0 : Int) ≤ (↑k : Int) ∧ (↑k : Int) < (↑L.length : Int), Dec (decide ((↑k : Int) < (↑L.length : Int))) true], by kernel_rfl, ⟨?_, ?_, ?_, ?_, ?_, ?_, ?_, ?_, ?_, d3, (dN d2), ?_, d1⟩, MuG.out ?_, InG.out ?_⟩⟩))
           (fun d2 => ⟨[true, true], .inl ⟨(k + 1, F, some l), [F.length + (1 : Nat) = F.length + (1 : Nat), (↑L.length : Int) = (↑L.length : Int), IntKind.i64.wrap ((↑k : Int) + (1 : Int)) = (↑(k + (1 : Nat)) : Int), p = p, L.length = L.length ∧ (fun i => (L.getD i Con.zero).rvs) = fun i => (L.getD i Con.zero).rvs, F = F ∧ l.length = l.length, l = l, Dec (!(L.getD k Con.zero).odd) true, (0 : Int) ≤ (↑k : Int) ∧ (↑k : Int) < (↑L.length : Int), Dec (decide ((↑k : Int) < (↑L.length : Int))) true], by kernel_rfl, ⟨?_, ?_, ?_, ?_, ?_, ?_, ?_, (dN d2), ?_, d1⟩, MuG.out ?_, InG.out ?_⟩⟩))
           (fun d1 => CtG.no ?_)
        all_goals first | (refine MuG.mk ?_; (simp only [decide_eq_true_eq, decide_eq_false_iff_not] at *; show L.length - (k + 1) < L.length - k; omega)) | (refine InG.mk ?_; (simp only [em, et, ew, decide_eq_true_eq, decide_eq_false_iff_not, gt_iff_lt, beq_iff_eq, beq_eq_false_iff_ne, ne_eq] at *; first | exact ⟨partsI_no hI (by omega) d2, hD⟩ | exact ⟨partsI_one hI (by omega) d2, hD⟩ | exact ⟨partsI_app hI (by omega) d2 (joinB_t' (by omega) d4 d5), hD⟩ | exact ⟨partsI_new hI (by omega) d2 (joinB_1 (by omega)), hD⟩ | exact ⟨partsI_new hI (by omega) d2 (joinB_2 d4), hD⟩ | exact ⟨partsI_new hI (by omega) d2 (joinB_3' d5), hD⟩)) | (refine CtG.mk ?_; (simp only [decide_eq_false_iff_not] at *; have h0 := partsI_end hI (by omega); rw [h0] at hD; cases hD)) | (refine GnG.mk ?_; (have h0 := ((partsI_ok hI).none rfl).2 (k - 1) (by simp only [decide_eq_true_eq] at d3; show k - 1 < k; omega); simp only [em, et] at d4; exact Bool.noConfusion ((show false = _ from h0.symm).trans d4))) | (first | rfl | exact ⟨rfl, rfl⟩ | ((try simp only [em, ek, et, eF, ew, Int.toNat_natCast, decide_eq_true_eq, decide_eq_false_iff_not, gt_iff_lt, View.num] at *) <;> first | omega | exact ⟨rfl, rfl⟩ | (have := (hG.rows l (by simp [allA])).2.2; exact ⟨by trivial, by omega⟩) | (rw [(partsI_fin hI (by omega)).1]; done) | (rw [(partsI_fin hI (by omega)).2]; done) | (rw [(partsI_fin hI (by omega)).1, (partsI_fin hI (by omega)).2]; exact ⟨rfl, rfl⟩) | (simp; done)))
noncomputable def orcCo (p : Int) (L : List Con) : CallF := orcB EV (callF EV noOrc 4) 45 2 [([0, 1, 0, 1, 1], coAnn p L)] noOrc
theorem orcCo_ok (p : Int) (L : List Con) (hL : okE L) : CallOk Tryz.prog EV.ng (orcCo p L) := orcB_ok evOk (callF_ok evOk (noOrc_ok _ _) 4) Tryz.func45 (one_ann (co_loop p L hL)) (noOrc_ok _ _)
set_option maxRecDepth 100000 in
theorem comps_pure (p : Int) (L : List Con) (hL : okE L) : PureC Tryz.prog [] 31 [.agg [.int .i64 p, roC L]] (roR .i64 (partsM L)) := by
  have rr := fun (tp : List Bool) (ms : List Prop) h hm => pure_run evOk (callF_ok evOk (orcCo_ok p L hL) 4) Tryz.func31 (A := [.agg [.int .i64 p, roC L]]) rfl none_ann rfl rfl evNg (tabs := []) (R := roR .i64 (partsM L)) (tp := tp) (ms := ms) h hm
  refine Or.elim (Bool.eq_false_or_eq_true ((partsA L L.length).snd.isNone)) (fun d1 => rr [true] [(partsM L).length = (0 : Nat), (↑L.length : Int) = (↑L.length : Int), p = p, L.length = L.length ∧ (fun i => (L.getD i Con.zero).rvs) = fun i => (L.getD i Con.zero).rvs, Dec (partsA L L.length).snd.isNone true] (by kernel_rfl) ⟨?_, ?_, ?_, ?_, d1⟩)
           (fun d1 => rr [false] [(partsFin L).length + (1 : Nat) = (partsM L).length ∧ (partsFin L).length + (1 : Nat) = (partsFin L).length + (1 : Nat) ∧ (partsLst L).length = (partsLst L).length ∧ ∀ (i : Nat), i < (partsFin L).length + (1 : Nat) → (fun i => [rI IntKind.i64 ((partsM L).getD i [])]) i = [rI IntKind.i64 ((partsFin L ++ [partsLst L]).getD i [])], (↑L.length : Int) = (↑L.length : Int), p = p, L.length = L.length ∧ (fun i => (L.getD i Con.zero).rvs) = fun i => (L.getD i Con.zero).rvs, Dec (partsA L L.length).snd.isNone false] (by kernel_rfl) ⟨?_, ?_, ?_, ?_, d1⟩)
  all_goals first | (first | rfl | exact ⟨rfl, rfl⟩ | (rw [parts_nil d1]; rfl) | (rw [parts_cons d1]; exact ⟨by simp, rfl, rfl, fun i _ => rfl⟩))
end Go.Proofs.YtkkmlbhmcdoibaaGreatDoor.S

namespace Go.Proofs.YtkkmlbhmcdoibaaGreatDoor.S
open Go.QfSy Go.RowKit
theorem hasI_drop {i : Int} {l : List Int} {t : Nat} (ht : t < l.length) : hasI i (l.drop t) = ((l.getD t 0 == i) || hasI i (l.drop (t + 1))) := by
  rw [drop_int ht]; rfl
theorem anyR_drop {i : Int} {P : List (List Int)} {j : Nat} (hj : j < P.length) : anyR i (P.drop j) = (hasI i (rowAt P j) || anyR i (P.drop (j + 1))) := by
  rw [drop_row hj]; rfl
theorem findR_drop {i : Int} {P : List (List Int)} {j : Nat} (hj : j < P.length) : findR i (P.drop j) = (bif hasI i (rowAt P j) then rowAt P j else findR i (P.drop (j + 1))) := by
  rw [drop_row hj]; rfl
end Go.Proofs.YtkkmlbhmcdoibaaGreatDoor.S

namespace Go.Proofs.YtkkmlbhmcdoibaaGreatDoor.S
open Go.QfSy Go.RowKit
def idxN (a : Int) : List Int → Nat
  | [] => 0
  | x :: l => bif x == a then 0 else idxN a l + 1
def idxI (a : Int) (l : List Int) : Int := bif hasI a l then (idxN a l : Int) else -1
theorem idxN_drop {a : Int} {l : List Int} {t : Nat} (ht : t < l.length) : idxN a (l.drop t) = (bif l.getD t 0 == a then 0 else idxN a (l.drop (t + 1)) + 1) := by
  rw [drop_int ht]; rfl
noncomputable def ixAnn (l : List Int) (a : Int) : Ann := ⟨⟨[(0, (rI .i64 l).av), (1, .vint .i64 a), (7, .vint .i64 l.length), (8, .int .i64 0)], [], 1000⟩, some (hasI a l), fun d => match d with
  | true => (.ret, ⟨[(4, .vint .i64 (idxN a l : Int))], [], 1000⟩)
  | false => (.exit 0, ⟨[], [], 1000⟩)⟩
set_option maxRecDepth 100000 in
theorem ix_loop (l : List Int) (a : Int) (hn : l.length ≤ 1000) : AnnOk Tryz.prog EV.ng (Nat.max 2 Tryz.f56.ntmps) (bodyAt Tryz.f56 [0, 1, 0, 1]) (ixAnn l a) := by
  refine ann_of evOk (callF_ok evOk (noOrc_ok _ _) 8) none_ann (by kernel_rfl) (by kernel_rfl) (fun i : Nat => (fun (t : Nat) => (⟨[(0, (rI .i64 l).av), (1, .vint .i64 a), (7, .vint .i64 l.length), (8, .vint .i64 (t : Int))], [], 1000⟩ : St)) i) (fun i : Nat => (fun (t : Nat) => (l.length - t : Nat)) i) (fun (d : Bool) (i : Nat) => (fun (t : Nat) => (t ≤ l.length ∧ hasI a (l.drop t) = d ∧ t + idxN a (l.drop t) = idxN a l : Prop)) i) ?_ ?_
  · intro d hd
    exact ⟨(0), [l.length = l.length ∧ (fun j => [RV.int IntKind.i64 (l.getD j (0 : Int))]) = fun j => [RV.int IntKind.i64 (l.getD j (0 : Int))], a = a, (↑l.length : Int) = (↑l.length : Int), (0 : Int) = (↑(0 : Nat) : Int)], by kernel_rfl, (by refine ⟨?_, ?_, ?_, (?_ : (0 : Int) = (↑(0 : Nat) : Int))⟩ <;> (first | rfl | assumption | omega | simp_all)), (by exact ⟨Nat.zero_le _, hd, Nat.zero_add _⟩)⟩
  · rintro d hd t hI
    cases d
    · -- d = false
      obtain ⟨ht, hs, hx⟩ := hI
      have ek : IntKind.i64.wrap ((t : Int) + 1) = ((t + 1 : Nat) : Int) := by rw [w64 (by omega) (by omega)]; omega
      refine Or.elim (Bool.eq_false_or_eq_true (decide ((↑t : Int) < (↑l.length : Int)))) (fun d1 => Or.elim (Bool.eq_false_or_eq_true (a == l.getD t (0 : Int))) (fun d2 => CtG.no ?_)
           (fun d2 => ⟨[true, false], .inl ⟨(t + 1), [l.length = l.length ∧ (fun j => [RV.int IntKind.i64 (l.getD j (0 : Int))]) = fun j => [RV.int IntKind.i64 (l.getD j (0 : Int))], a = a, (↑l.length : Int) = (↑l.length : Int), IntKind.i64.wrap ((↑t : Int) + (1 : Int)) = (↑(t + (1 : Nat)) : Int), Dec (a == l.getD t (0 : Int)) false, (0 : Int) ≤ (↑t : Int) ∧ (↑t : Int) < (↑l.length : Int), Dec (decide ((↑t : Int) < (↑l.length : Int))) true], by kernel_rfl, ⟨?_, ?_, ?_, ?_, d2, ?_, d1⟩, MuG.out ?_, InG.out ?_⟩⟩))
           (fun d1 => ⟨[false], .inr ⟨[Dec (decide ((↑t : Int) < (↑l.length : Int))) false], by kernel_rfl, d1, rfl⟩⟩)
      all_goals first | (refine MuG.mk ?_; (simp only [decide_eq_true_eq] at *; show l.length - (t + 1) < l.length - t; omega)) | (refine InG.mk ?_; (simp only [decide_eq_true_eq, Int.toNat_natCast] at *; have d3 : (l.getD t 0 == a) = false := (by rw [beq_eq_false_iff_ne] at d2 ⊢; exact fun h => d2 h.symm); rw [hasI_drop (by omega), d3] at hs; rw [idxN_drop (by omega), d3] at hx; simp only [cond_false] at hx; exact ⟨by omega, hs, by omega⟩)) | (refine CtG.mk ?_; (simp only [decide_eq_true_eq, decide_eq_false_iff_not, Int.toNat_natCast] at *; first | (rw [List.drop_eq_nil_of_le (by omega)] at hs; cases hs; done) | (rw [beq_iff_eq] at d2; rw [hasI_drop (by omega), ← d2, beq_self_eq_true] at hs; cases hs; done))) | (first | (with_reducible rfl) | exact ⟨rfl, rfl⟩ | ((try simp only [ek, Int.toNat_natCast, decide_eq_true_eq, decide_eq_false_iff_not, beq_iff_eq] at *) <;> first | omega | (rw [idxN_drop (by omega), d2.symm, beq_self_eq_true] at hx; simp only [cond_true] at hx; omega) | exact ⟨rfl, rfl⟩))
    · -- d = true
      obtain ⟨ht, hs, hx⟩ := hI
      have ek : IntKind.i64.wrap ((t : Int) + 1) = ((t + 1 : Nat) : Int) := by rw [w64 (by omega) (by omega)]; omega
      refine Or.elim (Bool.eq_false_or_eq_true (decide ((↑t : Int) < (↑l.length : Int)))) (fun d1 => Or.elim (Bool.eq_false_or_eq_true (a == l.getD t (0 : Int))) (fun d2 => ⟨[true, true], .inr ⟨[(↑t : Int) = (↑(idxN a l) : Int), Dec (a == l.getD t (0 : Int)) true, (0 : Int) ≤ (↑t : Int) ∧ (↑t : Int) < (↑l.length : Int), Dec (decide ((↑t : Int) < (↑l.length : Int))) true], by kernel_rfl, ⟨?_, d2, ?_, d1⟩, rfl⟩⟩)
           (fun d2 => ⟨[true, false], .inl ⟨(t + 1), [l.length = l.length ∧ (fun j => [RV.int IntKind.i64 (l.getD j (0 : Int))]) = fun j => [RV.int IntKind.i64 (l.getD j (0 : Int))], a = a, (↑l.length : Int) = (↑l.length : Int), IntKind.i64.wrap ((↑t : Int) + (1 : Int)) = (↑(t + (1 : Nat)) : Int), Dec (a == l.getD t (0 : Int)) false, (0 : Int) ≤ (↑t : Int) ∧ (↑t : Int) < (↑l.length : Int), Dec (decide ((↑t : Int) < (↑l.length : Int))) true], by kernel_rfl, ⟨?_, ?_, ?_, ?_, d2, ?_, d1⟩, MuG.out ?_, InG.out ?_⟩⟩))
           (fun d1 => CtG.no ?_)
      all_goals first | (refine MuG.mk ?_; (simp only [decide_eq_true_eq] at *; show l.length - (t + 1) < l.length - t; omega)) | (refine InG.mk ?_; (simp only [decide_eq_true_eq, Int.toNat_natCast] at *; have d3 : (l.getD t 0 == a) = false := (by rw [beq_eq_false_iff_ne] at d2 ⊢; exact fun h => d2 h.symm); rw [hasI_drop (by omega), d3] at hs; rw [idxN_drop (by omega), d3] at hx; simp only [cond_false] at hx; exact ⟨by omega, hs, by omega⟩)) | (refine CtG.mk ?_; (simp only [decide_eq_true_eq, decide_eq_false_iff_not, Int.toNat_natCast] at *; first | (rw [List.drop_eq_nil_of_le (by omega)] at hs; cases hs; done) | (rw [beq_iff_eq] at d2; rw [hasI_drop (by omega), ← d2, beq_self_eq_true] at hs; cases hs; done))) | (first | (with_reducible rfl) | exact ⟨rfl, rfl⟩ | ((try simp only [ek, Int.toNat_natCast, decide_eq_true_eq, decide_eq_false_iff_not, beq_iff_eq] at *) <;> first | omega | (rw [idxN_drop (by omega), d2.symm, beq_self_eq_true] at hx; simp only [cond_true] at hx; omega) | exact ⟨rfl, rfl⟩))
set_option maxRecDepth 100000 in
theorem index_pure (l : List Int) (a : Int) (hn : l.length ≤ 1000) : PureC Tryz.prog [] 56 [rI .i64 l, .int .i64 a] (.int .i64 (idxI a l)) := by
  have rr := fun (tp : List Bool) (ms : List Prop) h hm => pure_run evOk (callF_ok evOk (noOrc_ok _ _) 8) Tryz.func56 (A := [rI .i64 l, .int .i64 a]) (N := Nat.max 1 Tryz.f56.ntmps) rfl (one_ann (ix_loop l a hn)) rfl rfl evNg (tabs := []) (R := .int .i64 (idxI a l)) (tp := tp) (ms := ms) h hm
  refine Or.elim (Bool.eq_false_or_eq_true (hasI a l)) (fun d1 => rr [true] [(↑(idxN a l) : Int) = idxI a l, l.length = l.length ∧ (fun j => [RV.int IntKind.i64 (l.getD j (0 : Int))]) = fun j => [RV.int IntKind.i64 (l.getD j (0 : Int))], a = a, (↑l.length : Int) = (↑l.length : Int), Dec (hasI a l) true] (by kernel_rfl) ⟨?_, ?_, ?_, ?_, d1⟩)
           (fun d1 => rr [false] [(-1 : Int) = idxI a l, l.length = l.length ∧ (fun j => [RV.int IntKind.i64 (l.getD j (0 : Int))]) = fun j => [RV.int IntKind.i64 (l.getD j (0 : Int))], a = a, (↑l.length : Int) = (↑l.length : Int), Dec (hasI a l) false] (by kernel_rfl) ⟨?_, ?_, ?_, ?_, d1⟩)
  all_goals first | (first | (with_reducible rfl) | exact ⟨rfl, rfl⟩ | (unfold idxI; rw [d1]; rfl))
noncomputable def entsVI : List OEnt := [
  ⟨56, [], fun A => match A with
    | [.sl m 1 row', .int .i64 a] => some (.int .i64 (idxI a (intsR m row')), [(∀ i, i < m → row' i = [.int .i64 (intR (row' i))]) ∧ m ≤ 1000])
    | _ => none⟩]
theorem entsVI_ok : ∀ e ∈ entsVI, EntOk Tryz.prog e := by
  intro e he
  simp only [entsVI, List.mem_cons, List.not_mem_nil, or_false] at he
  rcases he with rfl
  intro A R ms h hm
  simp only at h
  split at h
  all_goals first | (cases h; done) | cases h
  obtain ⟨h1, h2⟩ := all_one hm
  exact PureC.imp (index_pure _ _ (by rw [intsR_len]; exact h2)) (.cons (.ints h1) (.cons .same .nil))
theorem idx_ge (a : Int) (l : List Int) : decide (idxI a l ≥ 0) = hasI a l := by
  unfold idxI
  cases hasI a l
  · rfl
  · simp only [cond_true, decide_eq_true_eq]; omega
set_option maxRecDepth 100000 in
theorem contains_pure (l : List Int) (a : Int) (hn : l.length ≤ 1000) : PureC Tryz.prog [] 44 [rI .i64 l, .int .i64 a] (.bool (hasI a l)) := by
  have rr := fun (tp : List Bool) (ms : List Prop) h hm => pure_run evOk (callF_ok evOk (orcOf_ok entsVI_ok) 8) Tryz.func44 (A := [rI .i64 l, .int .i64 a]) rfl none_ann rfl rfl evNg (tabs := []) (R := .bool (hasI a l)) (tp := tp) (ms := ms) h hm
  refine rr [] [decide (idxI a (intsR l.length fun j => [RV.int IntKind.i64 (l.getD j (0 : Int))]) ≥ (0 : Int)) = hasI a l, (∀ (i : Nat), i < l.length → (fun j => [RV.int IntKind.i64 (l.getD j (0 : Int))]) i = [RV.int IntKind.i64 (intR ((fun j => [RV.int IntKind.i64 (l.getD j (0 : Int))]) i))]) ∧ l.length ≤ (1000 : Nat)] (by kernel_rfl) ⟨?_, (?_ : (∀ (i : Nat), i < l.length → (fun j => [RV.int IntKind.i64 (l.getD j (0 : Int))]) i = [RV.int IntKind.i64 (intR ((fun j => [RV.int IntKind.i64 (l.getD j (0 : Int))]) i))]) ∧ l.length ≤ (1000 : Nat))⟩
  all_goals first | (first | (with_reducible rfl) | exact ⟨fun _ _ => rfl, hn⟩ | (rw [intsR_ro]; exact idx_ge a l))
noncomputable def entsVC : List OEnt := [
  ⟨44, [], fun A => match A with
    | [.sl m 1 row', .int .i64 a] => some (.bool (hasI a (intsR m row')), [(∀ i, i < m → row' i = [.int .i64 (intR (row' i))]) ∧ m ≤ 1000])
    | _ => none⟩,
  ⟨31, [], fun A => match A with
    | [.agg [.int .i64 p, .sl n 5 row]] => some (roR .i64 (partsM (consR n row)), [(∀ i, i < n → row i = (Con.ofR (row i)).rvs) ∧ okE (consR n row)])
    | _ => none⟩]
theorem entsVC_ok : ∀ e ∈ entsVC, EntOk Tryz.prog e := by
  intro e he
  simp only [entsVC, List.mem_cons, List.not_mem_nil, or_false] at he
  rcases he with rfl | rfl
  all_goals
    intro A R ms h hm
    simp only at h
    split at h
    all_goals first | (cases h; done) | cases h
  · obtain ⟨h1, h2⟩ := all_one hm
    exact PureC.imp (contains_pure _ _ (by rw [intsR_len]; exact h2)) (.cons (.ints h1) (.cons .same .nil))
  · obtain ⟨h1, h2⟩ := all_one hm
    exact PureC.imp (comps_pure _ _ h2) (.cons (.agg (.cons .same (.cons (.con h1) .nil))) .nil)
noncomputable def tcAnn (P : List (List Int)) (a : Int) : Ann := ⟨⟨[(1, .vint .i64 a), (8, (roR .i64 P).av), (9, .vint .i64 P.length), (10, .int .i64 0)], [], 1010⟩, some (anyR a P), fun d => match d with
  | true => (.ret, ⟨[(4, (rI .i64 (findR a P)).av)], [], 1010⟩)
  | false => (.exit 0, ⟨[], [], 1010⟩)⟩
set_option maxRecDepth 100000 in
theorem tc_loop (P : List (List Int)) (a : Int) (hn : ∀ l ∈ P, l.length ≤ 1000) (hm : P.length ≤ 1000) : AnnOk Tryz.prog EV.ng (Nat.max 2 Tryz.f43.ntmps) (bodyAt Tryz.f43 [0, 1, 0, 1]) (tcAnn P a) := by
  refine ann_of evOk (callF_ok evOk (orcOf_ok entsVC_ok) 8) none_ann (by kernel_rfl) (by kernel_rfl) (fun i : Nat => (fun (j : Nat) => (⟨[(1, .vint .i64 a), (8, (roR .i64 P).av), (9, .vint .i64 P.length), (10, .vint .i64 (j : Int))], [], 1010⟩ : St)) i) (fun i : Nat => (fun (j : Nat) => (P.length - j : Nat)) i) (fun (d : Bool) (i : Nat) => (fun (j : Nat) => (j ≤ P.length ∧ anyR a (P.drop j) = d ∧ findR a (P.drop j) = findR a P : Prop)) i) ?_ ?_
  · intro d hd
    exact ⟨(0), [a = a, P.length = P.length ∧ (fun i => [rI IntKind.i64 (P.getD i [])]) = fun i => [rI IntKind.i64 (P.getD i [])], (↑P.length : Int) = (↑P.length : Int), (0 : Int) = (↑(0 : Nat) : Int)], by kernel_rfl, (by refine ⟨?_, ?_, ?_, (?_ : (0 : Int) = (↑(0 : Nat) : Int))⟩ <;> (first | rfl | assumption | omega | simp_all)), (by exact ⟨Nat.zero_le _, hd, rfl⟩)⟩
  · rintro d hd j hI
    cases d
    · -- d = false
      obtain ⟨ht, hs, hf⟩ := hI
      have ek : IntKind.i64.wrap ((j : Int) + 1) = ((j + 1 : Nat) : Int) := by rw [w64 (by omega) (by omega)]; omega
      refine Or.elim (Bool.eq_false_or_eq_true (decide ((↑j : Int) < (↑P.length : Int)))) (fun d1 => Or.elim (Bool.eq_false_or_eq_true (hasI a (intsR (P.getD j []).length fun j_1 => [RV.int IntKind.i64 ((P.getD j []).getD j_1 (0 : Int))]))) (fun d2 => CtG.no ?_)
           (fun d2 => ⟨[true, false], .inl ⟨(j + 1), [a = a, P.length = P.length ∧ (fun i => [rI IntKind.i64 (P.getD i [])]) = fun i => [rI IntKind.i64 (P.getD i [])], (↑P.length : Int) = (↑P.length : Int), IntKind.i64.wrap ((↑j : Int) + (1 : Int)) = (↑(j + (1 : Nat)) : Int), Dec (hasI a (intsR (P.getD j []).length fun j_1 => [RV.int IntKind.i64 ((P.getD j []).getD j_1 (0 : Int))])) false, (∀ (i : Nat), i < (P.getD j []).length → (fun j_1 => [RV.int IntKind.i64 ((P.getD j []).getD j_1 (0 : Int))]) i = [RV.int IntKind.i64 (intR ((fun j_1 => [RV.int IntKind.i64 ((P.getD j []).getD j_1 (0 : Int))]) i))]) ∧ (P.getD j []).length ≤ (1000 : Nat), (0 : Int) ≤ (↑j : Int) ∧ (↑j : Int) < (↑P.length : Int), Dec (decide ((↑j : Int) < (↑P.length : Int))) true], by kernel_rfl, ⟨?_, ?_, ?_, ?_, d2, ?_, ?_, d1⟩, MuG.out ?_, InG.out ?_⟩⟩))
           (fun d1 => ⟨[false], .inr ⟨[Dec (decide ((↑j : Int) < (↑P.length : Int))) false], by kernel_rfl, d1, rfl⟩⟩)
      all_goals first | (refine MuG.mk ?_; (simp only [decide_eq_true_eq] at *; show P.length - (j + 1) < P.length - j; omega)) | (refine InG.mk ?_; (simp only [decide_eq_true_eq, intsR_ro, Int.toNat_natCast] at *; rw [anyR_drop (by omega), d2] at hs; rw [findR_drop (by omega), d2] at hf; exact ⟨by omega, hs, hf⟩)) | (refine CtG.mk ?_; (simp only [decide_eq_true_eq, decide_eq_false_iff_not, intsR_ro, Int.toNat_natCast] at *; first | (rw [List.drop_eq_nil_of_le (by omega)] at hs; cases hs; done) | (rw [anyR_drop (by omega), d2] at hs; cases hs; done))) | (first | (with_reducible rfl) | exact ⟨rfl, rfl⟩ | ((try simp only [ek, intsR_ro, Int.toNat_natCast, decide_eq_true_eq, decide_eq_false_iff_not] at *) <;> first | omega | exact ⟨fun _ _ => rfl, hn _ (rowAt_mem (by omega))⟩ | (rw [← hf, findR_drop (by omega), d2]; exact ⟨rfl, rfl⟩)))
    · -- d = true
      obtain ⟨ht, hs, hf⟩ := hI
      have ek : IntKind.i64.wrap ((j : Int) + 1) = ((j + 1 : Nat) : Int) := by rw [w64 (by omega) (by omega)]; omega
      refine Or.elim (Bool.eq_false_or_eq_true (decide ((↑j : Int) < (↑P.length : Int)))) (fun d1 => Or.elim (Bool.eq_false_or_eq_true (hasI a (intsR (P.getD j []).length fun j_1 => [RV.int IntKind.i64 ((P.getD j []).getD j_1 (0 : Int))]))) (fun d2 => ⟨[true, true], .inr ⟨[(P.getD j []).length = (findR a P).length ∧ (fun j_1 => [RV.int IntKind.i64 ((P.getD j []).getD j_1 (0 : Int))]) = fun j => [RV.int IntKind.i64 ((findR a P).getD j (0 : Int))], Dec (hasI a (intsR (P.getD j []).length fun j_1 => [RV.int IntKind.i64 ((P.getD j []).getD j_1 (0 : Int))])) true, (∀ (i : Nat), i < (P.getD j []).length → (fun j_1 => [RV.int IntKind.i64 ((P.getD j []).getD j_1 (0 : Int))]) i = [RV.int IntKind.i64 (intR ((fun j_1 => [RV.int IntKind.i64 ((P.getD j []).getD j_1 (0 : Int))]) i))]) ∧ (P.getD j []).length ≤ (1000 : Nat), (0 : Int) ≤ (↑j : Int) ∧ (↑j : Int) < (↑P.length : Int), Dec (decide ((↑j : Int) < (↑P.length : Int))) true], by kernel_rfl, ⟨?_, d2, ?_, ?_, d1⟩, rfl⟩⟩)
           (fun d2 => ⟨[true, false], .inl ⟨(j + 1), [a = a, P.length = P.length ∧ (fun i => [rI IntKind.i64 (P.getD i [])]) = fun i => [rI IntKind.i64 (P.getD i [])], (↑P.length : Int) = (↑P.length : Int), IntKind.i64.wrap ((↑j : Int) + (1 : Int)) = (↑(j + (1 : Nat)) : Int), Dec (hasI a (intsR (P.getD j []).length fun j_1 => [RV.int IntKind.i64 ((P.getD j []).getD j_1 (0 : Int))])) false, (∀ (i : Nat), i < (P.getD j []).length → (fun j_1 => [RV.int IntKind.i64 ((P.getD j []).getD j_1 (0 : Int))]) i = [RV.int IntKind.i64 (intR ((fun j_1 => [RV.int IntKind.i64 ((P.getD j []).getD j_1 (0 : Int))]) i))]) ∧ (P.getD j []).length ≤ (1000 : Nat), (0 : Int) ≤ (↑j : Int) ∧ (↑j : Int) < (↑P.length : Int), Dec (decide ((↑j : Int) < (↑P.length : Int))) true], by kernel_rfl, ⟨?_, ?_, ?_, ?_, d2, ?_, ?_, d1⟩, MuG.out ?_, InG.out ?_⟩⟩))
           (fun d1 => CtG.no ?_)
      all_goals first | (refine MuG.mk ?_; (simp only [decide_eq_true_eq] at *; show P.length - (j + 1) < P.length - j; omega)) | (refine InG.mk ?_; (simp only [decide_eq_true_eq, intsR_ro, Int.toNat_natCast] at *; rw [anyR_drop (by omega), d2] at hs; rw [findR_drop (by omega), d2] at hf; exact ⟨by omega, hs, hf⟩)) | (refine CtG.mk ?_; (simp only [decide_eq_true_eq, decide_eq_false_iff_not, intsR_ro, Int.toNat_natCast] at *; first | (rw [List.drop_eq_nil_of_le (by omega)] at hs; cases hs; done) | (rw [anyR_drop (by omega), d2] at hs; cases hs; done))) | (first | (with_reducible rfl) | exact ⟨rfl, rfl⟩ | ((try simp only [ek, intsR_ro, Int.toNat_natCast, decide_eq_true_eq, decide_eq_false_iff_not] at *) <;> first | omega | exact ⟨fun _ _ => rfl, hn _ (rowAt_mem (by omega))⟩ | (rw [← hf, findR_drop (by omega), d2]; exact ⟨rfl, rfl⟩)))
set_option maxRecDepth 100000 in
theorem comp_pure (p : Int) (L : List Con) (a : Int) (hL : okE L) : PureC Tryz.prog [] 43 [.agg [.int .i64 p, roC L], .int .i64 a] (rI .i64 (partM L a)) := by
  have rr := fun (tp : List Bool) (ms : List Prop) h hm => pure_run evOk (callF_ok evOk (orcOf_ok entsVC_ok) 8) Tryz.func43 (A := [.agg [.int .i64 p, roC L], .int .i64 a]) (N := Nat.max 1 Tryz.f43.ntmps) rfl (one_ann (tc_loop (partsM L) a (fun l hl => Nat.le_trans (parts_rows l hl).2.2 hL.1) (Nat.le_trans parts_len hL.1))) rfl rfl evNg (tabs := []) (R := rI .i64 (partM L a)) (tp := tp) (ms := ms) h hm
  refine Or.elim (Bool.eq_false_or_eq_true (anyR a (partsM L))) (fun d1 => rr [true] [(findR a (partsM L)).length = (partM L a).length ∧ (fun j => [RV.int IntKind.i64 ((findR a (partsM L)).getD j (0 : Int))]) = fun j => [RV.int IntKind.i64 ((partM L a).getD j (0 : Int))], a = a, (partsM (consR L.length fun i => (L.getD i Con.zero).rvs)).length = (partsM L).length ∧ (fun i => [rI IntKind.i64 ((partsM (consR L.length fun i => (L.getD i Con.zero).rvs)).getD i [])]) = fun i => [rI IntKind.i64 ((partsM L).getD i [])], (↑(partsM (consR L.length fun i => (L.getD i Con.zero).rvs)).length : Int) = (↑(partsM L).length : Int), Dec (anyR a (partsM L)) true, (∀ (i : Nat), i < L.length → (fun i => (L.getD i Con.zero).rvs) i = (Con.ofR ((fun i => (L.getD i Con.zero).rvs) i)).rvs) ∧ okE (consR L.length fun i => (L.getD i Con.zero).rvs)] (by kernel_rfl) ⟨?_, ?_, ?_, ?_, d1, (?_ : (∀ (i : Nat), i < L.length → (fun i => (L.getD i Con.zero).rvs) i = (Con.ofR ((fun i => (L.getD i Con.zero).rvs) i)).rvs) ∧ okE (consR L.length fun i => (L.getD i Con.zero).rvs))⟩)
           (fun d1 => rr [false] [(partM L a).length = (0 : Nat), a = a, (partsM (consR L.length fun i => (L.getD i Con.zero).rvs)).length = (partsM L).length ∧ (fun i => [rI IntKind.i64 ((partsM (consR L.length fun i => (L.getD i Con.zero).rvs)).getD i [])]) = fun i => [rI IntKind.i64 ((partsM L).getD i [])], (↑(partsM (consR L.length fun i => (L.getD i Con.zero).rvs)).length : Int) = (↑(partsM L).length : Int), Dec (anyR a (partsM L)) false, (∀ (i : Nat), i < L.length → (fun i => (L.getD i Con.zero).rvs) i = (Con.ofR ((fun i => (L.getD i Con.zero).rvs) i)).rvs) ∧ okE (consR L.length fun i => (L.getD i Con.zero).rvs)] (by kernel_rfl) ⟨?_, ?_, ?_, ?_, d1, (?_ : (∀ (i : Nat), i < L.length → (fun i => (L.getD i Con.zero).rvs) i = (Con.ofR ((fun i => (L.getD i Con.zero).rvs) i)).rvs) ∧ okE (consR L.length fun i => (L.getD i Con.zero).rvs))⟩)
  all_goals first | (first | rfl | exact ⟨rfl, rfl⟩ | ((try simp only [consR_ro] at *) <;> first | rfl | trivial | exact ⟨rfl, rfl⟩ | exact ⟨trivial, trivial⟩ | exact ⟨fun _ _ => rfl, hL⟩ | (show (findR a (partsM L)).length = 0; rw [findR_none d1]; rfl)))
theorem bad_no {L : List Con} {l : List Int} (h : ¬ l.length = 2) : (true : Bool) = !badM L l := by unfold badM; simp [h]
theorem bad_yes {L : List Con} {l : List Int} (hL : okL L) (hl : inR L.length l) (h : l.length = 2) : (!badM L l) = (!((at_ L (l.getD 0 0).toNat).dim == 1) || (!((at_ L (l.getD 1 0).toNat).dim == 1) || !((IntKind.i64.wrap ((at_ L (l.getD 0 0).toNat).oddity + (at_ L (l.getD 1 0).toNat).oddity)).tmod 4 == 0))) := by
  match l, h, hl with
  | [a, b], _, hl =>
    have ha := hl a (by simp)
    have hb := hl b (by simp)
    have h1 := (hL.at (k := a.toNat) (by omega)).2.2.2
    have h2 := (hL.at (k := b.toNat) (by omega)).2.2.2
    simp only [List.getD_cons_zero, List.getD_cons_succ]
    rw [w64 (by omega) (by omega), Int.tmod_eq_emod_of_nonneg (by omega)]
    unfold badM totM
    simp only [List.length_cons, List.length_nil, decide_true, Bool.true_and, List.getD_cons_zero, List.getD_cons_succ, sumO, Bool.not_and]
    rw [show ((at_ L a.toNat).oddity + ((at_ L b.toNat).oddity + 0)) % 8 % 4 = ((at_ L a.toNat).oddity + (at_ L b.toNat).oddity) % 4 by omega]
set_option maxRecDepth 100000 in
theorem good_pure (p : Int) (L : List Con) (l : List Int) (hL : okL L) (hl : inR L.length l) (hn : l.length ≤ 1000) : PureC Tryz.prog [] 42 [.agg [.int .i64 p, roC L], rI .i64 l] (.bool (!badM L l)) := by
  have rr := fun (tp : List Bool) (ms : List Prop) h hm => pure_run evOk (callF_ok evOk (noOrc_ok _ _) 8) Tryz.func42 (A := [.agg [.int .i64 p, roC L], rI .i64 l]) rfl none_ann rfl rfl evNg (tabs := []) (R := .bool (!badM L l)) (tp := tp) (ms := ms) h hm
  refine Or.elim (Bool.eq_false_or_eq_true ((↑l.length : Int) == (2 : Int))) (fun d1 => Or.elim (Bool.eq_false_or_eq_true ((L.getD (l.getD (Int.toNat (0 : Int)) (0 : Int)).toNat Con.zero).dim == (1 : Int))) (fun d2 => Or.elim (Bool.eq_false_or_eq_true ((L.getD (l.getD (Int.toNat (1 : Int)) (0 : Int)).toNat Con.zero).dim == (1 : Int))) (fun d3 => rr [false, false, false] [((IntKind.i64.wrap ((L.getD (l.getD (Int.toNat (0 : Int)) (0 : Int)).toNat Con.zero).oddity + (L.getD (l.getD (Int.toNat (1 : Int)) (0 : Int)).toNat Con.zero).oddity)).tmod (4 : Int) != (0 : Int)) = !badM L l, (4 : Int) ≠ (0 : Int), Dec ((L.getD (l.getD (Int.toNat (1 : Int)) (0 : Int)).toNat Con.zero).dim != (1 : Int)) false, Dec ((L.getD (l.getD (Int.toNat (0 : Int)) (0 : Int)).toNat Con.zero).dim != (1 : Int)) false, (L.getD (l.getD (Int.toNat (1 : Int)) (0 : Int)).toNat Con.zero).exp = (L.getD (l.getD (Int.toNat (1 : Int)) (0 : Int)).toNat Con.zero).exp, (L.getD (l.getD (Int.toNat (1 : Int)) (0 : Int)).toNat Con.zero).dim = (L.getD (l.getD (Int.toNat (1 : Int)) (0 : Int)).toNat Con.zero).dim, (L.getD (l.getD (Int.toNat (1 : Int)) (0 : Int)).toNat Con.zero).sign = (L.getD (l.getD (Int.toNat (1 : Int)) (0 : Int)).toNat Con.zero).sign, (L.getD (l.getD (Int.toNat (1 : Int)) (0 : Int)).toNat Con.zero).odd = (L.getD (l.getD (Int.toNat (1 : Int)) (0 : Int)).toNat Con.zero).odd, (L.getD (l.getD (Int.toNat (1 : Int)) (0 : Int)).toNat Con.zero).oddity = (L.getD (l.getD (Int.toNat (1 : Int)) (0 : Int)).toNat Con.zero).oddity, l.getD (Int.toNat (1 : Int)) (0 : Int) = l.getD (Int.toNat (1 : Int)) (0 : Int), L.length = L.length ∧ (fun i => (L.getD i Con.zero).rvs) = fun i => (L.getD i Con.zero).rvs, (0 : Int) ≤ l.getD (Int.toNat (1 : Int)) (0 : Int) ∧ l.getD (Int.toNat (1 : Int)) (0 : Int) < (↑L.length : Int), (0 : Int) ≤ (1 : Int) ∧ (1 : Int) < (↑l.length : Int), (0 : Int) ≤ l.getD (Int.toNat (0 : Int)) (0 : Int) ∧ l.getD (Int.toNat (0 : Int)) (0 : Int) < (↑L.length : Int), (0 : Int) ≤ (0 : Int) ∧ (0 : Int) < (↑l.length : Int), Dec ((↑l.length : Int) != (2 : Int)) false] (by kernel_rfl) ⟨?_, ?_, (dN d3), (dN d2), ?_, ?_, ?_, ?_, ?_, ?_, ?_, ?_, ?_, ?_, ?_, (dN d1)⟩)
           (fun d3 => rr [false, false, true] [true = !badM L l, Dec ((L.getD (l.getD (Int.toNat (1 : Int)) (0 : Int)).toNat Con.zero).dim != (1 : Int)) true, Dec ((L.getD (l.getD (Int.toNat (0 : Int)) (0 : Int)).toNat Con.zero).dim != (1 : Int)) false, (L.getD (l.getD (Int.toNat (1 : Int)) (0 : Int)).toNat Con.zero).exp = (L.getD (l.getD (Int.toNat (1 : Int)) (0 : Int)).toNat Con.zero).exp, (L.getD (l.getD (Int.toNat (1 : Int)) (0 : Int)).toNat Con.zero).dim = (L.getD (l.getD (Int.toNat (1 : Int)) (0 : Int)).toNat Con.zero).dim, (L.getD (l.getD (Int.toNat (1 : Int)) (0 : Int)).toNat Con.zero).sign = (L.getD (l.getD (Int.toNat (1 : Int)) (0 : Int)).toNat Con.zero).sign, (L.getD (l.getD (Int.toNat (1 : Int)) (0 : Int)).toNat Con.zero).odd = (L.getD (l.getD (Int.toNat (1 : Int)) (0 : Int)).toNat Con.zero).odd, (L.getD (l.getD (Int.toNat (1 : Int)) (0 : Int)).toNat Con.zero).oddity = (L.getD (l.getD (Int.toNat (1 : Int)) (0 : Int)).toNat Con.zero).oddity, l.getD (Int.toNat (1 : Int)) (0 : Int) = l.getD (Int.toNat (1 : Int)) (0 : Int), L.length = L.length ∧ (fun i => (L.getD i Con.zero).rvs) = fun i => (L.getD i Con.zero).rvs, (0 : Int) ≤ l.getD (Int.toNat (1 : Int)) (0 : Int) ∧ l.getD (Int.toNat (1 : Int)) (0 : Int) < (↑L.length : Int), (0 : Int) ≤ (1 : Int) ∧ (1 : Int) < (↑l.length : Int), (0 : Int) ≤ l.getD (Int.toNat (0 : Int)) (0 : Int) ∧ l.getD (Int.toNat (0 : Int)) (0 : Int) < (↑L.length : Int), (0 : Int) ≤ (0 : Int) ∧ (0 : Int) < (↑l.length : Int), Dec ((↑l.length : Int) != (2 : Int)) false] (by kernel_rfl) ⟨?_, (dN d3), (dN d2), ?_, ?_, ?_, ?_, ?_, ?_, ?_, ?_, ?_, ?_, ?_, (dN d1)⟩))
           (fun d2 => rr [false, true] [true = !badM L l, Dec ((L.getD (l.getD (Int.toNat (0 : Int)) (0 : Int)).toNat Con.zero).dim != (1 : Int)) true, (L.getD (l.getD (Int.toNat (1 : Int)) (0 : Int)).toNat Con.zero).exp = (L.getD (l.getD (Int.toNat (1 : Int)) (0 : Int)).toNat Con.zero).exp, (L.getD (l.getD (Int.toNat (1 : Int)) (0 : Int)).toNat Con.zero).dim = (L.getD (l.getD (Int.toNat (1 : Int)) (0 : Int)).toNat Con.zero).dim, (L.getD (l.getD (Int.toNat (1 : Int)) (0 : Int)).toNat Con.zero).sign = (L.getD (l.getD (Int.toNat (1 : Int)) (0 : Int)).toNat Con.zero).sign, (L.getD (l.getD (Int.toNat (1 : Int)) (0 : Int)).toNat Con.zero).odd = (L.getD (l.getD (Int.toNat (1 : Int)) (0 : Int)).toNat Con.zero).odd, (L.getD (l.getD (Int.toNat (1 : Int)) (0 : Int)).toNat Con.zero).oddity = (L.getD (l.getD (Int.toNat (1 : Int)) (0 : Int)).toNat Con.zero).oddity, l.getD (Int.toNat (1 : Int)) (0 : Int) = l.getD (Int.toNat (1 : Int)) (0 : Int), L.length = L.length ∧ (fun i => (L.getD i Con.zero).rvs) = fun i => (L.getD i Con.zero).rvs, (0 : Int) ≤ l.getD (Int.toNat (1 : Int)) (0 : Int) ∧ l.getD (Int.toNat (1 : Int)) (0 : Int) < (↑L.length : Int), (0 : Int) ≤ (1 : Int) ∧ (1 : Int) < (↑l.length : Int), (0 : Int) ≤ l.getD (Int.toNat (0 : Int)) (0 : Int) ∧ l.getD (Int.toNat (0 : Int)) (0 : Int) < (↑L.length : Int), (0 : Int) ≤ (0 : Int) ∧ (0 : Int) < (↑l.length : Int), Dec ((↑l.length : Int) != (2 : Int)) false] (by kernel_rfl) ⟨?_, (dN d2), ?_, ?_, ?_, ?_, ?_, ?_, ?_, ?_, ?_, ?_, ?_, (dN d1)⟩))
           (fun d1 => rr [true] [true = !badM L l, Dec ((↑l.length : Int) != (2 : Int)) true] (by kernel_rfl) ⟨?_, (dN d1)⟩)
  all_goals first | (first | (with_reducible rfl) | exact ⟨rfl, rfl⟩ | decide | (simp only [Int.toNat_zero, show (1 : Int).toNat = 1 from rfl, beq_iff_eq, beq_eq_false_iff_ne, ne_eq] at * <;> first | omega | (have h0 := hl.at (t := 0) (by omega); exact h0) | (have h0 := hl.at (t := 1) (by omega); exact h0) | exact bad_no (by omega) | (rw [bad_yes hL hl (by omega)]; simp_all [at_, bne]; done)))
noncomputable def entsVG : List OEnt := [
  ⟨43, [], fun A => match A with
    | [.agg [.int .i64 p, .sl n 5 row], .int .i64 a] => some (rI .i64 (partM (consR n row) a), [(∀ i, i < n → row i = (Con.ofR (row i)).rvs) ∧ okE (consR n row)])
    | _ => none⟩,
  ⟨42, [], fun A => match A with
    | [.agg [.int .i64 p, .sl n 5 row], .sl m 1 row'] => some (.bool (!badM (consR n row) (intsR m row')), [(∀ i, i < n → row i = (Con.ofR (row i)).rvs) ∧ (∀ i, i < m → row' i = [.int .i64 (intR (row' i))]) ∧ okL (consR n row) ∧ inR (consR n row).length (intsR m row') ∧ m ≤ 1000])
    | _ => none⟩]
theorem entsVG_ok : ∀ e ∈ entsVG, EntOk Tryz.prog e := by
  intro e he
  simp only [entsVG, List.mem_cons, List.not_mem_nil, or_false] at he
  rcases he with rfl | rfl
  all_goals
    intro A R ms h hm
    simp only at h
    split at h
    all_goals first | (cases h; done) | cases h
  · obtain ⟨h1, h2⟩ := all_one hm
    exact PureC.imp (comp_pure _ _ _ h2) (.cons (.agg (.cons .same (.cons (.con h1) .nil))) (.cons .same .nil))
  · obtain ⟨h1, h2, h3, h4, h5⟩ := all_one hm
    exact PureC.imp (good_pure _ _ _ h3 h4 (by rw [intsR_len]; exact h5)) (.cons (.agg (.cons .same (.cons (.con h1) .nil))) (.cons (.ints h2) .nil))
set_option maxRecDepth 100000 in
theorem tlinked_pure (p : Int) (L : List Con) (k : Nat) (hL : okL L) (h1 : 1 ≤ k) (h2 : k < L.length) : PureC Tryz.prog [] 27 [.agg [.int .i64 p, roC L], .int .i64 (k : Int)] (.bool (linkM L k)) := by
  have hl := hL.1; have a1 := hL.e.at' k; have a2 := hL.e.at' (k - 1); have em : IntKind.i64.wrap ((k : Int) - 1) = (k : Int) - 1 := w64 (by omega) (by omega); have et : ((k : Int) - 1).toNat = k - 1 := (by omega); have ed : IntKind.i64.wrap ((at_ L k).exp - (at_ L (k - 1)).exp) = (at_ L k).exp - (at_ L (k - 1)).exp := w64 (by omega) (by omega); have hp := partM_ok (L := L) (i := (k : Int))
  have rr := fun (tp : List Bool) (ms : List Prop) h hm => pure_run evOk (callF_ok evOk (orcOf_ok entsVG_ok) 8) Tryz.func27 (A := [.agg [.int .i64 p, roC L], .int .i64 (k : Int)]) rfl none_ann rfl rfl evNg (tabs := []) (R := .bool (linkM L k)) (tp := tp) (ms := ms) h hm
  refine Or.elim (Bool.eq_false_or_eq_true (IntKind.i64.wrap ((L.getD k Con.zero).exp - (L.getD (IntKind.i64.wrap ((↑k : Int) - (1 : Int))).toNat Con.zero).exp) == (1 : Int))) (fun d1 => Or.elim (Bool.eq_false_or_eq_true ((L.getD (IntKind.i64.wrap ((↑k : Int) - (1 : Int))).toNat Con.zero).odd)) (fun d2 => Or.elim (Bool.eq_false_or_eq_true ((L.getD k Con.zero).odd)) (fun d3 => rr [true, true, true] [(!badM (consR L.length fun i => (L.getD i Con.zero).rvs) (intsR (partM (consR L.length fun i => (L.getD i Con.zero).rvs) (↑k : Int)).length fun j => [RV.int IntKind.i64 ((partM (consR L.length fun i => (L.getD i Con.zero).rvs) (↑k : Int)).getD j (0 : Int))])) = linkM L k, (∀ (i : Nat), i < L.length → (fun i => (L.getD i Con.zero).rvs) i = (Con.ofR ((fun i => (L.getD i Con.zero).rvs) i)).rvs) ∧ (∀ (i : Nat), i < (partM (consR L.length fun i => (L.getD i Con.zero).rvs) (↑k : Int)).length → (fun j => [RV.int IntKind.i64 ((partM (consR L.length fun i => (L.getD i Con.zero).rvs) (↑k : Int)).getD j (0 : Int))]) i = [RV.int IntKind.i64 (intR ((fun j => [RV.int IntKind.i64 ((partM (consR L.length fun i => (L.getD i Con.zero).rvs) (↑k : Int)).getD j (0 : Int))]) i))]) ∧ okL (consR L.length fun i => (L.getD i Con.zero).rvs) ∧ inR (consR L.length fun i => (L.getD i Con.zero).rvs).length (intsR (partM (consR L.length fun i => (L.getD i Con.zero).rvs) (↑k : Int)).length fun j => [RV.int IntKind.i64 ((partM (consR L.length fun i => (L.getD i Con.zero).rvs) (↑k : Int)).getD j (0 : Int))]) ∧ (partM (consR L.length fun i => (L.getD i Con.zero).rvs) (↑k : Int)).length ≤ (1000 : Nat), p = p, L.length = L.length ∧ (fun i => (L.getD i Con.zero).rvs) = fun i => (L.getD i Con.zero).rvs, (∀ (i : Nat), i < L.length → (fun i => (L.getD i Con.zero).rvs) i = (Con.ofR ((fun i => (L.getD i Con.zero).rvs) i)).rvs) ∧ okE (consR L.length fun i => (L.getD i Con.zero).rvs), Dec (L.getD k Con.zero).odd true, Dec (L.getD (IntKind.i64.wrap ((↑k : Int) - (1 : Int))).toNat Con.zero).odd true, Dec (IntKind.i64.wrap ((L.getD k Con.zero).exp - (L.getD (IntKind.i64.wrap ((↑k : Int) - (1 : Int))).toNat Con.zero).exp) == (1 : Int)) true, (L.getD k Con.zero).exp = (L.getD k Con.zero).exp, (L.getD k Con.zero).dim = (L.getD k Con.zero).dim, (L.getD k Con.zero).sign = (L.getD k Con.zero).sign, (L.getD k Con.zero).odd = (L.getD k Con.zero).odd, (L.getD k Con.zero).oddity = (L.getD k Con.zero).oddity, L.length = L.length ∧ (fun i => (L.getD i Con.zero).rvs) = fun i => (L.getD i Con.zero).rvs, (0 : Int) ≤ (↑k : Int) ∧ (↑k : Int) < (↑L.length : Int), (0 : Int) ≤ IntKind.i64.wrap ((↑k : Int) - (1 : Int)) ∧ IntKind.i64.wrap ((↑k : Int) - (1 : Int)) < (↑L.length : Int)] (by kernel_rfl) ⟨?_, ?_, ?_, ?_, ?_, d3, d2, d1, ?_, ?_, ?_, ?_, ?_, ?_, ?_, (?_ : (0 : Int) ≤ IntKind.i64.wrap ((↑k : Int) - (1 : Int)) ∧ IntKind.i64.wrap ((↑k : Int) - (1 : Int)) < (↑L.length : Int))⟩)
           (fun d3 => rr [true, true, false, true] [true = linkM L k, Dec (L.getD (IntKind.i64.wrap ((↑k : Int) - (1 : Int))).toNat Con.zero).odd true, Dec (L.getD k Con.zero).odd false, Dec (L.getD (IntKind.i64.wrap ((↑k : Int) - (1 : Int))).toNat Con.zero).odd true, Dec (IntKind.i64.wrap ((L.getD k Con.zero).exp - (L.getD (IntKind.i64.wrap ((↑k : Int) - (1 : Int))).toNat Con.zero).exp) == (1 : Int)) true, (L.getD k Con.zero).exp = (L.getD k Con.zero).exp, (L.getD k Con.zero).dim = (L.getD k Con.zero).dim, (L.getD k Con.zero).sign = (L.getD k Con.zero).sign, (L.getD k Con.zero).odd = (L.getD k Con.zero).odd, (L.getD k Con.zero).oddity = (L.getD k Con.zero).oddity, L.length = L.length ∧ (fun i => (L.getD i Con.zero).rvs) = fun i => (L.getD i Con.zero).rvs, (0 : Int) ≤ (↑k : Int) ∧ (↑k : Int) < (↑L.length : Int), (0 : Int) ≤ IntKind.i64.wrap ((↑k : Int) - (1 : Int)) ∧ IntKind.i64.wrap ((↑k : Int) - (1 : Int)) < (↑L.length : Int)] (by kernel_rfl) ⟨?_, d2, d3, d2, d1, ?_, ?_, ?_, ?_, ?_, ?_, ?_, (?_ : (0 : Int) ≤ IntKind.i64.wrap ((↑k : Int) - (1 : Int)) ∧ IntKind.i64.wrap ((↑k : Int) - (1 : Int)) < (↑L.length : Int))⟩))
           (fun d2 => rr [true, false, false] [(L.getD k Con.zero).odd = linkM L k, Dec (L.getD (IntKind.i64.wrap ((↑k : Int) - (1 : Int))).toNat Con.zero).odd false, Dec (L.getD (IntKind.i64.wrap ((↑k : Int) - (1 : Int))).toNat Con.zero).odd false, Dec (IntKind.i64.wrap ((L.getD k Con.zero).exp - (L.getD (IntKind.i64.wrap ((↑k : Int) - (1 : Int))).toNat Con.zero).exp) == (1 : Int)) true, (L.getD k Con.zero).exp = (L.getD k Con.zero).exp, (L.getD k Con.zero).dim = (L.getD k Con.zero).dim, (L.getD k Con.zero).sign = (L.getD k Con.zero).sign, (L.getD k Con.zero).odd = (L.getD k Con.zero).odd, (L.getD k Con.zero).oddity = (L.getD k Con.zero).oddity, L.length = L.length ∧ (fun i => (L.getD i Con.zero).rvs) = fun i => (L.getD i Con.zero).rvs, (0 : Int) ≤ (↑k : Int) ∧ (↑k : Int) < (↑L.length : Int), (0 : Int) ≤ IntKind.i64.wrap ((↑k : Int) - (1 : Int)) ∧ IntKind.i64.wrap ((↑k : Int) - (1 : Int)) < (↑L.length : Int)] (by kernel_rfl) ⟨?_, d2, d2, d1, ?_, ?_, ?_, ?_, ?_, ?_, ?_, (?_ : (0 : Int) ≤ IntKind.i64.wrap ((↑k : Int) - (1 : Int)) ∧ IntKind.i64.wrap ((↑k : Int) - (1 : Int)) < (↑L.length : Int))⟩))
           (fun d1 => Or.elim (Bool.eq_false_or_eq_true (IntKind.i64.wrap ((L.getD k Con.zero).exp - (L.getD (IntKind.i64.wrap ((↑k : Int) - (1 : Int))).toNat Con.zero).exp) == (2 : Int))) (fun d2 => Or.elim (Bool.eq_false_or_eq_true ((L.getD (IntKind.i64.wrap ((↑k : Int) - (1 : Int))).toNat Con.zero).odd)) (fun d3 => rr [false, true, true] [(L.getD k Con.zero).odd = linkM L k, Dec (L.getD (IntKind.i64.wrap ((↑k : Int) - (1 : Int))).toNat Con.zero).odd true, Dec (IntKind.i64.wrap ((L.getD k Con.zero).exp - (L.getD (IntKind.i64.wrap ((↑k : Int) - (1 : Int))).toNat Con.zero).exp) == (2 : Int)) true, Dec (IntKind.i64.wrap ((L.getD k Con.zero).exp - (L.getD (IntKind.i64.wrap ((↑k : Int) - (1 : Int))).toNat Con.zero).exp) == (1 : Int)) false, (L.getD k Con.zero).exp = (L.getD k Con.zero).exp, (L.getD k Con.zero).dim = (L.getD k Con.zero).dim, (L.getD k Con.zero).sign = (L.getD k Con.zero).sign, (L.getD k Con.zero).odd = (L.getD k Con.zero).odd, (L.getD k Con.zero).oddity = (L.getD k Con.zero).oddity, L.length = L.length ∧ (fun i => (L.getD i Con.zero).rvs) = fun i => (L.getD i Con.zero).rvs, (0 : Int) ≤ (↑k : Int) ∧ (↑k : Int) < (↑L.length : Int), (0 : Int) ≤ IntKind.i64.wrap ((↑k : Int) - (1 : Int)) ∧ IntKind.i64.wrap ((↑k : Int) - (1 : Int)) < (↑L.length : Int)] (by kernel_rfl) ⟨?_, d3, d2, d1, ?_, ?_, ?_, ?_, ?_, ?_, ?_, (?_ : (0 : Int) ≤ IntKind.i64.wrap ((↑k : Int) - (1 : Int)) ∧ IntKind.i64.wrap ((↑k : Int) - (1 : Int)) < (↑L.length : Int))⟩)
           (fun d3 => rr [false, true, false] [false = linkM L k, Dec (L.getD (IntKind.i64.wrap ((↑k : Int) - (1 : Int))).toNat Con.zero).odd false, Dec (IntKind.i64.wrap ((L.getD k Con.zero).exp - (L.getD (IntKind.i64.wrap ((↑k : Int) - (1 : Int))).toNat Con.zero).exp) == (2 : Int)) true, Dec (IntKind.i64.wrap ((L.getD k Con.zero).exp - (L.getD (IntKind.i64.wrap ((↑k : Int) - (1 : Int))).toNat Con.zero).exp) == (1 : Int)) false, (L.getD k Con.zero).exp = (L.getD k Con.zero).exp, (L.getD k Con.zero).dim = (L.getD k Con.zero).dim, (L.getD k Con.zero).sign = (L.getD k Con.zero).sign, (L.getD k Con.zero).odd = (L.getD k Con.zero).odd, (L.getD k Con.zero).oddity = (L.getD k Con.zero).oddity, L.length = L.length ∧ (fun i => (L.getD i Con.zero).rvs) = fun i => (L.getD i Con.zero).rvs, (0 : Int) ≤ (↑k : Int) ∧ (↑k : Int) < (↑L.length : Int), (0 : Int) ≤ IntKind.i64.wrap ((↑k : Int) - (1 : Int)) ∧ IntKind.i64.wrap ((↑k : Int) - (1 : Int)) < (↑L.length : Int)] (by kernel_rfl) ⟨?_, d3, d2, d1, ?_, ?_, ?_, ?_, ?_, ?_, ?_, (?_ : (0 : Int) ≤ IntKind.i64.wrap ((↑k : Int) - (1 : Int)) ∧ IntKind.i64.wrap ((↑k : Int) - (1 : Int)) < (↑L.length : Int))⟩))
           (fun d2 => rr [false, false] [false = linkM L k, Dec (IntKind.i64.wrap ((L.getD k Con.zero).exp - (L.getD (IntKind.i64.wrap ((↑k : Int) - (1 : Int))).toNat Con.zero).exp) == (2 : Int)) false, Dec (IntKind.i64.wrap ((L.getD k Con.zero).exp - (L.getD (IntKind.i64.wrap ((↑k : Int) - (1 : Int))).toNat Con.zero).exp) == (1 : Int)) false, (L.getD k Con.zero).exp = (L.getD k Con.zero).exp, (L.getD k Con.zero).dim = (L.getD k Con.zero).dim, (L.getD k Con.zero).sign = (L.getD k Con.zero).sign, (L.getD k Con.zero).odd = (L.getD k Con.zero).odd, (L.getD k Con.zero).oddity = (L.getD k Con.zero).oddity, L.length = L.length ∧ (fun i => (L.getD i Con.zero).rvs) = fun i => (L.getD i Con.zero).rvs, (0 : Int) ≤ (↑k : Int) ∧ (↑k : Int) < (↑L.length : Int), (0 : Int) ≤ IntKind.i64.wrap ((↑k : Int) - (1 : Int)) ∧ IntKind.i64.wrap ((↑k : Int) - (1 : Int)) < (↑L.length : Int)] (by kernel_rfl) ⟨?_, d2, d1, ?_, ?_, ?_, ?_, ?_, ?_, ?_, (?_ : (0 : Int) ≤ IntKind.i64.wrap ((↑k : Int) - (1 : Int)) ∧ IntKind.i64.wrap ((↑k : Int) - (1 : Int)) < (↑L.length : Int))⟩))
  all_goals first | (first | (with_reducible rfl) | exact ⟨rfl, rfl⟩ | decide | ((try simp only [at_, em, et, ed, consR_ro, intsR_ro, Int.toNat_natCast] at *) <;> first | (with_reducible rfl) | trivial | omega | exact ⟨fun _ _ => rfl, hL.e⟩ | exact ⟨fun _ _ => rfl, fun _ _ => rfl, hL, hp.1, by omega⟩ | (simp only [linkM, at_, *]; done) | (simp_all [linkM]; done)))
end Go.Proofs.YtkkmlbhmcdoibaaGreatDoor.S

namespace Go.Proofs.YtkkmlbhmcdoibaaGreatDoor.S
open Go.QfSy Go.RowKit
def ivN (s : Nat) : Nat → List Int
  | 0 => []
  | n + 1 => (s : Int) :: ivN (s + 1) n
theorem ivN_append (s n : Nat) : ivN s (n + 1) = ivN s n ++ [((s + n : Nat) : Int)] := by
  induction n generalizing s with
  | zero => simp [ivN]
  | succ n ih =>
    rw [ivN, ih (s + 1)]
    show _ = (s : Int) :: ivN (s + 1) n ++ _
    simp only [List.cons_append]
    rw [show s + 1 + n = s + (n + 1) by omega]
theorem ivN_len (s n : Nat) : (ivN s n).length = n := by
  induction n generalizing s with
  | zero => rfl
  | succ n ih => simp [ivN, ih]
theorem mem_ivN {s n : Nat} {x : Int} : x ∈ ivN s n ↔ (s : Int) ≤ x ∧ x < ((s + n : Nat) : Int) := by
  induction n generalizing s with
  | zero => simp only [ivN, List.not_mem_nil, Nat.add_zero, false_iff]; omega
  | succ n ih =>
    simp only [ivN, List.mem_cons, ih]
    omega
theorem getD_ivN {s n t : Nat} (h : t < n) : (ivN s n).getD t 0 = ((s + t : Nat) : Int) := by
  induction n generalizing s t with
  | zero => omega
  | succ n ih =>
    cases t with
    | zero => simp [ivN]
    | succ t =>
      simp only [ivN, List.getD_cons_succ]
      rw [ih (by omega)]
      congr 1; omega
def rowOk (b j : Nat → Bool) (l : List Int) : Prop := ∃ s n, l = ivN s (n + 1) ∧ j s = false ∧ ∀ t, t ≤ n → b (s + t) = true ∧ (0 < t → j (s + t) = true)
structure GrpIv (b j : Nat → Bool) (k : Nat) (a : Acc) : Prop where
  rows : ∀ l ∈ allA a, rowOk b j l
  flat : (allA a).flatten = ((List.range k).filter b).map Int.ofNat
  last : ∀ l, a.2 = some l → 0 < k → b (k - 1) = true → ∃ s n, l = ivN s (n + 1) ∧ s + n + 1 = k
theorem grp_iv {b j : Nat → Bool} (hj : ∀ k, j (k + 1) = true → b k = true) (h0 : j 0 = false) : ∀ k, GrpIv b j k (grpA b j k)
  | 0 => ⟨fun l hl => by simp [grpA, allA] at hl, by simp [grpA, allA], fun l hl => by simp [grpA] at hl⟩
  | k + 1 => by
    have ih := grp_iv hj h0 k
    have ok := grp_ok b j k
    have e : grpA b j (k + 1) = grpS (b k) (j k) k (grpA b j k) := rfl
    rw [e]
    generalize grpA b j k = a at ih ok
    obtain ⟨F, o⟩ := a
    obtain ⟨h1, h2, h3⟩ := ih
    have hr : ((List.range (k + 1)).filter b).map Int.ofNat = ((List.range k).filter b).map Int.ofNat ++ (if b k = true then [(k : Int)] else []) := by
      rw [List.range_succ, List.filter_append, List.map_append]
      congr 1
      by_cases hb : b k = true
      · simp [hb]
      · simp [hb]
    cases hb : b k with
    | false =>
      simp only [grpS, cond_false]
      refine ⟨h1, by rw [hr, h2, hb]; simp, fun l hl _ hbk => ?_⟩
      have : b k = true := by simpa using hbk
      rw [hb] at this; cases this
    | true =>
      have new : j k = false → rowOk b j [(k : Int)] := fun hjk => ⟨k, 0, rfl, hjk, fun t ht => by
        have : t = 0 := by omega
        subst this; exact ⟨by simpa using hb, fun h => by omega⟩⟩
      have one : ∃ s n, ([(k : Int)] : List Int) = ivN s (n + 1) ∧ s + n + 1 = k + 1 := ⟨k, 0, rfl, rfl⟩
      have nojoin : o = none → j k = false := by
        intro ho
        cases hjk : j k with
        | false => rfl
        | true =>
          cases k with
          | zero => rw [h0] at hjk; cases hjk
          | succ k =>
            have h4 := (ok.none ho).2 k (by omega)
            rw [hj k hjk] at h4; cases h4
      cases o with
      | none =>
        have hF : F = [] := (ok.none rfl).1
        subst hF
        simp only [grpS, cond_true]
        refine ⟨fun l hl => ?_, ?_, fun l hl _ _ => ?_⟩
        · simp only [allA, List.nil_append, List.mem_singleton] at hl
          subst hl; exact new (nojoin rfl)
        · rw [hr, ← h2, hb]; simp [allA]
        · cases hl; exact one
      | some l0 =>
        cases hjk : j k with
        | true =>
          simp only [grpS, cond_true]
          have hk : 0 < k := by
            rcases Nat.eq_zero_or_pos k with h | h
            · subst h; rw [h0] at hjk; cases hjk
            · exact h
          have hbk : b (k - 1) = true := hj (k - 1) (by rw [show k - 1 + 1 = k by omega]; exact hjk)
          obtain ⟨s, n, e1, e2⟩ := h3 l0 rfl hk hbk
          obtain ⟨s', n', e3, e4, e5⟩ := h1 l0 (by simp [allA])
          have hn : n' = n := by have := congrArg List.length (e1.symm.trans e3); simp only [ivN_len] at this; omega
          have hs : s' = s := by
            have := e1.symm.trans e3
            simp only [ivN, List.cons.injEq] at this
            omega
          subst hn hs
          have e6 : l0 ++ [(k : Int)] = ivN s' (n' + 1 + 1) := by
            rw [ivN_append s' (n' + 1), ← e1, show s' + (n' + 1) = k by omega]
          refine ⟨fun l hl => ?_, ?_, fun l hl _ _ => ?_⟩
          · simp only [allA, List.mem_append, List.mem_singleton] at hl
            rcases hl with hl | hl
            · exact h1 l (by simp [allA, hl])
            · subst hl
              refine ⟨s', n' + 1, e6, e4, fun t ht => ?_⟩
              rcases Nat.lt_or_ge t (n' + 1) with h | h
              · exact e5 t (by omega)
              · have : s' + t = k := by omega
                rw [this]; exact ⟨hb, fun _ => hjk⟩
          · rw [hr, ← h2, hb]; simp [allA]
          · cases hl; exact ⟨s', n' + 1, e6, by omega⟩
        | false =>
          simp only [grpS, cond_true, cond_false]
          refine ⟨fun l hl => ?_, ?_, fun l hl _ _ => ?_⟩
          · simp only [allA, List.mem_append, List.mem_singleton] at hl
            rcases hl with (hl | hl) | hl
            · exact h1 l (by simp [allA, hl])
            · exact h1 l (by simp [allA, hl])
            · subst hl; exact new hjk
          · rw [hr, ← h2, hb]; simp [allA]
          · cases hl; exact one
theorem parts_iv (L : List Con) : GrpIv (oddB L) (joinB L) L.length (partsA L L.length) := by
  refine grp_iv (fun k h => ?_) (by simp [joinB]) _
  unfold joinB at h
  simp only [Bool.and_eq_true, Nat.add_sub_cancel] at h
  exact h.2.1
end Go.Proofs.YtkkmlbhmcdoibaaGreatDoor.S

namespace Go.Proofs.YtkkmlbhmcdoibaaGreatDoor.S
open Go.QfSy Go.RowKit
theorem hasI_iff {x : Int} : ∀ {l : List Int}, hasI x l = true ↔ x ∈ l
  | [] => by simp [hasI]
  | y :: l => by
    simp only [hasI, Bool.or_eq_true, beq_iff_eq, List.mem_cons, hasI_iff (l := l)]
    constructor
    · rintro (h | h)
      · exact .inl h.symm
      · exact .inr h
    · rintro (h | h)
      · exact .inl h.symm
      · exact .inr h
theorem findR_spec {x : Int} : ∀ {P : List (List Int)}, x ∈ P.flatten → findR x P ∈ P ∧ x ∈ findR x P
  | [], h => by simp at h
  | l :: P, h => by
    simp only [findR]
    cases hl : hasI x l with
    | true => exact ⟨by simp, hasI_iff.1 hl⟩
    | false =>
      have : x ∈ P.flatten := by
        simp only [List.flatten_cons, List.mem_append] at h
        rcases h with h | h
        · rw [hasI_iff.2 h] at hl; cases hl
        · exact h
      obtain ⟨h1, h2⟩ := findR_spec this
      exact ⟨by simp [h1], h2⟩
theorem anyR_iff {x : Int} : ∀ {P : List (List Int)}, anyR x P = true ↔ x ∈ P.flatten
  | [] => by simp [anyR]
  | l :: P => by simp only [anyR, Bool.or_eq_true, List.flatten_cons, List.mem_append, hasI_iff, anyR_iff (P := P)]
theorem mem_parts {L : List Con} {i : Nat} : (i : Int) ∈ (partsM L).flatten ↔ i < L.length ∧ oddB L i = true := by
  unfold partsM
  rw [(parts_iv L).flat]
  simp only [List.mem_map, List.mem_filter, List.mem_range]
  constructor
  · rintro ⟨k, h1, h2⟩
    have h3 : ((k : Nat) : Int) = (i : Int) := h2
    have : k = i := by omega
    subst this; exact h1
  · intro h
    exact ⟨i, h, rfl⟩
theorem partM_even {L : List Con} {i : Nat} (h : ¬ (i < L.length ∧ oddB L i = true)) : partM L i = [] := by
  refine findR_none ?_
  cases ha : anyR (i : Int) (partsM L) with
  | false => rfl
  | true => exact absurd (mem_parts.1 (anyR_iff.1 ha)) h
theorem partM_odd {L : List Con} {i : Nat} (h : i < L.length) (ho : oddB L i = true) : partM L i ∈ partsM L ∧ (i : Int) ∈ partM L i := findR_spec (mem_parts.2 ⟨h, ho⟩)
theorem part_row {L : List Con} {l : List Int} (h : l ∈ partsM L) : rowOk (oddB L) (joinB L) l := (parts_iv L).rows l h
theorem part_iv {L : List Con} {i : Nat} (h : i < L.length) (ho : oddB L i = true) : ∃ s n t, partM L i = ivN s (n + 1) ∧ i = s + t ∧ t ≤ n ∧ joinB L s = false ∧ ∀ u, u ≤ n → oddB L (s + u) = true ∧ (0 < u → joinB L (s + u) = true) := by
  obtain ⟨h1, h2⟩ := partM_odd h ho
  obtain ⟨s, n, e, hs, hr⟩ := part_row h1
  rw [e, mem_ivN] at h2
  exact ⟨s, n, i - s, e, by omega, by omega, hs, hr⟩
theorem part_first {L : List Con} {i : Nat} (h : i < L.length) (ho : oddB L i = true) : (partM L i).getD 0 0 = (i : Int) ↔ joinB L i = false := by
  obtain ⟨s, n, t, e, h1, h2, h3, h4⟩ := part_iv h ho
  rw [e, getD_ivN (by omega), Nat.add_zero]
  constructor
  · intro h5
    have : i = s := by omega
    rw [this]; exact h3
  · intro h5
    rcases Nat.eq_zero_or_pos t with h6 | h6
    · subst h6; rw [h1]; simp
    · have := (h4 t h2).2 h6
      rw [← h1, h5] at this; cases this
theorem findR_eq {x : Int} : ∀ {P : List (List Int)} {l : List Int}, P.flatten.Nodup → l ∈ P → x ∈ l → findR x P = l
  | [], l, _, h, _ => by simp at h
  | m :: P, l, hn, h, hx => by
    simp only [List.flatten_cons] at hn
    have hd := List.nodup_append.1 hn
    simp only [findR]
    rcases List.mem_cons.1 h with e | h
    · subst e; rw [hasI_iff.2 hx]; rfl
    · have hx2 : x ∈ P.flatten := List.mem_flatten.2 ⟨l, h, hx⟩
      cases hm : hasI x m with
      | true => exact absurd rfl (hd.2.2 x (hasI_iff.1 hm) x hx2)
      | false => exact findR_eq hd.2.1 h hx
theorem parts_nodup (L : List Con) : (partsM L).flatten.Nodup := by
  unfold partsM
  rw [(parts_iv L).flat]
  refine List.Pairwise.map _ (fun a b h => ?_) (List.nodup_range.filter _)
  intro e
  exact h (Int.ofNat.inj e)
theorem part_mem {L : List Con} {l : List Int} {x : Int} (h : l ∈ partsM L) (hx : x ∈ l) : partM L x = l := findR_eq (parts_nodup L) h hx
theorem join_part {L : List Con} {i : Nat} (h : i < L.length) (ho : oddB L i = true) (hj : joinB L i = true) : partM L ((i : Int) - 1) = partM L i := by
  obtain ⟨s, n, t, e, h1, h2, h3, h4⟩ := part_iv h ho
  have ht : 0 < t := by
    rcases Nat.eq_zero_or_pos t with h0 | h0
    · subst h0; rw [Nat.add_zero] at h1; rw [h1, h3] at hj; cases hj
    · exact h0
  refine part_mem (partM_odd h ho).1 ?_
  rw [e, mem_ivN]
  omega
theorem apart_part {L : List Con} {i : Nat} (h : i < L.length) (ho : oddB L i = true) (hj : joinB L i = false) (h0 : 0 < i) (hp : oddB L (i - 1) = true) : (partM L ((i : Int) - 1)).getD 0 0 ≠ (partM L i).getD 0 0 := by
  have e1 := (part_first h ho).2 hj
  obtain ⟨s, n, t, e, h1, h2, h3, h4⟩ := part_iv (i := i - 1) (by omega) hp
  have e2 : ((i - 1 : Nat) : Int) = (i : Int) - 1 := by omega
  rw [e2] at e
  rw [e1, e, getD_ivN (by omega)]
  omega
end Go.Proofs.YtkkmlbhmcdoibaaGreatDoor.S

namespace Go.Proofs.YtkkmlbhmcdoibaaGreatDoor.S
open Go.QfSy Go.RowKit
noncomputable def legalT_v (e d s : Int) (o : Bool) (t : Int) : Bool := (bif decide (e < (0 : Int)) then false else (bif decide (e > (60 : Int)) then false else (bif decide (d < (1 : Int)) then false else (bif decide (d > (8 : Int)) then false else (bif s == (1 : Int) then (bif decide (t < (0 : Int)) then false else (bif decide (t > (7 : Int)) then false else (bif o then (bif (IntKind.i64.wrap (t - d)).tmod (2 : Int) == (0 : Int) then (bif d == (1 : Int) then (bif t == (1 : Int) then true else (t == (7 : Int))) else (bif d == (2 : Int) then (t != (4 : Int)) else true)) else false) else (bif d.tmod (2 : Int) == (0 : Int) then (t == (0 : Int)) else false)))) else (bif s == (-1 : Int) then (bif decide (t < (0 : Int)) then false else (bif decide (t > (7 : Int)) then false else (bif o then (bif (IntKind.i64.wrap (t - d)).tmod (2 : Int) == (0 : Int) then (bif d == (1 : Int) then (bif t == (3 : Int) then true else (t == (5 : Int))) else (bif d == (2 : Int) then (t != (0 : Int)) else true)) else false) else (bif d.tmod (2 : Int) == (0 : Int) then (t == (0 : Int)) else false)))) else false))))))
set_option maxRecDepth 100000 in
theorem legalT (e d s : Int) (o : Bool) (t : Int) : PureC Tryz.prog [] 6 [.agg (Con.mk e d s o t).rvs] (.bool (legalT_v e d s o t)) := by
  have rr := fun (tp : List Bool) (ms : List Prop) h hm => pure_run evOk (callF_ok evOk (noOrc_ok _ _) 8) Tryz.func6 (A := [.agg (Con.mk e d s o t).rvs]) rfl none_ann rfl rfl evNg (tabs := []) (R := .bool (legalT_v e d s o t)) (tp := tp) (ms := ms) h hm
  refine Or.elim (Bool.eq_false_or_eq_true (decide (e < (0 : Int)))) (fun d1 => rr [true] [false = legalT_v e d s o t, Dec (decide (e < (0 : Int))) true] (by kernel_rfl) ⟨(((ct d1).trans rfl) : legalT_v e d s o t = _).symm, d1⟩)
    (fun d1 => Or.elim (Bool.eq_false_or_eq_true (decide (e > (60 : Int)))) (fun d2 => rr [false, true] [false = legalT_v e d s o t, Dec (decide (e > (60 : Int))) true, Dec (decide (e < (0 : Int))) false] (by kernel_rfl) ⟨(((cf d1).trans ((ct d2).trans rfl)) : legalT_v e d s o t = _).symm, d2, d1⟩)
    (fun d2 => Or.elim (Bool.eq_false_or_eq_true (decide (d < (1 : Int)))) (fun d3 => rr [false, false, true] [false = legalT_v e d s o t, Dec (decide (d < (1 : Int))) true, Dec (decide (e > (60 : Int))) false, Dec (decide (e < (0 : Int))) false] (by kernel_rfl) ⟨(((cf d1).trans ((cf d2).trans ((ct d3).trans rfl))) : legalT_v e d s o t = _).symm, d3, d2, d1⟩)
    (fun d3 => Or.elim (Bool.eq_false_or_eq_true (decide (d > (8 : Int)))) (fun d4 => rr [false, false, false, true] [false = legalT_v e d s o t, Dec (decide (d > (8 : Int))) true, Dec (decide (d < (1 : Int))) false, Dec (decide (e > (60 : Int))) false, Dec (decide (e < (0 : Int))) false] (by kernel_rfl) ⟨(((cf d1).trans ((cf d2).trans ((cf d3).trans ((ct d4).trans rfl)))) : legalT_v e d s o t = _).symm, d4, d3, d2, d1⟩)
    (fun d4 => Or.elim (Bool.eq_false_or_eq_true (s == (1 : Int))) (fun d5 => Or.elim (Bool.eq_false_or_eq_true (decide (t < (0 : Int)))) (fun d6 => rr [false, false, false, false, false, true] [false = legalT_v e d s o t, Dec (decide (t < (0 : Int))) true, Dec (s != (1 : Int)) false, Dec (decide (d > (8 : Int))) false, Dec (decide (d < (1 : Int))) false, Dec (decide (e > (60 : Int))) false, Dec (decide (e < (0 : Int))) false] (by kernel_rfl) ⟨(((cf d1).trans ((cf d2).trans ((cf d3).trans ((cf d4).trans ((ct d5).trans ((ct d6).trans rfl)))))) : legalT_v e d s o t = _).symm, d6, (dN d5), d4, d3, d2, d1⟩)
    (fun d6 => Or.elim (Bool.eq_false_or_eq_true (decide (t > (7 : Int)))) (fun d7 => rr [false, false, false, false, false, false, true] [false = legalT_v e d s o t, Dec (decide (t > (7 : Int))) true, Dec (decide (t < (0 : Int))) false, Dec (s != (1 : Int)) false, Dec (decide (d > (8 : Int))) false, Dec (decide (d < (1 : Int))) false, Dec (decide (e > (60 : Int))) false, Dec (decide (e < (0 : Int))) false] (by kernel_rfl) ⟨(((cf d1).trans ((cf d2).trans ((cf d3).trans ((cf d4).trans ((ct d5).trans ((cf d6).trans ((ct d7).trans rfl))))))) : legalT_v e d s o t = _).symm, d7, d6, (dN d5), d4, d3, d2, d1⟩)
    (fun d7 => Or.elim (Bool.eq_false_or_eq_true (o)) (fun d8 => Or.elim (Bool.eq_false_or_eq_true ((IntKind.i64.wrap (t - d)).tmod (2 : Int) == (0 : Int))) (fun d9 => Or.elim (Bool.eq_false_or_eq_true (d == (1 : Int))) (fun d10 => Or.elim (Bool.eq_false_or_eq_true (t == (1 : Int))) (fun d11 => rr [false, false, false, false, false, false, false, false, false, true, true, true] [true = legalT_v e d s o t, Dec (t == (1 : Int)) true, Dec (s == (1 : Int)) true, Dec (d == (1 : Int)) true, Dec ((IntKind.i64.wrap (t - d)).tmod (2 : Int) != (0 : Int)) false, (2 : Int) ≠ (0 : Int), Dec (!o) false, Dec (decide (t > (7 : Int))) false, Dec (decide (t < (0 : Int))) false, Dec (s != (1 : Int)) false, Dec (decide (d > (8 : Int))) false, Dec (decide (d < (1 : Int))) false, Dec (decide (e > (60 : Int))) false, Dec (decide (e < (0 : Int))) false] (by kernel_rfl) ⟨(((cf d1).trans ((cf d2).trans ((cf d3).trans ((cf d4).trans ((ct d5).trans ((cf d6).trans ((cf d7).trans ((ct d8).trans ((ct d9).trans ((ct d10).trans ((ct d11).trans rfl))))))))))) : legalT_v e d s o t = _).symm, d11, d5, d10, (dN d9), ?_, (dN d8), d7, d6, (dN d5), d4, d3, d2, d1⟩)
    (fun d11 => rr [false, false, false, false, false, false, false, false, false, true, true, false] [(t == (7 : Int)) = legalT_v e d s o t, Dec (t == (1 : Int)) false, Dec (s == (1 : Int)) true, Dec (d == (1 : Int)) true, Dec ((IntKind.i64.wrap (t - d)).tmod (2 : Int) != (0 : Int)) false, (2 : Int) ≠ (0 : Int), Dec (!o) false, Dec (decide (t > (7 : Int))) false, Dec (decide (t < (0 : Int))) false, Dec (s != (1 : Int)) false, Dec (decide (d > (8 : Int))) false, Dec (decide (d < (1 : Int))) false, Dec (decide (e > (60 : Int))) false, Dec (decide (e < (0 : Int))) false] (by kernel_rfl) ⟨(((cf d1).trans ((cf d2).trans ((cf d3).trans ((cf d4).trans ((ct d5).trans ((cf d6).trans ((cf d7).trans ((ct d8).trans ((ct d9).trans ((ct d10).trans ((cf d11).trans rfl))))))))))) : legalT_v e d s o t = _).symm, d11, d5, d10, (dN d9), ?_, (dN d8), d7, d6, (dN d5), d4, d3, d2, d1⟩))
    (fun d10 => Or.elim (Bool.eq_false_or_eq_true (d == (2 : Int))) (fun d11 => rr [false, false, false, false, false, false, false, false, false, false, false, true, true] [(t != (4 : Int)) = legalT_v e d s o t, Dec (s == (1 : Int)) true, Dec (d == (2 : Int)) true, Dec (d == (1 : Int)) false, Dec (d == (1 : Int)) false, Dec ((IntKind.i64.wrap (t - d)).tmod (2 : Int) != (0 : Int)) false, (2 : Int) ≠ (0 : Int), Dec (!o) false, Dec (decide (t > (7 : Int))) false, Dec (decide (t < (0 : Int))) false, Dec (s != (1 : Int)) false, Dec (decide (d > (8 : Int))) false, Dec (decide (d < (1 : Int))) false, Dec (decide (e > (60 : Int))) false, Dec (decide (e < (0 : Int))) false] (by kernel_rfl) ⟨(((cf d1).trans ((cf d2).trans ((cf d3).trans ((cf d4).trans ((ct d5).trans ((cf d6).trans ((cf d7).trans ((ct d8).trans ((ct d9).trans ((cf d10).trans ((ct d11).trans rfl))))))))))) : legalT_v e d s o t = _).symm, d5, d11, d10, d10, (dN d9), ?_, (dN d8), d7, d6, (dN d5), d4, d3, d2, d1⟩)
    (fun d11 => rr [false, false, false, false, false, false, false, false, false, false, false, false, false] [true = legalT_v e d s o t, Dec (d == (2 : Int)) false, Dec (d == (2 : Int)) false, Dec (d == (1 : Int)) false, Dec (d == (1 : Int)) false, Dec ((IntKind.i64.wrap (t - d)).tmod (2 : Int) != (0 : Int)) false, (2 : Int) ≠ (0 : Int), Dec (!o) false, Dec (decide (t > (7 : Int))) false, Dec (decide (t < (0 : Int))) false, Dec (s != (1 : Int)) false, Dec (decide (d > (8 : Int))) false, Dec (decide (d < (1 : Int))) false, Dec (decide (e > (60 : Int))) false, Dec (decide (e < (0 : Int))) false] (by kernel_rfl) ⟨(((cf d1).trans ((cf d2).trans ((cf d3).trans ((cf d4).trans ((ct d5).trans ((cf d6).trans ((cf d7).trans ((ct d8).trans ((ct d9).trans ((cf d10).trans ((cf d11).trans rfl))))))))))) : legalT_v e d s o t = _).symm, d11, d11, d10, d10, (dN d9), ?_, (dN d8), d7, d6, (dN d5), d4, d3, d2, d1⟩)))
    (fun d9 => rr [false, false, false, false, false, false, false, false, true] [false = legalT_v e d s o t, Dec ((IntKind.i64.wrap (t - d)).tmod (2 : Int) != (0 : Int)) true, (2 : Int) ≠ (0 : Int), Dec (!o) false, Dec (decide (t > (7 : Int))) false, Dec (decide (t < (0 : Int))) false, Dec (s != (1 : Int)) false, Dec (decide (d > (8 : Int))) false, Dec (decide (d < (1 : Int))) false, Dec (decide (e > (60 : Int))) false, Dec (decide (e < (0 : Int))) false] (by kernel_rfl) ⟨(((cf d1).trans ((cf d2).trans ((cf d3).trans ((cf d4).trans ((ct d5).trans ((cf d6).trans ((cf d7).trans ((ct d8).trans ((cf d9).trans rfl))))))))) : legalT_v e d s o t = _).symm, (dN d9), ?_, (dN d8), d7, d6, (dN d5), d4, d3, d2, d1⟩))
    (fun d8 => Or.elim (Bool.eq_false_or_eq_true (d.tmod (2 : Int) == (0 : Int))) (fun d9 => rr [false, false, false, false, false, false, false, true, true] [(t == (0 : Int)) = legalT_v e d s o t, Dec (d.tmod (2 : Int) == (0 : Int)) true, (2 : Int) ≠ (0 : Int), Dec (!o) true, Dec (decide (t > (7 : Int))) false, Dec (decide (t < (0 : Int))) false, Dec (s != (1 : Int)) false, Dec (decide (d > (8 : Int))) false, Dec (decide (d < (1 : Int))) false, Dec (decide (e > (60 : Int))) false, Dec (decide (e < (0 : Int))) false] (by kernel_rfl) ⟨(((cf d1).trans ((cf d2).trans ((cf d3).trans ((cf d4).trans ((ct d5).trans ((cf d6).trans ((cf d7).trans ((cf d8).trans ((ct d9).trans rfl))))))))) : legalT_v e d s o t = _).symm, d9, ?_, (dN d8), d7, d6, (dN d5), d4, d3, d2, d1⟩)
    (fun d9 => rr [false, false, false, false, false, false, false, true, false] [false = legalT_v e d s o t, Dec (d.tmod (2 : Int) == (0 : Int)) false, (2 : Int) ≠ (0 : Int), Dec (!o) true, Dec (decide (t > (7 : Int))) false, Dec (decide (t < (0 : Int))) false, Dec (s != (1 : Int)) false, Dec (decide (d > (8 : Int))) false, Dec (decide (d < (1 : Int))) false, Dec (decide (e > (60 : Int))) false, Dec (decide (e < (0 : Int))) false] (by kernel_rfl) ⟨(((cf d1).trans ((cf d2).trans ((cf d3).trans ((cf d4).trans ((ct d5).trans ((cf d6).trans ((cf d7).trans ((cf d8).trans ((cf d9).trans rfl))))))))) : legalT_v e d s o t = _).symm, d9, ?_, (dN d8), d7, d6, (dN d5), d4, d3, d2, d1⟩)))))
    (fun d5 => Or.elim (Bool.eq_false_or_eq_true (s == (-1 : Int))) (fun d6 => Or.elim (Bool.eq_false_or_eq_true (decide (t < (0 : Int)))) (fun d7 => rr [false, false, false, false, true, false, true] [false = legalT_v e d s o t, Dec (decide (t < (0 : Int))) true, Dec (s != (-1 : Int)) false, Dec (s != (1 : Int)) true, Dec (decide (d > (8 : Int))) false, Dec (decide (d < (1 : Int))) false, Dec (decide (e > (60 : Int))) false, Dec (decide (e < (0 : Int))) false] (by kernel_rfl) ⟨(((cf d1).trans ((cf d2).trans ((cf d3).trans ((cf d4).trans ((cf d5).trans ((ct d6).trans ((ct d7).trans rfl))))))) : legalT_v e d s o t = _).symm, d7, (dN d6), (dN d5), d4, d3, d2, d1⟩)
    (fun d7 => Or.elim (Bool.eq_false_or_eq_true (decide (t > (7 : Int)))) (fun d8 => rr [false, false, false, false, true, false, false, true] [false = legalT_v e d s o t, Dec (decide (t > (7 : Int))) true, Dec (decide (t < (0 : Int))) false, Dec (s != (-1 : Int)) false, Dec (s != (1 : Int)) true, Dec (decide (d > (8 : Int))) false, Dec (decide (d < (1 : Int))) false, Dec (decide (e > (60 : Int))) false, Dec (decide (e < (0 : Int))) false] (by kernel_rfl) ⟨(((cf d1).trans ((cf d2).trans ((cf d3).trans ((cf d4).trans ((cf d5).trans ((ct d6).trans ((cf d7).trans ((ct d8).trans rfl)))))))) : legalT_v e d s o t = _).symm, d8, d7, (dN d6), (dN d5), d4, d3, d2, d1⟩)
    (fun d8 => Or.elim (Bool.eq_false_or_eq_true (o)) (fun d9 => Or.elim (Bool.eq_false_or_eq_true ((IntKind.i64.wrap (t - d)).tmod (2 : Int) == (0 : Int))) (fun d10 => Or.elim (Bool.eq_false_or_eq_true (d == (1 : Int))) (fun d11 => Or.elim (Bool.eq_false_or_eq_true (t == (3 : Int))) (fun d12 => rr [false, false, false, false, true, false, false, false, false, false, true, false, true, true] [true = legalT_v e d s o t, Dec (t == (3 : Int)) true, Dec (d == (1 : Int)) true, Dec (s == (1 : Int)) false, Dec (d == (1 : Int)) true, Dec ((IntKind.i64.wrap (t - d)).tmod (2 : Int) != (0 : Int)) false, (2 : Int) ≠ (0 : Int), Dec (!o) false, Dec (decide (t > (7 : Int))) false, Dec (decide (t < (0 : Int))) false, Dec (s != (-1 : Int)) false, Dec (s != (1 : Int)) true, Dec (decide (d > (8 : Int))) false, Dec (decide (d < (1 : Int))) false, Dec (decide (e > (60 : Int))) false, Dec (decide (e < (0 : Int))) false] (by kernel_rfl) ⟨(((cf d1).trans ((cf d2).trans ((cf d3).trans ((cf d4).trans ((cf d5).trans ((ct d6).trans ((cf d7).trans ((cf d8).trans ((ct d9).trans ((ct d10).trans ((ct d11).trans ((ct d12).trans rfl)))))))))))) : legalT_v e d s o t = _).symm, d12, d11, d5, d11, (dN d10), ?_, (dN d9), d8, d7, (dN d6), (dN d5), d4, d3, d2, d1⟩)
    (fun d12 => rr [false, false, false, false, true, false, false, false, false, false, true, false, true, false] [(t == (5 : Int)) = legalT_v e d s o t, Dec (t == (3 : Int)) false, Dec (d == (1 : Int)) true, Dec (s == (1 : Int)) false, Dec (d == (1 : Int)) true, Dec ((IntKind.i64.wrap (t - d)).tmod (2 : Int) != (0 : Int)) false, (2 : Int) ≠ (0 : Int), Dec (!o) false, Dec (decide (t > (7 : Int))) false, Dec (decide (t < (0 : Int))) false, Dec (s != (-1 : Int)) false, Dec (s != (1 : Int)) true, Dec (decide (d > (8 : Int))) false, Dec (decide (d < (1 : Int))) false, Dec (decide (e > (60 : Int))) false, Dec (decide (e < (0 : Int))) false] (by kernel_rfl) ⟨(((cf d1).trans ((cf d2).trans ((cf d3).trans ((cf d4).trans ((cf d5).trans ((ct d6).trans ((cf d7).trans ((cf d8).trans ((ct d9).trans ((ct d10).trans ((ct d11).trans ((cf d12).trans rfl)))))))))))) : legalT_v e d s o t = _).symm, d12, d11, d5, d11, (dN d10), ?_, (dN d9), d8, d7, (dN d6), (dN d5), d4, d3, d2, d1⟩))
    (fun d11 => Or.elim (Bool.eq_false_or_eq_true (d == (2 : Int))) (fun d12 => rr [false, false, false, false, true, false, false, false, false, false, false, false, true, false, true] [(t != (0 : Int)) = legalT_v e d s o t, Dec (d == (2 : Int)) true, Dec (s == (1 : Int)) false, Dec (d == (2 : Int)) true, Dec (d == (1 : Int)) false, Dec (d == (1 : Int)) false, Dec ((IntKind.i64.wrap (t - d)).tmod (2 : Int) != (0 : Int)) false, (2 : Int) ≠ (0 : Int), Dec (!o) false, Dec (decide (t > (7 : Int))) false, Dec (decide (t < (0 : Int))) false, Dec (s != (-1 : Int)) false, Dec (s != (1 : Int)) true, Dec (decide (d > (8 : Int))) false, Dec (decide (d < (1 : Int))) false, Dec (decide (e > (60 : Int))) false, Dec (decide (e < (0 : Int))) false] (by kernel_rfl) ⟨(((cf d1).trans ((cf d2).trans ((cf d3).trans ((cf d4).trans ((cf d5).trans ((ct d6).trans ((cf d7).trans ((cf d8).trans ((ct d9).trans ((ct d10).trans ((cf d11).trans ((ct d12).trans rfl)))))))))))) : legalT_v e d s o t = _).symm, d12, d5, d12, d11, d11, (dN d10), ?_, (dN d9), d8, d7, (dN d6), (dN d5), d4, d3, d2, d1⟩)
    (fun d12 => rr [false, false, false, false, true, false, false, false, false, false, false, false, false, false] [true = legalT_v e d s o t, Dec (d == (2 : Int)) false, Dec (d == (2 : Int)) false, Dec (d == (1 : Int)) false, Dec (d == (1 : Int)) false, Dec ((IntKind.i64.wrap (t - d)).tmod (2 : Int) != (0 : Int)) false, (2 : Int) ≠ (0 : Int), Dec (!o) false, Dec (decide (t > (7 : Int))) false, Dec (decide (t < (0 : Int))) false, Dec (s != (-1 : Int)) false, Dec (s != (1 : Int)) true, Dec (decide (d > (8 : Int))) false, Dec (decide (d < (1 : Int))) false, Dec (decide (e > (60 : Int))) false, Dec (decide (e < (0 : Int))) false] (by kernel_rfl) ⟨(((cf d1).trans ((cf d2).trans ((cf d3).trans ((cf d4).trans ((cf d5).trans ((ct d6).trans ((cf d7).trans ((cf d8).trans ((ct d9).trans ((ct d10).trans ((cf d11).trans ((cf d12).trans rfl)))))))))))) : legalT_v e d s o t = _).symm, d12, d12, d11, d11, (dN d10), ?_, (dN d9), d8, d7, (dN d6), (dN d5), d4, d3, d2, d1⟩)))
    (fun d10 => rr [false, false, false, false, true, false, false, false, false, true] [false = legalT_v e d s o t, Dec ((IntKind.i64.wrap (t - d)).tmod (2 : Int) != (0 : Int)) true, (2 : Int) ≠ (0 : Int), Dec (!o) false, Dec (decide (t > (7 : Int))) false, Dec (decide (t < (0 : Int))) false, Dec (s != (-1 : Int)) false, Dec (s != (1 : Int)) true, Dec (decide (d > (8 : Int))) false, Dec (decide (d < (1 : Int))) false, Dec (decide (e > (60 : Int))) false, Dec (decide (e < (0 : Int))) false] (by kernel_rfl) ⟨(((cf d1).trans ((cf d2).trans ((cf d3).trans ((cf d4).trans ((cf d5).trans ((ct d6).trans ((cf d7).trans ((cf d8).trans ((ct d9).trans ((cf d10).trans rfl)))))))))) : legalT_v e d s o t = _).symm, (dN d10), ?_, (dN d9), d8, d7, (dN d6), (dN d5), d4, d3, d2, d1⟩))
    (fun d9 => Or.elim (Bool.eq_false_or_eq_true (d.tmod (2 : Int) == (0 : Int))) (fun d10 => rr [false, false, false, false, true, false, false, false, true, true] [(t == (0 : Int)) = legalT_v e d s o t, Dec (d.tmod (2 : Int) == (0 : Int)) true, (2 : Int) ≠ (0 : Int), Dec (!o) true, Dec (decide (t > (7 : Int))) false, Dec (decide (t < (0 : Int))) false, Dec (s != (-1 : Int)) false, Dec (s != (1 : Int)) true, Dec (decide (d > (8 : Int))) false, Dec (decide (d < (1 : Int))) false, Dec (decide (e > (60 : Int))) false, Dec (decide (e < (0 : Int))) false] (by kernel_rfl) ⟨(((cf d1).trans ((cf d2).trans ((cf d3).trans ((cf d4).trans ((cf d5).trans ((ct d6).trans ((cf d7).trans ((cf d8).trans ((cf d9).trans ((ct d10).trans rfl)))))))))) : legalT_v e d s o t = _).symm, d10, ?_, (dN d9), d8, d7, (dN d6), (dN d5), d4, d3, d2, d1⟩)
    (fun d10 => rr [false, false, false, false, true, false, false, false, true, false] [false = legalT_v e d s o t, Dec (d.tmod (2 : Int) == (0 : Int)) false, (2 : Int) ≠ (0 : Int), Dec (!o) true, Dec (decide (t > (7 : Int))) false, Dec (decide (t < (0 : Int))) false, Dec (s != (-1 : Int)) false, Dec (s != (1 : Int)) true, Dec (decide (d > (8 : Int))) false, Dec (decide (d < (1 : Int))) false, Dec (decide (e > (60 : Int))) false, Dec (decide (e < (0 : Int))) false] (by kernel_rfl) ⟨(((cf d1).trans ((cf d2).trans ((cf d3).trans ((cf d4).trans ((cf d5).trans ((ct d6).trans ((cf d7).trans ((cf d8).trans ((cf d9).trans ((cf d10).trans rfl)))))))))) : legalT_v e d s o t = _).symm, d10, ?_, (dN d9), d8, d7, (dN d6), (dN d5), d4, d3, d2, d1⟩)))))
    (fun d6 => rr [false, false, false, false, true, true] [false = legalT_v e d s o t, Dec (s != (-1 : Int)) true, Dec (s != (1 : Int)) true, Dec (decide (d > (8 : Int))) false, Dec (decide (d < (1 : Int))) false, Dec (decide (e > (60 : Int))) false, Dec (decide (e < (0 : Int))) false] (by kernel_rfl) ⟨(((cf d1).trans ((cf d2).trans ((cf d3).trans ((cf d4).trans ((cf d5).trans ((cf d6).trans rfl)))))) : legalT_v e d s o t = _).symm, (dN d6), (dN d5), d4, d3, d2, d1⟩))))))
  all_goals first | (decide)
noncomputable def legalR_v (e d s : Int) (o : Bool) (t : Int) : Bool := (bif decide (e < (0 : Int)) then false else (bif decide (e > (60 : Int)) then false else (bif decide (d < (1 : Int)) then false else (bif decide (d > (8 : Int)) then false else (bif s == (1 : Int) then (bif decide (t < (0 : Int)) then false else (bif decide (t > (7 : Int)) then false else (bif o then (bif (IntKind.i64.wrap (t - d)).tmod (2 : Int) == (0 : Int) then (bif d == (1 : Int) then (bif t == (1 : Int) then true else (t == (7 : Int))) else (bif d == (2 : Int) then (t != (4 : Int)) else true)) else false) else (bif d.tmod (2 : Int) == (0 : Int) then (t == (0 : Int)) else false)))) else (bif s == (-1 : Int) then (bif decide (t < (0 : Int)) then false else (bif decide (t > (7 : Int)) then false else (bif o then (bif (IntKind.i64.wrap (t - d)).tmod (2 : Int) == (0 : Int) then (bif d == (1 : Int) then (bif t == (3 : Int) then true else (t == (5 : Int))) else (bif d == (2 : Int) then (t != (0 : Int)) else true)) else false) else (bif d.tmod (2 : Int) == (0 : Int) then (t == (0 : Int)) else false)))) else false))))))
end Go.Proofs.YtkkmlbhmcdoibaaGreatDoor.S

namespace Go.Proofs.YtkkmlbhmcdoibaaGreatDoor.S
open Go.QfSy Go.RowKit
end Go.Proofs.YtkkmlbhmcdoibaaGreatDoor.S

