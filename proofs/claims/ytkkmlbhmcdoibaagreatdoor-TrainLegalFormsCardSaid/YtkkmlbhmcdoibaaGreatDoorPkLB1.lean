/- A part of the proof of the laws: Y0, YO, YT, Y2. -/
import Derived.Test.YtkkmlbhmcdoibaaGreatDoorPkLM3
import Derived.Test.YtkkmlbhmcdoibaaGreatDoorChecked
import Derived.Lib.SmallJoins
import Derived.WideKeyArgs
import Derived.Deep.Slices
import Derived.OpenShut
import Derived.ChangeSame
import Derived.Lib.LaidTab
import Derived.ProofKit
import Derived.Deep.DeepHandedRow
import Derived.Test.YtkkmlbhmcdoibaaGreatDoorRows
import Derived.Test.YtkkmlbhmcdoibaaGreatDoorTie
import Derived.Test.YtkkmlbhmcdoibaaGreatDoorCards
import Derived.Stop.LaidErr
set_option linter.unusedSimpArgs false
set_option linter.unusedVariables false
namespace Go.Proofs.YtkkmlbhmcdoibaaGreatDoor.S
open Go.QfSy Go.RowKit
theorem tyLen : Nat.blt Tryz.prog.types.toList.length 1000000 = true := by kernel_rfl
theorem fnLen : Nat.blt Tryz.prog.funcs.toList.length 1000000 = true := by kernel_rfl
theorem fnNames : Tryz.prog.funcs.toList.all (fun fn => !(fn.name == "runtime.NumGoroutine")) = true := by kernel_rfl
theorem noesc (x : Value) (w : World) : (callFunc 76 #[x]).run Tryz.prog w = .ok (.value x) w := by kernel_rfl
set_option maxRecDepth 100000 in
noncomputable def tiTr : Tr TypeInfo := (.node (some (Tryz.prog.types.toList.getD 0 default)) (.node (some (Tryz.prog.types.toList.getD 1 default)) (.node (some (Tryz.prog.types.toList.getD 3 default)) (.node (some (Tryz.prog.types.toList.getD 7 default)) (.node (some (Tryz.prog.types.toList.getD 15 default)) (.node (some (Tryz.prog.types.toList.getD 31 default)) (.node (some (Tryz.prog.types.toList.getD 63 default)) (.node (some (Tryz.prog.types.toList.getD 127 default)) .nil .nil) (.node (some (Tryz.prog.types.toList.getD 191 default)) .nil .nil)) (.node (some (Tryz.prog.types.toList.getD 95 default)) (.node (some (Tryz.prog.types.toList.getD 159 default)) .nil .nil) .nil)) (.node (some (Tryz.prog.types.toList.getD 47 default)) (.node (some (Tryz.prog.types.toList.getD 79 default)) (.node (some (Tryz.prog.types.toList.getD 143 default)) .nil .nil) .nil) (.node (some (Tryz.prog.types.toList.getD 111 default)) (.node (some (Tryz.prog.types.toList.getD 175 default)) .nil .nil) .nil))) (.node (some (Tryz.prog.types.toList.getD 23 default)) (.node (some (Tryz.prog.types.toList.getD 39 default)) (.node (some (Tryz.prog.types.toList.getD 71 default)) (.node (some (Tryz.prog.types.toList.getD 135 default)) .nil .nil) (.node (some (Tryz.prog.types.toList.getD 199 default)) .nil .nil)) (.node (some (Tryz.prog.types.toList.getD 103 default)) (.node (some (Tryz.prog.types.toList.getD 167 default)) .nil .nil) .nil)) (.node (some (Tryz.prog.types.toList.getD 55 default)) (.node (some (Tryz.prog.types.toList.getD 87 default)) (.node (some (Tryz.prog.types.toList.getD 151 default)) .nil .nil) .nil) (.node (some (Tryz.prog.types.toList.getD 119 default)) (.node (some (Tryz.prog.types.toList.getD 183 default)) .nil .nil) .nil)))) (.node (some (Tryz.prog.types.toList.getD 11 default)) (.node (some (Tryz.prog.types.toList.getD 19 default)) (.node (some (Tryz.prog.types.toList.getD 35 default)) (.node (some (Tryz.prog.types.toList.getD 67 default)) (.node (some (Tryz.prog.types.toList.getD 131 default)) .nil .nil) (.node (some (Tryz.prog.types.toList.getD 195 default)) .nil .nil)) (.node (some (Tryz.prog.types.toList.getD 99 default)) (.node (some (Tryz.prog.types.toList.getD 163 default)) .nil .nil) .nil)) (.node (some (Tryz.prog.types.toList.getD 51 default)) (.node (some (Tryz.prog.types.toList.getD 83 default)) (.node (some (Tryz.prog.types.toList.getD 147 default)) .nil .nil) .nil) (.node (some (Tryz.prog.types.toList.getD 115 default)) (.node (some (Tryz.prog.types.toList.getD 179 default)) .nil .nil) .nil))) (.node (some (Tryz.prog.types.toList.getD 27 default)) (.node (some (Tryz.prog.types.toList.getD 43 default)) (.node (some (Tryz.prog.types.toList.getD 75 default)) (.node (some (Tryz.prog.types.toList.getD 139 default)) .nil .nil) (.node (some (Tryz.prog.types.toList.getD 203 default)) .nil .nil)) (.node (some (Tryz.prog.types.toList.getD 107 default)) (.node (some (Tryz.prog.types.toList.getD 171 default)) .nil .nil) .nil)) (.node (some (Tryz.prog.types.toList.getD 59 default)) (.node (some (Tryz.prog.types.toList.getD 91 default)) (.node (some (Tryz.prog.types.toList.getD 155 default)) .nil .nil) .nil) (.node (some (Tryz.prog.types.toList.getD 123 default)) (.node (some (Tryz.prog.types.toList.getD 187 default)) .nil .nil) .nil))))) (.node (some (Tryz.prog.types.toList.getD 5 default)) (.node (some (Tryz.prog.types.toList.getD 9 default)) (.node (some (Tryz.prog.types.toList.getD 17 default)) (.node (some (Tryz.prog.types.toList.getD 33 default)) (.node (some (Tryz.prog.types.toList.getD 65 default)) (.node (some (Tryz.prog.types.toList.getD 129 default)) .nil .nil) (.node (some (Tryz.prog.types.toList.getD 193 default)) .nil .nil)) (.node (some (Tryz.prog.types.toList.getD 97 default)) (.node (some (Tryz.prog.types.toList.getD 161 default)) .nil .nil) .nil)) (.node (some (Tryz.prog.types.toList.getD 49 default)) (.node (some (Tryz.prog.types.toList.getD 81 default)) (.node (some (Tryz.prog.types.toList.getD 145 default)) .nil .nil) .nil) (.node (some (Tryz.prog.types.toList.getD 113 default)) (.node (some (Tryz.prog.types.toList.getD 177 default)) .nil .nil) .nil))) (.node (some (Tryz.prog.types.toList.getD 25 default)) (.node (some (Tryz.prog.types.toList.getD 41 default)) (.node (some (Tryz.prog.types.toList.getD 73 default)) (.node (some (Tryz.prog.types.toList.getD 137 default)) .nil .nil) (.node (some (Tryz.prog.types.toList.getD 201 default)) .nil .nil)) (.node (some (Tryz.prog.types.toList.getD 105 default)) (.node (some (Tryz.prog.types.toList.getD 169 default)) .nil .nil) .nil)) (.node (some (Tryz.prog.types.toList.getD 57 default)) (.node (some (Tryz.prog.types.toList.getD 89 default)) (.node (some (Tryz.prog.types.toList.getD 153 default)) .nil .nil) .nil) (.node (some (Tryz.prog.types.toList.getD 121 default)) (.node (some (Tryz.prog.types.toList.getD 185 default)) .nil .nil) .nil)))) (.node (some (Tryz.prog.types.toList.getD 13 default)) (.node (some (Tryz.prog.types.toList.getD 21 default)) (.node (some (Tryz.prog.types.toList.getD 37 default)) (.node (some (Tryz.prog.types.toList.getD 69 default)) (.node (some (Tryz.prog.types.toList.getD 133 default)) .nil .nil) (.node (some (Tryz.prog.types.toList.getD 197 default)) .nil .nil)) (.node (some (Tryz.prog.types.toList.getD 101 default)) (.node (some (Tryz.prog.types.toList.getD 165 default)) .nil .nil) .nil)) (.node (some (Tryz.prog.types.toList.getD 53 default)) (.node (some (Tryz.prog.types.toList.getD 85 default)) (.node (some (Tryz.prog.types.toList.getD 149 default)) .nil .nil) .nil) (.node (some (Tryz.prog.types.toList.getD 117 default)) (.node (some (Tryz.prog.types.toList.getD 181 default)) .nil .nil) .nil))) (.node (some (Tryz.prog.types.toList.getD 29 default)) (.node (some (Tryz.prog.types.toList.getD 45 default)) (.node (some (Tryz.prog.types.toList.getD 77 default)) (.node (some (Tryz.prog.types.toList.getD 141 default)) .nil .nil) .nil) (.node (some (Tryz.prog.types.toList.getD 109 default)) (.node (some (Tryz.prog.types.toList.getD 173 default)) .nil .nil) .nil)) (.node (some (Tryz.prog.types.toList.getD 61 default)) (.node (some (Tryz.prog.types.toList.getD 93 default)) (.node (some (Tryz.prog.types.toList.getD 157 default)) .nil .nil) .nil) (.node (some (Tryz.prog.types.toList.getD 125 default)) (.node (some (Tryz.prog.types.toList.getD 189 default)) .nil .nil) .nil)))))) (.node (some (Tryz.prog.types.toList.getD 2 default)) (.node (some (Tryz.prog.types.toList.getD 4 default)) (.node (some (Tryz.prog.types.toList.getD 8 default)) (.node (some (Tryz.prog.types.toList.getD 16 default)) (.node (some (Tryz.prog.types.toList.getD 32 default)) (.node (some (Tryz.prog.types.toList.getD 64 default)) (.node (some (Tryz.prog.types.toList.getD 128 default)) .nil .nil) (.node (some (Tryz.prog.types.toList.getD 192 default)) .nil .nil)) (.node (some (Tryz.prog.types.toList.getD 96 default)) (.node (some (Tryz.prog.types.toList.getD 160 default)) .nil .nil) .nil)) (.node (some (Tryz.prog.types.toList.getD 48 default)) (.node (some (Tryz.prog.types.toList.getD 80 default)) (.node (some (Tryz.prog.types.toList.getD 144 default)) .nil .nil) .nil) (.node (some (Tryz.prog.types.toList.getD 112 default)) (.node (some (Tryz.prog.types.toList.getD 176 default)) .nil .nil) .nil))) (.node (some (Tryz.prog.types.toList.getD 24 default)) (.node (some (Tryz.prog.types.toList.getD 40 default)) (.node (some (Tryz.prog.types.toList.getD 72 default)) (.node (some (Tryz.prog.types.toList.getD 136 default)) .nil .nil) (.node (some (Tryz.prog.types.toList.getD 200 default)) .nil .nil)) (.node (some (Tryz.prog.types.toList.getD 104 default)) (.node (some (Tryz.prog.types.toList.getD 168 default)) .nil .nil) .nil)) (.node (some (Tryz.prog.types.toList.getD 56 default)) (.node (some (Tryz.prog.types.toList.getD 88 default)) (.node (some (Tryz.prog.types.toList.getD 152 default)) .nil .nil) .nil) (.node (some (Tryz.prog.types.toList.getD 120 default)) (.node (some (Tryz.prog.types.toList.getD 184 default)) .nil .nil) .nil)))) (.node (some (Tryz.prog.types.toList.getD 12 default)) (.node (some (Tryz.prog.types.toList.getD 20 default)) (.node (some (Tryz.prog.types.toList.getD 36 default)) (.node (some (Tryz.prog.types.toList.getD 68 default)) (.node (some (Tryz.prog.types.toList.getD 132 default)) .nil .nil) (.node (some (Tryz.prog.types.toList.getD 196 default)) .nil .nil)) (.node (some (Tryz.prog.types.toList.getD 100 default)) (.node (some (Tryz.prog.types.toList.getD 164 default)) .nil .nil) .nil)) (.node (some (Tryz.prog.types.toList.getD 52 default)) (.node (some (Tryz.prog.types.toList.getD 84 default)) (.node (some (Tryz.prog.types.toList.getD 148 default)) .nil .nil) .nil) (.node (some (Tryz.prog.types.toList.getD 116 default)) (.node (some (Tryz.prog.types.toList.getD 180 default)) .nil .nil) .nil))) (.node (some (Tryz.prog.types.toList.getD 28 default)) (.node (some (Tryz.prog.types.toList.getD 44 default)) (.node (some (Tryz.prog.types.toList.getD 76 default)) (.node (some (Tryz.prog.types.toList.getD 140 default)) .nil .nil) (.node (some (Tryz.prog.types.toList.getD 204 default)) .nil .nil)) (.node (some (Tryz.prog.types.toList.getD 108 default)) (.node (some (Tryz.prog.types.toList.getD 172 default)) .nil .nil) .nil)) (.node (some (Tryz.prog.types.toList.getD 60 default)) (.node (some (Tryz.prog.types.toList.getD 92 default)) (.node (some (Tryz.prog.types.toList.getD 156 default)) .nil .nil) .nil) (.node (some (Tryz.prog.types.toList.getD 124 default)) (.node (some (Tryz.prog.types.toList.getD 188 default)) .nil .nil) .nil))))) (.node (some (Tryz.prog.types.toList.getD 6 default)) (.node (some (Tryz.prog.types.toList.getD 10 default)) (.node (some (Tryz.prog.types.toList.getD 18 default)) (.node (some (Tryz.prog.types.toList.getD 34 default)) (.node (some (Tryz.prog.types.toList.getD 66 default)) (.node (some (Tryz.prog.types.toList.getD 130 default)) .nil .nil) (.node (some (Tryz.prog.types.toList.getD 194 default)) .nil .nil)) (.node (some (Tryz.prog.types.toList.getD 98 default)) (.node (some (Tryz.prog.types.toList.getD 162 default)) .nil .nil) .nil)) (.node (some (Tryz.prog.types.toList.getD 50 default)) (.node (some (Tryz.prog.types.toList.getD 82 default)) (.node (some (Tryz.prog.types.toList.getD 146 default)) .nil .nil) .nil) (.node (some (Tryz.prog.types.toList.getD 114 default)) (.node (some (Tryz.prog.types.toList.getD 178 default)) .nil .nil) .nil))) (.node (some (Tryz.prog.types.toList.getD 26 default)) (.node (some (Tryz.prog.types.toList.getD 42 default)) (.node (some (Tryz.prog.types.toList.getD 74 default)) (.node (some (Tryz.prog.types.toList.getD 138 default)) .nil .nil) (.node (some (Tryz.prog.types.toList.getD 202 default)) .nil .nil)) (.node (some (Tryz.prog.types.toList.getD 106 default)) (.node (some (Tryz.prog.types.toList.getD 170 default)) .nil .nil) .nil)) (.node (some (Tryz.prog.types.toList.getD 58 default)) (.node (some (Tryz.prog.types.toList.getD 90 default)) (.node (some (Tryz.prog.types.toList.getD 154 default)) .nil .nil) .nil) (.node (some (Tryz.prog.types.toList.getD 122 default)) (.node (some (Tryz.prog.types.toList.getD 186 default)) .nil .nil) .nil)))) (.node (some (Tryz.prog.types.toList.getD 14 default)) (.node (some (Tryz.prog.types.toList.getD 22 default)) (.node (some (Tryz.prog.types.toList.getD 38 default)) (.node (some (Tryz.prog.types.toList.getD 70 default)) (.node (some (Tryz.prog.types.toList.getD 134 default)) .nil .nil) (.node (some (Tryz.prog.types.toList.getD 198 default)) .nil .nil)) (.node (some (Tryz.prog.types.toList.getD 102 default)) (.node (some (Tryz.prog.types.toList.getD 166 default)) .nil .nil) .nil)) (.node (some (Tryz.prog.types.toList.getD 54 default)) (.node (some (Tryz.prog.types.toList.getD 86 default)) (.node (some (Tryz.prog.types.toList.getD 150 default)) .nil .nil) .nil) (.node (some (Tryz.prog.types.toList.getD 118 default)) (.node (some (Tryz.prog.types.toList.getD 182 default)) .nil .nil) .nil))) (.node (some (Tryz.prog.types.toList.getD 30 default)) (.node (some (Tryz.prog.types.toList.getD 46 default)) (.node (some (Tryz.prog.types.toList.getD 78 default)) (.node (some (Tryz.prog.types.toList.getD 142 default)) .nil .nil) .nil) (.node (some (Tryz.prog.types.toList.getD 110 default)) (.node (some (Tryz.prog.types.toList.getD 174 default)) .nil .nil) .nil)) (.node (some (Tryz.prog.types.toList.getD 62 default)) (.node (some (Tryz.prog.types.toList.getD 94 default)) (.node (some (Tryz.prog.types.toList.getD 158 default)) .nil .nil) .nil) (.node (some (Tryz.prog.types.toList.getD 126 default)) (.node (some (Tryz.prog.types.toList.getD 190 default)) .nil .nil) .nil)))))))
set_option maxRecDepth 100000 in
noncomputable def fsTr : Tr Func := (.node (some (Tryz.prog.funcs.toList.getD 0 default)) (.node (some (Tryz.prog.funcs.toList.getD 1 default)) (.node (some (Tryz.prog.funcs.toList.getD 3 default)) (.node (some (Tryz.prog.funcs.toList.getD 7 default)) (.node (some (Tryz.prog.funcs.toList.getD 15 default)) (.node (some (Tryz.prog.funcs.toList.getD 31 default)) (.node (some (Tryz.prog.funcs.toList.getD 63 default)) (.node (some (Tryz.prog.funcs.toList.getD 127 default)) .nil .nil) .nil) (.node (some (Tryz.prog.funcs.toList.getD 95 default)) (.node (some (Tryz.prog.funcs.toList.getD 159 default)) .nil .nil) .nil)) (.node (some (Tryz.prog.funcs.toList.getD 47 default)) (.node (some (Tryz.prog.funcs.toList.getD 79 default)) (.node (some (Tryz.prog.funcs.toList.getD 143 default)) .nil .nil) .nil) (.node (some (Tryz.prog.funcs.toList.getD 111 default)) .nil .nil))) (.node (some (Tryz.prog.funcs.toList.getD 23 default)) (.node (some (Tryz.prog.funcs.toList.getD 39 default)) (.node (some (Tryz.prog.funcs.toList.getD 71 default)) (.node (some (Tryz.prog.funcs.toList.getD 135 default)) .nil .nil) .nil) (.node (some (Tryz.prog.funcs.toList.getD 103 default)) .nil .nil)) (.node (some (Tryz.prog.funcs.toList.getD 55 default)) (.node (some (Tryz.prog.funcs.toList.getD 87 default)) (.node (some (Tryz.prog.funcs.toList.getD 151 default)) .nil .nil) .nil) (.node (some (Tryz.prog.funcs.toList.getD 119 default)) .nil .nil)))) (.node (some (Tryz.prog.funcs.toList.getD 11 default)) (.node (some (Tryz.prog.funcs.toList.getD 19 default)) (.node (some (Tryz.prog.funcs.toList.getD 35 default)) (.node (some (Tryz.prog.funcs.toList.getD 67 default)) (.node (some (Tryz.prog.funcs.toList.getD 131 default)) .nil .nil) .nil) (.node (some (Tryz.prog.funcs.toList.getD 99 default)) .nil .nil)) (.node (some (Tryz.prog.funcs.toList.getD 51 default)) (.node (some (Tryz.prog.funcs.toList.getD 83 default)) (.node (some (Tryz.prog.funcs.toList.getD 147 default)) .nil .nil) .nil) (.node (some (Tryz.prog.funcs.toList.getD 115 default)) .nil .nil))) (.node (some (Tryz.prog.funcs.toList.getD 27 default)) (.node (some (Tryz.prog.funcs.toList.getD 43 default)) (.node (some (Tryz.prog.funcs.toList.getD 75 default)) (.node (some (Tryz.prog.funcs.toList.getD 139 default)) .nil .nil) .nil) (.node (some (Tryz.prog.funcs.toList.getD 107 default)) .nil .nil)) (.node (some (Tryz.prog.funcs.toList.getD 59 default)) (.node (some (Tryz.prog.funcs.toList.getD 91 default)) (.node (some (Tryz.prog.funcs.toList.getD 155 default)) .nil .nil) .nil) (.node (some (Tryz.prog.funcs.toList.getD 123 default)) .nil .nil))))) (.node (some (Tryz.prog.funcs.toList.getD 5 default)) (.node (some (Tryz.prog.funcs.toList.getD 9 default)) (.node (some (Tryz.prog.funcs.toList.getD 17 default)) (.node (some (Tryz.prog.funcs.toList.getD 33 default)) (.node (some (Tryz.prog.funcs.toList.getD 65 default)) (.node (some (Tryz.prog.funcs.toList.getD 129 default)) .nil .nil) .nil) (.node (some (Tryz.prog.funcs.toList.getD 97 default)) (.node (some (Tryz.prog.funcs.toList.getD 161 default)) .nil .nil) .nil)) (.node (some (Tryz.prog.funcs.toList.getD 49 default)) (.node (some (Tryz.prog.funcs.toList.getD 81 default)) (.node (some (Tryz.prog.funcs.toList.getD 145 default)) .nil .nil) .nil) (.node (some (Tryz.prog.funcs.toList.getD 113 default)) .nil .nil))) (.node (some (Tryz.prog.funcs.toList.getD 25 default)) (.node (some (Tryz.prog.funcs.toList.getD 41 default)) (.node (some (Tryz.prog.funcs.toList.getD 73 default)) (.node (some (Tryz.prog.funcs.toList.getD 137 default)) .nil .nil) .nil) (.node (some (Tryz.prog.funcs.toList.getD 105 default)) .nil .nil)) (.node (some (Tryz.prog.funcs.toList.getD 57 default)) (.node (some (Tryz.prog.funcs.toList.getD 89 default)) (.node (some (Tryz.prog.funcs.toList.getD 153 default)) .nil .nil) .nil) (.node (some (Tryz.prog.funcs.toList.getD 121 default)) .nil .nil)))) (.node (some (Tryz.prog.funcs.toList.getD 13 default)) (.node (some (Tryz.prog.funcs.toList.getD 21 default)) (.node (some (Tryz.prog.funcs.toList.getD 37 default)) (.node (some (Tryz.prog.funcs.toList.getD 69 default)) (.node (some (Tryz.prog.funcs.toList.getD 133 default)) .nil .nil) .nil) (.node (some (Tryz.prog.funcs.toList.getD 101 default)) .nil .nil)) (.node (some (Tryz.prog.funcs.toList.getD 53 default)) (.node (some (Tryz.prog.funcs.toList.getD 85 default)) (.node (some (Tryz.prog.funcs.toList.getD 149 default)) .nil .nil) .nil) (.node (some (Tryz.prog.funcs.toList.getD 117 default)) .nil .nil))) (.node (some (Tryz.prog.funcs.toList.getD 29 default)) (.node (some (Tryz.prog.funcs.toList.getD 45 default)) (.node (some (Tryz.prog.funcs.toList.getD 77 default)) (.node (some (Tryz.prog.funcs.toList.getD 141 default)) .nil .nil) .nil) (.node (some (Tryz.prog.funcs.toList.getD 109 default)) .nil .nil)) (.node (some (Tryz.prog.funcs.toList.getD 61 default)) (.node (some (Tryz.prog.funcs.toList.getD 93 default)) (.node (some (Tryz.prog.funcs.toList.getD 157 default)) .nil .nil) .nil) (.node (some (Tryz.prog.funcs.toList.getD 125 default)) .nil .nil)))))) (.node (some (Tryz.prog.funcs.toList.getD 2 default)) (.node (some (Tryz.prog.funcs.toList.getD 4 default)) (.node (some (Tryz.prog.funcs.toList.getD 8 default)) (.node (some (Tryz.prog.funcs.toList.getD 16 default)) (.node (some (Tryz.prog.funcs.toList.getD 32 default)) (.node (some (Tryz.prog.funcs.toList.getD 64 default)) (.node (some (Tryz.prog.funcs.toList.getD 128 default)) .nil .nil) .nil) (.node (some (Tryz.prog.funcs.toList.getD 96 default)) (.node (some (Tryz.prog.funcs.toList.getD 160 default)) .nil .nil) .nil)) (.node (some (Tryz.prog.funcs.toList.getD 48 default)) (.node (some (Tryz.prog.funcs.toList.getD 80 default)) (.node (some (Tryz.prog.funcs.toList.getD 144 default)) .nil .nil) .nil) (.node (some (Tryz.prog.funcs.toList.getD 112 default)) .nil .nil))) (.node (some (Tryz.prog.funcs.toList.getD 24 default)) (.node (some (Tryz.prog.funcs.toList.getD 40 default)) (.node (some (Tryz.prog.funcs.toList.getD 72 default)) (.node (some (Tryz.prog.funcs.toList.getD 136 default)) .nil .nil) .nil) (.node (some (Tryz.prog.funcs.toList.getD 104 default)) .nil .nil)) (.node (some (Tryz.prog.funcs.toList.getD 56 default)) (.node (some (Tryz.prog.funcs.toList.getD 88 default)) (.node (some (Tryz.prog.funcs.toList.getD 152 default)) .nil .nil) .nil) (.node (some (Tryz.prog.funcs.toList.getD 120 default)) .nil .nil)))) (.node (some (Tryz.prog.funcs.toList.getD 12 default)) (.node (some (Tryz.prog.funcs.toList.getD 20 default)) (.node (some (Tryz.prog.funcs.toList.getD 36 default)) (.node (some (Tryz.prog.funcs.toList.getD 68 default)) (.node (some (Tryz.prog.funcs.toList.getD 132 default)) .nil .nil) .nil) (.node (some (Tryz.prog.funcs.toList.getD 100 default)) .nil .nil)) (.node (some (Tryz.prog.funcs.toList.getD 52 default)) (.node (some (Tryz.prog.funcs.toList.getD 84 default)) (.node (some (Tryz.prog.funcs.toList.getD 148 default)) .nil .nil) .nil) (.node (some (Tryz.prog.funcs.toList.getD 116 default)) .nil .nil))) (.node (some (Tryz.prog.funcs.toList.getD 28 default)) (.node (some (Tryz.prog.funcs.toList.getD 44 default)) (.node (some (Tryz.prog.funcs.toList.getD 76 default)) (.node (some (Tryz.prog.funcs.toList.getD 140 default)) .nil .nil) .nil) (.node (some (Tryz.prog.funcs.toList.getD 108 default)) .nil .nil)) (.node (some (Tryz.prog.funcs.toList.getD 60 default)) (.node (some (Tryz.prog.funcs.toList.getD 92 default)) (.node (some (Tryz.prog.funcs.toList.getD 156 default)) .nil .nil) .nil) (.node (some (Tryz.prog.funcs.toList.getD 124 default)) .nil .nil))))) (.node (some (Tryz.prog.funcs.toList.getD 6 default)) (.node (some (Tryz.prog.funcs.toList.getD 10 default)) (.node (some (Tryz.prog.funcs.toList.getD 18 default)) (.node (some (Tryz.prog.funcs.toList.getD 34 default)) (.node (some (Tryz.prog.funcs.toList.getD 66 default)) (.node (some (Tryz.prog.funcs.toList.getD 130 default)) .nil .nil) .nil) (.node (some (Tryz.prog.funcs.toList.getD 98 default)) (.node (some (Tryz.prog.funcs.toList.getD 162 default)) .nil .nil) .nil)) (.node (some (Tryz.prog.funcs.toList.getD 50 default)) (.node (some (Tryz.prog.funcs.toList.getD 82 default)) (.node (some (Tryz.prog.funcs.toList.getD 146 default)) .nil .nil) .nil) (.node (some (Tryz.prog.funcs.toList.getD 114 default)) .nil .nil))) (.node (some (Tryz.prog.funcs.toList.getD 26 default)) (.node (some (Tryz.prog.funcs.toList.getD 42 default)) (.node (some (Tryz.prog.funcs.toList.getD 74 default)) (.node (some (Tryz.prog.funcs.toList.getD 138 default)) .nil .nil) .nil) (.node (some (Tryz.prog.funcs.toList.getD 106 default)) .nil .nil)) (.node (some (Tryz.prog.funcs.toList.getD 58 default)) (.node (some (Tryz.prog.funcs.toList.getD 90 default)) (.node (some (Tryz.prog.funcs.toList.getD 154 default)) .nil .nil) .nil) (.node (some (Tryz.prog.funcs.toList.getD 122 default)) .nil .nil)))) (.node (some (Tryz.prog.funcs.toList.getD 14 default)) (.node (some (Tryz.prog.funcs.toList.getD 22 default)) (.node (some (Tryz.prog.funcs.toList.getD 38 default)) (.node (some (Tryz.prog.funcs.toList.getD 70 default)) (.node (some (Tryz.prog.funcs.toList.getD 134 default)) .nil .nil) .nil) (.node (some (Tryz.prog.funcs.toList.getD 102 default)) .nil .nil)) (.node (some (Tryz.prog.funcs.toList.getD 54 default)) (.node (some (Tryz.prog.funcs.toList.getD 86 default)) (.node (some (Tryz.prog.funcs.toList.getD 150 default)) .nil .nil) .nil) (.node (some (Tryz.prog.funcs.toList.getD 118 default)) .nil .nil))) (.node (some (Tryz.prog.funcs.toList.getD 30 default)) (.node (some (Tryz.prog.funcs.toList.getD 46 default)) (.node (some (Tryz.prog.funcs.toList.getD 78 default)) (.node (some (Tryz.prog.funcs.toList.getD 142 default)) .nil .nil) .nil) (.node (some (Tryz.prog.funcs.toList.getD 110 default)) .nil .nil)) (.node (some (Tryz.prog.funcs.toList.getD 62 default)) (.node (some (Tryz.prog.funcs.toList.getD 94 default)) (.node (some (Tryz.prog.funcs.toList.getD 158 default)) .nil .nil) .nil) (.node (some (Tryz.prog.funcs.toList.getD 126 default)) .nil .nil)))))))
set_option maxRecDepth 100000 in
theorem tiTr_eq : tiTr = Tr.ofList Tryz.prog.types.toList := by kernel_rfl
set_option maxRecDepth 100000 in
theorem fsTr_eq : fsTr = Tr.ofList Tryz.prog.funcs.toList := by kernel_rfl
noncomputable def EV : Env := ⟨tiTr, fsTr, 4, lzOf Tryz.prog, 76, 25, true⟩
noncomputable def EC : Env := ⟨tiTr, fsTr, 4, lzOf Tryz.prog, 76, 25, false⟩
theorem evOk : EnvOk Tryz.prog EV := by
  have h := envOf_ok Tryz.prog 4 76 25 true tyLen fnLen fnNames noesc Tryz.checked.mixed
  have e : EV = envOf Tryz.prog 4 76 25 true := by unfold EV envOf; rw [tiTr_eq, fsTr_eq]
  rw [e]
  exact h
theorem ecOk : EnvOk Tryz.prog EC := by
  have h := envOf_ok Tryz.prog 4 76 25 false tyLen fnLen fnNames noesc Tryz.checked.mixed
  have e : EC = envOf Tryz.prog 4 76 25 false := by unfold EC envOf; rw [tiTr_eq, fsTr_eq]
  rw [e]
  exact h
structure MuG (p : Prop) : Prop where
  mk :: out : p
structure InG (p : Prop) : Prop where
  mk :: out : p
structure CtG : Prop where
  mk :: out : False
theorem CtG.no {q : Prop} (h : CtG) : q := h.out.elim
theorem evNg : Nat.ble EV.ng 1000 = true := rfl
theorem ecNg : Nat.ble EC.ng 1000 = true := rfl
end Go.Proofs.YtkkmlbhmcdoibaaGreatDoor.S

namespace Go.Proofs.YtkkmlbhmcdoibaaGreatDoor.S
open Go.ChangeShapes Go.WideShapes Go.ChangeAt Go.RowKit Go.Joins Go.Deep
open Go.QfSy (Con RV RRel RsRel FzAt roC Fz Tb TabW PureC)
def U8 (n : Int) : Prop := 0 ≤ n ∧ n ≤ 255
def Wz (w : World) : Fz := fun B => w.heap[B]?
theorem wf_u8 {n : Int} (h : (Lit.int .u8 n).wf = true) : 0 ≤ n ∧ n ≤ 255 := by
  simp only [Lit.wf, Bool.and_eq_true, decide_eq_true_eq] at h
  exact h
section
variable {H : Type} {enc : TypeId × Value → H} {P : Program} {w : World} {base : Nat} {spare : Nat → Bool} {held : Bool}
theorem trodAll_stays (hl : laidOutB P = true) {W W' : World} (hb : Below W.heap.size W W') : ∀ {ts : List TypeId} {vs : List Value} {ds : List (DataW H)} {ps : List MemPlace}, (∀ t ∈ ts, P.readableRec t = true ∧ t < P.types.size) →
    DataW.TrodAll enc P W 0 (fun _ => true) true ts vs ds ps → (∀ p ∈ ps, p.block < W.heap.size) → ∀ sp : Nat → Bool, (∀ p ∈ ps, sp p.block = true) → DataW.TrodAll enc P W' 0 sp true ts vs ds ps
  | [], vs, ds, ps, _, h, _, sp, _ => by
    cases vs <;> cases ds <;> simp [DataW.TrodAll] at h ⊢
    exact h
  | t :: ts, vs, ds, ps, ht, h, hlt, sp, hs => by
    obtain ⟨v, vs', d, ds', p, q, rfl, rfl, rfl, h1, h2⟩ := trodAll_cons h
    obtain ⟨r1, r2⟩ := ht t (by simp)
    exact trodAll_cons_mk (WideElems.Trod_stays hl r1 r2 h1 (fun x hx => hb.same (hlt x (by simp [hx]))) (fun x hx => hs x (by simp [hx])))
      (trodAll_stays hl hb (fun u hu => ht u (by simp [hu])) h2 (fun x hx => hlt x (by simp [hx])) sp (fun x hx => hs x (by simp [hx])))
theorem law_post {f : Func} {s : ChangeSpec} {apart fresh handsOn again : Bool} {W W' : World} {args : Array Value} {ds : List (DataW H)} {gs : List (DataW H)} {before : List MemPlace} {tb : TypeId}
    (hl : laidOutB P = true) (htys : ∀ t ∈ f.params.toList, P.readableRec t = true ∧ t < P.types.size) (hvars : s.vars = []) (htb : P.underlying tb = some .bool) (hres : f.resultTypes = #[tb])
    (hW : DataW.Whole enc P f.params.toList s.vars apart W args.toList ds gs before) (hfn : s.fn H ds = { results := [.lit (.bool true)], args := ds })
    (hb : Below W.heap.size W W') : s.post enc P f apart fresh handsOn again W args (.bool true) W' := by
  have hlt : ∀ p ∈ before, p.block < W.heap.size := fun p hp => hW.lt p hp
  have hW' := hW
  obtain ⟨p, q, hA, hV, rfl, hfz, hnd⟩ := hW
  rw [hvars] at hV
  obtain ⟨rfl, rfl⟩ := trodVars_none hV
  simp only [List.append_nil] at hW' hlt hfz hnd
  have hfn' : s.fn H (ds ++ []) = { results := [.lit (.bool true)], args := ds } := by rw [List.append_nil]; exact hfn
  have hbool : ∀ (b : Nat) (sp : Nat → Bool) (hd : Bool), DataW.TrodAll enc P W' b sp hd f.resultTypes.toList ((Value.bool true).resultList f.resultTypes.size) (s.fn H (ds ++ [])).results [] := by
    intro b sp hd
    rw [hres, hfn']
    exact trodAll_mk1 ⟨1, by simp [DataW.trod, htb, Value.cells]⟩
  have hargs : ∀ sp : Nat → Bool, (∀ x ∈ p, sp x.block = true) → DataW.TrodAll enc P W' 0 sp true f.params.toList args.toList (s.fn H (ds ++ [])).args p := by
    intro sp hs
    rw [hfn']
    exact trodAll_stays hl hb htys hA hlt sp hs
  have hvs : ∀ sp : Nat → Bool, DataW.TrodVars enc P W' sp s.vars (s.fn H (ds ++ [])).vars [] := by
    intro sp
    rw [hfn', hvars]
    rfl
  have hold : ∀ x ∈ p, (fun b => decide (b < W.heap.size)) x.block = true := fun x hx => by simpa using hlt x hx
  refine ⟨ds, [], p, [], p, [], hW', hbool _ _ _, hargs _ hold, hvs _, World.keptBut_mono (fun x hx => ⟨hx, ?_⟩) (hb.frame (· ∈ p)), fun _ => ?_⟩
  · exact Or.inr (by simpa using hx)
  · refine ⟨?_, _, _, ([] ++ p) ++ [], ⟨[] ++ p, [], trodAll_append (hargs _ (fun _ _ => rfl)) (hbool _ _ _), hvs _, rfl, ?_, ?_⟩, ?_⟩
    · intro j t r ht hr
      rw [hres] at ht hr
      match j, ht with
      | 0, ht =>
        simp at ht hr
        subst ht
        simp [Value.resultList] at hr
        subst hr
        exact okWide_bool_mk htb _
      | j + 1, ht => simp at ht
    · intro b off hp
      have hin : MemPlace.cell b off ∈ p := by simpa using hp
      rw [hb.frozen (hlt _ hin)]
      exact hfz b off hin
    · intro ha
      simpa using hnd ha
    · intro x hx _
      simpa using hx
end
theorem pure_calls {P : Program} {ts : List Tb} {f : Nat} {A : List RV} (h : PureC P ts f A (.bool true)) {w : World} (hT : TabW ts w) {Args : List Value} (hR : RsRel (Wz w) A Args) :
    Calls P f Args.toArray w fun e w' => e = .returned (.bool true) ∧ Below w.heap.size w w' := by
  refine (h.2 w (Wz w) Args hT (fun B x hx => hx) hR).mono ?_
  rintro e w' ⟨V, F', rfl, _, _, _, hV, hb⟩
  cases hV
  exact ⟨rfl, hb⟩
theorem tab_block {P : Program} {W : World} {name : String} {k : IntKind} {zs : List Int} {g : Nat} {t : TypeId} {cs : Array Value} (hg : P.globalNamed name = some g) (ht : Lib.TabIs P W name k zs) (h1 : W.heap[g]? = some (.cells cs t)) :
    W.heap[g]? = some (.cells (zs.map fun z => Value.int k z).toArray t (0, 0)) := by
  unfold Lib.TabIs World.var? at ht
  rw [hg] at ht
  simp only [Option.bind_some, h1] at ht
  injection ht with ht
  rw [h1, ht]
theorem row_of {P : Program} {W : World} {g : Nat} {t : TypeId} (hsz : g < P.globals.size) (hr : (((begin P (fun _ _ => 0) default).world.heap[g]?).bind Obj.row?).map (·.2) = some t) (hS : W.ShapedOpen P) :
    ∃ cs u, W.heap[g]? = some (.cells cs u) ∧ u = t := by
  cases hz : ((begin P (fun _ _ => 0) default).world.heap[g]?).bind Obj.row? with
  | none => rw [hz] at hr; cases hr
  | some zt =>
    obtain ⟨zero, u⟩ := zt
    rw [hz] at hr
    obtain ⟨cs, h1, _⟩ := hS.1 g zero _ hsz hz
    exact ⟨cs, u, h1, by simpa using hr⟩
def dataCells : DataW Unit → Array Value
  | .agg l => (l.map fun | .lit (.int k n) => Value.int k n | _ => .bool false).toArray
  | _ => #[]
def layAt (g : Nat) (d : DataW Unit) (w : World) : World :=
  { w with heap := w.heap.modify g fun
      | .cells _ t frozen => .cells (dataCells d) t frozen
      | o => o }
section
variable {H : Type} {enc : TypeId × Value → H} {P : Program} {w : World} {base : Nat} {spare : Nat → Bool} {held : Bool} {r : Reach} {b0 : Nat} {v : Value} {d : DataW H} {p : List MemPlace}
end
section
variable {H : Type} {enc : TypeId × Value → H} {P : Program} {w : World} {base : Nat} {spare : Nat → Bool} {held : Bool} {r : Reach} {b0 : Nat} {v : Value} {d : DataW H} {p : List MemPlace}
end
end Go.Proofs.YtkkmlbhmcdoibaaGreatDoor.S

namespace Go.Proofs.YtkkmlbhmcdoibaaGreatDoor.S
open Go.ChangeShapes Go.WideShapes Go.ChangeAt Go.RowKit Go.QfSy
theorem own : ownKnob Tryz.prog.godebug = none := by kernel_rfl
theorem laidOut : laidOutB Tryz.prog = true := by kernel_rfl
def tabs : List Tb := [
  ⟨2, .u8, [0, 1, 28, 2, 29, 14, 24, 3, 30, 22, 20, 15, 25, 17, 4, 8, 31, 27, 13, 23, 21, 19, 16, 7, 26, 12, 18, 6, 11, 5, 10, 9], 190⟩,
  ⟨3, .u8, [0, 1, 56, 2, 57, 49, 28, 3, 61, 58, 42, 50, 38, 29, 17, 4, 62, 47, 59, 36, 45, 43, 51, 22, 53, 39, 33, 30, 24, 18, 12, 5, 63, 55, 48, 27, 60, 41, 37, 16, 46, 35, 44, 21, 52, 32, 23, 11, 54, 26, 40, 15, 34, 20, 31, 10, 25, 14, 19, 9, 13, 8, 7, 6], 191⟩,
  ⟨0, .u64, [1, 10, 100, 1000, 10000, 100000, 1000000, 10000000, 100000000, 1000000000, 10000000000, 100000000000, 1000000000000, 10000000000000, 100000000000000, 1000000000000000, 10000000000000000, 100000000000000000, 1000000000000000000, 10000000000000000000], 170⟩,
  ⟨1, .i64, [7, 11, 13, 17, 19, 23, 29, 31], 175⟩]
theorem gn0 : Tryz.prog.globalNamed "math/bits.deBruijn32tab" = some 2 := by kernel_rfl
theorem gt0 : (Tryz.prog.globals[2]?).map (·.type) = some 190 := by kernel_rfl
theorem gs0 : 2 < Tryz.prog.globals.size := by show Nat.lt _ _; exact Nat.le_of_ble_eq_true (by kernel_rfl)
theorem gc0 : Tryz.prog.cellsOf 190 = 32 := by kernel_rfl
theorem ge0 : Tryz.prog.cellsOf 5 = 1 := by kernel_rfl
theorem gr0 : (((begin Tryz.prog (fun _ _ => 0) default).world.heap[2]?).bind Obj.row?).map (·.2) = some 190 := by kernel_rfl
theorem gn1 : Tryz.prog.globalNamed "math/bits.deBruijn64tab" = some 3 := by kernel_rfl
theorem gt1 : (Tryz.prog.globals[3]?).map (·.type) = some 191 := by kernel_rfl
theorem gs1 : 3 < Tryz.prog.globals.size := by show Nat.lt _ _; exact Nat.le_of_ble_eq_true (by kernel_rfl)
theorem gc1 : Tryz.prog.cellsOf 191 = 64 := by kernel_rfl
theorem ge1 : Tryz.prog.cellsOf 5 = 1 := by kernel_rfl
theorem gr1 : (((begin Tryz.prog (fun _ _ => 0) default).world.heap[3]?).bind Obj.row?).map (·.2) = some 191 := by kernel_rfl
theorem gn2 : Tryz.prog.globalNamed "internal/strconv.uint64pow10" = some 0 := by kernel_rfl
theorem gt2 : (Tryz.prog.globals[0]?).map (·.type) = some 170 := by kernel_rfl
theorem gs2 : 0 < Tryz.prog.globals.size := by show Nat.lt _ _; exact Nat.le_of_ble_eq_true (by kernel_rfl)
theorem gc2 : Tryz.prog.cellsOf 170 = 20 := by kernel_rfl
theorem ge2 : Tryz.prog.cellsOf 142 = 1 := by kernel_rfl
theorem gr2 : (((begin Tryz.prog (fun _ _ => 0) default).world.heap[0]?).bind Obj.row?).map (·.2) = some 170 := by kernel_rfl
theorem gn3 : Tryz.prog.globalNamed "quadform/prime.offsets" = some 1 := by kernel_rfl
theorem gt3 : (Tryz.prog.globals[1]?).map (·.type) = some 175 := by kernel_rfl
theorem gs3 : 1 < Tryz.prog.globals.size := by show Nat.lt _ _; exact Nat.le_of_ble_eq_true (by kernel_rfl)
theorem gc3 : Tryz.prog.cellsOf 175 = 8 := by kernel_rfl
theorem ge3 : Tryz.prog.cellsOf 2 = 1 := by kernel_rfl
theorem gr3 : (((begin Tryz.prog (fun _ _ => 0) default).world.heap[1]?).bind Obj.row?).map (·.2) = some 175 := by kernel_rfl
theorem gl0 {W : World} {rest : List (String × DataW Unit)} (h : laidMet Tryz.prog (("math/bits.deBruijn32tab", Rows.laid_math_bits_deBruijn32tab) :: rest) W) (hS : W.ShapedOpen Tryz.prog) : W.heap[2]? = some (.cells (([0, 1, 28, 2, 29, 14, 24, 3, 30, 22, 20, 15, 25, 17, 4, 8, 31, 27, 13, 23, 21, 19, 16, 7, 26, 12, 18, 6, 11, 5, 10, 9] : List Int).map (Value.int .u8)).toArray 190 (0, 0)) := by
  have ht : Lib.TabIs Tryz.prog W "math/bits.deBruijn32tab" .u8 [0, 1, 28, 2, 29, 14, 24, 3, 30, 22, 20, 15, 25, 17, 4, 8, 31, 27, 13, 23, 21, 19, 16, 7, 26, 12, 18, 6, 11, 5, 10, 9] :=
    Lib.tabIs_of_head gn0 gt0 Tryz.underlying190 Tryz.underlying5 ge0 gc0 h
  obtain ⟨cs, t, h1, h2⟩ := row_of gs0 gr0 hS
  subst h2
  exact tab_block gn0 ht h1
theorem gl1 {W : World} {rest : List (String × DataW Unit)} (h : laidMet Tryz.prog (("math/bits.deBruijn64tab", Rows.laid_math_bits_deBruijn64tab) :: rest) W) (hS : W.ShapedOpen Tryz.prog) : W.heap[3]? = some (.cells (([0, 1, 56, 2, 57, 49, 28, 3, 61, 58, 42, 50, 38, 29, 17, 4, 62, 47, 59, 36, 45, 43, 51, 22, 53, 39, 33, 30, 24, 18, 12, 5, 63, 55, 48, 27, 60, 41, 37, 16, 46, 35, 44, 21, 52, 32, 23, 11, 54, 26, 40, 15, 34, 20, 31, 10, 25, 14, 19, 9, 13, 8, 7, 6] : List Int).map (Value.int .u8)).toArray 191 (0, 0)) := by
  have ht : Lib.TabIs Tryz.prog W "math/bits.deBruijn64tab" .u8 [0, 1, 56, 2, 57, 49, 28, 3, 61, 58, 42, 50, 38, 29, 17, 4, 62, 47, 59, 36, 45, 43, 51, 22, 53, 39, 33, 30, 24, 18, 12, 5, 63, 55, 48, 27, 60, 41, 37, 16, 46, 35, 44, 21, 52, 32, 23, 11, 54, 26, 40, 15, 34, 20, 31, 10, 25, 14, 19, 9, 13, 8, 7, 6] :=
    Lib.tabIs_of_head gn1 gt1 Tryz.underlying191 Tryz.underlying5 ge1 gc1 h
  obtain ⟨cs, t, h1, h2⟩ := row_of gs1 gr1 hS
  subst h2
  exact tab_block gn1 ht h1
theorem gl2 {W : World} {rest : List (String × DataW Unit)} (h : laidMet Tryz.prog (("internal/strconv.uint64pow10", Rows.laid_internal_strconv_uint64pow10) :: rest) W) (hS : W.ShapedOpen Tryz.prog) : W.heap[0]? = some (.cells (([1, 10, 100, 1000, 10000, 100000, 1000000, 10000000, 100000000, 1000000000, 10000000000, 100000000000, 1000000000000, 10000000000000, 100000000000000, 1000000000000000, 10000000000000000, 100000000000000000, 1000000000000000000, 10000000000000000000] : List Int).map (Value.int .u64)).toArray 170 (0, 0)) := by
  have ht : Lib.TabIs Tryz.prog W "internal/strconv.uint64pow10" .u64 [1, 10, 100, 1000, 10000, 100000, 1000000, 10000000, 100000000, 1000000000, 10000000000, 100000000000, 1000000000000, 10000000000000, 100000000000000, 1000000000000000, 10000000000000000, 100000000000000000, 1000000000000000000, 10000000000000000000] :=
    Lib.tabIs_of_head gn2 gt2 Tryz.underlying170 Tryz.underlying142 ge2 gc2 h
  obtain ⟨cs, t, h1, h2⟩ := row_of gs2 gr2 hS
  subst h2
  exact tab_block gn2 ht h1
theorem gl3 {W : World} {rest : List (String × DataW Unit)} (h : laidMet Tryz.prog (("quadform/prime.offsets", Rows.laid_quadform_prime_offsets) :: rest) W) (hS : W.ShapedOpen Tryz.prog) : W.heap[1]? = some (.cells (([7, 11, 13, 17, 19, 23, 29, 31] : List Int).map (Value.int .i64)).toArray 175 (0, 0)) := by
  have ht : Lib.TabIs Tryz.prog W "quadform/prime.offsets" .i64 [7, 11, 13, 17, 19, 23, 29, 31] :=
    Lib.tabIs_of_head gn3 gt3 Tryz.underlying175 Tryz.underlying2 ge3 gc3 h
  obtain ⟨cs, t, h1, h2⟩ := row_of gs3 gr3 hS
  subst h2
  exact tab_block gn3 ht h1
theorem tabs_of {W : World} (h : laidMet Tryz.prog [("math/bits.deBruijn32tab", Rows.laid_math_bits_deBruijn32tab), ("math/bits.deBruijn64tab", Rows.laid_math_bits_deBruijn64tab), ("internal/strconv.uint64pow10", Rows.laid_internal_strconv_uint64pow10), ("quadform/prime.offsets", Rows.laid_quadform_prime_offsets)] W) (hS : W.ShapedOpen Tryz.prog) : TabW tabs W := by
  intro t ht
  simp only [tabs, List.mem_cons, List.not_mem_nil, or_false] at ht
  rcases ht with rfl | rfl | rfl | rfl
  · exact gl0 h hS
  · exact gl1 (laidMet.tail h) hS
  · exact gl2 (laidMet.tail (laidMet.tail h)) hS
  · exact gl3 (laidMet.tail (laidMet.tail (laidMet.tail h))) hS
noncomputable def laidWorld (os : Os) : World := (layAt 1 Rows.laid_quadform_prime_offsets (layAt 0 Rows.laid_internal_strconv_uint64pow10 (layAt 3 Rows.laid_math_bits_deBruijn64tab (layAt 2 Rows.laid_math_bits_deBruijn32tab (World.holding Tryz.prog os ⟨#[], #[], []⟩)))))
end Go.Proofs.YtkkmlbhmcdoibaaGreatDoor.S

namespace Go.Proofs.YtkkmlbhmcdoibaaGreatDoor.S
open Go.QfSy Go.RowKit
set_option maxRecDepth 1000000 in
theorem awake_run : isT0 (bodyF EC (callF EC noOrc 60) noLo 7 (RV.avl []) ⟨trOf (tabList tabs), 1000, [], []⟩) = true := by kernel_rfl
theorem awake_pure : PureC Tryz.prog tabs 7 [] (.bool true) :=
  pure_true ecOk (callF_ok ecOk (noOrc_ok _ _) 60) rfl rfl ecNg awake_run
end Go.Proofs.YtkkmlbhmcdoibaaGreatDoor.S

