/- Part of the proof of ToolNumbers by an evaluator that is proved sound: K1. No condition of its own. -/
import Derived.Test.YtbhbbjgaahfinaaGreatDoorProg
import Derived.KernelRfl
import Derived.Test.YtbhbbjgaahfinaaGreatDoorC1
import Derived.Test.YtbhbbjgaahfinaaGreatDoorK0
set_option linter.unusedVariables false
set_option linter.unusedSimpArgs false
namespace Go.Proofs
open Go Gv
set_option maxRecDepth 100000
theorem cf137 : cfunc Tryz.prog G0 137 = some code137 := by kernel_rfl
theorem cf138 : cfunc Tryz.prog G0 138 = some code138 := by kernel_rfl
theorem cf139 : cfunc Tryz.prog G0 139 = some code139 := by kernel_rfl
theorem cf140 : cfunc Tryz.prog G0 140 = some code140 := by kernel_rfl
theorem cf141 : cfunc Tryz.prog G0 141 = some code141 := by kernel_rfl
theorem cf142 : cfunc Tryz.prog G0 142 = some code142 := by kernel_rfl
theorem cf143 : cfunc Tryz.prog G0 143 = some code143 := by kernel_rfl
theorem cf144 : cfunc Tryz.prog G0 144 = some code144 := by kernel_rfl
theorem cf145 : cfunc Tryz.prog G0 145 = some code145 := by kernel_rfl
theorem cf146 : cfunc Tryz.prog G0 146 = some code146 := by kernel_rfl
theorem cf147 : cfunc Tryz.prog G0 147 = some code147 := by kernel_rfl
theorem cf148 : cfunc Tryz.prog G0 148 = some code148 := by kernel_rfl
theorem cf149 : cfunc Tryz.prog G0 149 = some code149 := by kernel_rfl
theorem cf150 : cfunc Tryz.prog G0 150 = some code150 := by kernel_rfl
theorem cf151 : cfunc Tryz.prog G0 151 = some code151 := by kernel_rfl
theorem cf154 : cfunc Tryz.prog G0 154 = some code154 := by kernel_rfl
theorem cf155 : cfunc Tryz.prog G0 155 = some code155 := by kernel_rfl
theorem cf156 : cfunc Tryz.prog G0 156 = some code156 := by kernel_rfl
theorem cf157 : cfunc Tryz.prog G0 157 = some code157 := by kernel_rfl
theorem cf158 : cfunc Tryz.prog G0 158 = some code158 := by kernel_rfl
theorem cf159 : cfunc Tryz.prog G0 159 = some code159 := by kernel_rfl
theorem cf160 : cfunc Tryz.prog G0 160 = some code160 := by kernel_rfl
theorem cf161 : cfunc Tryz.prog G0 161 = some code161 := by kernel_rfl
theorem cf162 : cfunc Tryz.prog G0 162 = some code162 := by kernel_rfl
theorem cf163 : cfunc Tryz.prog G0 163 = some code163 := by kernel_rfl
theorem cf164 : cfunc Tryz.prog G0 164 = some code164 := by kernel_rfl
theorem cf171 : cfunc Tryz.prog G0 171 = some code171 := by kernel_rfl
theorem cf173 : cfunc Tryz.prog G0 173 = some code173 := by kernel_rfl
theorem cf176 : cfunc Tryz.prog G0 176 = some code176 := by kernel_rfl
theorem cf177 : cfunc Tryz.prog G0 177 = some code177 := by kernel_rfl
theorem cf178 : cfunc Tryz.prog G0 178 = some code178 := by kernel_rfl
theorem cf179 : cfunc Tryz.prog G0 179 = some code179 := by kernel_rfl
theorem cf180 : cfunc Tryz.prog G0 180 = some code180 := by kernel_rfl
theorem cf181 : cfunc Tryz.prog G0 181 = some code181 := by kernel_rfl
theorem cf182 : cfunc Tryz.prog G0 182 = some code182 := by kernel_rfl
theorem cf183 : cfunc Tryz.prog G0 183 = some code183 := by kernel_rfl
theorem cf184 : cfunc Tryz.prog G0 184 = some code184 := by kernel_rfl
theorem cf185 : cfunc Tryz.prog G0 185 = some code185 := by kernel_rfl
theorem cf186 : cfunc Tryz.prog G0 186 = some code186 := by kernel_rfl
theorem cf187 : cfunc Tryz.prog G0 187 = some code187 := by kernel_rfl
theorem cf189 : cfunc Tryz.prog G0 189 = some code189 := by kernel_rfl
theorem cf190 : cfunc Tryz.prog G0 190 = some code190 := by kernel_rfl
theorem cf191 : cfunc Tryz.prog G0 191 = some code191 := by kernel_rfl
theorem cf192 : cfunc Tryz.prog G0 192 = some code192 := by kernel_rfl
theorem cf193 : cfunc Tryz.prog G0 193 = some code193 := by kernel_rfl
theorem cf194 : cfunc Tryz.prog G0 194 = some code194 := by kernel_rfl
theorem cf197 : cfunc Tryz.prog G0 197 = some code197 := by kernel_rfl
theorem cf198 : cfunc Tryz.prog G0 198 = some code198 := by kernel_rfl
theorem cf199 : cfunc Tryz.prog G0 199 = some code199 := by kernel_rfl
theorem cf201 : cfunc Tryz.prog G0 201 = some code201 := by kernel_rfl
theorem cf202 : cfunc Tryz.prog G0 202 = some code202 := by kernel_rfl
theorem cf203 : cfunc Tryz.prog G0 203 = some code203 := by kernel_rfl
end Go.Proofs
namespace Go.Proofs
open Go Gv
set_option maxRecDepth 100000
theorem cf204 : cfunc Tryz.prog G0 204 = some code204 := by kernel_rfl
theorem cf206 : cfunc Tryz.prog G0 206 = some code206 := by kernel_rfl
theorem cf207 : cfunc Tryz.prog G0 207 = some code207 := by kernel_rfl
theorem cf208 : cfunc Tryz.prog G0 208 = some code208 := by kernel_rfl
theorem cf209 : cfunc Tryz.prog G0 209 = some code209 := by kernel_rfl
theorem cf210 : cfunc Tryz.prog G0 210 = some code210 := by kernel_rfl
theorem cf211 : cfunc Tryz.prog G0 211 = some code211 := by kernel_rfl
theorem cf212 : cfunc Tryz.prog G0 212 = some code212 := by kernel_rfl
theorem cf213 : cfunc Tryz.prog G0 213 = some code213 := by kernel_rfl
theorem cf214 : cfunc Tryz.prog G0 214 = some code214 := by kernel_rfl
theorem cf215 : cfunc Tryz.prog G0 215 = some code215 := by kernel_rfl
theorem cf216 : cfunc Tryz.prog G0 216 = some code216 := by kernel_rfl
theorem cf217 : cfunc Tryz.prog G0 217 = some code217 := by kernel_rfl
theorem cf218 : cfunc Tryz.prog G0 218 = some code218 := by kernel_rfl
theorem cf219 : cfunc Tryz.prog G0 219 = some code219 := by kernel_rfl
theorem cf220 : cfunc Tryz.prog G0 220 = some code220 := by kernel_rfl
theorem cf221 : cfunc Tryz.prog G0 221 = some code221 := by kernel_rfl
theorem cf222 : cfunc Tryz.prog G0 222 = some code222 := by kernel_rfl
theorem cf223 : cfunc Tryz.prog G0 223 = some code223 := by kernel_rfl
theorem cf224 : cfunc Tryz.prog G0 224 = some code224 := by kernel_rfl
theorem cf225 : cfunc Tryz.prog G0 225 = some code225 := by kernel_rfl
theorem cf226 : cfunc Tryz.prog G0 226 = some code226 := by kernel_rfl
theorem cf227 : cfunc Tryz.prog G0 227 = some code227 := by kernel_rfl
theorem cf228 : cfunc Tryz.prog G0 228 = some code228 := by kernel_rfl
theorem cf245 : cfunc Tryz.prog G0 245 = some code245 := by kernel_rfl
theorem cf247 : cfunc Tryz.prog G0 247 = some code247 := by kernel_rfl
theorem cf251 : cfunc Tryz.prog G0 251 = some code251 := by kernel_rfl
theorem cf253 : cfunc Tryz.prog G0 253 = some code253 := by kernel_rfl
theorem cf254 : cfunc Tryz.prog G0 254 = some code254 := by kernel_rfl
theorem cf256 : cfunc Tryz.prog G0 256 = some code256 := by kernel_rfl
theorem cf259 : cfunc Tryz.prog G0 259 = some code259 := by kernel_rfl
theorem cf260 : cfunc Tryz.prog G0 260 = some code260 := by kernel_rfl
theorem cf261 : cfunc Tryz.prog G0 261 = some code261 := by kernel_rfl
theorem cf265 : cfunc Tryz.prog G0 265 = some code265 := by kernel_rfl
theorem cf266 : cfunc Tryz.prog G0 266 = some code266 := by kernel_rfl
theorem cf267 : cfunc Tryz.prog G0 267 = some code267 := by kernel_rfl
theorem cf268 : cfunc Tryz.prog G0 268 = some code268 := by kernel_rfl
theorem cf269 : cfunc Tryz.prog G0 269 = some code269 := by kernel_rfl
theorem cf270 : cfunc Tryz.prog G0 270 = some code270 := by kernel_rfl
theorem cf271 : cfunc Tryz.prog G0 271 = some code271 := by kernel_rfl
theorem cf273 : cfunc Tryz.prog G0 273 = some code273 := by kernel_rfl
theorem cf274 : cfunc Tryz.prog G0 274 = some code274 := by kernel_rfl
theorem cf275 : cfunc Tryz.prog G0 275 = some code275 := by kernel_rfl
theorem cf276 : cfunc Tryz.prog G0 276 = some code276 := by kernel_rfl
theorem cf277 : cfunc Tryz.prog G0 277 = some code277 := by kernel_rfl
theorem cf278 : cfunc Tryz.prog G0 278 = some code278 := by kernel_rfl
theorem cf279 : cfunc Tryz.prog G0 279 = some code279 := by kernel_rfl
theorem cf280 : cfunc Tryz.prog G0 280 = some code280 := by kernel_rfl
theorem cf281 : cfunc Tryz.prog G0 281 = some code281 := by kernel_rfl
theorem cf282 : cfunc Tryz.prog G0 282 = some code282 := by kernel_rfl
theorem cf283 : cfunc Tryz.prog G0 283 = some code283 := by kernel_rfl
theorem cf284 : cfunc Tryz.prog G0 284 = some code284 := by kernel_rfl
end Go.Proofs
namespace Go.Proofs
open Go Gv
set_option maxRecDepth 100000

theorem cf4 : cfunc Tryz.prog G0 4 = some code4 := by kernel_rfl





theorem cf13 : cfunc Tryz.prog G0 13 = some code13 := by kernel_rfl




theorem cf25 : cfunc Tryz.prog G0 25 = some code25 := by kernel_rfl
end Go.Proofs
