/- Part of the proof of ToolNumbers by an evaluator that is proved sound: X0. No condition of its own. -/
import Derived.Test.YtbhbbjgaahfinaaGreatDoorProg
import Derived.Laws.StandIn
import Derived.Test.YtbhbbjgaahfinaaGreatDoorK0
import Derived.Test.YtbhbbjgaahfinaaGreatDoorK1
import Derived.Test.YtbhbbjgaahfinaaGreatDoorB31
import Derived.Test.YtbhbbjgaahfinaaGreatDoorT0
set_option linter.unusedVariables false
set_option linter.unusedSimpArgs false
/-! The table of the evaluator's codes is sound over this program. -/
namespace Go.Proofs
open Go Gv
set_option linter.unusedVariables false
set_option maxRecDepth 100000

def chain0 : Tr FI := (((((((((((((((((((((((((((((((Tr.nil : Tr FI).put 4 (some code4)).put 7 (some code7)).put 9 (some code9)).put 11 (some code11)).put 13 (some code13)).put 16 (some code16)).put 17 (some code17)).put 18 (some code18)).put 19 (some code19)).put 21 (some code21)).put 22 (some code22)).put 23 (some code23)).put 25 (some code25)).put 26 (some code26)).put 27 (some code27)).put 28 (some code28)).put 29 (some code29)).put 30 (some code30)).put 31 (some code31)).put 32 (some code32)).put 33 (some code33)).put 34 (some code34)).put 35 (some code35)).put 36 (some code36)).put 37 (some code37)).put 39 (some code39)).put 40 (some code40)).put 41 (some code41)).put 42 (some code42)).put 43 (some code43))
theorem chain0_ok : ∀ f fi, chain0.get f = some fi → cfunc Tryz.prog G0 f = some fi := (tab_put (tab_put (tab_put (tab_put (tab_put (tab_put (tab_put (tab_put (tab_put (tab_put (tab_put (tab_put (tab_put (tab_put (tab_put (tab_put (tab_put (tab_put (tab_put (tab_put (tab_put (tab_put (tab_put (tab_put (tab_put (tab_put (tab_put (tab_put (tab_put (tab_put tab_nil cf4) cf7) cf9) cf11) cf13) cf16) cf17) cf18) cf19) cf21) cf22) cf23) cf25) cf26) cf27) cf28) cf29) cf30) cf31) cf32) cf33) cf34) cf35) cf36) cf37) cf39) cf40) cf41) cf42) cf43)
def chain1 : Tr FI := ((((((((((((((((((((((((((((((((((((((((chain0.put 44 (some code44)).put 45 (some code45)).put 46 (some code46)).put 47 (some code47)).put 48 (some code48)).put 49 (some code49)).put 50 (some code50)).put 51 (some code51)).put 55 (some code55)).put 56 (some code56)).put 57 (some code57)).put 58 (some code58)).put 59 (some code59)).put 60 (some code60)).put 61 (some code61)).put 62 (some code62)).put 63 (some code63)).put 64 (some code64)).put 65 (some code65)).put 66 (some code66)).put 67 (some code67)).put 68 (some code68)).put 69 (some code69)).put 70 (some code70)).put 71 (some code71)).put 72 (some code72)).put 73 (some code73)).put 74 (some code74)).put 75 (some code75)).put 76 (some code76)).put 82 (some code82)).put 83 (some code83)).put 85 (some code85)).put 86 (some code86)).put 87 (some code87)).put 88 (some code88)).put 89 (some code89)).put 91 (some code91)).put 92 (some code92)).put 93 (some code93))
theorem chain1_ok : ∀ f fi, chain1.get f = some fi → cfunc Tryz.prog G0 f = some fi := (tab_put (tab_put (tab_put (tab_put (tab_put (tab_put (tab_put (tab_put (tab_put (tab_put (tab_put (tab_put (tab_put (tab_put (tab_put (tab_put (tab_put (tab_put (tab_put (tab_put (tab_put (tab_put (tab_put (tab_put (tab_put (tab_put (tab_put (tab_put (tab_put (tab_put (tab_put (tab_put (tab_put (tab_put (tab_put (tab_put (tab_put (tab_put (tab_put (tab_put chain0_ok cf44) cf45) cf46) cf47) cf48) cf49) cf50) cf51) cf55) cf56) cf57) cf58) cf59) cf60) cf61) cf62) cf63) cf64) cf65) cf66) cf67) cf68) cf69) cf70) cf71) cf72) cf73) cf74) cf75) cf76) cf82) cf83) cf85) cf86) cf87) cf88) cf89) cf91) cf92) cf93)
def chain2 : Tr FI := ((((((((((((((((((((((((((((((((((((((((chain1.put 94 (some code94)).put 95 (some code95)).put 96 (some code96)).put 97 (some code97)).put 98 (some code98)).put 99 (some code99)).put 100 (some code100)).put 101 (some code101)).put 102 (some code102)).put 103 (some code103)).put 104 (some code104)).put 105 (some code105)).put 106 (some code106)).put 107 (some code107)).put 108 (some code108)).put 109 (some code109)).put 110 (some code110)).put 111 (some code111)).put 112 (some code112)).put 113 (some code113)).put 114 (some code114)).put 115 (some code115)).put 116 (some code116)).put 117 (some code117)).put 118 (some code118)).put 119 (some code119)).put 120 (some code120)).put 121 (some code121)).put 127 (some code127)).put 128 (some code128)).put 129 (some code129)).put 130 (some code130)).put 131 (some code131)).put 132 (some code132)).put 133 (some code133)).put 134 (some code134)).put 135 (some code135)).put 137 (some code137)).put 138 (some code138)).put 139 (some code139))
theorem chain2_ok : ∀ f fi, chain2.get f = some fi → cfunc Tryz.prog G0 f = some fi := (tab_put (tab_put (tab_put (tab_put (tab_put (tab_put (tab_put (tab_put (tab_put (tab_put (tab_put (tab_put (tab_put (tab_put (tab_put (tab_put (tab_put (tab_put (tab_put (tab_put (tab_put (tab_put (tab_put (tab_put (tab_put (tab_put (tab_put (tab_put (tab_put (tab_put (tab_put (tab_put (tab_put (tab_put (tab_put (tab_put (tab_put (tab_put (tab_put (tab_put chain1_ok cf94) cf95) cf96) cf97) cf98) cf99) cf100) cf101) cf102) cf103) cf104) cf105) cf106) cf107) cf108) cf109) cf110) cf111) cf112) cf113) cf114) cf115) cf116) cf117) cf118) cf119) cf120) cf121) cf127) cf128) cf129) cf130) cf131) cf132) cf133) cf134) cf135) cf137) cf138) cf139)
def chain3 : Tr FI := ((((((((((((((((((((((((((((((((((((((((chain2.put 140 (some code140)).put 141 (some code141)).put 142 (some code142)).put 143 (some code143)).put 144 (some code144)).put 145 (some code145)).put 146 (some code146)).put 147 (some code147)).put 148 (some code148)).put 149 (some code149)).put 150 (some code150)).put 151 (some code151)).put 154 (some code154)).put 155 (some code155)).put 156 (some code156)).put 157 (some code157)).put 158 (some code158)).put 159 (some code159)).put 160 (some code160)).put 161 (some code161)).put 162 (some code162)).put 163 (some code163)).put 164 (some code164)).put 171 (some code171)).put 173 (some code173)).put 176 (some code176)).put 177 (some code177)).put 178 (some code178)).put 179 (some code179)).put 180 (some code180)).put 181 (some code181)).put 182 (some code182)).put 183 (some code183)).put 184 (some code184)).put 185 (some code185)).put 186 (some code186)).put 187 (some code187)).put 189 (some code189)).put 190 (some code190)).put 191 (some code191))
theorem chain3_ok : ∀ f fi, chain3.get f = some fi → cfunc Tryz.prog G0 f = some fi := (tab_put (tab_put (tab_put (tab_put (tab_put (tab_put (tab_put (tab_put (tab_put (tab_put (tab_put (tab_put (tab_put (tab_put (tab_put (tab_put (tab_put (tab_put (tab_put (tab_put (tab_put (tab_put (tab_put (tab_put (tab_put (tab_put (tab_put (tab_put (tab_put (tab_put (tab_put (tab_put (tab_put (tab_put (tab_put (tab_put (tab_put (tab_put (tab_put (tab_put chain2_ok cf140) cf141) cf142) cf143) cf144) cf145) cf146) cf147) cf148) cf149) cf150) cf151) cf154) cf155) cf156) cf157) cf158) cf159) cf160) cf161) cf162) cf163) cf164) cf171) cf173) cf176) cf177) cf178) cf179) cf180) cf181) cf182) cf183) cf184) cf185) cf186) cf187) cf189) cf190) cf191)
def chain4 : Tr FI := ((((((((((((((((((((((((((((((((((((((((chain3.put 192 (some code192)).put 193 (some code193)).put 194 (some code194)).put 197 (some code197)).put 198 (some code198)).put 199 (some code199)).put 201 (some code201)).put 202 (some code202)).put 203 (some code203)).put 204 (some code204)).put 206 (some code206)).put 207 (some code207)).put 208 (some code208)).put 209 (some code209)).put 210 (some code210)).put 211 (some code211)).put 212 (some code212)).put 213 (some code213)).put 214 (some code214)).put 215 (some code215)).put 216 (some code216)).put 217 (some code217)).put 218 (some code218)).put 219 (some code219)).put 220 (some code220)).put 221 (some code221)).put 222 (some code222)).put 223 (some code223)).put 224 (some code224)).put 225 (some code225)).put 226 (some code226)).put 227 (some code227)).put 228 (some code228)).put 245 (some code245)).put 247 (some code247)).put 251 (some code251)).put 253 (some code253)).put 254 (some code254)).put 256 (some code256)).put 259 (some code259))
theorem chain4_ok : ∀ f fi, chain4.get f = some fi → cfunc Tryz.prog G0 f = some fi := (tab_put (tab_put (tab_put (tab_put (tab_put (tab_put (tab_put (tab_put (tab_put (tab_put (tab_put (tab_put (tab_put (tab_put (tab_put (tab_put (tab_put (tab_put (tab_put (tab_put (tab_put (tab_put (tab_put (tab_put (tab_put (tab_put (tab_put (tab_put (tab_put (tab_put (tab_put (tab_put (tab_put (tab_put (tab_put (tab_put (tab_put (tab_put (tab_put (tab_put chain3_ok cf192) cf193) cf194) cf197) cf198) cf199) cf201) cf202) cf203) cf204) cf206) cf207) cf208) cf209) cf210) cf211) cf212) cf213) cf214) cf215) cf216) cf217) cf218) cf219) cf220) cf221) cf222) cf223) cf224) cf225) cf226) cf227) cf228) cf245) cf247) cf251) cf253) cf254) cf256) cf259)
def chain5 : Tr FI := (((((((((((((((((((((chain4.put 260 (some code260)).put 261 (some code261)).put 265 (some code265)).put 266 (some code266)).put 267 (some code267)).put 268 (some code268)).put 269 (some code269)).put 270 (some code270)).put 271 (some code271)).put 273 (some code273)).put 274 (some code274)).put 275 (some code275)).put 276 (some code276)).put 277 (some code277)).put 278 (some code278)).put 279 (some code279)).put 280 (some code280)).put 281 (some code281)).put 282 (some code282)).put 283 (some code283)).put 284 (some code284))
theorem chain5_ok : ∀ f fi, chain5.get f = some fi → cfunc Tryz.prog G0 f = some fi := (tab_put (tab_put (tab_put (tab_put (tab_put (tab_put (tab_put (tab_put (tab_put (tab_put (tab_put (tab_put (tab_put (tab_put (tab_put (tab_put (tab_put (tab_put (tab_put (tab_put (tab_put chain4_ok cf260) cf261) cf265) cf266) cf267) cf268) cf269) cf270) cf271) cf273) cf274) cf275) cf276) cf277) cf278) cf279) cf280) cf281) cf282) cf283) cf284)
theorem chain_eq : codes = chain5 := by kernel_rfl
theorem tab_ok : TabOK Tryz.prog G0 T24 := fun f fi h => chain5_ok f fi (chain_eq ▸ h)

theorem prims_ok : PrimOK Tryz.prog T24 := by
  intro f p hp C h args d us ok hd hr
  have hp' : cond (Nat.beq f 80) (some Prim.indexByte) (cond (Nat.beq f 38) (some Prim.same) none) = some p := hp
  by_cases h80 : f = 80
  · subst h80
    obtain rfl : Prim.indexByte = p := Option.some.inj hp'
    unfold dprim at hd
    split at hd
    · rename_i s c h1
      split at hd
      · rename_i hc
        simp only [Option.some.injEq] at hd
        simp only [RL] at hr
        obtain ⟨u0, r0, hu, _, h0, u1, r1, rfl, _, h2, rfl⟩ := hr
        simp only [R] at h0 h2
        obtain ⟨b, rfl, hb, _⟩ := h0
        subst h2
        obtain rfl : us = #[.string b, .int .u8 c] := by cases us; simp_all
        refine ⟨.int .i64 (Lib.indexByte b.data.toList c.toNat.toUInt8), ?_, ?_⟩
        · rw [run_callFunc_indexByte Tryz.func80 (by kernel_rfl) (by kernel_rfl) (by kernel_rfl) (by kernel_rfl), Lib.run_indexByteString]; rfl
        · rw [← hd, idx_byte _ _ hc, hb]; simp only [R]
          cases List.idxOf? c.toNat s <;> rfl
      · cases hd
    · rename_i h1; cases h1
    · cases hd
  · have e80 : Nat.beq f 80 = false := by cases hb : Nat.beq f 80 with | false => rfl | true => exact absurd (Nat.eq_of_beq_eq_true hb) h80
    rw [e80] at hp'
    by_cases h38 : f = 38
    · subst h38
      obtain rfl : Prim.same = p := Option.some.inj hp'
      unfold dprim at hd
      split at hd
      · rename_i h1; cases h1
      · simp only [Option.some.injEq] at hd
        subst hd
        simp only [RL] at hr
        obtain ⟨u0, r0, hu, _, h0, rfl⟩ := hr
        obtain rfl : us = #[u0] := by cases us; simp_all
        refine ⟨u0, ?_, h0⟩
        rw [run_callFunc_extern (e := Extern.AbiNoEscape.same) Tryz.func38 (by kernel_rfl) (by kernel_rfl) (by kernel_rfl) (by kernel_rfl)]; rfl
      · cases hd
    · have e38 : Nat.beq f 38 = false := by cases hb : Nat.beq f 38 with | false => rfl | true => exact absurd (Nat.eq_of_beq_eq_true hb) h38
      rw [e38] at hp'; cases hp'

theorem meth_ins (v : Value) (args : Array Value) (w : World) : (callMethod (.iface 207 v) "scrutiny/store.insert" args).run Tryz.prog w = (callFunc 247 (#[v] ++ args)).run Tryz.prog w := by kernel_rfl
theorem meth_beg (v : Value) (args : Array Value) (w : World) : (callMethod (.iface 207 v) "scrutiny/store.begin" args).run Tryz.prog w = (callFunc 245 (#[v] ++ args)).run Tryz.prog w := by kernel_rfl

theorem meths_ok : MethOK Tryz.prog T24 := by
  refine ⟨fun t name g h v args w => ?_, fun t h => ?_⟩
  · have h' : cond (Nat.beq t 207) (cond (decide (name = "scrutiny/store.insert")) (some 247) (cond (decide (name = "scrutiny/store.begin")) (some 245) none)) none = some g := h
    by_cases ht : t = 207
    · subst ht
      by_cases h1 : name = "scrutiny/store.insert"
      · subst h1
        obtain rfl : 247 = g := by simpa using h'
        exact meth_ins v args w
      · by_cases h2 : name = "scrutiny/store.begin"
        · subst h2
          obtain rfl : 245 = g := by simpa [h1] using h'
          exact meth_beg v args w
        · simp [h1, h2] at h'
    · have e : Nat.beq t 207 = false := by cases hb : Nat.beq t 207 with | false => rfl | true => exact absurd (Nat.eq_of_beq_eq_true hb) ht
      rw [e] at h'; cases h'
  · have h' : Nat.beq t 153 = true := h
    obtain rfl : t = 153 := by simpa using h'
    exact ⟨_, Tryz.underlying153⟩

theorem tab_sound : TabSound Tryz.prog G0 T24 := ⟨tab_ok, prims_ok, meths_ok, by kernel_rfl⟩
end Go.Proofs
