/- Part of the proof of ToolNumbers by an evaluator that is proved sound: K0. No condition of its own. -/
import Derived.Test.YtbhbbjgaahfinaaGreatDoorProg
import Derived.KernelRfl
import Derived.Test.YtbhbbjgaahfinaaGreatDoorA6
import Derived.Test.YtbhbbjgaahfinaaGreatDoorC1
set_option linter.unusedVariables false
set_option linter.unusedSimpArgs false
namespace Gv
open Go
def G0 : Glob := fun g => match g with
  | 0 => some [.str [112, 108, 97, 105, 110], .str [112, 97, 114, 116, 115], .str [116, 114, 101, 101], .str [119, 111, 114, 100, 115], .str [108, 111, 115, 115, 121]]
  | 1 => some [.str [101, 114, 114, 111, 114], .str [104, 111, 108, 100, 115], .str [118, 105, 111, 108, 97, 116, 101, 100], .str [110, 111, 116, 104, 105, 110, 103]]
  | 3 => some [.v (.int .u64 1), .v (.int .u64 10), .v (.int .u64 100), .v (.int .u64 1000), .v (.int .u64 10000), .v (.int .u64 100000), .v (.int .u64 1000000), .v (.int .u64 10000000), .v (.int .u64 100000000), .v (.int .u64 1000000000), .v (.int .u64 10000000000), .v (.int .u64 100000000000), .v (.int .u64 1000000000000), .v (.int .u64 10000000000000), .v (.int .u64 100000000000000), .v (.int .u64 1000000000000000), .v (.int .u64 10000000000000000), .v (.int .u64 100000000000000000), .v (.int .u64 1000000000000000000), .v (.int .u64 10000000000000000000)]
  | 4 => some [.v (.int .u8 0), .v (.int .u8 1), .v (.int .u8 28), .v (.int .u8 2), .v (.int .u8 29), .v (.int .u8 14), .v (.int .u8 24), .v (.int .u8 3), .v (.int .u8 30), .v (.int .u8 22), .v (.int .u8 20), .v (.int .u8 15), .v (.int .u8 25), .v (.int .u8 17), .v (.int .u8 4), .v (.int .u8 8), .v (.int .u8 31), .v (.int .u8 27), .v (.int .u8 13), .v (.int .u8 23), .v (.int .u8 21), .v (.int .u8 19), .v (.int .u8 16), .v (.int .u8 7), .v (.int .u8 26), .v (.int .u8 12), .v (.int .u8 18), .v (.int .u8 6), .v (.int .u8 11), .v (.int .u8 5), .v (.int .u8 10), .v (.int .u8 9)]
  | 5 => some [.v (.int .u8 0), .v (.int .u8 1), .v (.int .u8 56), .v (.int .u8 2), .v (.int .u8 57), .v (.int .u8 49), .v (.int .u8 28), .v (.int .u8 3), .v (.int .u8 61), .v (.int .u8 58), .v (.int .u8 42), .v (.int .u8 50), .v (.int .u8 38), .v (.int .u8 29), .v (.int .u8 17), .v (.int .u8 4), .v (.int .u8 62), .v (.int .u8 47), .v (.int .u8 59), .v (.int .u8 36), .v (.int .u8 45), .v (.int .u8 43), .v (.int .u8 51), .v (.int .u8 22), .v (.int .u8 53), .v (.int .u8 39), .v (.int .u8 33), .v (.int .u8 30), .v (.int .u8 24), .v (.int .u8 18), .v (.int .u8 12), .v (.int .u8 5), .v (.int .u8 63), .v (.int .u8 55), .v (.int .u8 48), .v (.int .u8 27), .v (.int .u8 60), .v (.int .u8 41), .v (.int .u8 37), .v (.int .u8 16), .v (.int .u8 46), .v (.int .u8 35), .v (.int .u8 44), .v (.int .u8 21), .v (.int .u8 52), .v (.int .u8 32), .v (.int .u8 23), .v (.int .u8 11), .v (.int .u8 54), .v (.int .u8 26), .v (.int .u8 40), .v (.int .u8 15), .v (.int .u8 34), .v (.int .u8 20), .v (.int .u8 31), .v (.int .u8 10), .v (.int .u8 25), .v (.int .u8 14), .v (.int .u8 19), .v (.int .u8 9), .v (.int .u8 13), .v (.int .u8 8), .v (.int .u8 7), .v (.int .u8 6)]
  | 6 => some [.str [116, 114, 117, 101], .str [102, 97, 108, 115, 101], .str [88], .str [70], .str [71], .str [85], .str [82], .str [118, 97, 114], .str [112, 114, 111, 99]]
  | 7 => some [.str [], .str [], .str [], .str [43], .str [45], .str [42], .str [45], .str [61, 61], .str [33, 61], .str [60], .str [60, 61], .str [62], .str [62, 61], .str [116, 114, 117, 101], .str [102, 97, 108, 115, 101], .str [33], .str [38], .str [124], .str [45, 62], .str [60, 45, 62], .str [88], .str [70], .str [71], .str [85], .str [82]]
  | _ => none
end Gv
namespace Go.Proofs
open Go Gv
set_option maxRecDepth 100000
theorem cf7 : cfunc Tryz.prog G0 7 = some code7 := by kernel_rfl
theorem cf9 : cfunc Tryz.prog G0 9 = some code9 := by kernel_rfl
theorem cf11 : cfunc Tryz.prog G0 11 = some code11 := by kernel_rfl
theorem cf16 : cfunc Tryz.prog G0 16 = some code16 := by kernel_rfl
theorem cf17 : cfunc Tryz.prog G0 17 = some code17 := by kernel_rfl
theorem cf18 : cfunc Tryz.prog G0 18 = some code18 := by kernel_rfl
theorem cf19 : cfunc Tryz.prog G0 19 = some code19 := by kernel_rfl
theorem cf21 : cfunc Tryz.prog G0 21 = some code21 := by kernel_rfl
theorem cf22 : cfunc Tryz.prog G0 22 = some code22 := by kernel_rfl
theorem cf23 : cfunc Tryz.prog G0 23 = some code23 := by kernel_rfl
theorem cf26 : cfunc Tryz.prog G0 26 = some code26 := by kernel_rfl
theorem cf27 : cfunc Tryz.prog G0 27 = some code27 := by kernel_rfl
theorem cf28 : cfunc Tryz.prog G0 28 = some code28 := by kernel_rfl
theorem cf29 : cfunc Tryz.prog G0 29 = some code29 := by kernel_rfl
theorem cf30 : cfunc Tryz.prog G0 30 = some code30 := by kernel_rfl
theorem cf31 : cfunc Tryz.prog G0 31 = some code31 := by kernel_rfl
theorem cf32 : cfunc Tryz.prog G0 32 = some code32 := by kernel_rfl
theorem cf33 : cfunc Tryz.prog G0 33 = some code33 := by kernel_rfl
theorem cf34 : cfunc Tryz.prog G0 34 = some code34 := by kernel_rfl
theorem cf35 : cfunc Tryz.prog G0 35 = some code35 := by kernel_rfl
theorem cf36 : cfunc Tryz.prog G0 36 = some code36 := by kernel_rfl
theorem cf37 : cfunc Tryz.prog G0 37 = some code37 := by kernel_rfl
theorem cf39 : cfunc Tryz.prog G0 39 = some code39 := by kernel_rfl
theorem cf40 : cfunc Tryz.prog G0 40 = some code40 := by kernel_rfl
theorem cf41 : cfunc Tryz.prog G0 41 = some code41 := by kernel_rfl
theorem cf42 : cfunc Tryz.prog G0 42 = some code42 := by kernel_rfl
theorem cf43 : cfunc Tryz.prog G0 43 = some code43 := by kernel_rfl
theorem cf44 : cfunc Tryz.prog G0 44 = some code44 := by kernel_rfl
theorem cf45 : cfunc Tryz.prog G0 45 = some code45 := by kernel_rfl
theorem cf46 : cfunc Tryz.prog G0 46 = some code46 := by kernel_rfl
theorem cf47 : cfunc Tryz.prog G0 47 = some code47 := by kernel_rfl
theorem cf48 : cfunc Tryz.prog G0 48 = some code48 := by kernel_rfl
theorem cf49 : cfunc Tryz.prog G0 49 = some code49 := by kernel_rfl
theorem cf50 : cfunc Tryz.prog G0 50 = some code50 := by kernel_rfl
theorem cf51 : cfunc Tryz.prog G0 51 = some code51 := by kernel_rfl
theorem cf55 : cfunc Tryz.prog G0 55 = some code55 := by kernel_rfl
theorem cf56 : cfunc Tryz.prog G0 56 = some code56 := by kernel_rfl
theorem cf57 : cfunc Tryz.prog G0 57 = some code57 := by kernel_rfl
theorem cf58 : cfunc Tryz.prog G0 58 = some code58 := by kernel_rfl
theorem cf59 : cfunc Tryz.prog G0 59 = some code59 := by kernel_rfl
theorem cf60 : cfunc Tryz.prog G0 60 = some code60 := by kernel_rfl
theorem cf61 : cfunc Tryz.prog G0 61 = some code61 := by kernel_rfl
theorem cf62 : cfunc Tryz.prog G0 62 = some code62 := by kernel_rfl
theorem cf63 : cfunc Tryz.prog G0 63 = some code63 := by kernel_rfl
theorem cf64 : cfunc Tryz.prog G0 64 = some code64 := by kernel_rfl
theorem cf65 : cfunc Tryz.prog G0 65 = some code65 := by kernel_rfl
theorem cf66 : cfunc Tryz.prog G0 66 = some code66 := by kernel_rfl
theorem cf67 : cfunc Tryz.prog G0 67 = some code67 := by kernel_rfl
theorem cf68 : cfunc Tryz.prog G0 68 = some code68 := by kernel_rfl
theorem cf69 : cfunc Tryz.prog G0 69 = some code69 := by kernel_rfl
theorem cf70 : cfunc Tryz.prog G0 70 = some code70 := by kernel_rfl
theorem cf71 : cfunc Tryz.prog G0 71 = some code71 := by kernel_rfl
end Go.Proofs
namespace Go.Proofs
open Go Gv
set_option maxRecDepth 100000
theorem cf72 : cfunc Tryz.prog G0 72 = some code72 := by kernel_rfl
theorem cf73 : cfunc Tryz.prog G0 73 = some code73 := by kernel_rfl
theorem cf74 : cfunc Tryz.prog G0 74 = some code74 := by kernel_rfl
theorem cf75 : cfunc Tryz.prog G0 75 = some code75 := by kernel_rfl
theorem cf76 : cfunc Tryz.prog G0 76 = some code76 := by kernel_rfl
theorem cf82 : cfunc Tryz.prog G0 82 = some code82 := by kernel_rfl
theorem cf83 : cfunc Tryz.prog G0 83 = some code83 := by kernel_rfl
theorem cf85 : cfunc Tryz.prog G0 85 = some code85 := by kernel_rfl
theorem cf86 : cfunc Tryz.prog G0 86 = some code86 := by kernel_rfl
theorem cf87 : cfunc Tryz.prog G0 87 = some code87 := by kernel_rfl
theorem cf88 : cfunc Tryz.prog G0 88 = some code88 := by kernel_rfl
theorem cf89 : cfunc Tryz.prog G0 89 = some code89 := by kernel_rfl
theorem cf91 : cfunc Tryz.prog G0 91 = some code91 := by kernel_rfl
theorem cf92 : cfunc Tryz.prog G0 92 = some code92 := by kernel_rfl
theorem cf93 : cfunc Tryz.prog G0 93 = some code93 := by kernel_rfl
theorem cf94 : cfunc Tryz.prog G0 94 = some code94 := by kernel_rfl
theorem cf95 : cfunc Tryz.prog G0 95 = some code95 := by kernel_rfl
theorem cf96 : cfunc Tryz.prog G0 96 = some code96 := by kernel_rfl
theorem cf97 : cfunc Tryz.prog G0 97 = some code97 := by kernel_rfl
theorem cf98 : cfunc Tryz.prog G0 98 = some code98 := by kernel_rfl
theorem cf99 : cfunc Tryz.prog G0 99 = some code99 := by kernel_rfl
theorem cf100 : cfunc Tryz.prog G0 100 = some code100 := by kernel_rfl
theorem cf101 : cfunc Tryz.prog G0 101 = some code101 := by kernel_rfl
theorem cf102 : cfunc Tryz.prog G0 102 = some code102 := by kernel_rfl
theorem cf103 : cfunc Tryz.prog G0 103 = some code103 := by kernel_rfl
theorem cf104 : cfunc Tryz.prog G0 104 = some code104 := by kernel_rfl
theorem cf105 : cfunc Tryz.prog G0 105 = some code105 := by kernel_rfl
theorem cf106 : cfunc Tryz.prog G0 106 = some code106 := by kernel_rfl
theorem cf107 : cfunc Tryz.prog G0 107 = some code107 := by kernel_rfl
theorem cf108 : cfunc Tryz.prog G0 108 = some code108 := by kernel_rfl
theorem cf109 : cfunc Tryz.prog G0 109 = some code109 := by kernel_rfl
theorem cf110 : cfunc Tryz.prog G0 110 = some code110 := by kernel_rfl
theorem cf111 : cfunc Tryz.prog G0 111 = some code111 := by kernel_rfl
theorem cf112 : cfunc Tryz.prog G0 112 = some code112 := by kernel_rfl
theorem cf113 : cfunc Tryz.prog G0 113 = some code113 := by kernel_rfl
theorem cf114 : cfunc Tryz.prog G0 114 = some code114 := by kernel_rfl
theorem cf115 : cfunc Tryz.prog G0 115 = some code115 := by kernel_rfl
theorem cf116 : cfunc Tryz.prog G0 116 = some code116 := by kernel_rfl
theorem cf117 : cfunc Tryz.prog G0 117 = some code117 := by kernel_rfl
theorem cf118 : cfunc Tryz.prog G0 118 = some code118 := by kernel_rfl
theorem cf119 : cfunc Tryz.prog G0 119 = some code119 := by kernel_rfl
theorem cf120 : cfunc Tryz.prog G0 120 = some code120 := by kernel_rfl
theorem cf121 : cfunc Tryz.prog G0 121 = some code121 := by kernel_rfl
theorem cf127 : cfunc Tryz.prog G0 127 = some code127 := by kernel_rfl
theorem cf128 : cfunc Tryz.prog G0 128 = some code128 := by kernel_rfl
theorem cf129 : cfunc Tryz.prog G0 129 = some code129 := by kernel_rfl
theorem cf130 : cfunc Tryz.prog G0 130 = some code130 := by kernel_rfl
theorem cf131 : cfunc Tryz.prog G0 131 = some code131 := by kernel_rfl
theorem cf132 : cfunc Tryz.prog G0 132 = some code132 := by kernel_rfl
theorem cf133 : cfunc Tryz.prog G0 133 = some code133 := by kernel_rfl
theorem cf134 : cfunc Tryz.prog G0 134 = some code134 := by kernel_rfl
theorem cf135 : cfunc Tryz.prog G0 135 = some code135 := by kernel_rfl
end Go.Proofs
