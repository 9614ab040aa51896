/- Calls with slices, run once. No condition. -/
import Derived.Test.YtcgohilnkdnmoaaGreatZN
set_option linter.unusedVariables false
set_option linter.unusedSimpArgs false
namespace Go.Proofs.YtcgohilnkdnmoaaGreat
open Go Go.Ab Go.Proofs
noncomputable section
def restE : List (List MA × MR) := [([.s .i64 80 0, .s .i64 10 0xffffffffffffffd6400000000000001b3000000000000008940000000000000056000000000000004b00000000000000396ffffffffffffffdd3fffffffffffffe5c000000000000004d3ffffffffffffff43], .bl .i64 80 0 (some [.int .i64 0])),
  ([.s .i64 80 0, .s .i64 10 0xffffffffffffffabfffffffffffffff970000000000000012800000000000001dbffffffffffffffa83fffffffffffffed7ffffffffffffff5040000000000000350fffffffffffffff9c00000000000000e6], .bl .i64 80 0 (some [.int .i64 0])),
  ([.s .i64 80 0, .s .i64 10 0x60c00000000000000000000000000000061400000000000002dcfffffffffffffff9000000000000001c20000000000000076ffffffffffffffcd6ffffffffffffffd43fffffffffffffedb], .bl .i64 80 0 (some [.int .i64 0])),
  ([.s .i64 80 0, .s .i64 10 0x4100000000000000002ffffffffffffff8a4000000000000001a00000000000000348000000000000002effffffffffffff058000000000000003a000000000000002a400000000000000a6], .bl .i64 80 0 (some [.int .i64 0])),
  ([.s .i64 80 0, .s .i64 10 0xffffffffffffff9d7ffffffffffffffe9ffffffffffffff76fffffffffffffffe9000000000000006afffffffffffffffff000000000000011fbffffffffffffffd4ffffffffffffffc97ffffffffffffff5f], .bl .i64 80 0 (some [.int .i64 0])),
  ([.s .i64 80 0, .s .i64 10 0xffffffffffffffabc000000000000009100000000000000133fffffffffffffe56ffffffffffffffac0000000000000018dffffffffffffff597fffffffffffffd2cfffffffffffffffe00000000000000067], .bl .i64 80 0 (some [.int .i64 0])),
  ([.s .i64 80 0, .s .i64 10 0x6040000000000000014000000000000005d7fffffffffffffd25ffffffffffffffef7fffffffffffffe23000000000000007c400000000000002c9ffffffffffffffd83ffffffffffffffe2], .bl .i64 80 0 (some [.int .i64 0])),
  ([.s .i64 80 0, .s .i64 10 0x603ffffffffffffffe3000000000000005b800000000000002dbffffffffffffffeac00000000000001e8000000000000007dbfffffffffffffd5fffffffffffffffd8000000000000000a4], .bl .i64 80 0 (some [.int .i64 0])),
  ([.s .i64 80 0, .s .i64 10 0xffffffffffffffabfffffffffffffff800000000000000013000000000000001beffffffffffffffaaffffffffffffffe9bffffffffffffff5600000000000000306fffffffffffffffd00000000000000020], .bl .i64 80 0 (some [.int .i64 0])),
  ([.s .i64 80 0, .s .i64 10 0xffffffffffffff9d40000000000000029ffffffffffffff7680000000000000029000000000000006a40000000000000001000000000000011e80000000000000050ffffffffffffffc780000000000000126], .bl .i64 80 0 (some [.int .i64 0])),
  ([.s .i64 80 0, .s .i64 10 0x4100000000000000000ffffffffffffff8a7fffffffffffffffb0000000000000034ffffffffffffffff7ffffffffffffff063fffffffffffffff5000000000000002b3ffffffffffffffe1], .bl .i64 80 0 (some [.int .i64 0])),
  ([.s .i64 80 0, .s .i64 10 0xf40000000000000242ffffffffffffffc6fffffffffffffff22ffffffffffffffc83fffffffffffffd7700000000000000f3400000000000000e1000000000000006300000000000000064], .bl .i64 80 0 (some [.int .i64 0])),
  ([.s .i64 80 0, .s .i64 10 0xffffffffffffffabc000000000000007900000000000000133fffffffffffffe38ffffffffffffffaa00000000000000152ffffffffffffff54bfffffffffffffce2fffffffffffffffc7ffffffffffffffa1], .bl .i64 80 0 (some [.int .i64 0])),
  ([.s .i64 80 0, .s .i64 10 0xffffffffffffffd6ffffffffffffffe52000000000000008cfffffffffffffffa7000000000000004f3fffffffffffffc79ffffffffffffffdd800000000000001c6000000000000004b40000000000000142], .bl .i64 80 0 (some [.int .i64 0])),
  ([.s .i64 80 0, .s .i64 10 0x60bffffffffffffffef000000000000005e000000000000002dafffffffffffffff1400000000000001d8000000000000007bbfffffffffffffd25ffffffffffffffd7fffffffffffffffe0], .bl .i64 80 0 (some [.int .i64 0])),
  ([.s .i64 80 0, .s .i64 10 0xffffffffffffffabfffffffffffffff680000000000000013000000000000001a1ffffffffffffffacbfffffffffffffe61ffffffffffffff5a400000000000002bdfffffffffffffffe3ffffffffffffff59], .bl .i64 80 0 (some [.int .i64 0]))]
def powE : List (List MA × MR) := [([.s .i64 80 0], .sc (.int .i64 0))]
def sndE : List (List MA × MR) := [([.s .i64 80 0], .bl .i64 80 0 none)]
def fitE : List (List MA × MR) := [([.s .i64 10 0xffffffffffffffd6400000000000001b3000000000000008940000000000000056000000000000004b00000000000000396ffffffffffffffdd3fffffffffffffe5c000000000000004d3ffffffffffffff43], .bl .i64 10 0xffffffffffffffd6400000000000001b3000000000000008940000000000000056000000000000004b00000000000000396ffffffffffffffdd3fffffffffffffe5c000000000000004d3ffffffffffffff43 none),
  ([.s .i64 10 0xffffffffffffffabfffffffffffffff970000000000000012800000000000001dbffffffffffffffa83fffffffffffffed7ffffffffffffff5040000000000000350fffffffffffffff9c00000000000000e6], .bl .i64 10 0xffffffffffffffabfffffffffffffff970000000000000012800000000000001dbffffffffffffffa83fffffffffffffed7ffffffffffffff5040000000000000350fffffffffffffff9c00000000000000e6 none),
  ([.s .i64 10 0x60c00000000000000000000000000000061400000000000002dcfffffffffffffff9000000000000001c20000000000000076ffffffffffffffcd6ffffffffffffffd43fffffffffffffedb], .bl .i64 10 0x60c00000000000000000000000000000061400000000000002dcfffffffffffffff9000000000000001c20000000000000076ffffffffffffffcd6ffffffffffffffd43fffffffffffffedb none),
  ([.s .i64 10 0x4100000000000000002ffffffffffffff8a4000000000000001a00000000000000348000000000000002effffffffffffff058000000000000003a000000000000002a400000000000000a6], .bl .i64 10 0x4100000000000000002ffffffffffffff8a4000000000000001a00000000000000348000000000000002effffffffffffff058000000000000003a000000000000002a400000000000000a6 none),
  ([.s .i64 10 0xffffffffffffff9d7ffffffffffffffe9ffffffffffffff76fffffffffffffffe9000000000000006afffffffffffffffff000000000000011fbffffffffffffffd4ffffffffffffffc97ffffffffffffff5f], .bl .i64 10 0xffffffffffffff9d7ffffffffffffffe9ffffffffffffff76fffffffffffffffe9000000000000006afffffffffffffffff000000000000011fbffffffffffffffd4ffffffffffffffc97ffffffffffffff5f none),
  ([.s .i64 10 0xffffffffffffffabc000000000000009100000000000000133fffffffffffffe56ffffffffffffffac0000000000000018dffffffffffffff597fffffffffffffd2cfffffffffffffffe00000000000000067], .bl .i64 10 0xffffffffffffffabc000000000000009100000000000000133fffffffffffffe56ffffffffffffffac0000000000000018dffffffffffffff597fffffffffffffd2cfffffffffffffffe00000000000000067 none),
  ([.s .i64 10 0x6040000000000000014000000000000005d7fffffffffffffd25ffffffffffffffef7fffffffffffffe23000000000000007c400000000000002c9ffffffffffffffd83ffffffffffffffe2], .bl .i64 10 0x6040000000000000014000000000000005d7fffffffffffffd25ffffffffffffffef7fffffffffffffe23000000000000007c400000000000002c9ffffffffffffffd83ffffffffffffffe2 none),
  ([.s .i64 10 0x603ffffffffffffffe3000000000000005b800000000000002dbffffffffffffffeac00000000000001e8000000000000007dbfffffffffffffd5fffffffffffffffd8000000000000000a4], .bl .i64 10 0x603ffffffffffffffe3000000000000005b800000000000002dbffffffffffffffeac00000000000001e8000000000000007dbfffffffffffffd5fffffffffffffffd8000000000000000a4 none),
  ([.s .i64 10 0xffffffffffffffabfffffffffffffff800000000000000013000000000000001beffffffffffffffaaffffffffffffffe9bffffffffffffff5600000000000000306fffffffffffffffd00000000000000020], .bl .i64 10 0xffffffffffffffabfffffffffffffff800000000000000013000000000000001beffffffffffffffaaffffffffffffffe9bffffffffffffff5600000000000000306fffffffffffffffd00000000000000020 none),
  ([.s .i64 10 0xffffffffffffff9d40000000000000029ffffffffffffff7680000000000000029000000000000006a40000000000000001000000000000011e80000000000000050ffffffffffffffc780000000000000126], .bl .i64 10 0xffffffffffffff9d40000000000000029ffffffffffffff7680000000000000029000000000000006a40000000000000001000000000000011e80000000000000050ffffffffffffffc780000000000000126 none),
  ([.s .i64 10 0x4100000000000000000ffffffffffffff8a7fffffffffffffffb0000000000000034ffffffffffffffff7ffffffffffffff063fffffffffffffff5000000000000002b3ffffffffffffffe1], .bl .i64 10 0x4100000000000000000ffffffffffffff8a7fffffffffffffffb0000000000000034ffffffffffffffff7ffffffffffffff063fffffffffffffff5000000000000002b3ffffffffffffffe1 none),
  ([.s .i64 10 0xf40000000000000242ffffffffffffffc6fffffffffffffff22ffffffffffffffc83fffffffffffffd7700000000000000f3400000000000000e1000000000000006300000000000000064], .bl .i64 10 0xf40000000000000242ffffffffffffffc6fffffffffffffff22ffffffffffffffc83fffffffffffffd7700000000000000f3400000000000000e1000000000000006300000000000000064 none),
  ([.s .i64 10 0xffffffffffffffabc000000000000007900000000000000133fffffffffffffe38ffffffffffffffaa00000000000000152ffffffffffffff54bfffffffffffffce2fffffffffffffffc7ffffffffffffffa1], .bl .i64 10 0xffffffffffffffabc000000000000007900000000000000133fffffffffffffe38ffffffffffffffaa00000000000000152ffffffffffffff54bfffffffffffffce2fffffffffffffffc7ffffffffffffffa1 none),
  ([.s .i64 10 0xffffffffffffffd6ffffffffffffffe52000000000000008cfffffffffffffffa7000000000000004f3fffffffffffffc79ffffffffffffffdd800000000000001c6000000000000004b40000000000000142], .bl .i64 10 0xffffffffffffffd6ffffffffffffffe52000000000000008cfffffffffffffffa7000000000000004f3fffffffffffffc79ffffffffffffffdd800000000000001c6000000000000004b40000000000000142 none),
  ([.s .i64 10 0x60bffffffffffffffef000000000000005e000000000000002dafffffffffffffff1400000000000001d8000000000000007bbfffffffffffffd25ffffffffffffffd7fffffffffffffffe0], .bl .i64 10 0x60bffffffffffffffef000000000000005e000000000000002dafffffffffffffff1400000000000001d8000000000000007bbfffffffffffffd25ffffffffffffffd7fffffffffffffffe0 none),
  ([.s .i64 10 0xffffffffffffffabfffffffffffffff680000000000000013000000000000001a1ffffffffffffffacbfffffffffffffe61ffffffffffffff5a400000000000002bdfffffffffffffffe3ffffffffffffff59], .bl .i64 10 0xffffffffffffffabfffffffffffffff680000000000000013000000000000001a1ffffffffffffffacbfffffffffffffe61ffffffffffffff5a400000000000002bdfffffffffffffffe3ffffffffffffff59 none)]
def stabE : List (List MA × MR) := [([.s .i64 10 0xffffffffffffffd6400000000000001b3000000000000008940000000000000056000000000000004b00000000000000396ffffffffffffffdd3fffffffffffffe5c000000000000004d3ffffffffffffff43], .sc (.bool true)),
  ([.s .i64 10 0xffffffffffffffabfffffffffffffff970000000000000012800000000000001dbffffffffffffffa83fffffffffffffed7ffffffffffffff5040000000000000350fffffffffffffff9c00000000000000e6], .sc (.bool true)),
  ([.s .i64 10 0x60c00000000000000000000000000000061400000000000002dcfffffffffffffff9000000000000001c20000000000000076ffffffffffffffcd6ffffffffffffffd43fffffffffffffedb], .sc (.bool true)),
  ([.s .i64 10 0x4100000000000000002ffffffffffffff8a4000000000000001a00000000000000348000000000000002effffffffffffff058000000000000003a000000000000002a400000000000000a6], .sc (.bool true)),
  ([.s .i64 10 0xffffffffffffff9d7ffffffffffffffe9ffffffffffffff76fffffffffffffffe9000000000000006afffffffffffffffff000000000000011fbffffffffffffffd4ffffffffffffffc97ffffffffffffff5f], .sc (.bool true)),
  ([.s .i64 10 0xffffffffffffffabc000000000000009100000000000000133fffffffffffffe56ffffffffffffffac0000000000000018dffffffffffffff597fffffffffffffd2cfffffffffffffffe00000000000000067], .sc (.bool true)),
  ([.s .i64 10 0x6040000000000000014000000000000005d7fffffffffffffd25ffffffffffffffef7fffffffffffffe23000000000000007c400000000000002c9ffffffffffffffd83ffffffffffffffe2], .sc (.bool true)),
  ([.s .i64 10 0x603ffffffffffffffe3000000000000005b800000000000002dbffffffffffffffeac00000000000001e8000000000000007dbfffffffffffffd5fffffffffffffffd8000000000000000a4], .sc (.bool true)),
  ([.s .i64 10 0xffffffffffffffabfffffffffffffff800000000000000013000000000000001beffffffffffffffaaffffffffffffffe9bffffffffffffff5600000000000000306fffffffffffffffd00000000000000020], .sc (.bool true)),
  ([.s .i64 10 0xffffffffffffff9d40000000000000029ffffffffffffff7680000000000000029000000000000006a40000000000000001000000000000011e80000000000000050ffffffffffffffc780000000000000126], .sc (.bool true)),
  ([.s .i64 10 0x4100000000000000000ffffffffffffff8a7fffffffffffffffb0000000000000034ffffffffffffffff7ffffffffffffff063fffffffffffffff5000000000000002b3ffffffffffffffe1], .sc (.bool true)),
  ([.s .i64 10 0xf40000000000000242ffffffffffffffc6fffffffffffffff22ffffffffffffffc83fffffffffffffd7700000000000000f3400000000000000e1000000000000006300000000000000064], .sc (.bool true)),
  ([.s .i64 10 0xffffffffffffffabc000000000000007900000000000000133fffffffffffffe38ffffffffffffffaa00000000000000152ffffffffffffff54bfffffffffffffce2fffffffffffffffc7ffffffffffffffa1], .sc (.bool true)),
  ([.s .i64 10 0xffffffffffffffd6ffffffffffffffe52000000000000008cfffffffffffffffa7000000000000004f3fffffffffffffc79ffffffffffffffdd800000000000001c6000000000000004b40000000000000142], .sc (.bool true)),
  ([.s .i64 10 0x60bffffffffffffffef000000000000005e000000000000002dafffffffffffffff1400000000000001d8000000000000007bbfffffffffffffd25ffffffffffffffd7fffffffffffffffe0], .sc (.bool true)),
  ([.s .i64 10 0xffffffffffffffabfffffffffffffff680000000000000013000000000000001a1ffffffffffffffacbfffffffffffffe61ffffffffffffff5a400000000000002bdfffffffffffffffe3ffffffffffffff59], .sc (.bool true))]
def polyE : List (List MA × MR) := [([.s .i64 5 0x3fffffffffffe4c44ffffffffffffc2ed000000000000056dc00000000000051950000000000001f48c], .bl .i64 6 0xffffffffffffbb4d8000000000000c6a3ffffffffffffcf2e4000000000000bb36ffffffffffffc59300000000000010000 none),
  ([.s .i64 5 0x3fffffffffffe15c0ffffffffffffa8083ffffffffffffd21000000000000035730000000000001a0e0], .bl .i64 6 0x4b5940000000000015405000000000000517780000000000010954000000000000405900000000000010000 none),
  ([.s .i64 5 0x3fffffffffffe5dccffffffffffffca0700000000000002ba4000000000000578c0000000000001e994], .bl .i64 6 0xffffffffffffb7d000000000000014949ffffffffffffb13d00000000000010168ffffffffffffc1ac00000000000010000 none),
  ([.s .i64 5 0x3fffffffffffe1fdcffffffffffffadfa3ffffffffffffa6e00000000000003c910000000000001b288], .bl .i64 6 0x3b57c000000000000f0ca00000000000029cc0000000000000d793000000000000372400000000000010000 none),
  ([.s .i64 5 0x3fffffffffffe4630ffffffffffffd15700000000000004b380000000000004f4a0000000000001f1f0], .bl .i64 6 0xffffffffffffce9dc000000000000ab2effffffffffffc25a400000000000110dfffffffffffffbe8900000000000010000 none),
  ([.s .i64 5 0x3fffffffffffe127cffffffffffffa5eb3ffffffffffffc65800000000000032c2000000000000199ec], .bl .i64 6 0x5ca9c00000000000190900000000000006022400000000000135990000000000004aa300000000000010000 none),
  ([.s .i64 5 0x3fffffffffffe571cffffffffffffc75f00000000000006a8400000000000055600000000000001e600], .bl .i64 6 0xffffffffffffaf3a8000000000001331bffffffffffffc27b00000000000010fecffffffffffffb95900000000000010000 none),
  ([.s .i64 5 0x3fffffffffffe1be4ffffffffffffabbc3ffffffffffff9b4c00000000000039f50000000000001ac2c], .bl .i64 6 0x493700000000000011aa3000000000000369ac000000000000fb76000000000000417800000000000010000 none),
  ([.s .i64 5 0x3fffffffffffe405cffffffffffffce9c00000000000003f8c0000000000004cf50000000000001ef10], .bl .i64 6 0xffffffffffffd91ec00000000000080daffffffffffffce2d4000000000000ec57ffffffffffffc8b100000000000010000 none),
  ([.s .i64 5 0x3fffffffffffe0f78ffffffffffffb1e13ffffffffffffbaa8000000000000300a0000000000001bcc8], .bl .i64 6 0x2be3800000000000094ce00000000000037898000000000000fdb10000000000003c5b00000000000010000 none),
  ([.s .i64 5 0x3fffffffffffe50a4ffffffffffffc4bf00000000000005ef800000000000053290000000000001e22c], .bl .i64 6 0xffffffffffffbddac00000000000104c5ffffffffffffcfe64000000000000e8e0ffffffffffffc3a600000000000010000 none),
  ([.s .i64 5 0x3fffffffffffe1830ffffffffffffa98b3ffffffffffffda4800000000000037500000000000001a59c], .bl .i64 6 0x405840000000000012f2400000000000048058000000000000ee0e000000000000392000000000000010000 none),
  ([.s .i64 5 0x3fffffffffffe629cffffffffffffcbe8000000000000033d8000000000000590a0000000000001ebf0], .bl .i64 6 0xffffffffffffac2900000000000017161ffffffffffffa74f40000000000011ee6ffffffffffffba7500000000000010000 none),
  ([.s .i64 5 0x3fffffffffffe0cbcffffffffffffaf923ffffffffffffaf000000000000002d4c0000000000001b6d4], .bl .i64 6 0x37370000000000000c34500000000000043fe8000000000001253d000000000000467e00000000000010000 none),
  ([.s .i64 5 0x3fffffffffffe4a6cffffffffffffd3440000000000000536000000000000050e60000000000001f3cc], .bl .i64 6 0xffffffffffffc63dc000000000000cdd3ffffffffffffb94980000000000012e0dffffffffffffb77000000000000010000 none),
  ([.s .i64 5 0x3fffffffffffe14bcffffffffffffa7653ffffffffffffce8c00000000000034a500000000000019ed0], .bl .i64 6 0x50548000000000001652300000000000055b6400000000000115f2000000000000437000000000000010000 none),
  ([.s .i64 5 0x3fffffffffffe5bc4ffffffffffffc93b0000000000000281c00000000000056e70000000000001e888], .bl .i64 6 0xffffffffffffbc880000000000001397affffffffffffb5484000000000000f5b6ffffffffffffc4c400000000000010000 none),
  ([.s .i64 5 0x3fffffffffffe1ea4ffffffffffffad4d3ffffffffffffa3640000000000003bc90000000000001b0a4], .bl .i64 6 0x3f5f0000000000000fc780000000000002d874000000000000e1b70000000000003a3f00000000000010000 none),
  ([.s .i64 5 0x3fffffffffffe446cffffffffffffd084000000000000047b80000000000004e980000000000001f11c], .bl .i64 6 0xffffffffffffd1eb80000000000009daeffffffffffffc605c0000000000010548ffffffffffffc19400000000000010000 none),
  ([.s .i64 5 0x3fffffffffffe118cffffffffffffb3863ffffffffffffc2d800000000000031f20000000000001c0d0], .bl .i64 6 0x24e60000000000000791a0000000000002f8a4000000000000e595000000000000353b00000000000010000 none),
  ([.s .i64 5 0x3fffffffffffe5524ffffffffffffc6950000000000000671000000000000054b70000000000001e4e0], .bl .i64 6 0xffffffffffffb3c980000000000012437ffffffffffffc6a50000000000001038fffffffffffffbc6f00000000000010000 none),
  ([.s .i64 5 0x3fffffffffffe1ac4ffffffffffffab133ffffffffffff97d4000000000000392b0000000000001aa3c], .bl .i64 6 0x4da6400000000000128e20000000000003aaa8000000000001076f000000000000448d00000000000010000 none),
  ([.s .i64 5 0x3fffffffffffe3ea8ffffffffffffcdcb00000000000003c0c0000000000005a820000000000001ee28], .bl .i64 6 0xffffffffffffe62600000000000009dfbffffffffffffccc58000000000000cd2affffffffffffbd7c00000000000010000 none),
  ([.s .i64 5 0x3fffffffffffe0ea0ffffffffffffb12f3ffffffffffffb7280000000000002f390000000000001bb04], .bl .i64 6 0x2f1ec000000000000a1e80000000000003b23000000000000108ec0000000000003f6500000000000010000 none),
  ([.s .i64 5 0x3fffffffffffe4ec0ffffffffffffc3f700000000000005b80000000000000527c0000000000001e0f8], .bl .i64 6 0xffffffffffffc1f00000000000000f8a6ffffffffffffd3aec000000000000de69ffffffffffffc6bf00000000000010000 none),
  ([.s .i64 5 0x3fffffffffffe1720ffffffffffffa8e43ffffffffffffd6c400000000000036840000000000001a398], .bl .i64 6 0x44f4c0000000000013e690000000000004bfec000000000000f95c0000000000003c3900000000000010000 none),
  ([.s .i64 5 0x3fffffffffffe6088ffffffffffffcb190000000000000305400000000000058670000000000001eaf0], .bl .i64 6 0xffffffffffffb14500000000000015f99ffffffffffffaba7000000000000111ddffffffffffffbd8d00000000000010000 none),
  ([.s .i64 5 0x3fffffffffffe0bf8ffffffffffffaee23ffffffffffffab840000000000003d9a0000000000001b500], .bl .i64 6 0x427cc000000000000bdc70000000000002eaf0000000000000b3e9000000000000386500000000000010000 none),
  ([.s .i64 5 0x3fffffffffffe4898ffffffffffffd27000000000000004fe000000000000050360000000000001f304], .bl .i64 6 0xffffffffffffc9f00000000000000be77ffffffffffffbd414000000000001212cffffffffffffba7b00000000000010000 none),
  ([.s .i64 5 0x3fffffffffffe13c0ffffffffffffa6c23ffffffffffffcb0800000000000033d600000000000019cbc], .bl .i64 6 0x557dc00000000000177290000000000005a1780000000000012323000000000000468700000000000010000 none),
  ([.s .i64 5 0x3fffffffffffe59c0ffffffffffffc86e0000000000000249800000000000056400000000000001e778], .bl .i64 6 0xffffffffffffc118c0000000000012a70ffffffffffffb93a0000000000000ea89ffffffffffffc7de00000000000010000 none),
  ([.s .i64 5 0x3fffffffffffe1d74ffffffffffffaca03ffffffffffff9fec0000000000003b010000000000001aec0], .bl .i64 6 0x437a400000000000108cf0000000000003154c000000000000ec580000000000003d5700000000000010000 none)]
def kept_kA (f : FuncId) (l : List (List MA × MR)) : Bool := l.all fun p => memoOk (callK Tryz.prog 100000 SL (hkU hk1) 60) f p.1 p.2
theorem rest_run : kept_kA 151 restE = true := by kernel_rfl
theorem pow_run : kept_kA 213 powE = true := by kernel_rfl
theorem snd_run : kept_kA 220 sndE = true := by kernel_rfl
theorem fit_run : kept_kA 219 fitE = true := by kernel_rfl
theorem stab_run : kept_kA 280 stabE = true := by kernel_rfl
theorem poly_run : kept_kA 218 polyE = true := by kernel_rfl
def kAL : List (Nat × List (List MA × MR)) := [(151, restE), (213, powE), (220, sndE), (219, fitE), (280, stabE), (218, polyE)]
theorem kAL_ok : ∀ p ∈ kAL, ∀ q ∈ p.2, memoOk (callK Tryz.prog 100000 SL (hkU hk1) 60) p.1 q.1 q.2 = true := fun p hp => by
  unfold kAL at hp
  simp only [List.mem_cons, List.not_mem_nil, or_false] at hp
  rcases hp with rfl | rfl | rfl | rfl | rfl | rfl
  · exact List.all_eq_true.1 rest_run
  · exact List.all_eq_true.1 pow_run
  · exact List.all_eq_true.1 snd_run
  · exact List.all_eq_true.1 fit_run
  · exact List.all_eq_true.1 stab_run
  · exact List.all_eq_true.1 poly_run
def kA (hk : CallI) : CallI := hkX (2 ^ 151 + 2 ^ 213 + 2 ^ 220 + 2 ^ 219 + 2 ^ 280 + 2 ^ 218) kAL hk
theorem kA_ok {hk : CallI} (h : HkOk Tryz.prog hk) : HkOk Tryz.prog (kA hk) := hkX_ok (calls_ok hk1_ok) kAL_ok h
end
end Go.Proofs.YtcgohilnkdnmoaaGreat
