/- Printed by wip/tools/tab.py: the table of the types of the program. -/
import Derived.Test.YtocalihefpafgaaA14
import Derived.Test.YtocalihefpafgaaProg
import Derived.KernelRfl
set_option maxRecDepth 100000
set_option linter.unusedVariables false
namespace Go.AW
open Go.Proofs

def ty1 : TI := ⟨.func, 1, 8, [.nilf], false⟩
def ty2 : TI := ⟨.int .i64, 1, 8, [.int .i64 0], false⟩
def ty3 : TI := ⟨.int .i64, 1, 8, [.int .i64 0], false⟩
def ty4 : TI := ⟨.bool, 1, 1, [.bool false], false⟩
def ty5 : TI := ⟨.int .u8, 1, 1, [.int .u8 0], false⟩
def ty6 : TI := ⟨.int .u8, 1, 1, [.int .u8 0], false⟩
def ty7 : TI := ⟨.struct [(0, 2), (1, 3), (2, 4), (3, 6)], 4, 24, [.int .i64 0, .int .i64 0, .bool false, .int .u8 0], false⟩
def ty8 : TI := ⟨.struct [(0, 2), (1, 3), (2, 4), (3, 6)], 4, 24, [.int .i64 0, .int .i64 0, .bool false, .int .u8 0], false⟩
def ty9 : TI := ⟨.str, 1, 16, [.str ByteArray.empty], false⟩
def ty10 : TI := ⟨.str, 1, 16, [.str ByteArray.empty], false⟩
def ty11 : TI := ⟨.str, 1, 16, [.str ByteArray.empty], false⟩
def ty12 : TI := ⟨.int .u64, 1, 8, [.int .u64 0], false⟩
def ty13 : TI := ⟨.struct [(0, 9), (1, 12)], 2, 24, [.str ByteArray.empty, .int .u64 0], false⟩
def ty14 : TI := ⟨.struct [(0, 9), (1, 12)], 2, 24, [.str ByteArray.empty, .int .u64 0], false⟩
def ty15 : TI := ⟨.ptr 211, 1, 8, [.nilp], false⟩
def ty16 : TI := ⟨.ptr 214, 1, 8, [.nilp], false⟩
def ty17 : TI := ⟨.ptr 224, 1, 8, [.nilp], false⟩
def ty18 : TI := ⟨.struct [(0, 17)], 1, 8, [.nilp], false⟩
def ty19 : TI := ⟨.struct [(0, 17)], 1, 8, [.nilp], false⟩
def ty21 : TI := ⟨.int .i32, 1, 4, [.int .i32 0], false⟩
def ty22 : TI := ⟨.sl 25, 1, 24, [.nilsl], false⟩
def ty23 : TI := ⟨.func, 1, 8, [.nilf], false⟩
def ty24 : TI := ⟨.func, 1, 8, [.nilf], false⟩
def ty25 : TI := ⟨.int .u64, 1, 8, [.int .u64 0], false⟩
def ty26 : TI := ⟨.func, 1, 8, [.nilf], false⟩
def ty27 : TI := ⟨.func, 1, 8, [.nilf], false⟩
def ty28 : TI := ⟨.func, 1, 8, [.nilf], false⟩
def ty29 : TI := ⟨.sl 39, 1, 24, [.nilsl], false⟩
def ty30 : TI := ⟨.ptr 36, 1, 8, [.nilp], false⟩
def ty31 : TI := ⟨.func, 1, 8, [.nilf], false⟩
def ty32 : TI := ⟨.ptr 34, 1, 8, [.nilp], false⟩
def ty33 : TI := ⟨.struct [(0, 25)], 1, 8, [.int .u64 0], false⟩
def ty34 : TI := ⟨.struct [(0, 25)], 1, 8, [.int .u64 0], false⟩
def ty35 : TI := ⟨.struct [(0, 25)], 1, 8, [.int .u64 0], false⟩
def ty36 : TI := ⟨.struct [(0, 25)], 1, 8, [.int .u64 0], false⟩
def ty37 : TI := ⟨.func, 1, 8, [.nilf], false⟩
def ty38 : TI := ⟨.struct [(0, 3), (1, 25), (2, 4)], 3, 24, [.int .i64 0, .int .u64 0, .bool false], false⟩
def ty39 : TI := ⟨.struct [(0, 3), (1, 25), (2, 4)], 3, 24, [.int .i64 0, .int .u64 0, .bool false], false⟩
def ty40 : TI := ⟨.int .i64, 1, 8, [.int .i64 0], false⟩
def ty42 : TI := ⟨.func, 1, 8, [.nilf], false⟩
def ty44 : TI := ⟨.func, 1, 8, [.nilf], false⟩
def ty45 : TI := ⟨.func, 1, 8, [.nilf], false⟩
def ty46 : TI := ⟨.func, 1, 8, [.nilf], false⟩
def ty47 : TI := ⟨.func, 1, 8, [.nilf], false⟩
def ty48 : TI := ⟨.sl 4, 1, 24, [.nilsl], false⟩
def ty49 : TI := ⟨.func, 1, 8, [.nilf], false⟩
def ty50 : TI := ⟨.func, 1, 8, [.nilf], false⟩
def ty51 : TI := ⟨.struct [(0, 4), (1, 9)], 2, 24, [.bool false, .str ByteArray.empty], false⟩
def ty52 : TI := ⟨.struct [(0, 4), (1, 9)], 2, 24, [.bool false, .str ByteArray.empty], true⟩
def ty53 : TI := ⟨.arr 8 52, 16, 192, (List.replicate 8 [.bool false, .str ByteArray.empty]).flatten, true⟩
def ty54 : TI := ⟨.struct [(0, 25), (1, 53)], 17, 200, [.int .u64 0, .bool false, .str ByteArray.empty, .bool false, .str ByteArray.empty, .bool false, .str ByteArray.empty, .bool false, .str ByteArray.empty, .bool false, .str ByteArray.empty, .bool false, .str ByteArray.empty, .bool false, .str ByteArray.empty, .bool false, .str ByteArray.empty], false⟩
def ty55 : TI := ⟨.struct [(0, 25), (1, 53)], 17, 200, [.int .u64 0, .bool false, .str ByteArray.empty, .bool false, .str ByteArray.empty, .bool false, .str ByteArray.empty, .bool false, .str ByteArray.empty, .bool false, .str ByteArray.empty, .bool false, .str ByteArray.empty, .bool false, .str ByteArray.empty, .bool false, .str ByteArray.empty], true⟩
def ty56 : TI := ⟨.struct [(0, 3), (1, 3), (2, 3), (3, 9), (4, 9)], 5, 56, [.int .i64 0, .int .i64 0, .int .i64 0, .str ByteArray.empty, .str ByteArray.empty], false⟩
def ty57 : TI := ⟨.struct [(0, 3), (1, 3), (2, 3), (3, 9), (4, 9)], 5, 56, [.int .i64 0, .int .i64 0, .int .i64 0, .str ByteArray.empty, .str ByteArray.empty], true⟩
def ty59 : TI := ⟨.func, 1, 8, [.nilf], false⟩
def ty61 : TI := ⟨.func, 1, 8, [.nilf], false⟩
def ty62 : TI := ⟨.func, 1, 8, [.nilf], false⟩
def ty63 : TI := ⟨.func, 1, 8, [.nilf], false⟩
def ty64 : TI := ⟨.func, 1, 8, [.nilf], false⟩
def ty65 : TI := ⟨.sl 126, 1, 24, [.nilsl], false⟩
def ty66 : TI := ⟨.func, 1, 8, [.nilf], false⟩
def ty68 : TI := ⟨.func, 1, 8, [.nilf], false⟩
def ty69 : TI := ⟨.func, 1, 8, [.nilf], false⟩
def ty71 : TI := ⟨.func, 1, 8, [.nilf], false⟩
def ty73 : TI := ⟨.func, 1, 8, [.nilf], false⟩
def ty74 : TI := ⟨.func, 1, 8, [.nilf], false⟩
def ty75 : TI := ⟨.sl 182, 1, 24, [.nilsl], false⟩
def ty76 : TI := ⟨.int .u64, 1, 8, [.int .u64 0], false⟩
def ty77 : TI := ⟨.ptr 95, 1, 8, [.nilp], false⟩
def ty78 : TI := ⟨.func, 1, 8, [.nilf], false⟩
def ty80 : TI := ⟨.func, 1, 8, [.nilf], false⟩
def ty81 : TI := ⟨.sl 109, 1, 24, [.nilsl], false⟩
def ty82 : TI := ⟨.sl 55, 1, 24, [.nilsl], false⟩
def ty83 : TI := ⟨.sl 82, 1, 24, [.nilsl], false⟩
def ty84 : TI := ⟨.arr 3 25, 3, 24, (List.replicate 3 [.int .u64 0]).flatten, false⟩
def ty85 : TI := ⟨.arr 3 3, 3, 24, (List.replicate 3 [.int .i64 0]).flatten, false⟩
def ty86 : TI := ⟨.struct [(0, 3), (1, 3), (2, 25), (3, 25)], 4, 32, [.int .i64 0, .int .i64 0, .int .u64 0, .int .u64 0], false⟩
def ty87 : TI := ⟨.struct [(0, 3), (1, 3), (2, 25), (3, 25)], 4, 32, [.int .i64 0, .int .i64 0, .int .u64 0, .int .u64 0], false⟩
def ty88 : TI := ⟨.arr 3 87, 12, 96, (List.replicate 3 [.int .i64 0, .int .i64 0, .int .u64 0, .int .u64 0]).flatten, false⟩
def ty89 : TI := ⟨.arr 3 88, 36, 288, (List.replicate 3 (List.replicate 3 [.int .i64 0, .int .i64 0, .int .u64 0, .int .u64 0]).flatten).flatten, false⟩
def ty90 : TI := ⟨.struct [(0, 3), (1, 3), (2, 52)], 4, 40, [.int .i64 0, .int .i64 0, .bool false, .str ByteArray.empty], false⟩
def ty91 : TI := ⟨.struct [(0, 3), (1, 3), (2, 52)], 4, 40, [.int .i64 0, .int .i64 0, .bool false, .str ByteArray.empty], false⟩
def ty92 : TI := ⟨.arr 8 91, 32, 320, (List.replicate 8 [.int .i64 0, .int .i64 0, .bool false, .str ByteArray.empty]).flatten, false⟩
def ty93 : TI := ⟨.arr 4 92, 128, 1280, (List.replicate 4 (List.replicate 8 [.int .i64 0, .int .i64 0, .bool false, .str ByteArray.empty]).flatten).flatten, false⟩
def ty94 : TI := ⟨.struct [(0, 81), (1, 82), (2, 83), (3, 84), (6, 85), (9, 89), (45, 93), (173, 25)], 174, 1696, ([.nilsl] ++ [.nilsl] ++ [.nilsl] ++ (List.replicate 3 [.int .u64 0]).flatten ++ (List.replicate 3 [.int .i64 0]).flatten ++ (List.replicate 3 (List.replicate 3 [.int .i64 0, .int .i64 0, .int .u64 0, .int .u64 0]).flatten).flatten ++ (List.replicate 4 (List.replicate 8 [.int .i64 0, .int .i64 0, .bool false, .str ByteArray.empty]).flatten).flatten ++ [.int .u64 0]), false⟩
def ty95 : TI := ⟨.struct [(0, 81), (1, 82), (2, 83), (3, 84), (6, 85), (9, 89), (45, 93), (173, 25)], 174, 1696, ([.nilsl] ++ [.nilsl] ++ [.nilsl] ++ (List.replicate 3 [.int .u64 0]).flatten ++ (List.replicate 3 [.int .i64 0]).flatten ++ (List.replicate 3 (List.replicate 3 [.int .i64 0, .int .i64 0, .int .u64 0, .int .u64 0]).flatten).flatten ++ (List.replicate 4 (List.replicate 8 [.int .i64 0, .int .i64 0, .bool false, .str ByteArray.empty]).flatten).flatten ++ [.int .u64 0]), false⟩
def ty96 : TI := ⟨.func, 1, 8, [.nilf], false⟩
def ty97 : TI := ⟨.func, 1, 8, [.nilf], false⟩
def ty98 : TI := ⟨.func, 1, 8, [.nilf], false⟩
def ty99 : TI := ⟨.func, 1, 8, [.nilf], false⟩
def ty100 : TI := ⟨.sl 103, 1, 24, [.nilsl], false⟩
def ty101 : TI := ⟨.sl 57, 1, 24, [.nilsl], false⟩
def ty102 : TI := ⟨.struct [(0, 3), (1, 4), (2, 9)], 3, 32, [.int .i64 0, .bool false, .str ByteArray.empty], false⟩
def ty103 : TI := ⟨.struct [(0, 3), (1, 4), (2, 9)], 3, 32, [.int .i64 0, .bool false, .str ByteArray.empty], true⟩
def ty104 : TI := ⟨.func, 1, 8, [.nilf], false⟩
def ty105 : TI := ⟨.func, 1, 8, [.nilf], false⟩
def ty107 : TI := ⟨.func, 1, 8, [.nilf], false⟩
def ty108 : TI := ⟨.func, 1, 8, [.nilf], false⟩
def ty109 : TI := ⟨.sl 113, 1, 24, [.nilsl], false⟩
def ty110 : TI := ⟨.sl 189, 1, 24, [.nilsl], false⟩
def ty111 : TI := ⟨.sl 191, 1, 24, [.nilsl], false⟩
def ty112 : TI := ⟨.struct [(0, 3), (1, 25), (2, 3), (3, 25), (4, 57), (9, 25), (10, 3), (11, 25), (12, 110), (13, 111)], 14, 160, [.int .i64 0, .int .u64 0, .int .i64 0, .int .u64 0, .int .i64 0, .int .i64 0, .int .i64 0, .str ByteArray.empty, .str ByteArray.empty, .int .u64 0, .int .i64 0, .int .u64 0, .nilsl, .nilsl], false⟩
def ty113 : TI := ⟨.struct [(0, 3), (1, 25), (2, 3), (3, 25), (4, 57), (9, 25), (10, 3), (11, 25), (12, 110), (13, 111)], 14, 160, [.int .i64 0, .int .u64 0, .int .i64 0, .int .u64 0, .int .i64 0, .int .i64 0, .int .i64 0, .str ByteArray.empty, .str ByteArray.empty, .int .u64 0, .int .i64 0, .int .u64 0, .nilsl, .nilsl], false⟩
def ty114 : TI := ⟨.func, 1, 8, [.nilf], false⟩
def ty115 : TI := ⟨.sl 117, 1, 24, [.nilsl], false⟩
def ty116 : TI := ⟨.sl 118, 1, 24, [.nilsl], false⟩
def ty117 : TI := ⟨.sl 3, 1, 24, [.nilsl], false⟩
def ty118 : TI := ⟨.sl 120, 1, 24, [.nilsl], false⟩
def ty119 : TI := ⟨.struct [(0, 3), (1, 3), (2, 3)], 3, 24, [.int .i64 0, .int .i64 0, .int .i64 0], false⟩
def ty120 : TI := ⟨.struct [(0, 3), (1, 3), (2, 3)], 3, 24, [.int .i64 0, .int .i64 0, .int .i64 0], true⟩
def ty121 : TI := ⟨.func, 1, 8, [.nilf], false⟩
def ty122 : TI := ⟨.func, 1, 8, [.nilf], false⟩
def ty123 : TI := ⟨.func, 1, 8, [.nilf], false⟩
def ty124 : TI := ⟨.func, 1, 8, [.nilf], false⟩
def ty125 : TI := ⟨.struct [(0, 3), (1, 113)], 15, 168, [.int .i64 0, .int .i64 0, .int .u64 0, .int .i64 0, .int .u64 0, .int .i64 0, .int .i64 0, .int .i64 0, .str ByteArray.empty, .str ByteArray.empty, .int .u64 0, .int .i64 0, .int .u64 0, .nilsl, .nilsl], false⟩
def ty126 : TI := ⟨.struct [(0, 3), (1, 113)], 15, 168, [.int .i64 0, .int .i64 0, .int .u64 0, .int .i64 0, .int .u64 0, .int .i64 0, .int .i64 0, .int .i64 0, .str ByteArray.empty, .str ByteArray.empty, .int .u64 0, .int .i64 0, .int .u64 0, .nilsl, .nilsl], false⟩
def ty127 : TI := ⟨.func, 1, 8, [.nilf], false⟩
def ty129 : TI := ⟨.func, 1, 8, [.nilf], false⟩
def ty130 : TI := ⟨.func, 1, 8, [.nilf], false⟩
def ty131 : TI := ⟨.func, 1, 8, [.nilf], false⟩
def ty133 : TI := ⟨.func, 1, 8, [.nilf], false⟩
def ty134 : TI := ⟨.func, 1, 8, [.nilf], false⟩
def ty135 : TI := ⟨.func, 1, 8, [.nilf], false⟩
def ty137 : TI := ⟨.func, 1, 8, [.nilf], false⟩
def ty138 : TI := ⟨.func, 1, 8, [.nilf], false⟩
def ty139 : TI := ⟨.func, 1, 8, [.nilf], false⟩
def ty140 : TI := ⟨.func, 1, 8, [.nilf], false⟩
def ty141 : TI := ⟨.func, 1, 8, [.nilf], false⟩
def ty142 : TI := ⟨.func, 1, 8, [.nilf], false⟩
def ty143 : TI := ⟨.func, 1, 8, [.nilf], false⟩
def ty144 : TI := ⟨.func, 1, 8, [.nilf], false⟩
def ty145 : TI := ⟨.func, 1, 8, [.nilf], false⟩
def ty146 : TI := ⟨.func, 1, 8, [.nilf], false⟩
def ty148 : TI := ⟨.func, 1, 8, [.nilf], false⟩
def ty149 : TI := ⟨.func, 1, 8, [.nilf], false⟩
def ty151 : TI := ⟨.func, 1, 8, [.nilf], false⟩
def ty152 : TI := ⟨.func, 1, 8, [.nilf], false⟩
def ty153 : TI := ⟨.func, 1, 8, [.nilf], false⟩
def ty155 : TI := ⟨.func, 1, 8, [.nilf], false⟩
def ty157 : TI := ⟨.func, 1, 8, [.nilf], false⟩
def ty158 : TI := ⟨.func, 1, 8, [.nilf], false⟩
def ty159 : TI := ⟨.func, 1, 8, [.nilf], false⟩
def ty160 : TI := ⟨.func, 1, 8, [.nilf], false⟩
def ty161 : TI := ⟨.sl 76, 1, 24, [.nilsl], false⟩
def ty162 : TI := ⟨.func, 1, 8, [.nilf], false⟩
def ty163 : TI := ⟨.func, 1, 8, [.nilf], false⟩
def ty165 : TI := ⟨.func, 1, 8, [.nilf], false⟩
def ty166 : TI := ⟨.func, 1, 8, [.nilf], false⟩
def ty167 : TI := ⟨.arr 32 4, 32, 32, (List.replicate 32 [.bool false]).flatten, false⟩
def ty168 : TI := ⟨.func, 1, 8, [.nilf], false⟩
def ty169 : TI := ⟨.func, 1, 8, [.nilf], false⟩
def ty171 : TI := ⟨.func, 1, 8, [.nilf], false⟩
def ty172 : TI := ⟨.func, 1, 8, [.nilf], false⟩
def ty173 : TI := ⟨.func, 1, 8, [.nilf], false⟩
def ty174 : TI := ⟨.func, 1, 8, [.nilf], false⟩
def ty175 : TI := ⟨.func, 1, 8, [.nilf], false⟩
def ty176 : TI := ⟨.ptr 52, 1, 8, [.nilp], false⟩
def ty178 : TI := ⟨.func, 1, 8, [.nilf], false⟩
def ty179 : TI := ⟨.func, 1, 8, [.nilf], false⟩
def ty180 : TI := ⟨.func, 1, 8, [.nilf], false⟩
def ty181 : TI := ⟨.struct [(0, 3), (1, 3), (2, 3), (3, 3), (4, 3), (5, 4), (6, 9)], 7, 64, [.int .i64 0, .int .i64 0, .int .i64 0, .int .i64 0, .int .i64 0, .bool false, .str ByteArray.empty], false⟩
def ty182 : TI := ⟨.struct [(0, 3), (1, 3), (2, 3), (3, 3), (4, 3), (5, 4), (6, 9)], 7, 64, [.int .i64 0, .int .i64 0, .int .i64 0, .int .i64 0, .int .i64 0, .bool false, .str ByteArray.empty], true⟩
def ty183 : TI := ⟨.func, 1, 8, [.nilf], false⟩
def ty184 : TI := ⟨.sl 65, 1, 24, [.nilsl], false⟩
def ty185 : TI := ⟨.func, 1, 8, [.nilf], false⟩
def ty186 : TI := ⟨.func, 1, 8, [.nilf], false⟩
def ty187 : TI := ⟨.func, 1, 8, [.nilf], false⟩
def ty188 : TI := ⟨.struct [(0, 3), (1, 3), (2, 25), (3, 25), (4, 25)], 5, 40, [.int .i64 0, .int .i64 0, .int .u64 0, .int .u64 0, .int .u64 0], false⟩
def ty189 : TI := ⟨.struct [(0, 3), (1, 3), (2, 25), (3, 25), (4, 25)], 5, 40, [.int .i64 0, .int .i64 0, .int .u64 0, .int .u64 0, .int .u64 0], true⟩
def ty190 : TI := ⟨.struct [(0, 3), (1, 25)], 2, 16, [.int .i64 0, .int .u64 0], false⟩
def ty191 : TI := ⟨.struct [(0, 3), (1, 25)], 2, 16, [.int .i64 0, .int .u64 0], true⟩
def ty192 : TI := ⟨.func, 1, 8, [.nilf], false⟩
def ty193 : TI := ⟨.func, 1, 8, [.nilf], false⟩
def ty194 : TI := ⟨.func, 1, 8, [.nilf], false⟩
def ty195 : TI := ⟨.func, 1, 8, [.nilf], false⟩
def ty196 : TI := ⟨.ptr 87, 1, 8, [.nilp], false⟩
def ty197 : TI := ⟨.func, 1, 8, [.nilf], false⟩
def ty198 : TI := ⟨.func, 1, 8, [.nilf], false⟩
def ty199 : TI := ⟨.func, 1, 8, [.nilf], false⟩
def ty200 : TI := ⟨.struct [(0, 3), (1, 3), (2, 3), (3, 25), (4, 25), (5, 25), (6, 25), (7, 57)], 12, 112, [.int .i64 0, .int .i64 0, .int .i64 0, .int .u64 0, .int .u64 0, .int .u64 0, .int .u64 0, .int .i64 0, .int .i64 0, .int .i64 0, .str ByteArray.empty, .str ByteArray.empty], false⟩
def ty201 : TI := ⟨.struct [(0, 3), (1, 3), (2, 3), (3, 25), (4, 25), (5, 25), (6, 25), (7, 57)], 12, 112, [.int .i64 0, .int .i64 0, .int .i64 0, .int .u64 0, .int .u64 0, .int .u64 0, .int .u64 0, .int .i64 0, .int .i64 0, .int .i64 0, .str ByteArray.empty, .str ByteArray.empty], true⟩
def ty202 : TI := ⟨.func, 1, 8, [.nilf], false⟩
def ty203 : TI := ⟨.func, 1, 8, [.nilf], false⟩
def ty205 : TI := ⟨.func, 1, 8, [.nilf], false⟩
def ty206 : TI := ⟨.func, 1, 8, [.nilf], false⟩
def ty207 : TI := ⟨.ptr 91, 1, 8, [.nilp], false⟩
def ty208 : TI := ⟨.func, 1, 8, [.nilf], false⟩
def tyNo : TI := ⟨.other, 0, 0, [], false⟩
def tabL : List TI := [tyNo, ty1, ty2, ty3, ty4, ty5, ty6, ty7, ty8, ty9, ty10, ty11, ty12, ty13, ty14, ty15, ty16, ty17, ty18, ty19, tyNo, ty21, ty22, ty23, ty24, ty25, ty26, ty27, ty28, ty29, ty30, ty31, ty32, ty33, ty34, ty35, ty36, ty37, ty38, ty39, ty40, tyNo, ty42, tyNo, ty44, ty45, ty46, ty47, ty48, ty49, ty50, ty51, ty52, ty53, ty54, ty55, ty56, ty57, tyNo, ty59, tyNo, ty61, ty62, ty63, ty64, ty65, ty66, tyNo, ty68, ty69, tyNo, ty71, tyNo, ty73, ty74, ty75, ty76, ty77, ty78, tyNo, ty80, ty81, ty82, ty83, ty84, ty85, ty86, ty87, ty88, ty89, ty90, ty91, ty92, ty93, ty94, ty95, ty96, ty97, ty98, ty99, ty100, ty101, ty102, ty103, ty104, ty105, tyNo, ty107, ty108, ty109, ty110, ty111, ty112, ty113, ty114, ty115, ty116, ty117, ty118, ty119, ty120, ty121, ty122, ty123, ty124, ty125, ty126, ty127, tyNo, ty129, ty130, ty131, tyNo, ty133, ty134, ty135, tyNo, ty137, ty138, ty139, ty140, ty141, ty142, ty143, ty144, ty145, ty146, tyNo, ty148, ty149, tyNo, ty151, ty152, ty153, tyNo, ty155, tyNo, ty157, ty158, ty159, ty160, ty161, ty162, ty163, tyNo, ty165, ty166, ty167, ty168, ty169, tyNo, ty171, ty172, ty173, ty174, ty175, ty176, tyNo, ty178, ty179, ty180, ty181, ty182, ty183, ty184, ty185, ty186, ty187, ty188, ty189, ty190, ty191, ty192, ty193, ty194, ty195, ty196, ty197, ty198, ty199, ty200, ty201, ty202, ty203, tyNo, ty205, ty206, ty207, ty208]
def tab : Tab := fun t => tabL.getD t tyNo
theorem tab1 : tab 1 = ty1 := rfl
theorem tab2 : tab 2 = ty2 := rfl
theorem tab3 : tab 3 = ty3 := rfl
theorem tab4 : tab 4 = ty4 := rfl
theorem tab5 : tab 5 = ty5 := rfl
theorem tab6 : tab 6 = ty6 := rfl
theorem tab7 : tab 7 = ty7 := rfl
theorem tab8 : tab 8 = ty8 := rfl
theorem tab9 : tab 9 = ty9 := rfl
theorem tab10 : tab 10 = ty10 := rfl
theorem tab11 : tab 11 = ty11 := rfl
theorem tab12 : tab 12 = ty12 := rfl
theorem tab13 : tab 13 = ty13 := rfl
theorem tab14 : tab 14 = ty14 := rfl
theorem tab15 : tab 15 = ty15 := rfl
theorem tab16 : tab 16 = ty16 := rfl
theorem tab17 : tab 17 = ty17 := rfl
theorem tab18 : tab 18 = ty18 := rfl
theorem tab19 : tab 19 = ty19 := rfl
theorem tab21 : tab 21 = ty21 := rfl
theorem tab22 : tab 22 = ty22 := rfl
theorem tab23 : tab 23 = ty23 := rfl
theorem tab24 : tab 24 = ty24 := rfl
theorem tab25 : tab 25 = ty25 := rfl
theorem tab26 : tab 26 = ty26 := rfl
theorem tab27 : tab 27 = ty27 := rfl
theorem tab28 : tab 28 = ty28 := rfl
theorem tab29 : tab 29 = ty29 := rfl
theorem tab30 : tab 30 = ty30 := rfl
theorem tab31 : tab 31 = ty31 := rfl
theorem tab32 : tab 32 = ty32 := rfl
theorem tab33 : tab 33 = ty33 := rfl
theorem tab34 : tab 34 = ty34 := rfl
theorem tab35 : tab 35 = ty35 := rfl
theorem tab36 : tab 36 = ty36 := rfl
theorem tab37 : tab 37 = ty37 := rfl
theorem tab38 : tab 38 = ty38 := rfl
theorem tab39 : tab 39 = ty39 := rfl
theorem tab40 : tab 40 = ty40 := rfl
theorem tab42 : tab 42 = ty42 := rfl
theorem tab44 : tab 44 = ty44 := rfl
theorem tab45 : tab 45 = ty45 := rfl
theorem tab46 : tab 46 = ty46 := rfl
theorem tab47 : tab 47 = ty47 := rfl
theorem tab48 : tab 48 = ty48 := rfl
theorem tab49 : tab 49 = ty49 := rfl
theorem tab50 : tab 50 = ty50 := rfl
theorem tab51 : tab 51 = ty51 := rfl
theorem tab52 : tab 52 = ty52 := rfl
theorem tab53 : tab 53 = ty53 := rfl
theorem tab54 : tab 54 = ty54 := rfl
theorem tab55 : tab 55 = ty55 := rfl
theorem tab56 : tab 56 = ty56 := rfl
theorem tab57 : tab 57 = ty57 := rfl
theorem tab59 : tab 59 = ty59 := rfl
theorem tab61 : tab 61 = ty61 := rfl
theorem tab62 : tab 62 = ty62 := rfl
theorem tab63 : tab 63 = ty63 := rfl
theorem tab64 : tab 64 = ty64 := rfl
theorem tab65 : tab 65 = ty65 := rfl
theorem tab66 : tab 66 = ty66 := rfl
theorem tab68 : tab 68 = ty68 := rfl
theorem tab69 : tab 69 = ty69 := rfl
theorem tab71 : tab 71 = ty71 := rfl
theorem tab73 : tab 73 = ty73 := rfl
theorem tab74 : tab 74 = ty74 := rfl
theorem tab75 : tab 75 = ty75 := rfl
theorem tab76 : tab 76 = ty76 := rfl
theorem tab77 : tab 77 = ty77 := rfl
theorem tab78 : tab 78 = ty78 := rfl
theorem tab80 : tab 80 = ty80 := rfl
theorem tab81 : tab 81 = ty81 := rfl
theorem tab82 : tab 82 = ty82 := rfl
theorem tab83 : tab 83 = ty83 := rfl
theorem tab84 : tab 84 = ty84 := rfl
theorem tab85 : tab 85 = ty85 := rfl
theorem tab86 : tab 86 = ty86 := rfl
theorem tab87 : tab 87 = ty87 := rfl
theorem tab88 : tab 88 = ty88 := rfl
theorem tab89 : tab 89 = ty89 := rfl
theorem tab90 : tab 90 = ty90 := rfl
theorem tab91 : tab 91 = ty91 := rfl
theorem tab92 : tab 92 = ty92 := rfl
theorem tab93 : tab 93 = ty93 := rfl
theorem tab94 : tab 94 = ty94 := rfl
theorem tab95 : tab 95 = ty95 := rfl
theorem tab96 : tab 96 = ty96 := rfl
theorem tab97 : tab 97 = ty97 := rfl
theorem tab98 : tab 98 = ty98 := rfl
theorem tab99 : tab 99 = ty99 := rfl
theorem tab100 : tab 100 = ty100 := rfl
theorem tab101 : tab 101 = ty101 := rfl
theorem tab102 : tab 102 = ty102 := rfl
theorem tab103 : tab 103 = ty103 := rfl
theorem tab104 : tab 104 = ty104 := rfl
theorem tab105 : tab 105 = ty105 := rfl
theorem tab107 : tab 107 = ty107 := rfl
theorem tab108 : tab 108 = ty108 := rfl
theorem tab109 : tab 109 = ty109 := rfl
theorem tab110 : tab 110 = ty110 := rfl
theorem tab111 : tab 111 = ty111 := rfl
theorem tab112 : tab 112 = ty112 := rfl
theorem tab113 : tab 113 = ty113 := rfl
theorem tab114 : tab 114 = ty114 := rfl
theorem tab115 : tab 115 = ty115 := rfl
theorem tab116 : tab 116 = ty116 := rfl
theorem tab117 : tab 117 = ty117 := rfl
theorem tab118 : tab 118 = ty118 := rfl
theorem tab119 : tab 119 = ty119 := rfl
theorem tab120 : tab 120 = ty120 := rfl
theorem tab121 : tab 121 = ty121 := rfl
theorem tab122 : tab 122 = ty122 := rfl
theorem tab123 : tab 123 = ty123 := rfl
theorem tab124 : tab 124 = ty124 := rfl
theorem tab125 : tab 125 = ty125 := rfl
theorem tab126 : tab 126 = ty126 := rfl
theorem tab127 : tab 127 = ty127 := rfl
theorem tab129 : tab 129 = ty129 := rfl
theorem tab130 : tab 130 = ty130 := rfl
theorem tab131 : tab 131 = ty131 := rfl
theorem tab133 : tab 133 = ty133 := rfl
theorem tab134 : tab 134 = ty134 := rfl
theorem tab135 : tab 135 = ty135 := rfl
theorem tab137 : tab 137 = ty137 := rfl
theorem tab138 : tab 138 = ty138 := rfl
theorem tab139 : tab 139 = ty139 := rfl
theorem tab140 : tab 140 = ty140 := rfl
theorem tab141 : tab 141 = ty141 := rfl
theorem tab142 : tab 142 = ty142 := rfl
theorem tab143 : tab 143 = ty143 := rfl
theorem tab144 : tab 144 = ty144 := rfl
theorem tab145 : tab 145 = ty145 := rfl
theorem tab146 : tab 146 = ty146 := rfl
theorem tab148 : tab 148 = ty148 := rfl
theorem tab149 : tab 149 = ty149 := rfl
theorem tab151 : tab 151 = ty151 := rfl
theorem tab152 : tab 152 = ty152 := rfl
theorem tab153 : tab 153 = ty153 := rfl
theorem tab155 : tab 155 = ty155 := rfl
theorem tab157 : tab 157 = ty157 := rfl
theorem tab158 : tab 158 = ty158 := rfl
theorem tab159 : tab 159 = ty159 := rfl
theorem tab160 : tab 160 = ty160 := rfl
theorem tab161 : tab 161 = ty161 := rfl
theorem tab162 : tab 162 = ty162 := rfl
theorem tab163 : tab 163 = ty163 := rfl
theorem tab165 : tab 165 = ty165 := rfl
theorem tab166 : tab 166 = ty166 := rfl
theorem tab167 : tab 167 = ty167 := rfl
theorem tab168 : tab 168 = ty168 := rfl
theorem tab169 : tab 169 = ty169 := rfl
theorem tab171 : tab 171 = ty171 := rfl
theorem tab172 : tab 172 = ty172 := rfl
theorem tab173 : tab 173 = ty173 := rfl
theorem tab174 : tab 174 = ty174 := rfl
theorem tab175 : tab 175 = ty175 := rfl
theorem tab176 : tab 176 = ty176 := rfl
theorem tab178 : tab 178 = ty178 := rfl
theorem tab179 : tab 179 = ty179 := rfl
theorem tab180 : tab 180 = ty180 := rfl
theorem tab181 : tab 181 = ty181 := rfl
theorem tab182 : tab 182 = ty182 := rfl
theorem tab183 : tab 183 = ty183 := rfl
theorem tab184 : tab 184 = ty184 := rfl
theorem tab185 : tab 185 = ty185 := rfl
theorem tab186 : tab 186 = ty186 := rfl
theorem tab187 : tab 187 = ty187 := rfl
theorem tab188 : tab 188 = ty188 := rfl
theorem tab189 : tab 189 = ty189 := rfl
theorem tab190 : tab 190 = ty190 := rfl
theorem tab191 : tab 191 = ty191 := rfl
theorem tab192 : tab 192 = ty192 := rfl
theorem tab193 : tab 193 = ty193 := rfl
theorem tab194 : tab 194 = ty194 := rfl
theorem tab195 : tab 195 = ty195 := rfl
theorem tab196 : tab 196 = ty196 := rfl
theorem tab197 : tab 197 = ty197 := rfl
theorem tab198 : tab 198 = ty198 := rfl
theorem tab199 : tab 199 = ty199 := rfl
theorem tab200 : tab 200 = ty200 := rfl
theorem tab201 : tab 201 = ty201 := rfl
theorem tab202 : tab 202 = ty202 := rfl
theorem tab203 : tab 203 = ty203 := rfl
theorem tab205 : tab 205 = ty205 := rfl
theorem tab206 : tab 206 = ty206 := rfl
theorem tab207 : tab 207 = ty207 := rfl
theorem tab208 : tab 208 = ty208 := rfl

def TD.isOther : TD → Bool
  | .other => true | _ => false
theorem tab_all : (List.range tabL.length).all (fun t => (tab t).d.isOther || (tyB Try.prog t (tab t) && (!(tab t).eqok || (eqB Try.prog tab 8 t && (tab t).d.isAgg && !Try.prog.eqGuardType Try.prog.depth t)))) = true := by kernel_rfl

theorem tabOk : TabOk Try.prog tab := by
  intro t h
  have ht : t < tabL.length := by
    refine Nat.lt_of_not_le fun hle => h ?_
    show (tabL.getD t tyNo).d = .other
    rw [List.getD_eq_getElem?_getD, List.getElem?_eq_none hle]; rfl
  have := List.all_eq_true.1 tab_all t (List.mem_range.2 ht)
  simp only [Bool.or_eq_true, Bool.and_eq_true, Bool.not_eq_true'] at this
  rcases this with this | ⟨h1, h2⟩
  · exact absurd (by revert this; generalize (tab t).d = d; cases d <;> simp [TD.isOther]) h
  · refine tyOk_of h1 fun he => ?_
    rcases h2 with h2 | h2
    · rw [he] at h2; cases h2
    · exact eqOk_of (by decide) h2.1.1 h2.1.2 h2.2

theorem mixedOk : Try.prog.follows .mixedOrders = true := by kernel_rfl
end Go.AW
