import Derived.Test.YtocalihefpafgaaA14
import Derived.Test.YtocalihefpafgaaProg
import Derived.KernelRfl
import Derived.ChangeOld
import Derived.SizedLaws
import Derived.OpenShut
import Derived.Test.YtocalihefpafgaaRows
import Derived.WalkKit
import Derived.ProofKit
import Derived.JoinedCond
/- Printed by wip/tools/tab.py: the table of the types of the program. -/
set_option maxRecDepth 100000
set_option linter.unusedVariables false
namespace Go.AW
open Go.Proofs

def ty1 : TI := ⟨.func, 1, 8, [.nilf], false⟩
def ty2 : TI := ⟨.int .i64, 1, 8, [.int .i64 0], false⟩
def ty3 : TI := ⟨.int .i64, 1, 8, [.int .i64 0], false⟩
def ty4 : TI := ⟨.bool, 1, 1, [.bool false], false⟩
def ty5 : TI := ⟨.int .u8, 1, 1, [.int .u8 0], false⟩
def ty6 : TI := ⟨.int .u8, 1, 1, [.int .u8 0], false⟩
def ty7 : TI := ⟨.struct [(0, 2), (1, 3), (2, 4), (3, 6)], 4, 24, [.int .i64 0, .int .i64 0, .bool false, .int .u8 0], false⟩
def ty8 : TI := ⟨.struct [(0, 2), (1, 3), (2, 4), (3, 6)], 4, 24, [.int .i64 0, .int .i64 0, .bool false, .int .u8 0], false⟩
def ty9 : TI := ⟨.str, 1, 16, [.str ByteArray.empty], false⟩
def ty10 : TI := ⟨.str, 1, 16, [.str ByteArray.empty], false⟩
def ty11 : TI := ⟨.str, 1, 16, [.str ByteArray.empty], false⟩
def ty12 : TI := ⟨.int .u64, 1, 8, [.int .u64 0], false⟩
def ty13 : TI := ⟨.struct [(0, 9), (1, 12)], 2, 24, [.str ByteArray.empty, .int .u64 0], false⟩
def ty14 : TI := ⟨.struct [(0, 9), (1, 12)], 2, 24, [.str ByteArray.empty, .int .u64 0], false⟩
def ty15 : TI := ⟨.ptr 211, 1, 8, [.nilp], false⟩
def ty16 : TI := ⟨.ptr 214, 1, 8, [.nilp], false⟩
def ty17 : TI := ⟨.ptr 224, 1, 8, [.nilp], false⟩
def ty18 : TI := ⟨.struct [(0, 17)], 1, 8, [.nilp], false⟩
def ty19 : TI := ⟨.struct [(0, 17)], 1, 8, [.nilp], false⟩
def ty21 : TI := ⟨.int .i32, 1, 4, [.int .i32 0], false⟩
def ty22 : TI := ⟨.sl 25, 1, 24, [.nilsl], false⟩
def ty23 : TI := ⟨.func, 1, 8, [.nilf], false⟩
def ty24 : TI := ⟨.func, 1, 8, [.nilf], false⟩
def ty25 : TI := ⟨.int .u64, 1, 8, [.int .u64 0], false⟩
def ty26 : TI := ⟨.func, 1, 8, [.nilf], false⟩
def ty27 : TI := ⟨.func, 1, 8, [.nilf], false⟩
def ty28 : TI := ⟨.func, 1, 8, [.nilf], false⟩
def ty29 : TI := ⟨.sl 39, 1, 24, [.nilsl], false⟩
def ty30 : TI := ⟨.ptr 36, 1, 8, [.nilp], false⟩
def ty31 : TI := ⟨.func, 1, 8, [.nilf], false⟩
def ty32 : TI := ⟨.ptr 34, 1, 8, [.nilp], false⟩
def ty33 : TI := ⟨.struct [(0, 25)], 1, 8, [.int .u64 0], false⟩
def ty34 : TI := ⟨.struct [(0, 25)], 1, 8, [.int .u64 0], false⟩
def ty35 : TI := ⟨.struct [(0, 25)], 1, 8, [.int .u64 0], false⟩
def ty36 : TI := ⟨.struct [(0, 25)], 1, 8, [.int .u64 0], false⟩
def ty37 : TI := ⟨.func, 1, 8, [.nilf], false⟩
def ty38 : TI := ⟨.struct [(0, 3), (1, 25), (2, 4)], 3, 24, [.int .i64 0, .int .u64 0, .bool false], false⟩
def ty39 : TI := ⟨.struct [(0, 3), (1, 25), (2, 4)], 3, 24, [.int .i64 0, .int .u64 0, .bool false], false⟩
def ty40 : TI := ⟨.int .i64, 1, 8, [.int .i64 0], false⟩
def ty42 : TI := ⟨.func, 1, 8, [.nilf], false⟩
def ty44 : TI := ⟨.func, 1, 8, [.nilf], false⟩
def ty45 : TI := ⟨.func, 1, 8, [.nilf], false⟩
def ty46 : TI := ⟨.func, 1, 8, [.nilf], false⟩
def ty47 : TI := ⟨.func, 1, 8, [.nilf], false⟩
def ty48 : TI := ⟨.sl 4, 1, 24, [.nilsl], false⟩
def ty49 : TI := ⟨.func, 1, 8, [.nilf], false⟩
def ty50 : TI := ⟨.func, 1, 8, [.nilf], false⟩
def ty51 : TI := ⟨.struct [(0, 4), (1, 9)], 2, 24, [.bool false, .str ByteArray.empty], false⟩
def ty52 : TI := ⟨.struct [(0, 4), (1, 9)], 2, 24, [.bool false, .str ByteArray.empty], true⟩
def ty53 : TI := ⟨.arr 8 52, 16, 192, (List.replicate 8 [.bool false, .str ByteArray.empty]).flatten, true⟩
def ty54 : TI := ⟨.struct [(0, 25), (1, 53)], 17, 200, [.int .u64 0, .bool false, .str ByteArray.empty, .bool false, .str ByteArray.empty, .bool false, .str ByteArray.empty, .bool false, .str ByteArray.empty, .bool false, .str ByteArray.empty, .bool false, .str ByteArray.empty, .bool false, .str ByteArray.empty, .bool false, .str ByteArray.empty], false⟩
def ty55 : TI := ⟨.struct [(0, 25), (1, 53)], 17, 200, [.int .u64 0, .bool false, .str ByteArray.empty, .bool false, .str ByteArray.empty, .bool false, .str ByteArray.empty, .bool false, .str ByteArray.empty, .bool false, .str ByteArray.empty, .bool false, .str ByteArray.empty, .bool false, .str ByteArray.empty, .bool false, .str ByteArray.empty], true⟩
def ty56 : TI := ⟨.struct [(0, 3), (1, 3), (2, 3), (3, 9), (4, 9)], 5, 56, [.int .i64 0, .int .i64 0, .int .i64 0, .str ByteArray.empty, .str ByteArray.empty], false⟩
def ty57 : TI := ⟨.struct [(0, 3), (1, 3), (2, 3), (3, 9), (4, 9)], 5, 56, [.int .i64 0, .int .i64 0, .int .i64 0, .str ByteArray.empty, .str ByteArray.empty], true⟩
def ty59 : TI := ⟨.func, 1, 8, [.nilf], false⟩
def ty61 : TI := ⟨.func, 1, 8, [.nilf], false⟩
def ty62 : TI := ⟨.func, 1, 8, [.nilf], false⟩
def ty63 : TI := ⟨.func, 1, 8, [.nilf], false⟩
def ty64 : TI := ⟨.func, 1, 8, [.nilf], false⟩
def ty65 : TI := ⟨.sl 126, 1, 24, [.nilsl], false⟩
def ty66 : TI := ⟨.func, 1, 8, [.nilf], false⟩
def ty68 : TI := ⟨.func, 1, 8, [.nilf], false⟩
def ty69 : TI := ⟨.func, 1, 8, [.nilf], false⟩
def ty71 : TI := ⟨.func, 1, 8, [.nilf], false⟩
def ty73 : TI := ⟨.func, 1, 8, [.nilf], false⟩
def ty74 : TI := ⟨.func, 1, 8, [.nilf], false⟩
def ty75 : TI := ⟨.sl 182, 1, 24, [.nilsl], false⟩
def ty76 : TI := ⟨.int .u64, 1, 8, [.int .u64 0], false⟩
def ty77 : TI := ⟨.ptr 95, 1, 8, [.nilp], false⟩
def ty78 : TI := ⟨.func, 1, 8, [.nilf], false⟩
def ty80 : TI := ⟨.func, 1, 8, [.nilf], false⟩
def ty81 : TI := ⟨.sl 109, 1, 24, [.nilsl], false⟩
def ty82 : TI := ⟨.sl 55, 1, 24, [.nilsl], false⟩
def ty83 : TI := ⟨.sl 82, 1, 24, [.nilsl], false⟩
def ty84 : TI := ⟨.arr 3 25, 3, 24, (List.replicate 3 [.int .u64 0]).flatten, false⟩
def ty85 : TI := ⟨.arr 3 3, 3, 24, (List.replicate 3 [.int .i64 0]).flatten, false⟩
def ty86 : TI := ⟨.struct [(0, 3), (1, 3), (2, 25), (3, 25)], 4, 32, [.int .i64 0, .int .i64 0, .int .u64 0, .int .u64 0], false⟩
def ty87 : TI := ⟨.struct [(0, 3), (1, 3), (2, 25), (3, 25)], 4, 32, [.int .i64 0, .int .i64 0, .int .u64 0, .int .u64 0], false⟩
def ty88 : TI := ⟨.arr 3 87, 12, 96, (List.replicate 3 [.int .i64 0, .int .i64 0, .int .u64 0, .int .u64 0]).flatten, false⟩
def ty89 : TI := ⟨.arr 3 88, 36, 288, (List.replicate 3 (List.replicate 3 [.int .i64 0, .int .i64 0, .int .u64 0, .int .u64 0]).flatten).flatten, false⟩
def ty90 : TI := ⟨.struct [(0, 3), (1, 3), (2, 52)], 4, 40, [.int .i64 0, .int .i64 0, .bool false, .str ByteArray.empty], false⟩
def ty91 : TI := ⟨.struct [(0, 3), (1, 3), (2, 52)], 4, 40, [.int .i64 0, .int .i64 0, .bool false, .str ByteArray.empty], false⟩
def ty92 : TI := ⟨.arr 8 91, 32, 320, (List.replicate 8 [.int .i64 0, .int .i64 0, .bool false, .str ByteArray.empty]).flatten, false⟩
def ty93 : TI := ⟨.arr 4 92, 128, 1280, (List.replicate 4 (List.replicate 8 [.int .i64 0, .int .i64 0, .bool false, .str ByteArray.empty]).flatten).flatten, false⟩
def ty94 : TI := ⟨.struct [(0, 81), (1, 82), (2, 83), (3, 84), (6, 85), (9, 89), (45, 93), (173, 25)], 174, 1696, ([.nilsl] ++ [.nilsl] ++ [.nilsl] ++ (List.replicate 3 [.int .u64 0]).flatten ++ (List.replicate 3 [.int .i64 0]).flatten ++ (List.replicate 3 (List.replicate 3 [.int .i64 0, .int .i64 0, .int .u64 0, .int .u64 0]).flatten).flatten ++ (List.replicate 4 (List.replicate 8 [.int .i64 0, .int .i64 0, .bool false, .str ByteArray.empty]).flatten).flatten ++ [.int .u64 0]), false⟩
def ty95 : TI := ⟨.struct [(0, 81), (1, 82), (2, 83), (3, 84), (6, 85), (9, 89), (45, 93), (173, 25)], 174, 1696, ([.nilsl] ++ [.nilsl] ++ [.nilsl] ++ (List.replicate 3 [.int .u64 0]).flatten ++ (List.replicate 3 [.int .i64 0]).flatten ++ (List.replicate 3 (List.replicate 3 [.int .i64 0, .int .i64 0, .int .u64 0, .int .u64 0]).flatten).flatten ++ (List.replicate 4 (List.replicate 8 [.int .i64 0, .int .i64 0, .bool false, .str ByteArray.empty]).flatten).flatten ++ [.int .u64 0]), false⟩
def ty96 : TI := ⟨.func, 1, 8, [.nilf], false⟩
def ty97 : TI := ⟨.func, 1, 8, [.nilf], false⟩
def ty98 : TI := ⟨.func, 1, 8, [.nilf], false⟩
def ty99 : TI := ⟨.func, 1, 8, [.nilf], false⟩
def ty100 : TI := ⟨.sl 103, 1, 24, [.nilsl], false⟩
def ty101 : TI := ⟨.sl 57, 1, 24, [.nilsl], false⟩
def ty102 : TI := ⟨.struct [(0, 3), (1, 4), (2, 9)], 3, 32, [.int .i64 0, .bool false, .str ByteArray.empty], false⟩
def ty103 : TI := ⟨.struct [(0, 3), (1, 4), (2, 9)], 3, 32, [.int .i64 0, .bool false, .str ByteArray.empty], true⟩
def ty104 : TI := ⟨.func, 1, 8, [.nilf], false⟩
def ty105 : TI := ⟨.func, 1, 8, [.nilf], false⟩
def ty107 : TI := ⟨.func, 1, 8, [.nilf], false⟩
def ty108 : TI := ⟨.func, 1, 8, [.nilf], false⟩
def ty109 : TI := ⟨.sl 113, 1, 24, [.nilsl], false⟩
def ty110 : TI := ⟨.sl 189, 1, 24, [.nilsl], false⟩
def ty111 : TI := ⟨.sl 191, 1, 24, [.nilsl], false⟩
def ty112 : TI := ⟨.struct [(0, 3), (1, 25), (2, 3), (3, 25), (4, 57), (9, 25), (10, 3), (11, 25), (12, 110), (13, 111)], 14, 160, [.int .i64 0, .int .u64 0, .int .i64 0, .int .u64 0, .int .i64 0, .int .i64 0, .int .i64 0, .str ByteArray.empty, .str ByteArray.empty, .int .u64 0, .int .i64 0, .int .u64 0, .nilsl, .nilsl], false⟩
def ty113 : TI := ⟨.struct [(0, 3), (1, 25), (2, 3), (3, 25), (4, 57), (9, 25), (10, 3), (11, 25), (12, 110), (13, 111)], 14, 160, [.int .i64 0, .int .u64 0, .int .i64 0, .int .u64 0, .int .i64 0, .int .i64 0, .int .i64 0, .str ByteArray.empty, .str ByteArray.empty, .int .u64 0, .int .i64 0, .int .u64 0, .nilsl, .nilsl], false⟩
def ty114 : TI := ⟨.func, 1, 8, [.nilf], false⟩
def ty115 : TI := ⟨.sl 117, 1, 24, [.nilsl], false⟩
def ty116 : TI := ⟨.sl 118, 1, 24, [.nilsl], false⟩
def ty117 : TI := ⟨.sl 3, 1, 24, [.nilsl], false⟩
def ty118 : TI := ⟨.sl 120, 1, 24, [.nilsl], false⟩
def ty119 : TI := ⟨.struct [(0, 3), (1, 3), (2, 3)], 3, 24, [.int .i64 0, .int .i64 0, .int .i64 0], false⟩
def ty120 : TI := ⟨.struct [(0, 3), (1, 3), (2, 3)], 3, 24, [.int .i64 0, .int .i64 0, .int .i64 0], true⟩
def ty121 : TI := ⟨.func, 1, 8, [.nilf], false⟩
def ty122 : TI := ⟨.func, 1, 8, [.nilf], false⟩
def ty123 : TI := ⟨.func, 1, 8, [.nilf], false⟩
def ty124 : TI := ⟨.func, 1, 8, [.nilf], false⟩
def ty125 : TI := ⟨.struct [(0, 3), (1, 113)], 15, 168, [.int .i64 0, .int .i64 0, .int .u64 0, .int .i64 0, .int .u64 0, .int .i64 0, .int .i64 0, .int .i64 0, .str ByteArray.empty, .str ByteArray.empty, .int .u64 0, .int .i64 0, .int .u64 0, .nilsl, .nilsl], false⟩
def ty126 : TI := ⟨.struct [(0, 3), (1, 113)], 15, 168, [.int .i64 0, .int .i64 0, .int .u64 0, .int .i64 0, .int .u64 0, .int .i64 0, .int .i64 0, .int .i64 0, .str ByteArray.empty, .str ByteArray.empty, .int .u64 0, .int .i64 0, .int .u64 0, .nilsl, .nilsl], false⟩
def ty127 : TI := ⟨.func, 1, 8, [.nilf], false⟩
def ty129 : TI := ⟨.func, 1, 8, [.nilf], false⟩
def ty130 : TI := ⟨.func, 1, 8, [.nilf], false⟩
def ty131 : TI := ⟨.func, 1, 8, [.nilf], false⟩
def ty133 : TI := ⟨.func, 1, 8, [.nilf], false⟩
def ty134 : TI := ⟨.func, 1, 8, [.nilf], false⟩
def ty135 : TI := ⟨.func, 1, 8, [.nilf], false⟩
def ty137 : TI := ⟨.func, 1, 8, [.nilf], false⟩
def ty138 : TI := ⟨.func, 1, 8, [.nilf], false⟩
def ty139 : TI := ⟨.func, 1, 8, [.nilf], false⟩
def ty140 : TI := ⟨.func, 1, 8, [.nilf], false⟩
def ty141 : TI := ⟨.func, 1, 8, [.nilf], false⟩
def ty142 : TI := ⟨.func, 1, 8, [.nilf], false⟩
def ty143 : TI := ⟨.func, 1, 8, [.nilf], false⟩
def ty144 : TI := ⟨.func, 1, 8, [.nilf], false⟩
def ty145 : TI := ⟨.func, 1, 8, [.nilf], false⟩
def ty146 : TI := ⟨.func, 1, 8, [.nilf], false⟩
def ty148 : TI := ⟨.func, 1, 8, [.nilf], false⟩
def ty149 : TI := ⟨.func, 1, 8, [.nilf], false⟩
def ty151 : TI := ⟨.func, 1, 8, [.nilf], false⟩
def ty152 : TI := ⟨.func, 1, 8, [.nilf], false⟩
def ty153 : TI := ⟨.func, 1, 8, [.nilf], false⟩
def ty155 : TI := ⟨.func, 1, 8, [.nilf], false⟩
def ty157 : TI := ⟨.func, 1, 8, [.nilf], false⟩
def ty158 : TI := ⟨.func, 1, 8, [.nilf], false⟩
def ty159 : TI := ⟨.func, 1, 8, [.nilf], false⟩
def ty160 : TI := ⟨.func, 1, 8, [.nilf], false⟩
def ty161 : TI := ⟨.sl 76, 1, 24, [.nilsl], false⟩
def ty162 : TI := ⟨.func, 1, 8, [.nilf], false⟩
def ty163 : TI := ⟨.func, 1, 8, [.nilf], false⟩
def ty165 : TI := ⟨.func, 1, 8, [.nilf], false⟩
def ty166 : TI := ⟨.func, 1, 8, [.nilf], false⟩
def ty167 : TI := ⟨.arr 32 4, 32, 32, (List.replicate 32 [.bool false]).flatten, false⟩
def ty168 : TI := ⟨.func, 1, 8, [.nilf], false⟩
def ty169 : TI := ⟨.func, 1, 8, [.nilf], false⟩
def ty171 : TI := ⟨.func, 1, 8, [.nilf], false⟩
def ty172 : TI := ⟨.func, 1, 8, [.nilf], false⟩
def ty173 : TI := ⟨.func, 1, 8, [.nilf], false⟩
def ty174 : TI := ⟨.func, 1, 8, [.nilf], false⟩
def ty175 : TI := ⟨.func, 1, 8, [.nilf], false⟩
def ty176 : TI := ⟨.ptr 52, 1, 8, [.nilp], false⟩
def ty178 : TI := ⟨.func, 1, 8, [.nilf], false⟩
def ty179 : TI := ⟨.func, 1, 8, [.nilf], false⟩
def ty180 : TI := ⟨.func, 1, 8, [.nilf], false⟩
def ty181 : TI := ⟨.struct [(0, 3), (1, 3), (2, 3), (3, 3), (4, 3), (5, 4), (6, 9)], 7, 64, [.int .i64 0, .int .i64 0, .int .i64 0, .int .i64 0, .int .i64 0, .bool false, .str ByteArray.empty], false⟩
def ty182 : TI := ⟨.struct [(0, 3), (1, 3), (2, 3), (3, 3), (4, 3), (5, 4), (6, 9)], 7, 64, [.int .i64 0, .int .i64 0, .int .i64 0, .int .i64 0, .int .i64 0, .bool false, .str ByteArray.empty], true⟩
def ty183 : TI := ⟨.func, 1, 8, [.nilf], false⟩
def ty184 : TI := ⟨.sl 65, 1, 24, [.nilsl], false⟩
def ty185 : TI := ⟨.func, 1, 8, [.nilf], false⟩
def ty186 : TI := ⟨.func, 1, 8, [.nilf], false⟩
def ty187 : TI := ⟨.func, 1, 8, [.nilf], false⟩
def ty188 : TI := ⟨.struct [(0, 3), (1, 3), (2, 25), (3, 25), (4, 25)], 5, 40, [.int .i64 0, .int .i64 0, .int .u64 0, .int .u64 0, .int .u64 0], false⟩
def ty189 : TI := ⟨.struct [(0, 3), (1, 3), (2, 25), (3, 25), (4, 25)], 5, 40, [.int .i64 0, .int .i64 0, .int .u64 0, .int .u64 0, .int .u64 0], true⟩
def ty190 : TI := ⟨.struct [(0, 3), (1, 25)], 2, 16, [.int .i64 0, .int .u64 0], false⟩
def ty191 : TI := ⟨.struct [(0, 3), (1, 25)], 2, 16, [.int .i64 0, .int .u64 0], true⟩
def ty192 : TI := ⟨.func, 1, 8, [.nilf], false⟩
def ty193 : TI := ⟨.func, 1, 8, [.nilf], false⟩
def ty194 : TI := ⟨.func, 1, 8, [.nilf], false⟩
def ty195 : TI := ⟨.func, 1, 8, [.nilf], false⟩
def ty196 : TI := ⟨.ptr 87, 1, 8, [.nilp], false⟩
def ty197 : TI := ⟨.func, 1, 8, [.nilf], false⟩
def ty198 : TI := ⟨.func, 1, 8, [.nilf], false⟩
def ty199 : TI := ⟨.func, 1, 8, [.nilf], false⟩
def ty200 : TI := ⟨.struct [(0, 3), (1, 3), (2, 3), (3, 25), (4, 25), (5, 25), (6, 25), (7, 57)], 12, 112, [.int .i64 0, .int .i64 0, .int .i64 0, .int .u64 0, .int .u64 0, .int .u64 0, .int .u64 0, .int .i64 0, .int .i64 0, .int .i64 0, .str ByteArray.empty, .str ByteArray.empty], false⟩
def ty201 : TI := ⟨.struct [(0, 3), (1, 3), (2, 3), (3, 25), (4, 25), (5, 25), (6, 25), (7, 57)], 12, 112, [.int .i64 0, .int .i64 0, .int .i64 0, .int .u64 0, .int .u64 0, .int .u64 0, .int .u64 0, .int .i64 0, .int .i64 0, .int .i64 0, .str ByteArray.empty, .str ByteArray.empty], true⟩
def ty202 : TI := ⟨.func, 1, 8, [.nilf], false⟩
def ty203 : TI := ⟨.func, 1, 8, [.nilf], false⟩
def ty205 : TI := ⟨.func, 1, 8, [.nilf], false⟩
def ty206 : TI := ⟨.func, 1, 8, [.nilf], false⟩
def ty207 : TI := ⟨.ptr 91, 1, 8, [.nilp], false⟩
def ty208 : TI := ⟨.func, 1, 8, [.nilf], false⟩
def tyNo : TI := ⟨.other, 0, 0, [], false⟩
def tabL : List TI := [tyNo, ty1, ty2, ty3, ty4, ty5, ty6, ty7, ty8, ty9, ty10, ty11, ty12, ty13, ty14, ty15, ty16, ty17, ty18, ty19, tyNo, ty21, ty22, ty23, ty24, ty25, ty26, ty27, ty28, ty29, ty30, ty31, ty32, ty33, ty34, ty35, ty36, ty37, ty38, ty39, ty40, tyNo, ty42, tyNo, ty44, ty45, ty46, ty47, ty48, ty49, ty50, ty51, ty52, ty53, ty54, ty55, ty56, ty57, tyNo, ty59, tyNo, ty61, ty62, ty63, ty64, ty65, ty66, tyNo, ty68, ty69, tyNo, ty71, tyNo, ty73, ty74, ty75, ty76, ty77, ty78, tyNo, ty80, ty81, ty82, ty83, ty84, ty85, ty86, ty87, ty88, ty89, ty90, ty91, ty92, ty93, ty94, ty95, ty96, ty97, ty98, ty99, ty100, ty101, ty102, ty103, ty104, ty105, tyNo, ty107, ty108, ty109, ty110, ty111, ty112, ty113, ty114, ty115, ty116, ty117, ty118, ty119, ty120, ty121, ty122, ty123, ty124, ty125, ty126, ty127, tyNo, ty129, ty130, ty131, tyNo, ty133, ty134, ty135, tyNo, ty137, ty138, ty139, ty140, ty141, ty142, ty143, ty144, ty145, ty146, tyNo, ty148, ty149, tyNo, ty151, ty152, ty153, tyNo, ty155, tyNo, ty157, ty158, ty159, ty160, ty161, ty162, ty163, tyNo, ty165, ty166, ty167, ty168, ty169, tyNo, ty171, ty172, ty173, ty174, ty175, ty176, tyNo, ty178, ty179, ty180, ty181, ty182, ty183, ty184, ty185, ty186, ty187, ty188, ty189, ty190, ty191, ty192, ty193, ty194, ty195, ty196, ty197, ty198, ty199, ty200, ty201, ty202, ty203, tyNo, ty205, ty206, ty207, ty208]
def tab : Tab := fun t => tabL.getD t tyNo
theorem tab1 : tab 1 = ty1 := rfl
theorem tab2 : tab 2 = ty2 := rfl
theorem tab3 : tab 3 = ty3 := rfl
theorem tab4 : tab 4 = ty4 := rfl
theorem tab5 : tab 5 = ty5 := rfl
theorem tab6 : tab 6 = ty6 := rfl
theorem tab7 : tab 7 = ty7 := rfl
theorem tab8 : tab 8 = ty8 := rfl
theorem tab9 : tab 9 = ty9 := rfl
theorem tab10 : tab 10 = ty10 := rfl
theorem tab11 : tab 11 = ty11 := rfl
theorem tab12 : tab 12 = ty12 := rfl
theorem tab13 : tab 13 = ty13 := rfl
theorem tab14 : tab 14 = ty14 := rfl
theorem tab15 : tab 15 = ty15 := rfl
theorem tab16 : tab 16 = ty16 := rfl
theorem tab17 : tab 17 = ty17 := rfl
theorem tab18 : tab 18 = ty18 := rfl
theorem tab19 : tab 19 = ty19 := rfl
theorem tab21 : tab 21 = ty21 := rfl
theorem tab22 : tab 22 = ty22 := rfl
theorem tab23 : tab 23 = ty23 := rfl
theorem tab24 : tab 24 = ty24 := rfl
theorem tab25 : tab 25 = ty25 := rfl
theorem tab26 : tab 26 = ty26 := rfl
theorem tab27 : tab 27 = ty27 := rfl
theorem tab28 : tab 28 = ty28 := rfl
theorem tab29 : tab 29 = ty29 := rfl
theorem tab30 : tab 30 = ty30 := rfl
theorem tab31 : tab 31 = ty31 := rfl
theorem tab32 : tab 32 = ty32 := rfl
theorem tab33 : tab 33 = ty33 := rfl
theorem tab34 : tab 34 = ty34 := rfl
theorem tab35 : tab 35 = ty35 := rfl
theorem tab36 : tab 36 = ty36 := rfl
theorem tab37 : tab 37 = ty37 := rfl
theorem tab38 : tab 38 = ty38 := rfl
theorem tab39 : tab 39 = ty39 := rfl
theorem tab40 : tab 40 = ty40 := rfl
theorem tab42 : tab 42 = ty42 := rfl
theorem tab44 : tab 44 = ty44 := rfl
theorem tab45 : tab 45 = ty45 := rfl
theorem tab46 : tab 46 = ty46 := rfl
theorem tab47 : tab 47 = ty47 := rfl
theorem tab48 : tab 48 = ty48 := rfl
theorem tab49 : tab 49 = ty49 := rfl
theorem tab50 : tab 50 = ty50 := rfl
theorem tab51 : tab 51 = ty51 := rfl
theorem tab52 : tab 52 = ty52 := rfl
theorem tab53 : tab 53 = ty53 := rfl
theorem tab54 : tab 54 = ty54 := rfl
theorem tab55 : tab 55 = ty55 := rfl
theorem tab56 : tab 56 = ty56 := rfl
theorem tab57 : tab 57 = ty57 := rfl
theorem tab59 : tab 59 = ty59 := rfl
theorem tab61 : tab 61 = ty61 := rfl
theorem tab62 : tab 62 = ty62 := rfl
theorem tab63 : tab 63 = ty63 := rfl
theorem tab64 : tab 64 = ty64 := rfl
theorem tab65 : tab 65 = ty65 := rfl
theorem tab66 : tab 66 = ty66 := rfl
theorem tab68 : tab 68 = ty68 := rfl
theorem tab69 : tab 69 = ty69 := rfl
theorem tab71 : tab 71 = ty71 := rfl
theorem tab73 : tab 73 = ty73 := rfl
theorem tab74 : tab 74 = ty74 := rfl
theorem tab75 : tab 75 = ty75 := rfl
theorem tab76 : tab 76 = ty76 := rfl
theorem tab77 : tab 77 = ty77 := rfl
theorem tab78 : tab 78 = ty78 := rfl
theorem tab80 : tab 80 = ty80 := rfl
theorem tab81 : tab 81 = ty81 := rfl
theorem tab82 : tab 82 = ty82 := rfl
theorem tab83 : tab 83 = ty83 := rfl
theorem tab84 : tab 84 = ty84 := rfl
theorem tab85 : tab 85 = ty85 := rfl
theorem tab86 : tab 86 = ty86 := rfl
theorem tab87 : tab 87 = ty87 := rfl
theorem tab88 : tab 88 = ty88 := rfl
theorem tab89 : tab 89 = ty89 := rfl
theorem tab90 : tab 90 = ty90 := rfl
theorem tab91 : tab 91 = ty91 := rfl
theorem tab92 : tab 92 = ty92 := rfl
theorem tab93 : tab 93 = ty93 := rfl
theorem tab94 : tab 94 = ty94 := rfl
theorem tab95 : tab 95 = ty95 := rfl
theorem tab96 : tab 96 = ty96 := rfl
theorem tab97 : tab 97 = ty97 := rfl
theorem tab98 : tab 98 = ty98 := rfl
theorem tab99 : tab 99 = ty99 := rfl
theorem tab100 : tab 100 = ty100 := rfl
theorem tab101 : tab 101 = ty101 := rfl
theorem tab102 : tab 102 = ty102 := rfl
theorem tab103 : tab 103 = ty103 := rfl
theorem tab104 : tab 104 = ty104 := rfl
theorem tab105 : tab 105 = ty105 := rfl
theorem tab107 : tab 107 = ty107 := rfl
theorem tab108 : tab 108 = ty108 := rfl
theorem tab109 : tab 109 = ty109 := rfl
theorem tab110 : tab 110 = ty110 := rfl
theorem tab111 : tab 111 = ty111 := rfl
theorem tab112 : tab 112 = ty112 := rfl
theorem tab113 : tab 113 = ty113 := rfl
theorem tab114 : tab 114 = ty114 := rfl
theorem tab115 : tab 115 = ty115 := rfl
theorem tab116 : tab 116 = ty116 := rfl
theorem tab117 : tab 117 = ty117 := rfl
theorem tab118 : tab 118 = ty118 := rfl
theorem tab119 : tab 119 = ty119 := rfl
theorem tab120 : tab 120 = ty120 := rfl
theorem tab121 : tab 121 = ty121 := rfl
theorem tab122 : tab 122 = ty122 := rfl
theorem tab123 : tab 123 = ty123 := rfl
theorem tab124 : tab 124 = ty124 := rfl
theorem tab125 : tab 125 = ty125 := rfl
theorem tab126 : tab 126 = ty126 := rfl
theorem tab127 : tab 127 = ty127 := rfl
theorem tab129 : tab 129 = ty129 := rfl
theorem tab130 : tab 130 = ty130 := rfl
theorem tab131 : tab 131 = ty131 := rfl
theorem tab133 : tab 133 = ty133 := rfl
theorem tab134 : tab 134 = ty134 := rfl
theorem tab135 : tab 135 = ty135 := rfl
theorem tab137 : tab 137 = ty137 := rfl
theorem tab138 : tab 138 = ty138 := rfl
theorem tab139 : tab 139 = ty139 := rfl
theorem tab140 : tab 140 = ty140 := rfl
theorem tab141 : tab 141 = ty141 := rfl
theorem tab142 : tab 142 = ty142 := rfl
theorem tab143 : tab 143 = ty143 := rfl
theorem tab144 : tab 144 = ty144 := rfl
theorem tab145 : tab 145 = ty145 := rfl
theorem tab146 : tab 146 = ty146 := rfl
theorem tab148 : tab 148 = ty148 := rfl
theorem tab149 : tab 149 = ty149 := rfl
theorem tab151 : tab 151 = ty151 := rfl
theorem tab152 : tab 152 = ty152 := rfl
theorem tab153 : tab 153 = ty153 := rfl
theorem tab155 : tab 155 = ty155 := rfl
theorem tab157 : tab 157 = ty157 := rfl
theorem tab158 : tab 158 = ty158 := rfl
theorem tab159 : tab 159 = ty159 := rfl
theorem tab160 : tab 160 = ty160 := rfl
theorem tab161 : tab 161 = ty161 := rfl
theorem tab162 : tab 162 = ty162 := rfl
theorem tab163 : tab 163 = ty163 := rfl
theorem tab165 : tab 165 = ty165 := rfl
theorem tab166 : tab 166 = ty166 := rfl
theorem tab167 : tab 167 = ty167 := rfl
theorem tab168 : tab 168 = ty168 := rfl
theorem tab169 : tab 169 = ty169 := rfl
theorem tab171 : tab 171 = ty171 := rfl
theorem tab172 : tab 172 = ty172 := rfl
theorem tab173 : tab 173 = ty173 := rfl
theorem tab174 : tab 174 = ty174 := rfl
theorem tab175 : tab 175 = ty175 := rfl
theorem tab176 : tab 176 = ty176 := rfl
theorem tab178 : tab 178 = ty178 := rfl
theorem tab179 : tab 179 = ty179 := rfl
theorem tab180 : tab 180 = ty180 := rfl
theorem tab181 : tab 181 = ty181 := rfl
theorem tab182 : tab 182 = ty182 := rfl
theorem tab183 : tab 183 = ty183 := rfl
theorem tab184 : tab 184 = ty184 := rfl
theorem tab185 : tab 185 = ty185 := rfl
theorem tab186 : tab 186 = ty186 := rfl
theorem tab187 : tab 187 = ty187 := rfl
theorem tab188 : tab 188 = ty188 := rfl
theorem tab189 : tab 189 = ty189 := rfl
theorem tab190 : tab 190 = ty190 := rfl
theorem tab191 : tab 191 = ty191 := rfl
theorem tab192 : tab 192 = ty192 := rfl
theorem tab193 : tab 193 = ty193 := rfl
theorem tab194 : tab 194 = ty194 := rfl
theorem tab195 : tab 195 = ty195 := rfl
theorem tab196 : tab 196 = ty196 := rfl
theorem tab197 : tab 197 = ty197 := rfl
theorem tab198 : tab 198 = ty198 := rfl
theorem tab199 : tab 199 = ty199 := rfl
theorem tab200 : tab 200 = ty200 := rfl
theorem tab201 : tab 201 = ty201 := rfl
theorem tab202 : tab 202 = ty202 := rfl
theorem tab203 : tab 203 = ty203 := rfl
theorem tab205 : tab 205 = ty205 := rfl
theorem tab206 : tab 206 = ty206 := rfl
theorem tab207 : tab 207 = ty207 := rfl
theorem tab208 : tab 208 = ty208 := rfl

def TD.isOther : TD → Bool
  | .other => true | _ => false
theorem tab_all : (List.range tabL.length).all (fun t => (tab t).d.isOther || (tyB Try.prog t (tab t) && (!(tab t).eqok || (eqB Try.prog tab 8 t && (tab t).d.isAgg && !Try.prog.eqGuardType Try.prog.depth t)))) = true := by kernel_rfl

theorem tabOk : TabOk Try.prog tab := by
  intro t h
  have ht : t < tabL.length := by
    refine Nat.lt_of_not_le fun hle => h ?_
    show (tabL.getD t tyNo).d = .other
    rw [List.getD_eq_getElem?_getD, List.getElem?_eq_none hle]; rfl
  have := List.all_eq_true.1 tab_all t (List.mem_range.2 ht)
  simp only [Bool.or_eq_true, Bool.and_eq_true, Bool.not_eq_true'] at this
  rcases this with this | ⟨h1, h2⟩
  · exact absurd (by revert this; generalize (tab t).d = d; cases d <;> simp [TD.isOther]) h
  · refine tyOk_of h1 fun he => ?_
    rcases h2 with h2 | h2
    · rw [he] at h2; cases h2
    · exact eqOk_of (by decide) h2.1.1 h2.1.2 h2.2

theorem mixedOk : Try.prog.follows .mixedOrders = true := by kernel_rfl
end Go.AW

/- From what the row says of an argument to what the walk asks of it. -/
set_option linter.unusedVariables false
set_option linter.unusedSimpArgs false
namespace Go.AW
open Go.Proofs.Ytocalihefpafgaa.Rows (uptoBulk uptoBulkAll)

mutual
def pb : PV → Nat
  | .slice xs => pbLL xs + 1
  | .str s => s.size + 1
  | _ => 1
def pbL : List PV → Nat
  | [] => 0
  | q :: qs => pb q + pbL qs
def pbLL : List (List PV) → Nat
  | [] => 0
  | x :: xs => pbL x + pbLL xs
end
theorem pbL_append : ∀ a b : List PV, pbL (a ++ b) = pbL a + pbL b
  | [], b => by simp [pbL]
  | x :: a, b => by simp [pbL, pbL_append a b]; omega

def consec (T : Tab) : List (Nat × Nat) → Nat → Nat → Bool
  | [], off, size => off == size
  | f :: fs, off, size => f.1 == off && consec T fs (off + (T f.2).size) size

def okTy (T : Tab) : Nat → Nat → Bool
  | 0, _ => false
  | n + 1, t => match (T t).d with
    | .bool | .int _ | .str => (T t).size == 1
    | .sl e => (T t).size == 1 && okTy T n e && decide (0 < (T e).size)
    | .arr m e => okTy T n e && (T t).size == m * (T e).size
    | .struct fs => consec T fs 0 (T t).size && fs.all (fun f => okTy T n f.2)
    | _ => false

def WfFields (W : Nat → List PV → Prop) : List (Nat × Nat) → List PV → Prop
  | [], qs => qs = []
  | f :: fs, qs => ∃ a b, qs = a ++ b ∧ W f.2 a ∧ WfFields W fs b

/-- Cells that are well formed for a type. -/
def Wf (T : Tab) : Nat → Nat → List PV → Prop
  | 0, _, _ => False
  | n + 1, t, qs => match (T t).d with
    | .bool => ∃ b, qs = [.bool b]
    | .int k => ∃ m, qs = [.int k m] ∧ (Lit.int k m).wf = true
    | .str => ∃ s : ByteArray, qs = [.str s] ∧ s.size ≤ reachBytes
    | .sl e => ∃ xs, qs = [.slice xs] ∧ xs.length * (T e).bytes ≤ reachBytes ∧ xs.length ≤ maxLen ∧ ∀ x ∈ xs, Wf T n e x
    | .arr m e => ∃ xs : List (List PV), xs.length = m ∧ qs = xs.flatten ∧ ∀ x ∈ xs, Wf T n e x
    | .struct fs => WfFields (Wf T n) fs qs
    | _ => False

def RepAll (w : World) (qs : List PV) (cs : List Value) : Prop := qs.length = cs.length ∧ ∀ (k : Nat) q v, qs[k]? = some q → cs[k]? = some v → RepP w (fun b => b < w.heap.size) q v

theorem RepAll.nil {w : World} : RepAll w [] [] := ⟨rfl, fun k q v h => by simp at h⟩
theorem RepAll.one {w : World} {q : PV} {v : Value} (h : RepP w (fun b => b < w.heap.size) q v) : RepAll w [q] [v] := by
  refine ⟨rfl, fun k q' v' h1 h2 => ?_⟩
  cases k with
  | zero => simp at h1 h2; subst h1 h2; exact h
  | succ k => simp at h1
theorem RepAll.append {w : World} {a b : List PV} {c d : List Value} (h1 : RepAll w a c) (h2 : RepAll w b d) : RepAll w (a ++ b) (c ++ d) := by
  refine ⟨by simp [h1.1, h2.1], fun k q v hq hv => ?_⟩
  by_cases hk : k < a.length
  · rw [List.getElem?_append_left hk] at hq
    rw [List.getElem?_append_left (by rw [← h1.1]; exact hk)] at hv
    exact h1.2 k q v hq hv
  · rw [List.getElem?_append_right (by omega)] at hq
    rw [List.getElem?_append_right (by rw [← h1.1]; omega), ← h1.1] at hv
    exact h2.2 _ q v hq hv

section
variable {H : Type} {enc : TypeId × Value → H} {P : Program} {T : Tab} {w : World}

theorem cellsOf_T (hT : TabOk P T) {t : Nat} (h : (T t).d ≠ .other) : P.cellsOf t = (T t).size := by
  obtain ⟨ti, z, h1, h2, _⟩ := (hT t h).info
  simp [Program.cellsOf, h1, h2]
theorem bytesOf_T (hT : TabOk P T) {t : Nat} (h : (T t).d ≠ .other) : P.bytesOf t = (T t).bytes := by
  obtain ⟨ti, z, h1, h2, h3, _⟩ := (hT t h).info
  simp [Program.bytesOf, h1, h3]
theorem okTy_other {n t : Nat} (h : okTy T n t = true) : (T t).d ≠ .other := by
  intro h2
  cases n with
  | zero => simp [okTy] at h
  | succ n => simp [okTy, h2] at h

/-- What a reading says, at a fixed number of steps. -/
def Opens (enc : TypeId × Value → H) (P : Program) (T : Tab) (w : World) (n t : Nat) : Prop := ∀ (fuel : Nat) (cs : List Value) (x : DataW H × List MemPlace), DataW.trod enc P w 0 (fun _ => true) true fuel t cs = some x →
  (∀ m ∈ x.1.weights P t, m ≤ reachBytes) → ∃ qs, RepAll w qs cs ∧ Wf T n t qs ∧ pbL qs ≤ uptoBulk x.1

theorem open_fields (hT : TabOk P T) {n m : Nat} {cs : List Value} : ∀ (fs : List Field) (off size : Nat) (xs : List (DataW H × List MemPlace)),
    consec T (fs.map fun f => (f.offset, f.type)) off size = true → (∀ f ∈ fs, okTy T n f.type = true) → (∀ f ∈ fs, Opens enc P T w n f.type) → xs.length = fs.length →
    (∀ (i : Nat) (f : Field), fs[i]? = some f → DataW.trod enc P w 0 (fun _ => true) true m f.type ((cs.drop f.offset).take (P.cellsOf f.type)) = xs[i]?) →
    (∀ k ∈ DataW.weightsEach P (fs.map (·.type)) (xs.map (·.1)), k ≤ reachBytes) → size = cs.length →
    ∃ qs, RepAll w qs (cs.drop off) ∧ WfFields (Wf T n) (fs.map fun f => (f.offset, f.type)) qs ∧ pbL qs ≤ uptoBulkAll (xs.map (·.1))
  | [], off, size, xs, hc, _, _, hl, _, _, hs => by
    simp only [List.map_nil, consec, beq_iff_eq] at hc
    have hx : xs = [] := List.length_eq_zero_iff.1 (by simpa using hl)
    subst hx
    have : cs.drop off = [] := List.drop_eq_nil_iff.2 (by omega)
    rw [this]
    exact ⟨[], RepAll.nil, rfl, by simp [pbL, uptoBulkAll]⟩
  | f :: fs, off, size, xs, hc, ho, hO, hl, hx, hw, hs => by
    simp only [List.map_cons, consec, Bool.and_eq_true, beq_iff_eq] at hc
    match xs, hl with
    | x :: xs, hl =>
      have h0 := hx 0 f rfl
      simp only [List.getElem?_cons_zero] at h0
      have hcell := cellsOf_T hT (okTy_other (ho f (by simp)))
      simp only [List.map_cons, DataW.weightsEach, List.mem_append] at hw
      obtain ⟨qs, h1, h2, h3⟩ := hO f (by simp) m _ x h0 (fun k hk => hw k (Or.inl hk))
      obtain ⟨qs', h4, h5, h6⟩ := open_fields hT (m := m) (cs := cs) fs (off + (T f.type).size) size xs hc.2 (fun g hg => ho g (by simp [hg])) (fun g hg => hO g (by simp [hg])) (by simpa using hl)
        (fun i g hg => by have := hx (i + 1) g (by simpa using hg); simpa using this) (fun k hk => hw k (Or.inr hk)) hs
      have e : cs.drop off = (cs.drop f.offset).take (P.cellsOf f.type) ++ cs.drop (off + (T f.type).size) := by
        rw [hc.1, hcell, ← List.drop_drop]; exact (List.take_append_drop _ _).symm
      exact ⟨qs ++ qs', by rw [e]; exact h1.append h4, ⟨qs, qs', rfl, h2, h5⟩, by rw [pbL_append]; simp only [List.map_cons, uptoBulkAll]; omega⟩

/-- Elements one behind the other. -/
theorem open_items {n e sz m : Nat} (hO : Opens enc P T w n e) (cs : List Value) (xs : List (DataW H × List MemPlace)) (hx : ∀ (i : Nat), i < xs.length → DataW.trod enc P w 0 (fun _ => true) true m e ((cs.drop (i * sz)).take sz) = xs[i]?)
    (hw : ∀ k ∈ DataW.weightsAll P e (xs.map (·.1)), k ≤ reachBytes) (hl : cs.length = xs.length * sz) :
    ∃ qss : List (List PV), qss.length = xs.length ∧ RepAll w qss.flatten cs ∧ (∀ x ∈ qss, Wf T n e x) ∧ pbLL qss ≤ uptoBulkAll (xs.map (·.1)) := by
  induction xs generalizing cs with
  | nil =>
    have : cs = [] := List.length_eq_zero_iff.1 (by simpa using hl)
    subst this
    exact ⟨[], rfl, RepAll.nil, by simp, by simp [pbLL, uptoBulkAll]⟩
  | cons x xs ih =>
    have h0 := hx 0 (by simp)
    simp only [Nat.zero_mul, List.drop_zero, List.getElem?_cons_zero] at h0
    simp only [List.map_cons, DataW.weightsAll, List.mem_append] at hw
    obtain ⟨qs, h1, h2, h3⟩ := hO m _ x h0 (fun k hk => hw k (Or.inl hk))
    obtain ⟨qss, k1, k2, k3, k4⟩ := ih (cs.drop sz) (fun i hi => by
      have := hx (i + 1) (by simp; omega)
      rw [List.drop_drop, show sz + i * sz = (i + 1) * sz by rw [Nat.succ_mul]; omega]
      simpa using this) (fun k hk => hw k (Or.inr hk)) (by rw [List.length_drop, hl, List.length_cons, Nat.succ_mul]; omega)
    refine ⟨qs :: qss, by simp [k1], ?_, ?_, by simp only [pbLL, List.map_cons, uptoBulkAll]; omega⟩
    · rw [List.flatten_cons, ← List.take_append_drop sz cs]
      exact h1.append k2
    · intro y hy
      rcases List.mem_cons.1 hy with rfl | hy
      · exact h2
      · exact k3 y hy

theorem bulkAll_append {H : Type} : ∀ a b : List (DataW H), uptoBulkAll (a ++ b) = uptoBulkAll a + uptoBulkAll b
  | [], b => by simp [uptoBulkAll]
  | x :: a, b => by simp [uptoBulkAll, bulkAll_append a b]; omega

theorem pbL_flatten : ∀ xs : List (List PV), pbL xs.flatten = pbLL xs
  | [] => rfl
  | x :: xs => by rw [List.flatten_cons, pbL_append, pbL_flatten xs]; rfl

theorem Wf_len : ∀ {n t : Nat} {qs : List PV}, okTy T n t = true → Wf T n t qs → qs.length = (T t).size
  | 0, t, qs, h, _ => by simp [okTy] at h
  | n + 1, t, qs, h, hw => by
    simp only [okTy] at h
    simp only [Wf] at hw
    generalize hd : (T t).d = d at h hw
    cases d with
    | bool => obtain ⟨b, rfl⟩ := hw; simp at h; simp [h]
    | int k => obtain ⟨b, rfl, _⟩ := hw; simp at h; simp [h]
    | str => obtain ⟨b, rfl, _⟩ := hw; simp at h; simp [h]
    | sl e => simp only [Bool.and_eq_true, beq_iff_eq] at h; obtain ⟨xs, rfl, _⟩ := hw; simp [h.1.1]
    | arr m e =>
      obtain ⟨xs, h1, rfl, h2⟩ := hw
      simp only [Bool.and_eq_true, beq_iff_eq] at h
      rw [h.2, ← h1]
      have hx : ∀ x ∈ xs, x.length = (T e).size := fun x hx => Wf_len h.1 (h2 x hx)
      clear h1 h2 h
      induction xs with
      | nil => simp
      | cons x xs ih =>
        rw [List.flatten_cons, List.length_append, ih (fun y hy => hx y (by simp [hy])), hx x (by simp), List.length_cons, Nat.succ_mul]; omega
    | struct fs =>
      simp only [Bool.and_eq_true] at h
      have key : ∀ (fs : List (Nat × Nat)) (off : Nat) (qs : List PV), consec T fs off (T t).size = true → fs.all (fun f => okTy T n f.2) = true → WfFields (Wf T n) fs qs → off + qs.length = (T t).size := by
        intro fs
        induction fs with
        | nil => intro off qs h1 _ h3; simp [consec] at h1; simp only [WfFields] at h3; subst h3; simp [h1]
        | cons f fs ih =>
          intro off qs h1 h2 h3
          simp only [consec, Bool.and_eq_true] at h1
          simp only [List.all_cons, Bool.and_eq_true] at h2
          obtain ⟨a, b, rfl, ha, hb⟩ := h3
          have := ih _ b h1.2 h2.2 hb
          have hl := Wf_len h2.1 ha
          rw [List.length_append]; omega
      have := key fs 0 qs h.1 h.2 hw
      omega
    | _ => simp at h

theorem open_trod (hT : TabOk P T) : ∀ n t, okTy T n t = true → Opens enc P T w n t
  | 0, t, h => by simp [okTy] at h
  | n + 1, t, h => by
    intro fuel cs x hx hw
    obtain ⟨ds, hds, hd⟩ := (hT t (okTy_other h)).desc
    have hcell := cellsOf_T hT (okTy_other h)
    have h0 := h
    simp only [okTy] at h
    generalize hdd : (T t).d = d at h hd
    cases d with
    | bool =>
      cases ds <;> simp [descOk] at hd
      obtain ⟨b, rfl, rfl⟩ := DataW.trod_bool hds hx
      exact ⟨[.bool b], RepAll.one (.bool b), by simp only [Wf, hdd]; exact ⟨b, rfl⟩, by simp [pbL, pb, uptoBulk]⟩
    | int k =>
      cases ds <;> simp [descOk] at hd
      subst hd
      obtain ⟨b, rfl, rfl, hwf⟩ := DataW.trod_int hds hx
      exact ⟨[.int _ b], RepAll.one (.int _ b), by simp only [Wf, hdd]; exact ⟨b, rfl, hwf⟩, by simp [pbL, pb, uptoBulk]⟩
    | str =>
      cases ds <;> simp [descOk] at hd
      obtain ⟨s, rfl, rfl, hs⟩ := DataW.trod_string hds hx
      have hs2 : s.size ≤ reachBytes := by
        have := hw s.data.toList.length (by simp [DataW.weights])
        rw [Array.length_toList] at this
        exact this
      refine ⟨[.str s], RepAll.one (.str s), by simp only [Wf, hdd]; exact ⟨s, rfl, hs2⟩, ?_⟩
      simp only [pbL, pb, uptoBulk, Array.length_toList]
      exact Nat.le_refl _
    | sl e =>
      cases ds <;> simp [descOk] at hd
      subst hd
      simp only [Bool.and_eq_true, decide_eq_true_eq, beq_iff_eq] at h
      have hec := cellsOf_T hT (okTy_other h.1.2)
      have heb := bytesOf_T hT (okTy_other h.1.2)
      rcases DataW.trod_slice hds hx with ⟨rfl, rfl⟩ | ⟨a, len, cap, elems, rest, m, rfl, rfl, rfl, _, hlc, hcm, hel, hget, _, _⟩
      · exact ⟨[.slice []], RepAll.one (.sl0 none 0 fun _ => rfl), by simp only [Wf, hdd]; exact ⟨[], rfl, by simp, by simp, by simp⟩, by simp [pbL, pb, pbLL, uptoBulk]⟩
      · simp only [DataW.weights, hds] at hw
        have hw1 := hw _ (List.mem_cons_self ..)
        rw [List.length_map, List.length_map, heb] at hw1
        have hw2 : ∀ k ∈ DataW.weightsAll P e (elems.map (·.1)), k ≤ reachBytes := fun k hk => hw k (by simp [hk])
        have hlen : elems.length * (T e).bytes ≤ reachBytes := Nat.le_trans (Nat.mul_le_mul_right _ (by omega)) hw1
        by_cases h0l : len = 0
        · subst h0l
          refine ⟨[.slice []], RepAll.one (.sl0 _ _ fun h => by cases h), by simp only [Wf, hdd]; exact ⟨[], rfl, by simp, by simp, by simp⟩, ?_⟩
          simp [pbL, pb, pbLL, uptoBulk]
        · -- there is a block
          have hcells : ∀ i, i < len → ∃ cs', w.cells? 0 (a.add (i * (T e).size)) (T e).size = some cs' ∧ some cs' >>= DataW.trod enc P w 0 (fun _ => true) true m e = elems[i]? := by
            intro i hi
            have := hget i hi
            rw [hec] at this
            cases hc : w.cells? 0 (a.add (i * (T e).size)) (T e).size with
            | none => rw [hc] at this; simp at this; omega
            | some cs' => rw [hc] at this; exact ⟨cs', rfl, this⟩
          obtain ⟨c0, hc0, _⟩ := hcells 0 (by omega)
          have hz : a.add (0 * (T e).size) = a := by simp [Addr.add]
          rw [hz] at hc0
          obtain ⟨_, hl0, hg0⟩ := World.cells?_some hc0
          have ha0 := hg0 0 h.2
          have hz2 : a.add 0 = a := by simp [Addr.add]
          rw [hz2, List.getElem?_eq_getElem (by omega)] at ha0
          obtain ⟨b, off, sp⟩ := a
          simp only [World.cell?] at ha0
          split at ha0
          · rename_i arr et fr hheap
            have hsp : sp = none := by
              cases sp with
              | none => rfl
              | some s => simp at ha0
            subst hsp
            have hb : b < w.heap.size := by
              have := (Array.getElem?_eq_some_iff.1 hheap).1
              exact this
            -- all cells of the row
            have hall : ∀ j, j < len * (T e).size → ∃ v, arr[off + j]? = some v := by
              intro j hj
              have hi : j / (T e).size < len := Nat.div_lt_of_lt_mul (by rw [Nat.mul_comm]; exact hj)
              obtain ⟨cs', hc', _⟩ := hcells _ hi
              obtain ⟨_, hl', hg'⟩ := World.cells?_some hc'
              have hr := hg' (j % (T e).size) (Nat.mod_lt _ h.2)
              have e1 : (Addr.add (Addr.add ⟨b, off, none⟩ (j / (T e).size * (T e).size)) (j % (T e).size)) = ⟨b, off + j, none⟩ := by
                have := Nat.div_add_mod j (T e).size
                rw [Nat.mul_comm] at this
                unfold Addr.add
                split <;> split <;> simp_all <;> omega
              rw [e1] at hr
              simp only [World.cell?, hheap] at hr
              have hlt : j % (T e).size < cs'.length := by rw [hl']; exact Nat.mod_lt _ h.2
              rw [List.getElem?_eq_getElem hlt] at hr
              exact ⟨_, by simpa using hr⟩
            have hsz : off + len * (T e).size ≤ arr.size := by
              have hp : 0 < len * (T e).size := Nat.mul_pos (by omega) h.2
              obtain ⟨v, hv⟩ := hall (len * (T e).size - 1) (by omega)
              have := (Array.getElem?_eq_some_iff.1 hv).1
              omega
            let vs := (arr.toList.drop off).take (len * (T e).size)
            have hvl : vs.length = len * (T e).size := by simp [vs]; omega
            have hvs : ∀ (k : Nat) v, vs[k]? = some v → arr[off + k]? = some v := by
              intro k v hk
              have hlt : k < vs.length := (List.getElem?_eq_some_iff.1 hk).1
              simp only [vs] at hk
              rw [List.getElem?_take_of_lt (by omega), List.getElem?_drop] at hk
              simpa using hk
            have hitems : ∀ i, i < elems.length → DataW.trod enc P w 0 (fun _ => true) true m e ((vs.drop (i * (T e).size)).take (T e).size) = elems[i]? := by
              intro i hi
              obtain ⟨cs', hc', hd'⟩ := hcells i (by omega)
              obtain ⟨_, hl', hg'⟩ := World.cells?_some hc'
              have : (vs.drop (i * (T e).size)).take (T e).size = cs' := by
                have hb1 : i * (T e).size + (T e).size ≤ len * (T e).size := by
                  rw [← Nat.succ_mul]; exact Nat.mul_le_mul_right _ (by omega)
                refine List.ext_getElem? fun k => ?_
                by_cases hk : k < (T e).size
                · rw [List.getElem?_take_of_lt hk, List.getElem?_drop, ← hg' k hk]
                  have e1 : (Addr.add (Addr.add ⟨b, off, none⟩ (i * (T e).size)) k) = ⟨b, off + (i * (T e).size + k), none⟩ := by
                    unfold Addr.add
                    split <;> split <;> simp_all <;> omega
                  rw [e1]
                  have hlt : i * (T e).size + k < vs.length := by omega
                  simp only [World.cell?, hheap]
                  rw [List.getElem?_eq_getElem hlt]
                  have := hvs _ _ (List.getElem?_eq_getElem hlt)
                  simp [this]
                · rw [List.getElem?_eq_none (by simp; omega), List.getElem?_eq_none (by omega)]
              rw [this]; simpa using hd'
            obtain ⟨qss, k1, k2, k3, k4⟩ := open_items (open_trod hT n e h.1.2) vs elems hitems hw2 (by rw [hvl, hel])
            refine ⟨[.slice qss], RepAll.one ?_, by simp only [Wf, hdd]; exact ⟨qss, rfl, by rw [k1]; exact hlen, by omega, k3⟩, ?_⟩
            · have := RepP.sl (w := w) (I := fun b => b < w.heap.size) qss b off cap (T e).size arr et fr vs hb hheap (fun x hx => Wf_len h.1.2 (k3 x hx)) (by omega) hvs (by rw [k2.1]) (fun k q v hq hv => k2.2 k q v hq hv)
              rw [k1, hel] at this; exact this
            · simp only [pbL, pb, uptoBulk]; omega
          · cases ha0
    | arr m e =>
      cases ds <;> simp [descOk] at hd
      obtain ⟨rfl, rfl⟩ := hd
      simp only [Bool.and_eq_true, beq_iff_eq] at h
      have hec := cellsOf_T hT (okTy_other h.1)
      obtain ⟨xs, f, rfl, rfl, hcl, hxl, hg⟩ := DataW.trod_array hds hx
      rw [hcell] at hcl
      rw [hec] at hg
      simp only [DataW.weights, hds] at hw
      obtain ⟨qss, k1, k2, k3, k4⟩ := open_items (open_trod hT n e h.1) cs xs (fun i hi => hg i (by omega)) hw (by rw [hcl, h.2, hxl])
      refine ⟨qss.flatten, k2, by simp only [Wf, hdd]; exact ⟨qss, by omega, rfl, k3⟩, ?_⟩
      rw [pbL_flatten]; simp only [uptoBulk]; omega
    | struct fs =>
      cases ds <;> simp [descOk] at hd
      rename_i fields
      subst hd
      simp only [Bool.and_eq_true] at h
      obtain ⟨xs, f, rfl, rfl, hcl, hxl, hg⟩ := DataW.trod_struct hds hx
      rw [hcell] at hcl
      simp only [DataW.weights, hds] at hw
      have hok : ∀ g ∈ fields.toList, okTy T n g.type = true := fun g hg => by
        have := List.all_eq_true.1 h.2 (g.offset, g.type) (List.mem_map.2 ⟨g, hg, rfl⟩)
        exact this
      obtain ⟨qs, k1, k2, k3⟩ := open_fields hT (m := f) (cs := cs) fields.toList 0 (T t).size xs h.1 hok (fun g hg => open_trod hT n g.type (hok g hg)) (by simpa using hxl) (fun i g hi => hg i g (by simpa using hi)) hw (by omega)
      exact ⟨qs, by simpa using k1, by simp only [Wf, hdd]; exact k2, by simp only [uptoBulk]; omega⟩
    | _ => simp at h
end
end Go.AW

/- From contracts to the rows: for every input the law returns true, and each argument reads as it did. -/
set_option linter.unusedVariables false
set_option linter.unusedSimpArgs false
namespace Go.AW
open Go.ChangeShapes Go.WideShapes Go.ChangeAt Go.RowKit Go.Proofs Go.Proofs.Ytocalihefpafgaa
open Go.Proofs.Ytocalihefpafgaa.Rows (uptoBulk uptoBulkAll uptoSmall)

def argV (T : Tab) (t : Nat) (qs : List PV) : V := if (T t).d.isAgg then .agg (qs.map .p) else match qs with | [q] => .one (.p q) | _ => .undef
def argVs (T : Tab) : List Nat → List (List PV) → List V
  | t :: ts, q :: qs => argV T t q :: argVs T ts qs
  | _, _ => []
def WfArgs (T : Tab) : List Nat → List (List PV) → Prop
  | [], [] => True
  | t :: ts, q :: qs => Wf T 8 t q ∧ WfArgs T ts qs
  | _, _ => False

section
variable {H : Type} {enc : TypeId × Value → H} {P : Program} {T : Tab} {w : World}

theorem okTy_size {n t : Nat} (h : okTy T n t = true) (ha : (T t).d.isAgg = false) : (T t).size = 1 := by
  cases n with
  | zero => simp [okTy] at h
  | succ n =>
    simp only [okTy] at h
    generalize (T t).d = d at h ha
    cases d <;> simp_all [TD.isAgg]

theorem argV_rep (hT : TabOk P T) {n t : Nat} {v : Value} {qs : List PV} {base : Nat} {gv : GV} (ho : okTy T n t = true) (hw : Wf T n t qs) (hv : Value.okWide P w .any base t v) (hr : RepAll w qs v.cells.toList) :
    RepV T w (fun b => b < w.heap.size) (fun _ => none) gv (argV T t qs) v := by
  obtain ⟨ds, hds, hd⟩ := (hT t (okTy_other ho)).desc
  unfold Value.okWide at hv
  rw [hds] at hv
  have hlen := Wf_len ho hw
  unfold argV
  cases ha : (T t).d.isAgg with
  | true =>
    rw [if_pos rfl]
    have : ∃ cs, v = .agg cs := by
      generalize (T t).d = d at hd ha
      cases d <;> simp [TD.isAgg] at ha <;> cases ds <;> simp [descOk] at hd
      · obtain ⟨cs, h, _⟩ := hv; exact ⟨cs, h⟩
      · obtain ⟨cs, h, _⟩ := hv; exact ⟨cs, h⟩
    obtain ⟨cs, rfl⟩ := this
    refine ⟨cs, rfl, by have := hr.1; simpa [Value.cells] using this.symm, fun k c u hc hu => ?_⟩
    rw [List.getElem?_map] at hc
    cases hq : qs[k]? with
    | none => rw [hq] at hc; cases hc
    | some q =>
      rw [hq] at hc
      simp only [Option.map_some, Option.some.injEq] at hc
      subst hc
      exact hr.2 k q u hq (by simpa [Value.cells] using hu)
  | false =>
    rw [if_neg (by decide)]
    have hs := okTy_size ho ha
    match qs, hlen with
    | [q], _ =>
      have hne : ∀ cs, v ≠ .agg cs := by
        rintro cs rfl
        cases n with
        | zero => simp [okTy] at ho
        | succ n =>
          simp only [okTy] at ho
          generalize (T t).d = d at hd ha ho
          cases d <;> simp [TD.isAgg] at ha ho <;> cases ds <;> simp [descOk] at hd <;> simp [Cell.okWide, Cell.ok, hds] at hv
      have hc : v.cells = #[v] := by
        cases v <;> first | rfl | exact absurd rfl (hne _)
      rw [hc] at hr
      exact hr.2 0 q v rfl rfl
    | [], h => simp at h; omega
    | _ :: _ :: _, h => simp at h; omega

theorem open_all (hT : TabOk P T) {base : Nat} {gv : GV} : ∀ (ts : List Nat) (vs : List Value) (ds : List (DataW H)) (ps : List MemPlace), ts.all (okTy T 8) = true → DataW.TrodAll enc P w 0 (fun _ => true) true ts vs ds ps →
    (∀ (j : Nat) t v, ts[j]? = some t → vs[j]? = some v → Value.okWide P w .any base t v) → (∀ m ∈ DataW.weightsEach P ts ds, m ≤ reachBytes) →
    ∃ qss, WfArgs T ts qss ∧ pbLL qss ≤ uptoBulkAll ds ∧ vs.length = ts.length ∧ ds.length = ts.length ∧ (argVs T ts qss).length = ts.length ∧
      ∀ (k : Nat) a v, (argVs T ts qss)[k]? = some a → vs[k]? = some v → RepV T w (fun b => b < w.heap.size) (fun _ => none) gv a v
  | [], [], [], ps, _, _, _, _ => ⟨[], trivial, by simp [pbLL], rfl, rfl, rfl, fun k a v h => by simp [argVs] at h⟩
  | t :: ts, v :: vs, d :: ds, ps, ho, hr, hv, hw => by
    obtain ⟨p, q, ⟨fuel, h1⟩, h2, rfl⟩ := hr
    simp only [List.all_cons, Bool.and_eq_true] at ho
    simp only [DataW.weightsEach, List.mem_append] at hw
    obtain ⟨qs, k1, k2, k3⟩ := open_trod hT 8 t ho.1 fuel _ _ h1 (fun m hm => hw m (Or.inl hm))
    obtain ⟨qss, l1, l2, l3, l4, l5, l6⟩ := open_all hT (gv := gv) ts vs ds q ho.2 h2 (fun j t' v' hj hj' => hv (j + 1) t' v' (by simpa using hj) (by simpa using hj')) (fun m hm => hw m (Or.inr hm))
    have k3 : pbL qs ≤ uptoBulk d := k3
    refine ⟨qs :: qss, ⟨k2, l1⟩, by simp only [pbLL, uptoBulkAll]; omega, by simp [l3], by simp [l4], by simp [argVs, l5], fun k a u ha hu => ?_⟩
    cases k with
    | zero =>
      simp [argVs] at ha hu
      subst ha hu
      exact argV_rep hT ho.1 k2 (hv 0 t v rfl rfl) k1
    | succ k => exact l6 k a u (by simpa [argVs] using ha) (by simpa using hu)
  | [], _ :: _, _, _, _, h, _, _ => by simp [DataW.TrodAll] at h
  | [], [], _ :: _, _, _, h, _, _ => by simp [DataW.TrodAll] at h
  | _ :: _, [], _, _, _, h, _, _ => by simp [DataW.TrodAll] at h
  | _ :: _, _ :: _, [], _, _, h, _, _ => by simp [DataW.TrodAll] at h

theorem shut_all {W W' : World} (hl : laidOutB P = true) (hb : Below W.heap.size W W') : ∀ (ts : List Nat) (vs : List Value) (ds : List (DataW H)) (ps : List MemPlace), ts.all (fun t => P.readableRec t && decide (t < P.types.size)) = true →
    DataW.TrodAll enc P W 0 (fun _ => true) true ts vs ds ps → DataW.TrodAll enc P W' 0 (fun b => decide (b < W.heap.size)) true ts vs ds ps
  | [], [], [], ps, _, h => h
  | t :: ts, v :: vs, d :: ds, ps, ho, hr => by
    obtain ⟨p, q, h1, h2, rfl⟩ := hr
    simp only [List.all_cons, Bool.and_eq_true, decide_eq_true_eq] at ho
    have hlt : ∀ x ∈ p, x.block < W.heap.size := by obtain ⟨m, hm⟩ := h1; exact DataW.trod_lt m _ _ _ hm
    exact ⟨p, q, Below.trod hl ho.1.1 ho.1.2 h1 hb hlt, shut_all hl hb ts vs ds q ho.2 h2, rfl⟩
  | [], _ :: _, _, _, _, h => by simp [DataW.TrodAll] at h
  | [], [], _ :: _, _, _, h => by simp [DataW.TrodAll] at h
  | _ :: _, [], _, _, _, h => by simp [DataW.TrodAll] at h
  | _ :: _, _ :: _, [], _, _, h => by simp [DataW.TrodAll] at h
end

theorem wf_int {T : Tab} {n t : Nat} {k : IntKind} {q : List PV} (h : Wf T (n + 1) t q) (hd : (T t).d = .int k) : ∃ m, q = [.int k m] ∧ (Lit.int k m).wf = true := by
  simpa only [Wf, hd] using h
theorem wf_bool {T : Tab} {n t : Nat} {q : List PV} (h : Wf T (n + 1) t q) (hd : (T t).d = .bool) : ∃ b, q = [.bool b] := by
  simpa only [Wf, hd] using h
theorem wf_str {T : Tab} {n t : Nat} {q : List PV} (h : Wf T (n + 1) t q) (hd : (T t).d = .str) : ∃ s : ByteArray, q = [.str s] ∧ s.size ≤ reachBytes := by
  simpa only [Wf, hd] using h
theorem wf_sl {T : Tab} {n t e : Nat} {q : List PV} (h : Wf T (n + 1) t q) (hd : (T t).d = .sl e) : ∃ xs, q = [.slice xs] ∧ xs.length * (T e).bytes ≤ reachBytes ∧ xs.length ≤ maxLen ∧ ∀ x ∈ xs, Wf T n e x := by
  simpa only [Wf, hd] using h
theorem wf_arr {T : Tab} {n t m e : Nat} {q : List PV} (h : Wf T (n + 1) t q) (hd : (T t).d = .arr m e) : ∃ xs : List (List PV), xs.length = m ∧ q = xs.flatten ∧ ∀ x ∈ xs, Wf T n e x := by
  simpa only [Wf, hd] using h
theorem wf_struct {T : Tab} {n t : Nat} {fs : List (Nat × Nat)} {q : List PV} (h : Wf T (n + 1) t q) (hd : (T t).d = .struct fs) : WfFields (Wf T n) fs q := by
  simpa only [Wf, hd] using h
theorem wf_field {W : Nat → List PV → Prop} {o t : Nat} {fs : List (Nat × Nat)} {q : List PV} (h : WfFields W ((o, t) :: fs) q) : ∃ a b, q = a ++ b ∧ W t a ∧ WfFields W fs b := h
theorem wf_end {W : Nat → List PV → Prop} {q : List PV} (h : WfFields W [] q) : q = [] := h
theorem wfArgs_cons {T : Tab} {t : Nat} {ts : List Nat} {qss : List (List PV)} (h : WfArgs T (t :: ts) qss) : ∃ q r, qss = q :: r ∧ Wf T 8 t q ∧ WfArgs T ts r := by
  cases qss with
  | nil => exact h.elim
  | cons q r => exact ⟨q, r, rfl, h⟩
theorem wfArgs_nil {T : Tab} {qss : List (List PV)} (h : WfArgs T [] qss) : qss = [] := by
  cases qss with
  | nil => rfl
  | cons q r => exact h.elim

theorem own : ownKnob Try.prog.godebug = none := by kernel_rfl
theorem laidOut : laidOutB Try.prog = true := by kernel_rfl

section
variable {H : Type} {enc : TypeId × Value → H} {n : Nat} {fn : Func} {s : ChangeSpec} {ts : List Nat} {os : Os}

set_option maxRecDepth 100000 in
/-- The one step that both forms share. -/
theorem law_step (hp : fn.params.toList = ts) (hr : fn.resultTypes = #[4]) (hs : s.vars = []) (hspec : ∀ (H : Type) (ds : List (DataW H)), ds.length = ts.length → s.fn H ds = { results := [.lit (.bool true)], args := ds })
    (hok : ts.all (okTy tab 8) = true) (hread : ts.all (fun t => Try.prog.readableRec t && decide (t < Try.prog.types.size)) = true) {W : World} {base : Nat} {args : Array Value} {ds gs : List (DataW H)} {before : List MemPlace}
    (hval : ∀ (j : Nat) t v, fn.params[j]? = some t → args[j]? = some v → Value.okWide Try.prog W .any base t v) (hW : DataW.Whole enc Try.prog fn.params.toList s.vars false W args.toList ds gs before)
    (hsz : (DataW.weightsEach Try.prog (fn.params.toList ++ s.plain.varTypes Try.prog) (ds ++ gs)).all (· ≤ reachBytes) = true)
    (h : ∀ qss, WfArgs tab ts qss → pbLL qss ≤ uptoBulkAll (ds ++ gs) → ConSem Try.prog tab n (argVs tab ts qss) [] (.one (.p (.bool true))) []) :
    Calls Try.prog n args W fun e W' => ∃ v, e = .returned v ∧ s.post enc Try.prog fn false true false false W args v W' := by
  have hW' := hW
  obtain ⟨p, q, hA, hV, rfl, hfz, hnd⟩ := hW
  rw [hs] at hV
  obtain ⟨rfl, rfl⟩ := trodVars_none hV
  have hvt : s.plain.varTypes Try.prog = [] := by
    have : s.plain.vars = s.vars := rfl
    simp [DataSpec.varTypes, this, hs]
  rw [hvt] at hsz
  rw [hp] at hA hsz
  simp only [List.append_nil] at hsz h hW'
  have hw : ∀ m ∈ DataW.weightsEach Try.prog ts ds, m ≤ reachBytes := fun m hm => by
    have := List.all_eq_true.1 hsz m hm; simpa using this
  obtain ⟨qss, h1, h2, h3, h4, h5, h6⟩ := open_all (gv := fun _ => (none, 0)) tabOk ts args.toList ds p hok hA (fun j t v hj hj' => hval j t v (by rw [← hp] at hj; simpa using hj) (by simpa using hj')) hw
  have hc := (h qss h1 h2).2 W (fun _ => (none, 0)) (fun b => b < W.heap.size) args (fun b hb => ⟨hb, by rintro ⟨id, o, ho, _⟩; simp [mOf] at ho⟩)
    ⟨rfl, rfl, rfl, Nat.le_refl _, fun _ _ _ => rfl, fun id o ho => by simp [mOf] at ho, fun id o b ho => by simp [mOf] at ho, fun id id' o o' b ho => by simp [mOf] at ho, fun id o b ho => by simp [mOf] at ho, Pers.refl _ _⟩ (by rw [h5, ← h3]; simp) (fun k a v ha hv => by
      have := h6 k a v ha (by simpa using hv)
      have hm : mOf [] = fun _ => none := by funext id; rfl
      rw [hm]; exact this)
  refine hc.mono fun e W' ⟨v, gv', he, hrel, hrv⟩ => ?_
  have hv : v = .bool true := rp_bool hrv
  subst hv
  have bel : Below W.heap.size W W' := ⟨hrel.os, hrel.tape, hrel.output, hrel.size, fun k hk => hrel.keep k hk (by rintro ⟨id, o, ho, _⟩; simp [mOf] at ho)⟩
  refine ⟨_, he, ds, [], p, [], p, [], hW', ?_, ?_, ?_, bel.frame _, fun h => by cases h⟩
  · rw [List.append_nil, hspec H ds h4, hr]
    exact trodAll_mk1 (shut_bool Try.underlying4 _)
  · rw [List.append_nil, hspec H ds h4, hp]
    exact shut_all laidOut bel ts args.toList ds p hread hA
  · rw [List.append_nil, hspec H ds h4, hs]
    rfl

set_option maxRecDepth 100000 in
/-- For every input. -/
theorem law_said (started : os.Started) (noInit : Try.checked.prog.inits.idxOf? n = none) (hfn : Try.checked.prog.funcs[n]? = some fn) (hp : fn.params.toList = ts) (hr : fn.resultTypes = #[4]) (hs : s.vars = [])
    (hspec : ∀ (H : Type) (ds : List (DataW H)), ds.length = ts.length → s.fn H ds = { results := [.lit (.bool true)], args := ds })
    (hok : ts.all (okTy tab 8) = true) (hread : ts.all (fun t => Try.prog.readableRec t && decide (t < Try.prog.types.size)) = true)
    (witness : ∃ (w : World) (tape : Tape) (i : Input), w.os = os ∧ (w.forCall tape i).Shaped Try.checked.prog ∧ i.vars = [] ∧ Input.okWide Try.checked.prog (w.forCall tape i) .any w.heap.size n i ∧
      s.pre6 enc Try.checked.prog fn [] false (w.forCall tape i).memory i.args ∧ ({} : Assume).holds Try.checked.prog (lone (Frame.enter Try.checked.prog n i.args .normal) [] (w.forCall tape i)))
    (h : ∀ qss, WfArgs tab ts qss → ConSem Try.prog tab n (argVs tab ts qss) [] (.one (.p (.bool true))) []) :
    ReturnsInHanded {} Try.checked os n .any (s.pre6 enc Try.checked.prog fn [] false) (s.post enc Try.checked.prog fn false true false false) :=
  returnsInHanded_of_change_sized (C := Try.checked) own started noInit hfn witness fun W base args ds gs before hval hW hc hsz _ =>
    law_step hp hr hs hspec hok hread hval hW hsz (fun qss hq _ => h qss hq)

set_option maxRecDepth 100000 in
/-- Where what it reads is of bulk at most 1048576. -/
theorem law_upto {F : Stop.Interp} (started : os.Started) (noInit : Try.checked.prog.inits.idxOf? n = none) (hfn : Try.checked.prog.funcs[n]? = some fn) (hp : fn.params.toList = ts) (hr : fn.resultTypes = #[4]) (hs : s.vars = [])
    (hspec : ∀ (H : Type) (ds : List (DataW H)), ds.length = ts.length → s.fn H ds = { results := [.lit (.bool true)], args := ds })
    (hok : ts.all (okTy tab 8) = true) (hread : ts.all (fun t => Try.prog.readableRec t && decide (t < Try.prog.types.size)) = true)
    (witness : ∃ (w : World) (tape : Tape) (i : Input), w.os = os ∧ (w.forCall tape i).Shaped Try.checked.prog ∧ i.vars = [] ∧ Input.okWide Try.checked.prog (w.forCall tape i) .any w.heap.size n i ∧
      (Rows.OpenSpec.upto s).pre6 enc Try.checked.prog fn [] false (w.forCall tape i).memory i.args ∧ ({} : Assume).holds Try.checked.prog (lone (Frame.enter Try.checked.prog n i.args .normal) [] (w.forCall tape i)))
    (h : ∀ qss, WfArgs tab ts qss → pbLL qss ≤ 1048576 → ConSem Try.prog tab n (argVs tab ts qss) [] (.one (.p (.bool true))) []) :
    ReturnsInHanded {} Try.checked os n .any ((Rows.OpenSpec.upto s).pre6 enc Try.checked.prog fn [] false) (((Rows.OpenSpec.upto s).at F).post enc Try.checked.prog fn false true false false) := by
  refine returnsInHanded_of_calls own started noInit witness ?_
  intro w tape i _ _ _ hok' hpre hholds
  obtain ⟨_, _, _, fn', hfn', _, _, _, _, hval⟩ := hok'
  have e : fn' = fn := Option.some.inj (hfn'.symm.trans hfn)
  subst e
  obtain ⟨ds, gs, before, hw, hc, hkk⟩ := (OpenSpec.pre_some (k := uptoSmall) rfl [] false _ _).1 hpre.1
  have hw' := DataW.Whole.of_heap (w' := w.forCall tape i) (by rfl) hw
  have hk : uptoBulkAll (ds ++ gs) ≤ 1048576 := of_decide_eq_true hkk
  refine (law_step (s := s) hp hr hs hspec hok hread hval hw' (hpre.2.weights hw) (fun qss hq hb => h qss hq (Nat.le_trans hb hk))).mono fun e W' ⟨v, he, hp⟩ => ?_
  subst he
  exact ChangeSpec.post_blind (s := s) hp
end
end Go.AW

/- Facts of the program that every row of this seat asks for, each reckoned by itself. -/
set_option maxRecDepth 100000
set_option linter.unusedSimpArgs false
namespace Go.AW
open Go Go.Proofs Go.Proofs.Ytocalihefpafgaa
theorem pLays : Try.prog.laysLater = false := by kernel_rfl
theorem pRefl : Try.prog.bearsReflect = false := by kernel_rfl
theorem pRows : Try.prog.doorRows = [] := by kernel_rfl
theorem pDoor : Try.prog.doorFits [] = true := by
  unfold Program.doorFits
  rw [pRows]
  rfl
theorem strip_cut (rest : List (List Char)) : stripLifts liftWords ("cut".toList :: rest) = ([], "cut".toList :: rest) := by
  simp [liftWords, stripLifts]
theorem pWords : ∃ rest, behindMainWord (wordsSigns Try.prog.initOrder.toList) = "cut".toList :: rest := by
  have h : Try.prog.initOrder.toList = _ := (congrArg String.toList (rfl : Try.prog.initOrder = String.ofList _)).trans String.toList_ofList
  have h2 : "cut".toList = _ := (congrArg String.toList (rfl : "cut" = String.ofList _)).trans String.toList_ofList
  rw [h, h2]
  exact ⟨_, rfl⟩
theorem enter_of {P : Program} {rest : List (List Char)} (h1 : behindMainWord (wordsSigns P.initOrder.toList) = "cut".toList :: rest) (h2 : P.laysLater = false) (h3 : P.bearsReflect = false) (h4 : P.doorFits [] = true) : P.mayEnter = true := by
  unfold Program.mayEnter
  rw [h1]
  simp only [strip_cut, h2, h3, h4, List.head?_cons, List.contains_nil, Bool.not_false, Bool.false_or, Bool.and_true, Bool.true_and, beq_self_eq_true, Bool.or_true, Bool.not_true, Bool.or_false]
theorem pEnter : Try.prog.mayEnter = true := by
  obtain ⟨rest, h1⟩ := pWords
  exact enter_of h1 pLays pRefl pDoor
theorem make_of {P : Program} {rest : List (List Char)} (h1 : behindMainWord (wordsSigns P.initOrder.toList) = "cut".toList :: rest) : P.make = some .cut := by
  unfold Program.make
  rw [h1]
  simp
theorem pMake : Try.prog.make = some .cut := by
  obtain ⟨rest, h1⟩ := pWords
  exact make_of h1
theorem pLifts : Try.prog.liftsFinal = false := by
  have h : Try.prog.initOrder.toList = _ := (congrArg String.toList (rfl : Try.prog.initOrder = String.ofList _)).trans String.toList_ofList
  unfold Program.liftsFinal Program.headLifts
  simp only [h]
  decide
theorem pRace : Try.prog.funcs.all (fun fn => !fn.norace) = true := by kernel_rfl
theorem pHeard : Try.prog.stopsHeard = true := by
  have h := pRace
  unfold Program.stopsHeard
  rw [Array.all_eq_true_iff_forall_mem] at h ⊢
  intro fn hfn
  rw [h fn hfn, Bool.or_true]
theorem pMaps : mapsRowed Try.prog = true := by kernel_rfl
theorem pStops : Try.prog.stops = [] := by kernel_rfl
theorem pKnobs : Try.prog.stopKnobs = [] := by kernel_rfl
theorem pKeys : Try.prog.plainKeys = Rows.lsnOrdersRow.plainKeys := by kernel_rfl

/-- The row's closed facts, each by itself. -/
theorem joined_of {P : Program} {f : FuncId} {fn : Func} {s : ChangeSpec} {c : OpenClaim} (h1 : (c.wf (OpenSpec.ofChange s) && fn.params.all (P.readableRec ·) && namedTie P c.named s.vars && (c.stops == []) && (c.knobs == []) && c.shortTexts.isNone && (c.pinned == c.pinnedBy)) = true)
    (h2 : laidOutB P = true) (h3 : mapsRowed P = true) (h4 : P.stops = []) (h5 : P.stopKnobs = []) (h6 : P.stopsHeard = true) (h7 : P.mayEnter = true) (h8 : P.liftsFinal = c.lifted) (h9 : P.make = some c.make) (h10 : P.plainKeys = c.plainKeys)
    (q1 : (c.inPlace == P.inPlace f) = true) (q2 : (c.unfollowed == P.unfollowed f) = true) (q3 : (c.recurses == P.recurses f) = true) (q4 : (c.named == P.varsNamed f) = true)
    (r1 : ((c.maps == (fn.params.toList ++ s.plain.varTypes P).any (P.mapsRec ·)) && (c.ifaces == (fn.params.toList ++ s.plain.varTypes P).any (P.ifacesRec ·)) && (c.mapsOut == P.mapsAmong fn.resultTypes.toList)) = true)
    (r2 : ((c.loops == (fn.params.toList ++ s.plain.varTypes P).any (P.loopsFrom ·)) && (c.wideKeys == (fn.params.toList ++ s.plain.varTypes P ++ fn.resultTypes.toList).any (P.wideKeysFrom ·))) = true)
    (r3 : (s.vars.all (P.varReadable ·) && fn.resultTypes.all (fun t => P.readableRec t && decide (t < P.types.size)) && (c.ifacesOut == fn.resultTypes.toList.any (P.ifacesRec ·)) && (c.loopsOut == fn.resultTypes.toList.any (P.loopsFrom ·))) = true)
    (r4 : (c.kinds == (if c.domain.isEmpty then [] else fn.params.toList.map fun t => match P.underlying t with | some (.int k) => some k | _ => none)) = true)
    (r5 : ((c.veiled == (fn.params.toList ++ s.plain.varTypes P ++ fn.resultTypes.toList).any (P.veiledRec ·)) && c.veiledFits P fn.params.toList (fn.params.toList ++ s.plain.varTypes P ++ fn.resultTypes.toList)) = true) : joinedFacts P f fn s c = true := by
  simp only [Bool.and_eq_true] at h1 r1 r2 r3 r5
  obtain ⟨⟨⟨⟨⟨⟨a1, a2⟩, a3⟩, a4⟩, a5⟩, a6⟩, a7⟩ := h1
  obtain ⟨⟨b1, b2⟩, b3⟩ := r1
  obtain ⟨c1, c2⟩ := r2
  obtain ⟨⟨⟨d1, d2⟩, d3⟩, d4⟩ := r3
  obtain ⟨e1, e2⟩ := r5
  have g4 : (P.stops == []) = true := by rw [h4]; rfl
  have g5 : (P.stopKnobs == []) = true := by rw [h5]; rfl
  have g8 : (c.lifted == P.liftsFinal) = true := by rw [h8]; simp
  have g9 : (P.make == some c.make) = true := by rw [h9]; simp
  have g10 : (c.plainKeys == P.plainKeys) = true := by rw [h10]; simp
  unfold joinedFacts
  simp only [Bool.and_eq_true]
  and_intros <;> assumption
end Go.AW
