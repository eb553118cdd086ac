/-
  The types of this seat's program, as a table; its methods of pointers.
-/
import Derived.Test.YtkljgpepogkgdaaDoorV11
import Derived.Test.YtkljgpepogkgdaaDoorProg
set_option linter.unusedVariables false
set_option linter.unusedSimpArgs false
namespace Go.Proofs.YtkljgpepogkgdaaDoor
open Go Go.Vex
def t1 : TI := ⟨.func, 1, 8, [.nilfn], []⟩
def t2 : TI := ⟨.int .i64, 1, 8, [.i .i64 (.lit 0)], []⟩
def t3 : TI := ⟨.int .i64, 1, 8, [.i .i64 (.lit 0)], []⟩
def t4 : TI := ⟨.bool, 1, 1, [.b (.lit false)], []⟩
def t5 : TI := ⟨.int .u8, 1, 1, [.i .u8 (.lit 0)], []⟩
def t6 : TI := ⟨.int .u8, 1, 1, [.i .u8 (.lit 0)], []⟩
def t7 : TI := ⟨.struct [(0, 2), (1, 3), (2, 4), (3, 6)], 4, 24, [.i .i64 (.lit 0), .i .i64 (.lit 0), .b (.lit false), .i .u8 (.lit 0)], [some .i64, some .i64, none, some .u8]⟩
def t8 : TI := ⟨.struct [(0, 2), (1, 3), (2, 4), (3, 6)], 4, 24, [.i .i64 (.lit 0), .i .i64 (.lit 0), .b (.lit false), .i .u8 (.lit 0)], [some .i64, some .i64, none, some .u8]⟩
def t9 : TI := ⟨.str, 1, 16, [.str ⟨#[]⟩], []⟩
def t10 : TI := ⟨.str, 1, 16, [.str ⟨#[]⟩], []⟩
def t11 : TI := ⟨.str, 1, 16, [.str ⟨#[]⟩], []⟩
def t12 : TI := ⟨.int .u64, 1, 8, [.i .u64 (.lit 0)], []⟩
def t13 : TI := ⟨.struct [(0, 9), (1, 12)], 2, 24, [.str ⟨#[]⟩, .i .u64 (.lit 0)], []⟩
def t14 : TI := ⟨.struct [(0, 9), (1, 12)], 2, 24, [.str ⟨#[]⟩, .i .u64 (.lit 0)], []⟩
def t15 : TI := ⟨.ptr 135, 1, 8, [.nilp], []⟩
def t16 : TI := ⟨.ptr 138, 1, 8, [.nilp], []⟩
def t17 : TI := ⟨.ptr 146, 1, 8, [.nilp], []⟩
def t18 : TI := ⟨.struct [(0, 17)], 1, 8, [.nilp], []⟩
def t19 : TI := ⟨.struct [(0, 17)], 1, 8, [.nilp], []⟩
def t20 : TI := ⟨.iface, 1, 16, [.nilifc], []⟩
def t21 : TI := ⟨.int .i32, 1, 4, [.i .i32 (.lit 0)], []⟩
def t22 : TI := ⟨.int .u32, 1, 4, [.i .u32 (.lit 0)], []⟩
def t23 : TI := ⟨.array 16 22, 16, 64, [.ints .u32 (.lit 16) (List.replicate 16 0)], [some .u32, some .u32, some .u32, some .u32, some .u32, some .u32, some .u32, some .u32, some .u32, some .u32, some .u32, some .u32, some .u32, some .u32, some .u32, some .u32]⟩
def t24 : TI := ⟨.struct [(0, 23), (16, 22), (17, 22), (18, 22), (19, 4), (20, 4)], 21, 80, [.ints .u32 (.lit 16) (List.replicate 16 0), .i .u32 (.lit 0), .i .u32 (.lit 0), .i .u32 (.lit 0), .b (.lit false), .b (.lit false)], [some .u32, some .u32, some .u32, some .u32, some .u32, some .u32, some .u32, some .u32, some .u32, some .u32, some .u32, some .u32, some .u32, some .u32, some .u32, some .u32, some .u32, some .u32, some .u32, none, none]⟩
def t25 : TI := ⟨.struct [(0, 23), (16, 22), (17, 22), (18, 22), (19, 4), (20, 4)], 21, 80, [.ints .u32 (.lit 16) (List.replicate 16 0), .i .u32 (.lit 0), .i .u32 (.lit 0), .i .u32 (.lit 0), .b (.lit false), .b (.lit false)], [some .u32, some .u32, some .u32, some .u32, some .u32, some .u32, some .u32, some .u32, some .u32, some .u32, some .u32, some .u32, some .u32, some .u32, some .u32, some .u32, some .u32, some .u32, some .u32, none, none]⟩
def t26 : TI := ⟨.slice 22, 1, 24, [.nilslc], []⟩
def t27 : TI := ⟨.slice 3, 1, 24, [.nilslc], []⟩
def t28 : TI := ⟨.slice 38, 1, 24, [.nilslc], []⟩
def t29 : TI := ⟨.int .u64, 1, 8, [.i .u64 (.lit 0)], []⟩
def t30 : TI := ⟨.struct [(0, 26), (1, 26), (2, 27), (3, 28), (4, 29), (5, 3), (6, 4)], 7, 120, [.nilslc, .nilslc, .nilslc, .nilslc, .i .u64 (.lit 0), .i .i64 (.lit 0), .b (.lit false)], []⟩
def t31 : TI := ⟨.struct [(0, 26), (1, 26), (2, 27), (3, 28), (4, 29), (5, 3), (6, 4)], 7, 120, [.nilslc, .nilslc, .nilslc, .nilslc, .i .u64 (.lit 0), .i .i64 (.lit 0), .b (.lit false)], []⟩
def t32 : TI := ⟨.ptr 25, 1, 8, [.nilp], []⟩
def t33 : TI := ⟨.ptr 36, 1, 8, [.nilp], []⟩
def t34 : TI := ⟨.slice 48, 1, 24, [.nilslc], []⟩
def t35 : TI := ⟨.struct [(0, 26), (1, 26), (2, 27), (3, 28), (4, 29), (5, 3), (6, 4), (7, 34), (8, 3), (9, 3), (10, 3), (11, 3)], 12, 176, [.nilslc, .nilslc, .nilslc, .nilslc, .i .u64 (.lit 0), .i .i64 (.lit 0), .b (.lit false), .nilslc, .i .i64 (.lit 0), .i .i64 (.lit 0), .i .i64 (.lit 0), .i .i64 (.lit 0)], []⟩
def t36 : TI := ⟨.struct [(0, 26), (1, 26), (2, 27), (3, 28), (4, 29), (5, 3), (6, 4), (7, 34), (8, 3), (9, 3), (10, 3), (11, 3)], 12, 176, [.nilslc, .nilslc, .nilslc, .nilslc, .i .u64 (.lit 0), .i .i64 (.lit 0), .b (.lit false), .nilslc, .i .i64 (.lit 0), .i .i64 (.lit 0), .i .i64 (.lit 0), .i .i64 (.lit 0)], []⟩
def t37 : TI := ⟨.int .i64, 1, 8, [.i .i64 (.lit 0)], []⟩
def t38 : TI := ⟨.int .i64, 1, 8, [.i .i64 (.lit 0)], []⟩
def t39 : TI := ⟨.struct [(0, 37), (1, 3), (2, 22), (3, 38), (4, 22), (5, 3), (6, 4), (7, 22), (8, 4), (9, 29)], 10, 72, [.i .i64 (.lit 0), .i .i64 (.lit 0), .i .u32 (.lit 0), .i .i64 (.lit 0), .i .u32 (.lit 0), .i .i64 (.lit 0), .b (.lit false), .i .u32 (.lit 0), .b (.lit false), .i .u64 (.lit 0)], [some .i64, some .i64, some .u32, some .i64, some .u32, some .i64, none, some .u32, none, some .u64]⟩
def t40 : TI := ⟨.struct [(0, 37), (1, 3), (2, 22), (3, 38), (4, 22), (5, 3), (6, 4), (7, 22), (8, 4), (9, 29)], 10, 72, [.i .i64 (.lit 0), .i .i64 (.lit 0), .i .u32 (.lit 0), .i .i64 (.lit 0), .i .u32 (.lit 0), .i .i64 (.lit 0), .b (.lit false), .i .u32 (.lit 0), .b (.lit false), .i .u64 (.lit 0)], [some .i64, some .i64, some .u32, some .i64, some .u32, some .i64, none, some .u32, none, some .u64]⟩
def t41 : TI := ⟨.func, 1, 8, [.nilfn], []⟩
def t42 : TI := ⟨.func, 1, 8, [.nilfn], []⟩
def t43 : TI := ⟨.func, 1, 8, [.nilfn], []⟩
def t44 : TI := ⟨.func, 1, 8, [.nilfn], []⟩
def t45 : TI := ⟨.func, 1, 8, [.nilfn], []⟩
def t46 : TI := ⟨.func, 1, 8, [.nilfn], []⟩
def t47 : TI := ⟨.struct [(0, 5), (1, 22), (2, 3), (3, 22)], 4, 24, [.i .u8 (.lit 0), .i .u32 (.lit 0), .i .i64 (.lit 0), .i .u32 (.lit 0)], [some .u8, some .u32, some .i64, some .u32]⟩
def t48 : TI := ⟨.struct [(0, 5), (1, 22), (2, 3), (3, 22)], 4, 24, [.i .u8 (.lit 0), .i .u32 (.lit 0), .i .i64 (.lit 0), .i .u32 (.lit 0)], [some .u8, some .u32, some .i64, some .u32]⟩
def t49 : TI := ⟨.func, 1, 8, [.nilfn], []⟩
def t50 : TI := ⟨.func, 1, 8, [.nilfn], []⟩
def t51 : TI := ⟨.func, 1, 8, [.nilfn], []⟩
def t52 : TI := ⟨.func, 1, 8, [.nilfn], []⟩
def t53 : TI := ⟨.func, 1, 8, [.nilfn], []⟩
def t55 : TI := ⟨.func, 1, 8, [.nilfn], []⟩
def t56 : TI := ⟨.int .i64, 1, 8, [.i .i64 (.lit 0)], []⟩
def t57 : TI := ⟨.int .u64, 1, 8, [.i .u64 (.lit 0)], []⟩
def t58 : TI := ⟨.func, 1, 8, [.nilfn], []⟩
def t59 : TI := ⟨.slice 56, 1, 24, [.nilslc], []⟩
def t60 : TI := ⟨.int .i64, 1, 8, [.i .i64 (.lit 0)], []⟩
def t62 : TI := ⟨.func, 1, 8, [.nilfn], []⟩
def t63 : TI := ⟨.struct [(0, 56), (1, 5), (2, 5), (3, 5), (4, 21)], 5, 16, [.i .i64 (.lit 0), .i .u8 (.lit 0), .i .u8 (.lit 0), .i .u8 (.lit 0), .i .i32 (.lit 0)], [some .i64, some .u8, some .u8, some .u8, some .i32]⟩
def t64 : TI := ⟨.struct [(0, 56), (1, 5), (2, 5), (3, 5), (4, 21)], 5, 16, [.i .i64 (.lit 0), .i .u8 (.lit 0), .i .u8 (.lit 0), .i .u8 (.lit 0), .i .i32 (.lit 0)], [some .i64, some .u8, some .u8, some .u8, some .i32]⟩
def t65 : TI := ⟨.func, 1, 8, [.nilfn], []⟩
def t66 : TI := ⟨.func, 1, 8, [.nilfn], []⟩
def t68 : TI := ⟨.func, 1, 8, [.nilfn], []⟩
def t69 : TI := ⟨.int .u16, 1, 2, [.i .u16 (.lit 0)], []⟩
def t71 : TI := ⟨.func, 1, 8, [.nilfn], []⟩
def t72 : TI := ⟨.func, 1, 8, [.nilfn], []⟩
def t73 : TI := ⟨.iface, 1, 16, [.nilifc], []⟩
def t74 : TI := ⟨.iface, 1, 16, [.nilifc], []⟩
def t76 : TI := ⟨.func, 1, 8, [.nilfn], []⟩
def t78 : TI := ⟨.func, 1, 8, [.nilfn], []⟩
def t79 : TI := ⟨.ptr 81, 1, 8, [.nilp], []⟩
def t80 : TI := ⟨.struct [(0, 32), (1, 74), (2, 64), (7, 40)], 17, 112, [.nilp, .nilifc, .i .i64 (.lit 0), .i .u8 (.lit 0), .i .u8 (.lit 0), .i .u8 (.lit 0), .i .i32 (.lit 0), .i .i64 (.lit 0), .i .i64 (.lit 0), .i .u32 (.lit 0), .i .i64 (.lit 0), .i .u32 (.lit 0), .i .i64 (.lit 0), .b (.lit false), .i .u32 (.lit 0), .b (.lit false), .i .u64 (.lit 0)], []⟩
def t81 : TI := ⟨.struct [(0, 32), (1, 74), (2, 64), (7, 40)], 17, 112, [.nilp, .nilifc, .i .i64 (.lit 0), .i .u8 (.lit 0), .i .u8 (.lit 0), .i .u8 (.lit 0), .i .i32 (.lit 0), .i .i64 (.lit 0), .i .i64 (.lit 0), .i .u32 (.lit 0), .i .i64 (.lit 0), .i .u32 (.lit 0), .i .i64 (.lit 0), .b (.lit false), .i .u32 (.lit 0), .b (.lit false), .i .u64 (.lit 0)], []⟩
def t82 : TI := ⟨.func, 1, 8, [.nilfn], []⟩
def t83 : TI := ⟨.func, 1, 8, [.nilfn], []⟩
def t84 : TI := ⟨.func, 1, 8, [.nilfn], []⟩
def t85 : TI := ⟨.func, 1, 8, [.nilfn], []⟩
def t86 : TI := ⟨.func, 1, 8, [.nilfn], []⟩
def t87 : TI := ⟨.func, 1, 8, [.nilfn], []⟩
def t88 : TI := ⟨.func, 1, 8, [.nilfn], []⟩
def t89 : TI := ⟨.func, 1, 8, [.nilfn], []⟩
def t90 : TI := ⟨.ptr 95, 1, 8, [.nilp], []⟩
def t91 : TI := ⟨.struct [(0, 3), (1, 3), (2, 3), (3, 3), (4, 3)], 5, 40, [.i .i64 (.lit 0), .i .i64 (.lit 0), .i .i64 (.lit 0), .i .i64 (.lit 0), .i .i64 (.lit 0)], [some .i64, some .i64, some .i64, some .i64, some .i64]⟩
def t92 : TI := ⟨.struct [(0, 3), (1, 3), (2, 3), (3, 3), (4, 3)], 5, 40, [.i .i64 (.lit 0), .i .i64 (.lit 0), .i .i64 (.lit 0), .i .i64 (.lit 0), .i .i64 (.lit 0)], [some .i64, some .i64, some .i64, some .i64, some .i64]⟩
def t93 : TI := ⟨.func, 1, 8, [.nilfn], []⟩
def t94 : TI := ⟨.struct [(0, 32), (1, 33), (2, 92), (7, 40)], 17, 128, [.nilp, .nilp, .i .i64 (.lit 0), .i .i64 (.lit 0), .i .i64 (.lit 0), .i .i64 (.lit 0), .i .i64 (.lit 0), .i .i64 (.lit 0), .i .i64 (.lit 0), .i .u32 (.lit 0), .i .i64 (.lit 0), .i .u32 (.lit 0), .i .i64 (.lit 0), .b (.lit false), .i .u32 (.lit 0), .b (.lit false), .i .u64 (.lit 0)], []⟩
def t95 : TI := ⟨.struct [(0, 32), (1, 33), (2, 92), (7, 40)], 17, 128, [.nilp, .nilp, .i .i64 (.lit 0), .i .i64 (.lit 0), .i .i64 (.lit 0), .i .i64 (.lit 0), .i .i64 (.lit 0), .i .i64 (.lit 0), .i .i64 (.lit 0), .i .u32 (.lit 0), .i .i64 (.lit 0), .i .u32 (.lit 0), .i .i64 (.lit 0), .b (.lit false), .i .u32 (.lit 0), .b (.lit false), .i .u64 (.lit 0)], []⟩
def t96 : TI := ⟨.func, 1, 8, [.nilfn], []⟩
def t97 : TI := ⟨.func, 1, 8, [.nilfn], []⟩
def t98 : TI := ⟨.func, 1, 8, [.nilfn], []⟩
def t99 : TI := ⟨.func, 1, 8, [.nilfn], []⟩
def t100 : TI := ⟨.func, 1, 8, [.nilfn], []⟩
def t101 : TI := ⟨.int .i64, 1, 8, [.i .i64 (.lit 0)], []⟩
def t102 : TI := ⟨.int .i64, 1, 8, [.i .i64 (.lit 0)], []⟩
def t103 : TI := ⟨.int .i64, 1, 8, [.i .i64 (.lit 0)], []⟩
def t104 : TI := ⟨.struct [(0, 9), (1, 101), (2, 102), (3, 103)], 4, 40, [.str ⟨#[]⟩, .i .i64 (.lit 0), .i .i64 (.lit 0), .i .i64 (.lit 0)], []⟩
def t105 : TI := ⟨.struct [(0, 9), (1, 101), (2, 102), (3, 103)], 4, 40, [.str ⟨#[]⟩, .i .i64 (.lit 0), .i .i64 (.lit 0), .i .i64 (.lit 0)], []⟩
def t107 : TI := ⟨.func, 1, 8, [.nilfn], []⟩
def t108 : TI := ⟨.struct [(0, 3), (1, 3), (2, 3), (3, 3)], 4, 32, [.i .i64 (.lit 0), .i .i64 (.lit 0), .i .i64 (.lit 0), .i .i64 (.lit 0)], [some .i64, some .i64, some .i64, some .i64]⟩
def t109 : TI := ⟨.struct [(0, 3), (1, 3), (2, 3), (3, 3)], 4, 32, [.i .i64 (.lit 0), .i .i64 (.lit 0), .i .i64 (.lit 0), .i .i64 (.lit 0)], [some .i64, some .i64, some .i64, some .i64]⟩
def t110 : TI := ⟨.array 9 109, 36, 288, [.i .i64 (.lit 0), .i .i64 (.lit 0), .i .i64 (.lit 0), .i .i64 (.lit 0), .i .i64 (.lit 0), .i .i64 (.lit 0), .i .i64 (.lit 0), .i .i64 (.lit 0), .i .i64 (.lit 0), .i .i64 (.lit 0), .i .i64 (.lit 0), .i .i64 (.lit 0), .i .i64 (.lit 0), .i .i64 (.lit 0), .i .i64 (.lit 0), .i .i64 (.lit 0), .i .i64 (.lit 0), .i .i64 (.lit 0), .i .i64 (.lit 0), .i .i64 (.lit 0), .i .i64 (.lit 0), .i .i64 (.lit 0), .i .i64 (.lit 0), .i .i64 (.lit 0), .i .i64 (.lit 0), .i .i64 (.lit 0), .i .i64 (.lit 0), .i .i64 (.lit 0), .i .i64 (.lit 0), .i .i64 (.lit 0), .i .i64 (.lit 0), .i .i64 (.lit 0), .i .i64 (.lit 0), .i .i64 (.lit 0), .i .i64 (.lit 0), .i .i64 (.lit 0)], [some .i64, some .i64, some .i64, some .i64, some .i64, some .i64, some .i64, some .i64, some .i64, some .i64, some .i64, some .i64, some .i64, some .i64, some .i64, some .i64, some .i64, some .i64, some .i64, some .i64, some .i64, some .i64, some .i64, some .i64, some .i64, some .i64, some .i64, some .i64, some .i64, some .i64, some .i64, some .i64, some .i64, some .i64, some .i64, some .i64]⟩
def t111 : TI := ⟨.struct [(0, 5), (1, 3)], 2, 16, [.i .u8 (.lit 0), .i .i64 (.lit 0)], [some .u8, some .i64]⟩
def t112 : TI := ⟨.array 3 111, 6, 48, [.i .u8 (.lit 0), .i .i64 (.lit 0), .i .u8 (.lit 0), .i .i64 (.lit 0), .i .u8 (.lit 0), .i .i64 (.lit 0)], [some .u8, some .i64, some .u8, some .i64, some .u8, some .i64]⟩
def t113 : TI := ⟨.func, 1, 8, [.nilfn], []⟩
def t114 : TI := ⟨.ptr 5, 1, 8, [.nilp], []⟩
def t115 : TI := ⟨.struct [(0, 114), (1, 3)], 2, 16, [.nilp, .i .i64 (.lit 0)], []⟩
def t116 : TI := ⟨.array 3 115, 6, 48, [.nilp, .i .i64 (.lit 0), .nilp, .i .i64 (.lit 0), .nilp, .i .i64 (.lit 0)], []⟩
def t117 : TI := ⟨.func, 1, 8, [.nilfn], []⟩
def t118 : TI := ⟨.array 14 85, 14, 112, [.nilfn, .nilfn, .nilfn, .nilfn, .nilfn, .nilfn, .nilfn, .nilfn, .nilfn, .nilfn, .nilfn, .nilfn, .nilfn, .nilfn], []⟩
def t119 : TI := ⟨.func, 1, 8, [.nilfn], []⟩
def t120 : TI := ⟨.func, 1, 8, [.nilfn], []⟩
def t121 : TI := ⟨.func, 1, 8, [.nilfn], []⟩
def t122 : TI := ⟨.func, 1, 8, [.nilfn], []⟩
def t123 : TI := ⟨.array 49 88, 49, 392, [.nilfn, .nilfn, .nilfn, .nilfn, .nilfn, .nilfn, .nilfn, .nilfn, .nilfn, .nilfn, .nilfn, .nilfn, .nilfn, .nilfn, .nilfn, .nilfn, .nilfn, .nilfn, .nilfn, .nilfn, .nilfn, .nilfn, .nilfn, .nilfn, .nilfn, .nilfn, .nilfn, .nilfn, .nilfn, .nilfn, .nilfn, .nilfn, .nilfn, .nilfn, .nilfn, .nilfn, .nilfn, .nilfn, .nilfn, .nilfn, .nilfn, .nilfn, .nilfn, .nilfn, .nilfn, .nilfn, .nilfn, .nilfn, .nilfn], []⟩
def t125 : TI := ⟨.func, 1, 8, [.nilfn], []⟩
def t126 : TI := ⟨.func, 1, 8, [.nilfn], []⟩
def t127 : TI := ⟨.func, 1, 8, [.nilfn], []⟩
def t128 : TI := ⟨.func, 1, 8, [.nilfn], []⟩
def t129 : TI := ⟨.func, 1, 8, [.nilfn], []⟩
def t130 : TI := ⟨.func, 1, 8, [.nilfn], []⟩
def t131 : TI := ⟨.array 49 105, 196, 1960, [.str ⟨#[]⟩, .i .i64 (.lit 0), .i .i64 (.lit 0), .i .i64 (.lit 0), .str ⟨#[]⟩, .i .i64 (.lit 0), .i .i64 (.lit 0), .i .i64 (.lit 0), .str ⟨#[]⟩, .i .i64 (.lit 0), .i .i64 (.lit 0), .i .i64 (.lit 0), .str ⟨#[]⟩, .i .i64 (.lit 0), .i .i64 (.lit 0), .i .i64 (.lit 0), .str ⟨#[]⟩, .i .i64 (.lit 0), .i .i64 (.lit 0), .i .i64 (.lit 0), .str ⟨#[]⟩, .i .i64 (.lit 0), .i .i64 (.lit 0), .i .i64 (.lit 0), .str ⟨#[]⟩, .i .i64 (.lit 0), .i .i64 (.lit 0), .i .i64 (.lit 0), .str ⟨#[]⟩, .i .i64 (.lit 0), .i .i64 (.lit 0), .i .i64 (.lit 0), .str ⟨#[]⟩, .i .i64 (.lit 0), .i .i64 (.lit 0), .i .i64 (.lit 0), .str ⟨#[]⟩, .i .i64 (.lit 0), .i .i64 (.lit 0), .i .i64 (.lit 0), .str ⟨#[]⟩, .i .i64 (.lit 0), .i .i64 (.lit 0), .i .i64 (.lit 0), .str ⟨#[]⟩, .i .i64 (.lit 0), .i .i64 (.lit 0), .i .i64 (.lit 0), .str ⟨#[]⟩, .i .i64 (.lit 0), .i .i64 (.lit 0), .i .i64 (.lit 0), .str ⟨#[]⟩, .i .i64 (.lit 0), .i .i64 (.lit 0), .i .i64 (.lit 0), .str ⟨#[]⟩, .i .i64 (.lit 0), .i .i64 (.lit 0), .i .i64 (.lit 0), .str ⟨#[]⟩, .i .i64 (.lit 0), .i .i64 (.lit 0), .i .i64 (.lit 0), .str ⟨#[]⟩, .i .i64 (.lit 0), .i .i64 (.lit 0), .i .i64 (.lit 0), .str ⟨#[]⟩, .i .i64 (.lit 0), .i .i64 (.lit 0), .i .i64 (.lit 0), .str ⟨#[]⟩, .i .i64 (.lit 0), .i .i64 (.lit 0), .i .i64 (.lit 0), .str ⟨#[]⟩, .i .i64 (.lit 0), .i .i64 (.lit 0), .i .i64 (.lit 0), .str ⟨#[]⟩, .i .i64 (.lit 0), .i .i64 (.lit 0), .i .i64 (.lit 0), .str ⟨#[]⟩, .i .i64 (.lit 0), .i .i64 (.lit 0), .i .i64 (.lit 0), .str ⟨#[]⟩, .i .i64 (.lit 0), .i .i64 (.lit 0), .i .i64 (.lit 0), .str ⟨#[]⟩, .i .i64 (.lit 0), .i .i64 (.lit 0), .i .i64 (.lit 0), .str ⟨#[]⟩, .i .i64 (.lit 0), .i .i64 (.lit 0), .i .i64 (.lit 0), .str ⟨#[]⟩, .i .i64 (.lit 0), .i .i64 (.lit 0), .i .i64 (.lit 0), .str ⟨#[]⟩, .i .i64 (.lit 0), .i .i64 (.lit 0), .i .i64 (.lit 0), .str ⟨#[]⟩, .i .i64 (.lit 0), .i .i64 (.lit 0), .i .i64 (.lit 0), .str ⟨#[]⟩, .i .i64 (.lit 0), .i .i64 (.lit 0), .i .i64 (.lit 0), .str ⟨#[]⟩, .i .i64 (.lit 0), .i .i64 (.lit 0), .i .i64 (.lit 0), .str ⟨#[]⟩, .i .i64 (.lit 0), .i .i64 (.lit 0), .i .i64 (.lit 0), .str ⟨#[]⟩, .i .i64 (.lit 0), .i .i64 (.lit 0), .i .i64 (.lit 0), .str ⟨#[]⟩, .i .i64 (.lit 0), .i .i64 (.lit 0), .i .i64 (.lit 0), .str ⟨#[]⟩, .i .i64 (.lit 0), .i .i64 (.lit 0), .i .i64 (.lit 0), .str ⟨#[]⟩, .i .i64 (.lit 0), .i .i64 (.lit 0), .i .i64 (.lit 0), .str ⟨#[]⟩, .i .i64 (.lit 0), .i .i64 (.lit 0), .i .i64 (.lit 0), .str ⟨#[]⟩, .i .i64 (.lit 0), .i .i64 (.lit 0), .i .i64 (.lit 0), .str ⟨#[]⟩, .i .i64 (.lit 0), .i .i64 (.lit 0), .i .i64 (.lit 0), .str ⟨#[]⟩, .i .i64 (.lit 0), .i .i64 (.lit 0), .i .i64 (.lit 0), .str ⟨#[]⟩, .i .i64 (.lit 0), .i .i64 (.lit 0), .i .i64 (.lit 0), .str ⟨#[]⟩, .i .i64 (.lit 0), .i .i64 (.lit 0), .i .i64 (.lit 0), .str ⟨#[]⟩, .i .i64 (.lit 0), .i .i64 (.lit 0), .i .i64 (.lit 0), .str ⟨#[]⟩, .i .i64 (.lit 0), .i .i64 (.lit 0), .i .i64 (.lit 0), .str ⟨#[]⟩, .i .i64 (.lit 0), .i .i64 (.lit 0), .i .i64 (.lit 0), .str ⟨#[]⟩, .i .i64 (.lit 0), .i .i64 (.lit 0), .i .i64 (.lit 0), .str ⟨#[]⟩, .i .i64 (.lit 0), .i .i64 (.lit 0), .i .i64 (.lit 0), .str ⟨#[]⟩, .i .i64 (.lit 0), .i .i64 (.lit 0), .i .i64 (.lit 0), .str ⟨#[]⟩, .i .i64 (.lit 0), .i .i64 (.lit 0), .i .i64 (.lit 0), .str ⟨#[]⟩, .i .i64 (.lit 0), .i .i64 (.lit 0), .i .i64 (.lit 0)], []⟩
def t132 : TI := ⟨.func, 1, 8, [.nilfn], []⟩
def t133 : TI := ⟨.func, 1, 8, [.nilfn], []⟩
def t134 : TI := ⟨.struct [(0, 17), (1, 17), (2, 17), (3, 9)], 4, 40, [.nilp, .nilp, .nilp, .str ⟨#[]⟩], []⟩
def t135 : TI := ⟨.struct [(0, 17), (1, 17), (2, 17), (3, 9)], 4, 40, [.nilp, .nilp, .nilp, .str ⟨#[]⟩], []⟩
def t136 : TI := ⟨.array 0 16, 0, 0, [], []⟩
def t137 : TI := ⟨.struct [(0, 136)], 0, 0, [], []⟩
def t138 : TI := ⟨.struct [(0, 136)], 0, 0, [], []⟩
def t139 : TI := ⟨.func, 1, 8, [.nilfn], []⟩
def t140 : TI := ⟨.int .u8, 1, 1, [.i .u8 (.lit 0)], []⟩
def t141 : TI := ⟨.int .u8, 1, 1, [.i .u8 (.lit 0)], []⟩
def t142 : TI := ⟨.func, 1, 8, [.nilfn], []⟩
def t143 : TI := ⟨.int .i32, 1, 4, [.i .i32 (.lit 0)], []⟩
def t144 : TI := ⟨.int .i32, 1, 4, [.i .i32 (.lit 0)], []⟩
def t145 : TI := ⟨.struct [(0, 12), (1, 12), (2, 22), (3, 140), (4, 5), (5, 5), (6, 141), (7, 142), (8, 114), (9, 143), (10, 144)], 11, 48, [.i .u64 (.lit 0), .i .u64 (.lit 0), .i .u32 (.lit 0), .i .u8 (.lit 0), .i .u8 (.lit 0), .i .u8 (.lit 0), .i .u8 (.lit 0), .nilfn, .nilp, .i .i32 (.lit 0), .i .i32 (.lit 0)], []⟩
def t146 : TI := ⟨.struct [(0, 12), (1, 12), (2, 22), (3, 140), (4, 5), (5, 5), (6, 141), (7, 142), (8, 114), (9, 143), (10, 144)], 11, 48, [.i .u64 (.lit 0), .i .u64 (.lit 0), .i .u32 (.lit 0), .i .u8 (.lit 0), .i .u8 (.lit 0), .i .u8 (.lit 0), .i .u8 (.lit 0), .nilfn, .nilp, .i .i32 (.lit 0), .i .i32 (.lit 0)], []⟩
def t147 : TI := ⟨.other, 1, 8, [.nilp], []⟩
def tab : Tree := (.node 74 t74 (.node 35 t35 (.node 18 t18 (.node 9 t9 (.node 5 t5 (.node 3 t3 (.node 2 t2 (.node 1 t1 .leaf .leaf) .leaf) (.node 4 t4 .leaf .leaf)) (.node 7 t7 (.node 6 t6 .leaf .leaf) (.node 8 t8 .leaf .leaf))) (.node 14 t14 (.node 12 t12 (.node 11 t11 (.node 10 t10 .leaf .leaf) .leaf) (.node 13 t13 .leaf .leaf)) (.node 16 t16 (.node 15 t15 .leaf .leaf) (.node 17 t17 .leaf .leaf)))) (.node 27 t27 (.node 23 t23 (.node 21 t21 (.node 20 t20 (.node 19 t19 .leaf .leaf) .leaf) (.node 22 t22 .leaf .leaf)) (.node 25 t25 (.node 24 t24 .leaf .leaf) (.node 26 t26 .leaf .leaf))) (.node 31 t31 (.node 29 t29 (.node 28 t28 .leaf .leaf) (.node 30 t30 .leaf .leaf)) (.node 33 t33 (.node 32 t32 .leaf .leaf) (.node 34 t34 .leaf .leaf))))) (.node 53 t53 (.node 44 t44 (.node 40 t40 (.node 38 t38 (.node 37 t37 (.node 36 t36 .leaf .leaf) .leaf) (.node 39 t39 .leaf .leaf)) (.node 42 t42 (.node 41 t41 .leaf .leaf) (.node 43 t43 .leaf .leaf))) (.node 49 t49 (.node 47 t47 (.node 46 t46 (.node 45 t45 .leaf .leaf) .leaf) (.node 48 t48 .leaf .leaf)) (.node 51 t51 (.node 50 t50 .leaf .leaf) (.node 52 t52 .leaf .leaf)))) (.node 64 t64 (.node 59 t59 (.node 57 t57 (.node 56 t56 (.node 55 t55 .leaf .leaf) .leaf) (.node 58 t58 .leaf .leaf)) (.node 62 t62 (.node 60 t60 .leaf .leaf) (.node 63 t63 .leaf .leaf))) (.node 69 t69 (.node 66 t66 (.node 65 t65 .leaf .leaf) (.node 68 t68 .leaf .leaf)) (.node 72 t72 (.node 71 t71 .leaf .leaf) (.node 73 t73 .leaf .leaf)))))) (.node 112 t112 (.node 94 t94 (.node 85 t85 (.node 81 t81 (.node 79 t79 (.node 78 t78 (.node 76 t76 .leaf .leaf) .leaf) (.node 80 t80 .leaf .leaf)) (.node 83 t83 (.node 82 t82 .leaf .leaf) (.node 84 t84 .leaf .leaf))) (.node 90 t90 (.node 88 t88 (.node 87 t87 (.node 86 t86 .leaf .leaf) .leaf) (.node 89 t89 .leaf .leaf)) (.node 92 t92 (.node 91 t91 .leaf .leaf) (.node 93 t93 .leaf .leaf)))) (.node 103 t103 (.node 99 t99 (.node 97 t97 (.node 96 t96 (.node 95 t95 .leaf .leaf) .leaf) (.node 98 t98 .leaf .leaf)) (.node 101 t101 (.node 100 t100 .leaf .leaf) (.node 102 t102 .leaf .leaf))) (.node 108 t108 (.node 105 t105 (.node 104 t104 .leaf .leaf) (.node 107 t107 .leaf .leaf)) (.node 110 t110 (.node 109 t109 .leaf .leaf) (.node 111 t111 .leaf .leaf))))) (.node 131 t131 (.node 121 t121 (.node 117 t117 (.node 115 t115 (.node 114 t114 (.node 113 t113 .leaf .leaf) .leaf) (.node 116 t116 .leaf .leaf)) (.node 119 t119 (.node 118 t118 .leaf .leaf) (.node 120 t120 .leaf .leaf))) (.node 127 t127 (.node 125 t125 (.node 123 t123 (.node 122 t122 .leaf .leaf) .leaf) (.node 126 t126 .leaf .leaf)) (.node 129 t129 (.node 128 t128 .leaf .leaf) (.node 130 t130 .leaf .leaf)))) (.node 140 t140 (.node 136 t136 (.node 134 t134 (.node 133 t133 (.node 132 t132 .leaf .leaf) .leaf) (.node 135 t135 .leaf .leaf)) (.node 138 t138 (.node 137 t137 .leaf .leaf) (.node 139 t139 .leaf .leaf))) (.node 144 t144 (.node 142 t142 (.node 141 t141 .leaf .leaf) (.node 143 t143 .leaf .leaf)) (.node 146 t146 (.node 145 t145 .leaf .leaf) (.node 147 t147 .leaf .leaf)))))))

theorem tabOk : TOk Tryd.prog tab := TOk.of_allB (by kernel_rfl)
def mtab : MT := [(33, "Clock", 94), (33, "Fetch", 31), (33, "Irq", 30), (33, "Load", 92), (33, "Store", 93)]
theorem mtabOk : MOk Tryd.prog mtab :=
  .cons (.cons (.cons (.cons (.cons (.nil _)
    (fun _ _ => by kernel_rfl) (fun _ _ => by kernel_rfl))
    (fun _ _ => by kernel_rfl) (fun _ _ => by kernel_rfl))
    (fun _ _ => by kernel_rfl) (fun _ _ => by kernel_rfl))
    (fun _ _ => by kernel_rfl) (fun _ _ => by kernel_rfl))
    (fun _ _ => by kernel_rfl) (fun _ _ => by kernel_rfl)
end Go.Proofs.YtkljgpepogkgdaaDoor
