/- Tables, shapes, specs. Printed by g2.py. -/
import Derived.Test.YthdmhibmokhpgaaGreatAESpec7
import Derived.Test.YthdmhibmokhpgaaGreatP14Pureb
import Derived.KernelRfl
import Derived.Test.YthdmhibmokhpgaaGreatProg
set_option linter.unusedSimpArgs false
set_option maxRecDepth 100000
set_option linter.unusedVariables false
namespace Go.Hz
open Go Go.AE Go.Proofs

def tyTree : TyTree := (.node (.node (.node (.node (.node (.node (.node (.node .nil (.node (.leaf ⟨.func, 1, 8, [.f]⟩) .nil)) (.node (.node (.leaf ⟨.func, 1, 8, [.f]⟩) .nil) .nil)) (.node (.node (.node (.leaf ⟨.struct [(0, 28), (3, 29), (4, 30)], 5, 104, [.sl, .sl, .b, .sl, .sl]⟩) .nil) (.node (.leaf ⟨.ptr 162, 1, 8, [.p]⟩) .nil)) (.node (.node (.leaf ⟨.func, 1, 8, [.f]⟩) .nil) .nil))) (.node (.node (.node (.node (.leaf ⟨.ptr 175, 1, 8, [.p]⟩) .nil) (.node (.leaf ⟨.func, 1, 8, [.f]⟩) .nil)) (.node (.node (.leaf ⟨.func, 1, 8, [.f]⟩) .nil) .nil)) (.node (.node (.node (.leaf ⟨.arr 3 3, 3, 24, [.i .i64, .i .i64, .i .i64]⟩) .nil) (.node (.leaf ⟨.func, 1, 8, [.f]⟩) .nil)) (.node (.node (.leaf ⟨.func, 1, 8, [.f]⟩) .nil) .nil)))) (.node (.node (.node (.node (.node (.leaf ⟨.struct [(0, 2), (1, 3), (2, 4), (3, 6)], 4, 24, [.i .i64, .i .i64, .b, .i .u8]⟩) .nil) (.node (.leaf ⟨.func, 1, 8, [.f]⟩) .nil)) (.node (.node (.leaf ⟨.func, 1, 8, [.f]⟩) .nil) .nil)) (.node (.node (.node (.leaf ⟨.slice 4, 1, 24, [.sl]⟩) .nil) (.node (.leaf ⟨.func, 1, 8, [.f]⟩) .nil)) (.node (.node (.leaf ⟨.ptr 106, 1, 8, [.p]⟩) .nil) .nil))) (.node (.node (.node (.node (.leaf ⟨.struct [(0, 5), (1, 5), (2, 5), (3, 22)], 4, 32, [.i .u8, .i .u8, .i .u8, .sl]⟩) .nil) (.node (.leaf ⟨.func, 1, 8, [.f]⟩) .nil)) (.node (.node (.leaf ⟨.ptr 43, 1, 8, [.p]⟩) .nil) .nil)) (.node (.node (.node (.leaf ⟨.func, 1, 8, [.f]⟩) .nil) (.node (.leaf ⟨.struct [(0, 12), (1, 12), (2, 177), (3, 178), (4, 5), (5, 5), (6, 179), (7, 180), (8, 181), (9, 182), (10, 183)], 11, 48, [.i .u64, .i .u64, .i .u32, .i .u8, .i .u8, .i .u8, .i .u8, .f, .p, .i .i32, .i .i32]⟩) .nil)) (.node (.node (.leaf ⟨.func, 1, 8, [.f]⟩) .nil) .nil))))) (.node (.node (.node (.node (.node (.node (.leaf ⟨.bool, 1, 1, [.b]⟩) .nil) (.node (.leaf ⟨.struct [(0, 32), (5, 3), (6, 43)], 17, 216, [.sl, .sl, .b, .sl, .sl, .i .i64, .i .i64, .i .i64, .i .i64, .i .i64, .i .i64, .i .i64, .i .i64, .i .i64, .i .i64, .i .i64, .sl]⟩) .nil)) (.node (.node (.leaf ⟨.func, 1, 8, [.f]⟩) .nil) .nil)) (.node (.node (.node (.leaf ⟨.struct [(0, 32), (5, 26), (6, 33), (22, 34), (24, 34), (26, 4)], 27, 296, [.sl, .sl, .b, .sl, .sl, .sl, .i .i64, .i .i64, .i .i64, .i .i64, .i .i64, .i .i64, .i .i64, .i .i64, .i .i64, .i .i64, .i .i64, .i .i64, .i .i64, .i .i64, .i .i64, .i .i64, .i .i64, .i .i64, .i .i64, .i .i64, .b]⟩) .nil) (.node (.leaf ⟨.int .u64, 1, 8, [.i .u64]⟩) .nil)) (.node (.node (.leaf ⟨.struct [(0, 98), (1, 3), (2, 3)], 3, 24, [.f, .i .i64, .i .i64]⟩) .nil) .nil))) (.node (.node (.node (.node (.leaf ⟨.iface, 1, 16, [.ifc]⟩) .nil) (.node (.leaf ⟨.func, 1, 8, [.f]⟩) .nil)) (.node (.node (.leaf ⟨.func, 1, 8, [.f]⟩) .nil) .nil)) (.node (.node (.node (.leaf ⟨.func, 1, 8, [.f]⟩) .nil) (.node (.leaf ⟨.func, 1, 8, [.f]⟩) .nil)) (.node (.node (.leaf ⟨.func, 1, 8, [.f]⟩) .nil) .nil)))) (.node (.node (.node (.node (.node (.leaf ⟨.int .u64, 1, 8, [.i .u64]⟩) .nil) (.node (.leaf ⟨.func, 1, 8, [.f]⟩) .nil)) (.node (.node (.leaf ⟨.func, 1, 8, [.f]⟩) .nil) .nil)) (.node (.node .nil (.node (.leaf ⟨.struct [(0, 17), (1, 17), (2, 17), (3, 9)], 4, 40, [.p, .p, .p, .s]⟩) .nil)) (.node (.node (.leaf ⟨.func, 1, 8, [.f]⟩) .nil) .nil))) (.node (.node (.node (.node (.leaf ⟨.struct [(0, 26), (1, 26), (2, 4)], 3, 56, [.sl, .sl, .b]⟩) .nil) (.node (.leaf ⟨.func, 1, 8, [.f]⟩) .nil)) (.node (.node (.leaf ⟨.func, 1, 8, [.f]⟩) .nil) .nil)) (.node (.node (.node (.leaf ⟨.func, 1, 8, [.f]⟩) .nil) .nil) .nil))))) (.node (.node (.node (.node (.node (.node (.node (.leaf ⟨.int .i64, 1, 8, [.i .i64]⟩) .nil) (.node (.leaf ⟨.ptr 132, 1, 8, [.p]⟩) .nil)) (.node (.node (.leaf ⟨.func, 1, 8, [.f]⟩) .nil) .nil)) (.node (.node (.node (.leaf ⟨.arr 2 3, 2, 16, [.i .i64, .i .i64]⟩) .nil) (.node (.leaf ⟨.struct [(0, 32), (5, 3), (6, 43)], 17, 216, [.sl, .sl, .b, .sl, .sl, .i .i64, .i .i64, .i .i64, .i .i64, .i .i64, .i .i64, .i .i64, .i .i64, .i .i64, .i .i64, .i .i64, .sl]⟩) .nil)) (.node (.node (.leaf ⟨.func, 1, 8, [.f]⟩) .nil) .nil))) (.node (.node (.node (.node (.leaf ⟨.struct [(0, 17)], 1, 8, [.p]⟩) .nil) (.node (.leaf ⟨.func, 1, 8, [.f]⟩) .nil)) (.node (.node (.leaf ⟨.func, 1, 8, [.f]⟩) .nil) .nil)) (.node (.node (.node (.leaf ⟨.struct [(0, 46), (1, 3), (2, 47), (3, 48), (6, 26)], 7, 88, [.sl, .i .i64, .i .i64, .i .i64, .i .i64, .i .i64, .sl]⟩) .nil) (.node (.leaf ⟨.int .u8, 1, 1, [.i .u8]⟩) .nil)) (.node (.node (.leaf ⟨.func, 1, 8, [.f]⟩) .nil) .nil)))) (.node (.node (.node (.node (.node (.leaf ⟨.str, 1, 16, [.s]⟩) .nil) (.node (.leaf ⟨.struct [(0, 32), (5, 3), (6, 43)], 17, 216, [.sl, .sl, .b, .sl, .sl, .i .i64, .i .i64, .i .i64, .i .i64, .i .i64, .i .i64, .i .i64, .i .i64, .i .i64, .i .i64, .i .i64, .sl]⟩) .nil)) (.node (.node (.leaf ⟨.func, 1, 8, [.f]⟩) .nil) .nil)) (.node (.node (.node (.leaf ⟨.struct [(0, 3), (1, 3), (2, 41), (10, 26)], 11, 104, [.i .i64, .i .i64, .i .i64, .i .i64, .i .i64, .i .i64, .i .i64, .i .i64, .i .i64, .i .i64, .sl]⟩) .nil) (.node (.leaf ⟨.func, 1, 8, [.f]⟩) .nil)) (.node (.node (.leaf ⟨.struct [(0, 32), (5, 3), (6, 43)], 17, 216, [.sl, .sl, .b, .sl, .sl, .i .i64, .i .i64, .i .i64, .i .i64, .i .i64, .i .i64, .i .i64, .i .i64, .i .i64, .i .i64, .i .i64, .sl]⟩) .nil) .nil))) (.node (.node (.node (.node (.leaf ⟨.slice 3, 1, 24, [.sl]⟩) .nil) (.node (.leaf ⟨.func, 1, 8, [.f]⟩) .nil)) (.node (.node (.leaf ⟨.func, 1, 8, [.f]⟩) .nil) .nil)) (.node (.node (.node (.leaf ⟨.func, 1, 8, [.f]⟩) .nil) (.node (.leaf ⟨.func, 1, 8, [.f]⟩) .nil)) (.node (.node (.leaf ⟨.map 3 86, 1, 8, [.m]⟩) .nil) .nil))))) (.node (.node (.node (.node (.node (.node (.leaf ⟨.int .u8, 1, 1, [.i .u8]⟩) .nil) (.node (.leaf ⟨.struct [(0, 3), (1, 3), (2, 3), (3, 3), (4, 3)], 5, 40, [.i .i64, .i .i64, .i .i64, .i .i64, .i .i64]⟩) .nil)) (.node (.node (.leaf ⟨.func, 1, 8, [.f]⟩) .nil) .nil)) (.node (.node (.node (.leaf ⟨.func, 1, 8, [.f]⟩) .nil) (.node (.leaf ⟨.func, 1, 8, [.f]⟩) .nil)) (.node (.node (.leaf ⟨.map 3 100, 1, 8, [.m]⟩) .nil) .nil))) (.node (.node (.node (.node (.leaf ⟨.slice 39, 1, 24, [.sl]⟩) .nil) (.node (.leaf ⟨.func, 1, 8, [.f]⟩) .nil)) (.node (.node (.leaf ⟨.func, 1, 8, [.f]⟩) .nil) .nil)) (.node (.node .nil (.node (.leaf ⟨.int .i32, 1, 4, [.i .i32]⟩) .nil)) (.node (.node (.leaf ⟨.func, 1, 8, [.f]⟩) .nil) .nil)))) (.node (.node (.node (.node (.node (.leaf ⟨.struct [(0, 9), (1, 12)], 2, 24, [.s, .i .u64]⟩) .nil) (.node (.leaf ⟨.func, 1, 8, [.f]⟩) .nil)) (.node (.node (.leaf ⟨.func, 1, 8, [.f]⟩) .nil) .nil)) (.node (.node (.node (.leaf ⟨.slice 43, 1, 24, [.sl]⟩) .nil) (.node (.leaf ⟨.struct [(0, 173)], 0, 0, []⟩) .nil)) (.node (.node (.leaf ⟨.func, 1, 8, [.f]⟩) .nil) .nil))) (.node (.node (.node (.node (.leaf ⟨.slice 135, 1, 24, [.sl]⟩) .nil) (.node (.leaf ⟨.func, 1, 8, [.f]⟩) .nil)) (.node (.node (.leaf ⟨.func, 1, 8, [.f]⟩) .nil) .nil)) (.node (.node (.node (.leaf ⟨.func, 1, 8, [.f]⟩) .nil) .nil) (.node (.node (.leaf ⟨.func, 1, 8, [.f]⟩) .nil) .nil))))))) (.node (.node (.node (.node (.node (.node (.node (.node (.leaf ⟨.func, 1, 8, [.f]⟩) .nil) (.node (.leaf ⟨.func, 1, 8, [.f]⟩) .nil)) (.node (.node (.leaf ⟨.func, 1, 8, [.f]⟩) .nil) .nil)) (.node (.node (.node (.leaf ⟨.arr 16 3, 16, 128, [.i .i64, .i .i64, .i .i64, .i .i64, .i .i64, .i .i64, .i .i64, .i .i64, .i .i64, .i .i64, .i .i64, .i .i64, .i .i64, .i .i64, .i .i64, .i .i64]⟩) .nil) (.node (.leaf ⟨.struct [(0, 32), (5, 3), (6, 43)], 17, 216, [.sl, .sl, .b, .sl, .sl, .i .i64, .i .i64, .i .i64, .i .i64, .i .i64, .i .i64, .i .i64, .i .i64, .i .i64, .i .i64, .i .i64, .sl]⟩) .nil)) (.node (.node (.leaf ⟨.func, 1, 8, [.f]⟩) .nil) .nil))) (.node (.node (.node (.node (.leaf ⟨.ptr 185, 1, 8, [.p]⟩) .nil) (.node (.leaf ⟨.func, 1, 8, [.f]⟩) .nil)) (.node (.node (.leaf ⟨.arr 3 80, 3, 24, [.f, .f, .f]⟩) .nil) .nil)) (.node (.node (.node (.leaf ⟨.struct [(0, 46), (1, 3), (2, 47), (3, 48), (6, 26)], 7, 88, [.sl, .i .i64, .i .i64, .i .i64, .i .i64, .i .i64, .sl]⟩) .nil) (.node (.leaf ⟨.int .u32, 1, 4, [.i .u32]⟩) .nil)) (.node (.node (.leaf ⟨.func, 1, 8, [.f]⟩) .nil) .nil)))) (.node (.node (.node (.node (.node (.leaf ⟨.str, 1, 16, [.s]⟩) .nil) (.node (.leaf ⟨.ptr 139, 1, 8, [.p]⟩) .nil)) (.node (.node (.leaf ⟨.func, 1, 8, [.f]⟩) .nil) .nil)) (.node (.node (.node (.leaf ⟨.arr 8 3, 8, 64, [.i .i64, .i .i64, .i .i64, .i .i64, .i .i64, .i .i64, .i .i64, .i .i64]⟩) .nil) (.node (.leaf ⟨.func, 1, 8, [.f]⟩) .nil)) (.node (.node (.leaf ⟨.struct [(0, 32), (5, 3), (6, 43)], 17, 216, [.sl, .sl, .b, .sl, .sl, .i .i64, .i .i64, .i .i64, .i .i64, .i .i64, .i .i64, .i .i64, .i .i64, .i .i64, .i .i64, .i .i64, .sl]⟩) .nil) .nil))) (.node (.node (.node (.node (.leaf ⟨.func, 1, 8, [.f]⟩) .nil) (.node (.leaf ⟨.func, 1, 8, [.f]⟩) .nil)) (.node (.node (.leaf ⟨.func, 1, 8, [.f]⟩) .nil) .nil)) (.node (.node (.node (.leaf ⟨.func, 1, 8, [.f]⟩) .nil) (.node (.leaf ⟨.struct [(0, 12), (1, 12), (2, 177), (3, 178), (4, 5), (5, 5), (6, 179), (7, 180), (8, 181), (9, 182), (10, 183)], 11, 48, [.i .u64, .i .u64, .i .u32, .i .u8, .i .u8, .i .u8, .i .u8, .f, .p, .i .i32, .i .i32]⟩) .nil)) (.node (.node (.leaf ⟨.func, 1, 8, [.f]⟩) .nil) .nil))))) (.node (.node (.node (.node (.node (.node (.leaf ⟨.int .u8, 1, 1, [.i .u8]⟩) .nil) (.node (.leaf ⟨.func, 1, 8, [.f]⟩) .nil)) (.node (.node (.leaf ⟨.func, 1, 8, [.f]⟩) .nil) .nil)) (.node (.node (.node (.leaf ⟨.func, 1, 8, [.f]⟩) .nil) (.node (.leaf ⟨.func, 1, 8, [.f]⟩) .nil)) .nil)) (.node (.node (.node (.node (.leaf ⟨.int .i32, 1, 4, [.i .i32]⟩) .nil) (.node (.leaf ⟨.func, 1, 8, [.f]⟩) .nil)) (.node (.node (.leaf ⟨.slice 80, 1, 24, [.sl]⟩) .nil) .nil)) (.node (.node (.node (.leaf ⟨.func, 1, 8, [.f]⟩) .nil) (.node (.leaf ⟨.ptr 5, 1, 8, [.p]⟩) .nil)) .nil))) (.node (.node (.node (.node (.node (.leaf ⟨.struct [(0, 9), (1, 12)], 2, 24, [.s, .i .u64]⟩) .nil) (.node (.leaf ⟨.func, 1, 8, [.f]⟩) .nil)) (.node (.node (.leaf ⟨.func, 1, 8, [.f]⟩) .nil) .nil)) (.node (.node (.node (.leaf ⟨.func, 1, 8, [.f]⟩) .nil) (.node (.leaf ⟨.arr 0 16, 0, 0, []⟩) .nil)) (.node (.node (.leaf ⟨.ptr 50, 1, 8, [.p]⟩) .nil) .nil))) (.node (.node (.node (.node (.leaf ⟨.slice 50, 1, 24, [.sl]⟩) .nil) (.node (.leaf ⟨.arr 11 154, 11, 88, [.f, .f, .f, .f, .f, .f, .f, .f, .f, .f, .f]⟩) .nil)) (.node (.node (.leaf ⟨.func, 1, 8, [.f]⟩) .nil) .nil)) (.node (.node (.node (.leaf ⟨.func, 1, 8, [.f]⟩) .nil) .nil) (.node (.node (.leaf ⟨.func, 1, 8, [.f]⟩) .nil) .nil)))))) (.node (.node (.node (.node (.node (.node (.node (.leaf ⟨.int .i64, 1, 8, [.i .i64]⟩) .nil) (.node (.leaf ⟨.struct [(0, 32), (5, 3), (6, 43)], 17, 216, [.sl, .sl, .b, .sl, .sl, .i .i64, .i .i64, .i .i64, .i .i64, .i .i64, .i .i64, .i .i64, .i .i64, .i .i64, .i .i64, .i .i64, .sl]⟩) .nil)) .nil) (.node (.node (.node (.leaf ⟨.struct [(0, 32), (5, 26), (6, 33), (22, 34), (24, 34), (26, 4)], 27, 296, [.sl, .sl, .b, .sl, .sl, .sl, .i .i64, .i .i64, .i .i64, .i .i64, .i .i64, .i .i64, .i .i64, .i .i64, .i .i64, .i .i64, .i .i64, .i .i64, .i .i64, .i .i64, .i .i64, .i .i64, .i .i64, .i .i64, .i .i64, .i .i64, .b]⟩) .nil) (.node (.leaf ⟨.func, 1, 8, [.f]⟩) .nil)) (.node (.node (.leaf ⟨.struct [(0, 98), (1, 3), (2, 3)], 3, 24, [.f, .i .i64, .i .i64]⟩) .nil) .nil))) (.node (.node (.node (.node (.leaf ⟨.struct [(0, 17)], 1, 8, [.p]⟩) .nil) (.node (.leaf ⟨.func, 1, 8, [.f]⟩) .nil)) (.node (.node (.leaf ⟨.arr 8 80, 8, 64, [.f, .f, .f, .f, .f, .f, .f, .f]⟩) .nil) .nil)) (.node (.node (.node (.leaf ⟨.func, 1, 8, [.f]⟩) .nil) (.node (.leaf ⟨.int .u8, 1, 1, [.i .u8]⟩) .nil)) (.node (.node (.leaf ⟨.map 3 34, 1, 8, [.m]⟩) .nil) .nil)))) (.node (.node (.node (.node (.node (.leaf ⟨.str, 1, 16, [.s]⟩) .nil) (.node (.leaf ⟨.struct [(0, 32), (5, 3), (6, 43)], 17, 216, [.sl, .sl, .b, .sl, .sl, .i .i64, .i .i64, .i .i64, .i .i64, .i .i64, .i .i64, .i .i64, .i .i64, .i .i64, .i .i64, .i .i64, .sl]⟩) .nil)) (.node (.node (.leaf ⟨.func, 1, 8, [.f]⟩) .nil) .nil)) (.node (.node (.node (.leaf ⟨.struct [(0, 3), (1, 3), (2, 41), (10, 26)], 11, 104, [.i .i64, .i .i64, .i .i64, .i .i64, .i .i64, .i .i64, .i .i64, .i .i64, .i .i64, .i .i64, .sl]⟩) .nil) (.node (.leaf ⟨.struct [(0, 17), (1, 17), (2, 17), (3, 9)], 4, 40, [.p, .p, .p, .s]⟩) .nil)) (.node (.node (.leaf ⟨.func, 1, 8, [.f]⟩) .nil) .nil))) (.node (.node (.node (.node (.leaf ⟨.struct [(0, 26), (1, 26), (2, 4)], 3, 56, [.sl, .sl, .b]⟩) .nil) (.node (.leaf ⟨.arr 12 154, 12, 96, [.f, .f, .f, .f, .f, .f, .f, .f, .f, .f, .f, .f]⟩) .nil)) .nil) (.node (.node (.node (.leaf ⟨.func, 1, 8, [.f]⟩) .nil) (.node (.leaf ⟨.other, 1, 8, [.p]⟩) .nil)) (.node (.node (.leaf ⟨.func, 1, 8, [.f]⟩) .nil) .nil))))) (.node (.node (.node (.node (.node (.node (.leaf ⟨.struct [(0, 2), (1, 3), (2, 4), (3, 6)], 4, 24, [.i .i64, .i .i64, .b, .i .u8]⟩) .nil) (.node (.leaf ⟨.struct [(0, 3), (1, 3), (2, 3), (3, 3), (4, 3)], 5, 40, [.i .i64, .i .i64, .i .i64, .i .i64, .i .i64]⟩) .nil)) (.node (.node (.leaf ⟨.func, 1, 8, [.f]⟩) .nil) .nil)) (.node (.node (.node (.leaf ⟨.int .u16, 1, 2, [.i .u16]⟩) .nil) (.node (.leaf ⟨.slice 26, 1, 24, [.sl]⟩) .nil)) (.node (.node (.leaf ⟨.func, 1, 8, [.f]⟩) .nil) .nil))) (.node (.node (.node (.node (.leaf ⟨.struct [(0, 5), (1, 5), (2, 5), (3, 22)], 4, 32, [.i .u8, .i .u8, .i .u8, .sl]⟩) .nil) (.node (.leaf ⟨.func, 1, 8, [.f]⟩) .nil)) .nil) (.node (.node (.node (.leaf ⟨.func, 1, 8, [.f]⟩) .nil) (.node (.leaf ⟨.int .i32, 1, 4, [.i .i32]⟩) .nil)) (.node (.node (.leaf ⟨.func, 1, 8, [.f]⟩) .nil) .nil)))) (.node (.node (.node (.node (.node (.leaf ⟨.ptr 172, 1, 8, [.p]⟩) .nil) (.node (.leaf ⟨.func, 1, 8, [.f]⟩) .nil)) (.node (.node (.leaf ⟨.func, 1, 8, [.f]⟩) .nil) .nil)) (.node (.node (.node (.leaf ⟨.int .i64, 1, 8, [.i .i64]⟩) .nil) (.node (.leaf ⟨.struct [(0, 173)], 0, 0, []⟩) .nil)) (.node (.node (.leaf ⟨.func, 1, 8, [.f]⟩) .nil) .nil))) (.node (.node (.node (.node (.leaf ⟨.struct [(0, 28), (3, 29), (4, 30)], 5, 104, [.sl, .sl, .b, .sl, .sl]⟩) .nil) (.node (.leaf ⟨.slice 154, 1, 24, [.sl]⟩) .nil)) (.node (.node (.leaf ⟨.func, 1, 8, [.f]⟩) .nil) .nil)) (.node (.node (.node (.leaf ⟨.func, 1, 8, [.f]⟩) .nil) .nil) (.node (.node (.leaf ⟨.ptr 41, 1, 8, [.p]⟩) .nil) .nil))))))))
def tyTab (t : Nat) : Option TI := tyTree.get 9 t
def styTab (t : Nat) : Option STy := match t with
  | 2 => some .int
  | 3 => some .int
  | 4 => some .bool
  | 9 => some .str
  | 10 => some .str
  | 11 => some .str
  | 26 => some .ints
  | 34 => some .pair
  | 39 => some .u16
  | 43 => some .frame
  | 47 => some .int
  | 50 => some .core
  | 135 => some .ev
  | _ => none
theorem mixed : Tryz.prog.follows .mixedOrders = true := by kernel_rfl
theorem tysOk : ∀ T ti, tyTab T = some ti → tiOf Tryz.prog T = some ti := tysOk_of (n := 512) (by kernel_rfl) fun T h => TyTree.get_big _ 9 T h
theorem a_4 : FnAt Tryz.prog 4 Tryz.f4 := ⟨Tryz.func4, by kernel_rfl⟩
theorem a_5 : FnAt Tryz.prog 5 Tryz.f5 := ⟨Tryz.func5, by kernel_rfl⟩
theorem a_6 : FnAt Tryz.prog 6 Tryz.f6 := ⟨Tryz.func6, by kernel_rfl⟩
theorem a_10 : FnAt Tryz.prog 10 Tryz.f10 := ⟨Tryz.func10, by kernel_rfl⟩
theorem a_12 : FnAt Tryz.prog 12 Tryz.f12 := ⟨Tryz.func12, by kernel_rfl⟩
theorem a_13 : FnAt Tryz.prog 13 Tryz.f13 := ⟨Tryz.func13, by kernel_rfl⟩
theorem a_14 : FnAt Tryz.prog 14 Tryz.f14 := ⟨Tryz.func14, by kernel_rfl⟩
theorem a_15 : FnAt Tryz.prog 15 Tryz.f15 := ⟨Tryz.func15, by kernel_rfl⟩
theorem a_16 : FnAt Tryz.prog 16 Tryz.f16 := ⟨Tryz.func16, by kernel_rfl⟩
theorem a_17 : FnAt Tryz.prog 17 Tryz.f17 := ⟨Tryz.func17, by kernel_rfl⟩
theorem a_18 : FnAt Tryz.prog 18 Tryz.f18 := ⟨Tryz.func18, by kernel_rfl⟩
theorem a_19 : FnAt Tryz.prog 19 Tryz.f19 := ⟨Tryz.func19, by kernel_rfl⟩
theorem a_20 : FnAt Tryz.prog 20 Tryz.f20 := ⟨Tryz.func20, by kernel_rfl⟩
theorem a_21 : FnAt Tryz.prog 21 Tryz.f21 := ⟨Tryz.func21, by kernel_rfl⟩
theorem a_22 : FnAt Tryz.prog 22 Tryz.f22 := ⟨Tryz.func22, by kernel_rfl⟩
theorem a_24 : FnAt Tryz.prog 24 Tryz.f24 := ⟨Tryz.func24, by kernel_rfl⟩
theorem a_25 : FnAt Tryz.prog 25 Tryz.f25 := ⟨Tryz.func25, by kernel_rfl⟩
theorem a_26 : FnAt Tryz.prog 26 Tryz.f26 := ⟨Tryz.func26, by kernel_rfl⟩
theorem a_27 : FnAt Tryz.prog 27 Tryz.f27 := ⟨Tryz.func27, by kernel_rfl⟩
theorem a_28 : FnAt Tryz.prog 28 Tryz.f28 := ⟨Tryz.func28, by kernel_rfl⟩
theorem a_29 : FnAt Tryz.prog 29 Tryz.f29 := ⟨Tryz.func29, by kernel_rfl⟩
theorem a_30 : FnAt Tryz.prog 30 Tryz.f30 := ⟨Tryz.func30, by kernel_rfl⟩
theorem a_31 : FnAt Tryz.prog 31 Tryz.f31 := ⟨Tryz.func31, by kernel_rfl⟩
theorem a_32 : FnAt Tryz.prog 32 Tryz.f32 := ⟨Tryz.func32, by kernel_rfl⟩
theorem a_33 : FnAt Tryz.prog 33 Tryz.f33 := ⟨Tryz.func33, by kernel_rfl⟩
theorem a_34 : FnAt Tryz.prog 34 Tryz.f34 := ⟨Tryz.func34, by kernel_rfl⟩
theorem a_35 : FnAt Tryz.prog 35 Tryz.f35 := ⟨Tryz.func35, by kernel_rfl⟩
theorem a_36 : FnAt Tryz.prog 36 Tryz.f36 := ⟨Tryz.func36, by kernel_rfl⟩
theorem a_37 : FnAt Tryz.prog 37 Tryz.f37 := ⟨Tryz.func37, by kernel_rfl⟩
theorem a_38 : FnAt Tryz.prog 38 Tryz.f38 := ⟨Tryz.func38, by kernel_rfl⟩
theorem a_39 : FnAt Tryz.prog 39 Tryz.f39 := ⟨Tryz.func39, by kernel_rfl⟩
theorem a_40 : FnAt Tryz.prog 40 Tryz.f40 := ⟨Tryz.func40, by kernel_rfl⟩
theorem a_41 : FnAt Tryz.prog 41 Tryz.f41 := ⟨Tryz.func41, by kernel_rfl⟩
theorem a_42 : FnAt Tryz.prog 42 Tryz.f42 := ⟨Tryz.func42, by kernel_rfl⟩
theorem a_43 : FnAt Tryz.prog 43 Tryz.f43 := ⟨Tryz.func43, by kernel_rfl⟩
theorem a_44 : FnAt Tryz.prog 44 Tryz.f44 := ⟨Tryz.func44, by kernel_rfl⟩
theorem a_45 : FnAt Tryz.prog 45 Tryz.f45 := ⟨Tryz.func45, by kernel_rfl⟩
theorem a_46 : FnAt Tryz.prog 46 Tryz.f46 := ⟨Tryz.func46, by kernel_rfl⟩
theorem a_47 : FnAt Tryz.prog 47 Tryz.f47 := ⟨Tryz.func47, by kernel_rfl⟩
theorem a_48 : FnAt Tryz.prog 48 Tryz.f48 := ⟨Tryz.func48, by kernel_rfl⟩
theorem a_49 : FnAt Tryz.prog 49 Tryz.f49 := ⟨Tryz.func49, by kernel_rfl⟩
theorem a_50 : FnAt Tryz.prog 50 Tryz.f50 := ⟨Tryz.func50, by kernel_rfl⟩
theorem a_51 : FnAt Tryz.prog 51 Tryz.f51 := ⟨Tryz.func51, by kernel_rfl⟩
theorem a_52 : FnAt Tryz.prog 52 Tryz.f52 := ⟨Tryz.func52, by kernel_rfl⟩
theorem a_53 : FnAt Tryz.prog 53 Tryz.f53 := ⟨Tryz.func53, by kernel_rfl⟩
theorem a_54 : FnAt Tryz.prog 54 Tryz.f54 := ⟨Tryz.func54, by kernel_rfl⟩
theorem a_55 : FnAt Tryz.prog 55 Tryz.f55 := ⟨Tryz.func55, by kernel_rfl⟩
theorem a_56 : FnAt Tryz.prog 56 Tryz.f56 := ⟨Tryz.func56, by kernel_rfl⟩
theorem a_57 : FnAt Tryz.prog 57 Tryz.f57 := ⟨Tryz.func57, by kernel_rfl⟩
theorem a_58 : FnAt Tryz.prog 58 Tryz.f58 := ⟨Tryz.func58, by kernel_rfl⟩
theorem a_59 : FnAt Tryz.prog 59 Tryz.f59 := ⟨Tryz.func59, by kernel_rfl⟩
theorem a_60 : FnAt Tryz.prog 60 Tryz.f60 := ⟨Tryz.func60, by kernel_rfl⟩
theorem a_61 : FnAt Tryz.prog 61 Tryz.f61 := ⟨Tryz.func61, by kernel_rfl⟩
theorem a_62 : FnAt Tryz.prog 62 Tryz.f62 := ⟨Tryz.func62, by kernel_rfl⟩
theorem a_63 : FnAt Tryz.prog 63 Tryz.f63 := ⟨Tryz.func63, by kernel_rfl⟩
theorem a_64 : FnAt Tryz.prog 64 Tryz.f64 := ⟨Tryz.func64, by kernel_rfl⟩
theorem a_65 : FnAt Tryz.prog 65 Tryz.f65 := ⟨Tryz.func65, by kernel_rfl⟩
theorem a_66 : FnAt Tryz.prog 66 Tryz.f66 := ⟨Tryz.func66, by kernel_rfl⟩
theorem a_67 : FnAt Tryz.prog 67 Tryz.f67 := ⟨Tryz.func67, by kernel_rfl⟩
theorem a_68 : FnAt Tryz.prog 68 Tryz.f68 := ⟨Tryz.func68, by kernel_rfl⟩
theorem a_69 : FnAt Tryz.prog 69 Tryz.f69 := ⟨Tryz.func69, by kernel_rfl⟩
theorem a_70 : FnAt Tryz.prog 70 Tryz.f70 := ⟨Tryz.func70, by kernel_rfl⟩
theorem a_71 : FnAt Tryz.prog 71 Tryz.f71 := ⟨Tryz.func71, by kernel_rfl⟩
theorem a_72 : FnAt Tryz.prog 72 Tryz.f72 := ⟨Tryz.func72, by kernel_rfl⟩
theorem a_73 : FnAt Tryz.prog 73 Tryz.f73 := ⟨Tryz.func73, by kernel_rfl⟩
theorem a_74 : FnAt Tryz.prog 74 Tryz.f74 := ⟨Tryz.func74, by kernel_rfl⟩
theorem a_75 : FnAt Tryz.prog 75 Tryz.f75 := ⟨Tryz.func75, by kernel_rfl⟩
theorem a_76 : FnAt Tryz.prog 76 Tryz.f76 := ⟨Tryz.func76, by kernel_rfl⟩
theorem a_77 : FnAt Tryz.prog 77 Tryz.f77 := ⟨Tryz.func77, by kernel_rfl⟩
theorem a_78 : FnAt Tryz.prog 78 Tryz.f78 := ⟨Tryz.func78, by kernel_rfl⟩
theorem a_79 : FnAt Tryz.prog 79 Tryz.f79 := ⟨Tryz.func79, by kernel_rfl⟩
theorem a_80 : FnAt Tryz.prog 80 Tryz.f80 := ⟨Tryz.func80, by kernel_rfl⟩
theorem a_81 : FnAt Tryz.prog 81 Tryz.f81 := ⟨Tryz.func81, by kernel_rfl⟩
theorem a_82 : FnAt Tryz.prog 82 Tryz.f82 := ⟨Tryz.func82, by kernel_rfl⟩
theorem a_83 : FnAt Tryz.prog 83 Tryz.f83 := ⟨Tryz.func83, by kernel_rfl⟩
theorem a_84 : FnAt Tryz.prog 84 Tryz.f84 := ⟨Tryz.func84, by kernel_rfl⟩
theorem a_85 : FnAt Tryz.prog 85 Tryz.f85 := ⟨Tryz.func85, by kernel_rfl⟩
theorem a_86 : FnAt Tryz.prog 86 Tryz.f86 := ⟨Tryz.func86, by kernel_rfl⟩
theorem a_87 : FnAt Tryz.prog 87 Tryz.f87 := ⟨Tryz.func87, by kernel_rfl⟩
theorem a_88 : FnAt Tryz.prog 88 Tryz.f88 := ⟨Tryz.func88, by kernel_rfl⟩
theorem a_89 : FnAt Tryz.prog 89 Tryz.f89 := ⟨Tryz.func89, by kernel_rfl⟩
theorem a_90 : FnAt Tryz.prog 90 Tryz.f90 := ⟨Tryz.func90, by kernel_rfl⟩
theorem a_91 : FnAt Tryz.prog 91 Tryz.f91 := ⟨Tryz.func91, by kernel_rfl⟩
theorem a_92 : FnAt Tryz.prog 92 Tryz.f92 := ⟨Tryz.func92, by kernel_rfl⟩
theorem a_93 : FnAt Tryz.prog 93 Tryz.f93 := ⟨Tryz.func93, by kernel_rfl⟩
theorem a_94 : FnAt Tryz.prog 94 Tryz.f94 := ⟨Tryz.func94, by kernel_rfl⟩
theorem a_95 : FnAt Tryz.prog 95 Tryz.f95 := ⟨Tryz.func95, by kernel_rfl⟩
theorem a_96 : FnAt Tryz.prog 96 Tryz.f96 := ⟨Tryz.func96, by kernel_rfl⟩
theorem a_97 : FnAt Tryz.prog 97 Tryz.f97 := ⟨Tryz.func97, by kernel_rfl⟩
theorem a_98 : FnAt Tryz.prog 98 Tryz.f98 := ⟨Tryz.func98, by kernel_rfl⟩
theorem a_99 : FnAt Tryz.prog 99 Tryz.f99 := ⟨Tryz.func99, by kernel_rfl⟩
theorem a_100 : FnAt Tryz.prog 100 Tryz.f100 := ⟨Tryz.func100, by kernel_rfl⟩
theorem a_101 : FnAt Tryz.prog 101 Tryz.f101 := ⟨Tryz.func101, by kernel_rfl⟩
theorem a_102 : FnAt Tryz.prog 102 Tryz.f102 := ⟨Tryz.func102, by kernel_rfl⟩
theorem a_103 : FnAt Tryz.prog 103 Tryz.f103 := ⟨Tryz.func103, by kernel_rfl⟩
theorem a_104 : FnAt Tryz.prog 104 Tryz.f104 := ⟨Tryz.func104, by kernel_rfl⟩
theorem a_105 : FnAt Tryz.prog 105 Tryz.f105 := ⟨Tryz.func105, by kernel_rfl⟩
theorem a_106 : FnAt Tryz.prog 106 Tryz.f106 := ⟨Tryz.func106, by kernel_rfl⟩
theorem a_107 : FnAt Tryz.prog 107 Tryz.f107 := ⟨Tryz.func107, by kernel_rfl⟩
theorem a_108 : FnAt Tryz.prog 108 Tryz.f108 := ⟨Tryz.func108, by kernel_rfl⟩
theorem a_109 : FnAt Tryz.prog 109 Tryz.f109 := ⟨Tryz.func109, by kernel_rfl⟩
theorem a_110 : FnAt Tryz.prog 110 Tryz.f110 := ⟨Tryz.func110, by kernel_rfl⟩
theorem a_111 : FnAt Tryz.prog 111 Tryz.f111 := ⟨Tryz.func111, by kernel_rfl⟩
theorem a_112 : FnAt Tryz.prog 112 Tryz.f112 := ⟨Tryz.func112, by kernel_rfl⟩
theorem a_113 : FnAt Tryz.prog 113 Tryz.f113 := ⟨Tryz.func113, by kernel_rfl⟩
theorem a_114 : FnAt Tryz.prog 114 Tryz.f114 := ⟨Tryz.func114, by kernel_rfl⟩
theorem a_115 : FnAt Tryz.prog 115 Tryz.f115 := ⟨Tryz.func115, by kernel_rfl⟩
theorem a_116 : FnAt Tryz.prog 116 Tryz.f116 := ⟨Tryz.func116, by kernel_rfl⟩
theorem a_117 : FnAt Tryz.prog 117 Tryz.f117 := ⟨Tryz.func117, by kernel_rfl⟩
theorem a_118 : FnAt Tryz.prog 118 Tryz.f118 := ⟨Tryz.func118, by kernel_rfl⟩
theorem a_119 : FnAt Tryz.prog 119 Tryz.f119 := ⟨Tryz.func119, by kernel_rfl⟩
theorem a_120 : FnAt Tryz.prog 120 Tryz.f120 := ⟨Tryz.func120, by kernel_rfl⟩
theorem a_121 : FnAt Tryz.prog 121 Tryz.f121 := ⟨Tryz.func121, by kernel_rfl⟩
theorem a_122 : FnAt Tryz.prog 122 Tryz.f122 := ⟨Tryz.func122, by kernel_rfl⟩
theorem a_123 : FnAt Tryz.prog 123 Tryz.f123 := ⟨Tryz.func123, by kernel_rfl⟩
theorem a_124 : FnAt Tryz.prog 124 Tryz.f124 := ⟨Tryz.func124, by kernel_rfl⟩
theorem a_125 : FnAt Tryz.prog 125 Tryz.f125 := ⟨Tryz.func125, by kernel_rfl⟩
theorem a_126 : FnAt Tryz.prog 126 Tryz.f126 := ⟨Tryz.func126, by kernel_rfl⟩
theorem a_127 : FnAt Tryz.prog 127 Tryz.f127 := ⟨Tryz.func127, by kernel_rfl⟩
theorem a_128 : FnAt Tryz.prog 128 Tryz.f128 := ⟨Tryz.func128, by kernel_rfl⟩
theorem a_129 : FnAt Tryz.prog 129 Tryz.f129 := ⟨Tryz.func129, by kernel_rfl⟩
theorem a_130 : FnAt Tryz.prog 130 Tryz.f130 := ⟨Tryz.func130, by kernel_rfl⟩
theorem a_131 : FnAt Tryz.prog 131 Tryz.f131 := ⟨Tryz.func131, by kernel_rfl⟩
theorem a_132 : FnAt Tryz.prog 132 Tryz.f132 := ⟨Tryz.func132, by kernel_rfl⟩
theorem a_133 : FnAt Tryz.prog 133 Tryz.f133 := ⟨Tryz.func133, by kernel_rfl⟩
theorem a_134 : FnAt Tryz.prog 134 Tryz.f134 := ⟨Tryz.func134, by kernel_rfl⟩
theorem a_135 : FnAt Tryz.prog 135 Tryz.f135 := ⟨Tryz.func135, by kernel_rfl⟩
theorem a_136 : FnAt Tryz.prog 136 Tryz.f136 := ⟨Tryz.func136, by kernel_rfl⟩
theorem a_137 : FnAt Tryz.prog 137 Tryz.f137 := ⟨Tryz.func137, by kernel_rfl⟩
theorem a_138 : FnAt Tryz.prog 138 Tryz.f138 := ⟨Tryz.func138, by kernel_rfl⟩
theorem a_139 : FnAt Tryz.prog 139 Tryz.f139 := ⟨Tryz.func139, by kernel_rfl⟩
theorem a_140 : FnAt Tryz.prog 140 Tryz.f140 := ⟨Tryz.func140, by kernel_rfl⟩
theorem a_141 : FnAt Tryz.prog 141 Tryz.f141 := ⟨Tryz.func141, by kernel_rfl⟩
theorem a_142 : FnAt Tryz.prog 142 Tryz.f142 := ⟨Tryz.func142, by kernel_rfl⟩
theorem a_143 : FnAt Tryz.prog 143 Tryz.f143 := ⟨Tryz.func143, by kernel_rfl⟩
theorem a_144 : FnAt Tryz.prog 144 Tryz.f144 := ⟨Tryz.func144, by kernel_rfl⟩
theorem a_145 : FnAt Tryz.prog 145 Tryz.f145 := ⟨Tryz.func145, by kernel_rfl⟩
theorem a_146 : FnAt Tryz.prog 146 Tryz.f146 := ⟨Tryz.func146, by kernel_rfl⟩
theorem a_147 : FnAt Tryz.prog 147 Tryz.f147 := ⟨Tryz.func147, by kernel_rfl⟩
theorem a_148 : FnAt Tryz.prog 148 Tryz.f148 := ⟨Tryz.func148, by kernel_rfl⟩
theorem a_149 : FnAt Tryz.prog 149 Tryz.f149 := ⟨Tryz.func149, by kernel_rfl⟩
theorem a_150 : FnAt Tryz.prog 150 Tryz.f150 := ⟨Tryz.func150, by kernel_rfl⟩
theorem a_151 : FnAt Tryz.prog 151 Tryz.f151 := ⟨Tryz.func151, by kernel_rfl⟩
theorem a_152 : FnAt Tryz.prog 152 Tryz.f152 := ⟨Tryz.func152, by kernel_rfl⟩
theorem a_153 : FnAt Tryz.prog 153 Tryz.f153 := ⟨Tryz.func153, by kernel_rfl⟩
theorem a_154 : FnAt Tryz.prog 154 Tryz.f154 := ⟨Tryz.func154, by kernel_rfl⟩
theorem a_155 : FnAt Tryz.prog 155 Tryz.f155 := ⟨Tryz.func155, by kernel_rfl⟩
theorem a_156 : FnAt Tryz.prog 156 Tryz.f156 := ⟨Tryz.func156, by kernel_rfl⟩
theorem a_157 : FnAt Tryz.prog 157 Tryz.f157 := ⟨Tryz.func157, by kernel_rfl⟩
theorem a_158 : FnAt Tryz.prog 158 Tryz.f158 := ⟨Tryz.func158, by kernel_rfl⟩
theorem a_159 : FnAt Tryz.prog 159 Tryz.f159 := ⟨Tryz.func159, by kernel_rfl⟩
theorem a_160 : FnAt Tryz.prog 160 Tryz.f160 := ⟨Tryz.func160, by kernel_rfl⟩
theorem a_161 : FnAt Tryz.prog 161 Tryz.f161 := ⟨Tryz.func161, by kernel_rfl⟩
theorem a_162 : FnAt Tryz.prog 162 Tryz.f162 := ⟨Tryz.func162, by kernel_rfl⟩
theorem a_163 : FnAt Tryz.prog 163 Tryz.f163 := ⟨Tryz.func163, by kernel_rfl⟩
theorem a_164 : FnAt Tryz.prog 164 Tryz.f164 := ⟨Tryz.func164, by kernel_rfl⟩
theorem a_165 : FnAt Tryz.prog 165 Tryz.f165 := ⟨Tryz.func165, by kernel_rfl⟩
theorem a_166 : FnAt Tryz.prog 166 Tryz.f166 := ⟨Tryz.func166, by kernel_rfl⟩
theorem a_167 : FnAt Tryz.prog 167 Tryz.f167 := ⟨Tryz.func167, by kernel_rfl⟩
theorem a_168 : FnAt Tryz.prog 168 Tryz.f168 := ⟨Tryz.func168, by kernel_rfl⟩
theorem a_169 : FnAt Tryz.prog 169 Tryz.f169 := ⟨Tryz.func169, by kernel_rfl⟩
theorem a_170 : FnAt Tryz.prog 170 Tryz.f170 := ⟨Tryz.func170, by kernel_rfl⟩
theorem a_171 : FnAt Tryz.prog 171 Tryz.f171 := ⟨Tryz.func171, by kernel_rfl⟩
theorem a_172 : FnAt Tryz.prog 172 Tryz.f172 := ⟨Tryz.func172, by kernel_rfl⟩
theorem a_173 : FnAt Tryz.prog 173 Tryz.f173 := ⟨Tryz.func173, by kernel_rfl⟩
theorem a_175 : FnAt Tryz.prog 175 Tryz.f175 := ⟨Tryz.func175, by kernel_rfl⟩
theorem a_176 : FnAt Tryz.prog 176 Tryz.f176 := ⟨Tryz.func176, by kernel_rfl⟩
theorem a_177 : FnAt Tryz.prog 177 Tryz.f177 := ⟨Tryz.func177, by kernel_rfl⟩
theorem a_178 : FnAt Tryz.prog 178 Tryz.f178 := ⟨Tryz.func178, by kernel_rfl⟩
theorem a_179 : FnAt Tryz.prog 179 Tryz.f179 := ⟨Tryz.func179, by kernel_rfl⟩
theorem a_180 : FnAt Tryz.prog 180 Tryz.f180 := ⟨Tryz.func180, by kernel_rfl⟩
theorem a_181 : FnAt Tryz.prog 181 Tryz.f181 := ⟨Tryz.func181, by kernel_rfl⟩
theorem a_182 : FnAt Tryz.prog 182 Tryz.f182 := ⟨Tryz.func182, by kernel_rfl⟩
theorem a_183 : FnAt Tryz.prog 183 Tryz.f183 := ⟨Tryz.func183, by kernel_rfl⟩
theorem a_184 : FnAt Tryz.prog 184 Tryz.f184 := ⟨Tryz.func184, by kernel_rfl⟩
theorem a_185 : FnAt Tryz.prog 185 Tryz.f185 := ⟨Tryz.func185, by kernel_rfl⟩
theorem a_186 : FnAt Tryz.prog 186 Tryz.f186 := ⟨Tryz.func186, by kernel_rfl⟩
theorem a_187 : FnAt Tryz.prog 187 Tryz.f187 := ⟨Tryz.func187, by kernel_rfl⟩
theorem a_188 : FnAt Tryz.prog 188 Tryz.f188 := ⟨Tryz.func188, by kernel_rfl⟩
theorem a_189 : FnAt Tryz.prog 189 Tryz.f189 := ⟨Tryz.func189, by kernel_rfl⟩
theorem a_190 : FnAt Tryz.prog 190 Tryz.f190 := ⟨Tryz.func190, by kernel_rfl⟩
theorem a_191 : FnAt Tryz.prog 191 Tryz.f191 := ⟨Tryz.func191, by kernel_rfl⟩
theorem a_192 : FnAt Tryz.prog 192 Tryz.f192 := ⟨Tryz.func192, by kernel_rfl⟩
theorem a_193 : FnAt Tryz.prog 193 Tryz.f193 := ⟨Tryz.func193, by kernel_rfl⟩
theorem a_194 : FnAt Tryz.prog 194 Tryz.f194 := ⟨Tryz.func194, by kernel_rfl⟩
theorem a_195 : FnAt Tryz.prog 195 Tryz.f195 := ⟨Tryz.func195, by kernel_rfl⟩
theorem a_196 : FnAt Tryz.prog 196 Tryz.f196 := ⟨Tryz.func196, by kernel_rfl⟩
theorem a_197 : FnAt Tryz.prog 197 Tryz.f197 := ⟨Tryz.func197, by kernel_rfl⟩
theorem a_198 : FnAt Tryz.prog 198 Tryz.f198 := ⟨Tryz.func198, by kernel_rfl⟩
theorem a_199 : FnAt Tryz.prog 199 Tryz.f199 := ⟨Tryz.func199, by kernel_rfl⟩
theorem a_200 : FnAt Tryz.prog 200 Tryz.f200 := ⟨Tryz.func200, by kernel_rfl⟩
theorem a_202 : FnAt Tryz.prog 202 Tryz.f202 := ⟨Tryz.func202, by kernel_rfl⟩
theorem a_203 : FnAt Tryz.prog 203 Tryz.f203 := ⟨Tryz.func203, by kernel_rfl⟩
theorem a_204 : FnAt Tryz.prog 204 Tryz.f204 := ⟨Tryz.func204, by kernel_rfl⟩
theorem a_205 : FnAt Tryz.prog 205 Tryz.f205 := ⟨Tryz.func205, by kernel_rfl⟩
theorem a_206 : FnAt Tryz.prog 206 Tryz.f206 := ⟨Tryz.func206, by kernel_rfl⟩
theorem a_207 : FnAt Tryz.prog 207 Tryz.f207 := ⟨Tryz.func207, by kernel_rfl⟩
theorem a_208 : FnAt Tryz.prog 208 Tryz.f208 := ⟨Tryz.func208, by kernel_rfl⟩
theorem a_209 : FnAt Tryz.prog 209 Tryz.f209 := ⟨Tryz.func209, by kernel_rfl⟩
theorem a_210 : FnAt Tryz.prog 210 Tryz.f210 := ⟨Tryz.func210, by kernel_rfl⟩
theorem a_211 : FnAt Tryz.prog 211 Tryz.f211 := ⟨Tryz.func211, by kernel_rfl⟩
theorem a_212 : FnAt Tryz.prog 212 Tryz.f212 := ⟨Tryz.func212, by kernel_rfl⟩
theorem a_213 : FnAt Tryz.prog 213 Tryz.f213 := ⟨Tryz.func213, by kernel_rfl⟩
theorem a_214 : FnAt Tryz.prog 214 Tryz.f214 := ⟨Tryz.func214, by kernel_rfl⟩
theorem a_215 : FnAt Tryz.prog 215 Tryz.f215 := ⟨Tryz.func215, by kernel_rfl⟩
theorem a_216 : FnAt Tryz.prog 216 Tryz.f216 := ⟨Tryz.func216, by kernel_rfl⟩
theorem a_217 : FnAt Tryz.prog 217 Tryz.f217 := ⟨Tryz.func217, by kernel_rfl⟩
theorem a_218 : FnAt Tryz.prog 218 Tryz.f218 := ⟨Tryz.func218, by kernel_rfl⟩
theorem a_219 : FnAt Tryz.prog 219 Tryz.f219 := ⟨Tryz.func219, by kernel_rfl⟩
theorem a_220 : FnAt Tryz.prog 220 Tryz.f220 := ⟨Tryz.func220, by kernel_rfl⟩
theorem a_221 : FnAt Tryz.prog 221 Tryz.f221 := ⟨Tryz.func221, by kernel_rfl⟩
theorem a_222 : FnAt Tryz.prog 222 Tryz.f222 := ⟨Tryz.func222, by kernel_rfl⟩
theorem a_223 : FnAt Tryz.prog 223 Tryz.f223 := ⟨Tryz.func223, by kernel_rfl⟩
theorem a_224 : FnAt Tryz.prog 224 Tryz.f224 := ⟨Tryz.func224, by kernel_rfl⟩
theorem a_225 : FnAt Tryz.prog 225 Tryz.f225 := ⟨Tryz.func225, by kernel_rfl⟩
theorem a_226 : FnAt Tryz.prog 226 Tryz.f226 := ⟨Tryz.func226, by kernel_rfl⟩
theorem a_227 : FnAt Tryz.prog 227 Tryz.f227 := ⟨Tryz.func227, by kernel_rfl⟩
theorem a_228 : FnAt Tryz.prog 228 Tryz.f228 := ⟨Tryz.func228, by kernel_rfl⟩
theorem a_229 : FnAt Tryz.prog 229 Tryz.f229 := ⟨Tryz.func229, by kernel_rfl⟩
theorem a_230 : FnAt Tryz.prog 230 Tryz.f230 := ⟨Tryz.func230, by kernel_rfl⟩
theorem a_231 : FnAt Tryz.prog 231 Tryz.f231 := ⟨Tryz.func231, by kernel_rfl⟩
theorem a_232 : FnAt Tryz.prog 232 Tryz.f232 := ⟨Tryz.func232, by kernel_rfl⟩
theorem a_233 : FnAt Tryz.prog 233 Tryz.f233 := ⟨Tryz.func233, by kernel_rfl⟩
theorem a_234 : FnAt Tryz.prog 234 Tryz.f234 := ⟨Tryz.func234, by kernel_rfl⟩
noncomputable def s_thr_lowest (N : Nat) : AE.Spec := ⟨Int, run1 (dI .i64) (fun x0 => some (lowestX x0)), (V.i .i64), false⟩
noncomputable def s_r01_mod (N : Nat) : AE.Spec := ⟨Int, run2 (dI .i64) (dI .i64) (r01_mod N), (V.i .i64), false⟩
noncomputable def c_r01_mod (N : Nat) : Cfg := ⟨tyTab, styTab, [(54, Tryz.f54)], [], [], [], [], [], [], [], [], N⟩

noncomputable def s_r01_Index (N : Nat) : AE.Spec := ⟨Int, run1 (dI .i64) (r01_Index N), (V.i .i64), false⟩
noncomputable def c_r01_Index (N : Nat) : Cfg := ⟨tyTab, styTab, [(25, Tryz.f25)], [(54, s_r01_mod N)], [], [], [], [], [], [], [], N⟩

noncomputable def s_r02_At (N : Nat) : AE.Spec := ⟨Int, run2 (dI .i64) (dI .i64) (r02_At N), (V.i .i64), false⟩
noncomputable def c_r02_At (N : Nat) : Cfg := ⟨tyTab, styTab, [(27, Tryz.f27)], [], [], [], [], [], [], [], [], N⟩

def r02_Node_L0_k : List LfK := [.i, .i, .l .int, .l .int, .b]
def r02_Node_L0_tp : List Ps := [.one (.u), .one (.i .i64), .one (.p 0 3), .one (.u), .one (.u), .one (.i .i64)] ++ us 18
def r02_Node_L0_op : List Po := [.c (.one (.sl .int false)), .c (.one (.sl .int false)), .c (.one (.b))]
def r02_Node_L0A_k : List LfK := [.i]
def r02_Node_L0A_tp : List Ps := us 4 ++ [.one (.i .i64)] ++ us 19
def r02_Node_L0A_op : List Po := [.c (.one (.u)), .c (.one (.u)), .c (.one (.u))]
def r02_Node_L0B_k : List LfK := [.l .int, .l .int, .b]
def r02_Node_L0B_tp : List Ps := us 24
def r02_Node_L0B_op : List Po := [.c (.one (.sl .int false)), .c (.one (.sl .int false)), .c (.one (.b))]
def r02_Node_L0_sp (N : Nat) : LSpec := loopSp 0 r02_Node_L0_tp r02_Node_L0_op r02_Node_L0_k (A := Int) (B := (List Int) × (List Int) × Bool) (r02_Node_L0_st N) N (.ret) (encD r02_Node_L0A_tp r02_Node_L0A_op r02_Node_L0A_k) ((.exit 0)) (encD r02_Node_L0B_tp r02_Node_L0B_op r02_Node_L0B_k)
noncomputable def c_r02_Node_L0 (N : Nat) : Cfg := ⟨tyTab, styTab, [(27, Tryz.f27), (91, Tryz.f91)], [], [(91, 0, [1, 2, 5], [], [])], [], [], [], [], [], [], N⟩
noncomputable def s_r02_Node (N : Nat) : AE.Spec := ⟨Int, run2 dMemD (dI .i64) (r02_Node N), (V.i .i64), false⟩
noncomputable def c_r02_Node (N : Nat) : Cfg := ⟨tyTab, styTab, [(27, Tryz.f27), (91, Tryz.f91)], [], [(91, 0, [1, 2, 5], [], [])], [], [], [], [], [], [(91, 0, r02_Node_L0_sp N)], N⟩

noncomputable def s_r02_bad (N : Nat) : AE.Spec := ⟨Bool, run2 dMemD (dI .i64) (r02_bad N), V.b, false⟩
noncomputable def c_r02_bad (N : Nat) : Cfg := ⟨tyTab, styTab, [(56, Tryz.f56)], [(91, s_r02_Node N)], [], [], [], [], [], [], [], N⟩

noncomputable def s_r02_Load (N : Nat) : AE.Spec := ⟨MemD × Int, run2 dMemD (dI .i64) (r02_Load N), (enc2 eMemD (V.i .i64)), true⟩
noncomputable def c_r02_Load (N : Nat) : Cfg := ⟨tyTab, styTab, [(55, Tryz.f55)], [(56, s_r02_bad N)], [], [], [], [], [], [], [], N⟩

def r04_Walk_L2_k : List LfK := [.i, .i, .l .int, .l .int, .b, .l .int, .l .int, .b, .l .int]
def r04_Walk_L2_tp : List Ps := [.one (.u), .one (.p 0 3), .one (.u), .one (.u), .one (.o 6 0), .one (.u), .one (.u), .one (.i .i64), .one (.i .i64)] ++ us 45
def r04_Walk_L2_op : List Po := [.c (.one (.sl .int false)), .c (.one (.sl .int false)), .c (.one (.b)), .c (.one (.sl .int false)), .c (.one (.sl .int false)), .c (.one (.b)), .row 3 .int 0 true true false]
def r04_Walk_L2A_k : List LfK := [.b]
def r04_Walk_L2A_tp : List Ps := [.one (.u), .one (.u), .one (.nils), .one (.b)] ++ us 50
def r04_Walk_L2A_op : List Po := [.c (.one (.u)), .c (.one (.u)), .c (.one (.u)), .c (.one (.u)), .c (.one (.u)), .c (.one (.u)), .dead]
def r04_Walk_L2B_k : List LfK := [.i, .l .int, .l .int, .b, .l .int, .l .int, .b, .l .int]
def r04_Walk_L2B_tp : List Ps := [.one (.u), .one (.p 0 3), .one (.u), .one (.u), .one (.o 6 0), .one (.u), .one (.u), .one (.i .i64)] ++ us 46
def r04_Walk_L2B_op : List Po := [.c (.one (.sl .int false)), .c (.one (.sl .int false)), .c (.one (.b)), .c (.one (.sl .int false)), .c (.one (.sl .int false)), .c (.one (.b)), .row 3 .int 0 true true false]
def r04_Walk_L2_sp (N : Nat) : LSpec := loopSp 0 r04_Walk_L2_tp r04_Walk_L2_op r04_Walk_L2_k (A := Bool) (B := Int × (List Int) × (List Int) × Bool × (List Int) × (List Int) × Bool × (List Int)) (r04_Walk_L2_st N) N (.ret) (encD r04_Walk_L2A_tp r04_Walk_L2A_op r04_Walk_L2A_k) ((.exit 2)) (encD r04_Walk_L2B_tp r04_Walk_L2B_op r04_Walk_L2B_k)
noncomputable def c_r04_Walk_L2 (N : Nat) : Cfg := ⟨tyTab, styTab, [(26, Tryz.f26)], [(25, s_r01_Index N), (27, s_r02_At N), (55, s_r02_Load N)], [(26, 2, [1, 4, 7, 8], [], []), (26, 0, [1, 4, 7], [(4, 3, .int)], [])], [], [], [], [], [], [], N⟩
def r04_Walk_L0_k : List LfK := [.i, .l .int, .l .int, .b, .l .int, .l .int, .b, .l .int]
def r04_Walk_L0_tp : List Ps := [.one (.u), .one (.p 0 3), .one (.u), .one (.u), .one (.o 6 0), .one (.u), .one (.u), .one (.i .i64)] ++ us 46
def r04_Walk_L0_op : List Po := [.c (.one (.sl .int false)), .c (.one (.sl .int false)), .c (.one (.b)), .c (.one (.sl .int false)), .c (.one (.sl .int false)), .c (.one (.b)), .row 3 .int 0 true true false]
def r04_Walk_L0A_k : List LfK := [.b]
def r04_Walk_L0A_tp : List Ps := [.one (.u), .one (.u), .one (.nils), .one (.b)] ++ us 50
def r04_Walk_L0A_op : List Po := [.c (.one (.u)), .c (.one (.u)), .c (.one (.u)), .c (.one (.u)), .c (.one (.u)), .c (.one (.u)), .dead]
def r04_Walk_L0B_k : List LfK := [.l .int, .l .int, .b, .l .int, .l .int, .b, .l .int]
def r04_Walk_L0B_tp : List Ps := us 4 ++ [.one (.o 6 0)] ++ us 49
def r04_Walk_L0B_op : List Po := [.c (.one (.sl .int false)), .c (.one (.sl .int false)), .c (.one (.b)), .c (.one (.sl .int false)), .c (.one (.sl .int false)), .c (.one (.b)), .row 3 .int 0 true true false]
def r04_Walk_L0_sp (N : Nat) : LSpec := loopSp 0 r04_Walk_L0_tp r04_Walk_L0_op r04_Walk_L0_k (A := Bool) (B := (List Int) × (List Int) × Bool × (List Int) × (List Int) × Bool × (List Int)) (r04_Walk_L0_st N) N (.ret) (encD r04_Walk_L0A_tp r04_Walk_L0A_op r04_Walk_L0A_k) ((.exit 0)) (encD r04_Walk_L0B_tp r04_Walk_L0B_op r04_Walk_L0B_k)
noncomputable def c_r04_Walk_L0 (N : Nat) : Cfg := ⟨tyTab, styTab, [(26, Tryz.f26)], [(25, s_r01_Index N), (27, s_r02_At N), (55, s_r02_Load N)], [(26, 2, [1, 4, 7, 8], [], []), (26, 0, [1, 4, 7], [(4, 3, .int)], [])], [], [], [], [], [], [(26, 2, r04_Walk_L2_sp N)], N⟩
noncomputable def s_r04_Walk (N : Nat) : AE.Spec := ⟨(List Int) × Bool, run1 dMemD (r04_Walk N), (enc2 (fun xs => V.sl .int xs false) V.b), true⟩
noncomputable def c_r04_Walk (N : Nat) : Cfg := ⟨tyTab, styTab, [(26, Tryz.f26)], [(25, s_r01_Index N), (27, s_r02_At N), (55, s_r02_Load N)], [(26, 2, [1, 4, 7, 8], [], []), (26, 0, [1, 4, 7], [(4, 3, .int)], [])], [], [], [], [], [], [(26, 2, r04_Walk_L2_sp N), (26, 0, r04_Walk_L0_sp N)], N⟩

noncomputable def s_r02_Store (N : Nat) : AE.Spec := ⟨MemD, run3 dMemD (dI .i64) (dI .i64) (r02_Store N), eMemD, true⟩
noncomputable def c_r02_Store (N : Nat) : Cfg := ⟨tyTab, styTab, [(28, Tryz.f28)], [(56, s_r02_bad N)], [], [], [], [], [], [], [], N⟩

noncomputable def s_r01_Tag (N : Nat) : AE.Spec := ⟨Int, run1 (dI .i64) (r01_Tag N), (V.i .i64), false⟩
noncomputable def c_r01_Tag (N : Nat) : Cfg := ⟨tyTab, styTab, [(57, Tryz.f57)], [(54, s_r01_mod N)], [], [], [], [], [], [], [], N⟩

noncomputable def s_r01_Next (N : Nat) : AE.Spec := ⟨Int, run3 (dI .i64) (dI .i64) (dI .i64) (r01_Next N), (V.i .i64), false⟩
noncomputable def c_r01_Next (N : Nat) : Cfg := ⟨tyTab, styTab, [(29, Tryz.f29)], [(54, s_r01_mod N), (57, s_r01_Tag N)], [], [], [], [], [], [], [], N⟩

noncomputable def s_r02_Turn (N : Nat) : AE.Spec := ⟨MemD, run3 dMemD (dI .i64) (dI .i64) (r02_Turn N), eMemD, true⟩
noncomputable def c_r02_Turn (N : Nat) : Cfg := ⟨tyTab, styTab, [(30, Tryz.f30)], [], [], [], [], [], [], [], [], N⟩

noncomputable def s_r08_Spot (N : Nat) : AE.Spec := ⟨Int, run1 (dI .i64) (r08_Spot N), (V.i .i64), false⟩
noncomputable def c_r08_Spot (N : Nat) : Cfg := ⟨tyTab, styTab, [(31, Tryz.f31)], [], [], [], [], [], [], [], [], N⟩

noncomputable def s_r03_Mem (N : Nat) : AE.Spec := ⟨SysD, run2 dSysD dMemD (r03_Mem N), eSysD, true⟩
noncomputable def c_r03_Mem (N : Nat) : Cfg := ⟨tyTab, styTab, [(32, Tryz.f32)], [], [], [], [], [], [], [], [], N⟩

noncomputable def s_r08_Make (N : Nat) : AE.Spec := ⟨SysD × Int, run2 dSysD (dI .i64) (r08_Make N), (enc2 eSysD (V.i .i64)), true⟩
noncomputable def c_r08_Make (N : Nat) : Cfg := ⟨tyTab, styTab, [(12, Tryz.f12)], [(26, s_r04_Walk N), (27, s_r02_At N), (28, s_r02_Store N), (29, s_r01_Next N), (30, s_r02_Turn N), (31, s_r08_Spot N), (32, s_r03_Mem N)], [], [], [], [], [], [], [], N⟩

def r04_Fill_L0_k : List LfK := [.i, .i, .l .int, .l .int, .b, .b]
def r04_Fill_L0_tp : List Ps := [.one (.u), .one (.p 0 3), .one (.p 3 3), .one (.i .i64), .one (.i .i64)] ++ us 22
def r04_Fill_L0_op : List Po := [.c (.one (.sl .int false)), .c (.one (.sl .int false)), .c (.one (.b)), .c (.one (.nils)), .c (.one (.nils)), .c (.one (.b))]
def r04_Fill_L0A_k : List LfK := [.l .int, .l .int, .b, .b]
def r04_Fill_L0A_tp : List Ps := [.one (.u), .one (.p 0 3), .one (.p 3 3)] ++ us 24
def r04_Fill_L0A_op : List Po := [.c (.one (.sl .int false)), .c (.one (.sl .int false)), .c (.one (.b)), .c (.one (.nils)), .c (.one (.nils)), .c (.one (.b))]
def r04_Fill_L0_sp (N : Nat) : LSpec := loopSp 0 r04_Fill_L0_tp r04_Fill_L0_op r04_Fill_L0_k (A := (List Int) × (List Int) × Bool × Bool) (B := Empty) (r04_Fill_L0_st N) N ((.exit 0)) (encD r04_Fill_L0A_tp r04_Fill_L0A_op r04_Fill_L0A_k) (.goto 999999) (encN)
noncomputable def c_r04_Fill_L0 (N : Nat) : Cfg := ⟨tyTab, styTab, [(27, Tryz.f27), (34, Tryz.f34)], [(28, s_r02_Store N)], [(34, 0, [1, 2, 3, 4], [], [])], [], [], [], [], [], [], N⟩
noncomputable def s_r04_Fill (N : Nat) : AE.Spec := ⟨MemD, run1 dMemD (r04_Fill N), eMemD, true⟩
noncomputable def c_r04_Fill (N : Nat) : Cfg := ⟨tyTab, styTab, [(27, Tryz.f27), (34, Tryz.f34)], [(28, s_r02_Store N)], [(34, 0, [1, 2, 3, 4], [], [])], [], [], [], [], [], [(34, 0, r04_Fill_L0_sp N)], N⟩

def r13_bit_L0_k : List LfK := [.i, .i, .i]
def r13_bit_L0_tp : List Ps := [.one (.i .i64), .one (.u), .one (.u), .one (.i .i64), .one (.i .i64)] ++ us 8
def r13_bit_L0_op : List Po := []
def r13_bit_L0A_k : List LfK := [.i]
def r13_bit_L0A_tp : List Ps := [.one (.u), .one (.u), .one (.u), .one (.i .i64)] ++ us 9
def r13_bit_L0A_op : List Po := []
def r13_bit_L0_sp (N : Nat) : LSpec := loopSp 0 r13_bit_L0_tp r13_bit_L0_op r13_bit_L0_k (A := Int) (B := Empty) (r13_bit_L0_st N) N ((.exit 0)) (encD r13_bit_L0A_tp r13_bit_L0A_op r13_bit_L0A_k) (.goto 999999) (encN)
noncomputable def c_r13_bit_L0 (N : Nat) : Cfg := ⟨tyTab, styTab, [(59, Tryz.f59)], [], [(59, 0, [0, 3, 4], [], [])], [], [], [], [], [], [], N⟩
noncomputable def s_r13_bit (N : Nat) : AE.Spec := ⟨Int, run1 (dI .i64) (r13_bit N), (V.i .i64), false⟩
noncomputable def c_r13_bit (N : Nat) : Cfg := ⟨tyTab, styTab, [(59, Tryz.f59)], [], [(59, 0, [0, 3, 4], [], [])], [], [], [], [], [], [(59, 0, r13_bit_L0_sp N)], N⟩

noncomputable def s_r13_Has (N : Nat) : AE.Spec := ⟨Bool, run2 (dI .i64) (dI .i64) (r13_Has N), V.b, false⟩
noncomputable def c_r13_Has (N : Nat) : Cfg := ⟨tyTab, styTab, [(39, Tryz.f39)], [(59, s_r13_bit N)], [], [], [], [], [], [], [], N⟩

noncomputable def s_r13_with (N : Nat) : AE.Spec := ⟨Int, run2 (dI .i64) (dI .i64) (r13_with N), (V.i .i64), false⟩
noncomputable def c_r13_with (N : Nat) : Cfg := ⟨tyTab, styTab, [(35, Tryz.f35)], [(39, s_r13_Has N), (59, s_r13_bit N)], [], [], [], [], [], [], [], N⟩

noncomputable def s_r13_Make (N : Nat) : AE.Spec := ⟨SysD × Int, run3 dSysD (dI .i64) (dI .i64) (r13_Make N), (enc2 eSysD (V.i .i64)), true⟩
noncomputable def c_r13_Make (N : Nat) : Cfg := ⟨tyTab, styTab, [(14, Tryz.f14)], [(28, s_r02_Store N), (32, s_r03_Mem N), (35, s_r13_with N)], [], [], [], [], [], [], [], N⟩

noncomputable def s_port_isPort (N : Nat) : AE.Spec := ⟨Bool, run1 (dI .i64) (port_isPort N), V.b, false⟩
noncomputable def c_port_isPort (N : Nat) : Cfg := ⟨tyTab, styTab, [(37, Tryz.f37)], [], [], [], [], [], [], [], [], N⟩

noncomputable def s_core_isCore (N : Nat) : AE.Spec := ⟨Bool, run2 dSysD (dI .i64) (core_isCore N), V.b, false⟩
noncomputable def c_core_isCore (N : Nat) : Cfg := ⟨tyTab, styTab, [(69, Tryz.f69)], [], [], [], [], [], [], [], [], N⟩

noncomputable def s_core_Top (N : Nat) : AE.Spec := ⟨FrameD × Bool, run2 dSysD (dI .i64) (core_Top N), (enc2 eFrameD V.b), true⟩
noncomputable def c_core_Top (N : Nat) : Cfg := ⟨tyTab, styTab, [(46, Tryz.f46)], [(69, s_core_isCore N)], [], [], [], [], [], [], [], N⟩

noncomputable def s_thr_below (N : Nat) : AE.Spec := ⟨Bool, run2 (dI .i64) (dI .i64) (thr_below N), V.b, false⟩
noncomputable def c_thr_below (N : Nat) : Cfg := ⟨tyTab, styTab, [(61, Tryz.f61)], [], [], [], [], [], [], [], [], N⟩

noncomputable def s_core_Set (N : Nat) : AE.Spec := ⟨SysD, run3 dSysD (dI .i64) dFrameD (core_Set N), eSysD, true⟩
noncomputable def c_core_Set (N : Nat) : Cfg := ⟨tyTab, styTab, [(53, Tryz.f53), (85, Tryz.f85)], [(46, s_core_Top N)], [], [], [], [], [89], [], [], N⟩

noncomputable def s_mem_Node (N : Nat) : AE.Spec := ⟨Int, run2 dMemD (dI .i64) (mem_Node N), (V.i .i64), false⟩
noncomputable def c_mem_Node (N : Nat) : Cfg := ⟨tyTab, styTab, [(134, Tryz.f134)], [], [], [], [], [], [], [], [], N⟩

noncomputable def s_mem_Store (N : Nat) : AE.Spec := ⟨MemD, run3 dMemD (dI .i64) (dI .i64) (mem_Store N), eMemD, true⟩
noncomputable def c_mem_Store (N : Nat) : Cfg := ⟨tyTab, styTab, [(82, Tryz.f82), (112, Tryz.f112), (113, Tryz.f113)], [(134, s_mem_Node N)], [], [], [], [], [], [], [], N⟩

noncomputable def s_mem_Cas (N : Nat) : AE.Spec := ⟨MemD × Bool, run4 dMemD (dI .i64) (dI .i64) (dI .i64) (mem_Cas N), (enc2 eMemD V.b), true⟩
noncomputable def c_mem_Cas (N : Nat) : Cfg := ⟨tyTab, styTab, [(110, Tryz.f110), (112, Tryz.f112)], [(82, s_mem_Store N), (134, s_mem_Node N)], [], [], [], [], [], [], [], N⟩

noncomputable def s_mem_Load (N : Nat) : AE.Spec := ⟨MemD × Int, run2 dMemD (dI .i64) (mem_Load N), (enc2 eMemD (V.i .i64)), true⟩
noncomputable def c_mem_Load (N : Nat) : Cfg := ⟨tyTab, styTab, [(80, Tryz.f80), (112, Tryz.f112)], [(134, s_mem_Node N)], [], [], [], [], [], [], [], N⟩

noncomputable def s_core_Back (N : Nat) : AE.Spec := ⟨SysD, run4 dSysD (dI .i64) (dI .i64) (dI .i64) (core_Back N), eSysD, true⟩
noncomputable def c_core_Back (N : Nat) : Cfg := ⟨tyTab, styTab, [(51, Tryz.f51), (85, Tryz.f85), (86, Tryz.f86)], [(46, s_core_Top N)], [], [], [], [], [], [], [], N⟩

noncomputable def s_pack_Index (N : Nat) : AE.Spec := ⟨Int, run1 (dI .i64) (pack_Index N), (V.i .i64), false⟩
noncomputable def c_pack_Index (N : Nat) : Cfg := ⟨tyTab, styTab, [(62, Tryz.f62), (92, Tryz.f92), (114, Tryz.f114), (115, Tryz.f115)], [], [], [], [], [], [], [], [], N⟩

noncomputable def s_pack_Tag (N : Nat) : AE.Spec := ⟨Int, run1 (dI .i64) (pack_Tag N), (V.i .i64), false⟩
noncomputable def c_pack_Tag (N : Nat) : Cfg := ⟨tyTab, styTab, [(92, Tryz.f92), (114, Tryz.f114), (115, Tryz.f115), (133, Tryz.f133)], [], [], [], [], [], [], [], [], N⟩

noncomputable def s_pack_Next (N : Nat) : AE.Spec := ⟨Int, run3 (dI .i64) (dI .i64) (dI .i64) (pack_Next N), (V.i .i64), false⟩
noncomputable def c_pack_Next (N : Nat) : Cfg := ⟨tyTab, styTab, [(111, Tryz.f111), (114, Tryz.f114), (115, Tryz.f115), (132, Tryz.f132)], [(133, s_pack_Tag N)], [], [], [], [], [], [], [], N⟩

noncomputable def s_core_Call (N : Nat) : AE.Spec := ⟨SysD, run4 dSysD (dI .i64) (dI .i64) (asSl .int) (core_Call N), eSysD, true⟩
noncomputable def c_core_Call (N : Nat) : Cfg := ⟨tyTab, styTab, [(52, Tryz.f52), (85, Tryz.f85), (87, Tryz.f87), (88, Tryz.f88)], [(69, s_core_isCore N)], [], [], [], [], [], [], [], N⟩

noncomputable def s_pack_Mark (N : Nat) : AE.Spec := ⟨Int, run1 (dI .i64) (pack_Mark N), (V.i .i64), false⟩
noncomputable def c_pack_Mark (N : Nat) : Cfg := ⟨tyTab, styTab, [(92, Tryz.f92), (108, Tryz.f108), (114, Tryz.f114), (115, Tryz.f115)], [], [], [], [], [], [], [], [], N⟩

noncomputable def s_core_Log (N : Nat) : AE.Spec := ⟨SysD, run6 dSysD (dI .i64) (dI .i64) (dI .i64) (dI .i64) (dI .i64) (core_Log N), eSysD, true⟩
noncomputable def c_core_Log (N : Nat) : Cfg := ⟨tyTab, styTab, [(105, Tryz.f105), (131, Tryz.f131)], [(69, s_core_isCore N)], [], [], [], [], [], [], [], N⟩

noncomputable def s_haz_Place (N : Nat) : AE.Spec := ⟨Int, run2 (dI .i64) (dI .i64) (haz_Place N), (V.i .i64), false⟩
noncomputable def c_haz_Place (N : Nat) : Cfg := ⟨tyTab, styTab, [(83, Tryz.f83)], [], [], [], [], [], [], [], [], N⟩

noncomputable def s_mem_At (N : Nat) : AE.Spec := ⟨Int, run2 (dI .i64) (dI .i64) (mem_At N), (V.i .i64), false⟩
noncomputable def c_mem_At (N : Nat) : Cfg := ⟨tyTab, styTab, [(81, Tryz.f81)], [], [], [], [], [], [], [], [], N⟩

noncomputable def s_list_cell (N : Nat) : AE.Spec := ⟨Int, run2 (dI .i64) (dI .i64) (list_cell N), (V.i .i64), false⟩
noncomputable def c_list_cell (N : Nat) : Cfg := ⟨tyTab, styTab, [(180, Tryz.f180)], [(62, s_pack_Index N), (81, s_mem_At N)], [], [], [], [], [], [], [], N⟩

noncomputable def s_alloc_then (N : Nat) : AE.Spec := ⟨SysD, run5 dSysD (dI .i64) dFrameD (dI .i64) (asSl .int) (alloc_then N), eSysD, true⟩
noncomputable def c_alloc_then (N : Nat) : Cfg := ⟨tyTab, styTab, [(203, Tryz.f203)], [(52, s_core_Call N), (53, s_core_Set N)], [], [], [], [], [], [], [], N⟩

noncomputable def s_alloc_alloc (N : Nat) : AE.Spec := ⟨SysD, run3 dSysD (dI .i64) dFrameD (alloc_alloc N), eSysD, true⟩
noncomputable def c_alloc_alloc (N : Nat) : Cfg := ⟨tyTab, styTab, [(202, Tryz.f202)], [(51, s_core_Back N), (203, s_alloc_then N)], [], [], [], [], [], [], [], N⟩

noncomputable def s_scan_kept (N : Nat) : AE.Spec := ⟨SysD, run3 dSysD (dI .i64) (asSl .int) (scan_kept N), eSysD, true⟩
noncomputable def c_scan_kept (N : Nat) : Cfg := ⟨tyTab, styTab, [(164, Tryz.f164)], [], [], [(195, 50, .core)], [], [], [], [], [], N⟩

noncomputable def s_mem_turns (N : Nat) : AE.Spec := ⟨Bool, run2 (dI .i64) (dI .i64) (mem_turns N), V.b, false⟩
noncomputable def c_mem_turns (N : Nat) : Cfg := ⟨tyTab, styTab, [(196, Tryz.f196)], [], [], [], [], [], [], [34], [], N⟩

noncomputable def s_mem_Turn (N : Nat) : AE.Spec := ⟨MemD, run3 dMemD (dI .i64) (dI .i64) (mem_Turn N), eMemD, true⟩
noncomputable def c_mem_Turn (N : Nat) : Cfg := ⟨tyTab, styTab, [(166, Tryz.f166)], [(196, s_mem_turns N)], [], [(197, 3, .int)], [], [], [], [], [], N⟩

noncomputable def s_scan_Limit (N : Nat) : AE.Spec := ⟨Int, run1 (dI .i64) (scan_Limit N), (V.i .i64), false⟩
noncomputable def c_scan_Limit (N : Nat) : Cfg := ⟨tyTab, styTab, [(167, Tryz.f167)], [], [], [], [], [], [], [], [], N⟩

noncomputable def s_scan_retire (N : Nat) : AE.Spec := ⟨SysD, run3 dSysD (dI .i64) dFrameD (scan_retire N), eSysD, true⟩
noncomputable def c_scan_retire (N : Nat) : Cfg := ⟨tyTab, styTab, [(135, Tryz.f135), (165, Tryz.f165)], [(51, s_core_Back N), (52, s_core_Call N), (53, s_core_Set N), (164, s_scan_kept N), (166, s_mem_Turn N), (167, s_scan_Limit N)], [], [], [], [], [], [], [], N⟩

def slices_Index_int_L0_k : List LfK := [.l .int, .i, .i, .i]
def slices_Index_int_L0_tp : List Ps := [.one (.sl .int false), .one (.i .i64)] ++ us 5 ++ [.one (.i .i64), .one (.i .i64)] ++ us 10
def slices_Index_int_L0_op : List Po := []
def slices_Index_int_L0A_k : List LfK := [.i]
def slices_Index_int_L0A_tp : List Ps := us 4 ++ [.one (.i .i64)] ++ us 14
def slices_Index_int_L0A_op : List Po := []
def slices_Index_int_L0B_k : List LfK := []
def slices_Index_int_L0B_tp : List Ps := us 19
def slices_Index_int_L0B_op : List Po := []
def slices_Index_int_L0_sp (N : Nat) : LSpec := loopSp 0 slices_Index_int_L0_tp slices_Index_int_L0_op slices_Index_int_L0_k (A := Int) (B := Unit) (slices_Index_int_L0_st N) N (.ret) (encD slices_Index_int_L0A_tp slices_Index_int_L0A_op slices_Index_int_L0A_k) ((.exit 0)) (encD slices_Index_int_L0B_tp slices_Index_int_L0B_op slices_Index_int_L0B_k)
noncomputable def c_slices_Index_int_L0 (N : Nat) : Cfg := ⟨tyTab, styTab, [(198, Tryz.f198)], [], [(198, 0, [0, 1, 7, 8], [], [])], [], [], [], [], [], [], N⟩
noncomputable def s_slices_Index_int (N : Nat) : AE.Spec := ⟨Int, run2 (asSl .int) (dI .i64) (slices_Index_int N), (V.i .i64), false⟩
noncomputable def c_slices_Index_int (N : Nat) : Cfg := ⟨tyTab, styTab, [(198, Tryz.f198)], [], [(198, 0, [0, 1, 7, 8], [], [])], [], [], [], [], [], [(198, 0, slices_Index_int_L0_sp N)], N⟩

noncomputable def s_slices_Contains_int (N : Nat) : AE.Spec := ⟨Bool, run2 (asSl .int) (dI .i64) (slices_Contains_int N), V.b, false⟩
noncomputable def c_slices_Contains_int (N : Nat) : Cfg := ⟨tyTab, styTab, [(168, Tryz.f168)], [(198, s_slices_Index_int N)], [], [], [], [], [], [], [], N⟩

def slices_Concat_int_L0_k : List LfK := [.l .ints, .i, .l .ints, .i, .i]
def slices_Concat_int_L0_tp : List Ps := [.one (.sl .ints false), .one (.u), .one (.u), .one (.i .i64)] ++ us 5 ++ [.one (.sl .ints false), .one (.i .i64), .one (.i .i64)] ++ us 24
def slices_Concat_int_L0_op : List Po := []
def slices_Concat_int_L0A_k : List LfK := [.l .ints, .i]
def slices_Concat_int_L0A_tp : List Ps := [.one (.sl .ints false), .one (.u), .one (.u), .one (.i .i64)] ++ us 32
def slices_Concat_int_L0A_op : List Po := []
def slices_Concat_int_L0_sp (N : Nat) : LSpec := loopSp 0 slices_Concat_int_L0_tp slices_Concat_int_L0_op slices_Concat_int_L0_k (A := (List (List Int)) × Int) (B := Empty) (slices_Concat_int_L0_st N) N ((.exit 0)) (encD slices_Concat_int_L0A_tp slices_Concat_int_L0A_op slices_Concat_int_L0A_k) (.goto 999999) (encN)
noncomputable def c_slices_Concat_int_L0 (N : Nat) : Cfg := ⟨tyTab, styTab, [(169, Tryz.f169)], [], [(169, 0, [0, 3, 9, 10, 11], [], []), (169, 2, [6, 25, 26, 27], [], [])], [], [(199, 3, .int)], [], [], [], [], N⟩
def slices_Concat_int_L2_k : List LfK := [.l .ints, .i, .i, .l .int]
def slices_Concat_int_L2_tp : List Ps := us 6 ++ [.one (.o 0 0)] ++ us 18 ++ [.one (.sl .ints false), .one (.i .i64), .one (.i .i64)] ++ us 8
def slices_Concat_int_L2_op : List Po := [.row 3 .int 0 true true false]
def slices_Concat_int_L2A_k : List LfK := [.l .int]
def slices_Concat_int_L2A_tp : List Ps := us 6 ++ [.one (.o 0 0)] ++ us 29
def slices_Concat_int_L2A_op : List Po := [.row 3 .int 0 true true false]
def slices_Concat_int_L2_sp (N : Nat) : LSpec := loopSp 0 slices_Concat_int_L2_tp slices_Concat_int_L2_op slices_Concat_int_L2_k (A := (List Int)) (B := Empty) (slices_Concat_int_L2_st N) N ((.exit 2)) (encD slices_Concat_int_L2A_tp slices_Concat_int_L2A_op slices_Concat_int_L2A_k) (.goto 999999) (encN)
noncomputable def c_slices_Concat_int_L2 (N : Nat) : Cfg := ⟨tyTab, styTab, [(169, Tryz.f169)], [], [(169, 0, [0, 3, 9, 10, 11], [], []), (169, 2, [6, 25, 26, 27], [], [])], [], [(199, 3, .int)], [], [], [], [(169, 0, slices_Concat_int_L0_sp N)], N⟩
noncomputable def s_slices_Concat_int (N : Nat) : AE.Spec := ⟨(List Int), run1 (asSl .ints) (slices_Concat_int N), (fun xs => V.sl .int xs false), true⟩
noncomputable def c_slices_Concat_int (N : Nat) : Cfg := ⟨tyTab, styTab, [(169, Tryz.f169)], [], [(169, 0, [0, 3, 9, 10, 11], [], []), (169, 2, [6, 25, 26, 27], [], [])], [], [(199, 3, .int)], [], [], [], [(169, 0, slices_Concat_int_L0_sp N), (169, 2, slices_Concat_int_L2_sp N)], N⟩

def scan_look_L1_k : List LfK := [.i, .l .int, .i, .l .int, .l .int, .b, .l .core, .l .ev, .i, .i, .i, .i, .i, .i, .i, .i, .i, .i, .l .int, .b]
def scan_look_L1_tp : List Ps := [.one (.u), .one (.i .i64), .one (.u), .one (.p 0 5), .one (.u), .one (.p 5 11), .one (.p 16 5), .one (.u), .one (.u), .one (.sl .int false), .one (.i .i64)] ++ us 114
def scan_look_L1_op : List Po := [.c (.one (.sl .int false)), .c (.one (.sl .int false)), .c (.one (.b)), .c (.one (.sl .core false)), .c (.one (.sl .ev false)), .c (.one (.i .i64)), .c (.one (.i .i64)), .c (.one (.i .i64)), .c (.one (.i .i64)), .c (.one (.i .i64)), .c (.one (.i .i64)), .c (.one (.i .i64)), .c (.one (.i .i64)), .c (.one (.i .i64)), .c (.one (.i .i64)), .c (.one (.sl .int false)), .c (.one (.nils)), .c (.one (.nils)), .c (.one (.b)), .c (.one (.nils)), .c (.one (.nils))]
def scan_look_L1A_k : List LfK := [.l .int, .l .int, .b, .l .core, .l .ev]
def scan_look_L1A_tp : List Ps := us 6 ++ [.one (.p 16 5)] ++ us 118
def scan_look_L1A_op : List Po := [.c (.one (.u)), .c (.one (.u)), .c (.one (.u)), .c (.one (.u)), .c (.one (.u)), .c (.one (.u)), .c (.one (.u)), .c (.one (.u)), .c (.one (.u)), .c (.one (.u)), .c (.one (.u)), .c (.one (.u)), .c (.one (.u)), .c (.one (.u)), .c (.one (.u)), .c (.one (.u)), .c (.one (.sl .int false)), .c (.one (.sl .int false)), .c (.one (.b)), .c (.one (.sl .core false)), .c (.one (.sl .ev false)), .dead, .dead]
def scan_look_L1B_k : List LfK := [.i, .l .int, .l .int, .l .int, .b, .l .core, .l .ev, .i, .i, .i, .i, .i, .i, .i, .i, .i, .i, .l .int, .b]
def scan_look_L1B_tp : List Ps := [.one (.u), .one (.i .i64), .one (.u), .one (.p 0 5), .one (.u), .one (.u), .one (.p 16 5), .one (.u), .one (.u), .one (.sl .int false)] ++ us 115
def scan_look_L1B_op : List Po := [.c (.one (.sl .int false)), .c (.one (.sl .int false)), .c (.one (.b)), .c (.one (.sl .core false)), .c (.one (.sl .ev false)), .c (.one (.i .i64)), .c (.one (.i .i64)), .c (.one (.i .i64)), .c (.one (.i .i64)), .c (.one (.i .i64)), .c (.one (.i .i64)), .c (.one (.i .i64)), .c (.one (.i .i64)), .c (.one (.i .i64)), .c (.one (.i .i64)), .c (.one (.sl .int false)), .c (.one (.nils)), .c (.one (.nils)), .c (.one (.b)), .c (.one (.nils)), .c (.one (.nils))]
def scan_look_L1_sp (N : Nat) : LSpec := loopSp 0 scan_look_L1_tp scan_look_L1_op scan_look_L1_k (A := (List Int) × (List Int) × Bool × (List CoreD) × (List EvD)) (B := Int × (List Int) × (List Int) × (List Int) × Bool × (List CoreD) × (List EvD) × Int × Int × Int × Int × Int × Int × Int × Int × Int × Int × (List Int) × Bool) (scan_look_L1_st N) N (.ret) (encD scan_look_L1A_tp scan_look_L1A_op scan_look_L1A_k) ((.exit 1)) (encD scan_look_L1B_tp scan_look_L1B_op scan_look_L1B_k)
noncomputable def c_scan_look_L1 (N : Nat) : Cfg := ⟨tyTab, styTab, [(136, Tryz.f136), (165, Tryz.f165)], [(51, s_core_Back N), (52, s_core_Call N), (53, s_core_Set N), (80, s_mem_Load N), (164, s_scan_kept N), (168, s_slices_Contains_int N), (169, s_slices_Concat_int N)], [(136, 1, [1, 3, 5, 6, 9, 10], [], [])], [], [], [], [], [], [], N⟩
noncomputable def s_scan_look (N : Nat) : AE.Spec := ⟨SysD, run3 dSysD (dI .i64) dFrameD (scan_look N), eSysD, true⟩
noncomputable def c_scan_look (N : Nat) : Cfg := ⟨tyTab, styTab, [(136, Tryz.f136), (165, Tryz.f165)], [(51, s_core_Back N), (52, s_core_Call N), (53, s_core_Set N), (80, s_mem_Load N), (164, s_scan_kept N), (168, s_slices_Contains_int N), (169, s_slices_Concat_int N)], [(136, 1, [1, 3, 5, 6, 9, 10], [], [])], [], [], [], [], [], [(136, 1, scan_look_L1_sp N)], N⟩

noncomputable def s_stack_on (N : Nat) : AE.Spec := ⟨SysD, run4 dSysD (dI .i64) dFrameD (dI .i64) (stack_on N), eSysD, true⟩
noncomputable def c_stack_on (N : Nat) : Cfg := ⟨tyTab, styTab, [(200, Tryz.f200)], [(53, s_core_Set N)], [], [], [], [], [], [], [], N⟩

noncomputable def s_stack_pop (N : Nat) : AE.Spec := ⟨SysD, run3 dSysD (dI .i64) dFrameD (stack_pop N), eSysD, true⟩
noncomputable def c_stack_pop (N : Nat) : Cfg := ⟨tyTab, styTab, [(170, Tryz.f170)], [(51, s_core_Back N), (62, s_pack_Index N), (80, s_mem_Load N), (81, s_mem_At N), (105, s_core_Log N), (110, s_mem_Cas N), (111, s_pack_Next N), (166, s_mem_Turn N), (200, s_stack_on N)], [], [], [], [], [], [], [], N⟩

noncomputable def s_stack_push (N : Nat) : AE.Spec := ⟨SysD, run3 dSysD (dI .i64) dFrameD (stack_push N), eSysD, true⟩
noncomputable def c_stack_push (N : Nat) : Cfg := ⟨tyTab, styTab, [(171, Tryz.f171)], [(51, s_core_Back N), (62, s_pack_Index N), (80, s_mem_Load N), (81, s_mem_At N), (82, s_mem_Store N), (110, s_mem_Cas N), (111, s_pack_Next N), (166, s_mem_Turn N), (200, s_stack_on N)], [], [], [], [], [], [], [], N⟩

noncomputable def s_stack_Step (N : Nat) : AE.Spec := ⟨SysD, run2 dSysD (dI .i64) (stack_Step N), eSysD, true⟩
noncomputable def c_stack_Step (N : Nat) : Cfg := ⟨tyTab, styTab, [(139, Tryz.f139)], [(46, s_core_Top N), (170, s_stack_pop N), (171, s_stack_push N)], [], [], [], [], [], [], [], N⟩

noncomputable def s_scan_steps_1 (N : Nat) : AE.Spec := ⟨SysD, run3 dSysD (dI .i64) dFrameD (scan_steps_1 N), eSysD, true⟩
noncomputable def c_scan_steps_1 (N : Nat) : Cfg := ⟨tyTab, styTab, [(138, Tryz.f138)], [(139, s_stack_Step N)], [], [], [], [], [], [], [], N⟩

noncomputable def s_haz_on (N : Nat) : AE.Spec := ⟨SysD, run4 dSysD (dI .i64) dFrameD (dI .i64) (haz_on N), eSysD, true⟩
noncomputable def c_haz_on (N : Nat) : Cfg := ⟨tyTab, styTab, [(173, Tryz.f173)], [(53, s_core_Set N)], [], [], [], [], [], [], [], N⟩

noncomputable def s_haz_prot (N : Nat) : AE.Spec := ⟨SysD, run3 dSysD (dI .i64) dFrameD (haz_prot N), eSysD, true⟩
noncomputable def c_haz_prot (N : Nat) : Cfg := ⟨tyTab, styTab, [(172, Tryz.f172)], [(51, s_core_Back N), (62, s_pack_Index N), (80, s_mem_Load N), (82, s_mem_Store N), (83, s_haz_Place N), (173, s_haz_on N)], [], [], [], [], [], [], [], N⟩

noncomputable def s_haz_Step (N : Nat) : AE.Spec := ⟨SysD, run2 dSysD (dI .i64) (haz_Step N), eSysD, true⟩
noncomputable def c_haz_Step (N : Nat) : Cfg := ⟨tyTab, styTab, [(142, Tryz.f142)], [(46, s_core_Top N), (51, s_core_Back N), (82, s_mem_Store N), (83, s_haz_Place N), (172, s_haz_prot N), (173, s_haz_on N)], [], [], [], [], [], [], [], N⟩

noncomputable def s_scan_steps_2 (N : Nat) : AE.Spec := ⟨SysD, run3 dSysD (dI .i64) dFrameD (scan_steps_2 N), eSysD, true⟩
noncomputable def c_scan_steps_2 (N : Nat) : Cfg := ⟨tyTab, styTab, [(141, Tryz.f141)], [(142, s_haz_Step N)], [], [], [], [], [], [], [], N⟩

noncomputable def s_scan_Step (N : Nat) : AE.Spec := ⟨SysD, run2 dSysD (dI .i64) (scan_Step N), eSysD, true⟩
noncomputable def c_scan_Step (N : Nat) : Cfg := ⟨tyTab, styTab, [(117, Tryz.f117), (137, Tryz.f137), (140, Tryz.f140), (204, Tryz.f204)], [(46, s_core_Top N), (135, s_scan_retire N), (136, s_scan_look N), (138, s_scan_steps_1 N), (141, s_scan_steps_2 N)], [], [], [], [], [], [], [], N⟩

noncomputable def s_alloc_Step (N : Nat) : AE.Spec := ⟨SysD, run2 dSysD (dI .i64) (alloc_Step N), eSysD, true⟩
noncomputable def c_alloc_Step (N : Nat) : Cfg := ⟨tyTab, styTab, [(187, Tryz.f187)], [(46, s_core_Top N), (51, s_core_Back N), (202, s_alloc_alloc N), (203, s_alloc_then N), (204, s_scan_Step N)], [], [], [], [], [], [], [], N⟩

noncomputable def s_msq_Spot (N : Nat) : AE.Spec := ⟨Int, run1 (dI .i64) (msq_Spot N), (V.i .i64), false⟩
noncomputable def c_msq_Spot (N : Nat) : Cfg := ⟨tyTab, styTab, [(78, Tryz.f78)], [], [], [], [], [], [], [], [], N⟩

noncomputable def s_msq_cell (N : Nat) : AE.Spec := ⟨Int, run2 (dI .i64) (dI .i64) (msq_cell N), (V.i .i64), false⟩
noncomputable def c_msq_cell (N : Nat) : Cfg := ⟨tyTab, styTab, [(232, Tryz.f232)], [(62, s_pack_Index N), (81, s_mem_At N)], [], [], [], [], [], [], [], N⟩

noncomputable def s_msq_isQueue (N : Nat) : AE.Spec := ⟨Bool, run1 (dI .i64) (msq_isQueue N), V.b, false⟩
noncomputable def c_msq_isQueue (N : Nat) : Cfg := ⟨tyTab, styTab, [(190, Tryz.f190)], [], [], [], [], [], [], [], [], N⟩

noncomputable def s_msq_Step (N : Nat) : AE.Spec := ⟨SysD, run2 dSysD (dI .i64) (msq_Step N), eSysD, true⟩
noncomputable def c_msq_Step (N : Nat) : Cfg := ⟨tyTab, styTab, [(149, Tryz.f149), (188, Tryz.f188), (189, Tryz.f189), (205, Tryz.f205), (206, Tryz.f206), (207, Tryz.f207), (208, Tryz.f208), (209, Tryz.f209), (210, Tryz.f210), (211, Tryz.f211), (212, Tryz.f212), (213, Tryz.f213), (214, Tryz.f214), (215, Tryz.f215), (216, Tryz.f216), (217, Tryz.f217), (218, Tryz.f218), (219, Tryz.f219), (220, Tryz.f220), (221, Tryz.f221), (222, Tryz.f222), (223, Tryz.f223), (224, Tryz.f224), (225, Tryz.f225), (226, Tryz.f226), (227, Tryz.f227), (228, Tryz.f228), (229, Tryz.f229), (230, Tryz.f230), (231, Tryz.f231), (233, Tryz.f233), (234, Tryz.f234)], [(46, s_core_Top N), (51, s_core_Back N), (52, s_core_Call N), (53, s_core_Set N), (62, s_pack_Index N), (78, s_msq_Spot N), (80, s_mem_Load N), (81, s_mem_At N), (82, s_mem_Store N), (83, s_haz_Place N), (105, s_core_Log N), (110, s_mem_Cas N), (111, s_pack_Next N), (187, s_alloc_Step N), (190, s_msq_isQueue N), (232, s_msq_cell N)], [], [], [], [], [], [], [], N⟩

noncomputable def s_list_Step (N : Nat) : AE.Spec := ⟨SysD, run2 dSysD (dI .i64) (list_Step N), eSysD, true⟩
noncomputable def c_list_Step (N : Nat) : Cfg := ⟨tyTab, styTab, [(126, Tryz.f126), (145, Tryz.f145), (146, Tryz.f146), (147, Tryz.f147), (148, Tryz.f148), (175, Tryz.f175), (176, Tryz.f176), (177, Tryz.f177), (178, Tryz.f178), (179, Tryz.f179), (181, Tryz.f181), (182, Tryz.f182), (183, Tryz.f183), (184, Tryz.f184), (185, Tryz.f185), (186, Tryz.f186)], [(46, s_core_Top N), (51, s_core_Back N), (52, s_core_Call N), (53, s_core_Set N), (62, s_pack_Index N), (80, s_mem_Load N), (81, s_mem_At N), (82, s_mem_Store N), (83, s_haz_Place N), (105, s_core_Log N), (108, s_pack_Mark N), (110, s_mem_Cas N), (111, s_pack_Next N), (149, s_msq_Step N), (180, s_list_cell N)], [], [(195, 50, .core)], [], [], [], [], [], N⟩

noncomputable def s_table_Spot (N : Nat) : AE.Spec := ⟨Int, run1 (dI .i64) (table_Spot N), (V.i .i64), false⟩
noncomputable def c_table_Spot (N : Nat) : Cfg := ⟨tyTab, styTab, [(151, Tryz.f151)], [], [], [], [], [], [], [], [], N⟩

noncomputable def s_math_bits_Len16 (N : Nat) : AE.Spec := ⟨Int, run1 (dI .u16) (math_bits_Len16 N), (V.i .i64), false⟩
noncomputable def c_math_bits_Len16 (N : Nat) : Cfg := ⟨tyTab, styTab, [(191, Tryz.f191)], [], [], [], [], [], [], [], [], N⟩

noncomputable def s_rev_Parent (N : Nat) : AE.Spec := ⟨Int, run1 (dI .i64) (rev_Parent N), (V.i .i64), false⟩
noncomputable def c_rev_Parent (N : Nat) : Cfg := ⟨tyTab, styTab, [(155, Tryz.f155)], [(191, s_math_bits_Len16 N)], [], [], [], [], [], [], [], N⟩

noncomputable def s_table_begins (N : Nat) : AE.Spec := ⟨Int, run1 (dI .i64) (table_begins N), (V.i .i64), false⟩
noncomputable def c_table_begins (N : Nat) : Cfg := ⟨tyTab, styTab, [(156, Tryz.f156)], [(81, s_mem_At N)], [], [], [], [], [], [], [], N⟩

noncomputable def s_rev_Rev (N : Nat) : AE.Spec := ⟨Int, run1 (dI .i64) (rev_Rev N), (V.i .i64), false⟩
noncomputable def c_rev_Rev (N : Nat) : Cfg := ⟨tyTab, styTab, [(192, Tryz.f192)], [], [], [], [], [], [], [], [], N⟩

noncomputable def s_rev_Sent (N : Nat) : AE.Spec := ⟨Int, run1 (dI .i64) (rev_Sent N), (V.i .i64), false⟩
noncomputable def c_rev_Sent (N : Nat) : Cfg := ⟨tyTab, styTab, [(157, Tryz.f157)], [(192, s_rev_Rev N)], [], [], [], [], [], [], [], N⟩

noncomputable def s_rev_Bucket (N : Nat) : AE.Spec := ⟨Int, run2 (dI .i64) (dI .i64) (rev_Bucket N), (V.i .i64), false⟩
noncomputable def c_rev_Bucket (N : Nat) : Cfg := ⟨tyTab, styTab, [(193, Tryz.f193)], [], [], [], [], [], [], [], [], N⟩

noncomputable def s_rev_Ord (N : Nat) : AE.Spec := ⟨Int, run1 (dI .i64) (rev_Ord N), (V.i .i64), false⟩
noncomputable def c_rev_Ord (N : Nat) : Cfg := ⟨tyTab, styTab, [(194, Tryz.f194)], [(192, s_rev_Rev N)], [], [], [], [], [], [], [], N⟩

def table_Step_Ltable_work_put_1_k : List LfK := [.l .int, .l .int, .b, .l .core, .l .ev, .b, .i, .i, .i, .i, .i, .i, .i, .i, .i, .i, .l .int, .l .int, .l .int, .b, .l .core, .l .ev, .i, .i, .i, .i, .i, .i, .i, .i, .i, .i, .i, .l .int, .b, .l .frame, .i, .i, .i, .i, .i, .l .int]
def table_Step_Ltable_work_put_1_tp : List Ps := [.one (.u), .one (.p 38 1), .one (.p 39 5), .one (.p 44 1)] ++ us 95
def table_Step_Ltable_work_put_1_op : List Po := [.c (.one (.sl .int false)), .c (.one (.sl .int false)), .c (.one (.b)), .c (.one (.sl .core false)), .c (.one (.sl .ev false)), .c (.one (.nils)), .c (.one (.nils)), .c (.one (.b)), .c (.one (.nils)), .c (.one (.nils)), .c (.one (.i .i64)), .c (.one (.i .i64)), .c (.one (.i .i64)), .c (.one (.i .i64)), .c (.one (.i .i64)), .c (.one (.i .i64)), .c (.one (.i .i64)), .c (.one (.i .i64)), .c (.one (.i .i64)), .c (.one (.i .i64)), .c (.one (.sl .int false)), .c (.one (.sl .int false)), .c (.one (.sl .int false)), .c (.one (.b)), .c (.one (.sl .core false)), .c (.one (.sl .ev false)), .c (.one (.i .i64)), .c (.one (.i .i64)), .c (.one (.i .i64)), .c (.one (.i .i64)), .c (.one (.i .i64)), .c (.one (.i .i64)), .c (.one (.i .i64)), .c (.one (.i .i64)), .c (.one (.i .i64)), .c (.one (.i .i64)), .c (.one (.i .i64)), .c (.one (.sl .int false)), .c (.one (.p 21 17)), .c (.one (.nils)), .c (.one (.nils)), .c (.one (.b)), .c (.one (.nils)), .c (.one (.nils)), .c (.one (.p 29 9)), .c (.one (.sl .frame false)), .c (.one (.i .i64)), .c (.one (.i .i64)), .c (.one (.i .i64)), .c (.one (.i .i64)), .c (.one (.i .i64)), .c (.one (.sl .int false))]
def table_Step_Ltable_work_put_1A_k : List LfK := [.l .int, .l .int, .b, .l .core, .l .ev, .b, .i, .i, .i, .i, .i, .i, .i, .i, .i, .i, .l .int, .l .int, .l .int, .b, .l .core, .l .ev, .i, .i, .i, .i, .i, .i, .i, .i, .i, .i, .i, .l .int, .b, .l .frame, .i, .i, .i, .i, .i, .l .int]
def table_Step_Ltable_work_put_1A_tp : List Ps := [.one (.u), .one (.p 38 1), .one (.p 39 5)] ++ us 96
def table_Step_Ltable_work_put_1A_op : List Po := [.c (.one (.sl .int false)), .c (.one (.sl .int false)), .c (.one (.b)), .c (.one (.sl .core false)), .c (.one (.sl .ev false)), .c (.one (.nils)), .c (.one (.nils)), .c (.one (.b)), .c (.one (.nils)), .c (.one (.nils)), .c (.one (.i .i64)), .c (.one (.i .i64)), .c (.one (.i .i64)), .c (.one (.i .i64)), .c (.one (.i .i64)), .c (.one (.i .i64)), .c (.one (.i .i64)), .c (.one (.i .i64)), .c (.one (.i .i64)), .c (.one (.i .i64)), .c (.one (.sl .int false)), .c (.one (.sl .int false)), .c (.one (.sl .int false)), .c (.one (.b)), .c (.one (.sl .core false)), .c (.one (.sl .ev false)), .c (.one (.i .i64)), .c (.one (.i .i64)), .c (.one (.i .i64)), .c (.one (.i .i64)), .c (.one (.i .i64)), .c (.one (.i .i64)), .c (.one (.i .i64)), .c (.one (.i .i64)), .c (.one (.i .i64)), .c (.one (.i .i64)), .c (.one (.i .i64)), .c (.one (.sl .int false)), .c (.one (.p 21 17)), .c (.one (.nils)), .c (.one (.nils)), .c (.one (.b)), .c (.one (.nils)), .c (.one (.nils)), .c (.one (.p 29 9)), .c (.one (.sl .frame false)), .c (.one (.i .i64)), .c (.one (.i .i64)), .c (.one (.i .i64)), .c (.one (.i .i64)), .c (.one (.i .i64)), .c (.one (.sl .int false))]
def table_Step_Ltable_work_put_1B_k : List LfK := [.l .int, .l .int, .b, .l .core, .l .ev, .b, .i, .i, .i, .i, .i, .i, .i, .i, .i, .i, .l .int, .l .int, .l .int, .b, .l .core, .l .ev, .i, .i, .i, .i, .i, .i, .i, .i, .i, .i, .i, .l .int, .b, .l .frame, .i, .i, .i, .i, .i, .l .int, .l .int, .l .int, .b]
def table_Step_Ltable_work_put_1B_tp : List Ps := [.one (.u), .one (.p 38 1), .one (.p 39 5)] ++ us 96
def table_Step_Ltable_work_put_1B_op : List Po := [.c (.one (.sl .int false)), .c (.one (.sl .int false)), .c (.one (.b)), .c (.one (.sl .core false)), .c (.one (.sl .ev false)), .c (.one (.nils)), .c (.one (.nils)), .c (.one (.b)), .c (.one (.nils)), .c (.one (.nils)), .c (.one (.i .i64)), .c (.one (.i .i64)), .c (.one (.i .i64)), .c (.one (.i .i64)), .c (.one (.i .i64)), .c (.one (.i .i64)), .c (.one (.i .i64)), .c (.one (.i .i64)), .c (.one (.i .i64)), .c (.one (.i .i64)), .c (.one (.sl .int false)), .c (.one (.sl .int false)), .c (.one (.sl .int false)), .c (.one (.b)), .c (.one (.sl .core false)), .c (.one (.sl .ev false)), .c (.one (.i .i64)), .c (.one (.i .i64)), .c (.one (.i .i64)), .c (.one (.i .i64)), .c (.one (.i .i64)), .c (.one (.i .i64)), .c (.one (.i .i64)), .c (.one (.i .i64)), .c (.one (.i .i64)), .c (.one (.i .i64)), .c (.one (.i .i64)), .c (.one (.sl .int false)), .c (.one (.p 21 17)), .c (.one (.nils)), .c (.one (.nils)), .c (.one (.b)), .c (.one (.nils)), .c (.one (.nils)), .c (.one (.p 29 9)), .c (.one (.sl .frame false)), .c (.one (.i .i64)), .c (.one (.i .i64)), .c (.one (.i .i64)), .c (.one (.i .i64)), .c (.one (.i .i64)), .c (.one (.sl .int false)), .c (.one (.sl .int false)), .c (.one (.sl .int false)), .c (.one (.b))]
def table_Step_Ltable_work_put_1_sp (N : Nat) : LSpec := loopSp 38 table_Step_Ltable_work_put_1_tp table_Step_Ltable_work_put_1_op table_Step_Ltable_work_put_1_k (A := (List Int) × (List Int) × Bool × (List CoreD) × (List EvD) × Bool × Int × Int × Int × Int × Int × Int × Int × Int × Int × Int × (List Int) × (List Int) × (List Int) × Bool × (List CoreD) × (List EvD) × Int × Int × Int × Int × Int × Int × Int × Int × Int × Int × Int × (List Int) × Bool × (List FrameD) × Int × Int × Int × Int × Int × (List Int)) (B := (List Int) × (List Int) × Bool × (List CoreD) × (List EvD) × Bool × Int × Int × Int × Int × Int × Int × Int × Int × Int × Int × (List Int) × (List Int) × (List Int) × Bool × (List CoreD) × (List EvD) × Int × Int × Int × Int × Int × Int × Int × Int × Int × Int × Int × (List Int) × Bool × (List FrameD) × Int × Int × Int × Int × Int × (List Int) × (List Int) × (List Int) × Bool) (table_Step_Ltable_work_put_1_st N) N ((.exit 1)) (encD table_Step_Ltable_work_put_1A_tp table_Step_Ltable_work_put_1A_op table_Step_Ltable_work_put_1A_k) ((.exit 1)) (encD table_Step_Ltable_work_put_1B_tp table_Step_Ltable_work_put_1B_op table_Step_Ltable_work_put_1B_k)
noncomputable def c_table_Step_Ltable_work_put_1 (N : Nat) : Cfg := ⟨tyTab, styTab, [(102, Tryz.f102), (127, Tryz.f127), (128, Tryz.f128), (129, Tryz.f129), (130, Tryz.f130), (150, Tryz.f150), (152, Tryz.f152), (153, Tryz.f153), (154, Tryz.f154), (158, Tryz.f158), (159, Tryz.f159), (160, Tryz.f160), (161, Tryz.f161), (162, Tryz.f162), (163, Tryz.f163)], [(46, s_core_Top N), (51, s_core_Back N), (52, s_core_Call N), (53, s_core_Set N), (80, s_mem_Load N), (110, s_mem_Cas N), (126, s_list_Step N), (151, s_table_Spot N), (155, s_rev_Parent N), (156, s_table_begins N), (157, s_rev_Sent N), (193, s_rev_Bucket N), (194, s_rev_Ord N)], [(128, 1, [1, 2, 3], [], [])], [], [], [], [], [], [], N⟩
noncomputable def s_table_Step (N : Nat) : AE.Spec := ⟨SysD, run2 dSysD (dI .i64) (table_Step N), eSysD, true⟩
noncomputable def c_table_Step (N : Nat) : Cfg := ⟨tyTab, styTab, [(102, Tryz.f102), (127, Tryz.f127), (128, Tryz.f128), (129, Tryz.f129), (130, Tryz.f130), (150, Tryz.f150), (152, Tryz.f152), (153, Tryz.f153), (154, Tryz.f154), (158, Tryz.f158), (159, Tryz.f159), (160, Tryz.f160), (161, Tryz.f161), (162, Tryz.f162), (163, Tryz.f163)], [(46, s_core_Top N), (51, s_core_Back N), (52, s_core_Call N), (53, s_core_Set N), (80, s_mem_Load N), (110, s_mem_Cas N), (126, s_list_Step N), (151, s_table_Spot N), (155, s_rev_Parent N), (156, s_table_begins N), (157, s_rev_Sent N), (193, s_rev_Bucket N), (194, s_rev_Ord N)], [(128, 1, [1, 2, 3], [], [])], [], [], [], [], [], [(128, 1, table_Step_Ltable_work_put_1_sp N)], N⟩

noncomputable def s_event_isEvent (N : Nat) : AE.Spec := ⟨Bool, run1 (dI .i64) (event_isEvent N), V.b, false⟩
noncomputable def c_event_isEvent (N : Nat) : Cfg := ⟨tyTab, styTab, [(103, Tryz.f103)], [], [], [], [], [], [], [], [], N⟩

noncomputable def s_event_Spot (N : Nat) : AE.Spec := ⟨Int, run1 (dI .i64) (event_Spot N), (V.i .i64), false⟩
noncomputable def c_event_Spot (N : Nat) : Cfg := ⟨tyTab, styTab, [(107, Tryz.f107)], [], [], [], [], [], [], [], [], N⟩

noncomputable def s_event_Step (N : Nat) : AE.Spec := ⟨SysD, run2 dSysD (dI .i64) (event_Step N), eSysD, true⟩
noncomputable def c_event_Step (N : Nat) : Cfg := ⟨tyTab, styTab, [(71, Tryz.f71), (104, Tryz.f104), (106, Tryz.f106), (109, Tryz.f109)], [(46, s_core_Top N), (51, s_core_Back N), (53, s_core_Set N), (62, s_pack_Index N), (80, s_mem_Load N), (102, s_table_Step N), (103, s_event_isEvent N), (105, s_core_Log N), (107, s_event_Spot N), (108, s_pack_Mark N), (110, s_mem_Cas N), (111, s_pack_Next N)], [], [], [], [], [], [], [], N⟩

noncomputable def s_thr_Step (N : Nat) : AE.Spec := ⟨SysD, run2 dSysD (dI .i64) (thr_Step N), eSysD, true⟩
noncomputable def c_thr_Step (N : Nat) : Cfg := ⟨tyTab, styTab, [(47, Tryz.f47), (70, Tryz.f70), (96, Tryz.f96), (97, Tryz.f97), (98, Tryz.f98), (99, Tryz.f99), (100, Tryz.f100), (101, Tryz.f101), (118, Tryz.f118), (119, Tryz.f119), (120, Tryz.f120), (121, Tryz.f121), (122, Tryz.f122), (123, Tryz.f123), (124, Tryz.f124), (125, Tryz.f125), (143, Tryz.f143)], [(46, s_core_Top N), (51, s_core_Back N), (52, s_core_Call N), (53, s_core_Set N), (61, s_thr_below N), (62, s_pack_Index N), (71, s_event_Step N), (80, s_mem_Load N), (110, s_mem_Cas N), (111, s_pack_Next N), (144, s_thr_lowest N)], [], [], [], [], [], [], [], N⟩

noncomputable def s_port_on (N : Nat) : AE.Spec := ⟨SysD, run4 dSysD (dI .i64) dFrameD (dI .i64) (port_on N), eSysD, true⟩
noncomputable def c_port_on (N : Nat) : Cfg := ⟨tyTab, styTab, [(84, Tryz.f84)], [(53, s_core_Set N)], [], [], [], [], [], [], [], N⟩

noncomputable def s_port_look (N : Nat) : AE.Spec := ⟨SysD, run3 dSysD (dI .i64) dFrameD (port_look N), eSysD, true⟩
noncomputable def c_port_look (N : Nat) : Cfg := ⟨tyTab, styTab, [(50, Tryz.f50)], [(51, s_core_Back N), (62, s_pack_Index N), (80, s_mem_Load N), (81, s_mem_At N), (82, s_mem_Store N), (83, s_haz_Place N), (84, s_port_on N)], [], [], [], [], [], [], [], N⟩

noncomputable def s_port_Step (N : Nat) : AE.Spec := ⟨SysD, run2 dSysD (dI .i64) (port_Step N), eSysD, true⟩
noncomputable def c_port_Step (N : Nat) : Cfg := ⟨tyTab, styTab, [(24, Tryz.f24), (48, Tryz.f48), (49, Tryz.f49), (72, Tryz.f72), (73, Tryz.f73), (74, Tryz.f74), (75, Tryz.f75), (76, Tryz.f76), (77, Tryz.f77), (79, Tryz.f79)], [(37, s_port_isPort N), (46, s_core_Top N), (47, s_thr_Step N), (50, s_port_look N), (51, s_core_Back N), (52, s_core_Call N), (53, s_core_Set N), (78, s_msq_Spot N)], [], [], [], [], [], [], [], N⟩

noncomputable def s_r03_With (N : Nat) : AE.Spec := ⟨SysD, run3 dSysD (dI .i64) dCoreD (r03_With N), eSysD, true⟩
noncomputable def c_r03_With (N : Nat) : Cfg := ⟨tyTab, styTab, [(60, Tryz.f60)], [], [], [], [], [], [], [], [], N⟩

noncomputable def s_r03_Call (N : Nat) : AE.Spec := ⟨SysD, run6 dSysD (dI .i64) (dI .i64) (dI .i64) (dI .i64) (dI .i64) (r03_Call N), eSysD, true⟩
noncomputable def c_r03_Call (N : Nat) : Cfg := ⟨tyTab, styTab, [(36, Tryz.f36)], [(60, s_r03_With N)], [], [], [], [], [], [], [], N⟩

def law14_alone_L0_k : List LfK := [.i, .l .int, .l .int, .b, .l .core, .l .ev, .b]
def law14_alone_L0_tp : List Ps := us 5 ++ [.one (.p 0 5)] ++ us 4 ++ [.one (.p 5 5), .one (.i .i64)] ++ us 13
def law14_alone_L0_op : List Po := [.c (.one (.sl .int false)), .c (.one (.sl .int false)), .c (.one (.b)), .c (.one (.sl .core false)), .c (.one (.sl .ev false)), .c (.one (.nils)), .c (.one (.nils)), .c (.one (.b)), .c (.one (.nils)), .c (.one (.nils))]
def law14_alone_L0A_k : List LfK := [.l .int, .l .int, .b, .l .core, .l .ev, .b]
def law14_alone_L0A_tp : List Ps := us 5 ++ [.one (.p 0 5)] ++ us 4 ++ [.one (.p 5 5)] ++ us 14
def law14_alone_L0A_op : List Po := [.c (.one (.sl .int false)), .c (.one (.sl .int false)), .c (.one (.b)), .c (.one (.sl .core false)), .c (.one (.sl .ev false)), .c (.one (.nils)), .c (.one (.nils)), .c (.one (.b)), .c (.one (.nils)), .c (.one (.nils))]
def law14_alone_L0_sp (N : Nat) : LSpec := loopSp 0 law14_alone_L0_tp law14_alone_L0_op law14_alone_L0_k (A := (List Int) × (List Int) × Bool × (List CoreD) × (List EvD) × Bool) (B := Empty) (law14_alone_L0_st N) N ((.exit 0)) (encD law14_alone_L0A_tp law14_alone_L0A_op law14_alone_L0A_k) (.goto 999999) (encN)
noncomputable def c_law14_alone_L0 (N : Nat) : Cfg := ⟨tyTab, styTab, [(15, Tryz.f15)], [(24, s_port_Step N), (36, s_r03_Call N)], [(15, 0, [5, 10, 11], [], [])], [], [], [], [], [], [], N⟩
noncomputable def s_law14_alone (N : Nat) : AE.Spec := ⟨SysD, run5 dSysD (dI .i64) (dI .i64) (dI .i64) (dI .i64) (law14_alone N), eSysD, true⟩
noncomputable def c_law14_alone (N : Nat) : Cfg := ⟨tyTab, styTab, [(15, Tryz.f15)], [(24, s_port_Step N), (36, s_r03_Call N)], [(15, 0, [5, 10, 11], [], [])], [], [], [], [], [], [(15, 0, law14_alone_L0_sp N)], N⟩

def r02_Ints_L0_k : List LfK := [.l .int, .l .int, .i]
def r02_Ints_L0_tp : List Ps := [.one (.sl .int false), .one (.sl .int false), .one (.u), .one (.u), .one (.u), .one (.i .i64)] ++ us 20
def r02_Ints_L0_op : List Po := []
def r02_Ints_L0A_k : List LfK := [.b]
def r02_Ints_L0A_tp : List Ps := us 4 ++ [.one (.b)] ++ us 21
def r02_Ints_L0A_op : List Po := []
def r02_Ints_L0B_k : List LfK := []
def r02_Ints_L0B_tp : List Ps := us 26
def r02_Ints_L0B_op : List Po := []
def r02_Ints_L0_sp (N : Nat) : LSpec := loopSp 0 r02_Ints_L0_tp r02_Ints_L0_op r02_Ints_L0_k (A := Bool) (B := Unit) (r02_Ints_L0_st N) N (.ret) (encD r02_Ints_L0A_tp r02_Ints_L0A_op r02_Ints_L0A_k) ((.exit 0)) (encD r02_Ints_L0B_tp r02_Ints_L0B_op r02_Ints_L0B_k)
noncomputable def c_r02_Ints_L0 (N : Nat) : Cfg := ⟨tyTab, styTab, [(16, Tryz.f16)], [], [(16, 0, [0, 1, 5], [], [])], [], [], [], [], [], [], N⟩
noncomputable def s_r02_Ints (N : Nat) : AE.Spec := ⟨Bool, run2 (asSl .int) (asSl .int) (r02_Ints N), V.b, false⟩
noncomputable def c_r02_Ints (N : Nat) : Cfg := ⟨tyTab, styTab, [(16, Tryz.f16)], [], [(16, 0, [0, 1, 5], [], [])], [], [], [], [], [], [(16, 0, r02_Ints_L0_sp N)], N⟩

noncomputable def s_thr_State (N : Nat) : AE.Spec := ⟨Int, run2 dSysD (dI .i64) (thr_State N), (V.i .i64), false⟩
noncomputable def c_thr_State (N : Nat) : Cfg := ⟨tyTab, styTab, [(38, Tryz.f38)], [(61, s_thr_below N), (62, s_pack_Index N)], [], [], [], [], [], [], [], N⟩

def port_Waits_L0_k : List LfK := [.i, .i, .l .int, .l .int, .b, .l .core, .l .ev, .l .int]
def port_Waits_L0_tp : List Ps := [.one (.u), .one (.i .i64), .one (.p 0 5), .one (.u), .one (.u), .one (.o 5 0), .one (.i .i64)] ++ us 19
def port_Waits_L0_op : List Po := [.c (.one (.sl .int false)), .c (.one (.sl .int false)), .c (.one (.b)), .c (.one (.sl .core false)), .c (.one (.sl .ev false)), .row 3 .int 0 true true false]
def port_Waits_L0A_k : List LfK := [.l .int, .l .int, .b, .l .core, .l .ev, .l .int]
def port_Waits_L0A_tp : List Ps := us 5 ++ [.one (.o 5 0)] ++ us 20
def port_Waits_L0A_op : List Po := [.c (.one (.sl .int false)), .c (.one (.sl .int false)), .c (.one (.b)), .c (.one (.sl .core false)), .c (.one (.sl .ev false)), .row 3 .int 0 true true false]
def port_Waits_L0_sp (N : Nat) : LSpec := loopSp 0 port_Waits_L0_tp port_Waits_L0_op port_Waits_L0_k (A := (List Int) × (List Int) × Bool × (List CoreD) × (List EvD) × (List Int)) (B := Empty) (port_Waits_L0_st N) N ((.exit 0)) (encD port_Waits_L0A_tp port_Waits_L0A_op port_Waits_L0A_k) (.goto 999999) (encN)
noncomputable def c_port_Waits_L0 (N : Nat) : Cfg := ⟨tyTab, styTab, [(17, Tryz.f17)], [(37, s_port_isPort N), (38, s_thr_State N)], [(17, 0, [1, 2, 5, 6], [(5, 3, .int)], [])], [], [], [], [], [], [], N⟩
noncomputable def s_port_Waits (N : Nat) : AE.Spec := ⟨(List Int), run2 dSysD (dI .i64) (port_Waits N), (fun xs => V.sl .int xs false), true⟩
noncomputable def c_port_Waits (N : Nat) : Cfg := ⟨tyTab, styTab, [(17, Tryz.f17)], [(37, s_port_isPort N), (38, s_thr_State N)], [(17, 0, [1, 2, 5, 6], [(5, 3, .int)], [])], [], [], [], [], [], [(17, 0, port_Waits_L0_sp N)], N⟩

noncomputable def s_port_Idle_1 (N : Nat) : AE.Spec := ⟨Bool, run1 dCoreD (port_Idle_1 N), V.b, false⟩
noncomputable def c_port_Idle_1 (N : Nat) : Cfg := ⟨tyTab, styTab, [(41, Tryz.f41)], [], [], [], [], [], [], [], [], N⟩

def port_Idle_Lslices_IndexFunc_Core_0_k : List LfK := [.l .core, .i, .i, .l .int, .l .int, .b, .l .core, .l .ev]
def port_Idle_Lslices_IndexFunc_Core_0_tp : List Ps := [.one (.sl .core false), .one (.fn 41)] ++ us 5 ++ [.one (.i .i64), .one (.i .i64)] ++ us 10
def port_Idle_Lslices_IndexFunc_Core_0_op : List Po := [.c (.one (.sl .int false)), .c (.one (.sl .int false)), .c (.one (.b)), .c (.one (.sl .core false)), .c (.one (.sl .ev false))]
def port_Idle_Lslices_IndexFunc_Core_0A_k : List LfK := [.i, .l .int, .l .int, .b, .l .core, .l .ev]
def port_Idle_Lslices_IndexFunc_Core_0A_tp : List Ps := us 4 ++ [.one (.i .i64)] ++ us 14
def port_Idle_Lslices_IndexFunc_Core_0A_op : List Po := [.c (.one (.sl .int false)), .c (.one (.sl .int false)), .c (.one (.b)), .c (.one (.sl .core false)), .c (.one (.sl .ev false))]
def port_Idle_Lslices_IndexFunc_Core_0B_k : List LfK := [.l .int, .l .int, .b, .l .core, .l .ev]
def port_Idle_Lslices_IndexFunc_Core_0B_tp : List Ps := us 19
def port_Idle_Lslices_IndexFunc_Core_0B_op : List Po := [.c (.one (.sl .int false)), .c (.one (.sl .int false)), .c (.one (.b)), .c (.one (.sl .core false)), .c (.one (.sl .ev false))]
def port_Idle_Lslices_IndexFunc_Core_0_sp (N : Nat) : LSpec := loopSp 5 port_Idle_Lslices_IndexFunc_Core_0_tp port_Idle_Lslices_IndexFunc_Core_0_op port_Idle_Lslices_IndexFunc_Core_0_k (A := Int × (List Int) × (List Int) × Bool × (List CoreD) × (List EvD)) (B := (List Int) × (List Int) × Bool × (List CoreD) × (List EvD)) (port_Idle_Lslices_IndexFunc_Core_0_st N) N (.ret) (encD port_Idle_Lslices_IndexFunc_Core_0A_tp port_Idle_Lslices_IndexFunc_Core_0A_op port_Idle_Lslices_IndexFunc_Core_0A_k) ((.exit 0)) (encD port_Idle_Lslices_IndexFunc_Core_0B_tp port_Idle_Lslices_IndexFunc_Core_0B_op port_Idle_Lslices_IndexFunc_Core_0B_k)
noncomputable def c_port_Idle_Lslices_IndexFunc_Core_0 (N : Nat) : Cfg := ⟨tyTab, styTab, [(19, Tryz.f19), (40, Tryz.f40), (63, Tryz.f63)], [(41, s_port_Idle_1 N)], [(63, 0, [0, 1, 7, 8], [], [])], [], [], [], [], [], [], N⟩
noncomputable def s_port_Idle (N : Nat) : AE.Spec := ⟨Bool, run1 dSysD (port_Idle N), V.b, false⟩
noncomputable def c_port_Idle (N : Nat) : Cfg := ⟨tyTab, styTab, [(19, Tryz.f19), (40, Tryz.f40), (63, Tryz.f63)], [(41, s_port_Idle_1 N)], [(63, 0, [0, 1, 7, 8], [], [])], [], [], [], [], [], [(63, 0, port_Idle_Lslices_IndexFunc_Core_0_sp N)], N⟩

noncomputable def s_law14_shown (N : Nat) : AE.Spec := ⟨Bool, run0 (law14_shown N), V.b, false⟩
noncomputable def c_law14_shown (N : Nat) : Cfg := ⟨tyTab, styTab, [(6, Tryz.f6), (13, Tryz.f13), (22, Tryz.f22), (33, Tryz.f33), (44, Tryz.f44), (45, Tryz.f45), (58, Tryz.f58), (67, Tryz.f67), (68, Tryz.f68), (94, Tryz.f94), (95, Tryz.f95), (116, Tryz.f116), (117, Tryz.f117), (137, Tryz.f137), (140, Tryz.f140)], [(12, s_r08_Make N), (14, s_r13_Make N), (15, s_law14_alone N), (16, s_r02_Ints N), (17, s_port_Waits N), (19, s_port_Idle N), (32, s_r03_Mem N), (34, s_r04_Fill N)], [], [], [], [], [], [], [], N⟩

noncomputable def s_r13_State (N : Nat) : AE.Spec := ⟨Int, run2 dSysD (dI .i64) (r13_State N), (V.i .i64), false⟩
noncomputable def c_r13_State (N : Nat) : Cfg := ⟨tyTab, styTab, [(10, Tryz.f10)], [(25, s_r01_Index N)], [], [], [], [], [], [], [], N⟩

def r13_Mask_L0_k : List LfK := [.i, .i, .l .int, .l .int, .b, .l .core, .l .ev, .l .int]
def r13_Mask_L0_tp : List Ps := [.one (.u), .one (.i .i64), .one (.p 0 5), .one (.u), .one (.u), .one (.o 5 0), .one (.i .i64)] ++ us 29
def r13_Mask_L0_op : List Po := [.c (.one (.sl .int false)), .c (.one (.sl .int false)), .c (.one (.b)), .c (.one (.sl .core false)), .c (.one (.sl .ev false)), .row 3 .int 0 true true false]
def r13_Mask_L0A_k : List LfK := [.l .int, .l .int, .b, .l .core, .l .ev, .l .int]
def r13_Mask_L0A_tp : List Ps := us 5 ++ [.one (.o 5 0)] ++ us 30
def r13_Mask_L0A_op : List Po := [.c (.one (.sl .int false)), .c (.one (.sl .int false)), .c (.one (.b)), .c (.one (.sl .core false)), .c (.one (.sl .ev false)), .row 3 .int 0 true true false]
def r13_Mask_L0_sp (N : Nat) : LSpec := loopSp 0 r13_Mask_L0_tp r13_Mask_L0_op r13_Mask_L0_k (A := (List Int) × (List Int) × Bool × (List CoreD) × (List EvD) × (List Int)) (B := Empty) (r13_Mask_L0_st N) N ((.exit 0)) (encD r13_Mask_L0A_tp r13_Mask_L0A_op r13_Mask_L0A_k) (.goto 999999) (encN)
noncomputable def c_r13_Mask_L0 (N : Nat) : Cfg := ⟨tyTab, styTab, [(18, Tryz.f18)], [(39, s_r13_Has N)], [(18, 0, [1, 2, 5, 6], [(5, 3, .int)], [])], [], [], [], [], [], [], N⟩
noncomputable def s_r13_Mask (N : Nat) : AE.Spec := ⟨(List Int), run2 dSysD (dI .i64) (r13_Mask N), (fun xs => V.sl .int xs false), true⟩
noncomputable def c_r13_Mask (N : Nat) : Cfg := ⟨tyTab, styTab, [(18, Tryz.f18)], [(39, s_r13_Has N)], [(18, 0, [1, 2, 5, 6], [(5, 3, .int)], [])], [], [], [], [], [], [(18, 0, r13_Mask_L0_sp N)], N⟩

noncomputable def s_law14_PortPairs (N : Nat) : AE.Spec := ⟨Bool, run3 (dI .u8) (dI .i64) dB (law14_PortPairs N), V.b, false⟩
noncomputable def c_law14_PortPairs (N : Nat) : Cfg := ⟨tyTab, styTab, [(4, Tryz.f4), (13, Tryz.f13), (33, Tryz.f33), (58, Tryz.f58)], [(6, s_law14_shown N), (10, s_r13_State N), (12, s_r08_Make N), (14, s_r13_Make N), (15, s_law14_alone N), (16, s_r02_Ints N), (17, s_port_Waits N), (18, s_r13_Mask N), (19, s_port_Idle N), (32, s_r03_Mem N), (34, s_r04_Fill N)], [], [], [], [], [], [], [], N⟩

noncomputable def s_r02_Small (N : Nat) : AE.Spec := ⟨Bool, run2 dMemD (dI .i64) (r02_Small N), V.b, false⟩
noncomputable def c_r02_Small (N : Nat) : Cfg := ⟨tyTab, styTab, [(64, Tryz.f64)], [], [], [], [], [], [], [], [], N⟩

def r03_Small_L2_k : List LfK := [.i, .i, .l .int, .l .int, .b, .l .core, .l .ev]
def r03_Small_L2_tp : List Ps := [.one (.u), .one (.u), .one (.p 0 5), .one (.u), .one (.u), .one (.u), .one (.i .i64), .one (.i .i64)] ++ us 66
def r03_Small_L2_op : List Po := [.c (.one (.sl .int false)), .c (.one (.sl .int false)), .c (.one (.b)), .c (.one (.sl .core false)), .c (.one (.sl .ev false))]
def r03_Small_L2A_k : List LfK := [.b]
def r03_Small_L2A_tp : List Ps := us 4 ++ [.one (.b)] ++ us 69
def r03_Small_L2A_op : List Po := [.c (.one (.u)), .c (.one (.u)), .c (.one (.u)), .c (.one (.u)), .c (.one (.u))]
def r03_Small_L2B_k : List LfK := [.i, .l .int, .l .int, .b, .l .core, .l .ev]
def r03_Small_L2B_tp : List Ps := [.one (.u), .one (.u), .one (.p 0 5), .one (.u), .one (.u), .one (.u), .one (.i .i64)] ++ us 67
def r03_Small_L2B_op : List Po := [.c (.one (.sl .int false)), .c (.one (.sl .int false)), .c (.one (.b)), .c (.one (.sl .core false)), .c (.one (.sl .ev false))]
def r03_Small_L2_sp (N : Nat) : LSpec := loopSp 0 r03_Small_L2_tp r03_Small_L2_op r03_Small_L2_k (A := Bool) (B := Int × (List Int) × (List Int) × Bool × (List CoreD) × (List EvD)) (r03_Small_L2_st N) N (.ret) (encD r03_Small_L2A_tp r03_Small_L2A_op r03_Small_L2A_k) ((.exit 2)) (encD r03_Small_L2B_tp r03_Small_L2B_op r03_Small_L2B_k)
noncomputable def c_r03_Small_L2 (N : Nat) : Cfg := ⟨tyTab, styTab, [(42, Tryz.f42)], [(64, s_r02_Small N)], [(42, 2, [2, 6, 7], [], []), (42, 0, [2, 6], [], [])], [], [], [], [], [], [], N⟩
def r03_Small_L0_k : List LfK := [.i, .l .int, .l .int, .b, .l .core, .l .ev]
def r03_Small_L0_tp : List Ps := [.one (.u), .one (.u), .one (.p 0 5), .one (.u), .one (.u), .one (.u), .one (.i .i64)] ++ us 67
def r03_Small_L0_op : List Po := [.c (.one (.sl .int false)), .c (.one (.sl .int false)), .c (.one (.b)), .c (.one (.sl .core false)), .c (.one (.sl .ev false))]
def r03_Small_L0A_k : List LfK := [.b]
def r03_Small_L0A_tp : List Ps := us 4 ++ [.one (.b)] ++ us 69
def r03_Small_L0A_op : List Po := [.c (.one (.u)), .c (.one (.u)), .c (.one (.u)), .c (.one (.u)), .c (.one (.u))]
def r03_Small_L0B_k : List LfK := [.l .int, .l .int, .b, .l .core, .l .ev]
def r03_Small_L0B_tp : List Ps := us 74
def r03_Small_L0B_op : List Po := [.c (.one (.sl .int false)), .c (.one (.sl .int false)), .c (.one (.b)), .c (.one (.sl .core false)), .c (.one (.sl .ev false))]
def r03_Small_L0_sp (N : Nat) : LSpec := loopSp 0 r03_Small_L0_tp r03_Small_L0_op r03_Small_L0_k (A := Bool) (B := (List Int) × (List Int) × Bool × (List CoreD) × (List EvD)) (r03_Small_L0_st N) N (.ret) (encD r03_Small_L0A_tp r03_Small_L0A_op r03_Small_L0A_k) ((.exit 0)) (encD r03_Small_L0B_tp r03_Small_L0B_op r03_Small_L0B_k)
noncomputable def c_r03_Small_L0 (N : Nat) : Cfg := ⟨tyTab, styTab, [(42, Tryz.f42)], [(64, s_r02_Small N)], [(42, 2, [2, 6, 7], [], []), (42, 0, [2, 6], [], [])], [], [], [], [], [], [(42, 2, r03_Small_L2_sp N)], N⟩
noncomputable def s_r03_Small (N : Nat) : AE.Spec := ⟨Bool, run2 dSysD (dI .i64) (r03_Small N), V.b, false⟩
noncomputable def c_r03_Small (N : Nat) : Cfg := ⟨tyTab, styTab, [(42, Tryz.f42)], [(64, s_r02_Small N)], [(42, 2, [2, 6, 7], [], []), (42, 0, [2, 6], [], [])], [], [], [], [], [], [(42, 2, r03_Small_L2_sp N), (42, 0, r03_Small_L0_sp N)], N⟩

def r02_Right_L0_k : List LfK := [.i, .i, .l .int, .l .int, .b]
def r02_Right_L0_tp : List Ps := [.one (.u), .one (.p 0 3), .one (.u), .one (.i .i64), .one (.i .i64)] ++ us 45
def r02_Right_L0_op : List Po := [.c (.one (.sl .int false)), .c (.one (.sl .int false)), .c (.one (.b))]
def r02_Right_L0A_k : List LfK := [.b]
def r02_Right_L0A_tp : List Ps := [.one (.u), .one (.u), .one (.b)] ++ us 47
def r02_Right_L0A_op : List Po := [.c (.one (.u)), .c (.one (.u)), .c (.one (.u))]
def r02_Right_L0B_k : List LfK := [.l .int, .l .int, .b]
def r02_Right_L0B_tp : List Ps := us 50
def r02_Right_L0B_op : List Po := [.c (.one (.sl .int false)), .c (.one (.sl .int false)), .c (.one (.b))]
def r02_Right_L0_sp (N : Nat) : LSpec := loopSp 0 r02_Right_L0_tp r02_Right_L0_op r02_Right_L0_k (A := Bool) (B := (List Int) × (List Int) × Bool) (r02_Right_L0_st N) N (.ret) (encD r02_Right_L0A_tp r02_Right_L0A_op r02_Right_L0A_k) ((.exit 0)) (encD r02_Right_L0B_tp r02_Right_L0B_op r02_Right_L0B_k)
noncomputable def c_r02_Right_L0 (N : Nat) : Cfg := ⟨tyTab, styTab, [(65, Tryz.f65)], [], [(65, 0, [1, 3, 4], [], [])], [], [], [], [], [], [], N⟩
noncomputable def s_r02_Right (N : Nat) : AE.Spec := ⟨Bool, run1 dMemD (r02_Right N), V.b, false⟩
noncomputable def c_r02_Right (N : Nat) : Cfg := ⟨tyTab, styTab, [(65, Tryz.f65)], [], [(65, 0, [1, 3, 4], [], [])], [], [], [], [], [], [(65, 0, r02_Right_L0_sp N)], N⟩

noncomputable def s_r03_near (N : Nat) : AE.Spec := ⟨Bool, run1 (dI .i64) (r03_near N), V.b, false⟩
noncomputable def c_r03_near (N : Nat) : Cfg := ⟨tyTab, styTab, [(93, Tryz.f93)], [], [], [], [], [], [], [], [], N⟩

def r03_core_L0_k : List LfK := [.i, .l .frame, .i, .i, .i, .i, .i, .l .int]
def r03_core_L0_tp : List Ps := [.one (.u), .one (.p 0 7), .one (.u), .one (.i .i64)] ++ us 49
def r03_core_L0_op : List Po := [.c (.one (.sl .frame false)), .c (.one (.i .i64)), .c (.one (.i .i64)), .c (.one (.i .i64)), .c (.one (.i .i64)), .c (.one (.i .i64)), .c (.one (.sl .int false))]
def r03_core_L0A_k : List LfK := [.b]
def r03_core_L0A_tp : List Ps := [.one (.u), .one (.u), .one (.b)] ++ us 50
def r03_core_L0A_op : List Po := [.c (.one (.u)), .c (.one (.u)), .c (.one (.u)), .c (.one (.u)), .c (.one (.u)), .c (.one (.u)), .c (.one (.u))]
def r03_core_L0B_k : List LfK := [.l .frame, .i, .i, .i, .i, .i, .l .int]
def r03_core_L0B_tp : List Ps := us 53
def r03_core_L0B_op : List Po := [.c (.one (.sl .frame false)), .c (.one (.i .i64)), .c (.one (.i .i64)), .c (.one (.i .i64)), .c (.one (.i .i64)), .c (.one (.i .i64)), .c (.one (.sl .int false))]
def r03_core_L0_sp (N : Nat) : LSpec := loopSp 0 r03_core_L0_tp r03_core_L0_op r03_core_L0_k (A := Bool) (B := (List FrameD) × Int × Int × Int × Int × Int × (List Int)) (r03_core_L0_st N) N (.ret) (encD r03_core_L0A_tp r03_core_L0A_op r03_core_L0A_k) ((.exit 0)) (encD r03_core_L0B_tp r03_core_L0B_op r03_core_L0B_k)
noncomputable def c_r03_core_L0 (N : Nat) : Cfg := ⟨tyTab, styTab, [(66, Tryz.f66)], [(93, s_r03_near N)], [(66, 0, [1, 3], [], [])], [], [], [], [], [], [], N⟩
noncomputable def s_r03_core (N : Nat) : AE.Spec := ⟨Bool, run1 dCoreD (r03_core N), V.b, false⟩
noncomputable def c_r03_core (N : Nat) : Cfg := ⟨tyTab, styTab, [(66, Tryz.f66)], [(93, s_r03_near N)], [(66, 0, [1, 3], [], [])], [], [], [], [], [], [(66, 0, r03_core_L0_sp N)], N⟩

def r03_Right_L2_k : List LfK := [.i, .i, .l .int, .l .int, .b, .l .core, .l .ev]
def r03_Right_L2_tp : List Ps := [.one (.u), .one (.p 0 5), .one (.u), .one (.u), .one (.i .i64), .one (.u), .one (.i .i64)] ++ us 75
def r03_Right_L2_op : List Po := [.c (.one (.sl .int false)), .c (.one (.sl .int false)), .c (.one (.b)), .c (.one (.sl .core false)), .c (.one (.sl .ev false))]
def r03_Right_L2A_k : List LfK := [.b]
def r03_Right_L2A_tp : List Ps := [.one (.u), .one (.u), .one (.b)] ++ us 79
def r03_Right_L2A_op : List Po := [.c (.one (.u)), .c (.one (.u)), .c (.one (.u)), .c (.one (.u)), .c (.one (.u))]
def r03_Right_L2B_k : List LfK := [.i, .l .int, .l .int, .b, .l .core, .l .ev]
def r03_Right_L2B_tp : List Ps := [.one (.u), .one (.p 0 5), .one (.u), .one (.u), .one (.i .i64)] ++ us 77
def r03_Right_L2B_op : List Po := [.c (.one (.sl .int false)), .c (.one (.sl .int false)), .c (.one (.b)), .c (.one (.sl .core false)), .c (.one (.sl .ev false))]
def r03_Right_L2_sp (N : Nat) : LSpec := loopSp 0 r03_Right_L2_tp r03_Right_L2_op r03_Right_L2_k (A := Bool) (B := Int × (List Int) × (List Int) × Bool × (List CoreD) × (List EvD)) (r03_Right_L2_st N) N (.ret) (encD r03_Right_L2A_tp r03_Right_L2A_op r03_Right_L2A_k) ((.exit 2)) (encD r03_Right_L2B_tp r03_Right_L2B_op r03_Right_L2B_k)
noncomputable def c_r03_Right_L2 (N : Nat) : Cfg := ⟨tyTab, styTab, [(43, Tryz.f43)], [(65, s_r02_Right N), (66, s_r03_core N)], [(43, 2, [1, 4, 6], [], []), (43, 0, [1, 4], [], [])], [], [], [], [], [], [], N⟩
def r03_Right_L0_k : List LfK := [.i, .l .int, .l .int, .b, .l .core, .l .ev]
def r03_Right_L0_tp : List Ps := [.one (.u), .one (.p 0 5), .one (.u), .one (.u), .one (.i .i64)] ++ us 77
def r03_Right_L0_op : List Po := [.c (.one (.sl .int false)), .c (.one (.sl .int false)), .c (.one (.b)), .c (.one (.sl .core false)), .c (.one (.sl .ev false))]
def r03_Right_L0A_k : List LfK := [.b]
def r03_Right_L0A_tp : List Ps := [.one (.u), .one (.u), .one (.b)] ++ us 79
def r03_Right_L0A_op : List Po := [.c (.one (.u)), .c (.one (.u)), .c (.one (.u)), .c (.one (.u)), .c (.one (.u))]
def r03_Right_L0B_k : List LfK := [.l .int, .l .int, .b, .l .core, .l .ev]
def r03_Right_L0B_tp : List Ps := us 82
def r03_Right_L0B_op : List Po := [.c (.one (.sl .int false)), .c (.one (.sl .int false)), .c (.one (.b)), .c (.one (.sl .core false)), .c (.one (.sl .ev false))]
def r03_Right_L0_sp (N : Nat) : LSpec := loopSp 0 r03_Right_L0_tp r03_Right_L0_op r03_Right_L0_k (A := Bool) (B := (List Int) × (List Int) × Bool × (List CoreD) × (List EvD)) (r03_Right_L0_st N) N (.ret) (encD r03_Right_L0A_tp r03_Right_L0A_op r03_Right_L0A_k) ((.exit 0)) (encD r03_Right_L0B_tp r03_Right_L0B_op r03_Right_L0B_k)
noncomputable def c_r03_Right_L0 (N : Nat) : Cfg := ⟨tyTab, styTab, [(43, Tryz.f43)], [(65, s_r02_Right N), (66, s_r03_core N)], [(43, 2, [1, 4, 6], [], []), (43, 0, [1, 4], [], [])], [], [], [], [], [], [(43, 2, r03_Right_L2_sp N)], N⟩
noncomputable def s_r03_Right (N : Nat) : AE.Spec := ⟨Bool, run1 dSysD (r03_Right N), V.b, false⟩
noncomputable def c_r03_Right (N : Nat) : Cfg := ⟨tyTab, styTab, [(43, Tryz.f43)], [(65, s_r02_Right N), (66, s_r03_core N)], [(43, 2, [1, 4, 6], [], []), (43, 0, [1, 4], [], [])], [], [], [], [], [], [(43, 2, r03_Right_L2_sp N), (43, 0, r03_Right_L0_sp N)], N⟩

noncomputable def s_r03_May (N : Nat) : AE.Spec := ⟨Bool, run2 dSysD (dI .i64) (r03_May N), V.b, false⟩
noncomputable def c_r03_May (N : Nat) : Cfg := ⟨tyTab, styTab, [(20, Tryz.f20)], [(42, s_r03_Small N), (43, s_r03_Right N)], [], [], [], [], [], [], [], N⟩

def r04_In_L0_k : List LfK := [.l .int, .i, .i]
def r04_In_L0_tp : List Ps := [.one (.sl .int false), .one (.i .i64), .one (.u), .one (.u), .one (.u), .one (.i .i64)] ++ us 12
def r04_In_L0_op : List Po := []
def r04_In_L0A_k : List LfK := [.b]
def r04_In_L0A_tp : List Ps := us 4 ++ [.one (.b)] ++ us 13
def r04_In_L0A_op : List Po := []
def r04_In_L0B_k : List LfK := []
def r04_In_L0B_tp : List Ps := us 18
def r04_In_L0B_op : List Po := []
def r04_In_L0_sp (N : Nat) : LSpec := loopSp 0 r04_In_L0_tp r04_In_L0_op r04_In_L0_k (A := Bool) (B := Unit) (r04_In_L0_st N) N (.ret) (encD r04_In_L0A_tp r04_In_L0A_op r04_In_L0A_k) ((.exit 0)) (encD r04_In_L0B_tp r04_In_L0B_op r04_In_L0B_k)
noncomputable def c_r04_In_L0 (N : Nat) : Cfg := ⟨tyTab, styTab, [(21, Tryz.f21)], [], [(21, 0, [0, 1, 5], [], [])], [], [], [], [], [], [], N⟩
noncomputable def s_r04_In (N : Nat) : AE.Spec := ⟨Bool, run2 (asSl .int) (dI .i64) (r04_In N), V.b, false⟩
noncomputable def c_r04_In (N : Nat) : Cfg := ⟨tyTab, styTab, [(21, Tryz.f21)], [], [(21, 0, [0, 1, 5], [], [])], [], [], [], [], [], [(21, 0, r04_In_L0_sp N)], N⟩

def law14_PortCounts_L2_k : List LfK := [.b, .i, .i, .i, .l .int, .l .int, .b, .l .core, .l .ev]
def law14_PortCounts_L2_tp : List Ps := [.one (.u), .one (.p 0 5), .one (.u), .one (.b), .one (.i .i64), .one (.i .i64), .one (.i .i64)] ++ us 44
def law14_PortCounts_L2_op : List Po := [.c (.one (.sl .int false)), .c (.one (.sl .int false)), .c (.one (.b)), .c (.one (.sl .core false)), .c (.one (.sl .ev false))]
def law14_PortCounts_L2A_k : List LfK := [.b, .i, .i, .l .int, .l .int, .b, .l .core, .l .ev]
def law14_PortCounts_L2A_tp : List Ps := [.one (.u), .one (.p 0 5), .one (.u), .one (.b), .one (.i .i64), .one (.i .i64)] ++ us 45
def law14_PortCounts_L2A_op : List Po := [.c (.one (.sl .int false)), .c (.one (.sl .int false)), .c (.one (.b)), .c (.one (.sl .core false)), .c (.one (.sl .ev false))]
def law14_PortCounts_L2_sp (N : Nat) : LSpec := loopSp 0 law14_PortCounts_L2_tp law14_PortCounts_L2_op law14_PortCounts_L2_k (A := Bool × Int × Int × (List Int) × (List Int) × Bool × (List CoreD) × (List EvD)) (B := Empty) (law14_PortCounts_L2_st N) N ((.exit 2)) (encD law14_PortCounts_L2A_tp law14_PortCounts_L2A_op law14_PortCounts_L2A_k) (.goto 999999) (encN)
noncomputable def c_law14_PortCounts_L2 (N : Nat) : Cfg := ⟨tyTab, styTab, [(5, Tryz.f5)], [(6, s_law14_shown N), (10, s_r13_State N), (17, s_port_Waits N), (20, s_r03_May N), (21, s_r04_In N)], [(5, 2, [1, 3, 4, 5, 6], [], []), (5, 0, [1, 3, 4], [], [])], [], [], [], [], [], [], N⟩
def law14_PortCounts_L0_k : List LfK := [.b, .i, .l .int, .l .int, .b, .l .core, .l .ev]
def law14_PortCounts_L0_tp : List Ps := [.one (.u), .one (.p 0 5), .one (.u), .one (.b), .one (.i .i64)] ++ us 46
def law14_PortCounts_L0_op : List Po := [.c (.one (.sl .int false)), .c (.one (.sl .int false)), .c (.one (.b)), .c (.one (.sl .core false)), .c (.one (.sl .ev false))]
def law14_PortCounts_L0A_k : List LfK := [.b]
def law14_PortCounts_L0A_tp : List Ps := [.one (.u), .one (.u), .one (.b)] ++ us 48
def law14_PortCounts_L0A_op : List Po := [.c (.one (.u)), .c (.one (.u)), .c (.one (.u)), .c (.one (.u)), .c (.one (.u))]
def law14_PortCounts_L0B_k : List LfK := [.b, .l .int, .l .int, .b, .l .core, .l .ev]
def law14_PortCounts_L0B_tp : List Ps := [.one (.u), .one (.p 0 5), .one (.u), .one (.b)] ++ us 47
def law14_PortCounts_L0B_op : List Po := [.c (.one (.sl .int false)), .c (.one (.sl .int false)), .c (.one (.b)), .c (.one (.sl .core false)), .c (.one (.sl .ev false))]
def law14_PortCounts_L0_sp (N : Nat) : LSpec := loopSp 0 law14_PortCounts_L0_tp law14_PortCounts_L0_op law14_PortCounts_L0_k (A := Bool) (B := Bool × (List Int) × (List Int) × Bool × (List CoreD) × (List EvD)) (law14_PortCounts_L0_st N) N (.ret) (encD law14_PortCounts_L0A_tp law14_PortCounts_L0A_op law14_PortCounts_L0A_k) ((.exit 0)) (encD law14_PortCounts_L0B_tp law14_PortCounts_L0B_op law14_PortCounts_L0B_k)
noncomputable def c_law14_PortCounts_L0 (N : Nat) : Cfg := ⟨tyTab, styTab, [(5, Tryz.f5)], [(6, s_law14_shown N), (10, s_r13_State N), (17, s_port_Waits N), (20, s_r03_May N), (21, s_r04_In N)], [(5, 2, [1, 3, 4, 5, 6], [], []), (5, 0, [1, 3, 4], [], [])], [], [], [], [], [], [(5, 2, law14_PortCounts_L2_sp N)], N⟩
noncomputable def s_law14_PortCounts (N : Nat) : AE.Spec := ⟨Bool, run1 dSysD (law14_PortCounts N), V.b, false⟩
noncomputable def c_law14_PortCounts (N : Nat) : Cfg := ⟨tyTab, styTab, [(5, Tryz.f5)], [(6, s_law14_shown N), (10, s_r13_State N), (17, s_port_Waits N), (20, s_r03_May N), (21, s_r04_In N)], [(5, 2, [1, 3, 4, 5, 6], [], []), (5, 0, [1, 3, 4], [], [])], [], [], [], [], [], [(5, 2, law14_PortCounts_L2_sp N), (5, 0, law14_PortCounts_L0_sp N)], N⟩

end Go.Hz
