/- The seat's types, as the machine without addresses knows them. No claim of its own. -/
import Derived.Test.YtcijaehnlemidaaDoorAm2
import Derived.Test.YtcijaehnlemidaaDoorProg
import Derived.KernelRfl
namespace Go.Proofs.YtcijaehnlemidaaDoor
open Go.Am

def tab : Tab := [(1, ⟨.func, 1, 8, [.nilf]⟩),
  (2, ⟨.int .i64, 1, 8, [.int .i64 0]⟩),
  (3, ⟨.int .i64, 1, 8, [.int .i64 0]⟩),
  (4, ⟨.bool, 1, 1, [.ff]⟩),
  (5, ⟨.int .u8, 1, 1, [.int .u8 0]⟩),
  (7, ⟨.struct [(0, 2), (1, 3), (2, 4), (3, 6)], 4, 24, [.int .i64 0, .int .i64 0, .ff, .int .u8 0]⟩),
  (9, ⟨.str, 1, 16, [.str []]⟩),
  (12, ⟨.int .u64, 1, 8, [.int .u64 0]⟩),
  (13, ⟨.struct [(0, 9), (1, 12)], 2, 24, [.str [], .int .u64 0]⟩),
  (18, ⟨.struct [(0, 17)], 1, 8, [.nilp]⟩),
  (20, ⟨.iface, 1, 16, [.nili]⟩),
  (21, ⟨.int .i32, 1, 4, [.int .i32 0]⟩),
  (22, ⟨.int .u32, 1, 4, [.int .u32 0]⟩),
  (23, ⟨.func, 1, 8, [.nilf]⟩),
  (25, ⟨.func, 1, 8, [.nilf]⟩),
  (26, ⟨.func, 1, 8, [.nilf]⟩),
  (27, ⟨.func, 1, 8, [.nilf]⟩),
  (28, ⟨.func, 1, 8, [.nilf]⟩),
  (29, ⟨.func, 1, 8, [.nilf]⟩),
  (30, ⟨.func, 1, 8, [.nilf]⟩),
  (31, ⟨.func, 1, 8, [.nilf]⟩),
  (32, ⟨.func, 1, 8, [.nilf]⟩),
  (33, ⟨.int .u16, 1, 2, [.int .u16 0]⟩),
  (34, ⟨.slice 5, 1, 24, [.lst true 1 [] .tight]⟩),
  (35, ⟨.int .u64, 1, 8, [.int .u64 0]⟩),
  (36, ⟨.func, 1, 8, [.nilf]⟩),
  (37, ⟨.slice 9, 1, 24, [.lst true 1 [] .tight]⟩),
  (38, ⟨.func, 1, 8, [.nilf]⟩),
  (39, ⟨.func, 1, 8, [.nilf]⟩),
  (40, ⟨.arr 2 22, 2, 8, [.int .u32 0, .int .u32 0]⟩),
  (41, ⟨.func, 1, 8, [.nilf]⟩),
  (42, ⟨.struct [(0, 17), (1, 17), (2, 17), (3, 9)], 4, 40, [.nilp, .nilp, .nilp, .str []]⟩),
  (44, ⟨.arr 0 16, 0, 0, []⟩),
  (45, ⟨.struct [(0, 44)], 0, 0, []⟩),
  (47, ⟨.func, 1, 8, [.nilf]⟩),
  (50, ⟨.func, 1, 8, [.nilf]⟩),
  (51, ⟨.ptr 5, 1, 8, [.nilp]⟩),
  (54, ⟨.struct [(0, 12), (1, 12), (2, 22), (3, 48), (4, 5), (5, 5), (6, 49), (7, 50), (8, 51), (9, 52), (10, 53)], 11, 48, [.int .u64 0, .int .u64 0, .int .u32 0, .int .u8 0, .int .u8 0, .int .u8 0, .int .u8 0, .nilf, .nilp, .int .i32 0, .int .i32 0]⟩)]
set_option maxRecDepth 100000 in
theorem tabOk : TOk Tryd.prog tab := TOk.of_b (by kernel_rfl)
theorem mixed : Tryd.prog.follows .mixedOrders = true := by kernel_rfl
end Go.Proofs.YtcijaehnlemidaaDoor
