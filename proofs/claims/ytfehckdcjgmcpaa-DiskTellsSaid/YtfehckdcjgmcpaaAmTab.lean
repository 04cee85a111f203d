/- The seat's types, as the machine without addresses knows them. No claim of its own. -/
import Derived.Test.YtfehckdcjgmcpaaAm2
import Derived.Test.YtfehckdcjgmcpaaProg
import Derived.KernelRfl
namespace Go.Proofs.Ytfehckdcjgmcpaa
open Go.Am

def tab : Tab := [(1, ⟨.func, 1, 8, [.nilf]⟩),
  (2, ⟨.int .i64, 1, 8, [.int .i64 0]⟩),
  (3, ⟨.int .i64, 1, 8, [.int .i64 0]⟩),
  (4, ⟨.bool, 1, 1, [.ff]⟩),
  (5, ⟨.int .u8, 1, 1, [.int .u8 0]⟩),
  (7, ⟨.struct [(0, 2), (1, 3), (2, 4), (3, 6)], 4, 24, [.int .i64 0, .int .i64 0, .ff, .int .u8 0]⟩),
  (9, ⟨.str, 1, 16, [.str []]⟩),
  (12, ⟨.int .u64, 1, 8, [.int .u64 0]⟩),
  (13, ⟨.struct [(0, 9), (1, 12)], 2, 24, [.str [], .int .u64 0]⟩),
  (18, ⟨.struct [(0, 17)], 1, 8, [.nilp]⟩),
  (20, ⟨.iface, 1, 16, [.nili]⟩),
  (21, ⟨.int .i32, 1, 4, [.int .i32 0]⟩),
  (22, ⟨.slice 40, 1, 24, [.lst true 1 [] .tight]⟩),
  (23, ⟨.struct [(0, 3), (1, 9), (2, 22)], 3, 48, [.int .i64 0, .str [], .lst true 1 [] .tight]⟩),
  (24, ⟨.struct [(0, 3), (1, 9), (2, 22)], 3, 48, [.int .i64 0, .str [], .lst true 1 [] .tight]⟩),
  (25, ⟨.func, 1, 8, [.nilf]⟩),
  (26, ⟨.func, 1, 8, [.nilf]⟩),
  (27, ⟨.int .i64, 1, 8, [.int .i64 0]⟩),
  (29, ⟨.func, 1, 8, [.nilf]⟩),
  (31, ⟨.func, 1, 8, [.nilf]⟩),
  (32, ⟨.func, 1, 8, [.nilf]⟩),
  (33, ⟨.func, 1, 8, [.nilf]⟩),
  (34, ⟨.func, 1, 8, [.nilf]⟩),
  (35, ⟨.func, 1, 8, [.nilf]⟩),
  (36, ⟨.func, 1, 8, [.nilf]⟩),
  (37, ⟨.func, 1, 8, [.nilf]⟩),
  (38, ⟨.func, 1, 8, [.nilf]⟩),
  (39, ⟨.struct [(0, 3), (1, 9)], 2, 24, [.int .i64 0, .str []]⟩),
  (40, ⟨.struct [(0, 3), (1, 9)], 2, 24, [.int .i64 0, .str []]⟩),
  (41, ⟨.func, 1, 8, [.nilf]⟩),
  (42, ⟨.func, 1, 8, [.nilf]⟩),
  (43, ⟨.func, 1, 8, [.nilf]⟩),
  (44, ⟨.func, 1, 8, [.nilf]⟩),
  (45, ⟨.func, 1, 8, [.nilf]⟩),
  (46, ⟨.slice 49, 1, 24, [.lst true 1 [] .tight]⟩),
  (47, ⟨.func, 1, 8, [.nilf]⟩),
  (48, ⟨.arr 16 5, 16, 16, [.int .u8 0, .int .u8 0, .int .u8 0, .int .u8 0, .int .u8 0, .int .u8 0, .int .u8 0, .int .u8 0, .int .u8 0, .int .u8 0, .int .u8 0, .int .u8 0, .int .u8 0, .int .u8 0, .int .u8 0, .int .u8 0]⟩),
  (49, ⟨.arr 16 5, 16, 16, [.int .u8 0, .int .u8 0, .int .u8 0, .int .u8 0, .int .u8 0, .int .u8 0, .int .u8 0, .int .u8 0, .int .u8 0, .int .u8 0, .int .u8 0, .int .u8 0, .int .u8 0, .int .u8 0, .int .u8 0, .int .u8 0]⟩),
  (50, ⟨.slice 5, 1, 24, [.lst true 1 [] .tight]⟩),
  (51, ⟨.func, 1, 8, [.nilf]⟩),
  (52, ⟨.func, 1, 8, [.nilf]⟩),
  (53, ⟨.func, 1, 8, [.nilf]⟩),
  (54, ⟨.func, 1, 8, [.nilf]⟩),
  (55, ⟨.func, 1, 8, [.nilf]⟩),
  (56, ⟨.struct [(0, 17), (1, 17), (2, 17), (3, 9)], 4, 40, [.nilp, .nilp, .nilp, .str []]⟩),
  (58, ⟨.arr 0 16, 0, 0, []⟩),
  (59, ⟨.struct [(0, 58)], 0, 0, []⟩),
  (61, ⟨.func, 1, 8, [.nilf]⟩),
  (62, ⟨.int .u32, 1, 4, [.int .u32 0]⟩),
  (65, ⟨.func, 1, 8, [.nilf]⟩),
  (66, ⟨.ptr 5, 1, 8, [.nilp]⟩),
  (69, ⟨.struct [(0, 12), (1, 12), (2, 62), (3, 63), (4, 5), (5, 5), (6, 64), (7, 65), (8, 66), (9, 67), (10, 68)], 11, 48, [.int .u64 0, .int .u64 0, .int .u32 0, .int .u8 0, .int .u8 0, .int .u8 0, .int .u8 0, .nilf, .nilp, .int .i32 0, .int .i32 0]⟩)]
set_option maxRecDepth 100000 in
theorem tabOk : TOk Try.prog tab := TOk.of_b (by kernel_rfl)
theorem mixed : Try.prog.follows .mixedOrders = true := by kernel_rfl
end Go.Proofs.Ytfehckdcjgmcpaa
