/-
  The types of this seat's program, as the machine of values takes them.
-/
import Derived.Test.YtconhpilbndpkaaVmB
import Derived.Test.YtconhpilbndpkaaProg
import Derived.KernelRfl
namespace Go.Proofs.Ytconhpilbndpkaa
open Go.Proofs.Ytconhpilbndpkaa.Vm
set_option maxRecDepth 100000
def ti : TI := [(2, ⟨.oth, false, 1, [.c (.i .i64 0)], [], 0⟩),
  (3, ⟨.oth, false, 1, [.c (.i .i64 0)], [], 0⟩),
  (4, ⟨.oth, false, 1, [.c (.b false)], [], 0⟩),
  (9, ⟨.str, false, 1, [.c (.s [])], [], 0⟩),
  (10, ⟨.str, false, 1, [.c (.s [])], [], 0⟩),
  (11, ⟨.str, false, 1, [.c (.s [])], [], 0⟩),
  (7, ⟨.oth, true, 4, [.c (.i .i64 0), .c (.i .i64 0), .c (.b false), .c (.i .u8 0)], [(0, false, 1), (1, false, 1), (2, false, 1), (3, false, 1)], 0⟩),
  (8, ⟨.oth, true, 4, [.c (.i .i64 0), .c (.i .i64 0), .c (.b false), .c (.i .u8 0)], [(0, false, 1), (1, false, 1), (2, false, 1), (3, false, 1)], 0⟩),
  (13, ⟨.oth, true, 2, [.c (.s []), .c (.i .u64 0)], [(0, false, 1), (1, false, 1)], 0⟩),
  (14, ⟨.oth, true, 2, [.c (.s []), .c (.i .u64 0)], [(0, false, 1), (1, false, 1)], 0⟩),
  (18, ⟨.oth, true, 1, [.np], [(0, false, 1)], 0⟩),
  (19, ⟨.oth, true, 1, [.np], [(0, false, 1)], 0⟩),
  (22, ⟨.sl, false, 1, [.nil], [], 5⟩),
  (24, ⟨.sl, false, 1, [.nil], [], 37⟩),
  (25, ⟨.oth, true, 3, [.c (.i .i64 0), .c (.i .i64 0), .nil], [(0, false, 1), (1, false, 1), (2, false, 1)], 0⟩),
  (26, ⟨.oth, true, 3, [.c (.i .i64 0), .c (.i .i64 0), .nil], [(0, false, 1), (1, false, 1), (2, false, 1)], 0⟩),
  (28, ⟨.sl, false, 1, [.nil], [], 3⟩),
  (36, ⟨.oth, true, 3, [.c (.i .i64 0), .c (.i .i64 0), .c (.s [])], [(0, false, 1), (1, false, 1), (2, false, 1)], 0⟩),
  (37, ⟨.oth, true, 3, [.c (.i .i64 0), .c (.i .i64 0), .c (.s [])], [(0, false, 1), (1, false, 1), (2, false, 1)], 0⟩),
  (42, ⟨.sl, false, 1, [.nil], [], 63⟩),
  (58, ⟨.oth, true, 3, [.nil, .c (.i .i64 0), .c (.i .i64 0)], [(0, false, 1), (1, false, 1), (2, false, 1)], 0⟩),
  (59, ⟨.oth, true, 3, [.nil, .c (.i .i64 0), .c (.i .i64 0)], [(0, false, 1), (1, false, 1), (2, false, 1)], 0⟩),
  (62, ⟨.oth, true, 5, [.c (.i .i64 0), .c (.i .i64 0), .c (.i .i64 0), .c (.s []), .c (.b false)], [(0, false, 1), (1, true, 3), (4, false, 1)], 0⟩),
  (63, ⟨.oth, true, 5, [.c (.i .i64 0), .c (.i .i64 0), .c (.i .i64 0), .c (.s []), .c (.b false)], [(0, false, 1), (1, true, 3), (4, false, 1)], 0⟩),
  (74, ⟨.oth, true, 4, [.np, .np, .np, .c (.s [])], [(0, false, 1), (1, false, 1), (2, false, 1), (3, false, 1)], 0⟩),
  (75, ⟨.oth, true, 4, [.np, .np, .np, .c (.s [])], [(0, false, 1), (1, false, 1), (2, false, 1), (3, false, 1)], 0⟩),
  (87, ⟨.oth, true, 11, [.c (.i .u64 0), .c (.i .u64 0), .c (.i .u32 0), .c (.i .u8 0), .c (.i .u8 0), .c (.i .u8 0), .c (.i .u8 0), .nf, .np, .c (.i .i32 0), .c (.i .i32 0)], [(0, false, 1), (1, false, 1), (2, false, 1), (3, false, 1), (4, false, 1), (5, false, 1), (6, false, 1), (7, false, 1), (8, false, 1), (9, false, 1), (10, false, 1)], 0⟩),
  (88, ⟨.oth, true, 11, [.c (.i .u64 0), .c (.i .u64 0), .c (.i .u32 0), .c (.i .u8 0), .c (.i .u8 0), .c (.i .u8 0), .c (.i .u8 0), .nf, .np, .c (.i .i32 0), .c (.i .i32 0)], [(0, false, 1), (1, false, 1), (2, false, 1), (3, false, 1), (4, false, 1), (5, false, 1), (6, false, 1), (7, false, 1), (8, false, 1), (9, false, 1), (10, false, 1)], 0⟩),
  (5, ⟨.oth, false, 1, [.c (.i .u8 0)], [], 0⟩),
  (6, ⟨.oth, false, 1, [.c (.i .u8 0)], [], 0⟩),
  (12, ⟨.oth, false, 1, [.c (.i .u64 0)], [], 0⟩),
  (15, ⟨.oth, false, 1, [.np], [], 0⟩),
  (16, ⟨.oth, false, 1, [.np], [], 0⟩),
  (17, ⟨.oth, false, 1, [.np], [], 0⟩),
  (21, ⟨.oth, false, 1, [.c (.i .i32 0)], [], 0⟩),
  (39, ⟨.oth, false, 1, [.np], [], 0⟩),
  (71, ⟨.oth, false, 1, [.c (.i .u64 0)], [], 0⟩),
  (80, ⟨.oth, false, 1, [.c (.i .u32 0)], [], 0⟩),
  (81, ⟨.oth, false, 1, [.c (.i .u8 0)], [], 0⟩),
  (82, ⟨.oth, false, 1, [.c (.i .u8 0)], [], 0⟩),
  (84, ⟨.oth, false, 1, [.np], [], 0⟩),
  (85, ⟨.oth, false, 1, [.c (.i .i32 0)], [], 0⟩),
  (86, ⟨.oth, false, 1, [.c (.i .i32 0)], [], 0⟩),
  (89, ⟨.oth, false, 1, [.np], [], 0⟩)]
theorem ti_ok : TIok Try.prog ti := TIok_of fun p h => by
  simp only [ti, List.mem_cons, List.not_mem_nil, or_false] at h
  rcases h with rfl | rfl | rfl | rfl | rfl | rfl | rfl | rfl | rfl | rfl | rfl | rfl | rfl | rfl | rfl | rfl | rfl | rfl | rfl | rfl | rfl | rfl | rfl | rfl | rfl | rfl | rfl | rfl | rfl | rfl | rfl | rfl | rfl | rfl | rfl | rfl | rfl | rfl | rfl | rfl | rfl | rfl | rfl | rfl
  all_goals kernel_rfl
end Go.Proofs.Ytconhpilbndpkaa
