/-
  The table of the types of this seat's program, and that it is right.
  Conditions: none.
-/
import Derived.Test.YtcjhemblnemhfaaCore4
import Derived.Test.YtcjhemblnemhfaaProg
import Derived.KernelRfl
namespace Go.Proofs.Ytcjhemblnemhfaa
open Go
def tt : TT := [
  (2, ⟨(.int .i64), 1, 8, (.int .i64 0), false⟩),
  (3, ⟨(.int .i64), 1, 8, (.int .i64 0), false⟩),
  (4, ⟨.bool, 1, 1, (.bool false), false⟩),
  (5, ⟨(.int .u8), 1, 1, (.int .u8 0), false⟩),
  (9, ⟨.string, 1, 16, (.string ⟨#[]⟩), false⟩),
  (12, ⟨(.int .u64), 1, 8, (.int .u64 0), false⟩),
  (13, ⟨(.struct [(9, 0, false), (12, 1, false)]), 2, 24, (.agg #[(.string ⟨#[]⟩), (.int .u64 0)]), false⟩),
  (21, ⟨(.int .i32), 1, 4, (.int .i32 0), false⟩),
  (22, ⟨(.slice 5), 1, 24, (.slice none 0 0), false⟩),
  (23, ⟨(.int .u32), 1, 4, (.int .u32 0), false⟩),
  (25, ⟨(.pointer 63), 1, 8, (.pointer none), false⟩),
  (27, ⟨(.struct [(3, 0, false), (3, 1, false), (3, 2, false)]), 3, 24, (.agg #[(.int .i64 0), (.int .i64 0), (.int .i64 0)]), true⟩),
  (28, ⟨(.struct [(3, 0, false), (3, 1, false), (3, 2, false)]), 3, 24, (.agg #[(.int .i64 0), (.int .i64 0), (.int .i64 0)]), true⟩),
  (29, ⟨(.struct [(9, 0, false), (28, 1, false), (22, 4, false)]), 5, 64, (.agg #[(.string ⟨#[]⟩), (.int .i64 0), (.int .i64 0), (.int .i64 0), (.slice none 0 0)]), true⟩),
  (30, ⟨(.struct [(9, 0, false), (28, 1, false), (22, 4, false)]), 5, 64, (.agg #[(.string ⟨#[]⟩), (.int .i64 0), (.int .i64 0), (.int .i64 0), (.slice none 0 0)]), true⟩),
  (31, ⟨(.struct [(30, 0, false), (23, 5, false)]), 6, 72, (.agg #[(.string ⟨#[]⟩), (.int .i64 0), (.int .i64 0), (.int .i64 0), (.slice none 0 0), (.int .u32 0)]), true⟩),
  (32, ⟨(.struct [(30, 0, false), (23, 5, false)]), 6, 72, (.agg #[(.string ⟨#[]⟩), (.int .i64 0), (.int .i64 0), (.int .i64 0), (.slice none 0 0), (.int .u32 0)]), true⟩),
  (33, ⟨(.array 2 32), 12, 144, (.agg #[(.string ⟨#[]⟩), (.int .i64 0), (.int .i64 0), (.int .i64 0), (.slice none 0 0), (.int .u32 0), (.string ⟨#[]⟩), (.int .i64 0), (.int .i64 0), (.int .i64 0), (.slice none 0 0), (.int .u32 0)]), false⟩),
  (34, ⟨(.struct [(9, 0, false), (33, 1, false), (3, 13, false), (3, 14, false), (4, 15, false)]), 16, 184, (.agg #[(.string ⟨#[]⟩), (.string ⟨#[]⟩), (.int .i64 0), (.int .i64 0), (.int .i64 0), (.slice none 0 0), (.int .u32 0), (.string ⟨#[]⟩), (.int .i64 0), (.int .i64 0), (.int .i64 0), (.slice none 0 0), (.int .u32 0), (.int .i64 0), (.int .i64 0), (.bool false)]), true⟩),
  (35, ⟨(.struct [(9, 0, false), (33, 1, false), (3, 13, false), (3, 14, false), (4, 15, false)]), 16, 184, (.agg #[(.string ⟨#[]⟩), (.string ⟨#[]⟩), (.int .i64 0), (.int .i64 0), (.int .i64 0), (.slice none 0 0), (.int .u32 0), (.string ⟨#[]⟩), (.int .i64 0), (.int .i64 0), (.int .i64 0), (.slice none 0 0), (.int .u32 0), (.int .i64 0), (.int .i64 0), (.bool false)]), true⟩),
  (36, ⟨(.int .i64), 1, 8, (.int .i64 0), false⟩),
  (55, ⟨(.slice 9), 1, 24, (.slice none 0 0), false⟩),
  (57, ⟨(.slice 35), 1, 24, (.slice none 0 0), false⟩),
  (58, ⟨(.slice 23), 1, 24, (.slice none 0 0), false⟩),
  (62, ⟨(.struct [(22, 0, false), (3, 1, false)]), 2, 32, (.agg #[(.slice none 0 0), (.int .i64 0)]), true⟩),
  (63, ⟨(.struct [(22, 0, false), (3, 1, false)]), 2, 32, (.agg #[(.slice none 0 0), (.int .i64 0)]), true⟩),
  (67, ⟨(.pointer 32), 1, 8, (.pointer none), false⟩),
  (69, ⟨(.pointer 35), 1, 8, (.pointer none), false⟩),
  (74, ⟨(.int .u64), 1, 8, (.int .u64 0), false⟩),
  (75, ⟨(.slice 3), 1, 24, (.slice none 0 0), false⟩),
  (88, ⟨(.array 3 3), 3, 24, (.agg #[(.int .i64 0), (.int .i64 0), (.int .i64 0)]), false⟩),
  (99, ⟨(.pointer 5), 1, 8, (.pointer none), false⟩)]
set_option maxRecDepth 100000 in
theorem ttok : TTok Try.prog tt := ⟨
  ⟨by kernel_rfl, by kernel_rfl, fun h => Bool.noConfusion h⟩,
  ⟨by kernel_rfl, by kernel_rfl, fun h => Bool.noConfusion h⟩,
  ⟨by kernel_rfl, by kernel_rfl, fun h => Bool.noConfusion h⟩,
  ⟨by kernel_rfl, by kernel_rfl, fun h => Bool.noConfusion h⟩,
  ⟨by kernel_rfl, by kernel_rfl, fun h => Bool.noConfusion h⟩,
  ⟨by kernel_rfl, by kernel_rfl, fun h => Bool.noConfusion h⟩,
  ⟨by kernel_rfl, by kernel_rfl, fun h => Bool.noConfusion h⟩,
  ⟨by kernel_rfl, by kernel_rfl, fun h => Bool.noConfusion h⟩,
  ⟨by kernel_rfl, by kernel_rfl, fun h => Bool.noConfusion h⟩,
  ⟨by kernel_rfl, by kernel_rfl, fun h => Bool.noConfusion h⟩,
  ⟨by kernel_rfl, by kernel_rfl, fun h => Bool.noConfusion h⟩,
  ⟨by kernel_rfl, by kernel_rfl, fun _ => ⟨by kernel_rfl, by kernel_rfl⟩⟩,
  ⟨by kernel_rfl, by kernel_rfl, fun _ => ⟨by kernel_rfl, by kernel_rfl⟩⟩,
  ⟨by kernel_rfl, by kernel_rfl, fun _ => ⟨by kernel_rfl, by kernel_rfl⟩⟩,
  ⟨by kernel_rfl, by kernel_rfl, fun _ => ⟨by kernel_rfl, by kernel_rfl⟩⟩,
  ⟨by kernel_rfl, by kernel_rfl, fun _ => ⟨by kernel_rfl, by kernel_rfl⟩⟩,
  ⟨by kernel_rfl, by kernel_rfl, fun _ => ⟨by kernel_rfl, by kernel_rfl⟩⟩,
  ⟨by kernel_rfl, by kernel_rfl, fun h => Bool.noConfusion h⟩,
  ⟨by kernel_rfl, by kernel_rfl, fun _ => ⟨by kernel_rfl, by kernel_rfl⟩⟩,
  ⟨by kernel_rfl, by kernel_rfl, fun _ => ⟨by kernel_rfl, by kernel_rfl⟩⟩,
  ⟨by kernel_rfl, by kernel_rfl, fun h => Bool.noConfusion h⟩,
  ⟨by kernel_rfl, by kernel_rfl, fun h => Bool.noConfusion h⟩,
  ⟨by kernel_rfl, by kernel_rfl, fun h => Bool.noConfusion h⟩,
  ⟨by kernel_rfl, by kernel_rfl, fun h => Bool.noConfusion h⟩,
  ⟨by kernel_rfl, by kernel_rfl, fun _ => ⟨by kernel_rfl, by kernel_rfl⟩⟩,
  ⟨by kernel_rfl, by kernel_rfl, fun _ => ⟨by kernel_rfl, by kernel_rfl⟩⟩,
  ⟨by kernel_rfl, by kernel_rfl, fun h => Bool.noConfusion h⟩,
  ⟨by kernel_rfl, by kernel_rfl, fun h => Bool.noConfusion h⟩,
  ⟨by kernel_rfl, by kernel_rfl, fun h => Bool.noConfusion h⟩,
  ⟨by kernel_rfl, by kernel_rfl, fun h => Bool.noConfusion h⟩,
  ⟨by kernel_rfl, by kernel_rfl, fun h => Bool.noConfusion h⟩,
  ⟨by kernel_rfl, by kernel_rfl, fun h => Bool.noConfusion h⟩, trivial⟩
instance : HasTT Try.prog := ⟨tt, ttok⟩
theorem mixed : Try.prog.follows .mixedOrders = true := by kernel_rfl
end Go.Proofs.Ytcjhemblnemhfaa
