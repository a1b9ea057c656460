/-
  The table of the types of this seat's program, and that it is right.
  Conditions: none.
-/
import Derived.Test.YtfddmgagikeieaaDoorCore4
import Derived.Test.YtfddmgagikeieaaDoorProg
import Derived.KernelRfl
namespace Go.Proofs.YtfddmgagikeieaaDoor
open Go
def tt : TT := [
  (2, ⟨(.int .i64), 1, 8, (.int .i64 0), false⟩),
  (3, ⟨(.int .i64), 1, 8, (.int .i64 0), false⟩),
  (4, ⟨.bool, 1, 1, (.bool false), false⟩),
  (5, ⟨(.int .u8), 1, 1, (.int .u8 0), false⟩),
  (9, ⟨.string, 1, 16, (.string ⟨#[]⟩), false⟩),
  (12, ⟨(.int .u64), 1, 8, (.int .u64 0), false⟩),
  (13, ⟨(.struct [(9, 0, false), (12, 1, false)]), 2, 24, (.agg #[(.string ⟨#[]⟩), (.int .u64 0)]), false⟩),
  (21, ⟨(.int .i32), 1, 4, (.int .i32 0), false⟩),
  (22, ⟨(.struct [(3, 0, false), (9, 1, false)]), 2, 24, (.agg #[(.int .i64 0), (.string ⟨#[]⟩)]), true⟩),
  (23, ⟨(.struct [(3, 0, false), (9, 1, false)]), 2, 24, (.agg #[(.int .i64 0), (.string ⟨#[]⟩)]), true⟩),
  (24, ⟨(.slice 3), 1, 24, (.slice none 0 0), false⟩),
  (27, ⟨(.pointer 58), 1, 8, (.pointer none), false⟩),
  (30, ⟨(.slice 23), 1, 24, (.slice none 0 0), false⟩),
  (31, ⟨(.slice 5), 1, 24, (.slice none 0 0), false⟩),
  (32, ⟨(.int .i64), 1, 8, (.int .i64 0), false⟩),
  (38, ⟨(.slice 9), 1, 24, (.slice none 0 0), false⟩),
  (57, ⟨(.struct [(24, 0, false), (3, 1, false)]), 2, 32, (.agg #[(.slice none 0 0), (.int .i64 0)]), true⟩),
  (58, ⟨(.struct [(24, 0, false), (3, 1, false)]), 2, 32, (.agg #[(.slice none 0 0), (.int .i64 0)]), true⟩),
  (64, ⟨(.int .u64), 1, 8, (.int .u64 0), false⟩),
  (71, ⟨(.array 256 4), 256, 256, (.agg (List.replicate 256 (.bool false)).toArray), false⟩),
  (72, ⟨(.array 256 4), 256, 256, (.agg (List.replicate 256 (.bool false)).toArray), false⟩),
  (76, ⟨(.pointer 72), 1, 8, (.pointer none), false⟩),
  (85, ⟨(.array 8 5), 8, 8, (.agg #[(.int .u8 0), (.int .u8 0), (.int .u8 0), (.int .u8 0), (.int .u8 0), (.int .u8 0), (.int .u8 0), (.int .u8 0)]), false⟩),
  (87, ⟨(.array 256 5), 256, 256, (.agg (List.replicate 256 (.int .u8 0)).toArray), false⟩),
  (88, ⟨(.struct [(5, 0, false), (5, 1, false)]), 2, 2, (.agg #[(.int .u8 0), (.int .u8 0)]), true⟩),
  (89, ⟨(.struct [(5, 0, false), (5, 1, false)]), 2, 2, (.agg #[(.int .u8 0), (.int .u8 0)]), true⟩),
  (90, ⟨(.array 16 89), 32, 32, (.agg #[(.int .u8 0), (.int .u8 0), (.int .u8 0), (.int .u8 0), (.int .u8 0), (.int .u8 0), (.int .u8 0), (.int .u8 0), (.int .u8 0), (.int .u8 0), (.int .u8 0), (.int .u8 0), (.int .u8 0), (.int .u8 0), (.int .u8 0), (.int .u8 0), (.int .u8 0), (.int .u8 0), (.int .u8 0), (.int .u8 0), (.int .u8 0), (.int .u8 0), (.int .u8 0), (.int .u8 0), (.int .u8 0), (.int .u8 0), (.int .u8 0), (.int .u8 0), (.int .u8 0), (.int .u8 0), (.int .u8 0), (.int .u8 0)]), false⟩),
  (100, ⟨(.int .u32), 1, 4, (.int .u32 0), false⟩),
  (104, ⟨(.pointer 5), 1, 8, (.pointer none), false⟩)]
set_option maxRecDepth 100000 in
theorem ttok : TTok Tryd.prog tt := ⟨
  ⟨by kernel_rfl, by kernel_rfl, fun h => Bool.noConfusion h⟩,
  ⟨by kernel_rfl, by kernel_rfl, fun h => Bool.noConfusion h⟩,
  ⟨by kernel_rfl, by kernel_rfl, fun h => Bool.noConfusion h⟩,
  ⟨by kernel_rfl, by kernel_rfl, fun h => Bool.noConfusion h⟩,
  ⟨by kernel_rfl, by kernel_rfl, fun h => Bool.noConfusion h⟩,
  ⟨by kernel_rfl, by kernel_rfl, fun h => Bool.noConfusion h⟩,
  ⟨by kernel_rfl, by kernel_rfl, fun h => Bool.noConfusion h⟩,
  ⟨by kernel_rfl, by kernel_rfl, fun h => Bool.noConfusion h⟩,
  ⟨by kernel_rfl, by kernel_rfl, fun _ => ⟨by kernel_rfl, by kernel_rfl⟩⟩,
  ⟨by kernel_rfl, by kernel_rfl, fun _ => ⟨by kernel_rfl, by kernel_rfl⟩⟩,
  ⟨by kernel_rfl, by kernel_rfl, fun h => Bool.noConfusion h⟩,
  ⟨by kernel_rfl, by kernel_rfl, fun h => Bool.noConfusion h⟩,
  ⟨by kernel_rfl, by kernel_rfl, fun h => Bool.noConfusion h⟩,
  ⟨by kernel_rfl, by kernel_rfl, fun h => Bool.noConfusion h⟩,
  ⟨by kernel_rfl, by kernel_rfl, fun h => Bool.noConfusion h⟩,
  ⟨by kernel_rfl, by kernel_rfl, fun h => Bool.noConfusion h⟩,
  ⟨by kernel_rfl, by kernel_rfl, fun _ => ⟨by kernel_rfl, by kernel_rfl⟩⟩,
  ⟨by kernel_rfl, by kernel_rfl, fun _ => ⟨by kernel_rfl, by kernel_rfl⟩⟩,
  ⟨by kernel_rfl, by kernel_rfl, fun h => Bool.noConfusion h⟩,
  ⟨by kernel_rfl, by kernel_rfl, fun h => Bool.noConfusion h⟩,
  ⟨by kernel_rfl, by kernel_rfl, fun h => Bool.noConfusion h⟩,
  ⟨by kernel_rfl, by kernel_rfl, fun h => Bool.noConfusion h⟩,
  ⟨by kernel_rfl, by kernel_rfl, fun h => Bool.noConfusion h⟩,
  ⟨by kernel_rfl, by kernel_rfl, fun h => Bool.noConfusion h⟩,
  ⟨by kernel_rfl, by kernel_rfl, fun _ => ⟨by kernel_rfl, by kernel_rfl⟩⟩,
  ⟨by kernel_rfl, by kernel_rfl, fun _ => ⟨by kernel_rfl, by kernel_rfl⟩⟩,
  ⟨by kernel_rfl, by kernel_rfl, fun h => Bool.noConfusion h⟩,
  ⟨by kernel_rfl, by kernel_rfl, fun h => Bool.noConfusion h⟩,
  ⟨by kernel_rfl, by kernel_rfl, fun h => Bool.noConfusion h⟩, trivial⟩
instance : HasTT Tryd.prog := ⟨tt, ttok⟩
theorem mixed : Tryd.prog.follows .mixedOrders = true := by kernel_rfl
end Go.Proofs.YtfddmgagikeieaaDoor
