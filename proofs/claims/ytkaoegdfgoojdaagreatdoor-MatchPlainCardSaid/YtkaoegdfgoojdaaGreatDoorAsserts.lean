/- What a type assertion answers at each of the nine kinds of node. Printed by wip/asserts.py. -/
import Derived.Test.YtkaoegdfgoojdaaGreatDoorHeap2
import Derived.Test.YtkaoegdfgoojdaaGreatDoorRows
namespace Go.Proofs.YtkaoegdfgoojdaaGreatDoor
open Go

@[go_sem] theorem as_Empty_Empty (v : Value) (w : World) : (Instr.typeAssert (.iface 92 v) 52 92 true).run Tryz.prog w = .ok (.tuple #[v, .bool true]) w := by kernel_rfl
@[go_sem] theorem as_Empty_One (v : Value) (w : World) : (Instr.typeAssert (.iface 92 v) 52 79 true).run Tryz.prog w = .ok (.tuple #[(.agg #[.int .u64 0, .int .u64 0, .int .u64 0, .int .u64 0]), .bool false]) w := by kernel_rfl
@[go_sem] theorem as_Empty_Cat (v : Value) (w : World) : (Instr.typeAssert (.iface 92 v) 52 81 true).run Tryz.prog w = .ok (.tuple #[(.agg #[.slice none 0 0]), .bool false]) w := by kernel_rfl
@[go_sem] theorem as_Empty_Alt (v : Value) (w : World) : (Instr.typeAssert (.iface 92 v) 52 82 true).run Tryz.prog w = .ok (.tuple #[(.agg #[.slice none 0 0]), .bool false]) w := by kernel_rfl
@[go_sem] theorem as_Empty_Rep (v : Value) (w : World) : (Instr.typeAssert (.iface 92 v) 52 84 true).run Tryz.prog w = .ok (.tuple #[(.agg #[.nilIface, .int .i64 0, .int .i64 0]), .bool false]) w := by kernel_rfl
@[go_sem] theorem as_Empty_Group (v : Value) (w : World) : (Instr.typeAssert (.iface 92 v) 52 86 true).run Tryz.prog w = .ok (.tuple #[(.agg #[.int .i64 0, .nilIface]), .bool false]) w := by kernel_rfl
@[go_sem] theorem as_Empty_Back (v : Value) (w : World) : (Instr.typeAssert (.iface 92 v) 52 88 true).run Tryz.prog w = .ok (.tuple #[(.agg #[.int .i64 0]), .bool false]) w := by kernel_rfl
@[go_sem] theorem as_Empty_Start (v : Value) (w : World) : (Instr.typeAssert (.iface 92 v) 52 90 true).run Tryz.prog w = .ok (.tuple #[(.agg #[]), .bool false]) w := by kernel_rfl
@[go_sem] theorem as_Empty_End (v : Value) (w : World) : (Instr.typeAssert (.iface 92 v) 52 91 true).run Tryz.prog w = .ok (.tuple #[(.agg #[]), .bool false]) w := by kernel_rfl
@[go_sem] theorem as_One_Empty (v : Value) (w : World) : (Instr.typeAssert (.iface 79 v) 52 92 true).run Tryz.prog w = .ok (.tuple #[(.agg #[]), .bool false]) w := by kernel_rfl
@[go_sem] theorem as_One_One (v : Value) (w : World) : (Instr.typeAssert (.iface 79 v) 52 79 true).run Tryz.prog w = .ok (.tuple #[v, .bool true]) w := by kernel_rfl
@[go_sem] theorem as_One_Cat (v : Value) (w : World) : (Instr.typeAssert (.iface 79 v) 52 81 true).run Tryz.prog w = .ok (.tuple #[(.agg #[.slice none 0 0]), .bool false]) w := by kernel_rfl
@[go_sem] theorem as_One_Alt (v : Value) (w : World) : (Instr.typeAssert (.iface 79 v) 52 82 true).run Tryz.prog w = .ok (.tuple #[(.agg #[.slice none 0 0]), .bool false]) w := by kernel_rfl
@[go_sem] theorem as_One_Rep (v : Value) (w : World) : (Instr.typeAssert (.iface 79 v) 52 84 true).run Tryz.prog w = .ok (.tuple #[(.agg #[.nilIface, .int .i64 0, .int .i64 0]), .bool false]) w := by kernel_rfl
@[go_sem] theorem as_One_Group (v : Value) (w : World) : (Instr.typeAssert (.iface 79 v) 52 86 true).run Tryz.prog w = .ok (.tuple #[(.agg #[.int .i64 0, .nilIface]), .bool false]) w := by kernel_rfl
@[go_sem] theorem as_One_Back (v : Value) (w : World) : (Instr.typeAssert (.iface 79 v) 52 88 true).run Tryz.prog w = .ok (.tuple #[(.agg #[.int .i64 0]), .bool false]) w := by kernel_rfl
@[go_sem] theorem as_One_Start (v : Value) (w : World) : (Instr.typeAssert (.iface 79 v) 52 90 true).run Tryz.prog w = .ok (.tuple #[(.agg #[]), .bool false]) w := by kernel_rfl
@[go_sem] theorem as_One_End (v : Value) (w : World) : (Instr.typeAssert (.iface 79 v) 52 91 true).run Tryz.prog w = .ok (.tuple #[(.agg #[]), .bool false]) w := by kernel_rfl
@[go_sem] theorem as_Cat_Empty (v : Value) (w : World) : (Instr.typeAssert (.iface 81 v) 52 92 true).run Tryz.prog w = .ok (.tuple #[(.agg #[]), .bool false]) w := by kernel_rfl
@[go_sem] theorem as_Cat_One (v : Value) (w : World) : (Instr.typeAssert (.iface 81 v) 52 79 true).run Tryz.prog w = .ok (.tuple #[(.agg #[.int .u64 0, .int .u64 0, .int .u64 0, .int .u64 0]), .bool false]) w := by kernel_rfl
@[go_sem] theorem as_Cat_Cat (v : Value) (w : World) : (Instr.typeAssert (.iface 81 v) 52 81 true).run Tryz.prog w = .ok (.tuple #[v, .bool true]) w := by kernel_rfl
@[go_sem] theorem as_Cat_Alt (v : Value) (w : World) : (Instr.typeAssert (.iface 81 v) 52 82 true).run Tryz.prog w = .ok (.tuple #[(.agg #[.slice none 0 0]), .bool false]) w := by kernel_rfl
@[go_sem] theorem as_Cat_Rep (v : Value) (w : World) : (Instr.typeAssert (.iface 81 v) 52 84 true).run Tryz.prog w = .ok (.tuple #[(.agg #[.nilIface, .int .i64 0, .int .i64 0]), .bool false]) w := by kernel_rfl
@[go_sem] theorem as_Cat_Group (v : Value) (w : World) : (Instr.typeAssert (.iface 81 v) 52 86 true).run Tryz.prog w = .ok (.tuple #[(.agg #[.int .i64 0, .nilIface]), .bool false]) w := by kernel_rfl
@[go_sem] theorem as_Cat_Back (v : Value) (w : World) : (Instr.typeAssert (.iface 81 v) 52 88 true).run Tryz.prog w = .ok (.tuple #[(.agg #[.int .i64 0]), .bool false]) w := by kernel_rfl
@[go_sem] theorem as_Cat_Start (v : Value) (w : World) : (Instr.typeAssert (.iface 81 v) 52 90 true).run Tryz.prog w = .ok (.tuple #[(.agg #[]), .bool false]) w := by kernel_rfl
@[go_sem] theorem as_Cat_End (v : Value) (w : World) : (Instr.typeAssert (.iface 81 v) 52 91 true).run Tryz.prog w = .ok (.tuple #[(.agg #[]), .bool false]) w := by kernel_rfl
@[go_sem] theorem as_Alt_Empty (v : Value) (w : World) : (Instr.typeAssert (.iface 82 v) 52 92 true).run Tryz.prog w = .ok (.tuple #[(.agg #[]), .bool false]) w := by kernel_rfl
@[go_sem] theorem as_Alt_One (v : Value) (w : World) : (Instr.typeAssert (.iface 82 v) 52 79 true).run Tryz.prog w = .ok (.tuple #[(.agg #[.int .u64 0, .int .u64 0, .int .u64 0, .int .u64 0]), .bool false]) w := by kernel_rfl
@[go_sem] theorem as_Alt_Cat (v : Value) (w : World) : (Instr.typeAssert (.iface 82 v) 52 81 true).run Tryz.prog w = .ok (.tuple #[(.agg #[.slice none 0 0]), .bool false]) w := by kernel_rfl
@[go_sem] theorem as_Alt_Alt (v : Value) (w : World) : (Instr.typeAssert (.iface 82 v) 52 82 true).run Tryz.prog w = .ok (.tuple #[v, .bool true]) w := by kernel_rfl
@[go_sem] theorem as_Alt_Rep (v : Value) (w : World) : (Instr.typeAssert (.iface 82 v) 52 84 true).run Tryz.prog w = .ok (.tuple #[(.agg #[.nilIface, .int .i64 0, .int .i64 0]), .bool false]) w := by kernel_rfl
@[go_sem] theorem as_Alt_Group (v : Value) (w : World) : (Instr.typeAssert (.iface 82 v) 52 86 true).run Tryz.prog w = .ok (.tuple #[(.agg #[.int .i64 0, .nilIface]), .bool false]) w := by kernel_rfl
@[go_sem] theorem as_Alt_Back (v : Value) (w : World) : (Instr.typeAssert (.iface 82 v) 52 88 true).run Tryz.prog w = .ok (.tuple #[(.agg #[.int .i64 0]), .bool false]) w := by kernel_rfl
@[go_sem] theorem as_Alt_Start (v : Value) (w : World) : (Instr.typeAssert (.iface 82 v) 52 90 true).run Tryz.prog w = .ok (.tuple #[(.agg #[]), .bool false]) w := by kernel_rfl
@[go_sem] theorem as_Alt_End (v : Value) (w : World) : (Instr.typeAssert (.iface 82 v) 52 91 true).run Tryz.prog w = .ok (.tuple #[(.agg #[]), .bool false]) w := by kernel_rfl
@[go_sem] theorem as_Rep_Empty (v : Value) (w : World) : (Instr.typeAssert (.iface 84 v) 52 92 true).run Tryz.prog w = .ok (.tuple #[(.agg #[]), .bool false]) w := by kernel_rfl
@[go_sem] theorem as_Rep_One (v : Value) (w : World) : (Instr.typeAssert (.iface 84 v) 52 79 true).run Tryz.prog w = .ok (.tuple #[(.agg #[.int .u64 0, .int .u64 0, .int .u64 0, .int .u64 0]), .bool false]) w := by kernel_rfl
@[go_sem] theorem as_Rep_Cat (v : Value) (w : World) : (Instr.typeAssert (.iface 84 v) 52 81 true).run Tryz.prog w = .ok (.tuple #[(.agg #[.slice none 0 0]), .bool false]) w := by kernel_rfl
@[go_sem] theorem as_Rep_Alt (v : Value) (w : World) : (Instr.typeAssert (.iface 84 v) 52 82 true).run Tryz.prog w = .ok (.tuple #[(.agg #[.slice none 0 0]), .bool false]) w := by kernel_rfl
@[go_sem] theorem as_Rep_Rep (v : Value) (w : World) : (Instr.typeAssert (.iface 84 v) 52 84 true).run Tryz.prog w = .ok (.tuple #[v, .bool true]) w := by kernel_rfl
@[go_sem] theorem as_Rep_Group (v : Value) (w : World) : (Instr.typeAssert (.iface 84 v) 52 86 true).run Tryz.prog w = .ok (.tuple #[(.agg #[.int .i64 0, .nilIface]), .bool false]) w := by kernel_rfl
@[go_sem] theorem as_Rep_Back (v : Value) (w : World) : (Instr.typeAssert (.iface 84 v) 52 88 true).run Tryz.prog w = .ok (.tuple #[(.agg #[.int .i64 0]), .bool false]) w := by kernel_rfl
@[go_sem] theorem as_Rep_Start (v : Value) (w : World) : (Instr.typeAssert (.iface 84 v) 52 90 true).run Tryz.prog w = .ok (.tuple #[(.agg #[]), .bool false]) w := by kernel_rfl
@[go_sem] theorem as_Rep_End (v : Value) (w : World) : (Instr.typeAssert (.iface 84 v) 52 91 true).run Tryz.prog w = .ok (.tuple #[(.agg #[]), .bool false]) w := by kernel_rfl
@[go_sem] theorem as_Group_Empty (v : Value) (w : World) : (Instr.typeAssert (.iface 86 v) 52 92 true).run Tryz.prog w = .ok (.tuple #[(.agg #[]), .bool false]) w := by kernel_rfl
@[go_sem] theorem as_Group_One (v : Value) (w : World) : (Instr.typeAssert (.iface 86 v) 52 79 true).run Tryz.prog w = .ok (.tuple #[(.agg #[.int .u64 0, .int .u64 0, .int .u64 0, .int .u64 0]), .bool false]) w := by kernel_rfl
@[go_sem] theorem as_Group_Cat (v : Value) (w : World) : (Instr.typeAssert (.iface 86 v) 52 81 true).run Tryz.prog w = .ok (.tuple #[(.agg #[.slice none 0 0]), .bool false]) w := by kernel_rfl
@[go_sem] theorem as_Group_Alt (v : Value) (w : World) : (Instr.typeAssert (.iface 86 v) 52 82 true).run Tryz.prog w = .ok (.tuple #[(.agg #[.slice none 0 0]), .bool false]) w := by kernel_rfl
@[go_sem] theorem as_Group_Rep (v : Value) (w : World) : (Instr.typeAssert (.iface 86 v) 52 84 true).run Tryz.prog w = .ok (.tuple #[(.agg #[.nilIface, .int .i64 0, .int .i64 0]), .bool false]) w := by kernel_rfl
@[go_sem] theorem as_Group_Group (v : Value) (w : World) : (Instr.typeAssert (.iface 86 v) 52 86 true).run Tryz.prog w = .ok (.tuple #[v, .bool true]) w := by kernel_rfl
@[go_sem] theorem as_Group_Back (v : Value) (w : World) : (Instr.typeAssert (.iface 86 v) 52 88 true).run Tryz.prog w = .ok (.tuple #[(.agg #[.int .i64 0]), .bool false]) w := by kernel_rfl
@[go_sem] theorem as_Group_Start (v : Value) (w : World) : (Instr.typeAssert (.iface 86 v) 52 90 true).run Tryz.prog w = .ok (.tuple #[(.agg #[]), .bool false]) w := by kernel_rfl
@[go_sem] theorem as_Group_End (v : Value) (w : World) : (Instr.typeAssert (.iface 86 v) 52 91 true).run Tryz.prog w = .ok (.tuple #[(.agg #[]), .bool false]) w := by kernel_rfl
@[go_sem] theorem as_Back_Empty (v : Value) (w : World) : (Instr.typeAssert (.iface 88 v) 52 92 true).run Tryz.prog w = .ok (.tuple #[(.agg #[]), .bool false]) w := by kernel_rfl
@[go_sem] theorem as_Back_One (v : Value) (w : World) : (Instr.typeAssert (.iface 88 v) 52 79 true).run Tryz.prog w = .ok (.tuple #[(.agg #[.int .u64 0, .int .u64 0, .int .u64 0, .int .u64 0]), .bool false]) w := by kernel_rfl
@[go_sem] theorem as_Back_Cat (v : Value) (w : World) : (Instr.typeAssert (.iface 88 v) 52 81 true).run Tryz.prog w = .ok (.tuple #[(.agg #[.slice none 0 0]), .bool false]) w := by kernel_rfl
@[go_sem] theorem as_Back_Alt (v : Value) (w : World) : (Instr.typeAssert (.iface 88 v) 52 82 true).run Tryz.prog w = .ok (.tuple #[(.agg #[.slice none 0 0]), .bool false]) w := by kernel_rfl
@[go_sem] theorem as_Back_Rep (v : Value) (w : World) : (Instr.typeAssert (.iface 88 v) 52 84 true).run Tryz.prog w = .ok (.tuple #[(.agg #[.nilIface, .int .i64 0, .int .i64 0]), .bool false]) w := by kernel_rfl
@[go_sem] theorem as_Back_Group (v : Value) (w : World) : (Instr.typeAssert (.iface 88 v) 52 86 true).run Tryz.prog w = .ok (.tuple #[(.agg #[.int .i64 0, .nilIface]), .bool false]) w := by kernel_rfl
@[go_sem] theorem as_Back_Back (v : Value) (w : World) : (Instr.typeAssert (.iface 88 v) 52 88 true).run Tryz.prog w = .ok (.tuple #[v, .bool true]) w := by kernel_rfl
@[go_sem] theorem as_Back_Start (v : Value) (w : World) : (Instr.typeAssert (.iface 88 v) 52 90 true).run Tryz.prog w = .ok (.tuple #[(.agg #[]), .bool false]) w := by kernel_rfl
@[go_sem] theorem as_Back_End (v : Value) (w : World) : (Instr.typeAssert (.iface 88 v) 52 91 true).run Tryz.prog w = .ok (.tuple #[(.agg #[]), .bool false]) w := by kernel_rfl
@[go_sem] theorem as_Start_Empty (v : Value) (w : World) : (Instr.typeAssert (.iface 90 v) 52 92 true).run Tryz.prog w = .ok (.tuple #[(.agg #[]), .bool false]) w := by kernel_rfl
@[go_sem] theorem as_Start_One (v : Value) (w : World) : (Instr.typeAssert (.iface 90 v) 52 79 true).run Tryz.prog w = .ok (.tuple #[(.agg #[.int .u64 0, .int .u64 0, .int .u64 0, .int .u64 0]), .bool false]) w := by kernel_rfl
@[go_sem] theorem as_Start_Cat (v : Value) (w : World) : (Instr.typeAssert (.iface 90 v) 52 81 true).run Tryz.prog w = .ok (.tuple #[(.agg #[.slice none 0 0]), .bool false]) w := by kernel_rfl
@[go_sem] theorem as_Start_Alt (v : Value) (w : World) : (Instr.typeAssert (.iface 90 v) 52 82 true).run Tryz.prog w = .ok (.tuple #[(.agg #[.slice none 0 0]), .bool false]) w := by kernel_rfl
@[go_sem] theorem as_Start_Rep (v : Value) (w : World) : (Instr.typeAssert (.iface 90 v) 52 84 true).run Tryz.prog w = .ok (.tuple #[(.agg #[.nilIface, .int .i64 0, .int .i64 0]), .bool false]) w := by kernel_rfl
@[go_sem] theorem as_Start_Group (v : Value) (w : World) : (Instr.typeAssert (.iface 90 v) 52 86 true).run Tryz.prog w = .ok (.tuple #[(.agg #[.int .i64 0, .nilIface]), .bool false]) w := by kernel_rfl
@[go_sem] theorem as_Start_Back (v : Value) (w : World) : (Instr.typeAssert (.iface 90 v) 52 88 true).run Tryz.prog w = .ok (.tuple #[(.agg #[.int .i64 0]), .bool false]) w := by kernel_rfl
@[go_sem] theorem as_Start_Start (v : Value) (w : World) : (Instr.typeAssert (.iface 90 v) 52 90 true).run Tryz.prog w = .ok (.tuple #[v, .bool true]) w := by kernel_rfl
@[go_sem] theorem as_Start_End (v : Value) (w : World) : (Instr.typeAssert (.iface 90 v) 52 91 true).run Tryz.prog w = .ok (.tuple #[(.agg #[]), .bool false]) w := by kernel_rfl
@[go_sem] theorem as_End_Empty (v : Value) (w : World) : (Instr.typeAssert (.iface 91 v) 52 92 true).run Tryz.prog w = .ok (.tuple #[(.agg #[]), .bool false]) w := by kernel_rfl
@[go_sem] theorem as_End_One (v : Value) (w : World) : (Instr.typeAssert (.iface 91 v) 52 79 true).run Tryz.prog w = .ok (.tuple #[(.agg #[.int .u64 0, .int .u64 0, .int .u64 0, .int .u64 0]), .bool false]) w := by kernel_rfl
@[go_sem] theorem as_End_Cat (v : Value) (w : World) : (Instr.typeAssert (.iface 91 v) 52 81 true).run Tryz.prog w = .ok (.tuple #[(.agg #[.slice none 0 0]), .bool false]) w := by kernel_rfl
@[go_sem] theorem as_End_Alt (v : Value) (w : World) : (Instr.typeAssert (.iface 91 v) 52 82 true).run Tryz.prog w = .ok (.tuple #[(.agg #[.slice none 0 0]), .bool false]) w := by kernel_rfl
@[go_sem] theorem as_End_Rep (v : Value) (w : World) : (Instr.typeAssert (.iface 91 v) 52 84 true).run Tryz.prog w = .ok (.tuple #[(.agg #[.nilIface, .int .i64 0, .int .i64 0]), .bool false]) w := by kernel_rfl
@[go_sem] theorem as_End_Group (v : Value) (w : World) : (Instr.typeAssert (.iface 91 v) 52 86 true).run Tryz.prog w = .ok (.tuple #[(.agg #[.int .i64 0, .nilIface]), .bool false]) w := by kernel_rfl
@[go_sem] theorem as_End_Back (v : Value) (w : World) : (Instr.typeAssert (.iface 91 v) 52 88 true).run Tryz.prog w = .ok (.tuple #[(.agg #[.int .i64 0]), .bool false]) w := by kernel_rfl
@[go_sem] theorem as_End_Start (v : Value) (w : World) : (Instr.typeAssert (.iface 91 v) 52 90 true).run Tryz.prog w = .ok (.tuple #[(.agg #[]), .bool false]) w := by kernel_rfl
@[go_sem] theorem as_End_End (v : Value) (w : World) : (Instr.typeAssert (.iface 91 v) 52 91 true).run Tryz.prog w = .ok (.tuple #[v, .bool true]) w := by kernel_rfl
end Go.Proofs.YtkaoegdfgoojdaaGreatDoor
