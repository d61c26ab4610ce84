/- Merged: Ty. -/
import Derived.Test.YtddmhilamoghcaaDoorZ12
import Derived.Test.YtddmhilamoghcaaDoorProg
/- What the types are, and which functions have a body: each by the kernel. Printed by ty.sh. -/
set_option linter.unusedVariables false
namespace Go.Proofs.YtddmhilamoghcaaDoor
theorem ty2 : tyOf Tryd.prog 2 = some ⟨1, false, .s (.int .i64 0), .int .i64⟩ := by kernel_rfl
theorem ty3 : tyOf Tryd.prog 3 = some ⟨1, false, .s (.int .i64 0), .int .i64⟩ := by kernel_rfl
theorem ty4 : tyOf Tryd.prog 4 = some ⟨1, false, .s (.bool false), .other⟩ := by kernel_rfl
theorem ty5 : tyOf Tryd.prog 5 = some ⟨1, false, .s (.int .u8 0), .int .u8⟩ := by kernel_rfl
theorem ty6 : tyOf Tryd.prog 6 = some ⟨1, false, .s (.int .u8 0), .int .u8⟩ := by kernel_rfl
theorem ty7 : tyOf Tryd.prog 7 = some ⟨4, true, .agg [.s (.int .i64 0), .s (.int .i64 0), .s (.bool false), .s (.int .u8 0)], .struct [(0, 1, some false), (1, 1, some false), (2, 1, some false), (3, 1, some false)]⟩ := by kernel_rfl
theorem ty8 : tyOf Tryd.prog 8 = some ⟨4, true, .agg [.s (.int .i64 0), .s (.int .i64 0), .s (.bool false), .s (.int .u8 0)], .struct [(0, 1, some false), (1, 1, some false), (2, 1, some false), (3, 1, some false)]⟩ := by kernel_rfl
theorem ty9 : tyOf Tryd.prog 9 = some ⟨1, false, .s (.string ⟨#[]⟩), .string⟩ := by kernel_rfl
theorem ty10 : tyOf Tryd.prog 10 = some ⟨1, false, .s (.string ⟨#[]⟩), .string⟩ := by kernel_rfl
theorem ty11 : tyOf Tryd.prog 11 = some ⟨1, false, .s (.string ⟨#[]⟩), .string⟩ := by kernel_rfl
theorem ty12 : tyOf Tryd.prog 12 = some ⟨1, false, .s (.int .u64 0), .int .u64⟩ := by kernel_rfl
theorem ty13 : tyOf Tryd.prog 13 = some ⟨2, true, .agg [.s (.string ⟨#[]⟩), .s (.int .u64 0)], .struct [(0, 1, some false), (1, 1, some false)]⟩ := by kernel_rfl
theorem ty14 : tyOf Tryd.prog 14 = some ⟨2, true, .agg [.s (.string ⟨#[]⟩), .s (.int .u64 0)], .struct [(0, 1, some false), (1, 1, some false)]⟩ := by kernel_rfl
theorem ty15 : tyOf Tryd.prog 15 = some ⟨1, false, .s (.pointer none), .other⟩ := by kernel_rfl
theorem ty16 : tyOf Tryd.prog 16 = some ⟨1, false, .s (.pointer none), .other⟩ := by kernel_rfl
theorem ty17 : tyOf Tryd.prog 17 = some ⟨1, false, .s (.pointer none), .other⟩ := by kernel_rfl
theorem ty18 : tyOf Tryd.prog 18 = some ⟨1, true, .agg [.s (.pointer none)], .struct [(0, 1, some false)]⟩ := by kernel_rfl
theorem ty19 : tyOf Tryd.prog 19 = some ⟨1, true, .agg [.s (.pointer none)], .struct [(0, 1, some false)]⟩ := by kernel_rfl
theorem ty20 : tyOf Tryd.prog 20 = some ⟨1, false, .s (.nilIface), .iface⟩ := by kernel_rfl
theorem ty21 : tyOf Tryd.prog 21 = some ⟨1, false, .s (.int .i32 0), .int .i32⟩ := by kernel_rfl
theorem ty22 : tyOf Tryd.prog 22 = some ⟨1, false, .s (.float .f64 0), .other⟩ := by kernel_rfl
theorem ty23 : tyOf Tryd.prog 23 = some ⟨1, false, .s (.slice none 0 0), .slice 25 5 64⟩ := by kernel_rfl
theorem ty24 : tyOf Tryd.prog 24 = some ⟨5, true, .agg [.s (.int .i64 0), .s (.int .i64 0), .s (.float .f64 0), .s (.string ⟨#[]⟩), .s (.slice none 0 0)], .struct [(0, 1, some false), (1, 1, some false), (2, 1, some false), (3, 1, some false), (4, 1, some false)]⟩ := by kernel_rfl
theorem ty25 : tyOf Tryd.prog 25 = some ⟨5, true, .agg [.s (.int .i64 0), .s (.int .i64 0), .s (.float .f64 0), .s (.string ⟨#[]⟩), .s (.slice none 0 0)], .struct [(0, 1, some false), (1, 1, some false), (2, 1, some false), (3, 1, some false), (4, 1, some false)]⟩ := by kernel_rfl
theorem ty26 : tyOf Tryd.prog 26 = some ⟨1, false, .s (.int .i64 0), .int .i64⟩ := by kernel_rfl
theorem ty36 : tyOf Tryd.prog 36 = some ⟨1, true, .agg [.s (.slice none 0 0)], .struct [(0, 1, some false)]⟩ := by kernel_rfl
theorem ty37 : tyOf Tryd.prog 37 = some ⟨1, true, .agg [.s (.slice none 0 0)], .struct [(0, 1, some false)]⟩ := by kernel_rfl
theorem ty41 : tyOf Tryd.prog 41 = some ⟨1, false, .s (.int .u64 0), .int .u64⟩ := by kernel_rfl
theorem ty50 : tyOf Tryd.prog 50 = some ⟨1, false, .s (.int .u64 0), .int .u64⟩ := by kernel_rfl
theorem ty51 : tyOf Tryd.prog 51 = some ⟨2, true, .agg [.s (.int .u8 0), .s (.int .u8 0)], .struct [(0, 1, some false), (1, 1, some false)]⟩ := by kernel_rfl
theorem ty52 : tyOf Tryd.prog 52 = some ⟨2, true, .agg [.s (.int .u8 0), .s (.int .u8 0)], .struct [(0, 1, some false), (1, 1, some false)]⟩ := by kernel_rfl
theorem ty53 : tyOf Tryd.prog 53 = some ⟨32, true, .agg [.s (.int .u8 0), .s (.int .u8 0), .s (.int .u8 0), .s (.int .u8 0), .s (.int .u8 0), .s (.int .u8 0), .s (.int .u8 0), .s (.int .u8 0), .s (.int .u8 0), .s (.int .u8 0), .s (.int .u8 0), .s (.int .u8 0), .s (.int .u8 0), .s (.int .u8 0), .s (.int .u8 0), .s (.int .u8 0), .s (.int .u8 0), .s (.int .u8 0), .s (.int .u8 0), .s (.int .u8 0), .s (.int .u8 0), .s (.int .u8 0), .s (.int .u8 0), .s (.int .u8 0), .s (.int .u8 0), .s (.int .u8 0), .s (.int .u8 0), .s (.int .u8 0), .s (.int .u8 0), .s (.int .u8 0), .s (.int .u8 0), .s (.int .u8 0)], .array 16 2 (some true)⟩ := by kernel_rfl
theorem ty55 : tyOf Tryd.prog 55 = some ⟨4, true, .agg [.s (.pointer none), .s (.pointer none), .s (.pointer none), .s (.string ⟨#[]⟩)], .struct [(0, 1, some false), (1, 1, some false), (2, 1, some false), (3, 1, some false)]⟩ := by kernel_rfl
theorem ty56 : tyOf Tryd.prog 56 = some ⟨4, true, .agg [.s (.pointer none), .s (.pointer none), .s (.pointer none), .s (.string ⟨#[]⟩)], .struct [(0, 1, some false), (1, 1, some false), (2, 1, some false), (3, 1, some false)]⟩ := by kernel_rfl
theorem ty61 : tyOf Tryd.prog 61 = some ⟨1, false, .s (.int .u32 0), .int .u32⟩ := by kernel_rfl
theorem ty62 : tyOf Tryd.prog 62 = some ⟨1, false, .s (.int .u8 0), .int .u8⟩ := by kernel_rfl
theorem ty63 : tyOf Tryd.prog 63 = some ⟨1, false, .s (.int .u8 0), .int .u8⟩ := by kernel_rfl
theorem ty65 : tyOf Tryd.prog 65 = some ⟨1, false, .s (.pointer none), .other⟩ := by kernel_rfl
theorem ty66 : tyOf Tryd.prog 66 = some ⟨1, false, .s (.int .i32 0), .int .i32⟩ := by kernel_rfl
theorem ty67 : tyOf Tryd.prog 67 = some ⟨1, false, .s (.int .i32 0), .int .i32⟩ := by kernel_rfl
theorem ty68 : tyOf Tryd.prog 68 = some ⟨11, true, .agg [.s (.int .u64 0), .s (.int .u64 0), .s (.int .u32 0), .s (.int .u8 0), .s (.int .u8 0), .s (.int .u8 0), .s (.int .u8 0), .s (.nilFunc), .s (.pointer none), .s (.int .i32 0), .s (.int .i32 0)], .struct [(0, 1, some false), (1, 1, some false), (2, 1, some false), (3, 1, some false), (4, 1, some false), (5, 1, some false), (6, 1, some false), (7, 1, some false), (8, 1, some false), (9, 1, some false), (10, 1, some false)]⟩ := by kernel_rfl
theorem ty69 : tyOf Tryd.prog 69 = some ⟨11, true, .agg [.s (.int .u64 0), .s (.int .u64 0), .s (.int .u32 0), .s (.int .u8 0), .s (.int .u8 0), .s (.int .u8 0), .s (.int .u8 0), .s (.nilFunc), .s (.pointer none), .s (.int .i32 0), .s (.int .i32 0)], .struct [(0, 1, some false), (1, 1, some false), (2, 1, some false), (3, 1, some false), (4, 1, some false), (5, 1, some false), (6, 1, some false), (7, 1, some false), (8, 1, some false), (9, 1, some false), (10, 1, some false)]⟩ := by kernel_rfl
theorem ty70 : tyOf Tryd.prog 70 = some ⟨1, false, .s (.pointer none), .other⟩ := by kernel_rfl
theorem hb0 : hasBody Tryd.prog 0 = false := by kernel_rfl
theorem hb1 : hasBody Tryd.prog 1 = false := by kernel_rfl
theorem hb2 : hasBody Tryd.prog 2 = true := by kernel_rfl
theorem hb3 : hasBody Tryd.prog 3 = true := by kernel_rfl
theorem hb4 : hasBody Tryd.prog 4 = true := by kernel_rfl
theorem hb5 : hasBody Tryd.prog 5 = true := by kernel_rfl
theorem hb6 : hasBody Tryd.prog 6 = true := by kernel_rfl
theorem hb7 : hasBody Tryd.prog 7 = true := by kernel_rfl
theorem hb8 : hasBody Tryd.prog 8 = true := by kernel_rfl
theorem hb9 : hasBody Tryd.prog 9 = true := by kernel_rfl
theorem hb10 : hasBody Tryd.prog 10 = true := by kernel_rfl
theorem hb11 : hasBody Tryd.prog 11 = true := by kernel_rfl
theorem hb12 : hasBody Tryd.prog 12 = true := by kernel_rfl
theorem hb13 : hasBody Tryd.prog 13 = true := by kernel_rfl
theorem hb14 : hasBody Tryd.prog 14 = true := by kernel_rfl
theorem hb15 : hasBody Tryd.prog 15 = true := by kernel_rfl
theorem hb16 : hasBody Tryd.prog 16 = true := by kernel_rfl
theorem hb17 : hasBody Tryd.prog 17 = true := by kernel_rfl
theorem hb18 : hasBody Tryd.prog 18 = true := by kernel_rfl
theorem hb19 : hasBody Tryd.prog 19 = true := by kernel_rfl
theorem hb20 : hasBody Tryd.prog 20 = true := by kernel_rfl
theorem hb21 : hasBody Tryd.prog 21 = true := by kernel_rfl
theorem hb22 : hasBody Tryd.prog 22 = true := by kernel_rfl
theorem hb23 : hasBody Tryd.prog 23 = true := by kernel_rfl
theorem hb24 : hasBody Tryd.prog 24 = true := by kernel_rfl
theorem hb25 : hasBody Tryd.prog 25 = true := by kernel_rfl
theorem hb26 : hasBody Tryd.prog 26 = true := by kernel_rfl
theorem hb27 : hasBody Tryd.prog 27 = false := by kernel_rfl
theorem hb28 : hasBody Tryd.prog 28 = true := by kernel_rfl
theorem hb29 : hasBody Tryd.prog 29 = true := by kernel_rfl
theorem hb30 : hasBody Tryd.prog 30 = true := by kernel_rfl
theorem hb31 : hasBody Tryd.prog 31 = true := by kernel_rfl
theorem hb32 : hasBody Tryd.prog 32 = true := by kernel_rfl
theorem hb33 : hasBody Tryd.prog 33 = true := by kernel_rfl
theorem hb34 : hasBody Tryd.prog 34 = true := by kernel_rfl
theorem hb35 : hasBody Tryd.prog 35 = true := by kernel_rfl
theorem hb36 : hasBody Tryd.prog 36 = true := by kernel_rfl
theorem hb37 : hasBody Tryd.prog 37 = false := by kernel_rfl
theorem hb38 : hasBody Tryd.prog 38 = true := by kernel_rfl
theorem hb39 : hasBody Tryd.prog 39 = true := by kernel_rfl
theorem hb40 : hasBody Tryd.prog 40 = true := by kernel_rfl
theorem hb41 : hasBody Tryd.prog 41 = false := by kernel_rfl
theorem hb42 : hasBody Tryd.prog 42 = false := by kernel_rfl
theorem hb43 : hasBody Tryd.prog 43 = false := by kernel_rfl
theorem hb44 : hasBody Tryd.prog 44 = false := by kernel_rfl
theorem hb45 : hasBody Tryd.prog 45 = false := by kernel_rfl
theorem hb46 : hasBody Tryd.prog 46 = false := by kernel_rfl
theorem hb47 : hasBody Tryd.prog 47 = false := by kernel_rfl
theorem hb48 : hasBody Tryd.prog 48 = false := by kernel_rfl
theorem hb49 : hasBody Tryd.prog 49 = false := by kernel_rfl
theorem hb50 : hasBody Tryd.prog 50 = false := by kernel_rfl
theorem hb51 : hasBody Tryd.prog 51 = false := by kernel_rfl
theorem hb52 : hasBody Tryd.prog 52 = false := by kernel_rfl
theorem hb53 : hasBody Tryd.prog 53 = false := by kernel_rfl
theorem hb54 : hasBody Tryd.prog 54 = false := by kernel_rfl
theorem hb55 : hasBody Tryd.prog 55 = false := by kernel_rfl
theorem hb56 : hasBody Tryd.prog 56 = false := by kernel_rfl
theorem hb57 : hasBody Tryd.prog 57 = false := by kernel_rfl
theorem hb58 : hasBody Tryd.prog 58 = false := by kernel_rfl
theorem hb59 : hasBody Tryd.prog 59 = false := by kernel_rfl
theorem hb60 : hasBody Tryd.prog 60 = false := by kernel_rfl
theorem hb61 : hasBody Tryd.prog 61 = true := by kernel_rfl
end Go.Proofs.YtddmhilamoghcaaDoor
