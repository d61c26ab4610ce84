/- Merged: Ty. -/
import Derived.Test.YtjodibncpbjegaaDoorZ15
import Derived.Test.YtjodibncpbjegaaDoorProg
/- What the types are, and which functions have a body: each by the kernel. Printed by ty.sh. -/
set_option linter.unusedVariables false
namespace Go.Proofs.YtjodibncpbjegaaDoor
theorem ty2 : tyOf Tryd.prog 2 = some ⟨1, false, .s (.int .i64 0), .int .i64⟩ := by kernel_rfl
theorem ty3 : tyOf Tryd.prog 3 = some ⟨1, false, .s (.int .i64 0), .int .i64⟩ := by kernel_rfl
theorem ty4 : tyOf Tryd.prog 4 = some ⟨1, false, .s (.bool false), .other⟩ := by kernel_rfl
theorem ty5 : tyOf Tryd.prog 5 = some ⟨1, false, .s (.int .u8 0), .int .u8⟩ := by kernel_rfl
theorem ty6 : tyOf Tryd.prog 6 = some ⟨1, false, .s (.int .u8 0), .int .u8⟩ := by kernel_rfl
theorem ty7 : tyOf Tryd.prog 7 = some ⟨4, true, .agg [.s (.int .i64 0), .s (.int .i64 0), .s (.bool false), .s (.int .u8 0)], .struct [(0, 1, some false), (1, 1, some false), (2, 1, some false), (3, 1, some false)]⟩ := by kernel_rfl
theorem ty8 : tyOf Tryd.prog 8 = some ⟨4, true, .agg [.s (.int .i64 0), .s (.int .i64 0), .s (.bool false), .s (.int .u8 0)], .struct [(0, 1, some false), (1, 1, some false), (2, 1, some false), (3, 1, some false)]⟩ := by kernel_rfl
theorem ty9 : tyOf Tryd.prog 9 = some ⟨1, false, .s (.string ⟨#[]⟩), .string⟩ := by kernel_rfl
theorem ty10 : tyOf Tryd.prog 10 = some ⟨1, false, .s (.string ⟨#[]⟩), .string⟩ := by kernel_rfl
theorem ty11 : tyOf Tryd.prog 11 = some ⟨1, false, .s (.string ⟨#[]⟩), .string⟩ := by kernel_rfl
theorem ty12 : tyOf Tryd.prog 12 = some ⟨1, false, .s (.int .u64 0), .int .u64⟩ := by kernel_rfl
theorem ty13 : tyOf Tryd.prog 13 = some ⟨2, true, .agg [.s (.string ⟨#[]⟩), .s (.int .u64 0)], .struct [(0, 1, some false), (1, 1, some false)]⟩ := by kernel_rfl
theorem ty14 : tyOf Tryd.prog 14 = some ⟨2, true, .agg [.s (.string ⟨#[]⟩), .s (.int .u64 0)], .struct [(0, 1, some false), (1, 1, some false)]⟩ := by kernel_rfl
theorem ty15 : tyOf Tryd.prog 15 = some ⟨1, false, .s (.pointer none), .other⟩ := by kernel_rfl
theorem ty16 : tyOf Tryd.prog 16 = some ⟨1, false, .s (.pointer none), .other⟩ := by kernel_rfl
theorem ty17 : tyOf Tryd.prog 17 = some ⟨1, false, .s (.pointer none), .other⟩ := by kernel_rfl
theorem ty18 : tyOf Tryd.prog 18 = some ⟨1, true, .agg [.s (.pointer none)], .struct [(0, 1, some false)]⟩ := by kernel_rfl
theorem ty19 : tyOf Tryd.prog 19 = some ⟨1, true, .agg [.s (.pointer none)], .struct [(0, 1, some false)]⟩ := by kernel_rfl
theorem ty20 : tyOf Tryd.prog 20 = some ⟨1, false, .s (.nilIface), .iface⟩ := by kernel_rfl
theorem ty21 : tyOf Tryd.prog 21 = some ⟨1, false, .s (.int .i32 0), .int .i32⟩ := by kernel_rfl
theorem ty22 : tyOf Tryd.prog 22 = some ⟨1, false, .s (.float .f64 0), .other⟩ := by kernel_rfl
theorem ty23 : tyOf Tryd.prog 23 = some ⟨1, false, .s (.int .i64 0), .int .i64⟩ := by kernel_rfl
theorem ty29 : tyOf Tryd.prog 29 = some ⟨1, false, .s (.int .u64 0), .int .u64⟩ := by kernel_rfl
theorem ty48 : tyOf Tryd.prog 48 = some ⟨1, false, .s (.int .u64 0), .int .u64⟩ := by kernel_rfl
theorem ty52 : tyOf Tryd.prog 52 = some ⟨1, false, .s (.pointer none), .other⟩ := by kernel_rfl
theorem ty53 : tyOf Tryd.prog 53 = some ⟨1, false, .s (.slice none 0 0), .slice 5 1 1⟩ := by kernel_rfl
theorem ty54 : tyOf Tryd.prog 54 = some ⟨2, true, .agg [.s (.pointer none), .s (.slice none 0 0)], .struct [(0, 1, some false), (1, 1, some false)]⟩ := by kernel_rfl
theorem ty55 : tyOf Tryd.prog 55 = some ⟨2, true, .agg [.s (.pointer none), .s (.slice none 0 0)], .struct [(0, 1, some false), (1, 1, some false)]⟩ := by kernel_rfl
theorem ty57 : tyOf Tryd.prog 57 = some ⟨1, false, .s (.nilIface), .iface⟩ := by kernel_rfl
theorem ty58 : tyOf Tryd.prog 58 = some ⟨1, false, .s (.nilIface), .iface⟩ := by kernel_rfl
theorem ty68 : tyOf Tryd.prog 68 = some ⟨1, false, .s (.slice none 0 0), .slice 29 1 8⟩ := by kernel_rfl
theorem ty71 : tyOf Tryd.prog 71 = some ⟨24, true, .agg [.s (.int .u8 0), .s (.int .u8 0), .s (.int .u8 0), .s (.int .u8 0), .s (.int .u8 0), .s (.int .u8 0), .s (.int .u8 0), .s (.int .u8 0), .s (.int .u8 0), .s (.int .u8 0), .s (.int .u8 0), .s (.int .u8 0), .s (.int .u8 0), .s (.int .u8 0), .s (.int .u8 0), .s (.int .u8 0), .s (.int .u8 0), .s (.int .u8 0), .s (.int .u8 0), .s (.int .u8 0), .s (.int .u8 0), .s (.int .u8 0), .s (.int .u8 0), .s (.int .u8 0)], .array 24 1 (some false)⟩ := by kernel_rfl
theorem ty76 : tyOf Tryd.prog 76 = some ⟨1, false, .s (.int .u32 0), .int .u32⟩ := by kernel_rfl
theorem ty81 : tyOf Tryd.prog 81 = some ⟨1, false, .s (.pointer none), .other⟩ := by kernel_rfl
theorem ty89 : tyOf Tryd.prog 89 = some ⟨20, true, .agg [.s (.int .u64 0), .s (.int .u64 0), .s (.int .u64 0), .s (.int .u64 0), .s (.int .u64 0), .s (.int .u64 0), .s (.int .u64 0), .s (.int .u64 0), .s (.int .u64 0), .s (.int .u64 0), .s (.int .u64 0), .s (.int .u64 0), .s (.int .u64 0), .s (.int .u64 0), .s (.int .u64 0), .s (.int .u64 0), .s (.int .u64 0), .s (.int .u64 0), .s (.int .u64 0), .s (.int .u64 0)], .array 20 1 (some false)⟩ := by kernel_rfl
theorem ty93 : tyOf Tryd.prog 93 = some ⟨1, false, .s (.pointer none), .other⟩ := by kernel_rfl
theorem ty96 : tyOf Tryd.prog 96 = some ⟨1, false, .s (.int .i64 0), .int .i64⟩ := by kernel_rfl
theorem ty98 : tyOf Tryd.prog 98 = some ⟨1, false, .s (.pointer none), .other⟩ := by kernel_rfl
theorem ty103 : tyOf Tryd.prog 103 = some ⟨3, true, .agg [.s (.string ⟨#[]⟩), .s (.string ⟨#[]⟩), .s (.nilIface)], .struct [(0, 1, some false), (1, 1, some false), (2, 1, some false)]⟩ := by kernel_rfl
theorem ty104 : tyOf Tryd.prog 104 = some ⟨3, true, .agg [.s (.string ⟨#[]⟩), .s (.string ⟨#[]⟩), .s (.nilIface)], .struct [(0, 1, some false), (1, 1, some false), (2, 1, some false)]⟩ := by kernel_rfl
theorem ty106 : tyOf Tryd.prog 106 = some ⟨32, true, .agg [.s (.int .u8 0), .s (.int .u8 0), .s (.int .u8 0), .s (.int .u8 0), .s (.int .u8 0), .s (.int .u8 0), .s (.int .u8 0), .s (.int .u8 0), .s (.int .u8 0), .s (.int .u8 0), .s (.int .u8 0), .s (.int .u8 0), .s (.int .u8 0), .s (.int .u8 0), .s (.int .u8 0), .s (.int .u8 0), .s (.int .u8 0), .s (.int .u8 0), .s (.int .u8 0), .s (.int .u8 0), .s (.int .u8 0), .s (.int .u8 0), .s (.int .u8 0), .s (.int .u8 0), .s (.int .u8 0), .s (.int .u8 0), .s (.int .u8 0), .s (.int .u8 0), .s (.int .u8 0), .s (.int .u8 0), .s (.int .u8 0), .s (.int .u8 0)], .array 32 1 (some false)⟩ := by kernel_rfl
theorem ty107 : tyOf Tryd.prog 107 = some ⟨64, true, .agg [.s (.int .u8 0), .s (.int .u8 0), .s (.int .u8 0), .s (.int .u8 0), .s (.int .u8 0), .s (.int .u8 0), .s (.int .u8 0), .s (.int .u8 0), .s (.int .u8 0), .s (.int .u8 0), .s (.int .u8 0), .s (.int .u8 0), .s (.int .u8 0), .s (.int .u8 0), .s (.int .u8 0), .s (.int .u8 0), .s (.int .u8 0), .s (.int .u8 0), .s (.int .u8 0), .s (.int .u8 0), .s (.int .u8 0), .s (.int .u8 0), .s (.int .u8 0), .s (.int .u8 0), .s (.int .u8 0), .s (.int .u8 0), .s (.int .u8 0), .s (.int .u8 0), .s (.int .u8 0), .s (.int .u8 0), .s (.int .u8 0), .s (.int .u8 0), .s (.int .u8 0), .s (.int .u8 0), .s (.int .u8 0), .s (.int .u8 0), .s (.int .u8 0), .s (.int .u8 0), .s (.int .u8 0), .s (.int .u8 0), .s (.int .u8 0), .s (.int .u8 0), .s (.int .u8 0), .s (.int .u8 0), .s (.int .u8 0), .s (.int .u8 0), .s (.int .u8 0), .s (.int .u8 0), .s (.int .u8 0), .s (.int .u8 0), .s (.int .u8 0), .s (.int .u8 0), .s (.int .u8 0), .s (.int .u8 0), .s (.int .u8 0), .s (.int .u8 0), .s (.int .u8 0), .s (.int .u8 0), .s (.int .u8 0), .s (.int .u8 0), .s (.int .u8 0), .s (.int .u8 0), .s (.int .u8 0), .s (.int .u8 0)], .array 64 1 (some false)⟩ := by kernel_rfl
theorem ty108 : tyOf Tryd.prog 108 = some ⟨1, false, .s (.pointer none), .other⟩ := by kernel_rfl
theorem ty109 : tyOf Tryd.prog 109 = some ⟨1, true, .agg [.s (.string ⟨#[]⟩)], .struct [(0, 1, some false)]⟩ := by kernel_rfl
theorem ty110 : tyOf Tryd.prog 110 = some ⟨1, true, .agg [.s (.string ⟨#[]⟩)], .struct [(0, 1, some false)]⟩ := by kernel_rfl
theorem ty111 : tyOf Tryd.prog 111 = some ⟨4, true, .agg [.s (.pointer none), .s (.pointer none), .s (.pointer none), .s (.string ⟨#[]⟩)], .struct [(0, 1, some false), (1, 1, some false), (2, 1, some false), (3, 1, some false)]⟩ := by kernel_rfl
theorem ty112 : tyOf Tryd.prog 112 = some ⟨4, true, .agg [.s (.pointer none), .s (.pointer none), .s (.pointer none), .s (.string ⟨#[]⟩)], .struct [(0, 1, some false), (1, 1, some false), (2, 1, some false), (3, 1, some false)]⟩ := by kernel_rfl
theorem ty116 : tyOf Tryd.prog 116 = some ⟨1, false, .s (.int .u8 0), .int .u8⟩ := by kernel_rfl
theorem ty117 : tyOf Tryd.prog 117 = some ⟨1, false, .s (.int .u8 0), .int .u8⟩ := by kernel_rfl
theorem ty119 : tyOf Tryd.prog 119 = some ⟨1, false, .s (.int .i32 0), .int .i32⟩ := by kernel_rfl
theorem ty120 : tyOf Tryd.prog 120 = some ⟨1, false, .s (.int .i32 0), .int .i32⟩ := by kernel_rfl
theorem ty121 : tyOf Tryd.prog 121 = some ⟨11, true, .agg [.s (.int .u64 0), .s (.int .u64 0), .s (.int .u32 0), .s (.int .u8 0), .s (.int .u8 0), .s (.int .u8 0), .s (.int .u8 0), .s (.nilFunc), .s (.pointer none), .s (.int .i32 0), .s (.int .i32 0)], .struct [(0, 1, some false), (1, 1, some false), (2, 1, some false), (3, 1, some false), (4, 1, some false), (5, 1, some false), (6, 1, some false), (7, 1, some false), (8, 1, some false), (9, 1, some false), (10, 1, some false)]⟩ := by kernel_rfl
theorem ty122 : tyOf Tryd.prog 122 = some ⟨11, true, .agg [.s (.int .u64 0), .s (.int .u64 0), .s (.int .u32 0), .s (.int .u8 0), .s (.int .u8 0), .s (.int .u8 0), .s (.int .u8 0), .s (.nilFunc), .s (.pointer none), .s (.int .i32 0), .s (.int .i32 0)], .struct [(0, 1, some false), (1, 1, some false), (2, 1, some false), (3, 1, some false), (4, 1, some false), (5, 1, some false), (6, 1, some false), (7, 1, some false), (8, 1, some false), (9, 1, some false), (10, 1, some false)]⟩ := by kernel_rfl
theorem hb0 : hasBody Tryd.prog 0 = false := by kernel_rfl
theorem hb1 : hasBody Tryd.prog 1 = false := by kernel_rfl
theorem hb2 : hasBody Tryd.prog 2 = true := by kernel_rfl
theorem hb3 : hasBody Tryd.prog 3 = true := by kernel_rfl
theorem hb4 : hasBody Tryd.prog 4 = true := by kernel_rfl
theorem hb5 : hasBody Tryd.prog 5 = true := by kernel_rfl
theorem hb6 : hasBody Tryd.prog 6 = true := by kernel_rfl
theorem hb7 : hasBody Tryd.prog 7 = true := by kernel_rfl
theorem hb8 : hasBody Tryd.prog 8 = true := by kernel_rfl
theorem hb9 : hasBody Tryd.prog 9 = true := by kernel_rfl
theorem hb10 : hasBody Tryd.prog 10 = true := by kernel_rfl
theorem hb11 : hasBody Tryd.prog 11 = true := by kernel_rfl
theorem hb12 : hasBody Tryd.prog 12 = true := by kernel_rfl
theorem hb13 : hasBody Tryd.prog 13 = true := by kernel_rfl
theorem hb14 : hasBody Tryd.prog 14 = true := by kernel_rfl
theorem hb15 : hasBody Tryd.prog 15 = true := by kernel_rfl
theorem hb16 : hasBody Tryd.prog 16 = true := by kernel_rfl
theorem hb17 : hasBody Tryd.prog 17 = true := by kernel_rfl
theorem hb18 : hasBody Tryd.prog 18 = true := by kernel_rfl
theorem hb19 : hasBody Tryd.prog 19 = true := by kernel_rfl
theorem hb20 : hasBody Tryd.prog 20 = true := by kernel_rfl
theorem hb21 : hasBody Tryd.prog 21 = true := by kernel_rfl
theorem hb22 : hasBody Tryd.prog 22 = true := by kernel_rfl
theorem hb23 : hasBody Tryd.prog 23 = true := by kernel_rfl
theorem hb24 : hasBody Tryd.prog 24 = true := by kernel_rfl
theorem hb25 : hasBody Tryd.prog 25 = true := by kernel_rfl
theorem hb26 : hasBody Tryd.prog 26 = true := by kernel_rfl
theorem hb27 : hasBody Tryd.prog 27 = true := by kernel_rfl
theorem hb28 : hasBody Tryd.prog 28 = true := by kernel_rfl
theorem hb29 : hasBody Tryd.prog 29 = true := by kernel_rfl
theorem hb30 : hasBody Tryd.prog 30 = false := by kernel_rfl
theorem hb31 : hasBody Tryd.prog 31 = true := by kernel_rfl
theorem hb32 : hasBody Tryd.prog 32 = true := by kernel_rfl
theorem hb33 : hasBody Tryd.prog 33 = true := by kernel_rfl
theorem hb34 : hasBody Tryd.prog 34 = true := by kernel_rfl
theorem hb35 : hasBody Tryd.prog 35 = true := by kernel_rfl
theorem hb36 : hasBody Tryd.prog 36 = true := by kernel_rfl
theorem hb37 : hasBody Tryd.prog 37 = false := by kernel_rfl
theorem hb38 : hasBody Tryd.prog 38 = true := by kernel_rfl
theorem hb39 : hasBody Tryd.prog 39 = true := by kernel_rfl
theorem hb40 : hasBody Tryd.prog 40 = true := by kernel_rfl
theorem hb41 : hasBody Tryd.prog 41 = true := by kernel_rfl
theorem hb42 : hasBody Tryd.prog 42 = false := by kernel_rfl
theorem hb43 : hasBody Tryd.prog 43 = true := by kernel_rfl
theorem hb44 : hasBody Tryd.prog 44 = true := by kernel_rfl
theorem hb45 : hasBody Tryd.prog 45 = true := by kernel_rfl
theorem hb46 : hasBody Tryd.prog 46 = true := by kernel_rfl
theorem hb47 : hasBody Tryd.prog 47 = true := by kernel_rfl
theorem hb48 : hasBody Tryd.prog 48 = true := by kernel_rfl
theorem hb49 : hasBody Tryd.prog 49 = true := by kernel_rfl
theorem hb50 : hasBody Tryd.prog 50 = true := by kernel_rfl
theorem hb51 : hasBody Tryd.prog 51 = true := by kernel_rfl
theorem hb52 : hasBody Tryd.prog 52 = false := by kernel_rfl
theorem hb53 : hasBody Tryd.prog 53 = true := by kernel_rfl
theorem hb54 : hasBody Tryd.prog 54 = true := by kernel_rfl
theorem hb55 : hasBody Tryd.prog 55 = true := by kernel_rfl
theorem hb56 : hasBody Tryd.prog 56 = true := by kernel_rfl
theorem hb57 : hasBody Tryd.prog 57 = true := by kernel_rfl
theorem hb58 : hasBody Tryd.prog 58 = true := by kernel_rfl
theorem hb59 : hasBody Tryd.prog 59 = true := by kernel_rfl
theorem hb60 : hasBody Tryd.prog 60 = true := by kernel_rfl
theorem hb61 : hasBody Tryd.prog 61 = true := by kernel_rfl
theorem hb62 : hasBody Tryd.prog 62 = true := by kernel_rfl
theorem hb63 : hasBody Tryd.prog 63 = true := by kernel_rfl
theorem hb64 : hasBody Tryd.prog 64 = true := by kernel_rfl
theorem hb65 : hasBody Tryd.prog 65 = true := by kernel_rfl
theorem hb66 : hasBody Tryd.prog 66 = true := by kernel_rfl
theorem hb67 : hasBody Tryd.prog 67 = true := by kernel_rfl
theorem hb68 : hasBody Tryd.prog 68 = true := by kernel_rfl
theorem hb69 : hasBody Tryd.prog 69 = true := by kernel_rfl
theorem hb70 : hasBody Tryd.prog 70 = true := by kernel_rfl
theorem hb71 : hasBody Tryd.prog 71 = true := by kernel_rfl
theorem hb72 : hasBody Tryd.prog 72 = true := by kernel_rfl
theorem hb73 : hasBody Tryd.prog 73 = true := by kernel_rfl
theorem hb74 : hasBody Tryd.prog 74 = true := by kernel_rfl
theorem hb75 : hasBody Tryd.prog 75 = true := by kernel_rfl
theorem hb76 : hasBody Tryd.prog 76 = true := by kernel_rfl
theorem hb77 : hasBody Tryd.prog 77 = true := by kernel_rfl
theorem hb78 : hasBody Tryd.prog 78 = true := by kernel_rfl
theorem hb79 : hasBody Tryd.prog 79 = false := by kernel_rfl
theorem hb80 : hasBody Tryd.prog 80 = false := by kernel_rfl
theorem hb81 : hasBody Tryd.prog 81 = true := by kernel_rfl
theorem hb82 : hasBody Tryd.prog 82 = true := by kernel_rfl
theorem hb83 : hasBody Tryd.prog 83 = true := by kernel_rfl
theorem hb84 : hasBody Tryd.prog 84 = true := by kernel_rfl
theorem hb85 : hasBody Tryd.prog 85 = true := by kernel_rfl
theorem hb86 : hasBody Tryd.prog 86 = true := by kernel_rfl
theorem hb87 : hasBody Tryd.prog 87 = true := by kernel_rfl
theorem hb88 : hasBody Tryd.prog 88 = true := by kernel_rfl
theorem hb89 : hasBody Tryd.prog 89 = true := by kernel_rfl
theorem hb90 : hasBody Tryd.prog 90 = true := by kernel_rfl
theorem hb91 : hasBody Tryd.prog 91 = true := by kernel_rfl
theorem hb92 : hasBody Tryd.prog 92 = true := by kernel_rfl
theorem hb93 : hasBody Tryd.prog 93 = false := by kernel_rfl
theorem hb94 : hasBody Tryd.prog 94 = false := by kernel_rfl
theorem hb95 : hasBody Tryd.prog 95 = false := by kernel_rfl
theorem hb96 : hasBody Tryd.prog 96 = false := by kernel_rfl
theorem hb97 : hasBody Tryd.prog 97 = false := by kernel_rfl
theorem hb98 : hasBody Tryd.prog 98 = false := by kernel_rfl
theorem hb99 : hasBody Tryd.prog 99 = false := by kernel_rfl
theorem hb100 : hasBody Tryd.prog 100 = false := by kernel_rfl
theorem hb101 : hasBody Tryd.prog 101 = false := by kernel_rfl
theorem hb102 : hasBody Tryd.prog 102 = false := by kernel_rfl
theorem hb103 : hasBody Tryd.prog 103 = false := by kernel_rfl
theorem hb104 : hasBody Tryd.prog 104 = false := by kernel_rfl
theorem hb105 : hasBody Tryd.prog 105 = false := by kernel_rfl
theorem hb106 : hasBody Tryd.prog 106 = false := by kernel_rfl
theorem hb107 : hasBody Tryd.prog 107 = false := by kernel_rfl
theorem hb108 : hasBody Tryd.prog 108 = false := by kernel_rfl
theorem hb109 : hasBody Tryd.prog 109 = false := by kernel_rfl
theorem hb110 : hasBody Tryd.prog 110 = false := by kernel_rfl
theorem hb111 : hasBody Tryd.prog 111 = false := by kernel_rfl
theorem hb112 : hasBody Tryd.prog 112 = false := by kernel_rfl
theorem hb113 : hasBody Tryd.prog 113 = false := by kernel_rfl
theorem hb114 : hasBody Tryd.prog 114 = false := by kernel_rfl
theorem hb115 : hasBody Tryd.prog 115 = false := by kernel_rfl
theorem hb116 : hasBody Tryd.prog 116 = false := by kernel_rfl
theorem hb117 : hasBody Tryd.prog 117 = false := by kernel_rfl
theorem hb118 : hasBody Tryd.prog 118 = false := by kernel_rfl
theorem hb119 : hasBody Tryd.prog 119 = false := by kernel_rfl
theorem hb120 : hasBody Tryd.prog 120 = true := by kernel_rfl
end Go.Proofs.YtjodibncpbjegaaDoor
