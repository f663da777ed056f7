import Derived.Test.YtkfkdmefabefkaaAlEnter
import Derived.Test.YtkfkdmefabefkaaProg
namespace Go.AL
open Go Go.RowKit
@[go_sem] theorem ti1 : tinfo Go.Proofs.Try.prog 1 = some ⟨.func, 1, 8, .v .nilFunc⟩ := by kernel_rfl
@[go_sem] theorem ti2 : tinfo Go.Proofs.Try.prog 2 = some ⟨.int .i64, 1, 8, .v (.int .i64 0)⟩ := by kernel_rfl
@[go_sem] theorem ti3 : tinfo Go.Proofs.Try.prog 3 = some ⟨.int .i64, 1, 8, .v (.int .i64 0)⟩ := by kernel_rfl
@[go_sem] theorem ti4 : tinfo Go.Proofs.Try.prog 4 = some ⟨.bool, 1, 1, .v (.bool false)⟩ := by kernel_rfl
@[go_sem] theorem ti5 : tinfo Go.Proofs.Try.prog 5 = some ⟨.int .u8, 1, 1, .v (.int .u8 0)⟩ := by kernel_rfl
@[go_sem] theorem ti6 : tinfo Go.Proofs.Try.prog 6 = some ⟨.int .u8, 1, 1, .v (.int .u8 0)⟩ := by kernel_rfl
@[go_sem] theorem ti7 : tinfo Go.Proofs.Try.prog 7 = some ⟨.struct [(0, 2), (1, 3), (2, 4), (3, 6)], 4, 24, .agg [.v (.int .i64 0), .v (.int .i64 0), .v (.bool false), .v (.int .u8 0)]⟩ := by kernel_rfl
@[go_sem] theorem ti8 : tinfo Go.Proofs.Try.prog 8 = some ⟨.struct [(0, 2), (1, 3), (2, 4), (3, 6)], 4, 24, .agg [.v (.int .i64 0), .v (.int .i64 0), .v (.bool false), .v (.int .u8 0)]⟩ := by kernel_rfl
@[go_sem] theorem ti9 : tinfo Go.Proofs.Try.prog 9 = some ⟨.str, 1, 16, .v (.string ⟨#[]⟩)⟩ := by kernel_rfl
@[go_sem] theorem ti10 : tinfo Go.Proofs.Try.prog 10 = some ⟨.str, 1, 16, .v (.string ⟨#[]⟩)⟩ := by kernel_rfl
@[go_sem] theorem ti11 : tinfo Go.Proofs.Try.prog 11 = some ⟨.str, 1, 16, .v (.string ⟨#[]⟩)⟩ := by kernel_rfl
@[go_sem] theorem ti12 : tinfo Go.Proofs.Try.prog 12 = some ⟨.int .u64, 1, 8, .v (.int .u64 0)⟩ := by kernel_rfl
@[go_sem] theorem ti13 : tinfo Go.Proofs.Try.prog 13 = some ⟨.struct [(0, 9), (1, 12)], 2, 24, .agg [.v (.string ⟨#[]⟩), .v (.int .u64 0)]⟩ := by kernel_rfl
@[go_sem] theorem ti14 : tinfo Go.Proofs.Try.prog 14 = some ⟨.struct [(0, 9), (1, 12)], 2, 24, .agg [.v (.string ⟨#[]⟩), .v (.int .u64 0)]⟩ := by kernel_rfl
@[go_sem] theorem ti15 : tinfo Go.Proofs.Try.prog 15 = some ⟨.ptr 130, 1, 8, .v (.pointer none)⟩ := by kernel_rfl
@[go_sem] theorem ti16 : tinfo Go.Proofs.Try.prog 16 = some ⟨.ptr 133, 1, 8, .v (.pointer none)⟩ := by kernel_rfl
@[go_sem] theorem ti17 : tinfo Go.Proofs.Try.prog 17 = some ⟨.ptr 143, 1, 8, .v (.pointer none)⟩ := by kernel_rfl
@[go_sem] theorem ti18 : tinfo Go.Proofs.Try.prog 18 = some ⟨.struct [(0, 17)], 1, 8, .agg [.v (.pointer none)]⟩ := by kernel_rfl
@[go_sem] theorem ti19 : tinfo Go.Proofs.Try.prog 19 = some ⟨.struct [(0, 17)], 1, 8, .agg [.v (.pointer none)]⟩ := by kernel_rfl
@[go_sem] theorem ti21 : tinfo Go.Proofs.Try.prog 21 = some ⟨.int .i32, 1, 4, .v (.int .i32 0)⟩ := by kernel_rfl
@[go_sem] theorem ti22 : tinfo Go.Proofs.Try.prog 22 = some ⟨.slice 25, 1, 24, .v (.slice none 0 0)⟩ := by kernel_rfl
@[go_sem] theorem ti23 : tinfo Go.Proofs.Try.prog 23 = some ⟨.func, 1, 8, .v .nilFunc⟩ := by kernel_rfl
@[go_sem] theorem ti24 : tinfo Go.Proofs.Try.prog 24 = some ⟨.func, 1, 8, .v .nilFunc⟩ := by kernel_rfl
@[go_sem] theorem ti25 : tinfo Go.Proofs.Try.prog 25 = some ⟨.slice 3, 1, 24, .v (.slice none 0 0)⟩ := by kernel_rfl
@[go_sem] theorem ti26 : tinfo Go.Proofs.Try.prog 26 = some ⟨.func, 1, 8, .v .nilFunc⟩ := by kernel_rfl
@[go_sem] theorem ti27 : tinfo Go.Proofs.Try.prog 27 = some ⟨.int .i64, 1, 8, .v (.int .i64 0)⟩ := by kernel_rfl
@[go_sem] theorem ti29 : tinfo Go.Proofs.Try.prog 29 = some ⟨.func, 1, 8, .v .nilFunc⟩ := by kernel_rfl
@[go_sem] theorem ti31 : tinfo Go.Proofs.Try.prog 31 = some ⟨.func, 1, 8, .v .nilFunc⟩ := by kernel_rfl
@[go_sem] theorem ti32 : tinfo Go.Proofs.Try.prog 32 = some ⟨.func, 1, 8, .v .nilFunc⟩ := by kernel_rfl
@[go_sem] theorem ti33 : tinfo Go.Proofs.Try.prog 33 = some ⟨.func, 1, 8, .v .nilFunc⟩ := by kernel_rfl
@[go_sem] theorem ti34 : tinfo Go.Proofs.Try.prog 34 = some ⟨.func, 1, 8, .v .nilFunc⟩ := by kernel_rfl
@[go_sem] theorem ti35 : tinfo Go.Proofs.Try.prog 35 = some ⟨.func, 1, 8, .v .nilFunc⟩ := by kernel_rfl
@[go_sem] theorem ti36 : tinfo Go.Proofs.Try.prog 36 = some ⟨.slice 52, 1, 24, .v (.slice none 0 0)⟩ := by kernel_rfl
@[go_sem] theorem ti37 : tinfo Go.Proofs.Try.prog 37 = some ⟨.struct [(0, 36)], 1, 24, .agg [.v (.slice none 0 0)]⟩ := by kernel_rfl
@[go_sem] theorem ti38 : tinfo Go.Proofs.Try.prog 38 = some ⟨.struct [(0, 36)], 1, 24, .agg [.v (.slice none 0 0)]⟩ := by kernel_rfl
@[go_sem] theorem ti39 : tinfo Go.Proofs.Try.prog 39 = some ⟨.func, 1, 8, .v .nilFunc⟩ := by kernel_rfl
@[go_sem] theorem ti40 : tinfo Go.Proofs.Try.prog 40 = some ⟨.func, 1, 8, .v .nilFunc⟩ := by kernel_rfl
@[go_sem] theorem ti41 : tinfo Go.Proofs.Try.prog 41 = some ⟨.func, 1, 8, .v .nilFunc⟩ := by kernel_rfl
@[go_sem] theorem ti42 : tinfo Go.Proofs.Try.prog 42 = some ⟨.func, 1, 8, .v .nilFunc⟩ := by kernel_rfl
@[go_sem] theorem ti43 : tinfo Go.Proofs.Try.prog 43 = some ⟨.func, 1, 8, .v .nilFunc⟩ := by kernel_rfl
@[go_sem] theorem ti44 : tinfo Go.Proofs.Try.prog 44 = some ⟨.func, 1, 8, .v .nilFunc⟩ := by kernel_rfl
@[go_sem] theorem ti45 : tinfo Go.Proofs.Try.prog 45 = some ⟨.func, 1, 8, .v .nilFunc⟩ := by kernel_rfl
@[go_sem] theorem ti46 : tinfo Go.Proofs.Try.prog 46 = some ⟨.slice 75, 1, 24, .v (.slice none 0 0)⟩ := by kernel_rfl
@[go_sem] theorem ti47 : tinfo Go.Proofs.Try.prog 47 = some ⟨.struct [(0, 3), (1, 3), (2, 3), (3, 3), (4, 46)], 5, 56, .agg [.v (.int .i64 0), .v (.int .i64 0), .v (.int .i64 0), .v (.int .i64 0), .v (.slice none 0 0)]⟩ := by kernel_rfl
@[go_sem] theorem ti48 : tinfo Go.Proofs.Try.prog 48 = some ⟨.struct [(0, 3), (1, 3), (2, 3), (3, 3), (4, 46)], 5, 56, .agg [.v (.int .i64 0), .v (.int .i64 0), .v (.int .i64 0), .v (.int .i64 0), .v (.slice none 0 0)]⟩ := by kernel_rfl
@[go_sem] theorem ti49 : tinfo Go.Proofs.Try.prog 49 = some ⟨.slice 48, 1, 24, .v (.slice none 0 0)⟩ := by kernel_rfl
@[go_sem] theorem ti50 : tinfo Go.Proofs.Try.prog 50 = some ⟨.slice 72, 1, 24, .v (.slice none 0 0)⟩ := by kernel_rfl
@[go_sem] theorem ti51 : tinfo Go.Proofs.Try.prog 51 = some ⟨.struct [(0, 9), (1, 50), (2, 49)], 3, 64, .agg [.v (.string ⟨#[]⟩), .v (.slice none 0 0), .v (.slice none 0 0)]⟩ := by kernel_rfl
@[go_sem] theorem ti52 : tinfo Go.Proofs.Try.prog 52 = some ⟨.struct [(0, 9), (1, 50), (2, 49)], 3, 64, .agg [.v (.string ⟨#[]⟩), .v (.slice none 0 0), .v (.slice none 0 0)]⟩ := by kernel_rfl
@[go_sem] theorem ti54 : tinfo Go.Proofs.Try.prog 54 = some ⟨.func, 1, 8, .v .nilFunc⟩ := by kernel_rfl
@[go_sem] theorem ti55 : tinfo Go.Proofs.Try.prog 55 = some ⟨.func, 1, 8, .v .nilFunc⟩ := by kernel_rfl
@[go_sem] theorem ti56 : tinfo Go.Proofs.Try.prog 56 = some ⟨.func, 1, 8, .v .nilFunc⟩ := by kernel_rfl
@[go_sem] theorem ti57 : tinfo Go.Proofs.Try.prog 57 = some ⟨.func, 1, 8, .v .nilFunc⟩ := by kernel_rfl
@[go_sem] theorem ti58 : tinfo Go.Proofs.Try.prog 58 = some ⟨.func, 1, 8, .v .nilFunc⟩ := by kernel_rfl
@[go_sem] theorem ti59 : tinfo Go.Proofs.Try.prog 59 = some ⟨.func, 1, 8, .v .nilFunc⟩ := by kernel_rfl
@[go_sem] theorem ti60 : tinfo Go.Proofs.Try.prog 60 = some ⟨.func, 1, 8, .v .nilFunc⟩ := by kernel_rfl
@[go_sem] theorem ti61 : tinfo Go.Proofs.Try.prog 61 = some ⟨.func, 1, 8, .v .nilFunc⟩ := by kernel_rfl
@[go_sem] theorem ti62 : tinfo Go.Proofs.Try.prog 62 = some ⟨.func, 1, 8, .v .nilFunc⟩ := by kernel_rfl
@[go_sem] theorem ti63 : tinfo Go.Proofs.Try.prog 63 = some ⟨.func, 1, 8, .v .nilFunc⟩ := by kernel_rfl
@[go_sem] theorem ti64 : tinfo Go.Proofs.Try.prog 64 = some ⟨.slice 22, 1, 24, .v (.slice none 0 0)⟩ := by kernel_rfl
@[go_sem] theorem ti66 : tinfo Go.Proofs.Try.prog 66 = some ⟨.func, 1, 8, .v .nilFunc⟩ := by kernel_rfl
@[go_sem] theorem ti67 : tinfo Go.Proofs.Try.prog 67 = some ⟨.func, 1, 8, .v .nilFunc⟩ := by kernel_rfl
@[go_sem] theorem ti69 : tinfo Go.Proofs.Try.prog 69 = some ⟨.func, 1, 8, .v .nilFunc⟩ := by kernel_rfl
@[go_sem] theorem ti70 : tinfo Go.Proofs.Try.prog 70 = some ⟨.map 3 4, 1, 8, .v (.map none)⟩ := by kernel_rfl
@[go_sem] theorem ti71 : tinfo Go.Proofs.Try.prog 71 = some ⟨.struct [(0, 9), (1, 3)], 2, 24, .agg [.v (.string ⟨#[]⟩), .v (.int .i64 0)]⟩ := by kernel_rfl
@[go_sem] theorem ti72 : tinfo Go.Proofs.Try.prog 72 = some ⟨.struct [(0, 9), (1, 3)], 2, 24, .agg [.v (.string ⟨#[]⟩), .v (.int .i64 0)]⟩ := by kernel_rfl
@[go_sem] theorem ti73 : tinfo Go.Proofs.Try.prog 73 = some ⟨.func, 1, 8, .v .nilFunc⟩ := by kernel_rfl
@[go_sem] theorem ti74 : tinfo Go.Proofs.Try.prog 74 = some ⟨.struct [(0, 3), (1, 3)], 2, 16, .agg [.v (.int .i64 0), .v (.int .i64 0)]⟩ := by kernel_rfl
@[go_sem] theorem ti75 : tinfo Go.Proofs.Try.prog 75 = some ⟨.struct [(0, 3), (1, 3)], 2, 16, .agg [.v (.int .i64 0), .v (.int .i64 0)]⟩ := by kernel_rfl
@[go_sem] theorem ti76 : tinfo Go.Proofs.Try.prog 76 = some ⟨.func, 1, 8, .v .nilFunc⟩ := by kernel_rfl
@[go_sem] theorem ti77 : tinfo Go.Proofs.Try.prog 77 = some ⟨.func, 1, 8, .v .nilFunc⟩ := by kernel_rfl
@[go_sem] theorem ti78 : tinfo Go.Proofs.Try.prog 78 = some ⟨.func, 1, 8, .v .nilFunc⟩ := by kernel_rfl
@[go_sem] theorem ti79 : tinfo Go.Proofs.Try.prog 79 = some ⟨.func, 1, 8, .v .nilFunc⟩ := by kernel_rfl
@[go_sem] theorem ti80 : tinfo Go.Proofs.Try.prog 80 = some ⟨.struct [(0, 3), (1, 3)], 2, 16, .agg [.v (.int .i64 0), .v (.int .i64 0)]⟩ := by kernel_rfl
@[go_sem] theorem ti81 : tinfo Go.Proofs.Try.prog 81 = some ⟨.struct [(0, 3), (1, 3)], 2, 16, .agg [.v (.int .i64 0), .v (.int .i64 0)]⟩ := by kernel_rfl
@[go_sem] theorem ti83 : tinfo Go.Proofs.Try.prog 83 = some ⟨.func, 1, 8, .v .nilFunc⟩ := by kernel_rfl
@[go_sem] theorem ti84 : tinfo Go.Proofs.Try.prog 84 = some ⟨.slice 81, 1, 24, .v (.slice none 0 0)⟩ := by kernel_rfl
@[go_sem] theorem ti86 : tinfo Go.Proofs.Try.prog 86 = some ⟨.func, 1, 8, .v .nilFunc⟩ := by kernel_rfl
@[go_sem] theorem ti87 : tinfo Go.Proofs.Try.prog 87 = some ⟨.func, 1, 8, .v .nilFunc⟩ := by kernel_rfl
@[go_sem] theorem ti89 : tinfo Go.Proofs.Try.prog 89 = some ⟨.func, 1, 8, .v .nilFunc⟩ := by kernel_rfl
@[go_sem] theorem ti90 : tinfo Go.Proofs.Try.prog 90 = some ⟨.func, 1, 8, .v .nilFunc⟩ := by kernel_rfl
@[go_sem] theorem ti91 : tinfo Go.Proofs.Try.prog 91 = some ⟨.func, 1, 8, .v .nilFunc⟩ := by kernel_rfl
@[go_sem] theorem ti92 : tinfo Go.Proofs.Try.prog 92 = some ⟨.func, 1, 8, .v .nilFunc⟩ := by kernel_rfl
@[go_sem] theorem ti93 : tinfo Go.Proofs.Try.prog 93 = some ⟨.func, 1, 8, .v .nilFunc⟩ := by kernel_rfl
@[go_sem] theorem ti94 : tinfo Go.Proofs.Try.prog 94 = some ⟨.func, 1, 8, .v .nilFunc⟩ := by kernel_rfl
@[go_sem] theorem ti95 : tinfo Go.Proofs.Try.prog 95 = some ⟨.func, 1, 8, .v .nilFunc⟩ := by kernel_rfl
@[go_sem] theorem ti96 : tinfo Go.Proofs.Try.prog 96 = some ⟨.func, 1, 8, .v .nilFunc⟩ := by kernel_rfl
@[go_sem] theorem ti97 : tinfo Go.Proofs.Try.prog 97 = some ⟨.func, 1, 8, .v .nilFunc⟩ := by kernel_rfl
@[go_sem] theorem ti98 : tinfo Go.Proofs.Try.prog 98 = some ⟨.func, 1, 8, .v .nilFunc⟩ := by kernel_rfl
@[go_sem] theorem ti99 : tinfo Go.Proofs.Try.prog 99 = some ⟨.func, 1, 8, .v .nilFunc⟩ := by kernel_rfl
@[go_sem] theorem ti100 : tinfo Go.Proofs.Try.prog 100 = some ⟨.func, 1, 8, .v .nilFunc⟩ := by kernel_rfl
@[go_sem] theorem ti101 : tinfo Go.Proofs.Try.prog 101 = some ⟨.func, 1, 8, .v .nilFunc⟩ := by kernel_rfl
@[go_sem] theorem ti102 : tinfo Go.Proofs.Try.prog 102 = some ⟨.ptr 119, 1, 8, .v (.pointer none)⟩ := by kernel_rfl
@[go_sem] theorem ti104 : tinfo Go.Proofs.Try.prog 104 = some ⟨.func, 1, 8, .v .nilFunc⟩ := by kernel_rfl
@[go_sem] theorem ti105 : tinfo Go.Proofs.Try.prog 105 = some ⟨.func, 1, 8, .v .nilFunc⟩ := by kernel_rfl
@[go_sem] theorem ti106 : tinfo Go.Proofs.Try.prog 106 = some ⟨.func, 1, 8, .v .nilFunc⟩ := by kernel_rfl
@[go_sem] theorem ti107 : tinfo Go.Proofs.Try.prog 107 = some ⟨.func, 1, 8, .v .nilFunc⟩ := by kernel_rfl
@[go_sem] theorem ti108 : tinfo Go.Proofs.Try.prog 108 = some ⟨.func, 1, 8, .v .nilFunc⟩ := by kernel_rfl
@[go_sem] theorem ti109 : tinfo Go.Proofs.Try.prog 109 = some ⟨.func, 1, 8, .v .nilFunc⟩ := by kernel_rfl
@[go_sem] theorem ti110 : tinfo Go.Proofs.Try.prog 110 = some ⟨.func, 1, 8, .v .nilFunc⟩ := by kernel_rfl
@[go_sem] theorem ti111 : tinfo Go.Proofs.Try.prog 111 = some ⟨.func, 1, 8, .v .nilFunc⟩ := by kernel_rfl
@[go_sem] theorem ti112 : tinfo Go.Proofs.Try.prog 112 = some ⟨.func, 1, 8, .v .nilFunc⟩ := by kernel_rfl
@[go_sem] theorem ti113 : tinfo Go.Proofs.Try.prog 113 = some ⟨.func, 1, 8, .v .nilFunc⟩ := by kernel_rfl
@[go_sem] theorem ti114 : tinfo Go.Proofs.Try.prog 114 = some ⟨.func, 1, 8, .v .nilFunc⟩ := by kernel_rfl
@[go_sem] theorem ti115 : tinfo Go.Proofs.Try.prog 115 = some ⟨.func, 1, 8, .v .nilFunc⟩ := by kernel_rfl
@[go_sem] theorem ti116 : tinfo Go.Proofs.Try.prog 116 = some ⟨.func, 1, 8, .v .nilFunc⟩ := by kernel_rfl
@[go_sem] theorem ti117 : tinfo Go.Proofs.Try.prog 117 = some ⟨.struct [(0, 81), (2, 81)], 4, 32, .agg [.v (.int .i64 0), .v (.int .i64 0), .v (.int .i64 0), .v (.int .i64 0)]⟩ := by kernel_rfl
@[go_sem] theorem ti118 : tinfo Go.Proofs.Try.prog 118 = some ⟨.arr 200 117, 800, 6400, .agg (zrow 800 (.v (.int .i64 0)))⟩ := by kernel_rfl
@[go_sem] theorem ti119 : tinfo Go.Proofs.Try.prog 119 = some ⟨.arr 200 117, 800, 6400, .agg (zrow 800 (.v (.int .i64 0)))⟩ := by kernel_rfl
@[go_sem] theorem ti120 : tinfo Go.Proofs.Try.prog 120 = some ⟨.func, 1, 8, .v .nilFunc⟩ := by kernel_rfl
@[go_sem] theorem ti121 : tinfo Go.Proofs.Try.prog 121 = some ⟨.map 81 4, 1, 8, .v (.map none)⟩ := by kernel_rfl
@[go_sem] theorem ti122 : tinfo Go.Proofs.Try.prog 122 = some ⟨.func, 1, 8, .v .nilFunc⟩ := by kernel_rfl
@[go_sem] theorem ti124 : tinfo Go.Proofs.Try.prog 124 = some ⟨.func, 1, 8, .v .nilFunc⟩ := by kernel_rfl
@[go_sem] theorem ti125 : tinfo Go.Proofs.Try.prog 125 = some ⟨.func, 1, 8, .v .nilFunc⟩ := by kernel_rfl
@[go_sem] theorem ti126 : tinfo Go.Proofs.Try.prog 126 = some ⟨.func, 1, 8, .v .nilFunc⟩ := by kernel_rfl
@[go_sem] theorem ti127 : tinfo Go.Proofs.Try.prog 127 = some ⟨.func, 1, 8, .v .nilFunc⟩ := by kernel_rfl
@[go_sem] theorem ti128 : tinfo Go.Proofs.Try.prog 128 = some ⟨.func, 1, 8, .v .nilFunc⟩ := by kernel_rfl
@[go_sem] theorem ti129 : tinfo Go.Proofs.Try.prog 129 = some ⟨.struct [(0, 17), (1, 17), (2, 17), (3, 9)], 4, 40, .agg [.v (.pointer none), .v (.pointer none), .v (.pointer none), .v (.string ⟨#[]⟩)]⟩ := by kernel_rfl
@[go_sem] theorem ti130 : tinfo Go.Proofs.Try.prog 130 = some ⟨.struct [(0, 17), (1, 17), (2, 17), (3, 9)], 4, 40, .agg [.v (.pointer none), .v (.pointer none), .v (.pointer none), .v (.string ⟨#[]⟩)]⟩ := by kernel_rfl
@[go_sem] theorem ti131 : tinfo Go.Proofs.Try.prog 131 = some ⟨.arr 0 16, 0, 0, .agg []⟩ := by kernel_rfl
@[go_sem] theorem ti132 : tinfo Go.Proofs.Try.prog 132 = some ⟨.struct [(0, 131)], 0, 0, .agg []⟩ := by kernel_rfl
@[go_sem] theorem ti133 : tinfo Go.Proofs.Try.prog 133 = some ⟨.struct [(0, 131)], 0, 0, .agg []⟩ := by kernel_rfl
@[go_sem] theorem ti134 : tinfo Go.Proofs.Try.prog 134 = some ⟨.func, 1, 8, .v .nilFunc⟩ := by kernel_rfl
@[go_sem] theorem ti135 : tinfo Go.Proofs.Try.prog 135 = some ⟨.int .u32, 1, 4, .v (.int .u32 0)⟩ := by kernel_rfl
@[go_sem] theorem ti136 : tinfo Go.Proofs.Try.prog 136 = some ⟨.int .u8, 1, 1, .v (.int .u8 0)⟩ := by kernel_rfl
@[go_sem] theorem ti137 : tinfo Go.Proofs.Try.prog 137 = some ⟨.int .u8, 1, 1, .v (.int .u8 0)⟩ := by kernel_rfl
@[go_sem] theorem ti138 : tinfo Go.Proofs.Try.prog 138 = some ⟨.func, 1, 8, .v .nilFunc⟩ := by kernel_rfl
@[go_sem] theorem ti139 : tinfo Go.Proofs.Try.prog 139 = some ⟨.ptr 5, 1, 8, .v (.pointer none)⟩ := by kernel_rfl
@[go_sem] theorem ti140 : tinfo Go.Proofs.Try.prog 140 = some ⟨.int .i32, 1, 4, .v (.int .i32 0)⟩ := by kernel_rfl
@[go_sem] theorem ti141 : tinfo Go.Proofs.Try.prog 141 = some ⟨.int .i32, 1, 4, .v (.int .i32 0)⟩ := by kernel_rfl
@[go_sem] theorem plain71 : plainSt Go.Proofs.Try.prog 71 = some [.str, .int] := by kernel_rfl
@[go_sem] theorem plain72 : plainSt Go.Proofs.Try.prog 72 = some [.str, .int] := by kernel_rfl
@[go_sem] theorem plain74 : plainSt Go.Proofs.Try.prog 74 = some [.int, .int] := by kernel_rfl
@[go_sem] theorem plain75 : plainSt Go.Proofs.Try.prog 75 = some [.int, .int] := by kernel_rfl
@[go_sem] theorem plain80 : plainSt Go.Proofs.Try.prog 80 = some [.int, .int] := by kernel_rfl
@[go_sem] theorem plain81 : plainSt Go.Proofs.Try.prog 81 = some [.int, .int] := by kernel_rfl
@[go_sem] theorem kk3 : kkOf Go.Proofs.Try.prog 3 = some (.sc .int) := by kernel_rfl
@[go_sem] theorem kk81 : kkOf Go.Proofs.Try.prog 81 = some (.st [.int, .int]) := by kernel_rfl
end Go.AL
