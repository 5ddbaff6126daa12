/- The facts on the types and functions of this seat, printed by a program of this session (wip/tools/facts.py) off the translation; each is proved by the kernel. -/
import Derived.Test.YtjkefplcbmdndaaHC
import Derived.Test.YtjkefplcbmdndaaProg
import Derived.KernelRfl
namespace Go.Proofs
open Go Go.HC
@[simp] theorem Try.aggS0 : aggS Try.prog 0 = some false := by kernel_rfl
@[simp] theorem Try.szS0 : szS Try.prog 0 = some 1 := by kernel_rfl
@[simp] theorem Try.byS0 : byS Try.prog 0 = some 0 := by kernel_rfl
@[simp] theorem Try.zS0 : zS Try.prog 0 = some (.tuple #[]) := by kernel_rfl
@[simp] theorem Try.aggS1 : aggS Try.prog 1 = some false := by kernel_rfl
@[simp] theorem Try.szS1 : szS Try.prog 1 = some 1 := by kernel_rfl
@[simp] theorem Try.byS1 : byS Try.prog 1 = some 8 := by kernel_rfl
@[simp] theorem Try.zS1 : zS Try.prog 1 = some (.nilFunc) := by kernel_rfl
@[simp] theorem Try.aggS2 : aggS Try.prog 2 = some false := by kernel_rfl
@[simp] theorem Try.szS2 : szS Try.prog 2 = some 1 := by kernel_rfl
@[simp] theorem Try.byS2 : byS Try.prog 2 = some 8 := by kernel_rfl
@[simp] theorem Try.zS2 : zS Try.prog 2 = some (.int .i64 0) := by kernel_rfl
@[simp] theorem Try.intK2 : intK Try.prog 2 = some .i64 := by kernel_rfl
@[simp] theorem Try.aggS3 : aggS Try.prog 3 = some false := by kernel_rfl
@[simp] theorem Try.szS3 : szS Try.prog 3 = some 1 := by kernel_rfl
@[simp] theorem Try.byS3 : byS Try.prog 3 = some 8 := by kernel_rfl
@[simp] theorem Try.zS3 : zS Try.prog 3 = some (.int .i64 0) := by kernel_rfl
@[simp] theorem Try.intK3 : intK Try.prog 3 = some .i64 := by kernel_rfl
@[simp] theorem Try.aggS4 : aggS Try.prog 4 = some false := by kernel_rfl
@[simp] theorem Try.szS4 : szS Try.prog 4 = some 1 := by kernel_rfl
@[simp] theorem Try.byS4 : byS Try.prog 4 = some 1 := by kernel_rfl
@[simp] theorem Try.zS4 : zS Try.prog 4 = some (.bool false) := by kernel_rfl
@[simp] theorem Try.boolT4 : boolT Try.prog 4 = true := by kernel_rfl
@[simp] theorem Try.aggS5 : aggS Try.prog 5 = some false := by kernel_rfl
@[simp] theorem Try.szS5 : szS Try.prog 5 = some 1 := by kernel_rfl
@[simp] theorem Try.byS5 : byS Try.prog 5 = some 1 := by kernel_rfl
@[simp] theorem Try.zS5 : zS Try.prog 5 = some (.int .u8 0) := by kernel_rfl
@[simp] theorem Try.intK5 : intK Try.prog 5 = some .u8 := by kernel_rfl
@[simp] theorem Try.aggS6 : aggS Try.prog 6 = some false := by kernel_rfl
@[simp] theorem Try.szS6 : szS Try.prog 6 = some 1 := by kernel_rfl
@[simp] theorem Try.byS6 : byS Try.prog 6 = some 1 := by kernel_rfl
@[simp] theorem Try.zS6 : zS Try.prog 6 = some (.int .u8 0) := by kernel_rfl
@[simp] theorem Try.intK6 : intK Try.prog 6 = some .u8 := by kernel_rfl
@[simp] theorem Try.aggS7 : aggS Try.prog 7 = some true := by kernel_rfl
@[simp] theorem Try.szS7 : szS Try.prog 7 = some 4 := by kernel_rfl
@[simp] theorem Try.byS7 : byS Try.prog 7 = some 24 := by kernel_rfl
@[simp] theorem Try.zS7 : zS Try.prog 7 = some (.agg #[.int .i64 0, .int .i64 0, .bool false, .int .u8 0]) := by kernel_rfl
@[simp] theorem Try.strOk7 : structOk Try.prog 7 = true := by kernel_rfl
@[simp] theorem Try.fldS7_0 : fldS Try.prog 7 0 = some (0, 1, false) := by kernel_rfl
@[simp] theorem Try.fldS7_1 : fldS Try.prog 7 1 = some (1, 1, false) := by kernel_rfl
@[simp] theorem Try.fldS7_2 : fldS Try.prog 7 2 = some (2, 1, false) := by kernel_rfl
@[simp] theorem Try.fldS7_3 : fldS Try.prog 7 3 = some (3, 1, false) := by kernel_rfl
@[simp] theorem Try.aggS8 : aggS Try.prog 8 = some true := by kernel_rfl
@[simp] theorem Try.szS8 : szS Try.prog 8 = some 4 := by kernel_rfl
@[simp] theorem Try.byS8 : byS Try.prog 8 = some 24 := by kernel_rfl
@[simp] theorem Try.zS8 : zS Try.prog 8 = some (.agg #[.int .i64 0, .int .i64 0, .bool false, .int .u8 0]) := by kernel_rfl
@[simp] theorem Try.strOk8 : structOk Try.prog 8 = true := by kernel_rfl
@[simp] theorem Try.fldS8_0 : fldS Try.prog 8 0 = some (0, 1, false) := by kernel_rfl
@[simp] theorem Try.fldS8_1 : fldS Try.prog 8 1 = some (1, 1, false) := by kernel_rfl
@[simp] theorem Try.fldS8_2 : fldS Try.prog 8 2 = some (2, 1, false) := by kernel_rfl
@[simp] theorem Try.fldS8_3 : fldS Try.prog 8 3 = some (3, 1, false) := by kernel_rfl
@[simp] theorem Try.aggS9 : aggS Try.prog 9 = some false := by kernel_rfl
@[simp] theorem Try.szS9 : szS Try.prog 9 = some 1 := by kernel_rfl
@[simp] theorem Try.byS9 : byS Try.prog 9 = some 16 := by kernel_rfl
@[simp] theorem Try.zS9 : zS Try.prog 9 = some (.string ⟨#[]⟩) := by kernel_rfl
@[simp] theorem Try.strT9 : strT Try.prog 9 = true := by kernel_rfl
@[simp] theorem Try.aggS10 : aggS Try.prog 10 = some false := by kernel_rfl
@[simp] theorem Try.szS10 : szS Try.prog 10 = some 1 := by kernel_rfl
@[simp] theorem Try.byS10 : byS Try.prog 10 = some 16 := by kernel_rfl
@[simp] theorem Try.zS10 : zS Try.prog 10 = some (.string ⟨#[]⟩) := by kernel_rfl
@[simp] theorem Try.strT10 : strT Try.prog 10 = true := by kernel_rfl
@[simp] theorem Try.aggS11 : aggS Try.prog 11 = some false := by kernel_rfl
@[simp] theorem Try.szS11 : szS Try.prog 11 = some 1 := by kernel_rfl
@[simp] theorem Try.byS11 : byS Try.prog 11 = some 16 := by kernel_rfl
@[simp] theorem Try.zS11 : zS Try.prog 11 = some (.string ⟨#[]⟩) := by kernel_rfl
@[simp] theorem Try.strT11 : strT Try.prog 11 = true := by kernel_rfl
@[simp] theorem Try.aggS12 : aggS Try.prog 12 = some false := by kernel_rfl
@[simp] theorem Try.szS12 : szS Try.prog 12 = some 1 := by kernel_rfl
@[simp] theorem Try.byS12 : byS Try.prog 12 = some 8 := by kernel_rfl
@[simp] theorem Try.zS12 : zS Try.prog 12 = some (.int .u64 0) := by kernel_rfl
@[simp] theorem Try.intK12 : intK Try.prog 12 = some .u64 := by kernel_rfl
@[simp] theorem Try.aggS13 : aggS Try.prog 13 = some true := by kernel_rfl
@[simp] theorem Try.szS13 : szS Try.prog 13 = some 2 := by kernel_rfl
@[simp] theorem Try.byS13 : byS Try.prog 13 = some 24 := by kernel_rfl
@[simp] theorem Try.zS13 : zS Try.prog 13 = some (.agg #[.string ⟨#[]⟩, .int .u64 0]) := by kernel_rfl
@[simp] theorem Try.strOk13 : structOk Try.prog 13 = true := by kernel_rfl
@[simp] theorem Try.fldS13_0 : fldS Try.prog 13 0 = some (0, 1, false) := by kernel_rfl
@[simp] theorem Try.fldS13_1 : fldS Try.prog 13 1 = some (1, 1, false) := by kernel_rfl
@[simp] theorem Try.aggS14 : aggS Try.prog 14 = some true := by kernel_rfl
@[simp] theorem Try.szS14 : szS Try.prog 14 = some 2 := by kernel_rfl
@[simp] theorem Try.byS14 : byS Try.prog 14 = some 24 := by kernel_rfl
@[simp] theorem Try.zS14 : zS Try.prog 14 = some (.agg #[.string ⟨#[]⟩, .int .u64 0]) := by kernel_rfl
@[simp] theorem Try.strOk14 : structOk Try.prog 14 = true := by kernel_rfl
@[simp] theorem Try.fldS14_0 : fldS Try.prog 14 0 = some (0, 1, false) := by kernel_rfl
@[simp] theorem Try.fldS14_1 : fldS Try.prog 14 1 = some (1, 1, false) := by kernel_rfl
@[simp] theorem Try.aggS15 : aggS Try.prog 15 = some false := by kernel_rfl
@[simp] theorem Try.szS15 : szS Try.prog 15 = some 1 := by kernel_rfl
@[simp] theorem Try.byS15 : byS Try.prog 15 = some 8 := by kernel_rfl
@[simp] theorem Try.zS15 : zS Try.prog 15 = some (.pointer none) := by kernel_rfl
@[simp] theorem Try.nilKind15 : nilKind Try.prog 15 = 2 := by kernel_rfl
@[simp] theorem Try.aggS16 : aggS Try.prog 16 = some false := by kernel_rfl
@[simp] theorem Try.szS16 : szS Try.prog 16 = some 1 := by kernel_rfl
@[simp] theorem Try.byS16 : byS Try.prog 16 = some 8 := by kernel_rfl
@[simp] theorem Try.zS16 : zS Try.prog 16 = some (.pointer none) := by kernel_rfl
@[simp] theorem Try.nilKind16 : nilKind Try.prog 16 = 2 := by kernel_rfl
@[simp] theorem Try.aggS17 : aggS Try.prog 17 = some false := by kernel_rfl
@[simp] theorem Try.szS17 : szS Try.prog 17 = some 1 := by kernel_rfl
@[simp] theorem Try.byS17 : byS Try.prog 17 = some 8 := by kernel_rfl
@[simp] theorem Try.zS17 : zS Try.prog 17 = some (.pointer none) := by kernel_rfl
@[simp] theorem Try.nilKind17 : nilKind Try.prog 17 = 2 := by kernel_rfl
@[simp] theorem Try.aggS18 : aggS Try.prog 18 = some true := by kernel_rfl
@[simp] theorem Try.szS18 : szS Try.prog 18 = some 1 := by kernel_rfl
@[simp] theorem Try.byS18 : byS Try.prog 18 = some 8 := by kernel_rfl
@[simp] theorem Try.zS18 : zS Try.prog 18 = some (.agg #[.pointer none]) := by kernel_rfl
@[simp] theorem Try.strOk18 : structOk Try.prog 18 = true := by kernel_rfl
@[simp] theorem Try.fldS18_0 : fldS Try.prog 18 0 = some (0, 1, false) := by kernel_rfl
@[simp] theorem Try.aggS19 : aggS Try.prog 19 = some true := by kernel_rfl
@[simp] theorem Try.szS19 : szS Try.prog 19 = some 1 := by kernel_rfl
@[simp] theorem Try.byS19 : byS Try.prog 19 = some 8 := by kernel_rfl
@[simp] theorem Try.zS19 : zS Try.prog 19 = some (.agg #[.pointer none]) := by kernel_rfl
@[simp] theorem Try.strOk19 : structOk Try.prog 19 = true := by kernel_rfl
@[simp] theorem Try.fldS19_0 : fldS Try.prog 19 0 = some (0, 1, false) := by kernel_rfl
@[simp] theorem Try.aggS21 : aggS Try.prog 21 = some false := by kernel_rfl
@[simp] theorem Try.szS21 : szS Try.prog 21 = some 1 := by kernel_rfl
@[simp] theorem Try.byS21 : byS Try.prog 21 = some 4 := by kernel_rfl
@[simp] theorem Try.zS21 : zS Try.prog 21 = some (.int .i32 0) := by kernel_rfl
@[simp] theorem Try.intK21 : intK Try.prog 21 = some .i32 := by kernel_rfl
@[simp] theorem Try.aggS22 : aggS Try.prog 22 = some false := by kernel_rfl
@[simp] theorem Try.szS22 : szS Try.prog 22 = some 1 := by kernel_rfl
@[simp] theorem Try.byS22 : byS Try.prog 22 = some 24 := by kernel_rfl
@[simp] theorem Try.zS22 : zS Try.prog 22 = some (.slice none 0 0) := by kernel_rfl
@[simp] theorem Try.elS22 : elS Try.prog 22 = some 3 := by kernel_rfl
@[simp] theorem Try.nilKind22 : nilKind Try.prog 22 = 1 := by kernel_rfl
@[simp] theorem Try.aggS23 : aggS Try.prog 23 = some false := by kernel_rfl
@[simp] theorem Try.szS23 : szS Try.prog 23 = some 1 := by kernel_rfl
@[simp] theorem Try.byS23 : byS Try.prog 23 = some 8 := by kernel_rfl
@[simp] theorem Try.zS23 : zS Try.prog 23 = some (.nilFunc) := by kernel_rfl
@[simp] theorem Try.aggS24 : aggS Try.prog 24 = some true := by kernel_rfl
@[simp] theorem Try.szS24 : szS Try.prog 24 = some 2 := by kernel_rfl
@[simp] theorem Try.byS24 : byS Try.prog 24 = some 32 := by kernel_rfl
@[simp] theorem Try.zS24 : zS Try.prog 24 = some (.agg #[.slice none 0 0, .int .i64 0]) := by kernel_rfl
@[simp] theorem Try.strOk24 : structOk Try.prog 24 = true := by kernel_rfl
@[simp] theorem Try.fldS24_0 : fldS Try.prog 24 0 = some (0, 1, false) := by kernel_rfl
@[simp] theorem Try.fldS24_1 : fldS Try.prog 24 1 = some (1, 1, false) := by kernel_rfl
@[simp] theorem Try.aggS25 : aggS Try.prog 25 = some true := by kernel_rfl
@[simp] theorem Try.szS25 : szS Try.prog 25 = some 2 := by kernel_rfl
@[simp] theorem Try.byS25 : byS Try.prog 25 = some 32 := by kernel_rfl
@[simp] theorem Try.zS25 : zS Try.prog 25 = some (.agg #[.slice none 0 0, .int .i64 0]) := by kernel_rfl
@[simp] theorem Try.strOk25 : structOk Try.prog 25 = true := by kernel_rfl
@[simp] theorem Try.fldS25_0 : fldS Try.prog 25 0 = some (0, 1, false) := by kernel_rfl
@[simp] theorem Try.fldS25_1 : fldS Try.prog 25 1 = some (1, 1, false) := by kernel_rfl
@[simp] theorem Try.aggS26 : aggS Try.prog 26 = some false := by kernel_rfl
@[simp] theorem Try.szS26 : szS Try.prog 26 = some 1 := by kernel_rfl
@[simp] theorem Try.byS26 : byS Try.prog 26 = some 24 := by kernel_rfl
@[simp] theorem Try.zS26 : zS Try.prog 26 = some (.slice none 0 0) := by kernel_rfl
@[simp] theorem Try.elS26 : elS Try.prog 26 = some 57 := by kernel_rfl
@[simp] theorem Try.nilKind26 : nilKind Try.prog 26 = 1 := by kernel_rfl
@[simp] theorem Try.aggS28 : aggS Try.prog 28 = some false := by kernel_rfl
@[simp] theorem Try.szS28 : szS Try.prog 28 = some 1 := by kernel_rfl
@[simp] theorem Try.byS28 : byS Try.prog 28 = some 8 := by kernel_rfl
@[simp] theorem Try.zS28 : zS Try.prog 28 = some (.nilFunc) := by kernel_rfl
@[simp] theorem Try.aggS29 : aggS Try.prog 29 = some false := by kernel_rfl
@[simp] theorem Try.szS29 : szS Try.prog 29 = some 1 := by kernel_rfl
@[simp] theorem Try.byS29 : byS Try.prog 29 = some 24 := by kernel_rfl
@[simp] theorem Try.zS29 : zS Try.prog 29 = some (.slice none 0 0) := by kernel_rfl
@[simp] theorem Try.elS29 : elS Try.prog 29 = some 39 := by kernel_rfl
@[simp] theorem Try.nilKind29 : nilKind Try.prog 29 = 1 := by kernel_rfl
@[simp] theorem Try.aggS30 : aggS Try.prog 30 = some false := by kernel_rfl
@[simp] theorem Try.szS30 : szS Try.prog 30 = some 1 := by kernel_rfl
@[simp] theorem Try.byS30 : byS Try.prog 30 = some 8 := by kernel_rfl
@[simp] theorem Try.zS30 : zS Try.prog 30 = some (.nilFunc) := by kernel_rfl
@[simp] theorem Try.aggS31 : aggS Try.prog 31 = some false := by kernel_rfl
@[simp] theorem Try.szS31 : szS Try.prog 31 = some 1 := by kernel_rfl
@[simp] theorem Try.byS31 : byS Try.prog 31 = some 8 := by kernel_rfl
@[simp] theorem Try.zS31 : zS Try.prog 31 = some (.nilFunc) := by kernel_rfl
@[simp] theorem Try.aggS32 : aggS Try.prog 32 = some false := by kernel_rfl
@[simp] theorem Try.szS32 : szS Try.prog 32 = some 1 := by kernel_rfl
@[simp] theorem Try.byS32 : byS Try.prog 32 = some 8 := by kernel_rfl
@[simp] theorem Try.zS32 : zS Try.prog 32 = some (.nilFunc) := by kernel_rfl
@[simp] theorem Try.aggS33 : aggS Try.prog 33 = some false := by kernel_rfl
@[simp] theorem Try.szS33 : szS Try.prog 33 = some 1 := by kernel_rfl
@[simp] theorem Try.byS33 : byS Try.prog 33 = some 8 := by kernel_rfl
@[simp] theorem Try.zS33 : zS Try.prog 33 = some (.pointer none) := by kernel_rfl
@[simp] theorem Try.nilKind33 : nilKind Try.prog 33 = 2 := by kernel_rfl
@[simp] theorem Try.aggS34 : aggS Try.prog 34 = some false := by kernel_rfl
@[simp] theorem Try.szS34 : szS Try.prog 34 = some 1 := by kernel_rfl
@[simp] theorem Try.byS34 : byS Try.prog 34 = some 8 := by kernel_rfl
@[simp] theorem Try.zS34 : zS Try.prog 34 = some (.nilFunc) := by kernel_rfl
@[simp] theorem Try.aggS35 : aggS Try.prog 35 = some false := by kernel_rfl
@[simp] theorem Try.szS35 : szS Try.prog 35 = some 1 := by kernel_rfl
@[simp] theorem Try.byS35 : byS Try.prog 35 = some 8 := by kernel_rfl
@[simp] theorem Try.zS35 : zS Try.prog 35 = some (.pointer none) := by kernel_rfl
@[simp] theorem Try.nilKind35 : nilKind Try.prog 35 = 2 := by kernel_rfl
@[simp] theorem Try.aggS36 : aggS Try.prog 36 = some false := by kernel_rfl
@[simp] theorem Try.szS36 : szS Try.prog 36 = some 1 := by kernel_rfl
@[simp] theorem Try.byS36 : byS Try.prog 36 = some 8 := by kernel_rfl
@[simp] theorem Try.zS36 : zS Try.prog 36 = some (.nilFunc) := by kernel_rfl
@[simp] theorem Try.aggS37 : aggS Try.prog 37 = some false := by kernel_rfl
@[simp] theorem Try.szS37 : szS Try.prog 37 = some 1 := by kernel_rfl
@[simp] theorem Try.byS37 : byS Try.prog 37 = some 8 := by kernel_rfl
@[simp] theorem Try.zS37 : zS Try.prog 37 = some (.nilFunc) := by kernel_rfl
@[simp] theorem Try.aggS38 : aggS Try.prog 38 = some true := by kernel_rfl
@[simp] theorem Try.szS38 : szS Try.prog 38 = some 5 := by kernel_rfl
@[simp] theorem Try.byS38 : byS Try.prog 38 = some 104 := by kernel_rfl
@[simp] theorem Try.zS38 : zS Try.prog 38 = some (.agg #[.slice none 0 0, .int .i64 0, .slice none 0 0, .slice none 0 0, .slice none 0 0]) := by kernel_rfl
@[simp] theorem Try.strOk38 : structOk Try.prog 38 = true := by kernel_rfl
@[simp] theorem Try.fldS38_0 : fldS Try.prog 38 0 = some (0, 1, false) := by kernel_rfl
@[simp] theorem Try.fldS38_1 : fldS Try.prog 38 1 = some (1, 1, false) := by kernel_rfl
@[simp] theorem Try.fldS38_2 : fldS Try.prog 38 2 = some (2, 1, false) := by kernel_rfl
@[simp] theorem Try.fldS38_3 : fldS Try.prog 38 3 = some (3, 1, false) := by kernel_rfl
@[simp] theorem Try.fldS38_4 : fldS Try.prog 38 4 = some (4, 1, false) := by kernel_rfl
@[simp] theorem Try.aggS39 : aggS Try.prog 39 = some true := by kernel_rfl
@[simp] theorem Try.szS39 : szS Try.prog 39 = some 5 := by kernel_rfl
@[simp] theorem Try.byS39 : byS Try.prog 39 = some 104 := by kernel_rfl
@[simp] theorem Try.zS39 : zS Try.prog 39 = some (.agg #[.slice none 0 0, .int .i64 0, .slice none 0 0, .slice none 0 0, .slice none 0 0]) := by kernel_rfl
@[simp] theorem Try.strOk39 : structOk Try.prog 39 = true := by kernel_rfl
@[simp] theorem Try.fldS39_0 : fldS Try.prog 39 0 = some (0, 1, false) := by kernel_rfl
@[simp] theorem Try.fldS39_1 : fldS Try.prog 39 1 = some (1, 1, false) := by kernel_rfl
@[simp] theorem Try.fldS39_2 : fldS Try.prog 39 2 = some (2, 1, false) := by kernel_rfl
@[simp] theorem Try.fldS39_3 : fldS Try.prog 39 3 = some (3, 1, false) := by kernel_rfl
@[simp] theorem Try.fldS39_4 : fldS Try.prog 39 4 = some (4, 1, false) := by kernel_rfl
@[simp] theorem Try.aggS40 : aggS Try.prog 40 = some false := by kernel_rfl
@[simp] theorem Try.szS40 : szS Try.prog 40 = some 1 := by kernel_rfl
@[simp] theorem Try.byS40 : byS Try.prog 40 = some 8 := by kernel_rfl
@[simp] theorem Try.zS40 : zS Try.prog 40 = some (.nilFunc) := by kernel_rfl
@[simp] theorem Try.aggS42 : aggS Try.prog 42 = some false := by kernel_rfl
@[simp] theorem Try.szS42 : szS Try.prog 42 = some 1 := by kernel_rfl
@[simp] theorem Try.byS42 : byS Try.prog 42 = some 8 := by kernel_rfl
@[simp] theorem Try.zS42 : zS Try.prog 42 = some (.nilFunc) := by kernel_rfl
@[simp] theorem Try.aggS43 : aggS Try.prog 43 = some false := by kernel_rfl
@[simp] theorem Try.szS43 : szS Try.prog 43 = some 1 := by kernel_rfl
@[simp] theorem Try.byS43 : byS Try.prog 43 = some 8 := by kernel_rfl
@[simp] theorem Try.zS43 : zS Try.prog 43 = some (.nilFunc) := by kernel_rfl
@[simp] theorem Try.aggS44 : aggS Try.prog 44 = some false := by kernel_rfl
@[simp] theorem Try.szS44 : szS Try.prog 44 = some 1 := by kernel_rfl
@[simp] theorem Try.byS44 : byS Try.prog 44 = some 8 := by kernel_rfl
@[simp] theorem Try.zS44 : zS Try.prog 44 = some (.nilFunc) := by kernel_rfl
@[simp] theorem Try.aggS45 : aggS Try.prog 45 = some false := by kernel_rfl
@[simp] theorem Try.szS45 : szS Try.prog 45 = some 1 := by kernel_rfl
@[simp] theorem Try.byS45 : byS Try.prog 45 = some 8 := by kernel_rfl
@[simp] theorem Try.zS45 : zS Try.prog 45 = some (.nilFunc) := by kernel_rfl
@[simp] theorem Try.aggS46 : aggS Try.prog 46 = some false := by kernel_rfl
@[simp] theorem Try.szS46 : szS Try.prog 46 = some 1 := by kernel_rfl
@[simp] theorem Try.byS46 : byS Try.prog 46 = some 8 := by kernel_rfl
@[simp] theorem Try.zS46 : zS Try.prog 46 = some (.nilFunc) := by kernel_rfl
@[simp] theorem Try.aggS48 : aggS Try.prog 48 = some false := by kernel_rfl
@[simp] theorem Try.szS48 : szS Try.prog 48 = some 1 := by kernel_rfl
@[simp] theorem Try.byS48 : byS Try.prog 48 = some 8 := by kernel_rfl
@[simp] theorem Try.zS48 : zS Try.prog 48 = some (.nilFunc) := by kernel_rfl
@[simp] theorem Try.aggS49 : aggS Try.prog 49 = some false := by kernel_rfl
@[simp] theorem Try.szS49 : szS Try.prog 49 = some 1 := by kernel_rfl
@[simp] theorem Try.byS49 : byS Try.prog 49 = some 8 := by kernel_rfl
@[simp] theorem Try.zS49 : zS Try.prog 49 = some (.nilFunc) := by kernel_rfl
@[simp] theorem Try.aggS50 : aggS Try.prog 50 = some false := by kernel_rfl
@[simp] theorem Try.szS50 : szS Try.prog 50 = some 1 := by kernel_rfl
@[simp] theorem Try.byS50 : byS Try.prog 50 = some 24 := by kernel_rfl
@[simp] theorem Try.zS50 : zS Try.prog 50 = some (.slice none 0 0) := by kernel_rfl
@[simp] theorem Try.elS50 : elS Try.prog 50 = some 22 := by kernel_rfl
@[simp] theorem Try.nilKind50 : nilKind Try.prog 50 = 1 := by kernel_rfl
@[simp] theorem Try.aggS51 : aggS Try.prog 51 = some false := by kernel_rfl
@[simp] theorem Try.szS51 : szS Try.prog 51 = some 1 := by kernel_rfl
@[simp] theorem Try.byS51 : byS Try.prog 51 = some 8 := by kernel_rfl
@[simp] theorem Try.zS51 : zS Try.prog 51 = some (.nilFunc) := by kernel_rfl
@[simp] theorem Try.aggS52 : aggS Try.prog 52 = some false := by kernel_rfl
@[simp] theorem Try.szS52 : szS Try.prog 52 = some 1 := by kernel_rfl
@[simp] theorem Try.byS52 : byS Try.prog 52 = some 8 := by kernel_rfl
@[simp] theorem Try.zS52 : zS Try.prog 52 = some (.nilFunc) := by kernel_rfl
@[simp] theorem Try.aggS53 : aggS Try.prog 53 = some false := by kernel_rfl
@[simp] theorem Try.szS53 : szS Try.prog 53 = some 1 := by kernel_rfl
@[simp] theorem Try.byS53 : byS Try.prog 53 = some 8 := by kernel_rfl
@[simp] theorem Try.zS53 : zS Try.prog 53 = some (.nilFunc) := by kernel_rfl
@[simp] theorem Try.aggS54 : aggS Try.prog 54 = some false := by kernel_rfl
@[simp] theorem Try.szS54 : szS Try.prog 54 = some 1 := by kernel_rfl
@[simp] theorem Try.byS54 : byS Try.prog 54 = some 8 := by kernel_rfl
@[simp] theorem Try.zS54 : zS Try.prog 54 = some (.nilFunc) := by kernel_rfl
@[simp] theorem Try.aggS55 : aggS Try.prog 55 = some false := by kernel_rfl
@[simp] theorem Try.szS55 : szS Try.prog 55 = some 1 := by kernel_rfl
@[simp] theorem Try.byS55 : byS Try.prog 55 = some 8 := by kernel_rfl
@[simp] theorem Try.zS55 : zS Try.prog 55 = some (.nilFunc) := by kernel_rfl
@[simp] theorem Try.aggS56 : aggS Try.prog 56 = some true := by kernel_rfl
@[simp] theorem Try.szS56 : szS Try.prog 56 = some 2 := by kernel_rfl
@[simp] theorem Try.byS56 : byS Try.prog 56 = some 48 := by kernel_rfl
@[simp] theorem Try.zS56 : zS Try.prog 56 = some (.agg #[.slice none 0 0, .slice none 0 0]) := by kernel_rfl
@[simp] theorem Try.strOk56 : structOk Try.prog 56 = true := by kernel_rfl
@[simp] theorem Try.fldS56_0 : fldS Try.prog 56 0 = some (0, 1, false) := by kernel_rfl
@[simp] theorem Try.fldS56_1 : fldS Try.prog 56 1 = some (1, 1, false) := by kernel_rfl
@[simp] theorem Try.aggS57 : aggS Try.prog 57 = some true := by kernel_rfl
@[simp] theorem Try.szS57 : szS Try.prog 57 = some 2 := by kernel_rfl
@[simp] theorem Try.byS57 : byS Try.prog 57 = some 48 := by kernel_rfl
@[simp] theorem Try.zS57 : zS Try.prog 57 = some (.agg #[.slice none 0 0, .slice none 0 0]) := by kernel_rfl
@[simp] theorem Try.strOk57 : structOk Try.prog 57 = true := by kernel_rfl
@[simp] theorem Try.fldS57_0 : fldS Try.prog 57 0 = some (0, 1, false) := by kernel_rfl
@[simp] theorem Try.fldS57_1 : fldS Try.prog 57 1 = some (1, 1, false) := by kernel_rfl
@[simp] theorem Try.aggS58 : aggS Try.prog 58 = some false := by kernel_rfl
@[simp] theorem Try.szS58 : szS Try.prog 58 = some 1 := by kernel_rfl
@[simp] theorem Try.byS58 : byS Try.prog 58 = some 8 := by kernel_rfl
@[simp] theorem Try.zS58 : zS Try.prog 58 = some (.nilFunc) := by kernel_rfl
@[simp] theorem Try.aggS59 : aggS Try.prog 59 = some false := by kernel_rfl
@[simp] theorem Try.szS59 : szS Try.prog 59 = some 1 := by kernel_rfl
@[simp] theorem Try.byS59 : byS Try.prog 59 = some 8 := by kernel_rfl
@[simp] theorem Try.zS59 : zS Try.prog 59 = some (.int .u64 0) := by kernel_rfl
@[simp] theorem Try.intK59 : intK Try.prog 59 = some .u64 := by kernel_rfl
@[simp] theorem Try.aggS60 : aggS Try.prog 60 = some false := by kernel_rfl
@[simp] theorem Try.szS60 : szS Try.prog 60 = some 1 := by kernel_rfl
@[simp] theorem Try.byS60 : byS Try.prog 60 = some 24 := by kernel_rfl
@[simp] theorem Try.zS60 : zS Try.prog 60 = some (.slice none 0 0) := by kernel_rfl
@[simp] theorem Try.elS60 : elS Try.prog 60 = some 68 := by kernel_rfl
@[simp] theorem Try.nilKind60 : nilKind Try.prog 60 = 1 := by kernel_rfl
@[simp] theorem Try.aggS61 : aggS Try.prog 61 = some true := by kernel_rfl
@[simp] theorem Try.szS61 : szS Try.prog 61 = some 2 := by kernel_rfl
@[simp] theorem Try.byS61 : byS Try.prog 61 = some 32 := by kernel_rfl
@[simp] theorem Try.zS61 : zS Try.prog 61 = some (.agg #[.slice none 0 0, .int .i64 0]) := by kernel_rfl
@[simp] theorem Try.strOk61 : structOk Try.prog 61 = true := by kernel_rfl
@[simp] theorem Try.fldS61_0 : fldS Try.prog 61 0 = some (0, 1, false) := by kernel_rfl
@[simp] theorem Try.fldS61_1 : fldS Try.prog 61 1 = some (1, 1, false) := by kernel_rfl
@[simp] theorem Try.aggS62 : aggS Try.prog 62 = some true := by kernel_rfl
@[simp] theorem Try.szS62 : szS Try.prog 62 = some 2 := by kernel_rfl
@[simp] theorem Try.byS62 : byS Try.prog 62 = some 32 := by kernel_rfl
@[simp] theorem Try.zS62 : zS Try.prog 62 = some (.agg #[.slice none 0 0, .int .i64 0]) := by kernel_rfl
@[simp] theorem Try.strOk62 : structOk Try.prog 62 = true := by kernel_rfl
@[simp] theorem Try.fldS62_0 : fldS Try.prog 62 0 = some (0, 1, false) := by kernel_rfl
@[simp] theorem Try.fldS62_1 : fldS Try.prog 62 1 = some (1, 1, false) := by kernel_rfl
@[simp] theorem Try.aggS63 : aggS Try.prog 63 = some false := by kernel_rfl
@[simp] theorem Try.szS63 : szS Try.prog 63 = some 1 := by kernel_rfl
@[simp] theorem Try.byS63 : byS Try.prog 63 = some 24 := by kernel_rfl
@[simp] theorem Try.zS63 : zS Try.prog 63 = some (.slice none 0 0) := by kernel_rfl
@[simp] theorem Try.elS63 : elS Try.prog 63 = some 4 := by kernel_rfl
@[simp] theorem Try.nilKind63 : nilKind Try.prog 63 = 1 := by kernel_rfl
@[simp] theorem Try.aggS64 : aggS Try.prog 64 = some true := by kernel_rfl
@[simp] theorem Try.szS64 : szS Try.prog 64 = some 3 := by kernel_rfl
@[simp] theorem Try.byS64 : byS Try.prog 64 = some 56 := by kernel_rfl
@[simp] theorem Try.zS64 : zS Try.prog 64 = some (.agg #[.slice none 0 0, .slice none 0 0, .int .i64 0]) := by kernel_rfl
@[simp] theorem Try.strOk64 : structOk Try.prog 64 = true := by kernel_rfl
@[simp] theorem Try.fldS64_0 : fldS Try.prog 64 0 = some (0, 1, false) := by kernel_rfl
@[simp] theorem Try.fldS64_1 : fldS Try.prog 64 1 = some (1, 1, false) := by kernel_rfl
@[simp] theorem Try.fldS64_2 : fldS Try.prog 64 2 = some (2, 1, false) := by kernel_rfl
@[simp] theorem Try.aggS65 : aggS Try.prog 65 = some true := by kernel_rfl
@[simp] theorem Try.szS65 : szS Try.prog 65 = some 3 := by kernel_rfl
@[simp] theorem Try.byS65 : byS Try.prog 65 = some 56 := by kernel_rfl
@[simp] theorem Try.zS65 : zS Try.prog 65 = some (.agg #[.slice none 0 0, .slice none 0 0, .int .i64 0]) := by kernel_rfl
@[simp] theorem Try.strOk65 : structOk Try.prog 65 = true := by kernel_rfl
@[simp] theorem Try.fldS65_0 : fldS Try.prog 65 0 = some (0, 1, false) := by kernel_rfl
@[simp] theorem Try.fldS65_1 : fldS Try.prog 65 1 = some (1, 1, false) := by kernel_rfl
@[simp] theorem Try.fldS65_2 : fldS Try.prog 65 2 = some (2, 1, false) := by kernel_rfl
@[simp] theorem Try.aggS66 : aggS Try.prog 66 = some false := by kernel_rfl
@[simp] theorem Try.szS66 : szS Try.prog 66 = some 1 := by kernel_rfl
@[simp] theorem Try.byS66 : byS Try.prog 66 = some 8 := by kernel_rfl
@[simp] theorem Try.zS66 : zS Try.prog 66 = some (.nilFunc) := by kernel_rfl
@[simp] theorem Try.aggS67 : aggS Try.prog 67 = some true := by kernel_rfl
@[simp] theorem Try.szS67 : szS Try.prog 67 = some 6 := by kernel_rfl
@[simp] theorem Try.byS67 : byS Try.prog 67 = some 112 := by kernel_rfl
@[simp] theorem Try.zS67 : zS Try.prog 67 = some (.agg #[.slice none 0 0, .int .i64 0, .slice none 0 0, .slice none 0 0, .slice none 0 0, .bool false]) := by kernel_rfl
@[simp] theorem Try.strOk67 : structOk Try.prog 67 = true := by kernel_rfl
@[simp] theorem Try.fldS67_0 : fldS Try.prog 67 0 = some (0, 5, true) := by kernel_rfl
@[simp] theorem Try.fldS67_1 : fldS Try.prog 67 1 = some (5, 1, false) := by kernel_rfl
@[simp] theorem Try.aggS68 : aggS Try.prog 68 = some true := by kernel_rfl
@[simp] theorem Try.szS68 : szS Try.prog 68 = some 6 := by kernel_rfl
@[simp] theorem Try.byS68 : byS Try.prog 68 = some 112 := by kernel_rfl
@[simp] theorem Try.zS68 : zS Try.prog 68 = some (.agg #[.slice none 0 0, .int .i64 0, .slice none 0 0, .slice none 0 0, .slice none 0 0, .bool false]) := by kernel_rfl
@[simp] theorem Try.strOk68 : structOk Try.prog 68 = true := by kernel_rfl
@[simp] theorem Try.fldS68_0 : fldS Try.prog 68 0 = some (0, 5, true) := by kernel_rfl
@[simp] theorem Try.fldS68_1 : fldS Try.prog 68 1 = some (5, 1, false) := by kernel_rfl
@[simp] theorem Try.aggS69 : aggS Try.prog 69 = some false := by kernel_rfl
@[simp] theorem Try.szS69 : szS Try.prog 69 = some 1 := by kernel_rfl
@[simp] theorem Try.byS69 : byS Try.prog 69 = some 8 := by kernel_rfl
@[simp] theorem Try.zS69 : zS Try.prog 69 = some (.nilFunc) := by kernel_rfl
@[simp] theorem Try.aggS70 : aggS Try.prog 70 = some false := by kernel_rfl
@[simp] theorem Try.szS70 : szS Try.prog 70 = some 1 := by kernel_rfl
@[simp] theorem Try.byS70 : byS Try.prog 70 = some 8 := by kernel_rfl
@[simp] theorem Try.zS70 : zS Try.prog 70 = some (.nilFunc) := by kernel_rfl
@[simp] theorem Try.aggS71 : aggS Try.prog 71 = some false := by kernel_rfl
@[simp] theorem Try.szS71 : szS Try.prog 71 = some 1 := by kernel_rfl
@[simp] theorem Try.byS71 : byS Try.prog 71 = some 8 := by kernel_rfl
@[simp] theorem Try.zS71 : zS Try.prog 71 = some (.nilFunc) := by kernel_rfl
@[simp] theorem Try.aggS72 : aggS Try.prog 72 = some false := by kernel_rfl
@[simp] theorem Try.szS72 : szS Try.prog 72 = some 1 := by kernel_rfl
@[simp] theorem Try.byS72 : byS Try.prog 72 = some 8 := by kernel_rfl
@[simp] theorem Try.zS72 : zS Try.prog 72 = some (.nilFunc) := by kernel_rfl
@[simp] theorem Try.aggS73 : aggS Try.prog 73 = some false := by kernel_rfl
@[simp] theorem Try.szS73 : szS Try.prog 73 = some 1 := by kernel_rfl
@[simp] theorem Try.byS73 : byS Try.prog 73 = some 8 := by kernel_rfl
@[simp] theorem Try.zS73 : zS Try.prog 73 = some (.nilFunc) := by kernel_rfl
@[simp] theorem Try.aggS74 : aggS Try.prog 74 = some false := by kernel_rfl
@[simp] theorem Try.szS74 : szS Try.prog 74 = some 1 := by kernel_rfl
@[simp] theorem Try.byS74 : byS Try.prog 74 = some 24 := by kernel_rfl
@[simp] theorem Try.zS74 : zS Try.prog 74 = some (.slice none 0 0) := by kernel_rfl
@[simp] theorem Try.elS74 : elS Try.prog 74 = some 29 := by kernel_rfl
@[simp] theorem Try.nilKind74 : nilKind Try.prog 74 = 1 := by kernel_rfl
@[simp] theorem Try.aggS75 : aggS Try.prog 75 = some false := by kernel_rfl
@[simp] theorem Try.szS75 : szS Try.prog 75 = some 1 := by kernel_rfl
@[simp] theorem Try.byS75 : byS Try.prog 75 = some 8 := by kernel_rfl
@[simp] theorem Try.zS75 : zS Try.prog 75 = some (.nilFunc) := by kernel_rfl
@[simp] theorem Try.aggS76 : aggS Try.prog 76 = some false := by kernel_rfl
@[simp] theorem Try.szS76 : szS Try.prog 76 = some 1 := by kernel_rfl
@[simp] theorem Try.byS76 : byS Try.prog 76 = some 8 := by kernel_rfl
@[simp] theorem Try.zS76 : zS Try.prog 76 = some (.nilFunc) := by kernel_rfl
@[simp] theorem Try.aggS77 : aggS Try.prog 77 = some false := by kernel_rfl
@[simp] theorem Try.szS77 : szS Try.prog 77 = some 1 := by kernel_rfl
@[simp] theorem Try.byS77 : byS Try.prog 77 = some 8 := by kernel_rfl
@[simp] theorem Try.zS77 : zS Try.prog 77 = some (.nilFunc) := by kernel_rfl
@[simp] theorem Try.aggS78 : aggS Try.prog 78 = some false := by kernel_rfl
@[simp] theorem Try.szS78 : szS Try.prog 78 = some 1 := by kernel_rfl
@[simp] theorem Try.byS78 : byS Try.prog 78 = some 8 := by kernel_rfl
@[simp] theorem Try.zS78 : zS Try.prog 78 = some (.nilFunc) := by kernel_rfl
@[simp] theorem Try.aggS80 : aggS Try.prog 80 = some false := by kernel_rfl
@[simp] theorem Try.szS80 : szS Try.prog 80 = some 1 := by kernel_rfl
@[simp] theorem Try.byS80 : byS Try.prog 80 = some 8 := by kernel_rfl
@[simp] theorem Try.zS80 : zS Try.prog 80 = some (.nilFunc) := by kernel_rfl
@[simp] theorem Try.aggS81 : aggS Try.prog 81 = some false := by kernel_rfl
@[simp] theorem Try.szS81 : szS Try.prog 81 = some 1 := by kernel_rfl
@[simp] theorem Try.byS81 : byS Try.prog 81 = some 8 := by kernel_rfl
@[simp] theorem Try.zS81 : zS Try.prog 81 = some (.map none) := by kernel_rfl
@[simp] theorem Try.nilKind81 : nilKind Try.prog 81 = 3 := by kernel_rfl
@[simp] theorem Try.mapS81 : mapS Try.prog 81 = some (3, 29) := by kernel_rfl
@[simp] theorem Try.aggS82 : aggS Try.prog 82 = some false := by kernel_rfl
@[simp] theorem Try.szS82 : szS Try.prog 82 = some 1 := by kernel_rfl
@[simp] theorem Try.byS82 : byS Try.prog 82 = some 8 := by kernel_rfl
@[simp] theorem Try.zS82 : zS Try.prog 82 = some (.nilFunc) := by kernel_rfl
@[simp] theorem Try.aggS83 : aggS Try.prog 83 = some false := by kernel_rfl
@[simp] theorem Try.szS83 : szS Try.prog 83 = some 1 := by kernel_rfl
@[simp] theorem Try.byS83 : byS Try.prog 83 = some 8 := by kernel_rfl
@[simp] theorem Try.zS83 : zS Try.prog 83 = some (.nilFunc) := by kernel_rfl
@[simp] theorem Try.aggS84 : aggS Try.prog 84 = some true := by kernel_rfl
@[simp] theorem Try.szS84 : szS Try.prog 84 = some 2 := by kernel_rfl
@[simp] theorem Try.byS84 : byS Try.prog 84 = some 32 := by kernel_rfl
@[simp] theorem Try.zS84 : zS Try.prog 84 = some (.agg #[.slice none 0 0, .nilFunc]) := by kernel_rfl
@[simp] theorem Try.strOk84 : structOk Try.prog 84 = true := by kernel_rfl
@[simp] theorem Try.fldS84_0 : fldS Try.prog 84 0 = some (0, 1, false) := by kernel_rfl
@[simp] theorem Try.fldS84_1 : fldS Try.prog 84 1 = some (1, 1, false) := by kernel_rfl
@[simp] theorem Try.aggS85 : aggS Try.prog 85 = some true := by kernel_rfl
@[simp] theorem Try.szS85 : szS Try.prog 85 = some 2 := by kernel_rfl
@[simp] theorem Try.byS85 : byS Try.prog 85 = some 32 := by kernel_rfl
@[simp] theorem Try.zS85 : zS Try.prog 85 = some (.agg #[.slice none 0 0, .nilFunc]) := by kernel_rfl
@[simp] theorem Try.strOk85 : structOk Try.prog 85 = true := by kernel_rfl
@[simp] theorem Try.fldS85_0 : fldS Try.prog 85 0 = some (0, 1, false) := by kernel_rfl
@[simp] theorem Try.fldS85_1 : fldS Try.prog 85 1 = some (1, 1, false) := by kernel_rfl
@[simp] theorem Try.aggS86 : aggS Try.prog 86 = some false := by kernel_rfl
@[simp] theorem Try.szS86 : szS Try.prog 86 = some 1 := by kernel_rfl
@[simp] theorem Try.byS86 : byS Try.prog 86 = some 8 := by kernel_rfl
@[simp] theorem Try.zS86 : zS Try.prog 86 = some (.nilFunc) := by kernel_rfl
@[simp] theorem Try.aggS87 : aggS Try.prog 87 = some false := by kernel_rfl
@[simp] theorem Try.szS87 : szS Try.prog 87 = some 1 := by kernel_rfl
@[simp] theorem Try.byS87 : byS Try.prog 87 = some 8 := by kernel_rfl
@[simp] theorem Try.zS87 : zS Try.prog 87 = some (.nilFunc) := by kernel_rfl
@[simp] theorem Try.aggS88 : aggS Try.prog 88 = some false := by kernel_rfl
@[simp] theorem Try.szS88 : szS Try.prog 88 = some 1 := by kernel_rfl
@[simp] theorem Try.byS88 : byS Try.prog 88 = some 8 := by kernel_rfl
@[simp] theorem Try.zS88 : zS Try.prog 88 = some (.nilFunc) := by kernel_rfl
@[simp] theorem Try.aggS89 : aggS Try.prog 89 = some false := by kernel_rfl
@[simp] theorem Try.szS89 : szS Try.prog 89 = some 1 := by kernel_rfl
@[simp] theorem Try.byS89 : byS Try.prog 89 = some 8 := by kernel_rfl
@[simp] theorem Try.zS89 : zS Try.prog 89 = some (.nilFunc) := by kernel_rfl
@[simp] theorem Try.aggS90 : aggS Try.prog 90 = some false := by kernel_rfl
@[simp] theorem Try.szS90 : szS Try.prog 90 = some 1 := by kernel_rfl
@[simp] theorem Try.byS90 : byS Try.prog 90 = some 8 := by kernel_rfl
@[simp] theorem Try.zS90 : zS Try.prog 90 = some (.pointer none) := by kernel_rfl
@[simp] theorem Try.nilKind90 : nilKind Try.prog 90 = 2 := by kernel_rfl
@[simp] theorem Try.aggS92 : aggS Try.prog 92 = some false := by kernel_rfl
@[simp] theorem Try.szS92 : szS Try.prog 92 = some 1 := by kernel_rfl
@[simp] theorem Try.byS92 : byS Try.prog 92 = some 8 := by kernel_rfl
@[simp] theorem Try.zS92 : zS Try.prog 92 = some (.nilFunc) := by kernel_rfl
@[simp] theorem Try.aggS93 : aggS Try.prog 93 = some false := by kernel_rfl
@[simp] theorem Try.szS93 : szS Try.prog 93 = some 1 := by kernel_rfl
@[simp] theorem Try.byS93 : byS Try.prog 93 = some 8 := by kernel_rfl
@[simp] theorem Try.zS93 : zS Try.prog 93 = some (.nilFunc) := by kernel_rfl
@[simp] theorem Try.aggS94 : aggS Try.prog 94 = some false := by kernel_rfl
@[simp] theorem Try.szS94 : szS Try.prog 94 = some 1 := by kernel_rfl
@[simp] theorem Try.byS94 : byS Try.prog 94 = some 8 := by kernel_rfl
@[simp] theorem Try.zS94 : zS Try.prog 94 = some (.nilFunc) := by kernel_rfl
@[simp] theorem Try.aggS95 : aggS Try.prog 95 = some false := by kernel_rfl
@[simp] theorem Try.szS95 : szS Try.prog 95 = some 1 := by kernel_rfl
@[simp] theorem Try.byS95 : byS Try.prog 95 = some 8 := by kernel_rfl
@[simp] theorem Try.zS95 : zS Try.prog 95 = some (.nilFunc) := by kernel_rfl
@[simp] theorem Try.aggS96 : aggS Try.prog 96 = some false := by kernel_rfl
@[simp] theorem Try.szS96 : szS Try.prog 96 = some 1 := by kernel_rfl
@[simp] theorem Try.byS96 : byS Try.prog 96 = some 8 := by kernel_rfl
@[simp] theorem Try.zS96 : zS Try.prog 96 = some (.int .i64 0) := by kernel_rfl
@[simp] theorem Try.intK96 : intK Try.prog 96 = some .i64 := by kernel_rfl
@[simp] theorem Try.aggS98 : aggS Try.prog 98 = some false := by kernel_rfl
@[simp] theorem Try.szS98 : szS Try.prog 98 = some 1 := by kernel_rfl
@[simp] theorem Try.byS98 : byS Try.prog 98 = some 8 := by kernel_rfl
@[simp] theorem Try.zS98 : zS Try.prog 98 = some (.nilFunc) := by kernel_rfl
@[simp] theorem Try.aggS99 : aggS Try.prog 99 = some false := by kernel_rfl
@[simp] theorem Try.szS99 : szS Try.prog 99 = some 1 := by kernel_rfl
@[simp] theorem Try.byS99 : byS Try.prog 99 = some 8 := by kernel_rfl
@[simp] theorem Try.zS99 : zS Try.prog 99 = some (.nilFunc) := by kernel_rfl
@[simp] theorem Try.aggS100 : aggS Try.prog 100 = some false := by kernel_rfl
@[simp] theorem Try.szS100 : szS Try.prog 100 = some 1 := by kernel_rfl
@[simp] theorem Try.byS100 : byS Try.prog 100 = some 8 := by kernel_rfl
@[simp] theorem Try.zS100 : zS Try.prog 100 = some (.nilFunc) := by kernel_rfl
@[simp] theorem Try.aggS101 : aggS Try.prog 101 = some false := by kernel_rfl
@[simp] theorem Try.szS101 : szS Try.prog 101 = some 1 := by kernel_rfl
@[simp] theorem Try.byS101 : byS Try.prog 101 = some 8 := by kernel_rfl
@[simp] theorem Try.zS101 : zS Try.prog 101 = some (.nilFunc) := by kernel_rfl
@[simp] theorem Try.aggS102 : aggS Try.prog 102 = some false := by kernel_rfl
@[simp] theorem Try.szS102 : szS Try.prog 102 = some 1 := by kernel_rfl
@[simp] theorem Try.byS102 : byS Try.prog 102 = some 8 := by kernel_rfl
@[simp] theorem Try.zS102 : zS Try.prog 102 = some (.nilFunc) := by kernel_rfl
@[simp] theorem Try.aggS103 : aggS Try.prog 103 = some false := by kernel_rfl
@[simp] theorem Try.szS103 : szS Try.prog 103 = some 1 := by kernel_rfl
@[simp] theorem Try.byS103 : byS Try.prog 103 = some 8 := by kernel_rfl
@[simp] theorem Try.zS103 : zS Try.prog 103 = some (.nilFunc) := by kernel_rfl
@[simp] theorem Try.aggS104 : aggS Try.prog 104 = some false := by kernel_rfl
@[simp] theorem Try.szS104 : szS Try.prog 104 = some 1 := by kernel_rfl
@[simp] theorem Try.byS104 : byS Try.prog 104 = some 4 := by kernel_rfl
@[simp] theorem Try.zS104 : zS Try.prog 104 = some (.int .u32 0) := by kernel_rfl
@[simp] theorem Try.intK104 : intK Try.prog 104 = some .u32 := by kernel_rfl
@[simp] theorem Try.aggS105 : aggS Try.prog 105 = some false := by kernel_rfl
@[simp] theorem Try.szS105 : szS Try.prog 105 = some 1 := by kernel_rfl
@[simp] theorem Try.byS105 : byS Try.prog 105 = some 8 := by kernel_rfl
@[simp] theorem Try.zS105 : zS Try.prog 105 = some (.nilFunc) := by kernel_rfl
@[simp] theorem Try.aggS106 : aggS Try.prog 106 = some false := by kernel_rfl
@[simp] theorem Try.szS106 : szS Try.prog 106 = some 1 := by kernel_rfl
@[simp] theorem Try.byS106 : byS Try.prog 106 = some 8 := by kernel_rfl
@[simp] theorem Try.zS106 : zS Try.prog 106 = some (.int .u64 0) := by kernel_rfl
@[simp] theorem Try.intK106 : intK Try.prog 106 = some .u64 := by kernel_rfl
@[simp] theorem Try.aggS107 : aggS Try.prog 107 = some false := by kernel_rfl
@[simp] theorem Try.szS107 : szS Try.prog 107 = some 1 := by kernel_rfl
@[simp] theorem Try.byS107 : byS Try.prog 107 = some 8 := by kernel_rfl
@[simp] theorem Try.zS107 : zS Try.prog 107 = some (.nilFunc) := by kernel_rfl
@[simp] theorem Try.aggS108 : aggS Try.prog 108 = some false := by kernel_rfl
@[simp] theorem Try.szS108 : szS Try.prog 108 = some 1 := by kernel_rfl
@[simp] theorem Try.byS108 : byS Try.prog 108 = some 8 := by kernel_rfl
@[simp] theorem Try.zS108 : zS Try.prog 108 = some (.nilFunc) := by kernel_rfl
@[simp] theorem Try.aggS109 : aggS Try.prog 109 = some false := by kernel_rfl
@[simp] theorem Try.szS109 : szS Try.prog 109 = some 1 := by kernel_rfl
@[simp] theorem Try.byS109 : byS Try.prog 109 = some 8 := by kernel_rfl
@[simp] theorem Try.zS109 : zS Try.prog 109 = some (.nilFunc) := by kernel_rfl
@[simp] theorem Try.aggS110 : aggS Try.prog 110 = some false := by kernel_rfl
@[simp] theorem Try.szS110 : szS Try.prog 110 = some 1 := by kernel_rfl
@[simp] theorem Try.byS110 : byS Try.prog 110 = some 8 := by kernel_rfl
@[simp] theorem Try.zS110 : zS Try.prog 110 = some (.nilFunc) := by kernel_rfl
@[simp] theorem Try.aggS111 : aggS Try.prog 111 = some false := by kernel_rfl
@[simp] theorem Try.szS111 : szS Try.prog 111 = some 1 := by kernel_rfl
@[simp] theorem Try.byS111 : byS Try.prog 111 = some 8 := by kernel_rfl
@[simp] theorem Try.zS111 : zS Try.prog 111 = some (.nilFunc) := by kernel_rfl
@[simp] theorem Try.aggS112 : aggS Try.prog 112 = some false := by kernel_rfl
@[simp] theorem Try.szS112 : szS Try.prog 112 = some 1 := by kernel_rfl
@[simp] theorem Try.byS112 : byS Try.prog 112 = some 8 := by kernel_rfl
@[simp] theorem Try.zS112 : zS Try.prog 112 = some (.nilFunc) := by kernel_rfl
@[simp] theorem Try.aggS113 : aggS Try.prog 113 = some false := by kernel_rfl
@[simp] theorem Try.szS113 : szS Try.prog 113 = some 1 := by kernel_rfl
@[simp] theorem Try.byS113 : byS Try.prog 113 = some 8 := by kernel_rfl
@[simp] theorem Try.zS113 : zS Try.prog 113 = some (.int .u64 0) := by kernel_rfl
@[simp] theorem Try.intK113 : intK Try.prog 113 = some .u64 := by kernel_rfl
@[simp] theorem Try.aggS114 : aggS Try.prog 114 = some false := by kernel_rfl
@[simp] theorem Try.szS114 : szS Try.prog 114 = some 1 := by kernel_rfl
@[simp] theorem Try.byS114 : byS Try.prog 114 = some 8 := by kernel_rfl
@[simp] theorem Try.zS114 : zS Try.prog 114 = some (.nilFunc) := by kernel_rfl
@[simp] theorem Try.aggS115 : aggS Try.prog 115 = some false := by kernel_rfl
@[simp] theorem Try.szS115 : szS Try.prog 115 = some 1 := by kernel_rfl
@[simp] theorem Try.byS115 : byS Try.prog 115 = some 8 := by kernel_rfl
@[simp] theorem Try.zS115 : zS Try.prog 115 = some (.nilFunc) := by kernel_rfl
@[simp] theorem Try.aggS116 : aggS Try.prog 116 = some false := by kernel_rfl
@[simp] theorem Try.szS116 : szS Try.prog 116 = some 1 := by kernel_rfl
@[simp] theorem Try.byS116 : byS Try.prog 116 = some 8 := by kernel_rfl
@[simp] theorem Try.zS116 : zS Try.prog 116 = some (.nilFunc) := by kernel_rfl
@[simp] theorem Try.aggS117 : aggS Try.prog 117 = some false := by kernel_rfl
@[simp] theorem Try.szS117 : szS Try.prog 117 = some 1 := by kernel_rfl
@[simp] theorem Try.byS117 : byS Try.prog 117 = some 8 := by kernel_rfl
@[simp] theorem Try.zS117 : zS Try.prog 117 = some (.pointer none) := by kernel_rfl
@[simp] theorem Try.nilKind117 : nilKind Try.prog 117 = 2 := by kernel_rfl
@[simp] theorem Try.aggS118 : aggS Try.prog 118 = some false := by kernel_rfl
@[simp] theorem Try.szS118 : szS Try.prog 118 = some 1 := by kernel_rfl
@[simp] theorem Try.byS118 : byS Try.prog 118 = some 8 := by kernel_rfl
@[simp] theorem Try.zS118 : zS Try.prog 118 = some (.nilFunc) := by kernel_rfl
@[simp] theorem Try.aggS119 : aggS Try.prog 119 = some false := by kernel_rfl
@[simp] theorem Try.szS119 : szS Try.prog 119 = some 1 := by kernel_rfl
@[simp] theorem Try.byS119 : byS Try.prog 119 = some 8 := by kernel_rfl
@[simp] theorem Try.zS119 : zS Try.prog 119 = some (.nilFunc) := by kernel_rfl
@[simp] theorem Try.aggS120 : aggS Try.prog 120 = some false := by kernel_rfl
@[simp] theorem Try.szS120 : szS Try.prog 120 = some 1 := by kernel_rfl
@[simp] theorem Try.byS120 : byS Try.prog 120 = some 8 := by kernel_rfl
@[simp] theorem Try.zS120 : zS Try.prog 120 = some (.nilFunc) := by kernel_rfl
@[simp] theorem Try.aggS121 : aggS Try.prog 121 = some false := by kernel_rfl
@[simp] theorem Try.szS121 : szS Try.prog 121 = some 1 := by kernel_rfl
@[simp] theorem Try.byS121 : byS Try.prog 121 = some 8 := by kernel_rfl
@[simp] theorem Try.zS121 : zS Try.prog 121 = some (.nilFunc) := by kernel_rfl
@[simp] theorem Try.aggS122 : aggS Try.prog 122 = some false := by kernel_rfl
@[simp] theorem Try.szS122 : szS Try.prog 122 = some 1 := by kernel_rfl
@[simp] theorem Try.byS122 : byS Try.prog 122 = some 8 := by kernel_rfl
@[simp] theorem Try.zS122 : zS Try.prog 122 = some (.pointer none) := by kernel_rfl
@[simp] theorem Try.nilKind122 : nilKind Try.prog 122 = 2 := by kernel_rfl
@[simp] theorem Try.aggS124 : aggS Try.prog 124 = some false := by kernel_rfl
@[simp] theorem Try.szS124 : szS Try.prog 124 = some 1 := by kernel_rfl
@[simp] theorem Try.byS124 : byS Try.prog 124 = some 8 := by kernel_rfl
@[simp] theorem Try.zS124 : zS Try.prog 124 = some (.nilFunc) := by kernel_rfl
@[simp] theorem Try.aggS125 : aggS Try.prog 125 = some false := by kernel_rfl
@[simp] theorem Try.szS125 : szS Try.prog 125 = some 1 := by kernel_rfl
@[simp] theorem Try.byS125 : byS Try.prog 125 = some 8 := by kernel_rfl
@[simp] theorem Try.zS125 : zS Try.prog 125 = some (.nilFunc) := by kernel_rfl
@[simp] theorem Try.aggS126 : aggS Try.prog 126 = some false := by kernel_rfl
@[simp] theorem Try.szS126 : szS Try.prog 126 = some 1 := by kernel_rfl
@[simp] theorem Try.byS126 : byS Try.prog 126 = some 8 := by kernel_rfl
@[simp] theorem Try.zS126 : zS Try.prog 126 = some (.nilFunc) := by kernel_rfl
@[simp] theorem Try.aggS127 : aggS Try.prog 127 = some false := by kernel_rfl
@[simp] theorem Try.szS127 : szS Try.prog 127 = some 1 := by kernel_rfl
@[simp] theorem Try.byS127 : byS Try.prog 127 = some 8 := by kernel_rfl
@[simp] theorem Try.zS127 : zS Try.prog 127 = some (.nilFunc) := by kernel_rfl
@[simp] theorem Try.aggS128 : aggS Try.prog 128 = some true := by kernel_rfl
@[simp] theorem Try.szS128 : szS Try.prog 128 = some 4 := by kernel_rfl
@[simp] theorem Try.byS128 : byS Try.prog 128 = some 40 := by kernel_rfl
@[simp] theorem Try.zS128 : zS Try.prog 128 = some (.agg #[.pointer none, .pointer none, .pointer none, .string ⟨#[]⟩]) := by kernel_rfl
@[simp] theorem Try.strOk128 : structOk Try.prog 128 = true := by kernel_rfl
@[simp] theorem Try.fldS128_0 : fldS Try.prog 128 0 = some (0, 1, false) := by kernel_rfl
@[simp] theorem Try.fldS128_1 : fldS Try.prog 128 1 = some (1, 1, false) := by kernel_rfl
@[simp] theorem Try.fldS128_2 : fldS Try.prog 128 2 = some (2, 1, false) := by kernel_rfl
@[simp] theorem Try.fldS128_3 : fldS Try.prog 128 3 = some (3, 1, false) := by kernel_rfl
@[simp] theorem Try.aggS129 : aggS Try.prog 129 = some true := by kernel_rfl
@[simp] theorem Try.szS129 : szS Try.prog 129 = some 4 := by kernel_rfl
@[simp] theorem Try.byS129 : byS Try.prog 129 = some 40 := by kernel_rfl
@[simp] theorem Try.zS129 : zS Try.prog 129 = some (.agg #[.pointer none, .pointer none, .pointer none, .string ⟨#[]⟩]) := by kernel_rfl
@[simp] theorem Try.strOk129 : structOk Try.prog 129 = true := by kernel_rfl
@[simp] theorem Try.fldS129_0 : fldS Try.prog 129 0 = some (0, 1, false) := by kernel_rfl
@[simp] theorem Try.fldS129_1 : fldS Try.prog 129 1 = some (1, 1, false) := by kernel_rfl
@[simp] theorem Try.fldS129_2 : fldS Try.prog 129 2 = some (2, 1, false) := by kernel_rfl
@[simp] theorem Try.fldS129_3 : fldS Try.prog 129 3 = some (3, 1, false) := by kernel_rfl
@[simp] theorem Try.aggS130 : aggS Try.prog 130 = some true := by kernel_rfl
@[simp] theorem Try.szS130 : szS Try.prog 130 = some 0 := by kernel_rfl
@[simp] theorem Try.byS130 : byS Try.prog 130 = some 0 := by kernel_rfl
@[simp] theorem Try.zS130 : zS Try.prog 130 = some (.agg #[]) := by kernel_rfl
@[simp] theorem Try.arrS130 : arrS Try.prog 130 = some (0, 1) := by kernel_rfl
@[simp] theorem Try.aggS131 : aggS Try.prog 131 = some true := by kernel_rfl
@[simp] theorem Try.szS131 : szS Try.prog 131 = some 0 := by kernel_rfl
@[simp] theorem Try.byS131 : byS Try.prog 131 = some 0 := by kernel_rfl
@[simp] theorem Try.zS131 : zS Try.prog 131 = some (.agg #[]) := by kernel_rfl
@[simp] theorem Try.strOk131 : structOk Try.prog 131 = true := by kernel_rfl
@[simp] theorem Try.fldS131_0 : fldS Try.prog 131 0 = some (0, 0, true) := by kernel_rfl
@[simp] theorem Try.aggS132 : aggS Try.prog 132 = some true := by kernel_rfl
@[simp] theorem Try.szS132 : szS Try.prog 132 = some 0 := by kernel_rfl
@[simp] theorem Try.byS132 : byS Try.prog 132 = some 0 := by kernel_rfl
@[simp] theorem Try.zS132 : zS Try.prog 132 = some (.agg #[]) := by kernel_rfl
@[simp] theorem Try.strOk132 : structOk Try.prog 132 = true := by kernel_rfl
@[simp] theorem Try.fldS132_0 : fldS Try.prog 132 0 = some (0, 0, true) := by kernel_rfl
@[simp] theorem Try.aggS133 : aggS Try.prog 133 = some false := by kernel_rfl
@[simp] theorem Try.szS133 : szS Try.prog 133 = some 1 := by kernel_rfl
@[simp] theorem Try.byS133 : byS Try.prog 133 = some 1 := by kernel_rfl
@[simp] theorem Try.zS133 : zS Try.prog 133 = some (.int .u8 0) := by kernel_rfl
@[simp] theorem Try.intK133 : intK Try.prog 133 = some .u8 := by kernel_rfl
@[simp] theorem Try.aggS134 : aggS Try.prog 134 = some false := by kernel_rfl
@[simp] theorem Try.szS134 : szS Try.prog 134 = some 1 := by kernel_rfl
@[simp] theorem Try.byS134 : byS Try.prog 134 = some 1 := by kernel_rfl
@[simp] theorem Try.zS134 : zS Try.prog 134 = some (.int .u8 0) := by kernel_rfl
@[simp] theorem Try.intK134 : intK Try.prog 134 = some .u8 := by kernel_rfl
@[simp] theorem Try.aggS135 : aggS Try.prog 135 = some false := by kernel_rfl
@[simp] theorem Try.szS135 : szS Try.prog 135 = some 1 := by kernel_rfl
@[simp] theorem Try.byS135 : byS Try.prog 135 = some 8 := by kernel_rfl
@[simp] theorem Try.zS135 : zS Try.prog 135 = some (.nilFunc) := by kernel_rfl
@[simp] theorem Try.aggS136 : aggS Try.prog 136 = some false := by kernel_rfl
@[simp] theorem Try.szS136 : szS Try.prog 136 = some 1 := by kernel_rfl
@[simp] theorem Try.byS136 : byS Try.prog 136 = some 8 := by kernel_rfl
@[simp] theorem Try.zS136 : zS Try.prog 136 = some (.pointer none) := by kernel_rfl
@[simp] theorem Try.nilKind136 : nilKind Try.prog 136 = 2 := by kernel_rfl
@[simp] theorem Try.aggS137 : aggS Try.prog 137 = some false := by kernel_rfl
@[simp] theorem Try.szS137 : szS Try.prog 137 = some 1 := by kernel_rfl
@[simp] theorem Try.byS137 : byS Try.prog 137 = some 4 := by kernel_rfl
@[simp] theorem Try.zS137 : zS Try.prog 137 = some (.int .i32 0) := by kernel_rfl
@[simp] theorem Try.intK137 : intK Try.prog 137 = some .i32 := by kernel_rfl
@[simp] theorem Try.aggS138 : aggS Try.prog 138 = some false := by kernel_rfl
@[simp] theorem Try.szS138 : szS Try.prog 138 = some 1 := by kernel_rfl
@[simp] theorem Try.byS138 : byS Try.prog 138 = some 4 := by kernel_rfl
@[simp] theorem Try.zS138 : zS Try.prog 138 = some (.int .i32 0) := by kernel_rfl
@[simp] theorem Try.intK138 : intK Try.prog 138 = some .i32 := by kernel_rfl
@[simp] theorem Try.aggS139 : aggS Try.prog 139 = some true := by kernel_rfl
@[simp] theorem Try.szS139 : szS Try.prog 139 = some 11 := by kernel_rfl
@[simp] theorem Try.byS139 : byS Try.prog 139 = some 48 := by kernel_rfl
@[simp] theorem Try.zS139 : zS Try.prog 139 = some (.agg #[.int .u64 0, .int .u64 0, .int .u32 0, .int .u8 0, .int .u8 0, .int .u8 0, .int .u8 0, .nilFunc, .pointer none, .int .i32 0, .int .i32 0]) := by kernel_rfl
@[simp] theorem Try.strOk139 : structOk Try.prog 139 = true := by kernel_rfl
@[simp] theorem Try.fldS139_0 : fldS Try.prog 139 0 = some (0, 1, false) := by kernel_rfl
@[simp] theorem Try.fldS139_1 : fldS Try.prog 139 1 = some (1, 1, false) := by kernel_rfl
@[simp] theorem Try.fldS139_2 : fldS Try.prog 139 2 = some (2, 1, false) := by kernel_rfl
@[simp] theorem Try.fldS139_3 : fldS Try.prog 139 3 = some (3, 1, false) := by kernel_rfl
@[simp] theorem Try.fldS139_4 : fldS Try.prog 139 4 = some (4, 1, false) := by kernel_rfl
@[simp] theorem Try.fldS139_5 : fldS Try.prog 139 5 = some (5, 1, false) := by kernel_rfl
@[simp] theorem Try.fldS139_6 : fldS Try.prog 139 6 = some (6, 1, false) := by kernel_rfl
@[simp] theorem Try.fldS139_7 : fldS Try.prog 139 7 = some (7, 1, false) := by kernel_rfl
@[simp] theorem Try.fldS139_8 : fldS Try.prog 139 8 = some (8, 1, false) := by kernel_rfl
@[simp] theorem Try.fldS139_9 : fldS Try.prog 139 9 = some (9, 1, false) := by kernel_rfl
@[simp] theorem Try.fldS139_10 : fldS Try.prog 139 10 = some (10, 1, false) := by kernel_rfl
@[simp] theorem Try.aggS140 : aggS Try.prog 140 = some true := by kernel_rfl
@[simp] theorem Try.szS140 : szS Try.prog 140 = some 11 := by kernel_rfl
@[simp] theorem Try.byS140 : byS Try.prog 140 = some 48 := by kernel_rfl
@[simp] theorem Try.zS140 : zS Try.prog 140 = some (.agg #[.int .u64 0, .int .u64 0, .int .u32 0, .int .u8 0, .int .u8 0, .int .u8 0, .int .u8 0, .nilFunc, .pointer none, .int .i32 0, .int .i32 0]) := by kernel_rfl
@[simp] theorem Try.strOk140 : structOk Try.prog 140 = true := by kernel_rfl
@[simp] theorem Try.fldS140_0 : fldS Try.prog 140 0 = some (0, 1, false) := by kernel_rfl
@[simp] theorem Try.fldS140_1 : fldS Try.prog 140 1 = some (1, 1, false) := by kernel_rfl
@[simp] theorem Try.fldS140_2 : fldS Try.prog 140 2 = some (2, 1, false) := by kernel_rfl
@[simp] theorem Try.fldS140_3 : fldS Try.prog 140 3 = some (3, 1, false) := by kernel_rfl
@[simp] theorem Try.fldS140_4 : fldS Try.prog 140 4 = some (4, 1, false) := by kernel_rfl
@[simp] theorem Try.fldS140_5 : fldS Try.prog 140 5 = some (5, 1, false) := by kernel_rfl
@[simp] theorem Try.fldS140_6 : fldS Try.prog 140 6 = some (6, 1, false) := by kernel_rfl
@[simp] theorem Try.fldS140_7 : fldS Try.prog 140 7 = some (7, 1, false) := by kernel_rfl
@[simp] theorem Try.fldS140_8 : fldS Try.prog 140 8 = some (8, 1, false) := by kernel_rfl
@[simp] theorem Try.fldS140_9 : fldS Try.prog 140 9 = some (9, 1, false) := by kernel_rfl
@[simp] theorem Try.fldS140_10 : fldS Try.prog 140 10 = some (10, 1, false) := by kernel_rfl
@[simp] theorem Try.aggS141 : aggS Try.prog 141 = some false := by kernel_rfl
@[simp] theorem Try.szS141 : szS Try.prog 141 = some 1 := by kernel_rfl
@[simp] theorem Try.byS141 : byS Try.prog 141 = some 8 := by kernel_rfl
@[simp] theorem Try.zS141 : zS Try.prog 141 = some (.pointer none) := by kernel_rfl
@[simp] theorem Try.ok2 : FnOk Try.prog 2 := ⟨Try.f2, Try.func2, by kernel_rfl, by kernel_rfl⟩
@[simp] theorem Try.ok3 : FnOk Try.prog 3 := ⟨Try.f3, Try.func3, by kernel_rfl, by kernel_rfl⟩
@[simp] theorem Try.ok4 : FnOk Try.prog 4 := ⟨Try.f4, Try.func4, by kernel_rfl, by kernel_rfl⟩
@[simp] theorem Try.ok5 : FnOk Try.prog 5 := ⟨Try.f5, Try.func5, by kernel_rfl, by kernel_rfl⟩
@[simp] theorem Try.ok6 : FnOk Try.prog 6 := ⟨Try.f6, Try.func6, by kernel_rfl, by kernel_rfl⟩
@[simp] theorem Try.ok7 : FnOk Try.prog 7 := ⟨Try.f7, Try.func7, by kernel_rfl, by kernel_rfl⟩
@[simp] theorem Try.ok8 : FnOk Try.prog 8 := ⟨Try.f8, Try.func8, by kernel_rfl, by kernel_rfl⟩
@[simp] theorem Try.ok9 : FnOk Try.prog 9 := ⟨Try.f9, Try.func9, by kernel_rfl, by kernel_rfl⟩
@[simp] theorem Try.ok10 : FnOk Try.prog 10 := ⟨Try.f10, Try.func10, by kernel_rfl, by kernel_rfl⟩
@[simp] theorem Try.ok11 : FnOk Try.prog 11 := ⟨Try.f11, Try.func11, by kernel_rfl, by kernel_rfl⟩
@[simp] theorem Try.ok12 : FnOk Try.prog 12 := ⟨Try.f12, Try.func12, by kernel_rfl, by kernel_rfl⟩
@[simp] theorem Try.ok13 : FnOk Try.prog 13 := ⟨Try.f13, Try.func13, by kernel_rfl, by kernel_rfl⟩
@[simp] theorem Try.ok14 : FnOk Try.prog 14 := ⟨Try.f14, Try.func14, by kernel_rfl, by kernel_rfl⟩
@[simp] theorem Try.ok15 : FnOk Try.prog 15 := ⟨Try.f15, Try.func15, by kernel_rfl, by kernel_rfl⟩
@[simp] theorem Try.ok16 : FnOk Try.prog 16 := ⟨Try.f16, Try.func16, by kernel_rfl, by kernel_rfl⟩
@[simp] theorem Try.ok17 : FnOk Try.prog 17 := ⟨Try.f17, Try.func17, by kernel_rfl, by kernel_rfl⟩
@[simp] theorem Try.ok18 : FnOk Try.prog 18 := ⟨Try.f18, Try.func18, by kernel_rfl, by kernel_rfl⟩
@[simp] theorem Try.ok19 : FnOk Try.prog 19 := ⟨Try.f19, Try.func19, by kernel_rfl, by kernel_rfl⟩
@[simp] theorem Try.ok20 : FnOk Try.prog 20 := ⟨Try.f20, Try.func20, by kernel_rfl, by kernel_rfl⟩
@[simp] theorem Try.ok21 : FnOk Try.prog 21 := ⟨Try.f21, Try.func21, by kernel_rfl, by kernel_rfl⟩
@[simp] theorem Try.ok22 : FnOk Try.prog 22 := ⟨Try.f22, Try.func22, by kernel_rfl, by kernel_rfl⟩
@[simp] theorem Try.ok23 : FnOk Try.prog 23 := ⟨Try.f23, Try.func23, by kernel_rfl, by kernel_rfl⟩
@[simp] theorem Try.ok24 : FnOk Try.prog 24 := ⟨Try.f24, Try.func24, by kernel_rfl, by kernel_rfl⟩
@[simp] theorem Try.ok25 : FnOk Try.prog 25 := ⟨Try.f25, Try.func25, by kernel_rfl, by kernel_rfl⟩
@[simp] theorem Try.ok26 : FnOk Try.prog 26 := ⟨Try.f26, Try.func26, by kernel_rfl, by kernel_rfl⟩
@[simp] theorem Try.ok27 : FnOk Try.prog 27 := ⟨Try.f27, Try.func27, by kernel_rfl, by kernel_rfl⟩
@[simp] theorem Try.ok28 : FnOk Try.prog 28 := ⟨Try.f28, Try.func28, by kernel_rfl, by kernel_rfl⟩
@[simp] theorem Try.ok29 : FnOk Try.prog 29 := ⟨Try.f29, Try.func29, by kernel_rfl, by kernel_rfl⟩
@[simp] theorem Try.ok30 : FnOk Try.prog 30 := ⟨Try.f30, Try.func30, by kernel_rfl, by kernel_rfl⟩
@[simp] theorem Try.ok31 : FnOk Try.prog 31 := ⟨Try.f31, Try.func31, by kernel_rfl, by kernel_rfl⟩
@[simp] theorem Try.ok32 : FnOk Try.prog 32 := ⟨Try.f32, Try.func32, by kernel_rfl, by kernel_rfl⟩
@[simp] theorem Try.ok33 : FnOk Try.prog 33 := ⟨Try.f33, Try.func33, by kernel_rfl, by kernel_rfl⟩
@[simp] theorem Try.ok34 : FnOk Try.prog 34 := ⟨Try.f34, Try.func34, by kernel_rfl, by kernel_rfl⟩
@[simp] theorem Try.ok35 : FnOk Try.prog 35 := ⟨Try.f35, Try.func35, by kernel_rfl, by kernel_rfl⟩
@[simp] theorem Try.ok36 : FnOk Try.prog 36 := ⟨Try.f36, Try.func36, by kernel_rfl, by kernel_rfl⟩
@[simp] theorem Try.ok37 : FnOk Try.prog 37 := ⟨Try.f37, Try.func37, by kernel_rfl, by kernel_rfl⟩
@[simp] theorem Try.ok38 : FnOk Try.prog 38 := ⟨Try.f38, Try.func38, by kernel_rfl, by kernel_rfl⟩
@[simp] theorem Try.ok39 : FnOk Try.prog 39 := ⟨Try.f39, Try.func39, by kernel_rfl, by kernel_rfl⟩
@[simp] theorem Try.ok40 : FnOk Try.prog 40 := ⟨Try.f40, Try.func40, by kernel_rfl, by kernel_rfl⟩
@[simp] theorem Try.ok41 : FnOk Try.prog 41 := ⟨Try.f41, Try.func41, by kernel_rfl, by kernel_rfl⟩
@[simp] theorem Try.ok42 : FnOk Try.prog 42 := ⟨Try.f42, Try.func42, by kernel_rfl, by kernel_rfl⟩
@[simp] theorem Try.ok43 : FnOk Try.prog 43 := ⟨Try.f43, Try.func43, by kernel_rfl, by kernel_rfl⟩
@[simp] theorem Try.ok44 : FnOk Try.prog 44 := ⟨Try.f44, Try.func44, by kernel_rfl, by kernel_rfl⟩
@[simp] theorem Try.ok45 : FnOk Try.prog 45 := ⟨Try.f45, Try.func45, by kernel_rfl, by kernel_rfl⟩
@[simp] theorem Try.ok46 : FnOk Try.prog 46 := ⟨Try.f46, Try.func46, by kernel_rfl, by kernel_rfl⟩
@[simp] theorem Try.ok47 : FnOk Try.prog 47 := ⟨Try.f47, Try.func47, by kernel_rfl, by kernel_rfl⟩
@[simp] theorem Try.ok48 : FnOk Try.prog 48 := ⟨Try.f48, Try.func48, by kernel_rfl, by kernel_rfl⟩
@[simp] theorem Try.ok49 : FnOk Try.prog 49 := ⟨Try.f49, Try.func49, by kernel_rfl, by kernel_rfl⟩
@[simp] theorem Try.ok50 : FnOk Try.prog 50 := ⟨Try.f50, Try.func50, by kernel_rfl, by kernel_rfl⟩
@[simp] theorem Try.ok51 : FnOk Try.prog 51 := ⟨Try.f51, Try.func51, by kernel_rfl, by kernel_rfl⟩
@[simp] theorem Try.ok52 : FnOk Try.prog 52 := ⟨Try.f52, Try.func52, by kernel_rfl, by kernel_rfl⟩
@[simp] theorem Try.ok53 : FnOk Try.prog 53 := ⟨Try.f53, Try.func53, by kernel_rfl, by kernel_rfl⟩
@[simp] theorem Try.ok54 : FnOk Try.prog 54 := ⟨Try.f54, Try.func54, by kernel_rfl, by kernel_rfl⟩
@[simp] theorem Try.ok55 : FnOk Try.prog 55 := ⟨Try.f55, Try.func55, by kernel_rfl, by kernel_rfl⟩
@[simp] theorem Try.ok56 : FnOk Try.prog 56 := ⟨Try.f56, Try.func56, by kernel_rfl, by kernel_rfl⟩
@[simp] theorem Try.ok57 : FnOk Try.prog 57 := ⟨Try.f57, Try.func57, by kernel_rfl, by kernel_rfl⟩
@[simp] theorem Try.ok58 : FnOk Try.prog 58 := ⟨Try.f58, Try.func58, by kernel_rfl, by kernel_rfl⟩
@[simp] theorem Try.ok59 : FnOk Try.prog 59 := ⟨Try.f59, Try.func59, by kernel_rfl, by kernel_rfl⟩
@[simp] theorem Try.ok60 : FnOk Try.prog 60 := ⟨Try.f60, Try.func60, by kernel_rfl, by kernel_rfl⟩
@[simp] theorem Try.ok61 : FnOk Try.prog 61 := ⟨Try.f61, Try.func61, by kernel_rfl, by kernel_rfl⟩
@[simp] theorem Try.ok62 : FnOk Try.prog 62 := ⟨Try.f62, Try.func62, by kernel_rfl, by kernel_rfl⟩
@[simp] theorem Try.ok63 : FnOk Try.prog 63 := ⟨Try.f63, Try.func63, by kernel_rfl, by kernel_rfl⟩
@[simp] theorem Try.ok64 : FnOk Try.prog 64 := ⟨Try.f64, Try.func64, by kernel_rfl, by kernel_rfl⟩
@[simp] theorem Try.ok65 : FnOk Try.prog 65 := ⟨Try.f65, Try.func65, by kernel_rfl, by kernel_rfl⟩
@[simp] theorem Try.ok66 : FnOk Try.prog 66 := ⟨Try.f66, Try.func66, by kernel_rfl, by kernel_rfl⟩
@[simp] theorem Try.ok67 : FnOk Try.prog 67 := ⟨Try.f67, Try.func67, by kernel_rfl, by kernel_rfl⟩
@[simp] theorem Try.ok68 : FnOk Try.prog 68 := ⟨Try.f68, Try.func68, by kernel_rfl, by kernel_rfl⟩
@[simp] theorem Try.ok69 : FnOk Try.prog 69 := ⟨Try.f69, Try.func69, by kernel_rfl, by kernel_rfl⟩
@[simp] theorem Try.ok70 : FnOk Try.prog 70 := ⟨Try.f70, Try.func70, by kernel_rfl, by kernel_rfl⟩
@[simp] theorem Try.ok71 : FnOk Try.prog 71 := ⟨Try.f71, Try.func71, by kernel_rfl, by kernel_rfl⟩
@[simp] theorem Try.ok72 : FnOk Try.prog 72 := ⟨Try.f72, Try.func72, by kernel_rfl, by kernel_rfl⟩
@[simp] theorem Try.ok73 : FnOk Try.prog 73 := ⟨Try.f73, Try.func73, by kernel_rfl, by kernel_rfl⟩
@[simp] theorem Try.ok74 : FnOk Try.prog 74 := ⟨Try.f74, Try.func74, by kernel_rfl, by kernel_rfl⟩
@[simp] theorem Try.ok75 : FnOk Try.prog 75 := ⟨Try.f75, Try.func75, by kernel_rfl, by kernel_rfl⟩
@[simp] theorem Try.ok76 : FnOk Try.prog 76 := ⟨Try.f76, Try.func76, by kernel_rfl, by kernel_rfl⟩
@[simp] theorem Try.ok77 : FnOk Try.prog 77 := ⟨Try.f77, Try.func77, by kernel_rfl, by kernel_rfl⟩
@[simp] theorem Try.ok78 : FnOk Try.prog 78 := ⟨Try.f78, Try.func78, by kernel_rfl, by kernel_rfl⟩
@[simp] theorem Try.ok79 : FnOk Try.prog 79 := ⟨Try.f79, Try.func79, by kernel_rfl, by kernel_rfl⟩
@[simp] theorem Try.ok80 : FnOk Try.prog 80 := ⟨Try.f80, Try.func80, by kernel_rfl, by kernel_rfl⟩
@[simp] theorem Try.ok82 : FnOk Try.prog 82 := ⟨Try.f82, Try.func82, by kernel_rfl, by kernel_rfl⟩
@[simp] theorem Try.ok83 : FnOk Try.prog 83 := ⟨Try.f83, Try.func83, by kernel_rfl, by kernel_rfl⟩
@[simp] theorem Try.ok84 : FnOk Try.prog 84 := ⟨Try.f84, Try.func84, by kernel_rfl, by kernel_rfl⟩
@[simp] theorem Try.ok85 : FnOk Try.prog 85 := ⟨Try.f85, Try.func85, by kernel_rfl, by kernel_rfl⟩
@[simp] theorem Try.ok86 : FnOk Try.prog 86 := ⟨Try.f86, Try.func86, by kernel_rfl, by kernel_rfl⟩
@[simp] theorem Try.ok87 : FnOk Try.prog 87 := ⟨Try.f87, Try.func87, by kernel_rfl, by kernel_rfl⟩
@[simp] theorem Try.ok88 : FnOk Try.prog 88 := ⟨Try.f88, Try.func88, by kernel_rfl, by kernel_rfl⟩
@[simp] theorem Try.ok89 : FnOk Try.prog 89 := ⟨Try.f89, Try.func89, by kernel_rfl, by kernel_rfl⟩
@[simp] theorem Try.ok90 : FnOk Try.prog 90 := ⟨Try.f90, Try.func90, by kernel_rfl, by kernel_rfl⟩
@[simp] theorem Try.ok91 : FnOk Try.prog 91 := ⟨Try.f91, Try.func91, by kernel_rfl, by kernel_rfl⟩
@[simp] theorem Try.ok92 : FnOk Try.prog 92 := ⟨Try.f92, Try.func92, by kernel_rfl, by kernel_rfl⟩
@[simp] theorem Try.ok93 : FnOk Try.prog 93 := ⟨Try.f93, Try.func93, by kernel_rfl, by kernel_rfl⟩
@[simp] theorem Try.ok94 : FnOk Try.prog 94 := ⟨Try.f94, Try.func94, by kernel_rfl, by kernel_rfl⟩
@[simp] theorem Try.ok95 : FnOk Try.prog 95 := ⟨Try.f95, Try.func95, by kernel_rfl, by kernel_rfl⟩
@[simp] theorem Try.ok96 : FnOk Try.prog 96 := ⟨Try.f96, Try.func96, by kernel_rfl, by kernel_rfl⟩
@[simp] theorem Try.ok97 : FnOk Try.prog 97 := ⟨Try.f97, Try.func97, by kernel_rfl, by kernel_rfl⟩
@[simp] theorem Try.ok98 : FnOk Try.prog 98 := ⟨Try.f98, Try.func98, by kernel_rfl, by kernel_rfl⟩
@[simp] theorem Try.ok99 : FnOk Try.prog 99 := ⟨Try.f99, Try.func99, by kernel_rfl, by kernel_rfl⟩
@[simp] theorem Try.ok100 : FnOk Try.prog 100 := ⟨Try.f100, Try.func100, by kernel_rfl, by kernel_rfl⟩
@[simp] theorem Try.ok101 : FnOk Try.prog 101 := ⟨Try.f101, Try.func101, by kernel_rfl, by kernel_rfl⟩
@[simp] theorem Try.ok102 : FnOk Try.prog 102 := ⟨Try.f102, Try.func102, by kernel_rfl, by kernel_rfl⟩
@[simp] theorem Try.ok103 : FnOk Try.prog 103 := ⟨Try.f103, Try.func103, by kernel_rfl, by kernel_rfl⟩
end Go.Proofs
