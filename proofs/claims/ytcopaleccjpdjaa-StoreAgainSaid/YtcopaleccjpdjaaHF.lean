/- The facts on the types and functions of this seat, printed by a program of this session (wip/tools/facts.py) off the translation; each is proved by the kernel. -/
import Derived.Test.YtcopaleccjpdjaaHC
import Derived.Test.YtcopaleccjpdjaaProg
import Derived.KernelRfl
namespace Go.Proofs
open Go Go.HC
@[simp] theorem Try.aggS0 : aggS Try.prog 0 = some false := by kernel_rfl
@[simp] theorem Try.szS0 : szS Try.prog 0 = some 1 := by kernel_rfl
@[simp] theorem Try.byS0 : byS Try.prog 0 = some 0 := by kernel_rfl
@[simp] theorem Try.zS0 : zS Try.prog 0 = some (.tuple #[]) := by kernel_rfl
@[simp] theorem Try.aggS1 : aggS Try.prog 1 = some false := by kernel_rfl
@[simp] theorem Try.szS1 : szS Try.prog 1 = some 1 := by kernel_rfl
@[simp] theorem Try.byS1 : byS Try.prog 1 = some 8 := by kernel_rfl
@[simp] theorem Try.zS1 : zS Try.prog 1 = some (.nilFunc) := by kernel_rfl
@[simp] theorem Try.aggS2 : aggS Try.prog 2 = some false := by kernel_rfl
@[simp] theorem Try.szS2 : szS Try.prog 2 = some 1 := by kernel_rfl
@[simp] theorem Try.byS2 : byS Try.prog 2 = some 8 := by kernel_rfl
@[simp] theorem Try.zS2 : zS Try.prog 2 = some (.int .i64 0) := by kernel_rfl
@[simp] theorem Try.intK2 : intK Try.prog 2 = some .i64 := by kernel_rfl
@[simp] theorem Try.aggS3 : aggS Try.prog 3 = some false := by kernel_rfl
@[simp] theorem Try.szS3 : szS Try.prog 3 = some 1 := by kernel_rfl
@[simp] theorem Try.byS3 : byS Try.prog 3 = some 8 := by kernel_rfl
@[simp] theorem Try.zS3 : zS Try.prog 3 = some (.int .i64 0) := by kernel_rfl
@[simp] theorem Try.intK3 : intK Try.prog 3 = some .i64 := by kernel_rfl
@[simp] theorem Try.aggS4 : aggS Try.prog 4 = some false := by kernel_rfl
@[simp] theorem Try.szS4 : szS Try.prog 4 = some 1 := by kernel_rfl
@[simp] theorem Try.byS4 : byS Try.prog 4 = some 1 := by kernel_rfl
@[simp] theorem Try.zS4 : zS Try.prog 4 = some (.bool false) := by kernel_rfl
@[simp] theorem Try.boolT4 : boolT Try.prog 4 = true := by kernel_rfl
@[simp] theorem Try.aggS5 : aggS Try.prog 5 = some false := by kernel_rfl
@[simp] theorem Try.szS5 : szS Try.prog 5 = some 1 := by kernel_rfl
@[simp] theorem Try.byS5 : byS Try.prog 5 = some 1 := by kernel_rfl
@[simp] theorem Try.zS5 : zS Try.prog 5 = some (.int .u8 0) := by kernel_rfl
@[simp] theorem Try.intK5 : intK Try.prog 5 = some .u8 := by kernel_rfl
@[simp] theorem Try.aggS6 : aggS Try.prog 6 = some false := by kernel_rfl
@[simp] theorem Try.szS6 : szS Try.prog 6 = some 1 := by kernel_rfl
@[simp] theorem Try.byS6 : byS Try.prog 6 = some 1 := by kernel_rfl
@[simp] theorem Try.zS6 : zS Try.prog 6 = some (.int .u8 0) := by kernel_rfl
@[simp] theorem Try.intK6 : intK Try.prog 6 = some .u8 := by kernel_rfl
@[simp] theorem Try.aggS7 : aggS Try.prog 7 = some true := by kernel_rfl
@[simp] theorem Try.szS7 : szS Try.prog 7 = some 4 := by kernel_rfl
@[simp] theorem Try.byS7 : byS Try.prog 7 = some 24 := by kernel_rfl
@[simp] theorem Try.zS7 : zS Try.prog 7 = some (.agg #[.int .i64 0, .int .i64 0, .bool false, .int .u8 0]) := by kernel_rfl
@[simp] theorem Try.strOk7 : structOk Try.prog 7 = true := by kernel_rfl
@[simp] theorem Try.fldS7_0 : fldS Try.prog 7 0 = some (0, 1, false) := by kernel_rfl
@[simp] theorem Try.fldS7_1 : fldS Try.prog 7 1 = some (1, 1, false) := by kernel_rfl
@[simp] theorem Try.fldS7_2 : fldS Try.prog 7 2 = some (2, 1, false) := by kernel_rfl
@[simp] theorem Try.fldS7_3 : fldS Try.prog 7 3 = some (3, 1, false) := by kernel_rfl
@[simp] theorem Try.aggS8 : aggS Try.prog 8 = some true := by kernel_rfl
@[simp] theorem Try.szS8 : szS Try.prog 8 = some 4 := by kernel_rfl
@[simp] theorem Try.byS8 : byS Try.prog 8 = some 24 := by kernel_rfl
@[simp] theorem Try.zS8 : zS Try.prog 8 = some (.agg #[.int .i64 0, .int .i64 0, .bool false, .int .u8 0]) := by kernel_rfl
@[simp] theorem Try.strOk8 : structOk Try.prog 8 = true := by kernel_rfl
@[simp] theorem Try.fldS8_0 : fldS Try.prog 8 0 = some (0, 1, false) := by kernel_rfl
@[simp] theorem Try.fldS8_1 : fldS Try.prog 8 1 = some (1, 1, false) := by kernel_rfl
@[simp] theorem Try.fldS8_2 : fldS Try.prog 8 2 = some (2, 1, false) := by kernel_rfl
@[simp] theorem Try.fldS8_3 : fldS Try.prog 8 3 = some (3, 1, false) := by kernel_rfl
@[simp] theorem Try.aggS9 : aggS Try.prog 9 = some false := by kernel_rfl
@[simp] theorem Try.szS9 : szS Try.prog 9 = some 1 := by kernel_rfl
@[simp] theorem Try.byS9 : byS Try.prog 9 = some 16 := by kernel_rfl
@[simp] theorem Try.zS9 : zS Try.prog 9 = some (.string ⟨#[]⟩) := by kernel_rfl
@[simp] theorem Try.strT9 : strT Try.prog 9 = true := by kernel_rfl
@[simp] theorem Try.aggS10 : aggS Try.prog 10 = some false := by kernel_rfl
@[simp] theorem Try.szS10 : szS Try.prog 10 = some 1 := by kernel_rfl
@[simp] theorem Try.byS10 : byS Try.prog 10 = some 16 := by kernel_rfl
@[simp] theorem Try.zS10 : zS Try.prog 10 = some (.string ⟨#[]⟩) := by kernel_rfl
@[simp] theorem Try.strT10 : strT Try.prog 10 = true := by kernel_rfl
@[simp] theorem Try.aggS11 : aggS Try.prog 11 = some false := by kernel_rfl
@[simp] theorem Try.szS11 : szS Try.prog 11 = some 1 := by kernel_rfl
@[simp] theorem Try.byS11 : byS Try.prog 11 = some 16 := by kernel_rfl
@[simp] theorem Try.zS11 : zS Try.prog 11 = some (.string ⟨#[]⟩) := by kernel_rfl
@[simp] theorem Try.strT11 : strT Try.prog 11 = true := by kernel_rfl
@[simp] theorem Try.aggS12 : aggS Try.prog 12 = some false := by kernel_rfl
@[simp] theorem Try.szS12 : szS Try.prog 12 = some 1 := by kernel_rfl
@[simp] theorem Try.byS12 : byS Try.prog 12 = some 8 := by kernel_rfl
@[simp] theorem Try.zS12 : zS Try.prog 12 = some (.int .u64 0) := by kernel_rfl
@[simp] theorem Try.intK12 : intK Try.prog 12 = some .u64 := by kernel_rfl
@[simp] theorem Try.aggS13 : aggS Try.prog 13 = some true := by kernel_rfl
@[simp] theorem Try.szS13 : szS Try.prog 13 = some 2 := by kernel_rfl
@[simp] theorem Try.byS13 : byS Try.prog 13 = some 24 := by kernel_rfl
@[simp] theorem Try.zS13 : zS Try.prog 13 = some (.agg #[.string ⟨#[]⟩, .int .u64 0]) := by kernel_rfl
@[simp] theorem Try.strOk13 : structOk Try.prog 13 = true := by kernel_rfl
@[simp] theorem Try.fldS13_0 : fldS Try.prog 13 0 = some (0, 1, false) := by kernel_rfl
@[simp] theorem Try.fldS13_1 : fldS Try.prog 13 1 = some (1, 1, false) := by kernel_rfl
@[simp] theorem Try.aggS14 : aggS Try.prog 14 = some true := by kernel_rfl
@[simp] theorem Try.szS14 : szS Try.prog 14 = some 2 := by kernel_rfl
@[simp] theorem Try.byS14 : byS Try.prog 14 = some 24 := by kernel_rfl
@[simp] theorem Try.zS14 : zS Try.prog 14 = some (.agg #[.string ⟨#[]⟩, .int .u64 0]) := by kernel_rfl
@[simp] theorem Try.strOk14 : structOk Try.prog 14 = true := by kernel_rfl
@[simp] theorem Try.fldS14_0 : fldS Try.prog 14 0 = some (0, 1, false) := by kernel_rfl
@[simp] theorem Try.fldS14_1 : fldS Try.prog 14 1 = some (1, 1, false) := by kernel_rfl
@[simp] theorem Try.aggS15 : aggS Try.prog 15 = some false := by kernel_rfl
@[simp] theorem Try.szS15 : szS Try.prog 15 = some 1 := by kernel_rfl
@[simp] theorem Try.byS15 : byS Try.prog 15 = some 8 := by kernel_rfl
@[simp] theorem Try.zS15 : zS Try.prog 15 = some (.pointer none) := by kernel_rfl
@[simp] theorem Try.nilKind15 : nilKind Try.prog 15 = 2 := by kernel_rfl
@[simp] theorem Try.aggS16 : aggS Try.prog 16 = some false := by kernel_rfl
@[simp] theorem Try.szS16 : szS Try.prog 16 = some 1 := by kernel_rfl
@[simp] theorem Try.byS16 : byS Try.prog 16 = some 8 := by kernel_rfl
@[simp] theorem Try.zS16 : zS Try.prog 16 = some (.pointer none) := by kernel_rfl
@[simp] theorem Try.nilKind16 : nilKind Try.prog 16 = 2 := by kernel_rfl
@[simp] theorem Try.aggS17 : aggS Try.prog 17 = some false := by kernel_rfl
@[simp] theorem Try.szS17 : szS Try.prog 17 = some 1 := by kernel_rfl
@[simp] theorem Try.byS17 : byS Try.prog 17 = some 8 := by kernel_rfl
@[simp] theorem Try.zS17 : zS Try.prog 17 = some (.pointer none) := by kernel_rfl
@[simp] theorem Try.nilKind17 : nilKind Try.prog 17 = 2 := by kernel_rfl
@[simp] theorem Try.aggS18 : aggS Try.prog 18 = some true := by kernel_rfl
@[simp] theorem Try.szS18 : szS Try.prog 18 = some 1 := by kernel_rfl
@[simp] theorem Try.byS18 : byS Try.prog 18 = some 8 := by kernel_rfl
@[simp] theorem Try.zS18 : zS Try.prog 18 = some (.agg #[.pointer none]) := by kernel_rfl
@[simp] theorem Try.strOk18 : structOk Try.prog 18 = true := by kernel_rfl
@[simp] theorem Try.fldS18_0 : fldS Try.prog 18 0 = some (0, 1, false) := by kernel_rfl
@[simp] theorem Try.aggS19 : aggS Try.prog 19 = some true := by kernel_rfl
@[simp] theorem Try.szS19 : szS Try.prog 19 = some 1 := by kernel_rfl
@[simp] theorem Try.byS19 : byS Try.prog 19 = some 8 := by kernel_rfl
@[simp] theorem Try.zS19 : zS Try.prog 19 = some (.agg #[.pointer none]) := by kernel_rfl
@[simp] theorem Try.strOk19 : structOk Try.prog 19 = true := by kernel_rfl
@[simp] theorem Try.fldS19_0 : fldS Try.prog 19 0 = some (0, 1, false) := by kernel_rfl
@[simp] theorem Try.aggS21 : aggS Try.prog 21 = some false := by kernel_rfl
@[simp] theorem Try.szS21 : szS Try.prog 21 = some 1 := by kernel_rfl
@[simp] theorem Try.byS21 : byS Try.prog 21 = some 4 := by kernel_rfl
@[simp] theorem Try.zS21 : zS Try.prog 21 = some (.int .i32 0) := by kernel_rfl
@[simp] theorem Try.intK21 : intK Try.prog 21 = some .i32 := by kernel_rfl
@[simp] theorem Try.aggS22 : aggS Try.prog 22 = some false := by kernel_rfl
@[simp] theorem Try.szS22 : szS Try.prog 22 = some 1 := by kernel_rfl
@[simp] theorem Try.byS22 : byS Try.prog 22 = some 24 := by kernel_rfl
@[simp] theorem Try.zS22 : zS Try.prog 22 = some (.slice none 0 0) := by kernel_rfl
@[simp] theorem Try.elS22 : elS Try.prog 22 = some 3 := by kernel_rfl
@[simp] theorem Try.nilKind22 : nilKind Try.prog 22 = 1 := by kernel_rfl
@[simp] theorem Try.aggS23 : aggS Try.prog 23 = some false := by kernel_rfl
@[simp] theorem Try.szS23 : szS Try.prog 23 = some 1 := by kernel_rfl
@[simp] theorem Try.byS23 : byS Try.prog 23 = some 8 := by kernel_rfl
@[simp] theorem Try.zS23 : zS Try.prog 23 = some (.nilFunc) := by kernel_rfl
@[simp] theorem Try.aggS24 : aggS Try.prog 24 = some false := by kernel_rfl
@[simp] theorem Try.szS24 : szS Try.prog 24 = some 1 := by kernel_rfl
@[simp] theorem Try.byS24 : byS Try.prog 24 = some 8 := by kernel_rfl
@[simp] theorem Try.zS24 : zS Try.prog 24 = some (.nilFunc) := by kernel_rfl
@[simp] theorem Try.aggS25 : aggS Try.prog 25 = some false := by kernel_rfl
@[simp] theorem Try.szS25 : szS Try.prog 25 = some 1 := by kernel_rfl
@[simp] theorem Try.byS25 : byS Try.prog 25 = some 8 := by kernel_rfl
@[simp] theorem Try.zS25 : zS Try.prog 25 = some (.pointer none) := by kernel_rfl
@[simp] theorem Try.nilKind25 : nilKind Try.prog 25 = 2 := by kernel_rfl
@[simp] theorem Try.aggS26 : aggS Try.prog 26 = some false := by kernel_rfl
@[simp] theorem Try.szS26 : szS Try.prog 26 = some 1 := by kernel_rfl
@[simp] theorem Try.byS26 : byS Try.prog 26 = some 8 := by kernel_rfl
@[simp] theorem Try.zS26 : zS Try.prog 26 = some (.nilFunc) := by kernel_rfl
@[simp] theorem Try.aggS27 : aggS Try.prog 27 = some true := by kernel_rfl
@[simp] theorem Try.szS27 : szS Try.prog 27 = some 4 := by kernel_rfl
@[simp] theorem Try.byS27 : byS Try.prog 27 = some 32 := by kernel_rfl
@[simp] theorem Try.zS27 : zS Try.prog 27 = some (.agg #[.int .i64 0, .int .i64 0, .int .i64 0, .int .i64 0]) := by kernel_rfl
@[simp] theorem Try.arrS27 : arrS Try.prog 27 = some (4, 1) := by kernel_rfl
@[simp] theorem Try.aggS28 : aggS Try.prog 28 = some false := by kernel_rfl
@[simp] theorem Try.szS28 : szS Try.prog 28 = some 1 := by kernel_rfl
@[simp] theorem Try.byS28 : byS Try.prog 28 = some 8 := by kernel_rfl
@[simp] theorem Try.zS28 : zS Try.prog 28 = some (.int .i64 0) := by kernel_rfl
@[simp] theorem Try.intK28 : intK Try.prog 28 = some .i64 := by kernel_rfl
@[simp] theorem Try.aggS29 : aggS Try.prog 29 = some false := by kernel_rfl
@[simp] theorem Try.szS29 : szS Try.prog 29 = some 1 := by kernel_rfl
@[simp] theorem Try.byS29 : byS Try.prog 29 = some 8 := by kernel_rfl
@[simp] theorem Try.zS29 : zS Try.prog 29 = some (.nilFunc) := by kernel_rfl
@[simp] theorem Try.aggS30 : aggS Try.prog 30 = some false := by kernel_rfl
@[simp] theorem Try.szS30 : szS Try.prog 30 = some 1 := by kernel_rfl
@[simp] theorem Try.byS30 : byS Try.prog 30 = some 24 := by kernel_rfl
@[simp] theorem Try.zS30 : zS Try.prog 30 = some (.slice none 0 0) := by kernel_rfl
@[simp] theorem Try.elS30 : elS Try.prog 30 = some 5 := by kernel_rfl
@[simp] theorem Try.nilKind30 : nilKind Try.prog 30 = 1 := by kernel_rfl
@[simp] theorem Try.aggS31 : aggS Try.prog 31 = some false := by kernel_rfl
@[simp] theorem Try.szS31 : szS Try.prog 31 = some 1 := by kernel_rfl
@[simp] theorem Try.byS31 : byS Try.prog 31 = some 8 := by kernel_rfl
@[simp] theorem Try.zS31 : zS Try.prog 31 = some (.nilFunc) := by kernel_rfl
@[simp] theorem Try.aggS32 : aggS Try.prog 32 = some false := by kernel_rfl
@[simp] theorem Try.szS32 : szS Try.prog 32 = some 1 := by kernel_rfl
@[simp] theorem Try.byS32 : byS Try.prog 32 = some 8 := by kernel_rfl
@[simp] theorem Try.zS32 : zS Try.prog 32 = some (.nilFunc) := by kernel_rfl
@[simp] theorem Try.aggS33 : aggS Try.prog 33 = some false := by kernel_rfl
@[simp] theorem Try.szS33 : szS Try.prog 33 = some 1 := by kernel_rfl
@[simp] theorem Try.byS33 : byS Try.prog 33 = some 8 := by kernel_rfl
@[simp] theorem Try.zS33 : zS Try.prog 33 = some (.nilFunc) := by kernel_rfl
@[simp] theorem Try.aggS35 : aggS Try.prog 35 = some false := by kernel_rfl
@[simp] theorem Try.szS35 : szS Try.prog 35 = some 1 := by kernel_rfl
@[simp] theorem Try.byS35 : byS Try.prog 35 = some 8 := by kernel_rfl
@[simp] theorem Try.zS35 : zS Try.prog 35 = some (.nilFunc) := by kernel_rfl
@[simp] theorem Try.aggS36 : aggS Try.prog 36 = some false := by kernel_rfl
@[simp] theorem Try.szS36 : szS Try.prog 36 = some 1 := by kernel_rfl
@[simp] theorem Try.byS36 : byS Try.prog 36 = some 24 := by kernel_rfl
@[simp] theorem Try.zS36 : zS Try.prog 36 = some (.slice none 0 0) := by kernel_rfl
@[simp] theorem Try.elS36 : elS Try.prog 36 = some 9 := by kernel_rfl
@[simp] theorem Try.nilKind36 : nilKind Try.prog 36 = 1 := by kernel_rfl
@[simp] theorem Try.aggS37 : aggS Try.prog 37 = some false := by kernel_rfl
@[simp] theorem Try.szS37 : szS Try.prog 37 = some 1 := by kernel_rfl
@[simp] theorem Try.byS37 : byS Try.prog 37 = some 8 := by kernel_rfl
@[simp] theorem Try.zS37 : zS Try.prog 37 = some (.nilFunc) := by kernel_rfl
@[simp] theorem Try.aggS38 : aggS Try.prog 38 = some false := by kernel_rfl
@[simp] theorem Try.szS38 : szS Try.prog 38 = some 1 := by kernel_rfl
@[simp] theorem Try.byS38 : byS Try.prog 38 = some 8 := by kernel_rfl
@[simp] theorem Try.zS38 : zS Try.prog 38 = some (.nilFunc) := by kernel_rfl
@[simp] theorem Try.aggS39 : aggS Try.prog 39 = some false := by kernel_rfl
@[simp] theorem Try.szS39 : szS Try.prog 39 = some 1 := by kernel_rfl
@[simp] theorem Try.byS39 : byS Try.prog 39 = some 8 := by kernel_rfl
@[simp] theorem Try.zS39 : zS Try.prog 39 = some (.nilFunc) := by kernel_rfl
@[simp] theorem Try.aggS40 : aggS Try.prog 40 = some false := by kernel_rfl
@[simp] theorem Try.szS40 : szS Try.prog 40 = some 1 := by kernel_rfl
@[simp] theorem Try.byS40 : byS Try.prog 40 = some 8 := by kernel_rfl
@[simp] theorem Try.zS40 : zS Try.prog 40 = some (.nilFunc) := by kernel_rfl
@[simp] theorem Try.aggS41 : aggS Try.prog 41 = some false := by kernel_rfl
@[simp] theorem Try.szS41 : szS Try.prog 41 = some 1 := by kernel_rfl
@[simp] theorem Try.byS41 : byS Try.prog 41 = some 8 := by kernel_rfl
@[simp] theorem Try.zS41 : zS Try.prog 41 = some (.pointer none) := by kernel_rfl
@[simp] theorem Try.nilKind41 : nilKind Try.prog 41 = 2 := by kernel_rfl
@[simp] theorem Try.aggS42 : aggS Try.prog 42 = some false := by kernel_rfl
@[simp] theorem Try.szS42 : szS Try.prog 42 = some 1 := by kernel_rfl
@[simp] theorem Try.byS42 : byS Try.prog 42 = some 8 := by kernel_rfl
@[simp] theorem Try.zS42 : zS Try.prog 42 = some (.nilFunc) := by kernel_rfl
@[simp] theorem Try.aggS43 : aggS Try.prog 43 = some false := by kernel_rfl
@[simp] theorem Try.szS43 : szS Try.prog 43 = some 1 := by kernel_rfl
@[simp] theorem Try.byS43 : byS Try.prog 43 = some 8 := by kernel_rfl
@[simp] theorem Try.zS43 : zS Try.prog 43 = some (.nilFunc) := by kernel_rfl
@[simp] theorem Try.aggS44 : aggS Try.prog 44 = some false := by kernel_rfl
@[simp] theorem Try.szS44 : szS Try.prog 44 = some 1 := by kernel_rfl
@[simp] theorem Try.byS44 : byS Try.prog 44 = some 8 := by kernel_rfl
@[simp] theorem Try.zS44 : zS Try.prog 44 = some (.nilFunc) := by kernel_rfl
@[simp] theorem Try.aggS45 : aggS Try.prog 45 = some false := by kernel_rfl
@[simp] theorem Try.szS45 : szS Try.prog 45 = some 1 := by kernel_rfl
@[simp] theorem Try.byS45 : byS Try.prog 45 = some 8 := by kernel_rfl
@[simp] theorem Try.zS45 : zS Try.prog 45 = some (.nilFunc) := by kernel_rfl
@[simp] theorem Try.aggS46 : aggS Try.prog 46 = some false := by kernel_rfl
@[simp] theorem Try.szS46 : szS Try.prog 46 = some 1 := by kernel_rfl
@[simp] theorem Try.byS46 : byS Try.prog 46 = some 8 := by kernel_rfl
@[simp] theorem Try.zS46 : zS Try.prog 46 = some (.nilFunc) := by kernel_rfl
@[simp] theorem Try.aggS47 : aggS Try.prog 47 = some false := by kernel_rfl
@[simp] theorem Try.szS47 : szS Try.prog 47 = some 1 := by kernel_rfl
@[simp] theorem Try.byS47 : byS Try.prog 47 = some 8 := by kernel_rfl
@[simp] theorem Try.zS47 : zS Try.prog 47 = some (.nilFunc) := by kernel_rfl
@[simp] theorem Try.aggS48 : aggS Try.prog 48 = some false := by kernel_rfl
@[simp] theorem Try.szS48 : szS Try.prog 48 = some 1 := by kernel_rfl
@[simp] theorem Try.byS48 : byS Try.prog 48 = some 24 := by kernel_rfl
@[simp] theorem Try.zS48 : zS Try.prog 48 = some (.slice none 0 0) := by kernel_rfl
@[simp] theorem Try.elS48 : elS Try.prog 48 = some 85 := by kernel_rfl
@[simp] theorem Try.nilKind48 : nilKind Try.prog 48 = 1 := by kernel_rfl
@[simp] theorem Try.aggS49 : aggS Try.prog 49 = some false := by kernel_rfl
@[simp] theorem Try.szS49 : szS Try.prog 49 = some 1 := by kernel_rfl
@[simp] theorem Try.byS49 : byS Try.prog 49 = some 8 := by kernel_rfl
@[simp] theorem Try.zS49 : zS Try.prog 49 = some (.nilFunc) := by kernel_rfl
@[simp] theorem Try.aggS50 : aggS Try.prog 50 = some false := by kernel_rfl
@[simp] theorem Try.szS50 : szS Try.prog 50 = some 1 := by kernel_rfl
@[simp] theorem Try.byS50 : byS Try.prog 50 = some 24 := by kernel_rfl
@[simp] theorem Try.zS50 : zS Try.prog 50 = some (.slice none 0 0) := by kernel_rfl
@[simp] theorem Try.elS50 : elS Try.prog 50 = some 53 := by kernel_rfl
@[simp] theorem Try.nilKind50 : nilKind Try.prog 50 = 1 := by kernel_rfl
@[simp] theorem Try.aggS51 : aggS Try.prog 51 = some false := by kernel_rfl
@[simp] theorem Try.szS51 : szS Try.prog 51 = some 1 := by kernel_rfl
@[simp] theorem Try.byS51 : byS Try.prog 51 = some 8 := by kernel_rfl
@[simp] theorem Try.zS51 : zS Try.prog 51 = some (.nilFunc) := by kernel_rfl
@[simp] theorem Try.aggS52 : aggS Try.prog 52 = some true := by kernel_rfl
@[simp] theorem Try.szS52 : szS Try.prog 52 = some 2 := by kernel_rfl
@[simp] theorem Try.byS52 : byS Try.prog 52 = some 24 := by kernel_rfl
@[simp] theorem Try.zS52 : zS Try.prog 52 = some (.agg #[.int .i64 0, .string ⟨#[]⟩]) := by kernel_rfl
@[simp] theorem Try.strOk52 : structOk Try.prog 52 = true := by kernel_rfl
@[simp] theorem Try.fldS52_0 : fldS Try.prog 52 0 = some (0, 1, false) := by kernel_rfl
@[simp] theorem Try.fldS52_1 : fldS Try.prog 52 1 = some (1, 1, false) := by kernel_rfl
@[simp] theorem Try.aggS53 : aggS Try.prog 53 = some true := by kernel_rfl
@[simp] theorem Try.szS53 : szS Try.prog 53 = some 2 := by kernel_rfl
@[simp] theorem Try.byS53 : byS Try.prog 53 = some 24 := by kernel_rfl
@[simp] theorem Try.zS53 : zS Try.prog 53 = some (.agg #[.int .i64 0, .string ⟨#[]⟩]) := by kernel_rfl
@[simp] theorem Try.strOk53 : structOk Try.prog 53 = true := by kernel_rfl
@[simp] theorem Try.fldS53_0 : fldS Try.prog 53 0 = some (0, 1, false) := by kernel_rfl
@[simp] theorem Try.fldS53_1 : fldS Try.prog 53 1 = some (1, 1, false) := by kernel_rfl
@[simp] theorem Try.aggS54 : aggS Try.prog 54 = some false := by kernel_rfl
@[simp] theorem Try.szS54 : szS Try.prog 54 = some 1 := by kernel_rfl
@[simp] theorem Try.byS54 : byS Try.prog 54 = some 8 := by kernel_rfl
@[simp] theorem Try.zS54 : zS Try.prog 54 = some (.nilFunc) := by kernel_rfl
@[simp] theorem Try.aggS55 : aggS Try.prog 55 = some false := by kernel_rfl
@[simp] theorem Try.szS55 : szS Try.prog 55 = some 1 := by kernel_rfl
@[simp] theorem Try.byS55 : byS Try.prog 55 = some 8 := by kernel_rfl
@[simp] theorem Try.zS55 : zS Try.prog 55 = some (.nilFunc) := by kernel_rfl
@[simp] theorem Try.aggS56 : aggS Try.prog 56 = some false := by kernel_rfl
@[simp] theorem Try.szS56 : szS Try.prog 56 = some 1 := by kernel_rfl
@[simp] theorem Try.byS56 : byS Try.prog 56 = some 8 := by kernel_rfl
@[simp] theorem Try.zS56 : zS Try.prog 56 = some (.nilFunc) := by kernel_rfl
@[simp] theorem Try.aggS57 : aggS Try.prog 57 = some false := by kernel_rfl
@[simp] theorem Try.szS57 : szS Try.prog 57 = some 1 := by kernel_rfl
@[simp] theorem Try.byS57 : byS Try.prog 57 = some 8 := by kernel_rfl
@[simp] theorem Try.zS57 : zS Try.prog 57 = some (.nilFunc) := by kernel_rfl
@[simp] theorem Try.aggS58 : aggS Try.prog 58 = some false := by kernel_rfl
@[simp] theorem Try.szS58 : szS Try.prog 58 = some 1 := by kernel_rfl
@[simp] theorem Try.byS58 : byS Try.prog 58 = some 8 := by kernel_rfl
@[simp] theorem Try.zS58 : zS Try.prog 58 = some (.nilFunc) := by kernel_rfl
@[simp] theorem Try.aggS59 : aggS Try.prog 59 = some false := by kernel_rfl
@[simp] theorem Try.szS59 : szS Try.prog 59 = some 1 := by kernel_rfl
@[simp] theorem Try.byS59 : byS Try.prog 59 = some 8 := by kernel_rfl
@[simp] theorem Try.zS59 : zS Try.prog 59 = some (.nilFunc) := by kernel_rfl
@[simp] theorem Try.aggS60 : aggS Try.prog 60 = some false := by kernel_rfl
@[simp] theorem Try.szS60 : szS Try.prog 60 = some 1 := by kernel_rfl
@[simp] theorem Try.byS60 : byS Try.prog 60 = some 8 := by kernel_rfl
@[simp] theorem Try.zS60 : zS Try.prog 60 = some (.nilFunc) := by kernel_rfl
@[simp] theorem Try.aggS61 : aggS Try.prog 61 = some false := by kernel_rfl
@[simp] theorem Try.szS61 : szS Try.prog 61 = some 1 := by kernel_rfl
@[simp] theorem Try.byS61 : byS Try.prog 61 = some 8 := by kernel_rfl
@[simp] theorem Try.zS61 : zS Try.prog 61 = some (.nilFunc) := by kernel_rfl
@[simp] theorem Try.aggS62 : aggS Try.prog 62 = some false := by kernel_rfl
@[simp] theorem Try.szS62 : szS Try.prog 62 = some 1 := by kernel_rfl
@[simp] theorem Try.byS62 : byS Try.prog 62 = some 8 := by kernel_rfl
@[simp] theorem Try.zS62 : zS Try.prog 62 = some (.nilFunc) := by kernel_rfl
@[simp] theorem Try.aggS63 : aggS Try.prog 63 = some false := by kernel_rfl
@[simp] theorem Try.szS63 : szS Try.prog 63 = some 1 := by kernel_rfl
@[simp] theorem Try.byS63 : byS Try.prog 63 = some 8 := by kernel_rfl
@[simp] theorem Try.zS63 : zS Try.prog 63 = some (.nilFunc) := by kernel_rfl
@[simp] theorem Try.aggS64 : aggS Try.prog 64 = some false := by kernel_rfl
@[simp] theorem Try.szS64 : szS Try.prog 64 = some 1 := by kernel_rfl
@[simp] theorem Try.byS64 : byS Try.prog 64 = some 8 := by kernel_rfl
@[simp] theorem Try.zS64 : zS Try.prog 64 = some (.map none) := by kernel_rfl
@[simp] theorem Try.nilKind64 : nilKind Try.prog 64 = 3 := by kernel_rfl
@[simp] theorem Try.mapS64 : mapS Try.prog 64 = some (9, 71) := by kernel_rfl
@[simp] theorem Try.aggS65 : aggS Try.prog 65 = some true := by kernel_rfl
@[simp] theorem Try.szS65 : szS Try.prog 65 = some 3 := by kernel_rfl
@[simp] theorem Try.byS65 : byS Try.prog 65 = some 40 := by kernel_rfl
@[simp] theorem Try.zS65 : zS Try.prog 65 = some (.agg #[.int .i64 0, .map none, .slice none 0 0]) := by kernel_rfl
@[simp] theorem Try.strOk65 : structOk Try.prog 65 = true := by kernel_rfl
@[simp] theorem Try.fldS65_0 : fldS Try.prog 65 0 = some (0, 1, false) := by kernel_rfl
@[simp] theorem Try.fldS65_1 : fldS Try.prog 65 1 = some (1, 1, false) := by kernel_rfl
@[simp] theorem Try.fldS65_2 : fldS Try.prog 65 2 = some (2, 1, false) := by kernel_rfl
@[simp] theorem Try.aggS66 : aggS Try.prog 66 = some true := by kernel_rfl
@[simp] theorem Try.szS66 : szS Try.prog 66 = some 3 := by kernel_rfl
@[simp] theorem Try.byS66 : byS Try.prog 66 = some 40 := by kernel_rfl
@[simp] theorem Try.zS66 : zS Try.prog 66 = some (.agg #[.int .i64 0, .map none, .slice none 0 0]) := by kernel_rfl
@[simp] theorem Try.strOk66 : structOk Try.prog 66 = true := by kernel_rfl
@[simp] theorem Try.fldS66_0 : fldS Try.prog 66 0 = some (0, 1, false) := by kernel_rfl
@[simp] theorem Try.fldS66_1 : fldS Try.prog 66 1 = some (1, 1, false) := by kernel_rfl
@[simp] theorem Try.fldS66_2 : fldS Try.prog 66 2 = some (2, 1, false) := by kernel_rfl
@[simp] theorem Try.aggS67 : aggS Try.prog 67 = some false := by kernel_rfl
@[simp] theorem Try.szS67 : szS Try.prog 67 = some 1 := by kernel_rfl
@[simp] theorem Try.byS67 : byS Try.prog 67 = some 8 := by kernel_rfl
@[simp] theorem Try.zS67 : zS Try.prog 67 = some (.nilFunc) := by kernel_rfl
@[simp] theorem Try.aggS68 : aggS Try.prog 68 = some true := by kernel_rfl
@[simp] theorem Try.szS68 : szS Try.prog 68 = some 2 := by kernel_rfl
@[simp] theorem Try.byS68 : byS Try.prog 68 = some 32 := by kernel_rfl
@[simp] theorem Try.zS68 : zS Try.prog 68 = some (.agg #[.slice none 0 0, .bool false]) := by kernel_rfl
@[simp] theorem Try.strOk68 : structOk Try.prog 68 = true := by kernel_rfl
@[simp] theorem Try.fldS68_0 : fldS Try.prog 68 0 = some (0, 1, false) := by kernel_rfl
@[simp] theorem Try.fldS68_1 : fldS Try.prog 68 1 = some (1, 1, false) := by kernel_rfl
@[simp] theorem Try.aggS69 : aggS Try.prog 69 = some true := by kernel_rfl
@[simp] theorem Try.szS69 : szS Try.prog 69 = some 2 := by kernel_rfl
@[simp] theorem Try.byS69 : byS Try.prog 69 = some 32 := by kernel_rfl
@[simp] theorem Try.zS69 : zS Try.prog 69 = some (.agg #[.slice none 0 0, .bool false]) := by kernel_rfl
@[simp] theorem Try.strOk69 : structOk Try.prog 69 = true := by kernel_rfl
@[simp] theorem Try.fldS69_0 : fldS Try.prog 69 0 = some (0, 1, false) := by kernel_rfl
@[simp] theorem Try.fldS69_1 : fldS Try.prog 69 1 = some (1, 1, false) := by kernel_rfl
@[simp] theorem Try.aggS70 : aggS Try.prog 70 = some true := by kernel_rfl
@[simp] theorem Try.szS70 : szS Try.prog 70 = some 4 := by kernel_rfl
@[simp] theorem Try.byS70 : byS Try.prog 70 = some 64 := by kernel_rfl
@[simp] theorem Try.zS70 : zS Try.prog 70 = some (.agg #[.slice none 0 0, .slice none 0 0, .bool false, .bool false]) := by kernel_rfl
@[simp] theorem Try.strOk70 : structOk Try.prog 70 = true := by kernel_rfl
@[simp] theorem Try.fldS70_0 : fldS Try.prog 70 0 = some (0, 1, false) := by kernel_rfl
@[simp] theorem Try.fldS70_1 : fldS Try.prog 70 1 = some (1, 2, true) := by kernel_rfl
@[simp] theorem Try.fldS70_2 : fldS Try.prog 70 2 = some (3, 1, false) := by kernel_rfl
@[simp] theorem Try.aggS71 : aggS Try.prog 71 = some true := by kernel_rfl
@[simp] theorem Try.szS71 : szS Try.prog 71 = some 4 := by kernel_rfl
@[simp] theorem Try.byS71 : byS Try.prog 71 = some 64 := by kernel_rfl
@[simp] theorem Try.zS71 : zS Try.prog 71 = some (.agg #[.slice none 0 0, .slice none 0 0, .bool false, .bool false]) := by kernel_rfl
@[simp] theorem Try.strOk71 : structOk Try.prog 71 = true := by kernel_rfl
@[simp] theorem Try.fldS71_0 : fldS Try.prog 71 0 = some (0, 1, false) := by kernel_rfl
@[simp] theorem Try.fldS71_1 : fldS Try.prog 71 1 = some (1, 2, true) := by kernel_rfl
@[simp] theorem Try.fldS71_2 : fldS Try.prog 71 2 = some (3, 1, false) := by kernel_rfl
@[simp] theorem Try.aggS72 : aggS Try.prog 72 = some false := by kernel_rfl
@[simp] theorem Try.szS72 : szS Try.prog 72 = some 1 := by kernel_rfl
@[simp] theorem Try.byS72 : byS Try.prog 72 = some 8 := by kernel_rfl
@[simp] theorem Try.zS72 : zS Try.prog 72 = some (.nilFunc) := by kernel_rfl
@[simp] theorem Try.aggS73 : aggS Try.prog 73 = some false := by kernel_rfl
@[simp] theorem Try.szS73 : szS Try.prog 73 = some 1 := by kernel_rfl
@[simp] theorem Try.byS73 : byS Try.prog 73 = some 8 := by kernel_rfl
@[simp] theorem Try.zS73 : zS Try.prog 73 = some (.nilFunc) := by kernel_rfl
@[simp] theorem Try.aggS75 : aggS Try.prog 75 = some false := by kernel_rfl
@[simp] theorem Try.szS75 : szS Try.prog 75 = some 1 := by kernel_rfl
@[simp] theorem Try.byS75 : byS Try.prog 75 = some 8 := by kernel_rfl
@[simp] theorem Try.zS75 : zS Try.prog 75 = some (.nilFunc) := by kernel_rfl
@[simp] theorem Try.aggS76 : aggS Try.prog 76 = some false := by kernel_rfl
@[simp] theorem Try.szS76 : szS Try.prog 76 = some 1 := by kernel_rfl
@[simp] theorem Try.byS76 : byS Try.prog 76 = some 8 := by kernel_rfl
@[simp] theorem Try.zS76 : zS Try.prog 76 = some (.nilFunc) := by kernel_rfl
@[simp] theorem Try.aggS77 : aggS Try.prog 77 = some false := by kernel_rfl
@[simp] theorem Try.szS77 : szS Try.prog 77 = some 1 := by kernel_rfl
@[simp] theorem Try.byS77 : byS Try.prog 77 = some 8 := by kernel_rfl
@[simp] theorem Try.zS77 : zS Try.prog 77 = some (.nilFunc) := by kernel_rfl
@[simp] theorem Try.aggS78 : aggS Try.prog 78 = some false := by kernel_rfl
@[simp] theorem Try.szS78 : szS Try.prog 78 = some 1 := by kernel_rfl
@[simp] theorem Try.byS78 : byS Try.prog 78 = some 8 := by kernel_rfl
@[simp] theorem Try.zS78 : zS Try.prog 78 = some (.nilFunc) := by kernel_rfl
@[simp] theorem Try.aggS79 : aggS Try.prog 79 = some false := by kernel_rfl
@[simp] theorem Try.szS79 : szS Try.prog 79 = some 1 := by kernel_rfl
@[simp] theorem Try.byS79 : byS Try.prog 79 = some 8 := by kernel_rfl
@[simp] theorem Try.zS79 : zS Try.prog 79 = some (.nilFunc) := by kernel_rfl
@[simp] theorem Try.aggS80 : aggS Try.prog 80 = some false := by kernel_rfl
@[simp] theorem Try.szS80 : szS Try.prog 80 = some 1 := by kernel_rfl
@[simp] theorem Try.byS80 : byS Try.prog 80 = some 8 := by kernel_rfl
@[simp] theorem Try.zS80 : zS Try.prog 80 = some (.nilFunc) := by kernel_rfl
@[simp] theorem Try.aggS81 : aggS Try.prog 81 = some false := by kernel_rfl
@[simp] theorem Try.szS81 : szS Try.prog 81 = some 1 := by kernel_rfl
@[simp] theorem Try.byS81 : byS Try.prog 81 = some 24 := by kernel_rfl
@[simp] theorem Try.zS81 : zS Try.prog 81 = some (.slice none 0 0) := by kernel_rfl
@[simp] theorem Try.elS81 : elS Try.prog 81 = some 89 := by kernel_rfl
@[simp] theorem Try.nilKind81 : nilKind Try.prog 81 = 1 := by kernel_rfl
@[simp] theorem Try.aggS82 : aggS Try.prog 82 = some true := by kernel_rfl
@[simp] theorem Try.szS82 : szS Try.prog 82 = some 3 := by kernel_rfl
@[simp] theorem Try.byS82 : byS Try.prog 82 = some 56 := by kernel_rfl
@[simp] theorem Try.zS82 : zS Try.prog 82 = some (.agg #[.int .i64 0, .slice none 0 0, .slice none 0 0]) := by kernel_rfl
@[simp] theorem Try.strOk82 : structOk Try.prog 82 = true := by kernel_rfl
@[simp] theorem Try.fldS82_0 : fldS Try.prog 82 0 = some (0, 1, false) := by kernel_rfl
@[simp] theorem Try.fldS82_1 : fldS Try.prog 82 1 = some (1, 1, false) := by kernel_rfl
@[simp] theorem Try.fldS82_2 : fldS Try.prog 82 2 = some (2, 1, false) := by kernel_rfl
@[simp] theorem Try.aggS83 : aggS Try.prog 83 = some true := by kernel_rfl
@[simp] theorem Try.szS83 : szS Try.prog 83 = some 3 := by kernel_rfl
@[simp] theorem Try.byS83 : byS Try.prog 83 = some 56 := by kernel_rfl
@[simp] theorem Try.zS83 : zS Try.prog 83 = some (.agg #[.int .i64 0, .slice none 0 0, .slice none 0 0]) := by kernel_rfl
@[simp] theorem Try.strOk83 : structOk Try.prog 83 = true := by kernel_rfl
@[simp] theorem Try.fldS83_0 : fldS Try.prog 83 0 = some (0, 1, false) := by kernel_rfl
@[simp] theorem Try.fldS83_1 : fldS Try.prog 83 1 = some (1, 1, false) := by kernel_rfl
@[simp] theorem Try.fldS83_2 : fldS Try.prog 83 2 = some (2, 1, false) := by kernel_rfl
@[simp] theorem Try.aggS84 : aggS Try.prog 84 = some false := by kernel_rfl
@[simp] theorem Try.szS84 : szS Try.prog 84 = some 1 := by kernel_rfl
@[simp] theorem Try.byS84 : byS Try.prog 84 = some 8 := by kernel_rfl
@[simp] theorem Try.zS84 : zS Try.prog 84 = some (.nilFunc) := by kernel_rfl
@[simp] theorem Try.aggS85 : aggS Try.prog 85 = some true := by kernel_rfl
@[simp] theorem Try.szS85 : szS Try.prog 85 = some 2 := by kernel_rfl
@[simp] theorem Try.byS85 : byS Try.prog 85 = some 24 := by kernel_rfl
@[simp] theorem Try.zS85 : zS Try.prog 85 = some (.agg #[.int .i64 0, .string ⟨#[]⟩]) := by kernel_rfl
@[simp] theorem Try.strOk85 : structOk Try.prog 85 = true := by kernel_rfl
@[simp] theorem Try.fldS85_0 : fldS Try.prog 85 0 = some (0, 1, false) := by kernel_rfl
@[simp] theorem Try.fldS85_1 : fldS Try.prog 85 1 = some (1, 1, false) := by kernel_rfl
@[simp] theorem Try.aggS87 : aggS Try.prog 87 = some false := by kernel_rfl
@[simp] theorem Try.szS87 : szS Try.prog 87 = some 1 := by kernel_rfl
@[simp] theorem Try.byS87 : byS Try.prog 87 = some 8 := by kernel_rfl
@[simp] theorem Try.zS87 : zS Try.prog 87 = some (.nilFunc) := by kernel_rfl
@[simp] theorem Try.aggS88 : aggS Try.prog 88 = some true := by kernel_rfl
@[simp] theorem Try.szS88 : szS Try.prog 88 = some 5 := by kernel_rfl
@[simp] theorem Try.byS88 : byS Try.prog 88 = some 72 := by kernel_rfl
@[simp] theorem Try.zS88 : zS Try.prog 88 = some (.agg #[.string ⟨#[]⟩, .slice none 0 0, .slice none 0 0, .bool false, .bool false]) := by kernel_rfl
@[simp] theorem Try.strOk88 : structOk Try.prog 88 = true := by kernel_rfl
@[simp] theorem Try.fldS88_0 : fldS Try.prog 88 0 = some (0, 1, false) := by kernel_rfl
@[simp] theorem Try.fldS88_1 : fldS Try.prog 88 1 = some (1, 1, false) := by kernel_rfl
@[simp] theorem Try.fldS88_2 : fldS Try.prog 88 2 = some (2, 1, false) := by kernel_rfl
@[simp] theorem Try.fldS88_3 : fldS Try.prog 88 3 = some (3, 1, false) := by kernel_rfl
@[simp] theorem Try.fldS88_4 : fldS Try.prog 88 4 = some (4, 1, false) := by kernel_rfl
@[simp] theorem Try.aggS89 : aggS Try.prog 89 = some true := by kernel_rfl
@[simp] theorem Try.szS89 : szS Try.prog 89 = some 5 := by kernel_rfl
@[simp] theorem Try.byS89 : byS Try.prog 89 = some 72 := by kernel_rfl
@[simp] theorem Try.zS89 : zS Try.prog 89 = some (.agg #[.string ⟨#[]⟩, .slice none 0 0, .slice none 0 0, .bool false, .bool false]) := by kernel_rfl
@[simp] theorem Try.strOk89 : structOk Try.prog 89 = true := by kernel_rfl
@[simp] theorem Try.fldS89_0 : fldS Try.prog 89 0 = some (0, 1, false) := by kernel_rfl
@[simp] theorem Try.fldS89_1 : fldS Try.prog 89 1 = some (1, 1, false) := by kernel_rfl
@[simp] theorem Try.fldS89_2 : fldS Try.prog 89 2 = some (2, 1, false) := by kernel_rfl
@[simp] theorem Try.fldS89_3 : fldS Try.prog 89 3 = some (3, 1, false) := by kernel_rfl
@[simp] theorem Try.fldS89_4 : fldS Try.prog 89 4 = some (4, 1, false) := by kernel_rfl
@[simp] theorem Try.aggS90 : aggS Try.prog 90 = some false := by kernel_rfl
@[simp] theorem Try.szS90 : szS Try.prog 90 = some 1 := by kernel_rfl
@[simp] theorem Try.byS90 : byS Try.prog 90 = some 8 := by kernel_rfl
@[simp] theorem Try.zS90 : zS Try.prog 90 = some (.nilFunc) := by kernel_rfl
@[simp] theorem Try.aggS91 : aggS Try.prog 91 = some false := by kernel_rfl
@[simp] theorem Try.szS91 : szS Try.prog 91 = some 1 := by kernel_rfl
@[simp] theorem Try.byS91 : byS Try.prog 91 = some 8 := by kernel_rfl
@[simp] theorem Try.zS91 : zS Try.prog 91 = some (.nilFunc) := by kernel_rfl
@[simp] theorem Try.aggS92 : aggS Try.prog 92 = some false := by kernel_rfl
@[simp] theorem Try.szS92 : szS Try.prog 92 = some 1 := by kernel_rfl
@[simp] theorem Try.byS92 : byS Try.prog 92 = some 8 := by kernel_rfl
@[simp] theorem Try.zS92 : zS Try.prog 92 = some (.nilFunc) := by kernel_rfl
@[simp] theorem Try.aggS93 : aggS Try.prog 93 = some false := by kernel_rfl
@[simp] theorem Try.szS93 : szS Try.prog 93 = some 1 := by kernel_rfl
@[simp] theorem Try.byS93 : byS Try.prog 93 = some 8 := by kernel_rfl
@[simp] theorem Try.zS93 : zS Try.prog 93 = some (.nilFunc) := by kernel_rfl
@[simp] theorem Try.aggS94 : aggS Try.prog 94 = some false := by kernel_rfl
@[simp] theorem Try.szS94 : szS Try.prog 94 = some 1 := by kernel_rfl
@[simp] theorem Try.byS94 : byS Try.prog 94 = some 8 := by kernel_rfl
@[simp] theorem Try.zS94 : zS Try.prog 94 = some (.nilFunc) := by kernel_rfl
@[simp] theorem Try.aggS95 : aggS Try.prog 95 = some false := by kernel_rfl
@[simp] theorem Try.szS95 : szS Try.prog 95 = some 1 := by kernel_rfl
@[simp] theorem Try.byS95 : byS Try.prog 95 = some 8 := by kernel_rfl
@[simp] theorem Try.zS95 : zS Try.prog 95 = some (.nilFunc) := by kernel_rfl
@[simp] theorem Try.aggS96 : aggS Try.prog 96 = some false := by kernel_rfl
@[simp] theorem Try.szS96 : szS Try.prog 96 = some 1 := by kernel_rfl
@[simp] theorem Try.byS96 : byS Try.prog 96 = some 8 := by kernel_rfl
@[simp] theorem Try.zS96 : zS Try.prog 96 = some (.nilFunc) := by kernel_rfl
@[simp] theorem Try.aggS97 : aggS Try.prog 97 = some false := by kernel_rfl
@[simp] theorem Try.szS97 : szS Try.prog 97 = some 1 := by kernel_rfl
@[simp] theorem Try.byS97 : byS Try.prog 97 = some 8 := by kernel_rfl
@[simp] theorem Try.zS97 : zS Try.prog 97 = some (.nilFunc) := by kernel_rfl
@[simp] theorem Try.aggS98 : aggS Try.prog 98 = some false := by kernel_rfl
@[simp] theorem Try.szS98 : szS Try.prog 98 = some 1 := by kernel_rfl
@[simp] theorem Try.byS98 : byS Try.prog 98 = some 8 := by kernel_rfl
@[simp] theorem Try.zS98 : zS Try.prog 98 = some (.int .u64 0) := by kernel_rfl
@[simp] theorem Try.intK98 : intK Try.prog 98 = some .u64 := by kernel_rfl
@[simp] theorem Try.aggS99 : aggS Try.prog 99 = some false := by kernel_rfl
@[simp] theorem Try.szS99 : szS Try.prog 99 = some 1 := by kernel_rfl
@[simp] theorem Try.byS99 : byS Try.prog 99 = some 8 := by kernel_rfl
@[simp] theorem Try.zS99 : zS Try.prog 99 = some (.nilFunc) := by kernel_rfl
@[simp] theorem Try.aggS100 : aggS Try.prog 100 = some false := by kernel_rfl
@[simp] theorem Try.szS100 : szS Try.prog 100 = some 1 := by kernel_rfl
@[simp] theorem Try.byS100 : byS Try.prog 100 = some 8 := by kernel_rfl
@[simp] theorem Try.zS100 : zS Try.prog 100 = some (.int .i64 0) := by kernel_rfl
@[simp] theorem Try.intK100 : intK Try.prog 100 = some .i64 := by kernel_rfl
@[simp] theorem Try.aggS102 : aggS Try.prog 102 = some false := by kernel_rfl
@[simp] theorem Try.szS102 : szS Try.prog 102 = some 1 := by kernel_rfl
@[simp] theorem Try.byS102 : byS Try.prog 102 = some 8 := by kernel_rfl
@[simp] theorem Try.zS102 : zS Try.prog 102 = some (.nilFunc) := by kernel_rfl
@[simp] theorem Try.aggS103 : aggS Try.prog 103 = some false := by kernel_rfl
@[simp] theorem Try.szS103 : szS Try.prog 103 = some 1 := by kernel_rfl
@[simp] theorem Try.byS103 : byS Try.prog 103 = some 8 := by kernel_rfl
@[simp] theorem Try.zS103 : zS Try.prog 103 = some (.nilFunc) := by kernel_rfl
@[simp] theorem Try.aggS104 : aggS Try.prog 104 = some false := by kernel_rfl
@[simp] theorem Try.szS104 : szS Try.prog 104 = some 1 := by kernel_rfl
@[simp] theorem Try.byS104 : byS Try.prog 104 = some 8 := by kernel_rfl
@[simp] theorem Try.zS104 : zS Try.prog 104 = some (.nilFunc) := by kernel_rfl
@[simp] theorem Try.aggS105 : aggS Try.prog 105 = some false := by kernel_rfl
@[simp] theorem Try.szS105 : szS Try.prog 105 = some 1 := by kernel_rfl
@[simp] theorem Try.byS105 : byS Try.prog 105 = some 8 := by kernel_rfl
@[simp] theorem Try.zS105 : zS Try.prog 105 = some (.nilFunc) := by kernel_rfl
@[simp] theorem Try.aggS106 : aggS Try.prog 106 = some false := by kernel_rfl
@[simp] theorem Try.szS106 : szS Try.prog 106 = some 1 := by kernel_rfl
@[simp] theorem Try.byS106 : byS Try.prog 106 = some 8 := by kernel_rfl
@[simp] theorem Try.zS106 : zS Try.prog 106 = some (.nilFunc) := by kernel_rfl
@[simp] theorem Try.aggS107 : aggS Try.prog 107 = some false := by kernel_rfl
@[simp] theorem Try.szS107 : szS Try.prog 107 = some 1 := by kernel_rfl
@[simp] theorem Try.byS107 : byS Try.prog 107 = some 4 := by kernel_rfl
@[simp] theorem Try.zS107 : zS Try.prog 107 = some (.int .u32 0) := by kernel_rfl
@[simp] theorem Try.intK107 : intK Try.prog 107 = some .u32 := by kernel_rfl
@[simp] theorem Try.aggS108 : aggS Try.prog 108 = some false := by kernel_rfl
@[simp] theorem Try.szS108 : szS Try.prog 108 = some 1 := by kernel_rfl
@[simp] theorem Try.byS108 : byS Try.prog 108 = some 8 := by kernel_rfl
@[simp] theorem Try.zS108 : zS Try.prog 108 = some (.nilFunc) := by kernel_rfl
@[simp] theorem Try.aggS109 : aggS Try.prog 109 = some false := by kernel_rfl
@[simp] theorem Try.szS109 : szS Try.prog 109 = some 1 := by kernel_rfl
@[simp] theorem Try.byS109 : byS Try.prog 109 = some 8 := by kernel_rfl
@[simp] theorem Try.zS109 : zS Try.prog 109 = some (.int .u64 0) := by kernel_rfl
@[simp] theorem Try.intK109 : intK Try.prog 109 = some .u64 := by kernel_rfl
@[simp] theorem Try.aggS110 : aggS Try.prog 110 = some false := by kernel_rfl
@[simp] theorem Try.szS110 : szS Try.prog 110 = some 1 := by kernel_rfl
@[simp] theorem Try.byS110 : byS Try.prog 110 = some 8 := by kernel_rfl
@[simp] theorem Try.zS110 : zS Try.prog 110 = some (.int .u64 0) := by kernel_rfl
@[simp] theorem Try.intK110 : intK Try.prog 110 = some .u64 := by kernel_rfl
@[simp] theorem Try.aggS111 : aggS Try.prog 111 = some false := by kernel_rfl
@[simp] theorem Try.szS111 : szS Try.prog 111 = some 1 := by kernel_rfl
@[simp] theorem Try.byS111 : byS Try.prog 111 = some 8 := by kernel_rfl
@[simp] theorem Try.zS111 : zS Try.prog 111 = some (.nilFunc) := by kernel_rfl
@[simp] theorem Try.aggS112 : aggS Try.prog 112 = some false := by kernel_rfl
@[simp] theorem Try.szS112 : szS Try.prog 112 = some 1 := by kernel_rfl
@[simp] theorem Try.byS112 : byS Try.prog 112 = some 8 := by kernel_rfl
@[simp] theorem Try.zS112 : zS Try.prog 112 = some (.nilFunc) := by kernel_rfl
@[simp] theorem Try.aggS113 : aggS Try.prog 113 = some false := by kernel_rfl
@[simp] theorem Try.szS113 : szS Try.prog 113 = some 1 := by kernel_rfl
@[simp] theorem Try.byS113 : byS Try.prog 113 = some 8 := by kernel_rfl
@[simp] theorem Try.zS113 : zS Try.prog 113 = some (.nilFunc) := by kernel_rfl
@[simp] theorem Try.aggS114 : aggS Try.prog 114 = some false := by kernel_rfl
@[simp] theorem Try.szS114 : szS Try.prog 114 = some 1 := by kernel_rfl
@[simp] theorem Try.byS114 : byS Try.prog 114 = some 8 := by kernel_rfl
@[simp] theorem Try.zS114 : zS Try.prog 114 = some (.pointer none) := by kernel_rfl
@[simp] theorem Try.nilKind114 : nilKind Try.prog 114 = 2 := by kernel_rfl
@[simp] theorem Try.aggS115 : aggS Try.prog 115 = some false := by kernel_rfl
@[simp] theorem Try.szS115 : szS Try.prog 115 = some 1 := by kernel_rfl
@[simp] theorem Try.byS115 : byS Try.prog 115 = some 8 := by kernel_rfl
@[simp] theorem Try.zS115 : zS Try.prog 115 = some (.nilFunc) := by kernel_rfl
@[simp] theorem Try.aggS116 : aggS Try.prog 116 = some false := by kernel_rfl
@[simp] theorem Try.szS116 : szS Try.prog 116 = some 1 := by kernel_rfl
@[simp] theorem Try.byS116 : byS Try.prog 116 = some 8 := by kernel_rfl
@[simp] theorem Try.zS116 : zS Try.prog 116 = some (.pointer none) := by kernel_rfl
@[simp] theorem Try.nilKind116 : nilKind Try.prog 116 = 2 := by kernel_rfl
@[simp] theorem Try.aggS118 : aggS Try.prog 118 = some false := by kernel_rfl
@[simp] theorem Try.szS118 : szS Try.prog 118 = some 1 := by kernel_rfl
@[simp] theorem Try.byS118 : byS Try.prog 118 = some 8 := by kernel_rfl
@[simp] theorem Try.zS118 : zS Try.prog 118 = some (.nilFunc) := by kernel_rfl
@[simp] theorem Try.aggS119 : aggS Try.prog 119 = some false := by kernel_rfl
@[simp] theorem Try.szS119 : szS Try.prog 119 = some 1 := by kernel_rfl
@[simp] theorem Try.byS119 : byS Try.prog 119 = some 8 := by kernel_rfl
@[simp] theorem Try.zS119 : zS Try.prog 119 = some (.nilFunc) := by kernel_rfl
@[simp] theorem Try.aggS120 : aggS Try.prog 120 = some true := by kernel_rfl
@[simp] theorem Try.szS120 : szS Try.prog 120 = some 4 := by kernel_rfl
@[simp] theorem Try.byS120 : byS Try.prog 120 = some 40 := by kernel_rfl
@[simp] theorem Try.zS120 : zS Try.prog 120 = some (.agg #[.pointer none, .pointer none, .pointer none, .string ⟨#[]⟩]) := by kernel_rfl
@[simp] theorem Try.strOk120 : structOk Try.prog 120 = true := by kernel_rfl
@[simp] theorem Try.fldS120_0 : fldS Try.prog 120 0 = some (0, 1, false) := by kernel_rfl
@[simp] theorem Try.fldS120_1 : fldS Try.prog 120 1 = some (1, 1, false) := by kernel_rfl
@[simp] theorem Try.fldS120_2 : fldS Try.prog 120 2 = some (2, 1, false) := by kernel_rfl
@[simp] theorem Try.fldS120_3 : fldS Try.prog 120 3 = some (3, 1, false) := by kernel_rfl
@[simp] theorem Try.aggS121 : aggS Try.prog 121 = some true := by kernel_rfl
@[simp] theorem Try.szS121 : szS Try.prog 121 = some 4 := by kernel_rfl
@[simp] theorem Try.byS121 : byS Try.prog 121 = some 40 := by kernel_rfl
@[simp] theorem Try.zS121 : zS Try.prog 121 = some (.agg #[.pointer none, .pointer none, .pointer none, .string ⟨#[]⟩]) := by kernel_rfl
@[simp] theorem Try.strOk121 : structOk Try.prog 121 = true := by kernel_rfl
@[simp] theorem Try.fldS121_0 : fldS Try.prog 121 0 = some (0, 1, false) := by kernel_rfl
@[simp] theorem Try.fldS121_1 : fldS Try.prog 121 1 = some (1, 1, false) := by kernel_rfl
@[simp] theorem Try.fldS121_2 : fldS Try.prog 121 2 = some (2, 1, false) := by kernel_rfl
@[simp] theorem Try.fldS121_3 : fldS Try.prog 121 3 = some (3, 1, false) := by kernel_rfl
@[simp] theorem Try.aggS122 : aggS Try.prog 122 = some true := by kernel_rfl
@[simp] theorem Try.szS122 : szS Try.prog 122 = some 0 := by kernel_rfl
@[simp] theorem Try.byS122 : byS Try.prog 122 = some 0 := by kernel_rfl
@[simp] theorem Try.zS122 : zS Try.prog 122 = some (.agg #[]) := by kernel_rfl
@[simp] theorem Try.arrS122 : arrS Try.prog 122 = some (0, 1) := by kernel_rfl
@[simp] theorem Try.aggS123 : aggS Try.prog 123 = some true := by kernel_rfl
@[simp] theorem Try.szS123 : szS Try.prog 123 = some 0 := by kernel_rfl
@[simp] theorem Try.byS123 : byS Try.prog 123 = some 0 := by kernel_rfl
@[simp] theorem Try.zS123 : zS Try.prog 123 = some (.agg #[]) := by kernel_rfl
@[simp] theorem Try.strOk123 : structOk Try.prog 123 = true := by kernel_rfl
@[simp] theorem Try.fldS123_0 : fldS Try.prog 123 0 = some (0, 0, true) := by kernel_rfl
@[simp] theorem Try.aggS124 : aggS Try.prog 124 = some true := by kernel_rfl
@[simp] theorem Try.szS124 : szS Try.prog 124 = some 0 := by kernel_rfl
@[simp] theorem Try.byS124 : byS Try.prog 124 = some 0 := by kernel_rfl
@[simp] theorem Try.zS124 : zS Try.prog 124 = some (.agg #[]) := by kernel_rfl
@[simp] theorem Try.strOk124 : structOk Try.prog 124 = true := by kernel_rfl
@[simp] theorem Try.fldS124_0 : fldS Try.prog 124 0 = some (0, 0, true) := by kernel_rfl
@[simp] theorem Try.aggS125 : aggS Try.prog 125 = some false := by kernel_rfl
@[simp] theorem Try.szS125 : szS Try.prog 125 = some 1 := by kernel_rfl
@[simp] theorem Try.byS125 : byS Try.prog 125 = some 1 := by kernel_rfl
@[simp] theorem Try.zS125 : zS Try.prog 125 = some (.int .u8 0) := by kernel_rfl
@[simp] theorem Try.intK125 : intK Try.prog 125 = some .u8 := by kernel_rfl
@[simp] theorem Try.aggS126 : aggS Try.prog 126 = some false := by kernel_rfl
@[simp] theorem Try.szS126 : szS Try.prog 126 = some 1 := by kernel_rfl
@[simp] theorem Try.byS126 : byS Try.prog 126 = some 1 := by kernel_rfl
@[simp] theorem Try.zS126 : zS Try.prog 126 = some (.int .u8 0) := by kernel_rfl
@[simp] theorem Try.intK126 : intK Try.prog 126 = some .u8 := by kernel_rfl
@[simp] theorem Try.aggS127 : aggS Try.prog 127 = some false := by kernel_rfl
@[simp] theorem Try.szS127 : szS Try.prog 127 = some 1 := by kernel_rfl
@[simp] theorem Try.byS127 : byS Try.prog 127 = some 8 := by kernel_rfl
@[simp] theorem Try.zS127 : zS Try.prog 127 = some (.nilFunc) := by kernel_rfl
@[simp] theorem Try.aggS128 : aggS Try.prog 128 = some false := by kernel_rfl
@[simp] theorem Try.szS128 : szS Try.prog 128 = some 1 := by kernel_rfl
@[simp] theorem Try.byS128 : byS Try.prog 128 = some 8 := by kernel_rfl
@[simp] theorem Try.zS128 : zS Try.prog 128 = some (.pointer none) := by kernel_rfl
@[simp] theorem Try.nilKind128 : nilKind Try.prog 128 = 2 := by kernel_rfl
@[simp] theorem Try.aggS129 : aggS Try.prog 129 = some false := by kernel_rfl
@[simp] theorem Try.szS129 : szS Try.prog 129 = some 1 := by kernel_rfl
@[simp] theorem Try.byS129 : byS Try.prog 129 = some 4 := by kernel_rfl
@[simp] theorem Try.zS129 : zS Try.prog 129 = some (.int .i32 0) := by kernel_rfl
@[simp] theorem Try.intK129 : intK Try.prog 129 = some .i32 := by kernel_rfl
@[simp] theorem Try.aggS130 : aggS Try.prog 130 = some false := by kernel_rfl
@[simp] theorem Try.szS130 : szS Try.prog 130 = some 1 := by kernel_rfl
@[simp] theorem Try.byS130 : byS Try.prog 130 = some 4 := by kernel_rfl
@[simp] theorem Try.zS130 : zS Try.prog 130 = some (.int .i32 0) := by kernel_rfl
@[simp] theorem Try.intK130 : intK Try.prog 130 = some .i32 := by kernel_rfl
@[simp] theorem Try.aggS131 : aggS Try.prog 131 = some true := by kernel_rfl
@[simp] theorem Try.szS131 : szS Try.prog 131 = some 11 := by kernel_rfl
@[simp] theorem Try.byS131 : byS Try.prog 131 = some 48 := by kernel_rfl
@[simp] theorem Try.zS131 : zS Try.prog 131 = some (.agg #[.int .u64 0, .int .u64 0, .int .u32 0, .int .u8 0, .int .u8 0, .int .u8 0, .int .u8 0, .nilFunc, .pointer none, .int .i32 0, .int .i32 0]) := by kernel_rfl
@[simp] theorem Try.strOk131 : structOk Try.prog 131 = true := by kernel_rfl
@[simp] theorem Try.fldS131_0 : fldS Try.prog 131 0 = some (0, 1, false) := by kernel_rfl
@[simp] theorem Try.fldS131_1 : fldS Try.prog 131 1 = some (1, 1, false) := by kernel_rfl
@[simp] theorem Try.fldS131_2 : fldS Try.prog 131 2 = some (2, 1, false) := by kernel_rfl
@[simp] theorem Try.fldS131_3 : fldS Try.prog 131 3 = some (3, 1, false) := by kernel_rfl
@[simp] theorem Try.fldS131_4 : fldS Try.prog 131 4 = some (4, 1, false) := by kernel_rfl
@[simp] theorem Try.fldS131_5 : fldS Try.prog 131 5 = some (5, 1, false) := by kernel_rfl
@[simp] theorem Try.fldS131_6 : fldS Try.prog 131 6 = some (6, 1, false) := by kernel_rfl
@[simp] theorem Try.fldS131_7 : fldS Try.prog 131 7 = some (7, 1, false) := by kernel_rfl
@[simp] theorem Try.fldS131_8 : fldS Try.prog 131 8 = some (8, 1, false) := by kernel_rfl
@[simp] theorem Try.fldS131_9 : fldS Try.prog 131 9 = some (9, 1, false) := by kernel_rfl
@[simp] theorem Try.fldS131_10 : fldS Try.prog 131 10 = some (10, 1, false) := by kernel_rfl
@[simp] theorem Try.aggS132 : aggS Try.prog 132 = some true := by kernel_rfl
@[simp] theorem Try.szS132 : szS Try.prog 132 = some 11 := by kernel_rfl
@[simp] theorem Try.byS132 : byS Try.prog 132 = some 48 := by kernel_rfl
@[simp] theorem Try.zS132 : zS Try.prog 132 = some (.agg #[.int .u64 0, .int .u64 0, .int .u32 0, .int .u8 0, .int .u8 0, .int .u8 0, .int .u8 0, .nilFunc, .pointer none, .int .i32 0, .int .i32 0]) := by kernel_rfl
@[simp] theorem Try.strOk132 : structOk Try.prog 132 = true := by kernel_rfl
@[simp] theorem Try.fldS132_0 : fldS Try.prog 132 0 = some (0, 1, false) := by kernel_rfl
@[simp] theorem Try.fldS132_1 : fldS Try.prog 132 1 = some (1, 1, false) := by kernel_rfl
@[simp] theorem Try.fldS132_2 : fldS Try.prog 132 2 = some (2, 1, false) := by kernel_rfl
@[simp] theorem Try.fldS132_3 : fldS Try.prog 132 3 = some (3, 1, false) := by kernel_rfl
@[simp] theorem Try.fldS132_4 : fldS Try.prog 132 4 = some (4, 1, false) := by kernel_rfl
@[simp] theorem Try.fldS132_5 : fldS Try.prog 132 5 = some (5, 1, false) := by kernel_rfl
@[simp] theorem Try.fldS132_6 : fldS Try.prog 132 6 = some (6, 1, false) := by kernel_rfl
@[simp] theorem Try.fldS132_7 : fldS Try.prog 132 7 = some (7, 1, false) := by kernel_rfl
@[simp] theorem Try.fldS132_8 : fldS Try.prog 132 8 = some (8, 1, false) := by kernel_rfl
@[simp] theorem Try.fldS132_9 : fldS Try.prog 132 9 = some (9, 1, false) := by kernel_rfl
@[simp] theorem Try.fldS132_10 : fldS Try.prog 132 10 = some (10, 1, false) := by kernel_rfl
@[simp] theorem Try.aggS133 : aggS Try.prog 133 = some false := by kernel_rfl
@[simp] theorem Try.szS133 : szS Try.prog 133 = some 1 := by kernel_rfl
@[simp] theorem Try.byS133 : byS Try.prog 133 = some 8 := by kernel_rfl
@[simp] theorem Try.zS133 : zS Try.prog 133 = some (.pointer none) := by kernel_rfl
@[simp] theorem Try.ok2 : FnOk Try.prog 2 := ⟨Try.f2, Try.func2, by kernel_rfl, by kernel_rfl⟩
@[simp] theorem Try.ok3 : FnOk Try.prog 3 := ⟨Try.f3, Try.func3, by kernel_rfl, by kernel_rfl⟩
@[simp] theorem Try.ok4 : FnOk Try.prog 4 := ⟨Try.f4, Try.func4, by kernel_rfl, by kernel_rfl⟩
@[simp] theorem Try.ok5 : FnOk Try.prog 5 := ⟨Try.f5, Try.func5, by kernel_rfl, by kernel_rfl⟩
@[simp] theorem Try.ok6 : FnOk Try.prog 6 := ⟨Try.f6, Try.func6, by kernel_rfl, by kernel_rfl⟩
@[simp] theorem Try.ok7 : FnOk Try.prog 7 := ⟨Try.f7, Try.func7, by kernel_rfl, by kernel_rfl⟩
@[simp] theorem Try.ok8 : FnOk Try.prog 8 := ⟨Try.f8, Try.func8, by kernel_rfl, by kernel_rfl⟩
@[simp] theorem Try.ok9 : FnOk Try.prog 9 := ⟨Try.f9, Try.func9, by kernel_rfl, by kernel_rfl⟩
@[simp] theorem Try.ok10 : FnOk Try.prog 10 := ⟨Try.f10, Try.func10, by kernel_rfl, by kernel_rfl⟩
@[simp] theorem Try.ok11 : FnOk Try.prog 11 := ⟨Try.f11, Try.func11, by kernel_rfl, by kernel_rfl⟩
@[simp] theorem Try.ok12 : FnOk Try.prog 12 := ⟨Try.f12, Try.func12, by kernel_rfl, by kernel_rfl⟩
@[simp] theorem Try.ok13 : FnOk Try.prog 13 := ⟨Try.f13, Try.func13, by kernel_rfl, by kernel_rfl⟩
@[simp] theorem Try.ok14 : FnOk Try.prog 14 := ⟨Try.f14, Try.func14, by kernel_rfl, by kernel_rfl⟩
@[simp] theorem Try.ok15 : FnOk Try.prog 15 := ⟨Try.f15, Try.func15, by kernel_rfl, by kernel_rfl⟩
@[simp] theorem Try.ok16 : FnOk Try.prog 16 := ⟨Try.f16, Try.func16, by kernel_rfl, by kernel_rfl⟩
@[simp] theorem Try.ok17 : FnOk Try.prog 17 := ⟨Try.f17, Try.func17, by kernel_rfl, by kernel_rfl⟩
@[simp] theorem Try.ok18 : FnOk Try.prog 18 := ⟨Try.f18, Try.func18, by kernel_rfl, by kernel_rfl⟩
@[simp] theorem Try.ok19 : FnOk Try.prog 19 := ⟨Try.f19, Try.func19, by kernel_rfl, by kernel_rfl⟩
@[simp] theorem Try.ok20 : FnOk Try.prog 20 := ⟨Try.f20, Try.func20, by kernel_rfl, by kernel_rfl⟩
@[simp] theorem Try.ok21 : FnOk Try.prog 21 := ⟨Try.f21, Try.func21, by kernel_rfl, by kernel_rfl⟩
@[simp] theorem Try.ok22 : FnOk Try.prog 22 := ⟨Try.f22, Try.func22, by kernel_rfl, by kernel_rfl⟩
@[simp] theorem Try.ok23 : FnOk Try.prog 23 := ⟨Try.f23, Try.func23, by kernel_rfl, by kernel_rfl⟩
@[simp] theorem Try.ok24 : FnOk Try.prog 24 := ⟨Try.f24, Try.func24, by kernel_rfl, by kernel_rfl⟩
@[simp] theorem Try.ok25 : FnOk Try.prog 25 := ⟨Try.f25, Try.func25, by kernel_rfl, by kernel_rfl⟩
@[simp] theorem Try.ok26 : FnOk Try.prog 26 := ⟨Try.f26, Try.func26, by kernel_rfl, by kernel_rfl⟩
@[simp] theorem Try.ok27 : FnOk Try.prog 27 := ⟨Try.f27, Try.func27, by kernel_rfl, by kernel_rfl⟩
@[simp] theorem Try.ok28 : FnOk Try.prog 28 := ⟨Try.f28, Try.func28, by kernel_rfl, by kernel_rfl⟩
@[simp] theorem Try.ok29 : FnOk Try.prog 29 := ⟨Try.f29, Try.func29, by kernel_rfl, by kernel_rfl⟩
@[simp] theorem Try.ok30 : FnOk Try.prog 30 := ⟨Try.f30, Try.func30, by kernel_rfl, by kernel_rfl⟩
@[simp] theorem Try.ok31 : FnOk Try.prog 31 := ⟨Try.f31, Try.func31, by kernel_rfl, by kernel_rfl⟩
@[simp] theorem Try.ok32 : FnOk Try.prog 32 := ⟨Try.f32, Try.func32, by kernel_rfl, by kernel_rfl⟩
@[simp] theorem Try.ok33 : FnOk Try.prog 33 := ⟨Try.f33, Try.func33, by kernel_rfl, by kernel_rfl⟩
@[simp] theorem Try.ok34 : FnOk Try.prog 34 := ⟨Try.f34, Try.func34, by kernel_rfl, by kernel_rfl⟩
@[simp] theorem Try.ok35 : FnOk Try.prog 35 := ⟨Try.f35, Try.func35, by kernel_rfl, by kernel_rfl⟩
@[simp] theorem Try.ok36 : FnOk Try.prog 36 := ⟨Try.f36, Try.func36, by kernel_rfl, by kernel_rfl⟩
@[simp] theorem Try.ok37 : FnOk Try.prog 37 := ⟨Try.f37, Try.func37, by kernel_rfl, by kernel_rfl⟩
@[simp] theorem Try.ok38 : FnOk Try.prog 38 := ⟨Try.f38, Try.func38, by kernel_rfl, by kernel_rfl⟩
@[simp] theorem Try.ok39 : FnOk Try.prog 39 := ⟨Try.f39, Try.func39, by kernel_rfl, by kernel_rfl⟩
@[simp] theorem Try.ok40 : FnOk Try.prog 40 := ⟨Try.f40, Try.func40, by kernel_rfl, by kernel_rfl⟩
@[simp] theorem Try.ok41 : FnOk Try.prog 41 := ⟨Try.f41, Try.func41, by kernel_rfl, by kernel_rfl⟩
@[simp] theorem Try.ok42 : FnOk Try.prog 42 := ⟨Try.f42, Try.func42, by kernel_rfl, by kernel_rfl⟩
@[simp] theorem Try.ok43 : FnOk Try.prog 43 := ⟨Try.f43, Try.func43, by kernel_rfl, by kernel_rfl⟩
@[simp] theorem Try.ok44 : FnOk Try.prog 44 := ⟨Try.f44, Try.func44, by kernel_rfl, by kernel_rfl⟩
@[simp] theorem Try.ok45 : FnOk Try.prog 45 := ⟨Try.f45, Try.func45, by kernel_rfl, by kernel_rfl⟩
@[simp] theorem Try.ok46 : FnOk Try.prog 46 := ⟨Try.f46, Try.func46, by kernel_rfl, by kernel_rfl⟩
@[simp] theorem Try.ok47 : FnOk Try.prog 47 := ⟨Try.f47, Try.func47, by kernel_rfl, by kernel_rfl⟩
@[simp] theorem Try.ok48 : FnOk Try.prog 48 := ⟨Try.f48, Try.func48, by kernel_rfl, by kernel_rfl⟩
@[simp] theorem Try.ok49 : FnOk Try.prog 49 := ⟨Try.f49, Try.func49, by kernel_rfl, by kernel_rfl⟩
@[simp] theorem Try.ok50 : FnOk Try.prog 50 := ⟨Try.f50, Try.func50, by kernel_rfl, by kernel_rfl⟩
@[simp] theorem Try.ok51 : FnOk Try.prog 51 := ⟨Try.f51, Try.func51, by kernel_rfl, by kernel_rfl⟩
@[simp] theorem Try.ok52 : FnOk Try.prog 52 := ⟨Try.f52, Try.func52, by kernel_rfl, by kernel_rfl⟩
@[simp] theorem Try.ok53 : FnOk Try.prog 53 := ⟨Try.f53, Try.func53, by kernel_rfl, by kernel_rfl⟩
@[simp] theorem Try.ok54 : FnOk Try.prog 54 := ⟨Try.f54, Try.func54, by kernel_rfl, by kernel_rfl⟩
@[simp] theorem Try.ok55 : FnOk Try.prog 55 := ⟨Try.f55, Try.func55, by kernel_rfl, by kernel_rfl⟩
@[simp] theorem Try.ok56 : FnOk Try.prog 56 := ⟨Try.f56, Try.func56, by kernel_rfl, by kernel_rfl⟩
@[simp] theorem Try.ok57 : FnOk Try.prog 57 := ⟨Try.f57, Try.func57, by kernel_rfl, by kernel_rfl⟩
@[simp] theorem Try.ok58 : FnOk Try.prog 58 := ⟨Try.f58, Try.func58, by kernel_rfl, by kernel_rfl⟩
@[simp] theorem Try.ok59 : FnOk Try.prog 59 := ⟨Try.f59, Try.func59, by kernel_rfl, by kernel_rfl⟩
@[simp] theorem Try.ok60 : FnOk Try.prog 60 := ⟨Try.f60, Try.func60, by kernel_rfl, by kernel_rfl⟩
@[simp] theorem Try.ok61 : FnOk Try.prog 61 := ⟨Try.f61, Try.func61, by kernel_rfl, by kernel_rfl⟩
@[simp] theorem Try.ok62 : FnOk Try.prog 62 := ⟨Try.f62, Try.func62, by kernel_rfl, by kernel_rfl⟩
@[simp] theorem Try.ok63 : FnOk Try.prog 63 := ⟨Try.f63, Try.func63, by kernel_rfl, by kernel_rfl⟩
@[simp] theorem Try.ok64 : FnOk Try.prog 64 := ⟨Try.f64, Try.func64, by kernel_rfl, by kernel_rfl⟩
@[simp] theorem Try.ok65 : FnOk Try.prog 65 := ⟨Try.f65, Try.func65, by kernel_rfl, by kernel_rfl⟩
@[simp] theorem Try.ok66 : FnOk Try.prog 66 := ⟨Try.f66, Try.func66, by kernel_rfl, by kernel_rfl⟩
@[simp] theorem Try.ok67 : FnOk Try.prog 67 := ⟨Try.f67, Try.func67, by kernel_rfl, by kernel_rfl⟩
@[simp] theorem Try.ok68 : FnOk Try.prog 68 := ⟨Try.f68, Try.func68, by kernel_rfl, by kernel_rfl⟩
@[simp] theorem Try.ok69 : FnOk Try.prog 69 := ⟨Try.f69, Try.func69, by kernel_rfl, by kernel_rfl⟩
@[simp] theorem Try.ok70 : FnOk Try.prog 70 := ⟨Try.f70, Try.func70, by kernel_rfl, by kernel_rfl⟩
@[simp] theorem Try.ok71 : FnOk Try.prog 71 := ⟨Try.f71, Try.func71, by kernel_rfl, by kernel_rfl⟩
@[simp] theorem Try.ok72 : FnOk Try.prog 72 := ⟨Try.f72, Try.func72, by kernel_rfl, by kernel_rfl⟩
@[simp] theorem Try.ok73 : FnOk Try.prog 73 := ⟨Try.f73, Try.func73, by kernel_rfl, by kernel_rfl⟩
@[simp] theorem Try.ok74 : FnOk Try.prog 74 := ⟨Try.f74, Try.func74, by kernel_rfl, by kernel_rfl⟩
@[simp] theorem Try.ok75 : FnOk Try.prog 75 := ⟨Try.f75, Try.func75, by kernel_rfl, by kernel_rfl⟩
@[simp] theorem Try.ok76 : FnOk Try.prog 76 := ⟨Try.f76, Try.func76, by kernel_rfl, by kernel_rfl⟩
end Go.Proofs
