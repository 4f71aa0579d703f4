/-
  The types and functions of this seat, as the abstract machine asks for them. Printed by tab.py.
-/
import Derived.Test.YtfeclhjbkphjdaaAw12
import Derived.Test.YtfeclhjbkphjdaaProg
import Derived.KernelRfl
import Derived.Laws.StructEq
import Derived.ChangeKeysEq
namespace Go.Aw.Tab
open Go.Proofs Go.RowKit

set_option linter.unusedSimpArgs false
set_option maxHeartbeats 1000000
@[simp] theorem shp1 : shp Try.prog 1 = some (false, 1) := by kernel_rfl
@[simp] theorem zero1 : zeroA Try.prog 1 = some [.nilFunc] := by kernel_rfl
@[simp] theorem zeroV1 : zeroV Try.prog 1 = some (.nilFunc) := by kernel_rfl
@[simp] theorem tk1 : tk Try.prog 1 = .func := by kernel_rfl
@[simp] theorem shp2 : shp Try.prog 2 = some (false, 1) := by kernel_rfl
@[simp] theorem zero2 : zeroA Try.prog 2 = some [.int .i64 0] := by kernel_rfl
@[simp] theorem zeroV2 : zeroV Try.prog 2 = some (.int .i64 0) := by kernel_rfl
@[simp] theorem tk2 : tk Try.prog 2 = .int := by kernel_rfl
@[simp] theorem shp3 : shp Try.prog 3 = some (false, 1) := by kernel_rfl
@[simp] theorem zero3 : zeroA Try.prog 3 = some [.int .i64 0] := by kernel_rfl
@[simp] theorem zeroV3 : zeroV Try.prog 3 = some (.int .i64 0) := by kernel_rfl
@[simp] theorem tk3 : tk Try.prog 3 = .int := by kernel_rfl
@[simp] theorem shp4 : shp Try.prog 4 = some (false, 1) := by kernel_rfl
@[simp] theorem zero4 : zeroA Try.prog 4 = some [.bool false] := by kernel_rfl
@[simp] theorem zeroV4 : zeroV Try.prog 4 = some (.bool false) := by kernel_rfl
@[simp] theorem tk4 : tk Try.prog 4 = .bool := by kernel_rfl
@[simp] theorem shp5 : shp Try.prog 5 = some (false, 1) := by kernel_rfl
@[simp] theorem zero5 : zeroA Try.prog 5 = some [.int .u8 0] := by kernel_rfl
@[simp] theorem zeroV5 : zeroV Try.prog 5 = some (.int .u8 0) := by kernel_rfl
@[simp] theorem tk5 : tk Try.prog 5 = .int := by kernel_rfl
@[simp] theorem shp6 : shp Try.prog 6 = some (false, 1) := by kernel_rfl
@[simp] theorem zero6 : zeroA Try.prog 6 = some [.int .u8 0] := by kernel_rfl
@[simp] theorem zeroV6 : zeroV Try.prog 6 = some (.int .u8 0) := by kernel_rfl
@[simp] theorem tk6 : tk Try.prog 6 = .int := by kernel_rfl
@[simp] theorem shp7 : shp Try.prog 7 = some (true, 4) := by kernel_rfl
@[simp] theorem zero7 : zeroA Try.prog 7 = some [.int .i64 0, .int .i64 0, .bool false, .int .u8 0] := by kernel_rfl
@[simp] theorem zeroV7 : zeroV Try.prog 7 = some (.agg #[.int .i64 0, .int .i64 0, .bool false, .int .u8 0]) := by kernel_rfl
@[simp] theorem tk7 : tk Try.prog 7 = .other := by kernel_rfl
@[simp] theorem fld7_0 : fld Try.prog 7 0 = some 0 := by kernel_rfl
@[simp] theorem fieldA7_0 : fieldA Try.prog 7 0 = some (2, 0) := by kernel_rfl
@[simp] theorem fld7_1 : fld Try.prog 7 1 = some 1 := by kernel_rfl
@[simp] theorem fieldA7_1 : fieldA Try.prog 7 1 = some (3, 1) := by kernel_rfl
@[simp] theorem fld7_2 : fld Try.prog 7 2 = some 2 := by kernel_rfl
@[simp] theorem fieldA7_2 : fieldA Try.prog 7 2 = some (4, 2) := by kernel_rfl
@[simp] theorem fld7_3 : fld Try.prog 7 3 = some 3 := by kernel_rfl
@[simp] theorem fieldA7_3 : fieldA Try.prog 7 3 = some (6, 3) := by kernel_rfl
@[simp] theorem pl7 : plA Try.prog 7 = some [(0, 1), (1, 1), (2, 1), (3, 1)] := by kernel_rfl
@[simp] theorem shp8 : shp Try.prog 8 = some (true, 4) := by kernel_rfl
@[simp] theorem zero8 : zeroA Try.prog 8 = some [.int .i64 0, .int .i64 0, .bool false, .int .u8 0] := by kernel_rfl
@[simp] theorem zeroV8 : zeroV Try.prog 8 = some (.agg #[.int .i64 0, .int .i64 0, .bool false, .int .u8 0]) := by kernel_rfl
@[simp] theorem tk8 : tk Try.prog 8 = .other := by kernel_rfl
@[simp] theorem fld8_0 : fld Try.prog 8 0 = some 0 := by kernel_rfl
@[simp] theorem fieldA8_0 : fieldA Try.prog 8 0 = some (2, 0) := by kernel_rfl
@[simp] theorem fld8_1 : fld Try.prog 8 1 = some 1 := by kernel_rfl
@[simp] theorem fieldA8_1 : fieldA Try.prog 8 1 = some (3, 1) := by kernel_rfl
@[simp] theorem fld8_2 : fld Try.prog 8 2 = some 2 := by kernel_rfl
@[simp] theorem fieldA8_2 : fieldA Try.prog 8 2 = some (4, 2) := by kernel_rfl
@[simp] theorem fld8_3 : fld Try.prog 8 3 = some 3 := by kernel_rfl
@[simp] theorem fieldA8_3 : fieldA Try.prog 8 3 = some (6, 3) := by kernel_rfl
@[simp] theorem pl8 : plA Try.prog 8 = some [(0, 1), (1, 1), (2, 1), (3, 1)] := by kernel_rfl
@[simp] theorem shp9 : shp Try.prog 9 = some (false, 1) := by kernel_rfl
@[simp] theorem zero9 : zeroA Try.prog 9 = some [.string ⟨#[]⟩] := by kernel_rfl
@[simp] theorem zeroV9 : zeroV Try.prog 9 = some (.string ⟨#[]⟩) := by kernel_rfl
@[simp] theorem tk9 : tk Try.prog 9 = .string := by kernel_rfl
@[simp] theorem shp10 : shp Try.prog 10 = some (false, 1) := by kernel_rfl
@[simp] theorem zero10 : zeroA Try.prog 10 = some [.string ⟨#[]⟩] := by kernel_rfl
@[simp] theorem zeroV10 : zeroV Try.prog 10 = some (.string ⟨#[]⟩) := by kernel_rfl
@[simp] theorem tk10 : tk Try.prog 10 = .string := by kernel_rfl
@[simp] theorem shp11 : shp Try.prog 11 = some (false, 1) := by kernel_rfl
@[simp] theorem zero11 : zeroA Try.prog 11 = some [.string ⟨#[]⟩] := by kernel_rfl
@[simp] theorem zeroV11 : zeroV Try.prog 11 = some (.string ⟨#[]⟩) := by kernel_rfl
@[simp] theorem tk11 : tk Try.prog 11 = .string := by kernel_rfl
@[simp] theorem shp12 : shp Try.prog 12 = some (false, 1) := by kernel_rfl
@[simp] theorem zero12 : zeroA Try.prog 12 = some [.int .u64 0] := by kernel_rfl
@[simp] theorem zeroV12 : zeroV Try.prog 12 = some (.int .u64 0) := by kernel_rfl
@[simp] theorem tk12 : tk Try.prog 12 = .int := by kernel_rfl
@[simp] theorem shp13 : shp Try.prog 13 = some (true, 2) := by kernel_rfl
@[simp] theorem zero13 : zeroA Try.prog 13 = some [.string ⟨#[]⟩, .int .u64 0] := by kernel_rfl
@[simp] theorem zeroV13 : zeroV Try.prog 13 = some (.agg #[.string ⟨#[]⟩, .int .u64 0]) := by kernel_rfl
@[simp] theorem tk13 : tk Try.prog 13 = .other := by kernel_rfl
@[simp] theorem fld13_0 : fld Try.prog 13 0 = some 0 := by kernel_rfl
@[simp] theorem fieldA13_0 : fieldA Try.prog 13 0 = some (9, 0) := by kernel_rfl
@[simp] theorem fld13_1 : fld Try.prog 13 1 = some 1 := by kernel_rfl
@[simp] theorem fieldA13_1 : fieldA Try.prog 13 1 = some (12, 1) := by kernel_rfl
@[simp] theorem pl13 : plA Try.prog 13 = some [(0, 1), (1, 1)] := by kernel_rfl
@[simp] theorem shp14 : shp Try.prog 14 = some (true, 2) := by kernel_rfl
@[simp] theorem zero14 : zeroA Try.prog 14 = some [.string ⟨#[]⟩, .int .u64 0] := by kernel_rfl
@[simp] theorem zeroV14 : zeroV Try.prog 14 = some (.agg #[.string ⟨#[]⟩, .int .u64 0]) := by kernel_rfl
@[simp] theorem tk14 : tk Try.prog 14 = .other := by kernel_rfl
@[simp] theorem fld14_0 : fld Try.prog 14 0 = some 0 := by kernel_rfl
@[simp] theorem fieldA14_0 : fieldA Try.prog 14 0 = some (9, 0) := by kernel_rfl
@[simp] theorem fld14_1 : fld Try.prog 14 1 = some 1 := by kernel_rfl
@[simp] theorem fieldA14_1 : fieldA Try.prog 14 1 = some (12, 1) := by kernel_rfl
@[simp] theorem pl14 : plA Try.prog 14 = some [(0, 1), (1, 1)] := by kernel_rfl
@[simp] theorem shp15 : shp Try.prog 15 = some (false, 1) := by kernel_rfl
@[simp] theorem zero15 : zeroA Try.prog 15 = some [.pointer none] := by kernel_rfl
@[simp] theorem zeroV15 : zeroV Try.prog 15 = some (.pointer none) := by kernel_rfl
@[simp] theorem tk15 : tk Try.prog 15 = .pointer := by kernel_rfl
@[simp] theorem shp16 : shp Try.prog 16 = some (false, 1) := by kernel_rfl
@[simp] theorem zero16 : zeroA Try.prog 16 = some [.pointer none] := by kernel_rfl
@[simp] theorem zeroV16 : zeroV Try.prog 16 = some (.pointer none) := by kernel_rfl
@[simp] theorem tk16 : tk Try.prog 16 = .pointer := by kernel_rfl
@[simp] theorem shp17 : shp Try.prog 17 = some (false, 1) := by kernel_rfl
@[simp] theorem zero17 : zeroA Try.prog 17 = some [.pointer none] := by kernel_rfl
@[simp] theorem zeroV17 : zeroV Try.prog 17 = some (.pointer none) := by kernel_rfl
@[simp] theorem tk17 : tk Try.prog 17 = .pointer := by kernel_rfl
@[simp] theorem shp18 : shp Try.prog 18 = some (true, 1) := by kernel_rfl
@[simp] theorem zero18 : zeroA Try.prog 18 = some [.pointer none] := by kernel_rfl
@[simp] theorem zeroV18 : zeroV Try.prog 18 = some (.agg #[.pointer none]) := by kernel_rfl
@[simp] theorem tk18 : tk Try.prog 18 = .other := by kernel_rfl
@[simp] theorem fld18_0 : fld Try.prog 18 0 = some 0 := by kernel_rfl
@[simp] theorem fieldA18_0 : fieldA Try.prog 18 0 = some (17, 0) := by kernel_rfl
@[simp] theorem pl18 : plA Try.prog 18 = some [(0, 1)] := by kernel_rfl
@[simp] theorem shp19 : shp Try.prog 19 = some (true, 1) := by kernel_rfl
@[simp] theorem zero19 : zeroA Try.prog 19 = some [.pointer none] := by kernel_rfl
@[simp] theorem zeroV19 : zeroV Try.prog 19 = some (.agg #[.pointer none]) := by kernel_rfl
@[simp] theorem tk19 : tk Try.prog 19 = .other := by kernel_rfl
@[simp] theorem fld19_0 : fld Try.prog 19 0 = some 0 := by kernel_rfl
@[simp] theorem fieldA19_0 : fieldA Try.prog 19 0 = some (17, 0) := by kernel_rfl
@[simp] theorem pl19 : plA Try.prog 19 = some [(0, 1)] := by kernel_rfl
@[simp] theorem shp20 : shp Try.prog 20 = some (false, 1) := by kernel_rfl
@[simp] theorem zero20 : zeroA Try.prog 20 = some [.nilIface] := by kernel_rfl
@[simp] theorem zeroV20 : zeroV Try.prog 20 = some (.nilIface) := by kernel_rfl
@[simp] theorem tk20 : tk Try.prog 20 = .other := by kernel_rfl
@[simp] theorem shp21 : shp Try.prog 21 = some (false, 1) := by kernel_rfl
@[simp] theorem zero21 : zeroA Try.prog 21 = some [.int .i32 0] := by kernel_rfl
@[simp] theorem zeroV21 : zeroV Try.prog 21 = some (.int .i32 0) := by kernel_rfl
@[simp] theorem tk21 : tk Try.prog 21 = .int := by kernel_rfl
@[simp] theorem shp22 : shp Try.prog 22 = some (false, 1) := by kernel_rfl
@[simp] theorem zero22 : zeroA Try.prog 22 = some [.slice none 0 0] := by kernel_rfl
@[simp] theorem zeroV22 : zeroV Try.prog 22 = some (.slice none 0 0) := by kernel_rfl
@[simp] theorem tk22 : tk Try.prog 22 = .slice := by kernel_rfl
@[simp] theorem elemS22 : elemS Try.prog 22 = some (37, 11, 112) := by kernel_rfl
@[simp] theorem shp23 : shp Try.prog 23 = some (false, 1) := by kernel_rfl
@[simp] theorem zero23 : zeroA Try.prog 23 = some [.nilFunc] := by kernel_rfl
@[simp] theorem zeroV23 : zeroV Try.prog 23 = some (.nilFunc) := by kernel_rfl
@[simp] theorem tk23 : tk Try.prog 23 = .func := by kernel_rfl
@[simp] theorem shp24 : shp Try.prog 24 = some (false, 1) := by kernel_rfl
@[simp] theorem zero24 : zeroA Try.prog 24 = some [.nilFunc] := by kernel_rfl
@[simp] theorem zeroV24 : zeroV Try.prog 24 = some (.nilFunc) := by kernel_rfl
@[simp] theorem tk24 : tk Try.prog 24 = .func := by kernel_rfl
@[simp] theorem shp25 : shp Try.prog 25 = some (false, 1) := by kernel_rfl
@[simp] theorem zero25 : zeroA Try.prog 25 = some [.pointer none] := by kernel_rfl
@[simp] theorem zeroV25 : zeroV Try.prog 25 = some (.pointer none) := by kernel_rfl
@[simp] theorem tk25 : tk Try.prog 25 = .pointer := by kernel_rfl
@[simp] theorem shp26 : shp Try.prog 26 = some (false, 1) := by kernel_rfl
@[simp] theorem zero26 : zeroA Try.prog 26 = some [.int .i64 0] := by kernel_rfl
@[simp] theorem zeroV26 : zeroV Try.prog 26 = some (.int .i64 0) := by kernel_rfl
@[simp] theorem tk26 : tk Try.prog 26 = .int := by kernel_rfl
@[simp] theorem shp28 : shp Try.prog 28 = some (false, 1) := by kernel_rfl
@[simp] theorem zero28 : zeroA Try.prog 28 = some [.nilFunc] := by kernel_rfl
@[simp] theorem zeroV28 : zeroV Try.prog 28 = some (.nilFunc) := by kernel_rfl
@[simp] theorem tk28 : tk Try.prog 28 = .func := by kernel_rfl
@[simp] theorem shp29 : shp Try.prog 29 = some (false, 1) := by kernel_rfl
@[simp] theorem zero29 : zeroA Try.prog 29 = some [.pointer none] := by kernel_rfl
@[simp] theorem zeroV29 : zeroV Try.prog 29 = some (.pointer none) := by kernel_rfl
@[simp] theorem tk29 : tk Try.prog 29 = .pointer := by kernel_rfl
@[simp] theorem shp31 : shp Try.prog 31 = some (false, 1) := by kernel_rfl
@[simp] theorem zero31 : zeroA Try.prog 31 = some [.nilFunc] := by kernel_rfl
@[simp] theorem zeroV31 : zeroV Try.prog 31 = some (.nilFunc) := by kernel_rfl
@[simp] theorem tk31 : tk Try.prog 31 = .func := by kernel_rfl
@[simp] theorem shp32 : shp Try.prog 32 = some (true, 4) := by kernel_rfl
@[simp] theorem zero32 : zeroA Try.prog 32 = some [.int .i64 0, .int .i64 0, .int .i64 0, .string ⟨#[]⟩] := by kernel_rfl
@[simp] theorem zeroV32 : zeroV Try.prog 32 = some (.agg #[.int .i64 0, .int .i64 0, .int .i64 0, .string ⟨#[]⟩]) := by kernel_rfl
@[simp] theorem tk32 : tk Try.prog 32 = .other := by kernel_rfl
@[simp] theorem fld32_0 : fld Try.prog 32 0 = some 0 := by kernel_rfl
@[simp] theorem fieldA32_0 : fieldA Try.prog 32 0 = some (3, 0) := by kernel_rfl
@[simp] theorem fld32_1 : fld Try.prog 32 1 = some 1 := by kernel_rfl
@[simp] theorem fieldA32_1 : fieldA Try.prog 32 1 = some (3, 1) := by kernel_rfl
@[simp] theorem fld32_2 : fld Try.prog 32 2 = some 2 := by kernel_rfl
@[simp] theorem fieldA32_2 : fieldA Try.prog 32 2 = some (26, 2) := by kernel_rfl
@[simp] theorem fld32_3 : fld Try.prog 32 3 = some 3 := by kernel_rfl
@[simp] theorem fieldA32_3 : fieldA Try.prog 32 3 = some (9, 3) := by kernel_rfl
@[simp] theorem pl32 : plA Try.prog 32 = some [(0, 1), (1, 1), (2, 1), (3, 1)] := by kernel_rfl
@[simp] theorem shp33 : shp Try.prog 33 = some (true, 4) := by kernel_rfl
@[simp] theorem zero33 : zeroA Try.prog 33 = some [.int .i64 0, .int .i64 0, .int .i64 0, .string ⟨#[]⟩] := by kernel_rfl
@[simp] theorem zeroV33 : zeroV Try.prog 33 = some (.agg #[.int .i64 0, .int .i64 0, .int .i64 0, .string ⟨#[]⟩]) := by kernel_rfl
@[simp] theorem tk33 : tk Try.prog 33 = .other := by kernel_rfl
@[simp] theorem fld33_0 : fld Try.prog 33 0 = some 0 := by kernel_rfl
@[simp] theorem fieldA33_0 : fieldA Try.prog 33 0 = some (3, 0) := by kernel_rfl
@[simp] theorem fld33_1 : fld Try.prog 33 1 = some 1 := by kernel_rfl
@[simp] theorem fieldA33_1 : fieldA Try.prog 33 1 = some (3, 1) := by kernel_rfl
@[simp] theorem fld33_2 : fld Try.prog 33 2 = some 2 := by kernel_rfl
@[simp] theorem fieldA33_2 : fieldA Try.prog 33 2 = some (26, 2) := by kernel_rfl
@[simp] theorem fld33_3 : fld Try.prog 33 3 = some 3 := by kernel_rfl
@[simp] theorem fieldA33_3 : fieldA Try.prog 33 3 = some (9, 3) := by kernel_rfl
@[simp] theorem pl33 : plA Try.prog 33 = some [(0, 1), (1, 1), (2, 1), (3, 1)] := by kernel_rfl
@[simp] theorem shp34 : shp Try.prog 34 = some (true, 3) := by kernel_rfl
@[simp] theorem zero34 : zeroA Try.prog 34 = some [.int .i64 0, .int .i64 0, .string ⟨#[]⟩] := by kernel_rfl
@[simp] theorem zeroV34 : zeroV Try.prog 34 = some (.agg #[.int .i64 0, .int .i64 0, .string ⟨#[]⟩]) := by kernel_rfl
@[simp] theorem tk34 : tk Try.prog 34 = .other := by kernel_rfl
@[simp] theorem fld34_0 : fld Try.prog 34 0 = some 0 := by kernel_rfl
@[simp] theorem fieldA34_0 : fieldA Try.prog 34 0 = some (3, 0) := by kernel_rfl
@[simp] theorem fld34_1 : fld Try.prog 34 1 = some 1 := by kernel_rfl
@[simp] theorem fieldA34_1 : fieldA Try.prog 34 1 = some (3, 1) := by kernel_rfl
@[simp] theorem fld34_2 : fld Try.prog 34 2 = some 2 := by kernel_rfl
@[simp] theorem fieldA34_2 : fieldA Try.prog 34 2 = some (9, 2) := by kernel_rfl
@[simp] theorem pl34 : plA Try.prog 34 = some [(0, 1), (1, 1), (2, 1)] := by kernel_rfl
@[simp] theorem shp35 : shp Try.prog 35 = some (true, 3) := by kernel_rfl
@[simp] theorem zero35 : zeroA Try.prog 35 = some [.int .i64 0, .int .i64 0, .string ⟨#[]⟩] := by kernel_rfl
@[simp] theorem zeroV35 : zeroV Try.prog 35 = some (.agg #[.int .i64 0, .int .i64 0, .string ⟨#[]⟩]) := by kernel_rfl
@[simp] theorem tk35 : tk Try.prog 35 = .other := by kernel_rfl
@[simp] theorem fld35_0 : fld Try.prog 35 0 = some 0 := by kernel_rfl
@[simp] theorem fieldA35_0 : fieldA Try.prog 35 0 = some (3, 0) := by kernel_rfl
@[simp] theorem fld35_1 : fld Try.prog 35 1 = some 1 := by kernel_rfl
@[simp] theorem fieldA35_1 : fieldA Try.prog 35 1 = some (3, 1) := by kernel_rfl
@[simp] theorem fld35_2 : fld Try.prog 35 2 = some 2 := by kernel_rfl
@[simp] theorem fieldA35_2 : fieldA Try.prog 35 2 = some (9, 2) := by kernel_rfl
@[simp] theorem pl35 : plA Try.prog 35 = some [(0, 1), (1, 1), (2, 1)] := by kernel_rfl
@[simp] theorem shp36 : shp Try.prog 36 = some (true, 11) := by kernel_rfl
@[simp] theorem zero36 : zeroA Try.prog 36 = some [.int .i64 0, .string ⟨#[]⟩, .int .i64 0, .int .i64 0, .int .i64 0, .string ⟨#[]⟩, .int .i64 0, .int .i64 0, .int .i64 0, .string ⟨#[]⟩, .int .i64 0] := by kernel_rfl
@[simp] theorem zeroV36 : zeroV Try.prog 36 = some (.agg #[.int .i64 0, .string ⟨#[]⟩, .int .i64 0, .int .i64 0, .int .i64 0, .string ⟨#[]⟩, .int .i64 0, .int .i64 0, .int .i64 0, .string ⟨#[]⟩, .int .i64 0]) := by kernel_rfl
@[simp] theorem tk36 : tk Try.prog 36 = .other := by kernel_rfl
@[simp] theorem fld36_0 : fld Try.prog 36 0 = some 0 := by kernel_rfl
@[simp] theorem fieldA36_0 : fieldA Try.prog 36 0 = some (3, 0) := by kernel_rfl
@[simp] theorem fld36_1 : fld Try.prog 36 1 = some 1 := by kernel_rfl
@[simp] theorem fieldA36_1 : fieldA Try.prog 36 1 = some (9, 1) := by kernel_rfl
@[simp] theorem fld36_2 : fld Try.prog 36 2 = some 2 := by kernel_rfl
@[simp] theorem fieldA36_2 : fieldA Try.prog 36 2 = some (33, 2) := by kernel_rfl
@[simp] theorem fld36_3 : fld Try.prog 36 3 = some 6 := by kernel_rfl
@[simp] theorem fieldA36_3 : fieldA Try.prog 36 3 = some (3, 6) := by kernel_rfl
@[simp] theorem fld36_4 : fld Try.prog 36 4 = some 7 := by kernel_rfl
@[simp] theorem fieldA36_4 : fieldA Try.prog 36 4 = some (35, 7) := by kernel_rfl
@[simp] theorem fld36_5 : fld Try.prog 36 5 = some 10 := by kernel_rfl
@[simp] theorem fieldA36_5 : fieldA Try.prog 36 5 = some (26, 10) := by kernel_rfl
@[simp] theorem pl36 : plA Try.prog 36 = some [(0, 1), (1, 1), (2, 4), (6, 1), (7, 3), (10, 1)] := by kernel_rfl
@[simp] theorem shp37 : shp Try.prog 37 = some (true, 11) := by kernel_rfl
@[simp] theorem zero37 : zeroA Try.prog 37 = some [.int .i64 0, .string ⟨#[]⟩, .int .i64 0, .int .i64 0, .int .i64 0, .string ⟨#[]⟩, .int .i64 0, .int .i64 0, .int .i64 0, .string ⟨#[]⟩, .int .i64 0] := by kernel_rfl
@[simp] theorem zeroV37 : zeroV Try.prog 37 = some (.agg #[.int .i64 0, .string ⟨#[]⟩, .int .i64 0, .int .i64 0, .int .i64 0, .string ⟨#[]⟩, .int .i64 0, .int .i64 0, .int .i64 0, .string ⟨#[]⟩, .int .i64 0]) := by kernel_rfl
@[simp] theorem tk37 : tk Try.prog 37 = .other := by kernel_rfl
@[simp] theorem fld37_0 : fld Try.prog 37 0 = some 0 := by kernel_rfl
@[simp] theorem fieldA37_0 : fieldA Try.prog 37 0 = some (3, 0) := by kernel_rfl
@[simp] theorem fld37_1 : fld Try.prog 37 1 = some 1 := by kernel_rfl
@[simp] theorem fieldA37_1 : fieldA Try.prog 37 1 = some (9, 1) := by kernel_rfl
@[simp] theorem fld37_2 : fld Try.prog 37 2 = some 2 := by kernel_rfl
@[simp] theorem fieldA37_2 : fieldA Try.prog 37 2 = some (33, 2) := by kernel_rfl
@[simp] theorem fld37_3 : fld Try.prog 37 3 = some 6 := by kernel_rfl
@[simp] theorem fieldA37_3 : fieldA Try.prog 37 3 = some (3, 6) := by kernel_rfl
@[simp] theorem fld37_4 : fld Try.prog 37 4 = some 7 := by kernel_rfl
@[simp] theorem fieldA37_4 : fieldA Try.prog 37 4 = some (35, 7) := by kernel_rfl
@[simp] theorem fld37_5 : fld Try.prog 37 5 = some 10 := by kernel_rfl
@[simp] theorem fieldA37_5 : fieldA Try.prog 37 5 = some (26, 10) := by kernel_rfl
@[simp] theorem pl37 : plA Try.prog 37 = some [(0, 1), (1, 1), (2, 4), (6, 1), (7, 3), (10, 1)] := by kernel_rfl
@[simp] theorem shp39 : shp Try.prog 39 = some (false, 1) := by kernel_rfl
@[simp] theorem zero39 : zeroA Try.prog 39 = some [.nilFunc] := by kernel_rfl
@[simp] theorem zeroV39 : zeroV Try.prog 39 = some (.nilFunc) := by kernel_rfl
@[simp] theorem tk39 : tk Try.prog 39 = .func := by kernel_rfl
@[simp] theorem shp41 : shp Try.prog 41 = some (false, 1) := by kernel_rfl
@[simp] theorem zero41 : zeroA Try.prog 41 = some [.nilFunc] := by kernel_rfl
@[simp] theorem zeroV41 : zeroV Try.prog 41 = some (.nilFunc) := by kernel_rfl
@[simp] theorem tk41 : tk Try.prog 41 = .func := by kernel_rfl
@[simp] theorem shp42 : shp Try.prog 42 = some (false, 1) := by kernel_rfl
@[simp] theorem zero42 : zeroA Try.prog 42 = some [.nilFunc] := by kernel_rfl
@[simp] theorem zeroV42 : zeroV Try.prog 42 = some (.nilFunc) := by kernel_rfl
@[simp] theorem tk42 : tk Try.prog 42 = .func := by kernel_rfl
@[simp] theorem shp43 : shp Try.prog 43 = some (false, 1) := by kernel_rfl
@[simp] theorem zero43 : zeroA Try.prog 43 = some [.slice none 0 0] := by kernel_rfl
@[simp] theorem zeroV43 : zeroV Try.prog 43 = some (.slice none 0 0) := by kernel_rfl
@[simp] theorem tk43 : tk Try.prog 43 = .slice := by kernel_rfl
@[simp] theorem elemS43 : elemS Try.prog 43 = some (96, 5, 48) := by kernel_rfl
@[simp] theorem shp44 : shp Try.prog 44 = some (false, 1) := by kernel_rfl
@[simp] theorem zero44 : zeroA Try.prog 44 = some [.slice none 0 0] := by kernel_rfl
@[simp] theorem zeroV44 : zeroV Try.prog 44 = some (.slice none 0 0) := by kernel_rfl
@[simp] theorem tk44 : tk Try.prog 44 = .slice := by kernel_rfl
@[simp] theorem elemS44 : elemS Try.prog 44 = some (99, 2, 16) := by kernel_rfl
@[simp] theorem shp45 : shp Try.prog 45 = some (true, 10) := by kernel_rfl
@[simp] theorem zero45 : zeroA Try.prog 45 = some [.int .i64 0, .int .i64 0, .slice none 0 0, .slice none 0 0, .bool false, .int .i64 0, .int .i64 0, .int .i64 0, .string ⟨#[]⟩, .int .i64 0] := by kernel_rfl
@[simp] theorem zeroV45 : zeroV Try.prog 45 = some (.agg #[.int .i64 0, .int .i64 0, .slice none 0 0, .slice none 0 0, .bool false, .int .i64 0, .int .i64 0, .int .i64 0, .string ⟨#[]⟩, .int .i64 0]) := by kernel_rfl
@[simp] theorem tk45 : tk Try.prog 45 = .other := by kernel_rfl
@[simp] theorem fld45_0 : fld Try.prog 45 0 = some 0 := by kernel_rfl
@[simp] theorem fieldA45_0 : fieldA Try.prog 45 0 = some (3, 0) := by kernel_rfl
@[simp] theorem fld45_1 : fld Try.prog 45 1 = some 1 := by kernel_rfl
@[simp] theorem fieldA45_1 : fieldA Try.prog 45 1 = some (3, 1) := by kernel_rfl
@[simp] theorem fld45_2 : fld Try.prog 45 2 = some 2 := by kernel_rfl
@[simp] theorem fieldA45_2 : fieldA Try.prog 45 2 = some (43, 2) := by kernel_rfl
@[simp] theorem fld45_3 : fld Try.prog 45 3 = some 3 := by kernel_rfl
@[simp] theorem fieldA45_3 : fieldA Try.prog 45 3 = some (44, 3) := by kernel_rfl
@[simp] theorem fld45_4 : fld Try.prog 45 4 = some 4 := by kernel_rfl
@[simp] theorem fieldA45_4 : fieldA Try.prog 45 4 = some (4, 4) := by kernel_rfl
@[simp] theorem fld45_5 : fld Try.prog 45 5 = some 5 := by kernel_rfl
@[simp] theorem fieldA45_5 : fieldA Try.prog 45 5 = some (3, 5) := by kernel_rfl
@[simp] theorem fld45_6 : fld Try.prog 45 6 = some 6 := by kernel_rfl
@[simp] theorem fieldA45_6 : fieldA Try.prog 45 6 = some (35, 6) := by kernel_rfl
@[simp] theorem fld45_7 : fld Try.prog 45 7 = some 9 := by kernel_rfl
@[simp] theorem fieldA45_7 : fieldA Try.prog 45 7 = some (3, 9) := by kernel_rfl
@[simp] theorem pl45 : plA Try.prog 45 = some [(0, 1), (1, 1), (2, 1), (3, 1), (4, 1), (5, 1), (6, 3), (9, 1)] := by kernel_rfl
@[simp] theorem shp46 : shp Try.prog 46 = some (true, 10) := by kernel_rfl
@[simp] theorem zero46 : zeroA Try.prog 46 = some [.int .i64 0, .int .i64 0, .slice none 0 0, .slice none 0 0, .bool false, .int .i64 0, .int .i64 0, .int .i64 0, .string ⟨#[]⟩, .int .i64 0] := by kernel_rfl
@[simp] theorem zeroV46 : zeroV Try.prog 46 = some (.agg #[.int .i64 0, .int .i64 0, .slice none 0 0, .slice none 0 0, .bool false, .int .i64 0, .int .i64 0, .int .i64 0, .string ⟨#[]⟩, .int .i64 0]) := by kernel_rfl
@[simp] theorem tk46 : tk Try.prog 46 = .other := by kernel_rfl
@[simp] theorem fld46_0 : fld Try.prog 46 0 = some 0 := by kernel_rfl
@[simp] theorem fieldA46_0 : fieldA Try.prog 46 0 = some (3, 0) := by kernel_rfl
@[simp] theorem fld46_1 : fld Try.prog 46 1 = some 1 := by kernel_rfl
@[simp] theorem fieldA46_1 : fieldA Try.prog 46 1 = some (3, 1) := by kernel_rfl
@[simp] theorem fld46_2 : fld Try.prog 46 2 = some 2 := by kernel_rfl
@[simp] theorem fieldA46_2 : fieldA Try.prog 46 2 = some (43, 2) := by kernel_rfl
@[simp] theorem fld46_3 : fld Try.prog 46 3 = some 3 := by kernel_rfl
@[simp] theorem fieldA46_3 : fieldA Try.prog 46 3 = some (44, 3) := by kernel_rfl
@[simp] theorem fld46_4 : fld Try.prog 46 4 = some 4 := by kernel_rfl
@[simp] theorem fieldA46_4 : fieldA Try.prog 46 4 = some (4, 4) := by kernel_rfl
@[simp] theorem fld46_5 : fld Try.prog 46 5 = some 5 := by kernel_rfl
@[simp] theorem fieldA46_5 : fieldA Try.prog 46 5 = some (3, 5) := by kernel_rfl
@[simp] theorem fld46_6 : fld Try.prog 46 6 = some 6 := by kernel_rfl
@[simp] theorem fieldA46_6 : fieldA Try.prog 46 6 = some (35, 6) := by kernel_rfl
@[simp] theorem fld46_7 : fld Try.prog 46 7 = some 9 := by kernel_rfl
@[simp] theorem fieldA46_7 : fieldA Try.prog 46 7 = some (3, 9) := by kernel_rfl
@[simp] theorem pl46 : plA Try.prog 46 = some [(0, 1), (1, 1), (2, 1), (3, 1), (4, 1), (5, 1), (6, 3), (9, 1)] := by kernel_rfl
@[simp] theorem shp47 : shp Try.prog 47 = some (false, 1) := by kernel_rfl
@[simp] theorem zero47 : zeroA Try.prog 47 = some [.nilFunc] := by kernel_rfl
@[simp] theorem zeroV47 : zeroV Try.prog 47 = some (.nilFunc) := by kernel_rfl
@[simp] theorem tk47 : tk Try.prog 47 = .func := by kernel_rfl
@[simp] theorem shp48 : shp Try.prog 48 = some (false, 1) := by kernel_rfl
@[simp] theorem zero48 : zeroA Try.prog 48 = some [.map none] := by kernel_rfl
@[simp] theorem zeroV48 : zeroV Try.prog 48 = some (.map none) := by kernel_rfl
@[simp] theorem mapT48 : mapT Try.prog 48 = some (50, 4) := by kernel_rfl
@[simp] theorem tk48 : tk Try.prog 48 = .map := by kernel_rfl
@[simp] theorem shp49 : shp Try.prog 49 = some (true, 2) := by kernel_rfl
@[simp] theorem zero49 : zeroA Try.prog 49 = some [.int .i64 0, .int .i64 0] := by kernel_rfl
@[simp] theorem zeroV49 : zeroV Try.prog 49 = some (.agg #[.int .i64 0, .int .i64 0]) := by kernel_rfl
@[simp] theorem tk49 : tk Try.prog 49 = .other := by kernel_rfl
@[simp] theorem fld49_0 : fld Try.prog 49 0 = some 0 := by kernel_rfl
@[simp] theorem fieldA49_0 : fieldA Try.prog 49 0 = some (3, 0) := by kernel_rfl
@[simp] theorem fld49_1 : fld Try.prog 49 1 = some 1 := by kernel_rfl
@[simp] theorem fieldA49_1 : fieldA Try.prog 49 1 = some (3, 1) := by kernel_rfl
@[simp] theorem pl49 : plA Try.prog 49 = some [(0, 1), (1, 1)] := by kernel_rfl
@[simp] theorem shp50 : shp Try.prog 50 = some (true, 2) := by kernel_rfl
@[simp] theorem zero50 : zeroA Try.prog 50 = some [.int .i64 0, .int .i64 0] := by kernel_rfl
@[simp] theorem zeroV50 : zeroV Try.prog 50 = some (.agg #[.int .i64 0, .int .i64 0]) := by kernel_rfl
@[simp] theorem tk50 : tk Try.prog 50 = .other := by kernel_rfl
@[simp] theorem fld50_0 : fld Try.prog 50 0 = some 0 := by kernel_rfl
@[simp] theorem fieldA50_0 : fieldA Try.prog 50 0 = some (3, 0) := by kernel_rfl
@[simp] theorem fld50_1 : fld Try.prog 50 1 = some 1 := by kernel_rfl
@[simp] theorem fieldA50_1 : fieldA Try.prog 50 1 = some (3, 1) := by kernel_rfl
@[simp] theorem pl50 : plA Try.prog 50 = some [(0, 1), (1, 1)] := by kernel_rfl
@[simp] theorem shp51 : shp Try.prog 51 = some (false, 1) := by kernel_rfl
@[simp] theorem zero51 : zeroA Try.prog 51 = some [.pointer none] := by kernel_rfl
@[simp] theorem zeroV51 : zeroV Try.prog 51 = some (.pointer none) := by kernel_rfl
@[simp] theorem tk51 : tk Try.prog 51 = .pointer := by kernel_rfl
@[simp] theorem shp53 : shp Try.prog 53 = some (false, 1) := by kernel_rfl
@[simp] theorem zero53 : zeroA Try.prog 53 = some [.nilFunc] := by kernel_rfl
@[simp] theorem zeroV53 : zeroV Try.prog 53 = some (.nilFunc) := by kernel_rfl
@[simp] theorem tk53 : tk Try.prog 53 = .func := by kernel_rfl
@[simp] theorem shp54 : shp Try.prog 54 = some (false, 1) := by kernel_rfl
@[simp] theorem zero54 : zeroA Try.prog 54 = some [.pointer none] := by kernel_rfl
@[simp] theorem zeroV54 : zeroV Try.prog 54 = some (.pointer none) := by kernel_rfl
@[simp] theorem tk54 : tk Try.prog 54 = .pointer := by kernel_rfl
@[simp] theorem shp56 : shp Try.prog 56 = some (false, 1) := by kernel_rfl
@[simp] theorem zero56 : zeroA Try.prog 56 = some [.nilFunc] := by kernel_rfl
@[simp] theorem zeroV56 : zeroV Try.prog 56 = some (.nilFunc) := by kernel_rfl
@[simp] theorem tk56 : tk Try.prog 56 = .func := by kernel_rfl
@[simp] theorem shp58 : shp Try.prog 58 = some (false, 1) := by kernel_rfl
@[simp] theorem zero58 : zeroA Try.prog 58 = some [.nilFunc] := by kernel_rfl
@[simp] theorem zeroV58 : zeroV Try.prog 58 = some (.nilFunc) := by kernel_rfl
@[simp] theorem tk58 : tk Try.prog 58 = .func := by kernel_rfl
@[simp] theorem shp59 : shp Try.prog 59 = some (false, 1) := by kernel_rfl
@[simp] theorem zero59 : zeroA Try.prog 59 = some [.nilFunc] := by kernel_rfl
@[simp] theorem zeroV59 : zeroV Try.prog 59 = some (.nilFunc) := by kernel_rfl
@[simp] theorem tk59 : tk Try.prog 59 = .func := by kernel_rfl
@[simp] theorem shp60 : shp Try.prog 60 = some (false, 1) := by kernel_rfl
@[simp] theorem zero60 : zeroA Try.prog 60 = some [.slice none 0 0] := by kernel_rfl
@[simp] theorem zeroV60 : zeroV Try.prog 60 = some (.slice none 0 0) := by kernel_rfl
@[simp] theorem tk60 : tk Try.prog 60 = .slice := by kernel_rfl
@[simp] theorem elemS60 : elemS Try.prog 60 = some (35, 3, 32) := by kernel_rfl
@[simp] theorem shp61 : shp Try.prog 61 = some (false, 1) := by kernel_rfl
@[simp] theorem zero61 : zeroA Try.prog 61 = some [.nilFunc] := by kernel_rfl
@[simp] theorem zeroV61 : zeroV Try.prog 61 = some (.nilFunc) := by kernel_rfl
@[simp] theorem tk61 : tk Try.prog 61 = .func := by kernel_rfl
@[simp] theorem shp62 : shp Try.prog 62 = some (false, 1) := by kernel_rfl
@[simp] theorem zero62 : zeroA Try.prog 62 = some [.nilFunc] := by kernel_rfl
@[simp] theorem zeroV62 : zeroV Try.prog 62 = some (.nilFunc) := by kernel_rfl
@[simp] theorem tk62 : tk Try.prog 62 = .func := by kernel_rfl
@[simp] theorem shp63 : shp Try.prog 63 = some (false, 1) := by kernel_rfl
@[simp] theorem zero63 : zeroA Try.prog 63 = some [.nilFunc] := by kernel_rfl
@[simp] theorem zeroV63 : zeroV Try.prog 63 = some (.nilFunc) := by kernel_rfl
@[simp] theorem tk63 : tk Try.prog 63 = .func := by kernel_rfl
@[simp] theorem shp64 : shp Try.prog 64 = some (false, 1) := by kernel_rfl
@[simp] theorem zero64 : zeroA Try.prog 64 = some [.slice none 0 0] := by kernel_rfl
@[simp] theorem zeroV64 : zeroV Try.prog 64 = some (.slice none 0 0) := by kernel_rfl
@[simp] theorem tk64 : tk Try.prog 64 = .slice := by kernel_rfl
@[simp] theorem elemS64 : elemS Try.prog 64 = some (3, 1, 8) := by kernel_rfl
@[simp] theorem shp65 : shp Try.prog 65 = some (false, 1) := by kernel_rfl
@[simp] theorem zero65 : zeroA Try.prog 65 = some [.nilFunc] := by kernel_rfl
@[simp] theorem zeroV65 : zeroV Try.prog 65 = some (.nilFunc) := by kernel_rfl
@[simp] theorem tk65 : tk Try.prog 65 = .func := by kernel_rfl
@[simp] theorem shp66 : shp Try.prog 66 = some (false, 1) := by kernel_rfl
@[simp] theorem zero66 : zeroA Try.prog 66 = some [.nilFunc] := by kernel_rfl
@[simp] theorem zeroV66 : zeroV Try.prog 66 = some (.nilFunc) := by kernel_rfl
@[simp] theorem tk66 : tk Try.prog 66 = .func := by kernel_rfl
@[simp] theorem shp67 : shp Try.prog 67 = some (false, 1) := by kernel_rfl
@[simp] theorem zero67 : zeroA Try.prog 67 = some [.slice none 0 0] := by kernel_rfl
@[simp] theorem zeroV67 : zeroV Try.prog 67 = some (.slice none 0 0) := by kernel_rfl
@[simp] theorem tk67 : tk Try.prog 67 = .slice := by kernel_rfl
@[simp] theorem elemS67 : elemS Try.prog 67 = some (33, 4, 40) := by kernel_rfl
@[simp] theorem shp68 : shp Try.prog 68 = some (false, 1) := by kernel_rfl
@[simp] theorem zero68 : zeroA Try.prog 68 = some [.nilFunc] := by kernel_rfl
@[simp] theorem zeroV68 : zeroV Try.prog 68 = some (.nilFunc) := by kernel_rfl
@[simp] theorem tk68 : tk Try.prog 68 = .func := by kernel_rfl
@[simp] theorem shp69 : shp Try.prog 69 = some (false, 1) := by kernel_rfl
@[simp] theorem zero69 : zeroA Try.prog 69 = some [.slice none 0 0] := by kernel_rfl
@[simp] theorem zeroV69 : zeroV Try.prog 69 = some (.slice none 0 0) := by kernel_rfl
@[simp] theorem tk69 : tk Try.prog 69 = .slice := by kernel_rfl
@[simp] theorem elemS69 : elemS Try.prog 69 = some (107, 6, 56) := by kernel_rfl
@[simp] theorem shp70 : shp Try.prog 70 = some (true, 6) := by kernel_rfl
@[simp] theorem zero70 : zeroA Try.prog 70 = some [.int .i64 0, .int .i64 0, .int .i64 0, .int .i64 0, .slice none 0 0, .slice none 0 0] := by kernel_rfl
@[simp] theorem zeroV70 : zeroV Try.prog 70 = some (.agg #[.int .i64 0, .int .i64 0, .int .i64 0, .int .i64 0, .slice none 0 0, .slice none 0 0]) := by kernel_rfl
@[simp] theorem tk70 : tk Try.prog 70 = .other := by kernel_rfl
@[simp] theorem fld70_0 : fld Try.prog 70 0 = some 0 := by kernel_rfl
@[simp] theorem fieldA70_0 : fieldA Try.prog 70 0 = some (3, 0) := by kernel_rfl
@[simp] theorem fld70_1 : fld Try.prog 70 1 = some 1 := by kernel_rfl
@[simp] theorem fieldA70_1 : fieldA Try.prog 70 1 = some (3, 1) := by kernel_rfl
@[simp] theorem fld70_2 : fld Try.prog 70 2 = some 2 := by kernel_rfl
@[simp] theorem fieldA70_2 : fieldA Try.prog 70 2 = some (3, 2) := by kernel_rfl
@[simp] theorem fld70_3 : fld Try.prog 70 3 = some 3 := by kernel_rfl
@[simp] theorem fieldA70_3 : fieldA Try.prog 70 3 = some (3, 3) := by kernel_rfl
@[simp] theorem fld70_4 : fld Try.prog 70 4 = some 4 := by kernel_rfl
@[simp] theorem fieldA70_4 : fieldA Try.prog 70 4 = some (69, 4) := by kernel_rfl
@[simp] theorem fld70_5 : fld Try.prog 70 5 = some 5 := by kernel_rfl
@[simp] theorem fieldA70_5 : fieldA Try.prog 70 5 = some (67, 5) := by kernel_rfl
@[simp] theorem pl70 : plA Try.prog 70 = some [(0, 1), (1, 1), (2, 1), (3, 1), (4, 1), (5, 1)] := by kernel_rfl
@[simp] theorem shp71 : shp Try.prog 71 = some (true, 6) := by kernel_rfl
@[simp] theorem zero71 : zeroA Try.prog 71 = some [.int .i64 0, .int .i64 0, .int .i64 0, .int .i64 0, .slice none 0 0, .slice none 0 0] := by kernel_rfl
@[simp] theorem zeroV71 : zeroV Try.prog 71 = some (.agg #[.int .i64 0, .int .i64 0, .int .i64 0, .int .i64 0, .slice none 0 0, .slice none 0 0]) := by kernel_rfl
@[simp] theorem tk71 : tk Try.prog 71 = .other := by kernel_rfl
@[simp] theorem fld71_0 : fld Try.prog 71 0 = some 0 := by kernel_rfl
@[simp] theorem fieldA71_0 : fieldA Try.prog 71 0 = some (3, 0) := by kernel_rfl
@[simp] theorem fld71_1 : fld Try.prog 71 1 = some 1 := by kernel_rfl
@[simp] theorem fieldA71_1 : fieldA Try.prog 71 1 = some (3, 1) := by kernel_rfl
@[simp] theorem fld71_2 : fld Try.prog 71 2 = some 2 := by kernel_rfl
@[simp] theorem fieldA71_2 : fieldA Try.prog 71 2 = some (3, 2) := by kernel_rfl
@[simp] theorem fld71_3 : fld Try.prog 71 3 = some 3 := by kernel_rfl
@[simp] theorem fieldA71_3 : fieldA Try.prog 71 3 = some (3, 3) := by kernel_rfl
@[simp] theorem fld71_4 : fld Try.prog 71 4 = some 4 := by kernel_rfl
@[simp] theorem fieldA71_4 : fieldA Try.prog 71 4 = some (69, 4) := by kernel_rfl
@[simp] theorem fld71_5 : fld Try.prog 71 5 = some 5 := by kernel_rfl
@[simp] theorem fieldA71_5 : fieldA Try.prog 71 5 = some (67, 5) := by kernel_rfl
@[simp] theorem pl71 : plA Try.prog 71 = some [(0, 1), (1, 1), (2, 1), (3, 1), (4, 1), (5, 1)] := by kernel_rfl
@[simp] theorem shp72 : shp Try.prog 72 = some (false, 1) := by kernel_rfl
@[simp] theorem zero72 : zeroA Try.prog 72 = some [.pointer none] := by kernel_rfl
@[simp] theorem zeroV72 : zeroV Try.prog 72 = some (.pointer none) := by kernel_rfl
@[simp] theorem tk72 : tk Try.prog 72 = .pointer := by kernel_rfl
@[simp] theorem shp73 : shp Try.prog 73 = some (false, 1) := by kernel_rfl
@[simp] theorem zero73 : zeroA Try.prog 73 = some [.nilFunc] := by kernel_rfl
@[simp] theorem zeroV73 : zeroV Try.prog 73 = some (.nilFunc) := by kernel_rfl
@[simp] theorem tk73 : tk Try.prog 73 = .func := by kernel_rfl
@[simp] theorem shp74 : shp Try.prog 74 = some (false, 1) := by kernel_rfl
@[simp] theorem zero74 : zeroA Try.prog 74 = some [.int .u64 0] := by kernel_rfl
@[simp] theorem zeroV74 : zeroV Try.prog 74 = some (.int .u64 0) := by kernel_rfl
@[simp] theorem tk74 : tk Try.prog 74 = .int := by kernel_rfl
@[simp] theorem shp75 : shp Try.prog 75 = some (false, 1) := by kernel_rfl
@[simp] theorem zero75 : zeroA Try.prog 75 = some [.nilFunc] := by kernel_rfl
@[simp] theorem zeroV75 : zeroV Try.prog 75 = some (.nilFunc) := by kernel_rfl
@[simp] theorem tk75 : tk Try.prog 75 = .func := by kernel_rfl
@[simp] theorem shp76 : shp Try.prog 76 = some (false, 1) := by kernel_rfl
@[simp] theorem zero76 : zeroA Try.prog 76 = some [.map none] := by kernel_rfl
@[simp] theorem zeroV76 : zeroV Try.prog 76 = some (.map none) := by kernel_rfl
@[simp] theorem mapT76 : mapT Try.prog 76 = some (3, 4) := by kernel_rfl
@[simp] theorem tk76 : tk Try.prog 76 = .map := by kernel_rfl
@[simp] theorem shp77 : shp Try.prog 77 = some (false, 1) := by kernel_rfl
@[simp] theorem zero77 : zeroA Try.prog 77 = some [.map none] := by kernel_rfl
@[simp] theorem zeroV77 : zeroV Try.prog 77 = some (.map none) := by kernel_rfl
@[simp] theorem mapT77 : mapT Try.prog 77 = some (3, 9) := by kernel_rfl
@[simp] theorem tk77 : tk Try.prog 77 = .map := by kernel_rfl
@[simp] theorem shp78 : shp Try.prog 78 = some (true, 7) := by kernel_rfl
@[simp] theorem zero78 : zeroA Try.prog 78 = some [.pointer none, .pointer none, .int .i64 0, .slice none 0 0, .slice none 0 0, .slice none 0 0, .map none] := by kernel_rfl
@[simp] theorem zeroV78 : zeroV Try.prog 78 = some (.agg #[.pointer none, .pointer none, .int .i64 0, .slice none 0 0, .slice none 0 0, .slice none 0 0, .map none]) := by kernel_rfl
@[simp] theorem tk78 : tk Try.prog 78 = .other := by kernel_rfl
@[simp] theorem fld78_0 : fld Try.prog 78 0 = some 0 := by kernel_rfl
@[simp] theorem fieldA78_0 : fieldA Try.prog 78 0 = some (51, 0) := by kernel_rfl
@[simp] theorem fld78_1 : fld Try.prog 78 1 = some 1 := by kernel_rfl
@[simp] theorem fieldA78_1 : fieldA Try.prog 78 1 = some (25, 1) := by kernel_rfl
@[simp] theorem fld78_2 : fld Try.prog 78 2 = some 2 := by kernel_rfl
@[simp] theorem fieldA78_2 : fieldA Try.prog 78 2 = some (3, 2) := by kernel_rfl
@[simp] theorem fld78_3 : fld Try.prog 78 3 = some 3 := by kernel_rfl
@[simp] theorem fieldA78_3 : fieldA Try.prog 78 3 = some (60, 3) := by kernel_rfl
@[simp] theorem fld78_4 : fld Try.prog 78 4 = some 4 := by kernel_rfl
@[simp] theorem fieldA78_4 : fieldA Try.prog 78 4 = some (67, 4) := by kernel_rfl
@[simp] theorem fld78_5 : fld Try.prog 78 5 = some 5 := by kernel_rfl
@[simp] theorem fieldA78_5 : fieldA Try.prog 78 5 = some (67, 5) := by kernel_rfl
@[simp] theorem fld78_6 : fld Try.prog 78 6 = some 6 := by kernel_rfl
@[simp] theorem fieldA78_6 : fieldA Try.prog 78 6 = some (77, 6) := by kernel_rfl
@[simp] theorem pl78 : plA Try.prog 78 = some [(0, 1), (1, 1), (2, 1), (3, 1), (4, 1), (5, 1), (6, 1)] := by kernel_rfl
@[simp] theorem shp79 : shp Try.prog 79 = some (true, 7) := by kernel_rfl
@[simp] theorem zero79 : zeroA Try.prog 79 = some [.pointer none, .pointer none, .int .i64 0, .slice none 0 0, .slice none 0 0, .slice none 0 0, .map none] := by kernel_rfl
@[simp] theorem zeroV79 : zeroV Try.prog 79 = some (.agg #[.pointer none, .pointer none, .int .i64 0, .slice none 0 0, .slice none 0 0, .slice none 0 0, .map none]) := by kernel_rfl
@[simp] theorem tk79 : tk Try.prog 79 = .other := by kernel_rfl
@[simp] theorem fld79_0 : fld Try.prog 79 0 = some 0 := by kernel_rfl
@[simp] theorem fieldA79_0 : fieldA Try.prog 79 0 = some (51, 0) := by kernel_rfl
@[simp] theorem fld79_1 : fld Try.prog 79 1 = some 1 := by kernel_rfl
@[simp] theorem fieldA79_1 : fieldA Try.prog 79 1 = some (25, 1) := by kernel_rfl
@[simp] theorem fld79_2 : fld Try.prog 79 2 = some 2 := by kernel_rfl
@[simp] theorem fieldA79_2 : fieldA Try.prog 79 2 = some (3, 2) := by kernel_rfl
@[simp] theorem fld79_3 : fld Try.prog 79 3 = some 3 := by kernel_rfl
@[simp] theorem fieldA79_3 : fieldA Try.prog 79 3 = some (60, 3) := by kernel_rfl
@[simp] theorem fld79_4 : fld Try.prog 79 4 = some 4 := by kernel_rfl
@[simp] theorem fieldA79_4 : fieldA Try.prog 79 4 = some (67, 4) := by kernel_rfl
@[simp] theorem fld79_5 : fld Try.prog 79 5 = some 5 := by kernel_rfl
@[simp] theorem fieldA79_5 : fieldA Try.prog 79 5 = some (67, 5) := by kernel_rfl
@[simp] theorem fld79_6 : fld Try.prog 79 6 = some 6 := by kernel_rfl
@[simp] theorem fieldA79_6 : fieldA Try.prog 79 6 = some (77, 6) := by kernel_rfl
@[simp] theorem pl79 : plA Try.prog 79 = some [(0, 1), (1, 1), (2, 1), (3, 1), (4, 1), (5, 1), (6, 1)] := by kernel_rfl
@[simp] theorem shp80 : shp Try.prog 80 = some (false, 1) := by kernel_rfl
@[simp] theorem zero80 : zeroA Try.prog 80 = some [.slice none 0 0] := by kernel_rfl
@[simp] theorem zeroV80 : zeroV Try.prog 80 = some (.slice none 0 0) := by kernel_rfl
@[simp] theorem tk80 : tk Try.prog 80 = .slice := by kernel_rfl
@[simp] theorem elemS80 : elemS Try.prog 80 = some (9, 1, 16) := by kernel_rfl
@[simp] theorem shp81 : shp Try.prog 81 = some (false, 1) := by kernel_rfl
@[simp] theorem zero81 : zeroA Try.prog 81 = some [.nilFunc] := by kernel_rfl
@[simp] theorem zeroV81 : zeroV Try.prog 81 = some (.nilFunc) := by kernel_rfl
@[simp] theorem tk81 : tk Try.prog 81 = .func := by kernel_rfl
@[simp] theorem shp82 : shp Try.prog 82 = some (false, 1) := by kernel_rfl
@[simp] theorem zero82 : zeroA Try.prog 82 = some [.map none] := by kernel_rfl
@[simp] theorem zeroV82 : zeroV Try.prog 82 = some (.map none) := by kernel_rfl
@[simp] theorem mapT82 : mapT Try.prog 82 = some (3, 89) := by kernel_rfl
@[simp] theorem tk82 : tk Try.prog 82 = .map := by kernel_rfl
@[simp] theorem shp83 : shp Try.prog 83 = some (true, 2) := by kernel_rfl
@[simp] theorem zero83 : zeroA Try.prog 83 = some [.int .i64 0, .int .i64 0] := by kernel_rfl
@[simp] theorem zeroV83 : zeroV Try.prog 83 = some (.agg #[.int .i64 0, .int .i64 0]) := by kernel_rfl
@[simp] theorem tk83 : tk Try.prog 83 = .other := by kernel_rfl
@[simp] theorem fld83_0 : fld Try.prog 83 0 = some 0 := by kernel_rfl
@[simp] theorem fieldA83_0 : fieldA Try.prog 83 0 = some (3, 0) := by kernel_rfl
@[simp] theorem fld83_1 : fld Try.prog 83 1 = some 1 := by kernel_rfl
@[simp] theorem fieldA83_1 : fieldA Try.prog 83 1 = some (3, 1) := by kernel_rfl
@[simp] theorem pl83 : plA Try.prog 83 = some [(0, 1), (1, 1)] := by kernel_rfl
@[simp] theorem shp84 : shp Try.prog 84 = some (true, 2) := by kernel_rfl
@[simp] theorem zero84 : zeroA Try.prog 84 = some [.int .i64 0, .int .i64 0] := by kernel_rfl
@[simp] theorem zeroV84 : zeroV Try.prog 84 = some (.agg #[.int .i64 0, .int .i64 0]) := by kernel_rfl
@[simp] theorem tk84 : tk Try.prog 84 = .other := by kernel_rfl
@[simp] theorem fld84_0 : fld Try.prog 84 0 = some 0 := by kernel_rfl
@[simp] theorem fieldA84_0 : fieldA Try.prog 84 0 = some (3, 0) := by kernel_rfl
@[simp] theorem fld84_1 : fld Try.prog 84 1 = some 1 := by kernel_rfl
@[simp] theorem fieldA84_1 : fieldA Try.prog 84 1 = some (3, 1) := by kernel_rfl
@[simp] theorem pl84 : plA Try.prog 84 = some [(0, 1), (1, 1)] := by kernel_rfl
@[simp] theorem shp85 : shp Try.prog 85 = some (true, 6) := by kernel_rfl
@[simp] theorem zero85 : zeroA Try.prog 85 = some [.int .i64 0, .int .i64 0, .map none, .int .i64 0, .int .i64 0, .int .i64 0] := by kernel_rfl
@[simp] theorem zeroV85 : zeroV Try.prog 85 = some (.agg #[.int .i64 0, .int .i64 0, .map none, .int .i64 0, .int .i64 0, .int .i64 0]) := by kernel_rfl
@[simp] theorem tk85 : tk Try.prog 85 = .other := by kernel_rfl
@[simp] theorem fld85_0 : fld Try.prog 85 0 = some 0 := by kernel_rfl
@[simp] theorem fieldA85_0 : fieldA Try.prog 85 0 = some (3, 0) := by kernel_rfl
@[simp] theorem fld85_1 : fld Try.prog 85 1 = some 1 := by kernel_rfl
@[simp] theorem fieldA85_1 : fieldA Try.prog 85 1 = some (3, 1) := by kernel_rfl
@[simp] theorem fld85_2 : fld Try.prog 85 2 = some 2 := by kernel_rfl
@[simp] theorem fieldA85_2 : fieldA Try.prog 85 2 = some (82, 2) := by kernel_rfl
@[simp] theorem fld85_3 : fld Try.prog 85 3 = some 3 := by kernel_rfl
@[simp] theorem fieldA85_3 : fieldA Try.prog 85 3 = some (84, 3) := by kernel_rfl
@[simp] theorem fld85_4 : fld Try.prog 85 4 = some 5 := by kernel_rfl
@[simp] theorem fieldA85_4 : fieldA Try.prog 85 4 = some (3, 5) := by kernel_rfl
@[simp] theorem pl85 : plA Try.prog 85 = some [(0, 1), (1, 1), (2, 1), (3, 2), (5, 1)] := by kernel_rfl
@[simp] theorem shp86 : shp Try.prog 86 = some (true, 6) := by kernel_rfl
@[simp] theorem zero86 : zeroA Try.prog 86 = some [.int .i64 0, .int .i64 0, .map none, .int .i64 0, .int .i64 0, .int .i64 0] := by kernel_rfl
@[simp] theorem zeroV86 : zeroV Try.prog 86 = some (.agg #[.int .i64 0, .int .i64 0, .map none, .int .i64 0, .int .i64 0, .int .i64 0]) := by kernel_rfl
@[simp] theorem tk86 : tk Try.prog 86 = .other := by kernel_rfl
@[simp] theorem fld86_0 : fld Try.prog 86 0 = some 0 := by kernel_rfl
@[simp] theorem fieldA86_0 : fieldA Try.prog 86 0 = some (3, 0) := by kernel_rfl
@[simp] theorem fld86_1 : fld Try.prog 86 1 = some 1 := by kernel_rfl
@[simp] theorem fieldA86_1 : fieldA Try.prog 86 1 = some (3, 1) := by kernel_rfl
@[simp] theorem fld86_2 : fld Try.prog 86 2 = some 2 := by kernel_rfl
@[simp] theorem fieldA86_2 : fieldA Try.prog 86 2 = some (82, 2) := by kernel_rfl
@[simp] theorem fld86_3 : fld Try.prog 86 3 = some 3 := by kernel_rfl
@[simp] theorem fieldA86_3 : fieldA Try.prog 86 3 = some (84, 3) := by kernel_rfl
@[simp] theorem fld86_4 : fld Try.prog 86 4 = some 5 := by kernel_rfl
@[simp] theorem fieldA86_4 : fieldA Try.prog 86 4 = some (3, 5) := by kernel_rfl
@[simp] theorem pl86 : plA Try.prog 86 = some [(0, 1), (1, 1), (2, 1), (3, 2), (5, 1)] := by kernel_rfl
@[simp] theorem shp87 : shp Try.prog 87 = some (false, 1) := by kernel_rfl
@[simp] theorem zero87 : zeroA Try.prog 87 = some [.nilFunc] := by kernel_rfl
@[simp] theorem zeroV87 : zeroV Try.prog 87 = some (.nilFunc) := by kernel_rfl
@[simp] theorem tk87 : tk Try.prog 87 = .func := by kernel_rfl
@[simp] theorem shp88 : shp Try.prog 88 = some (false, 1) := by kernel_rfl
@[simp] theorem zero88 : zeroA Try.prog 88 = some [.nilFunc] := by kernel_rfl
@[simp] theorem zeroV88 : zeroV Try.prog 88 = some (.nilFunc) := by kernel_rfl
@[simp] theorem tk88 : tk Try.prog 88 = .func := by kernel_rfl
@[simp] theorem shp89 : shp Try.prog 89 = some (false, 1) := by kernel_rfl
@[simp] theorem zero89 : zeroA Try.prog 89 = some [.pointer none] := by kernel_rfl
@[simp] theorem zeroV89 : zeroV Try.prog 89 = some (.pointer none) := by kernel_rfl
@[simp] theorem tk89 : tk Try.prog 89 = .pointer := by kernel_rfl
@[simp] theorem shp90 : shp Try.prog 90 = some (false, 1) := by kernel_rfl
@[simp] theorem zero90 : zeroA Try.prog 90 = some [.nilFunc] := by kernel_rfl
@[simp] theorem zeroV90 : zeroV Try.prog 90 = some (.nilFunc) := by kernel_rfl
@[simp] theorem tk90 : tk Try.prog 90 = .func := by kernel_rfl
@[simp] theorem shp92 : shp Try.prog 92 = some (false, 1) := by kernel_rfl
@[simp] theorem zero92 : zeroA Try.prog 92 = some [.map none] := by kernel_rfl
@[simp] theorem zeroV92 : zeroV Try.prog 92 = some (.map none) := by kernel_rfl
@[simp] theorem mapT92 : mapT Try.prog 92 = some (3, 33) := by kernel_rfl
@[simp] theorem tk92 : tk Try.prog 92 = .map := by kernel_rfl
@[simp] theorem shp93 : shp Try.prog 93 = some (true, 2) := by kernel_rfl
@[simp] theorem zero93 : zeroA Try.prog 93 = some [.map none, .int .i64 0] := by kernel_rfl
@[simp] theorem zeroV93 : zeroV Try.prog 93 = some (.agg #[.map none, .int .i64 0]) := by kernel_rfl
@[simp] theorem tk93 : tk Try.prog 93 = .other := by kernel_rfl
@[simp] theorem fld93_0 : fld Try.prog 93 0 = some 0 := by kernel_rfl
@[simp] theorem fieldA93_0 : fieldA Try.prog 93 0 = some (92, 0) := by kernel_rfl
@[simp] theorem fld93_1 : fld Try.prog 93 1 = some 1 := by kernel_rfl
@[simp] theorem fieldA93_1 : fieldA Try.prog 93 1 = some (3, 1) := by kernel_rfl
@[simp] theorem pl93 : plA Try.prog 93 = some [(0, 1), (1, 1)] := by kernel_rfl
@[simp] theorem shp94 : shp Try.prog 94 = some (true, 2) := by kernel_rfl
@[simp] theorem zero94 : zeroA Try.prog 94 = some [.map none, .int .i64 0] := by kernel_rfl
@[simp] theorem zeroV94 : zeroV Try.prog 94 = some (.agg #[.map none, .int .i64 0]) := by kernel_rfl
@[simp] theorem tk94 : tk Try.prog 94 = .other := by kernel_rfl
@[simp] theorem fld94_0 : fld Try.prog 94 0 = some 0 := by kernel_rfl
@[simp] theorem fieldA94_0 : fieldA Try.prog 94 0 = some (92, 0) := by kernel_rfl
@[simp] theorem fld94_1 : fld Try.prog 94 1 = some 1 := by kernel_rfl
@[simp] theorem fieldA94_1 : fieldA Try.prog 94 1 = some (3, 1) := by kernel_rfl
@[simp] theorem pl94 : plA Try.prog 94 = some [(0, 1), (1, 1)] := by kernel_rfl
@[simp] theorem shp95 : shp Try.prog 95 = some (true, 5) := by kernel_rfl
@[simp] theorem zero95 : zeroA Try.prog 95 = some [.int .i64 0, .int .i64 0, .int .i64 0, .int .i64 0, .string ⟨#[]⟩] := by kernel_rfl
@[simp] theorem zeroV95 : zeroV Try.prog 95 = some (.agg #[.int .i64 0, .int .i64 0, .int .i64 0, .int .i64 0, .string ⟨#[]⟩]) := by kernel_rfl
@[simp] theorem tk95 : tk Try.prog 95 = .other := by kernel_rfl
@[simp] theorem fld95_0 : fld Try.prog 95 0 = some 0 := by kernel_rfl
@[simp] theorem fieldA95_0 : fieldA Try.prog 95 0 = some (3, 0) := by kernel_rfl
@[simp] theorem fld95_1 : fld Try.prog 95 1 = some 1 := by kernel_rfl
@[simp] theorem fieldA95_1 : fieldA Try.prog 95 1 = some (33, 1) := by kernel_rfl
@[simp] theorem pl95 : plA Try.prog 95 = some [(0, 1), (1, 4)] := by kernel_rfl
@[simp] theorem shp96 : shp Try.prog 96 = some (true, 5) := by kernel_rfl
@[simp] theorem zero96 : zeroA Try.prog 96 = some [.int .i64 0, .int .i64 0, .int .i64 0, .int .i64 0, .string ⟨#[]⟩] := by kernel_rfl
@[simp] theorem zeroV96 : zeroV Try.prog 96 = some (.agg #[.int .i64 0, .int .i64 0, .int .i64 0, .int .i64 0, .string ⟨#[]⟩]) := by kernel_rfl
@[simp] theorem tk96 : tk Try.prog 96 = .other := by kernel_rfl
@[simp] theorem fld96_0 : fld Try.prog 96 0 = some 0 := by kernel_rfl
@[simp] theorem fieldA96_0 : fieldA Try.prog 96 0 = some (3, 0) := by kernel_rfl
@[simp] theorem fld96_1 : fld Try.prog 96 1 = some 1 := by kernel_rfl
@[simp] theorem fieldA96_1 : fieldA Try.prog 96 1 = some (33, 1) := by kernel_rfl
@[simp] theorem pl96 : plA Try.prog 96 = some [(0, 1), (1, 4)] := by kernel_rfl
@[simp] theorem shp97 : shp Try.prog 97 = some (false, 1) := by kernel_rfl
@[simp] theorem zero97 : zeroA Try.prog 97 = some [.nilFunc] := by kernel_rfl
@[simp] theorem zeroV97 : zeroV Try.prog 97 = some (.nilFunc) := by kernel_rfl
@[simp] theorem tk97 : tk Try.prog 97 = .func := by kernel_rfl
@[simp] theorem shp98 : shp Try.prog 98 = some (true, 2) := by kernel_rfl
@[simp] theorem zero98 : zeroA Try.prog 98 = some [.int .i64 0, .int .i64 0] := by kernel_rfl
@[simp] theorem zeroV98 : zeroV Try.prog 98 = some (.agg #[.int .i64 0, .int .i64 0]) := by kernel_rfl
@[simp] theorem tk98 : tk Try.prog 98 = .other := by kernel_rfl
@[simp] theorem fld98_0 : fld Try.prog 98 0 = some 0 := by kernel_rfl
@[simp] theorem fieldA98_0 : fieldA Try.prog 98 0 = some (3, 0) := by kernel_rfl
@[simp] theorem fld98_1 : fld Try.prog 98 1 = some 1 := by kernel_rfl
@[simp] theorem fieldA98_1 : fieldA Try.prog 98 1 = some (3, 1) := by kernel_rfl
@[simp] theorem pl98 : plA Try.prog 98 = some [(0, 1), (1, 1)] := by kernel_rfl
@[simp] theorem shp99 : shp Try.prog 99 = some (true, 2) := by kernel_rfl
@[simp] theorem zero99 : zeroA Try.prog 99 = some [.int .i64 0, .int .i64 0] := by kernel_rfl
@[simp] theorem zeroV99 : zeroV Try.prog 99 = some (.agg #[.int .i64 0, .int .i64 0]) := by kernel_rfl
@[simp] theorem tk99 : tk Try.prog 99 = .other := by kernel_rfl
@[simp] theorem fld99_0 : fld Try.prog 99 0 = some 0 := by kernel_rfl
@[simp] theorem fieldA99_0 : fieldA Try.prog 99 0 = some (3, 0) := by kernel_rfl
@[simp] theorem fld99_1 : fld Try.prog 99 1 = some 1 := by kernel_rfl
@[simp] theorem fieldA99_1 : fieldA Try.prog 99 1 = some (3, 1) := by kernel_rfl
@[simp] theorem pl99 : plA Try.prog 99 = some [(0, 1), (1, 1)] := by kernel_rfl
@[simp] theorem shp100 : shp Try.prog 100 = some (false, 1) := by kernel_rfl
@[simp] theorem zero100 : zeroA Try.prog 100 = some [.slice none 0 0] := by kernel_rfl
@[simp] theorem zeroV100 : zeroV Try.prog 100 = some (.slice none 0 0) := by kernel_rfl
@[simp] theorem tk100 : tk Try.prog 100 = .slice := by kernel_rfl
@[simp] theorem elemS100 : elemS Try.prog 100 = some (103, 1, 8) := by kernel_rfl
@[simp] theorem shp101 : shp Try.prog 101 = some (true, 6) := by kernel_rfl
@[simp] theorem zero101 : zeroA Try.prog 101 = some [.int .i64 0, .int .i64 0, .int .i64 0, .int .i64 0, .slice none 0 0, .slice none 0 0] := by kernel_rfl
@[simp] theorem zeroV101 : zeroV Try.prog 101 = some (.agg #[.int .i64 0, .int .i64 0, .int .i64 0, .int .i64 0, .slice none 0 0, .slice none 0 0]) := by kernel_rfl
@[simp] theorem tk101 : tk Try.prog 101 = .other := by kernel_rfl
@[simp] theorem fld101_0 : fld Try.prog 101 0 = some 0 := by kernel_rfl
@[simp] theorem fieldA101_0 : fieldA Try.prog 101 0 = some (3, 0) := by kernel_rfl
@[simp] theorem fld101_1 : fld Try.prog 101 1 = some 1 := by kernel_rfl
@[simp] theorem fieldA101_1 : fieldA Try.prog 101 1 = some (3, 1) := by kernel_rfl
@[simp] theorem fld101_2 : fld Try.prog 101 2 = some 2 := by kernel_rfl
@[simp] theorem fieldA101_2 : fieldA Try.prog 101 2 = some (3, 2) := by kernel_rfl
@[simp] theorem fld101_3 : fld Try.prog 101 3 = some 3 := by kernel_rfl
@[simp] theorem fieldA101_3 : fieldA Try.prog 101 3 = some (3, 3) := by kernel_rfl
@[simp] theorem fld101_4 : fld Try.prog 101 4 = some 4 := by kernel_rfl
@[simp] theorem fieldA101_4 : fieldA Try.prog 101 4 = some (100, 4) := by kernel_rfl
@[simp] theorem fld101_5 : fld Try.prog 101 5 = some 5 := by kernel_rfl
@[simp] theorem fieldA101_5 : fieldA Try.prog 101 5 = some (67, 5) := by kernel_rfl
@[simp] theorem pl101 : plA Try.prog 101 = some [(0, 1), (1, 1), (2, 1), (3, 1), (4, 1), (5, 1)] := by kernel_rfl
@[simp] theorem shp102 : shp Try.prog 102 = some (true, 6) := by kernel_rfl
@[simp] theorem zero102 : zeroA Try.prog 102 = some [.int .i64 0, .int .i64 0, .int .i64 0, .int .i64 0, .slice none 0 0, .slice none 0 0] := by kernel_rfl
@[simp] theorem zeroV102 : zeroV Try.prog 102 = some (.agg #[.int .i64 0, .int .i64 0, .int .i64 0, .int .i64 0, .slice none 0 0, .slice none 0 0]) := by kernel_rfl
@[simp] theorem tk102 : tk Try.prog 102 = .other := by kernel_rfl
@[simp] theorem fld102_0 : fld Try.prog 102 0 = some 0 := by kernel_rfl
@[simp] theorem fieldA102_0 : fieldA Try.prog 102 0 = some (3, 0) := by kernel_rfl
@[simp] theorem fld102_1 : fld Try.prog 102 1 = some 1 := by kernel_rfl
@[simp] theorem fieldA102_1 : fieldA Try.prog 102 1 = some (3, 1) := by kernel_rfl
@[simp] theorem fld102_2 : fld Try.prog 102 2 = some 2 := by kernel_rfl
@[simp] theorem fieldA102_2 : fieldA Try.prog 102 2 = some (3, 2) := by kernel_rfl
@[simp] theorem fld102_3 : fld Try.prog 102 3 = some 3 := by kernel_rfl
@[simp] theorem fieldA102_3 : fieldA Try.prog 102 3 = some (3, 3) := by kernel_rfl
@[simp] theorem fld102_4 : fld Try.prog 102 4 = some 4 := by kernel_rfl
@[simp] theorem fieldA102_4 : fieldA Try.prog 102 4 = some (100, 4) := by kernel_rfl
@[simp] theorem fld102_5 : fld Try.prog 102 5 = some 5 := by kernel_rfl
@[simp] theorem fieldA102_5 : fieldA Try.prog 102 5 = some (67, 5) := by kernel_rfl
@[simp] theorem pl102 : plA Try.prog 102 = some [(0, 1), (1, 1), (2, 1), (3, 1), (4, 1), (5, 1)] := by kernel_rfl
@[simp] theorem shp103 : shp Try.prog 103 = some (false, 1) := by kernel_rfl
@[simp] theorem zero103 : zeroA Try.prog 103 = some [.pointer none] := by kernel_rfl
@[simp] theorem zeroV103 : zeroV Try.prog 103 = some (.pointer none) := by kernel_rfl
@[simp] theorem tk103 : tk Try.prog 103 = .pointer := by kernel_rfl
@[simp] theorem shp104 : shp Try.prog 104 = some (true, 6) := by kernel_rfl
@[simp] theorem zero104 : zeroA Try.prog 104 = some [.int .i64 0, .int .i64 0, .string ⟨#[]⟩, .bool false, .int .i64 0, .int .i64 0] := by kernel_rfl
@[simp] theorem zeroV104 : zeroV Try.prog 104 = some (.agg #[.int .i64 0, .int .i64 0, .string ⟨#[]⟩, .bool false, .int .i64 0, .int .i64 0]) := by kernel_rfl
@[simp] theorem tk104 : tk Try.prog 104 = .other := by kernel_rfl
@[simp] theorem fld104_0 : fld Try.prog 104 0 = some 0 := by kernel_rfl
@[simp] theorem fieldA104_0 : fieldA Try.prog 104 0 = some (35, 0) := by kernel_rfl
@[simp] theorem fld104_1 : fld Try.prog 104 1 = some 3 := by kernel_rfl
@[simp] theorem fieldA104_1 : fieldA Try.prog 104 1 = some (4, 3) := by kernel_rfl
@[simp] theorem fld104_2 : fld Try.prog 104 2 = some 4 := by kernel_rfl
@[simp] theorem fieldA104_2 : fieldA Try.prog 104 2 = some (3, 4) := by kernel_rfl
@[simp] theorem fld104_3 : fld Try.prog 104 3 = some 5 := by kernel_rfl
@[simp] theorem fieldA104_3 : fieldA Try.prog 104 3 = some (3, 5) := by kernel_rfl
@[simp] theorem pl104 : plA Try.prog 104 = some [(0, 3), (3, 1), (4, 1), (5, 1)] := by kernel_rfl
@[simp] theorem shp105 : shp Try.prog 105 = some (true, 6) := by kernel_rfl
@[simp] theorem zero105 : zeroA Try.prog 105 = some [.int .i64 0, .int .i64 0, .string ⟨#[]⟩, .bool false, .int .i64 0, .int .i64 0] := by kernel_rfl
@[simp] theorem zeroV105 : zeroV Try.prog 105 = some (.agg #[.int .i64 0, .int .i64 0, .string ⟨#[]⟩, .bool false, .int .i64 0, .int .i64 0]) := by kernel_rfl
@[simp] theorem tk105 : tk Try.prog 105 = .other := by kernel_rfl
@[simp] theorem fld105_0 : fld Try.prog 105 0 = some 0 := by kernel_rfl
@[simp] theorem fieldA105_0 : fieldA Try.prog 105 0 = some (35, 0) := by kernel_rfl
@[simp] theorem fld105_1 : fld Try.prog 105 1 = some 3 := by kernel_rfl
@[simp] theorem fieldA105_1 : fieldA Try.prog 105 1 = some (4, 3) := by kernel_rfl
@[simp] theorem fld105_2 : fld Try.prog 105 2 = some 4 := by kernel_rfl
@[simp] theorem fieldA105_2 : fieldA Try.prog 105 2 = some (3, 4) := by kernel_rfl
@[simp] theorem fld105_3 : fld Try.prog 105 3 = some 5 := by kernel_rfl
@[simp] theorem fieldA105_3 : fieldA Try.prog 105 3 = some (3, 5) := by kernel_rfl
@[simp] theorem pl105 : plA Try.prog 105 = some [(0, 3), (3, 1), (4, 1), (5, 1)] := by kernel_rfl
@[simp] theorem shp106 : shp Try.prog 106 = some (true, 6) := by kernel_rfl
@[simp] theorem zero106 : zeroA Try.prog 106 = some [.int .i64 0, .int .i64 0, .string ⟨#[]⟩, .bool false, .int .i64 0, .int .i64 0] := by kernel_rfl
@[simp] theorem zeroV106 : zeroV Try.prog 106 = some (.agg #[.int .i64 0, .int .i64 0, .string ⟨#[]⟩, .bool false, .int .i64 0, .int .i64 0]) := by kernel_rfl
@[simp] theorem tk106 : tk Try.prog 106 = .other := by kernel_rfl
@[simp] theorem fld106_0 : fld Try.prog 106 0 = some 0 := by kernel_rfl
@[simp] theorem fieldA106_0 : fieldA Try.prog 106 0 = some (35, 0) := by kernel_rfl
@[simp] theorem fld106_1 : fld Try.prog 106 1 = some 3 := by kernel_rfl
@[simp] theorem fieldA106_1 : fieldA Try.prog 106 1 = some (4, 3) := by kernel_rfl
@[simp] theorem fld106_2 : fld Try.prog 106 2 = some 4 := by kernel_rfl
@[simp] theorem fieldA106_2 : fieldA Try.prog 106 2 = some (3, 4) := by kernel_rfl
@[simp] theorem fld106_3 : fld Try.prog 106 3 = some 5 := by kernel_rfl
@[simp] theorem fieldA106_3 : fieldA Try.prog 106 3 = some (3, 5) := by kernel_rfl
@[simp] theorem pl106 : plA Try.prog 106 = some [(0, 3), (3, 1), (4, 1), (5, 1)] := by kernel_rfl
@[simp] theorem shp107 : shp Try.prog 107 = some (true, 6) := by kernel_rfl
@[simp] theorem zero107 : zeroA Try.prog 107 = some [.int .i64 0, .int .i64 0, .string ⟨#[]⟩, .bool false, .int .i64 0, .int .i64 0] := by kernel_rfl
@[simp] theorem zeroV107 : zeroV Try.prog 107 = some (.agg #[.int .i64 0, .int .i64 0, .string ⟨#[]⟩, .bool false, .int .i64 0, .int .i64 0]) := by kernel_rfl
@[simp] theorem tk107 : tk Try.prog 107 = .other := by kernel_rfl
@[simp] theorem fld107_0 : fld Try.prog 107 0 = some 0 := by kernel_rfl
@[simp] theorem fieldA107_0 : fieldA Try.prog 107 0 = some (35, 0) := by kernel_rfl
@[simp] theorem fld107_1 : fld Try.prog 107 1 = some 3 := by kernel_rfl
@[simp] theorem fieldA107_1 : fieldA Try.prog 107 1 = some (4, 3) := by kernel_rfl
@[simp] theorem fld107_2 : fld Try.prog 107 2 = some 4 := by kernel_rfl
@[simp] theorem fieldA107_2 : fieldA Try.prog 107 2 = some (3, 4) := by kernel_rfl
@[simp] theorem fld107_3 : fld Try.prog 107 3 = some 5 := by kernel_rfl
@[simp] theorem fieldA107_3 : fieldA Try.prog 107 3 = some (3, 5) := by kernel_rfl
@[simp] theorem pl107 : plA Try.prog 107 = some [(0, 3), (3, 1), (4, 1), (5, 1)] := by kernel_rfl
@[simp] theorem shp108 : shp Try.prog 108 = some (false, 1) := by kernel_rfl
@[simp] theorem zero108 : zeroA Try.prog 108 = some [.nilFunc] := by kernel_rfl
@[simp] theorem zeroV108 : zeroV Try.prog 108 = some (.nilFunc) := by kernel_rfl
@[simp] theorem tk108 : tk Try.prog 108 = .func := by kernel_rfl
@[simp] theorem shp109 : shp Try.prog 109 = some (false, 1) := by kernel_rfl
@[simp] theorem zero109 : zeroA Try.prog 109 = some [.nilFunc] := by kernel_rfl
@[simp] theorem zeroV109 : zeroV Try.prog 109 = some (.nilFunc) := by kernel_rfl
@[simp] theorem tk109 : tk Try.prog 109 = .func := by kernel_rfl
@[simp] theorem shp110 : shp Try.prog 110 = some (false, 1) := by kernel_rfl
@[simp] theorem zero110 : zeroA Try.prog 110 = some [.nilFunc] := by kernel_rfl
@[simp] theorem zeroV110 : zeroV Try.prog 110 = some (.nilFunc) := by kernel_rfl
@[simp] theorem tk110 : tk Try.prog 110 = .func := by kernel_rfl
@[simp] theorem shp111 : shp Try.prog 111 = some (false, 1) := by kernel_rfl
@[simp] theorem zero111 : zeroA Try.prog 111 = some [.nilFunc] := by kernel_rfl
@[simp] theorem zeroV111 : zeroV Try.prog 111 = some (.nilFunc) := by kernel_rfl
@[simp] theorem tk111 : tk Try.prog 111 = .func := by kernel_rfl
@[simp] theorem shp112 : shp Try.prog 112 = some (false, 1) := by kernel_rfl
@[simp] theorem zero112 : zeroA Try.prog 112 = some [.nilFunc] := by kernel_rfl
@[simp] theorem zeroV112 : zeroV Try.prog 112 = some (.nilFunc) := by kernel_rfl
@[simp] theorem tk112 : tk Try.prog 112 = .func := by kernel_rfl
@[simp] theorem shp113 : shp Try.prog 113 = some (false, 1) := by kernel_rfl
@[simp] theorem zero113 : zeroA Try.prog 113 = some [.nilFunc] := by kernel_rfl
@[simp] theorem zeroV113 : zeroV Try.prog 113 = some (.nilFunc) := by kernel_rfl
@[simp] theorem tk113 : tk Try.prog 113 = .func := by kernel_rfl
@[simp] theorem shp114 : shp Try.prog 114 = some (false, 1) := by kernel_rfl
@[simp] theorem zero114 : zeroA Try.prog 114 = some [.nilFunc] := by kernel_rfl
@[simp] theorem zeroV114 : zeroV Try.prog 114 = some (.nilFunc) := by kernel_rfl
@[simp] theorem tk114 : tk Try.prog 114 = .func := by kernel_rfl
@[simp] theorem shp115 : shp Try.prog 115 = some (false, 1) := by kernel_rfl
@[simp] theorem zero115 : zeroA Try.prog 115 = some [.nilFunc] := by kernel_rfl
@[simp] theorem zeroV115 : zeroV Try.prog 115 = some (.nilFunc) := by kernel_rfl
@[simp] theorem tk115 : tk Try.prog 115 = .func := by kernel_rfl
@[simp] theorem shp116 : shp Try.prog 116 = some (false, 1) := by kernel_rfl
@[simp] theorem zero116 : zeroA Try.prog 116 = some [.nilFunc] := by kernel_rfl
@[simp] theorem zeroV116 : zeroV Try.prog 116 = some (.nilFunc) := by kernel_rfl
@[simp] theorem tk116 : tk Try.prog 116 = .func := by kernel_rfl
@[simp] theorem shp117 : shp Try.prog 117 = some (true, 4) := by kernel_rfl
@[simp] theorem zero117 : zeroA Try.prog 117 = some [.pointer none, .pointer none, .pointer none, .string ⟨#[]⟩] := by kernel_rfl
@[simp] theorem zeroV117 : zeroV Try.prog 117 = some (.agg #[.pointer none, .pointer none, .pointer none, .string ⟨#[]⟩]) := by kernel_rfl
@[simp] theorem tk117 : tk Try.prog 117 = .other := by kernel_rfl
@[simp] theorem fld117_0 : fld Try.prog 117 0 = some 0 := by kernel_rfl
@[simp] theorem fieldA117_0 : fieldA Try.prog 117 0 = some (17, 0) := by kernel_rfl
@[simp] theorem fld117_1 : fld Try.prog 117 1 = some 1 := by kernel_rfl
@[simp] theorem fieldA117_1 : fieldA Try.prog 117 1 = some (17, 1) := by kernel_rfl
@[simp] theorem fld117_2 : fld Try.prog 117 2 = some 2 := by kernel_rfl
@[simp] theorem fieldA117_2 : fieldA Try.prog 117 2 = some (17, 2) := by kernel_rfl
@[simp] theorem fld117_3 : fld Try.prog 117 3 = some 3 := by kernel_rfl
@[simp] theorem fieldA117_3 : fieldA Try.prog 117 3 = some (9, 3) := by kernel_rfl
@[simp] theorem pl117 : plA Try.prog 117 = some [(0, 1), (1, 1), (2, 1), (3, 1)] := by kernel_rfl
@[simp] theorem shp118 : shp Try.prog 118 = some (true, 4) := by kernel_rfl
@[simp] theorem zero118 : zeroA Try.prog 118 = some [.pointer none, .pointer none, .pointer none, .string ⟨#[]⟩] := by kernel_rfl
@[simp] theorem zeroV118 : zeroV Try.prog 118 = some (.agg #[.pointer none, .pointer none, .pointer none, .string ⟨#[]⟩]) := by kernel_rfl
@[simp] theorem tk118 : tk Try.prog 118 = .other := by kernel_rfl
@[simp] theorem fld118_0 : fld Try.prog 118 0 = some 0 := by kernel_rfl
@[simp] theorem fieldA118_0 : fieldA Try.prog 118 0 = some (17, 0) := by kernel_rfl
@[simp] theorem fld118_1 : fld Try.prog 118 1 = some 1 := by kernel_rfl
@[simp] theorem fieldA118_1 : fieldA Try.prog 118 1 = some (17, 1) := by kernel_rfl
@[simp] theorem fld118_2 : fld Try.prog 118 2 = some 2 := by kernel_rfl
@[simp] theorem fieldA118_2 : fieldA Try.prog 118 2 = some (17, 2) := by kernel_rfl
@[simp] theorem fld118_3 : fld Try.prog 118 3 = some 3 := by kernel_rfl
@[simp] theorem fieldA118_3 : fieldA Try.prog 118 3 = some (9, 3) := by kernel_rfl
@[simp] theorem pl118 : plA Try.prog 118 = some [(0, 1), (1, 1), (2, 1), (3, 1)] := by kernel_rfl
@[simp] theorem shp119 : shp Try.prog 119 = some (true, 0) := by kernel_rfl
@[simp] theorem zero119 : zeroA Try.prog 119 = some [] := by kernel_rfl
@[simp] theorem tk119 : tk Try.prog 119 = .array 0 := by kernel_rfl
@[simp] theorem arrT119 : arrT Try.prog 119 = some (16, 0, 1) := by kernel_rfl
@[simp] theorem elemR119 : elemR Try.prog 119 = some (0, 1) := by kernel_rfl
@[simp] theorem pl119 : plA Try.prog 119 = some [] := by kernel_rfl
@[simp] theorem shp120 : shp Try.prog 120 = some (true, 0) := by kernel_rfl
@[simp] theorem zero120 : zeroA Try.prog 120 = some [] := by kernel_rfl
@[simp] theorem tk120 : tk Try.prog 120 = .other := by kernel_rfl
@[simp] theorem fieldA120_0 : fieldA Try.prog 120 0 = some (119, 0) := by kernel_rfl
@[simp] theorem pl120 : plA Try.prog 120 = some [(0, 0)] := by kernel_rfl
@[simp] theorem shp121 : shp Try.prog 121 = some (true, 0) := by kernel_rfl
@[simp] theorem zero121 : zeroA Try.prog 121 = some [] := by kernel_rfl
@[simp] theorem tk121 : tk Try.prog 121 = .other := by kernel_rfl
@[simp] theorem fieldA121_0 : fieldA Try.prog 121 0 = some (119, 0) := by kernel_rfl
@[simp] theorem pl121 : plA Try.prog 121 = some [(0, 0)] := by kernel_rfl
@[simp] theorem shp122 : shp Try.prog 122 = some (false, 1) := by kernel_rfl
@[simp] theorem zero122 : zeroA Try.prog 122 = some [.int .u32 0] := by kernel_rfl
@[simp] theorem zeroV122 : zeroV Try.prog 122 = some (.int .u32 0) := by kernel_rfl
@[simp] theorem tk122 : tk Try.prog 122 = .int := by kernel_rfl
@[simp] theorem shp123 : shp Try.prog 123 = some (false, 1) := by kernel_rfl
@[simp] theorem zero123 : zeroA Try.prog 123 = some [.int .u8 0] := by kernel_rfl
@[simp] theorem zeroV123 : zeroV Try.prog 123 = some (.int .u8 0) := by kernel_rfl
@[simp] theorem tk123 : tk Try.prog 123 = .int := by kernel_rfl
@[simp] theorem shp124 : shp Try.prog 124 = some (false, 1) := by kernel_rfl
@[simp] theorem zero124 : zeroA Try.prog 124 = some [.int .u8 0] := by kernel_rfl
@[simp] theorem zeroV124 : zeroV Try.prog 124 = some (.int .u8 0) := by kernel_rfl
@[simp] theorem tk124 : tk Try.prog 124 = .int := by kernel_rfl
@[simp] theorem shp125 : shp Try.prog 125 = some (false, 1) := by kernel_rfl
@[simp] theorem zero125 : zeroA Try.prog 125 = some [.nilFunc] := by kernel_rfl
@[simp] theorem zeroV125 : zeroV Try.prog 125 = some (.nilFunc) := by kernel_rfl
@[simp] theorem tk125 : tk Try.prog 125 = .func := by kernel_rfl
@[simp] theorem shp126 : shp Try.prog 126 = some (false, 1) := by kernel_rfl
@[simp] theorem zero126 : zeroA Try.prog 126 = some [.pointer none] := by kernel_rfl
@[simp] theorem zeroV126 : zeroV Try.prog 126 = some (.pointer none) := by kernel_rfl
@[simp] theorem tk126 : tk Try.prog 126 = .pointer := by kernel_rfl
@[simp] theorem shp127 : shp Try.prog 127 = some (false, 1) := by kernel_rfl
@[simp] theorem zero127 : zeroA Try.prog 127 = some [.int .i32 0] := by kernel_rfl
@[simp] theorem zeroV127 : zeroV Try.prog 127 = some (.int .i32 0) := by kernel_rfl
@[simp] theorem tk127 : tk Try.prog 127 = .int := by kernel_rfl
@[simp] theorem shp128 : shp Try.prog 128 = some (false, 1) := by kernel_rfl
@[simp] theorem zero128 : zeroA Try.prog 128 = some [.int .i32 0] := by kernel_rfl
@[simp] theorem zeroV128 : zeroV Try.prog 128 = some (.int .i32 0) := by kernel_rfl
@[simp] theorem tk128 : tk Try.prog 128 = .int := by kernel_rfl
@[simp] theorem shp129 : shp Try.prog 129 = some (true, 11) := by kernel_rfl
@[simp] theorem zero129 : zeroA Try.prog 129 = some [.int .u64 0, .int .u64 0, .int .u32 0, .int .u8 0, .int .u8 0, .int .u8 0, .int .u8 0, .nilFunc, .pointer none, .int .i32 0, .int .i32 0] := by kernel_rfl
@[simp] theorem zeroV129 : zeroV Try.prog 129 = some (.agg #[.int .u64 0, .int .u64 0, .int .u32 0, .int .u8 0, .int .u8 0, .int .u8 0, .int .u8 0, .nilFunc, .pointer none, .int .i32 0, .int .i32 0]) := by kernel_rfl
@[simp] theorem tk129 : tk Try.prog 129 = .other := by kernel_rfl
@[simp] theorem fld129_0 : fld Try.prog 129 0 = some 0 := by kernel_rfl
@[simp] theorem fieldA129_0 : fieldA Try.prog 129 0 = some (12, 0) := by kernel_rfl
@[simp] theorem fld129_1 : fld Try.prog 129 1 = some 1 := by kernel_rfl
@[simp] theorem fieldA129_1 : fieldA Try.prog 129 1 = some (12, 1) := by kernel_rfl
@[simp] theorem fld129_2 : fld Try.prog 129 2 = some 2 := by kernel_rfl
@[simp] theorem fieldA129_2 : fieldA Try.prog 129 2 = some (122, 2) := by kernel_rfl
@[simp] theorem fld129_3 : fld Try.prog 129 3 = some 3 := by kernel_rfl
@[simp] theorem fieldA129_3 : fieldA Try.prog 129 3 = some (123, 3) := by kernel_rfl
@[simp] theorem fld129_4 : fld Try.prog 129 4 = some 4 := by kernel_rfl
@[simp] theorem fieldA129_4 : fieldA Try.prog 129 4 = some (5, 4) := by kernel_rfl
@[simp] theorem fld129_5 : fld Try.prog 129 5 = some 5 := by kernel_rfl
@[simp] theorem fieldA129_5 : fieldA Try.prog 129 5 = some (5, 5) := by kernel_rfl
@[simp] theorem fld129_6 : fld Try.prog 129 6 = some 6 := by kernel_rfl
@[simp] theorem fieldA129_6 : fieldA Try.prog 129 6 = some (124, 6) := by kernel_rfl
@[simp] theorem fld129_7 : fld Try.prog 129 7 = some 7 := by kernel_rfl
@[simp] theorem fieldA129_7 : fieldA Try.prog 129 7 = some (125, 7) := by kernel_rfl
@[simp] theorem fld129_8 : fld Try.prog 129 8 = some 8 := by kernel_rfl
@[simp] theorem fieldA129_8 : fieldA Try.prog 129 8 = some (126, 8) := by kernel_rfl
@[simp] theorem fld129_9 : fld Try.prog 129 9 = some 9 := by kernel_rfl
@[simp] theorem fieldA129_9 : fieldA Try.prog 129 9 = some (127, 9) := by kernel_rfl
@[simp] theorem fld129_10 : fld Try.prog 129 10 = some 10 := by kernel_rfl
@[simp] theorem fieldA129_10 : fieldA Try.prog 129 10 = some (128, 10) := by kernel_rfl
@[simp] theorem pl129 : plA Try.prog 129 = some [(0, 1), (1, 1), (2, 1), (3, 1), (4, 1), (5, 1), (6, 1), (7, 1), (8, 1), (9, 1), (10, 1)] := by kernel_rfl
@[simp] theorem shp130 : shp Try.prog 130 = some (true, 11) := by kernel_rfl
@[simp] theorem zero130 : zeroA Try.prog 130 = some [.int .u64 0, .int .u64 0, .int .u32 0, .int .u8 0, .int .u8 0, .int .u8 0, .int .u8 0, .nilFunc, .pointer none, .int .i32 0, .int .i32 0] := by kernel_rfl
@[simp] theorem zeroV130 : zeroV Try.prog 130 = some (.agg #[.int .u64 0, .int .u64 0, .int .u32 0, .int .u8 0, .int .u8 0, .int .u8 0, .int .u8 0, .nilFunc, .pointer none, .int .i32 0, .int .i32 0]) := by kernel_rfl
@[simp] theorem tk130 : tk Try.prog 130 = .other := by kernel_rfl
@[simp] theorem fld130_0 : fld Try.prog 130 0 = some 0 := by kernel_rfl
@[simp] theorem fieldA130_0 : fieldA Try.prog 130 0 = some (12, 0) := by kernel_rfl
@[simp] theorem fld130_1 : fld Try.prog 130 1 = some 1 := by kernel_rfl
@[simp] theorem fieldA130_1 : fieldA Try.prog 130 1 = some (12, 1) := by kernel_rfl
@[simp] theorem fld130_2 : fld Try.prog 130 2 = some 2 := by kernel_rfl
@[simp] theorem fieldA130_2 : fieldA Try.prog 130 2 = some (122, 2) := by kernel_rfl
@[simp] theorem fld130_3 : fld Try.prog 130 3 = some 3 := by kernel_rfl
@[simp] theorem fieldA130_3 : fieldA Try.prog 130 3 = some (123, 3) := by kernel_rfl
@[simp] theorem fld130_4 : fld Try.prog 130 4 = some 4 := by kernel_rfl
@[simp] theorem fieldA130_4 : fieldA Try.prog 130 4 = some (5, 4) := by kernel_rfl
@[simp] theorem fld130_5 : fld Try.prog 130 5 = some 5 := by kernel_rfl
@[simp] theorem fieldA130_5 : fieldA Try.prog 130 5 = some (5, 5) := by kernel_rfl
@[simp] theorem fld130_6 : fld Try.prog 130 6 = some 6 := by kernel_rfl
@[simp] theorem fieldA130_6 : fieldA Try.prog 130 6 = some (124, 6) := by kernel_rfl
@[simp] theorem fld130_7 : fld Try.prog 130 7 = some 7 := by kernel_rfl
@[simp] theorem fieldA130_7 : fieldA Try.prog 130 7 = some (125, 7) := by kernel_rfl
@[simp] theorem fld130_8 : fld Try.prog 130 8 = some 8 := by kernel_rfl
@[simp] theorem fieldA130_8 : fieldA Try.prog 130 8 = some (126, 8) := by kernel_rfl
@[simp] theorem fld130_9 : fld Try.prog 130 9 = some 9 := by kernel_rfl
@[simp] theorem fieldA130_9 : fieldA Try.prog 130 9 = some (127, 9) := by kernel_rfl
@[simp] theorem fld130_10 : fld Try.prog 130 10 = some 10 := by kernel_rfl
@[simp] theorem fieldA130_10 : fieldA Try.prog 130 10 = some (128, 10) := by kernel_rfl
@[simp] theorem pl130 : plA Try.prog 130 = some [(0, 1), (1, 1), (2, 1), (3, 1), (4, 1), (5, 1), (6, 1), (7, 1), (8, 1), (9, 1), (10, 1)] := by kernel_rfl
@[simp] theorem shp131 : shp Try.prog 131 = some (false, 1) := by kernel_rfl
@[simp] theorem zero131 : zeroA Try.prog 131 = some [.pointer none] := by kernel_rfl
@[simp] theorem zeroV131 : zeroV Try.prog 131 = some (.pointer none) := by kernel_rfl
@[simp] theorem tk131 : tk Try.prog 131 = .other := by kernel_rfl
theorem prim3 : ∀ x : Int, primK Try.prog 3 (.int .i64 x) = true := fun _ => by kernel_rfl
@[simp] theorem ent2 : entB Try.prog 2 = true := by kernel_rfl
@[simp] theorem ent3 : entB Try.prog 3 = true := by kernel_rfl
@[simp] theorem ent4 : entB Try.prog 4 = true := by kernel_rfl
@[simp] theorem ent5 : entB Try.prog 5 = true := by kernel_rfl
@[simp] theorem ent6 : entB Try.prog 6 = true := by kernel_rfl
@[simp] theorem ent7 : entB Try.prog 7 = true := by kernel_rfl
@[simp] theorem ent8 : entB Try.prog 8 = true := by kernel_rfl
@[simp] theorem ent9 : entB Try.prog 9 = true := by kernel_rfl
@[simp] theorem ent10 : entB Try.prog 10 = true := by kernel_rfl
@[simp] theorem ent11 : entB Try.prog 11 = true := by kernel_rfl
@[simp] theorem ent12 : entB Try.prog 12 = true := by kernel_rfl
@[simp] theorem ent13 : entB Try.prog 13 = true := by kernel_rfl
@[simp] theorem ent14 : entB Try.prog 14 = true := by kernel_rfl
@[simp] theorem ent15 : entB Try.prog 15 = true := by kernel_rfl
@[simp] theorem ent16 : entB Try.prog 16 = true := by kernel_rfl
@[simp] theorem ent17 : entB Try.prog 17 = true := by kernel_rfl
@[simp] theorem ent18 : entB Try.prog 18 = true := by kernel_rfl
@[simp] theorem ent19 : entB Try.prog 19 = true := by kernel_rfl
@[simp] theorem ent20 : entB Try.prog 20 = true := by kernel_rfl
@[simp] theorem ent21 : entB Try.prog 21 = true := by kernel_rfl
@[simp] theorem ent22 : entB Try.prog 22 = true := by kernel_rfl
@[simp] theorem ent23 : entB Try.prog 23 = true := by kernel_rfl
@[simp] theorem ent24 : entB Try.prog 24 = true := by kernel_rfl
@[simp] theorem ent25 : entB Try.prog 25 = true := by kernel_rfl
@[simp] theorem ent26 : entB Try.prog 26 = true := by kernel_rfl
@[simp] theorem ent27 : entB Try.prog 27 = true := by kernel_rfl
@[simp] theorem ent28 : entB Try.prog 28 = true := by kernel_rfl
@[simp] theorem ent29 : entB Try.prog 29 = true := by kernel_rfl
@[simp] theorem ent30 : entB Try.prog 30 = true := by kernel_rfl
@[simp] theorem ent31 : entB Try.prog 31 = true := by kernel_rfl
@[simp] theorem ent32 : entB Try.prog 32 = true := by kernel_rfl
@[simp] theorem ent33 : entB Try.prog 33 = true := by kernel_rfl
@[simp] theorem ent34 : entB Try.prog 34 = true := by kernel_rfl
@[simp] theorem ent35 : entB Try.prog 35 = true := by kernel_rfl
@[simp] theorem ent36 : entB Try.prog 36 = true := by kernel_rfl
@[simp] theorem ent37 : entB Try.prog 37 = true := by kernel_rfl
@[simp] theorem ent38 : entB Try.prog 38 = true := by kernel_rfl
@[simp] theorem ent39 : entB Try.prog 39 = true := by kernel_rfl
@[simp] theorem ent40 : entB Try.prog 40 = true := by kernel_rfl
@[simp] theorem ent41 : entB Try.prog 41 = true := by kernel_rfl
@[simp] theorem ent42 : entB Try.prog 42 = true := by kernel_rfl
@[simp] theorem ent43 : entB Try.prog 43 = true := by kernel_rfl
@[simp] theorem ent44 : entB Try.prog 44 = true := by kernel_rfl
@[simp] theorem ent45 : entB Try.prog 45 = true := by kernel_rfl
@[simp] theorem ent46 : entB Try.prog 46 = true := by kernel_rfl
@[simp] theorem cvt3_74 : cvt Try.prog 3 74 = some (some .u64) := by kernel_rfl
@[simp] theorem conv3_74 {v : Value} : convA Try.prog 3 74 v = convV v (some .u64) := convA_eq cvt3_74
@[simp] theorem cvt74_3 : cvt Try.prog 74 3 = some (some .i64) := by kernel_rfl
@[simp] theorem conv74_3 {v : Value} : convA Try.prog 74 3 v = convV v (some .i64) := convA_eq cvt74_3
theorem eqr33 {x0 y0 : Int} {x1 y1 : Int} {x2 y2 : Int} {x3 y3 : ByteArray} : EqRun Try.prog 33 [.int .i64 x0, .int .i64 x1, .int .i64 x2, .string x3] [.int .i64 y0, .int .i64 y1, .int .i64 y2, .string y3] (decide (x0 = y0 ∧ x1 = y1 ∧ x2 = y2 ∧ x3 = y3)) := by
  refine ⟨by simp [flat], by simp [flat], by kernel_rfl, fun w => ?_⟩
  unfold Op.equal Op.maxDepth
  simp [go_sem, str_beq]
  repeat' split
  all_goals simp_all
@[simp ↓] theorem eql33 {x0 y0 : Int} {x1 y1 : Int} {x2 y2 : Int} {x3 y3 : ByteArray} {k : Value → Prop} : binK Try.prog .eql 33 (.agg #[.int .i64 x0, .int .i64 x1, .int .i64 x2, .string x3]) (.agg #[.int .i64 y0, .int .i64 y1, .int .i64 y2, .string y3]) k = k (.bool (decide (x0 = y0 ∧ x1 = y1 ∧ x2 = y2 ∧ x3 = y3))) := EqRun.eql eqr33
attribute [simp] eql33
@[simp ↓] theorem neq33 {x0 y0 : Int} {x1 y1 : Int} {x2 y2 : Int} {x3 y3 : ByteArray} {k : Value → Prop} : binK Try.prog .neq 33 (.agg #[.int .i64 x0, .int .i64 x1, .int .i64 x2, .string x3]) (.agg #[.int .i64 y0, .int .i64 y1, .int .i64 y2, .string y3]) k = k (.bool !(decide (x0 = y0 ∧ x1 = y1 ∧ x2 = y2 ∧ x3 = y3))) := EqRun.neq eqr33
attribute [simp] neq33
theorem eqr35 {x0 y0 : Int} {x1 y1 : Int} {x2 y2 : ByteArray} : EqRun Try.prog 35 [.int .i64 x0, .int .i64 x1, .string x2] [.int .i64 y0, .int .i64 y1, .string y2] (decide (x0 = y0 ∧ x1 = y1 ∧ x2 = y2)) := by
  refine ⟨by simp [flat], by simp [flat], by kernel_rfl, fun w => ?_⟩
  unfold Op.equal Op.maxDepth
  simp [go_sem, str_beq]
  repeat' split
  all_goals simp_all
@[simp ↓] theorem eql35 {x0 y0 : Int} {x1 y1 : Int} {x2 y2 : ByteArray} {k : Value → Prop} : binK Try.prog .eql 35 (.agg #[.int .i64 x0, .int .i64 x1, .string x2]) (.agg #[.int .i64 y0, .int .i64 y1, .string y2]) k = k (.bool (decide (x0 = y0 ∧ x1 = y1 ∧ x2 = y2))) := EqRun.eql eqr35
attribute [simp] eql35
@[simp ↓] theorem neq35 {x0 y0 : Int} {x1 y1 : Int} {x2 y2 : ByteArray} {k : Value → Prop} : binK Try.prog .neq 35 (.agg #[.int .i64 x0, .int .i64 x1, .string x2]) (.agg #[.int .i64 y0, .int .i64 y1, .string y2]) k = k (.bool !(decide (x0 = y0 ∧ x1 = y1 ∧ x2 = y2))) := EqRun.neq eqr35
attribute [simp] neq35
theorem eqr50 {x0 y0 : Int} {x1 y1 : Int} : EqRun Try.prog 50 [.int .i64 x0, .int .i64 x1] [.int .i64 y0, .int .i64 y1] (decide (x0 = y0 ∧ x1 = y1)) := by
  refine ⟨by simp [flat], by simp [flat], by kernel_rfl, fun w => ?_⟩
  unfold Op.equal Op.maxDepth
  simp [go_sem, str_beq]
  repeat' split
  all_goals simp_all
@[simp ↓] theorem eql50 {x0 y0 : Int} {x1 y1 : Int} {k : Value → Prop} : binK Try.prog .eql 50 (.agg #[.int .i64 x0, .int .i64 x1]) (.agg #[.int .i64 y0, .int .i64 y1]) k = k (.bool (decide (x0 = y0 ∧ x1 = y1))) := EqRun.eql eqr50
attribute [simp] eql50
@[simp ↓] theorem neq50 {x0 y0 : Int} {x1 y1 : Int} {k : Value → Prop} : binK Try.prog .neq 50 (.agg #[.int .i64 x0, .int .i64 x1]) (.agg #[.int .i64 y0, .int .i64 y1]) k = k (.bool !(decide (x0 = y0 ∧ x1 = y1))) := EqRun.neq eqr50
attribute [simp] neq50
theorem eqr84 {x0 y0 : Int} {x1 y1 : Int} : EqRun Try.prog 84 [.int .i64 x0, .int .i64 x1] [.int .i64 y0, .int .i64 y1] (decide (x0 = y0 ∧ x1 = y1)) := by
  refine ⟨by simp [flat], by simp [flat], by kernel_rfl, fun w => ?_⟩
  unfold Op.equal Op.maxDepth
  simp [go_sem, str_beq]
  repeat' split
  all_goals simp_all
@[simp ↓] theorem eql84 {x0 y0 : Int} {x1 y1 : Int} {k : Value → Prop} : binK Try.prog .eql 84 (.agg #[.int .i64 x0, .int .i64 x1]) (.agg #[.int .i64 y0, .int .i64 y1]) k = k (.bool (decide (x0 = y0 ∧ x1 = y1))) := EqRun.eql eqr84
attribute [simp] eql84
@[simp ↓] theorem neq84 {x0 y0 : Int} {x1 y1 : Int} {k : Value → Prop} : binK Try.prog .neq 84 (.agg #[.int .i64 x0, .int .i64 x1]) (.agg #[.int .i64 y0, .int .i64 y1]) k = k (.bool !(decide (x0 = y0 ∧ x1 = y1))) := EqRun.neq eqr84
attribute [simp] neq84
end Go.Aw.Tab
