/-
  The types and functions of this seat, as the abstract machine asks for them. Printed by tab.py.
-/
import Derived.Test.YtmjhbococmnppaaAw12
import Derived.Test.YtmjhbococmnppaaProg
import Derived.KernelRfl
import Derived.Laws.StructEq
import Derived.ChangeKeysEq
namespace Go.Aw.Tab
open Go.Proofs Go.RowKit

set_option linter.unusedSimpArgs false
set_option maxHeartbeats 1000000
@[simp] theorem shp1 : shp Try.prog 1 = some (false, 1) := by kernel_rfl
@[simp] theorem zero1 : zeroA Try.prog 1 = some [.nilFunc] := by kernel_rfl
@[simp] theorem zeroV1 : zeroV Try.prog 1 = some (.nilFunc) := by kernel_rfl
@[simp] theorem tk1 : tk Try.prog 1 = .func := by kernel_rfl
@[simp] theorem shp2 : shp Try.prog 2 = some (false, 1) := by kernel_rfl
@[simp] theorem zero2 : zeroA Try.prog 2 = some [.int .i64 0] := by kernel_rfl
@[simp] theorem zeroV2 : zeroV Try.prog 2 = some (.int .i64 0) := by kernel_rfl
@[simp] theorem tk2 : tk Try.prog 2 = .int := by kernel_rfl
@[simp] theorem shp3 : shp Try.prog 3 = some (false, 1) := by kernel_rfl
@[simp] theorem zero3 : zeroA Try.prog 3 = some [.int .i64 0] := by kernel_rfl
@[simp] theorem zeroV3 : zeroV Try.prog 3 = some (.int .i64 0) := by kernel_rfl
@[simp] theorem tk3 : tk Try.prog 3 = .int := by kernel_rfl
@[simp] theorem shp4 : shp Try.prog 4 = some (false, 1) := by kernel_rfl
@[simp] theorem zero4 : zeroA Try.prog 4 = some [.bool false] := by kernel_rfl
@[simp] theorem zeroV4 : zeroV Try.prog 4 = some (.bool false) := by kernel_rfl
@[simp] theorem tk4 : tk Try.prog 4 = .bool := by kernel_rfl
@[simp] theorem shp5 : shp Try.prog 5 = some (false, 1) := by kernel_rfl
@[simp] theorem zero5 : zeroA Try.prog 5 = some [.int .u8 0] := by kernel_rfl
@[simp] theorem zeroV5 : zeroV Try.prog 5 = some (.int .u8 0) := by kernel_rfl
@[simp] theorem tk5 : tk Try.prog 5 = .int := by kernel_rfl
@[simp] theorem shp6 : shp Try.prog 6 = some (false, 1) := by kernel_rfl
@[simp] theorem zero6 : zeroA Try.prog 6 = some [.int .u8 0] := by kernel_rfl
@[simp] theorem zeroV6 : zeroV Try.prog 6 = some (.int .u8 0) := by kernel_rfl
@[simp] theorem tk6 : tk Try.prog 6 = .int := by kernel_rfl
@[simp] theorem shp7 : shp Try.prog 7 = some (true, 4) := by kernel_rfl
@[simp] theorem zero7 : zeroA Try.prog 7 = some [.int .i64 0, .int .i64 0, .bool false, .int .u8 0] := by kernel_rfl
@[simp] theorem zeroV7 : zeroV Try.prog 7 = some (.agg #[.int .i64 0, .int .i64 0, .bool false, .int .u8 0]) := by kernel_rfl
@[simp] theorem tk7 : tk Try.prog 7 = .other := by kernel_rfl
@[simp] theorem fld7_0 : fld Try.prog 7 0 = some 0 := by kernel_rfl
@[simp] theorem fieldA7_0 : fieldA Try.prog 7 0 = some (2, 0) := by kernel_rfl
@[simp] theorem fld7_1 : fld Try.prog 7 1 = some 1 := by kernel_rfl
@[simp] theorem fieldA7_1 : fieldA Try.prog 7 1 = some (3, 1) := by kernel_rfl
@[simp] theorem fld7_2 : fld Try.prog 7 2 = some 2 := by kernel_rfl
@[simp] theorem fieldA7_2 : fieldA Try.prog 7 2 = some (4, 2) := by kernel_rfl
@[simp] theorem fld7_3 : fld Try.prog 7 3 = some 3 := by kernel_rfl
@[simp] theorem fieldA7_3 : fieldA Try.prog 7 3 = some (6, 3) := by kernel_rfl
@[simp] theorem pl7 : plA Try.prog 7 = some [(0, 1), (1, 1), (2, 1), (3, 1)] := by kernel_rfl
@[simp] theorem shp8 : shp Try.prog 8 = some (true, 4) := by kernel_rfl
@[simp] theorem zero8 : zeroA Try.prog 8 = some [.int .i64 0, .int .i64 0, .bool false, .int .u8 0] := by kernel_rfl
@[simp] theorem zeroV8 : zeroV Try.prog 8 = some (.agg #[.int .i64 0, .int .i64 0, .bool false, .int .u8 0]) := by kernel_rfl
@[simp] theorem tk8 : tk Try.prog 8 = .other := by kernel_rfl
@[simp] theorem fld8_0 : fld Try.prog 8 0 = some 0 := by kernel_rfl
@[simp] theorem fieldA8_0 : fieldA Try.prog 8 0 = some (2, 0) := by kernel_rfl
@[simp] theorem fld8_1 : fld Try.prog 8 1 = some 1 := by kernel_rfl
@[simp] theorem fieldA8_1 : fieldA Try.prog 8 1 = some (3, 1) := by kernel_rfl
@[simp] theorem fld8_2 : fld Try.prog 8 2 = some 2 := by kernel_rfl
@[simp] theorem fieldA8_2 : fieldA Try.prog 8 2 = some (4, 2) := by kernel_rfl
@[simp] theorem fld8_3 : fld Try.prog 8 3 = some 3 := by kernel_rfl
@[simp] theorem fieldA8_3 : fieldA Try.prog 8 3 = some (6, 3) := by kernel_rfl
@[simp] theorem pl8 : plA Try.prog 8 = some [(0, 1), (1, 1), (2, 1), (3, 1)] := by kernel_rfl
@[simp] theorem shp9 : shp Try.prog 9 = some (false, 1) := by kernel_rfl
@[simp] theorem zero9 : zeroA Try.prog 9 = some [.string ⟨#[]⟩] := by kernel_rfl
@[simp] theorem zeroV9 : zeroV Try.prog 9 = some (.string ⟨#[]⟩) := by kernel_rfl
@[simp] theorem tk9 : tk Try.prog 9 = .string := by kernel_rfl
@[simp] theorem shp10 : shp Try.prog 10 = some (false, 1) := by kernel_rfl
@[simp] theorem zero10 : zeroA Try.prog 10 = some [.string ⟨#[]⟩] := by kernel_rfl
@[simp] theorem zeroV10 : zeroV Try.prog 10 = some (.string ⟨#[]⟩) := by kernel_rfl
@[simp] theorem tk10 : tk Try.prog 10 = .string := by kernel_rfl
@[simp] theorem shp11 : shp Try.prog 11 = some (false, 1) := by kernel_rfl
@[simp] theorem zero11 : zeroA Try.prog 11 = some [.string ⟨#[]⟩] := by kernel_rfl
@[simp] theorem zeroV11 : zeroV Try.prog 11 = some (.string ⟨#[]⟩) := by kernel_rfl
@[simp] theorem tk11 : tk Try.prog 11 = .string := by kernel_rfl
@[simp] theorem shp12 : shp Try.prog 12 = some (false, 1) := by kernel_rfl
@[simp] theorem zero12 : zeroA Try.prog 12 = some [.int .u64 0] := by kernel_rfl
@[simp] theorem zeroV12 : zeroV Try.prog 12 = some (.int .u64 0) := by kernel_rfl
@[simp] theorem tk12 : tk Try.prog 12 = .int := by kernel_rfl
@[simp] theorem shp13 : shp Try.prog 13 = some (true, 2) := by kernel_rfl
@[simp] theorem zero13 : zeroA Try.prog 13 = some [.string ⟨#[]⟩, .int .u64 0] := by kernel_rfl
@[simp] theorem zeroV13 : zeroV Try.prog 13 = some (.agg #[.string ⟨#[]⟩, .int .u64 0]) := by kernel_rfl
@[simp] theorem tk13 : tk Try.prog 13 = .other := by kernel_rfl
@[simp] theorem fld13_0 : fld Try.prog 13 0 = some 0 := by kernel_rfl
@[simp] theorem fieldA13_0 : fieldA Try.prog 13 0 = some (9, 0) := by kernel_rfl
@[simp] theorem fld13_1 : fld Try.prog 13 1 = some 1 := by kernel_rfl
@[simp] theorem fieldA13_1 : fieldA Try.prog 13 1 = some (12, 1) := by kernel_rfl
@[simp] theorem pl13 : plA Try.prog 13 = some [(0, 1), (1, 1)] := by kernel_rfl
@[simp] theorem shp14 : shp Try.prog 14 = some (true, 2) := by kernel_rfl
@[simp] theorem zero14 : zeroA Try.prog 14 = some [.string ⟨#[]⟩, .int .u64 0] := by kernel_rfl
@[simp] theorem zeroV14 : zeroV Try.prog 14 = some (.agg #[.string ⟨#[]⟩, .int .u64 0]) := by kernel_rfl
@[simp] theorem tk14 : tk Try.prog 14 = .other := by kernel_rfl
@[simp] theorem fld14_0 : fld Try.prog 14 0 = some 0 := by kernel_rfl
@[simp] theorem fieldA14_0 : fieldA Try.prog 14 0 = some (9, 0) := by kernel_rfl
@[simp] theorem fld14_1 : fld Try.prog 14 1 = some 1 := by kernel_rfl
@[simp] theorem fieldA14_1 : fieldA Try.prog 14 1 = some (12, 1) := by kernel_rfl
@[simp] theorem pl14 : plA Try.prog 14 = some [(0, 1), (1, 1)] := by kernel_rfl
@[simp] theorem shp15 : shp Try.prog 15 = some (false, 1) := by kernel_rfl
@[simp] theorem zero15 : zeroA Try.prog 15 = some [.pointer none] := by kernel_rfl
@[simp] theorem zeroV15 : zeroV Try.prog 15 = some (.pointer none) := by kernel_rfl
@[simp] theorem tk15 : tk Try.prog 15 = .pointer := by kernel_rfl
@[simp] theorem shp16 : shp Try.prog 16 = some (false, 1) := by kernel_rfl
@[simp] theorem zero16 : zeroA Try.prog 16 = some [.pointer none] := by kernel_rfl
@[simp] theorem zeroV16 : zeroV Try.prog 16 = some (.pointer none) := by kernel_rfl
@[simp] theorem tk16 : tk Try.prog 16 = .pointer := by kernel_rfl
@[simp] theorem shp17 : shp Try.prog 17 = some (false, 1) := by kernel_rfl
@[simp] theorem zero17 : zeroA Try.prog 17 = some [.pointer none] := by kernel_rfl
@[simp] theorem zeroV17 : zeroV Try.prog 17 = some (.pointer none) := by kernel_rfl
@[simp] theorem tk17 : tk Try.prog 17 = .pointer := by kernel_rfl
@[simp] theorem shp18 : shp Try.prog 18 = some (true, 1) := by kernel_rfl
@[simp] theorem zero18 : zeroA Try.prog 18 = some [.pointer none] := by kernel_rfl
@[simp] theorem zeroV18 : zeroV Try.prog 18 = some (.agg #[.pointer none]) := by kernel_rfl
@[simp] theorem tk18 : tk Try.prog 18 = .other := by kernel_rfl
@[simp] theorem fld18_0 : fld Try.prog 18 0 = some 0 := by kernel_rfl
@[simp] theorem fieldA18_0 : fieldA Try.prog 18 0 = some (17, 0) := by kernel_rfl
@[simp] theorem pl18 : plA Try.prog 18 = some [(0, 1)] := by kernel_rfl
@[simp] theorem shp19 : shp Try.prog 19 = some (true, 1) := by kernel_rfl
@[simp] theorem zero19 : zeroA Try.prog 19 = some [.pointer none] := by kernel_rfl
@[simp] theorem zeroV19 : zeroV Try.prog 19 = some (.agg #[.pointer none]) := by kernel_rfl
@[simp] theorem tk19 : tk Try.prog 19 = .other := by kernel_rfl
@[simp] theorem fld19_0 : fld Try.prog 19 0 = some 0 := by kernel_rfl
@[simp] theorem fieldA19_0 : fieldA Try.prog 19 0 = some (17, 0) := by kernel_rfl
@[simp] theorem pl19 : plA Try.prog 19 = some [(0, 1)] := by kernel_rfl
@[simp] theorem shp20 : shp Try.prog 20 = some (false, 1) := by kernel_rfl
@[simp] theorem zero20 : zeroA Try.prog 20 = some [.nilIface] := by kernel_rfl
@[simp] theorem zeroV20 : zeroV Try.prog 20 = some (.nilIface) := by kernel_rfl
@[simp] theorem tk20 : tk Try.prog 20 = .other := by kernel_rfl
@[simp] theorem shp21 : shp Try.prog 21 = some (false, 1) := by kernel_rfl
@[simp] theorem zero21 : zeroA Try.prog 21 = some [.int .i32 0] := by kernel_rfl
@[simp] theorem zeroV21 : zeroV Try.prog 21 = some (.int .i32 0) := by kernel_rfl
@[simp] theorem tk21 : tk Try.prog 21 = .int := by kernel_rfl
@[simp] theorem shp22 : shp Try.prog 22 = some (false, 1) := by kernel_rfl
@[simp] theorem zero22 : zeroA Try.prog 22 = some [.slice none 0 0] := by kernel_rfl
@[simp] theorem zeroV22 : zeroV Try.prog 22 = some (.slice none 0 0) := by kernel_rfl
@[simp] theorem tk22 : tk Try.prog 22 = .slice := by kernel_rfl
@[simp] theorem elemS22 : elemS Try.prog 22 = some (47, 4, 80) := by kernel_rfl
@[simp] theorem shp23 : shp Try.prog 23 = some (false, 1) := by kernel_rfl
@[simp] theorem zero23 : zeroA Try.prog 23 = some [.slice none 0 0] := by kernel_rfl
@[simp] theorem zeroV23 : zeroV Try.prog 23 = some (.slice none 0 0) := by kernel_rfl
@[simp] theorem tk23 : tk Try.prog 23 = .slice := by kernel_rfl
@[simp] theorem elemS23 : elemS Try.prog 23 = some (56, 10, 104) := by kernel_rfl
@[simp] theorem shp24 : shp Try.prog 24 = some (true, 4) := by kernel_rfl
@[simp] theorem zero24 : zeroA Try.prog 24 = some [.string ⟨#[]⟩, .int .i64 0, .slice none 0 0, .slice none 0 0] := by kernel_rfl
@[simp] theorem zeroV24 : zeroV Try.prog 24 = some (.agg #[.string ⟨#[]⟩, .int .i64 0, .slice none 0 0, .slice none 0 0]) := by kernel_rfl
@[simp] theorem tk24 : tk Try.prog 24 = .other := by kernel_rfl
@[simp] theorem fld24_0 : fld Try.prog 24 0 = some 0 := by kernel_rfl
@[simp] theorem fieldA24_0 : fieldA Try.prog 24 0 = some (9, 0) := by kernel_rfl
@[simp] theorem fld24_1 : fld Try.prog 24 1 = some 1 := by kernel_rfl
@[simp] theorem fieldA24_1 : fieldA Try.prog 24 1 = some (3, 1) := by kernel_rfl
@[simp] theorem fld24_2 : fld Try.prog 24 2 = some 2 := by kernel_rfl
@[simp] theorem fieldA24_2 : fieldA Try.prog 24 2 = some (22, 2) := by kernel_rfl
@[simp] theorem fld24_3 : fld Try.prog 24 3 = some 3 := by kernel_rfl
@[simp] theorem fieldA24_3 : fieldA Try.prog 24 3 = some (23, 3) := by kernel_rfl
@[simp] theorem pl24 : plA Try.prog 24 = some [(0, 1), (1, 1), (2, 1), (3, 1)] := by kernel_rfl
@[simp] theorem shp25 : shp Try.prog 25 = some (true, 4) := by kernel_rfl
@[simp] theorem zero25 : zeroA Try.prog 25 = some [.string ⟨#[]⟩, .int .i64 0, .slice none 0 0, .slice none 0 0] := by kernel_rfl
@[simp] theorem zeroV25 : zeroV Try.prog 25 = some (.agg #[.string ⟨#[]⟩, .int .i64 0, .slice none 0 0, .slice none 0 0]) := by kernel_rfl
@[simp] theorem tk25 : tk Try.prog 25 = .other := by kernel_rfl
@[simp] theorem fld25_0 : fld Try.prog 25 0 = some 0 := by kernel_rfl
@[simp] theorem fieldA25_0 : fieldA Try.prog 25 0 = some (9, 0) := by kernel_rfl
@[simp] theorem fld25_1 : fld Try.prog 25 1 = some 1 := by kernel_rfl
@[simp] theorem fieldA25_1 : fieldA Try.prog 25 1 = some (3, 1) := by kernel_rfl
@[simp] theorem fld25_2 : fld Try.prog 25 2 = some 2 := by kernel_rfl
@[simp] theorem fieldA25_2 : fieldA Try.prog 25 2 = some (22, 2) := by kernel_rfl
@[simp] theorem fld25_3 : fld Try.prog 25 3 = some 3 := by kernel_rfl
@[simp] theorem fieldA25_3 : fieldA Try.prog 25 3 = some (23, 3) := by kernel_rfl
@[simp] theorem pl25 : plA Try.prog 25 = some [(0, 1), (1, 1), (2, 1), (3, 1)] := by kernel_rfl
@[simp] theorem shp26 : shp Try.prog 26 = some (false, 1) := by kernel_rfl
@[simp] theorem zero26 : zeroA Try.prog 26 = some [.nilFunc] := by kernel_rfl
@[simp] theorem zeroV26 : zeroV Try.prog 26 = some (.nilFunc) := by kernel_rfl
@[simp] theorem tk26 : tk Try.prog 26 = .func := by kernel_rfl
@[simp] theorem shp27 : shp Try.prog 27 = some (false, 1) := by kernel_rfl
@[simp] theorem zero27 : zeroA Try.prog 27 = some [.nilFunc] := by kernel_rfl
@[simp] theorem zeroV27 : zeroV Try.prog 27 = some (.nilFunc) := by kernel_rfl
@[simp] theorem tk27 : tk Try.prog 27 = .func := by kernel_rfl
@[simp] theorem shp28 : shp Try.prog 28 = some (false, 1) := by kernel_rfl
@[simp] theorem zero28 : zeroA Try.prog 28 = some [.int .i64 0] := by kernel_rfl
@[simp] theorem zeroV28 : zeroV Try.prog 28 = some (.int .i64 0) := by kernel_rfl
@[simp] theorem tk28 : tk Try.prog 28 = .int := by kernel_rfl
@[simp] theorem shp29 : shp Try.prog 29 = some (false, 1) := by kernel_rfl
@[simp] theorem zero29 : zeroA Try.prog 29 = some [.nilFunc] := by kernel_rfl
@[simp] theorem zeroV29 : zeroV Try.prog 29 = some (.nilFunc) := by kernel_rfl
@[simp] theorem tk29 : tk Try.prog 29 = .func := by kernel_rfl
@[simp] theorem shp30 : shp Try.prog 30 = some (false, 1) := by kernel_rfl
@[simp] theorem zero30 : zeroA Try.prog 30 = some [.slice none 0 0] := by kernel_rfl
@[simp] theorem zeroV30 : zeroV Try.prog 30 = some (.slice none 0 0) := by kernel_rfl
@[simp] theorem tk30 : tk Try.prog 30 = .slice := by kernel_rfl
@[simp] theorem elemS30 : elemS Try.prog 30 = some (35, 1, 24) := by kernel_rfl
@[simp] theorem shp32 : shp Try.prog 32 = some (false, 1) := by kernel_rfl
@[simp] theorem zero32 : zeroA Try.prog 32 = some [.nilFunc] := by kernel_rfl
@[simp] theorem zeroV32 : zeroV Try.prog 32 = some (.nilFunc) := by kernel_rfl
@[simp] theorem tk32 : tk Try.prog 32 = .func := by kernel_rfl
@[simp] theorem shp33 : shp Try.prog 33 = some (false, 1) := by kernel_rfl
@[simp] theorem zero33 : zeroA Try.prog 33 = some [.nilFunc] := by kernel_rfl
@[simp] theorem zeroV33 : zeroV Try.prog 33 = some (.nilFunc) := by kernel_rfl
@[simp] theorem tk33 : tk Try.prog 33 = .func := by kernel_rfl
@[simp] theorem shp34 : shp Try.prog 34 = some (false, 1) := by kernel_rfl
@[simp] theorem zero34 : zeroA Try.prog 34 = some [.nilFunc] := by kernel_rfl
@[simp] theorem zeroV34 : zeroV Try.prog 34 = some (.nilFunc) := by kernel_rfl
@[simp] theorem tk34 : tk Try.prog 34 = .func := by kernel_rfl
@[simp] theorem shp35 : shp Try.prog 35 = some (false, 1) := by kernel_rfl
@[simp] theorem zero35 : zeroA Try.prog 35 = some [.slice none 0 0] := by kernel_rfl
@[simp] theorem zeroV35 : zeroV Try.prog 35 = some (.slice none 0 0) := by kernel_rfl
@[simp] theorem tk35 : tk Try.prog 35 = .slice := by kernel_rfl
@[simp] theorem elemS35 : elemS Try.prog 35 = some (3, 1, 8) := by kernel_rfl
@[simp] theorem shp36 : shp Try.prog 36 = some (false, 1) := by kernel_rfl
@[simp] theorem zero36 : zeroA Try.prog 36 = some [.nilFunc] := by kernel_rfl
@[simp] theorem zeroV36 : zeroV Try.prog 36 = some (.nilFunc) := by kernel_rfl
@[simp] theorem tk36 : tk Try.prog 36 = .func := by kernel_rfl
@[simp] theorem shp37 : shp Try.prog 37 = some (false, 1) := by kernel_rfl
@[simp] theorem zero37 : zeroA Try.prog 37 = some [.nilFunc] := by kernel_rfl
@[simp] theorem zeroV37 : zeroV Try.prog 37 = some (.nilFunc) := by kernel_rfl
@[simp] theorem tk37 : tk Try.prog 37 = .func := by kernel_rfl
@[simp] theorem shp39 : shp Try.prog 39 = some (false, 1) := by kernel_rfl
@[simp] theorem zero39 : zeroA Try.prog 39 = some [.nilFunc] := by kernel_rfl
@[simp] theorem zeroV39 : zeroV Try.prog 39 = some (.nilFunc) := by kernel_rfl
@[simp] theorem tk39 : tk Try.prog 39 = .func := by kernel_rfl
@[simp] theorem shp40 : shp Try.prog 40 = some (false, 1) := by kernel_rfl
@[simp] theorem zero40 : zeroA Try.prog 40 = some [.nilFunc] := by kernel_rfl
@[simp] theorem zeroV40 : zeroV Try.prog 40 = some (.nilFunc) := by kernel_rfl
@[simp] theorem tk40 : tk Try.prog 40 = .func := by kernel_rfl
@[simp] theorem shp41 : shp Try.prog 41 = some (false, 1) := by kernel_rfl
@[simp] theorem zero41 : zeroA Try.prog 41 = some [.nilFunc] := by kernel_rfl
@[simp] theorem zeroV41 : zeroV Try.prog 41 = some (.nilFunc) := by kernel_rfl
@[simp] theorem tk41 : tk Try.prog 41 = .func := by kernel_rfl
@[simp] theorem shp42 : shp Try.prog 42 = some (false, 1) := by kernel_rfl
@[simp] theorem zero42 : zeroA Try.prog 42 = some [.nilFunc] := by kernel_rfl
@[simp] theorem zeroV42 : zeroV Try.prog 42 = some (.nilFunc) := by kernel_rfl
@[simp] theorem tk42 : tk Try.prog 42 = .func := by kernel_rfl
@[simp] theorem shp43 : shp Try.prog 43 = some (false, 1) := by kernel_rfl
@[simp] theorem zero43 : zeroA Try.prog 43 = some [.nilFunc] := by kernel_rfl
@[simp] theorem zeroV43 : zeroV Try.prog 43 = some (.nilFunc) := by kernel_rfl
@[simp] theorem tk43 : tk Try.prog 43 = .func := by kernel_rfl
@[simp] theorem shp44 : shp Try.prog 44 = some (false, 1) := by kernel_rfl
@[simp] theorem zero44 : zeroA Try.prog 44 = some [.slice none 0 0] := by kernel_rfl
@[simp] theorem zeroV44 : zeroV Try.prog 44 = some (.slice none 0 0) := by kernel_rfl
@[simp] theorem tk44 : tk Try.prog 44 = .slice := by kernel_rfl
@[simp] theorem elemS44 : elemS Try.prog 44 = some (120, 2, 24) := by kernel_rfl
@[simp] theorem shp45 : shp Try.prog 45 = some (false, 1) := by kernel_rfl
@[simp] theorem zero45 : zeroA Try.prog 45 = some [.slice none 0 0] := by kernel_rfl
@[simp] theorem zeroV45 : zeroV Try.prog 45 = some (.slice none 0 0) := by kernel_rfl
@[simp] theorem tk45 : tk Try.prog 45 = .slice := by kernel_rfl
@[simp] theorem elemS45 : elemS Try.prog 45 = some (54, 8, 80) := by kernel_rfl
@[simp] theorem shp46 : shp Try.prog 46 = some (true, 4) := by kernel_rfl
@[simp] theorem zero46 : zeroA Try.prog 46 = some [.string ⟨#[]⟩, .string ⟨#[]⟩, .slice none 0 0, .slice none 0 0] := by kernel_rfl
@[simp] theorem zeroV46 : zeroV Try.prog 46 = some (.agg #[.string ⟨#[]⟩, .string ⟨#[]⟩, .slice none 0 0, .slice none 0 0]) := by kernel_rfl
@[simp] theorem tk46 : tk Try.prog 46 = .other := by kernel_rfl
@[simp] theorem fld46_0 : fld Try.prog 46 0 = some 0 := by kernel_rfl
@[simp] theorem fieldA46_0 : fieldA Try.prog 46 0 = some (9, 0) := by kernel_rfl
@[simp] theorem fld46_1 : fld Try.prog 46 1 = some 1 := by kernel_rfl
@[simp] theorem fieldA46_1 : fieldA Try.prog 46 1 = some (9, 1) := by kernel_rfl
@[simp] theorem fld46_2 : fld Try.prog 46 2 = some 2 := by kernel_rfl
@[simp] theorem fieldA46_2 : fieldA Try.prog 46 2 = some (44, 2) := by kernel_rfl
@[simp] theorem fld46_3 : fld Try.prog 46 3 = some 3 := by kernel_rfl
@[simp] theorem fieldA46_3 : fieldA Try.prog 46 3 = some (45, 3) := by kernel_rfl
@[simp] theorem pl46 : plA Try.prog 46 = some [(0, 1), (1, 1), (2, 1), (3, 1)] := by kernel_rfl
@[simp] theorem shp47 : shp Try.prog 47 = some (true, 4) := by kernel_rfl
@[simp] theorem zero47 : zeroA Try.prog 47 = some [.string ⟨#[]⟩, .string ⟨#[]⟩, .slice none 0 0, .slice none 0 0] := by kernel_rfl
@[simp] theorem zeroV47 : zeroV Try.prog 47 = some (.agg #[.string ⟨#[]⟩, .string ⟨#[]⟩, .slice none 0 0, .slice none 0 0]) := by kernel_rfl
@[simp] theorem tk47 : tk Try.prog 47 = .other := by kernel_rfl
@[simp] theorem fld47_0 : fld Try.prog 47 0 = some 0 := by kernel_rfl
@[simp] theorem fieldA47_0 : fieldA Try.prog 47 0 = some (9, 0) := by kernel_rfl
@[simp] theorem fld47_1 : fld Try.prog 47 1 = some 1 := by kernel_rfl
@[simp] theorem fieldA47_1 : fieldA Try.prog 47 1 = some (9, 1) := by kernel_rfl
@[simp] theorem fld47_2 : fld Try.prog 47 2 = some 2 := by kernel_rfl
@[simp] theorem fieldA47_2 : fieldA Try.prog 47 2 = some (44, 2) := by kernel_rfl
@[simp] theorem fld47_3 : fld Try.prog 47 3 = some 3 := by kernel_rfl
@[simp] theorem fieldA47_3 : fieldA Try.prog 47 3 = some (45, 3) := by kernel_rfl
@[simp] theorem pl47 : plA Try.prog 47 = some [(0, 1), (1, 1), (2, 1), (3, 1)] := by kernel_rfl
@[simp] theorem shp48 : shp Try.prog 48 = some (false, 1) := by kernel_rfl
@[simp] theorem zero48 : zeroA Try.prog 48 = some [.nilFunc] := by kernel_rfl
@[simp] theorem zeroV48 : zeroV Try.prog 48 = some (.nilFunc) := by kernel_rfl
@[simp] theorem tk48 : tk Try.prog 48 = .func := by kernel_rfl
@[simp] theorem shp49 : shp Try.prog 49 = some (false, 1) := by kernel_rfl
@[simp] theorem zero49 : zeroA Try.prog 49 = some [.nilFunc] := by kernel_rfl
@[simp] theorem zeroV49 : zeroV Try.prog 49 = some (.nilFunc) := by kernel_rfl
@[simp] theorem tk49 : tk Try.prog 49 = .func := by kernel_rfl
@[simp] theorem shp50 : shp Try.prog 50 = some (false, 1) := by kernel_rfl
@[simp] theorem zero50 : zeroA Try.prog 50 = some [.nilFunc] := by kernel_rfl
@[simp] theorem zeroV50 : zeroV Try.prog 50 = some (.nilFunc) := by kernel_rfl
@[simp] theorem tk50 : tk Try.prog 50 = .func := by kernel_rfl
@[simp] theorem shp51 : shp Try.prog 51 = some (true, 2) := by kernel_rfl
@[simp] theorem zero51 : zeroA Try.prog 51 = some [.int .i64 0, .int .i64 0] := by kernel_rfl
@[simp] theorem zeroV51 : zeroV Try.prog 51 = some (.agg #[.int .i64 0, .int .i64 0]) := by kernel_rfl
@[simp] theorem tk51 : tk Try.prog 51 = .other := by kernel_rfl
@[simp] theorem fld51_0 : fld Try.prog 51 0 = some 0 := by kernel_rfl
@[simp] theorem fieldA51_0 : fieldA Try.prog 51 0 = some (3, 0) := by kernel_rfl
@[simp] theorem fld51_1 : fld Try.prog 51 1 = some 1 := by kernel_rfl
@[simp] theorem fieldA51_1 : fieldA Try.prog 51 1 = some (2, 1) := by kernel_rfl
@[simp] theorem pl51 : plA Try.prog 51 = some [(0, 1), (1, 1)] := by kernel_rfl
@[simp] theorem shp52 : shp Try.prog 52 = some (true, 2) := by kernel_rfl
@[simp] theorem zero52 : zeroA Try.prog 52 = some [.int .i64 0, .int .i64 0] := by kernel_rfl
@[simp] theorem zeroV52 : zeroV Try.prog 52 = some (.agg #[.int .i64 0, .int .i64 0]) := by kernel_rfl
@[simp] theorem tk52 : tk Try.prog 52 = .other := by kernel_rfl
@[simp] theorem fld52_0 : fld Try.prog 52 0 = some 0 := by kernel_rfl
@[simp] theorem fieldA52_0 : fieldA Try.prog 52 0 = some (3, 0) := by kernel_rfl
@[simp] theorem fld52_1 : fld Try.prog 52 1 = some 1 := by kernel_rfl
@[simp] theorem fieldA52_1 : fieldA Try.prog 52 1 = some (2, 1) := by kernel_rfl
@[simp] theorem pl52 : plA Try.prog 52 = some [(0, 1), (1, 1)] := by kernel_rfl
@[simp] theorem shp53 : shp Try.prog 53 = some (true, 8) := by kernel_rfl
@[simp] theorem zero53 : zeroA Try.prog 53 = some [.string ⟨#[]⟩, .int .i64 0, .string ⟨#[]⟩, .int .i64 0, .int .i64 0, .bool false, .int .i64 0, .int .i64 0] := by kernel_rfl
@[simp] theorem zeroV53 : zeroV Try.prog 53 = some (.agg #[.string ⟨#[]⟩, .int .i64 0, .string ⟨#[]⟩, .int .i64 0, .int .i64 0, .bool false, .int .i64 0, .int .i64 0]) := by kernel_rfl
@[simp] theorem tk53 : tk Try.prog 53 = .other := by kernel_rfl
@[simp] theorem fld53_0 : fld Try.prog 53 0 = some 0 := by kernel_rfl
@[simp] theorem fieldA53_0 : fieldA Try.prog 53 0 = some (9, 0) := by kernel_rfl
@[simp] theorem fld53_1 : fld Try.prog 53 1 = some 1 := by kernel_rfl
@[simp] theorem fieldA53_1 : fieldA Try.prog 53 1 = some (3, 1) := by kernel_rfl
@[simp] theorem fld53_2 : fld Try.prog 53 2 = some 2 := by kernel_rfl
@[simp] theorem fieldA53_2 : fieldA Try.prog 53 2 = some (9, 2) := by kernel_rfl
@[simp] theorem fld53_3 : fld Try.prog 53 3 = some 3 := by kernel_rfl
@[simp] theorem fieldA53_3 : fieldA Try.prog 53 3 = some (52, 3) := by kernel_rfl
@[simp] theorem fld53_4 : fld Try.prog 53 4 = some 5 := by kernel_rfl
@[simp] theorem fieldA53_4 : fieldA Try.prog 53 4 = some (4, 5) := by kernel_rfl
@[simp] theorem fld53_5 : fld Try.prog 53 5 = some 6 := by kernel_rfl
@[simp] theorem fieldA53_5 : fieldA Try.prog 53 5 = some (52, 6) := by kernel_rfl
@[simp] theorem pl53 : plA Try.prog 53 = some [(0, 1), (1, 1), (2, 1), (3, 2), (5, 1), (6, 2)] := by kernel_rfl
@[simp] theorem shp54 : shp Try.prog 54 = some (true, 8) := by kernel_rfl
@[simp] theorem zero54 : zeroA Try.prog 54 = some [.string ⟨#[]⟩, .int .i64 0, .string ⟨#[]⟩, .int .i64 0, .int .i64 0, .bool false, .int .i64 0, .int .i64 0] := by kernel_rfl
@[simp] theorem zeroV54 : zeroV Try.prog 54 = some (.agg #[.string ⟨#[]⟩, .int .i64 0, .string ⟨#[]⟩, .int .i64 0, .int .i64 0, .bool false, .int .i64 0, .int .i64 0]) := by kernel_rfl
@[simp] theorem tk54 : tk Try.prog 54 = .other := by kernel_rfl
@[simp] theorem fld54_0 : fld Try.prog 54 0 = some 0 := by kernel_rfl
@[simp] theorem fieldA54_0 : fieldA Try.prog 54 0 = some (9, 0) := by kernel_rfl
@[simp] theorem fld54_1 : fld Try.prog 54 1 = some 1 := by kernel_rfl
@[simp] theorem fieldA54_1 : fieldA Try.prog 54 1 = some (3, 1) := by kernel_rfl
@[simp] theorem fld54_2 : fld Try.prog 54 2 = some 2 := by kernel_rfl
@[simp] theorem fieldA54_2 : fieldA Try.prog 54 2 = some (9, 2) := by kernel_rfl
@[simp] theorem fld54_3 : fld Try.prog 54 3 = some 3 := by kernel_rfl
@[simp] theorem fieldA54_3 : fieldA Try.prog 54 3 = some (52, 3) := by kernel_rfl
@[simp] theorem fld54_4 : fld Try.prog 54 4 = some 5 := by kernel_rfl
@[simp] theorem fieldA54_4 : fieldA Try.prog 54 4 = some (4, 5) := by kernel_rfl
@[simp] theorem fld54_5 : fld Try.prog 54 5 = some 6 := by kernel_rfl
@[simp] theorem fieldA54_5 : fieldA Try.prog 54 5 = some (52, 6) := by kernel_rfl
@[simp] theorem pl54 : plA Try.prog 54 = some [(0, 1), (1, 1), (2, 1), (3, 2), (5, 1), (6, 2)] := by kernel_rfl
@[simp] theorem shp55 : shp Try.prog 55 = some (true, 10) := by kernel_rfl
@[simp] theorem zero55 : zeroA Try.prog 55 = some [.string ⟨#[]⟩, .int .i64 0, .string ⟨#[]⟩, .int .i64 0, .string ⟨#[]⟩, .int .i64 0, .int .i64 0, .bool false, .int .i64 0, .int .i64 0] := by kernel_rfl
@[simp] theorem zeroV55 : zeroV Try.prog 55 = some (.agg #[.string ⟨#[]⟩, .int .i64 0, .string ⟨#[]⟩, .int .i64 0, .string ⟨#[]⟩, .int .i64 0, .int .i64 0, .bool false, .int .i64 0, .int .i64 0]) := by kernel_rfl
@[simp] theorem tk55 : tk Try.prog 55 = .other := by kernel_rfl
@[simp] theorem fld55_0 : fld Try.prog 55 0 = some 0 := by kernel_rfl
@[simp] theorem fieldA55_0 : fieldA Try.prog 55 0 = some (9, 0) := by kernel_rfl
@[simp] theorem fld55_1 : fld Try.prog 55 1 = some 1 := by kernel_rfl
@[simp] theorem fieldA55_1 : fieldA Try.prog 55 1 = some (3, 1) := by kernel_rfl
@[simp] theorem fld55_2 : fld Try.prog 55 2 = some 2 := by kernel_rfl
@[simp] theorem fieldA55_2 : fieldA Try.prog 55 2 = some (54, 2) := by kernel_rfl
@[simp] theorem pl55 : plA Try.prog 55 = some [(0, 1), (1, 1), (2, 8)] := by kernel_rfl
@[simp] theorem shp56 : shp Try.prog 56 = some (true, 10) := by kernel_rfl
@[simp] theorem zero56 : zeroA Try.prog 56 = some [.string ⟨#[]⟩, .int .i64 0, .string ⟨#[]⟩, .int .i64 0, .string ⟨#[]⟩, .int .i64 0, .int .i64 0, .bool false, .int .i64 0, .int .i64 0] := by kernel_rfl
@[simp] theorem zeroV56 : zeroV Try.prog 56 = some (.agg #[.string ⟨#[]⟩, .int .i64 0, .string ⟨#[]⟩, .int .i64 0, .string ⟨#[]⟩, .int .i64 0, .int .i64 0, .bool false, .int .i64 0, .int .i64 0]) := by kernel_rfl
@[simp] theorem tk56 : tk Try.prog 56 = .other := by kernel_rfl
@[simp] theorem fld56_0 : fld Try.prog 56 0 = some 0 := by kernel_rfl
@[simp] theorem fieldA56_0 : fieldA Try.prog 56 0 = some (9, 0) := by kernel_rfl
@[simp] theorem fld56_1 : fld Try.prog 56 1 = some 1 := by kernel_rfl
@[simp] theorem fieldA56_1 : fieldA Try.prog 56 1 = some (3, 1) := by kernel_rfl
@[simp] theorem fld56_2 : fld Try.prog 56 2 = some 2 := by kernel_rfl
@[simp] theorem fieldA56_2 : fieldA Try.prog 56 2 = some (54, 2) := by kernel_rfl
@[simp] theorem pl56 : plA Try.prog 56 = some [(0, 1), (1, 1), (2, 8)] := by kernel_rfl
@[simp] theorem shp57 : shp Try.prog 57 = some (false, 1) := by kernel_rfl
@[simp] theorem zero57 : zeroA Try.prog 57 = some [.pointer none] := by kernel_rfl
@[simp] theorem zeroV57 : zeroV Try.prog 57 = some (.pointer none) := by kernel_rfl
@[simp] theorem tk57 : tk Try.prog 57 = .pointer := by kernel_rfl
@[simp] theorem shp59 : shp Try.prog 59 = some (false, 1) := by kernel_rfl
@[simp] theorem zero59 : zeroA Try.prog 59 = some [.nilFunc] := by kernel_rfl
@[simp] theorem zeroV59 : zeroV Try.prog 59 = some (.nilFunc) := by kernel_rfl
@[simp] theorem tk59 : tk Try.prog 59 = .func := by kernel_rfl
@[simp] theorem shp60 : shp Try.prog 60 = some (false, 1) := by kernel_rfl
@[simp] theorem zero60 : zeroA Try.prog 60 = some [.map none] := by kernel_rfl
@[simp] theorem zeroV60 : zeroV Try.prog 60 = some (.map none) := by kernel_rfl
@[simp] theorem mapT60 : mapT Try.prog 60 = some (9, 3) := by kernel_rfl
@[simp] theorem tk60 : tk Try.prog 60 = .map := by kernel_rfl
@[simp] theorem shp61 : shp Try.prog 61 = some (true, 3) := by kernel_rfl
@[simp] theorem zero61 : zeroA Try.prog 61 = some [.map none, .slice none 0 0, .slice none 0 0] := by kernel_rfl
@[simp] theorem zeroV61 : zeroV Try.prog 61 = some (.agg #[.map none, .slice none 0 0, .slice none 0 0]) := by kernel_rfl
@[simp] theorem tk61 : tk Try.prog 61 = .other := by kernel_rfl
@[simp] theorem fld61_0 : fld Try.prog 61 0 = some 0 := by kernel_rfl
@[simp] theorem fieldA61_0 : fieldA Try.prog 61 0 = some (60, 0) := by kernel_rfl
@[simp] theorem fld61_1 : fld Try.prog 61 1 = some 1 := by kernel_rfl
@[simp] theorem fieldA61_1 : fieldA Try.prog 61 1 = some (30, 1) := by kernel_rfl
@[simp] theorem fld61_2 : fld Try.prog 61 2 = some 2 := by kernel_rfl
@[simp] theorem fieldA61_2 : fieldA Try.prog 61 2 = some (30, 2) := by kernel_rfl
@[simp] theorem pl61 : plA Try.prog 61 = some [(0, 1), (1, 1), (2, 1)] := by kernel_rfl
@[simp] theorem shp62 : shp Try.prog 62 = some (true, 3) := by kernel_rfl
@[simp] theorem zero62 : zeroA Try.prog 62 = some [.map none, .slice none 0 0, .slice none 0 0] := by kernel_rfl
@[simp] theorem zeroV62 : zeroV Try.prog 62 = some (.agg #[.map none, .slice none 0 0, .slice none 0 0]) := by kernel_rfl
@[simp] theorem tk62 : tk Try.prog 62 = .other := by kernel_rfl
@[simp] theorem fld62_0 : fld Try.prog 62 0 = some 0 := by kernel_rfl
@[simp] theorem fieldA62_0 : fieldA Try.prog 62 0 = some (60, 0) := by kernel_rfl
@[simp] theorem fld62_1 : fld Try.prog 62 1 = some 1 := by kernel_rfl
@[simp] theorem fieldA62_1 : fieldA Try.prog 62 1 = some (30, 1) := by kernel_rfl
@[simp] theorem fld62_2 : fld Try.prog 62 2 = some 2 := by kernel_rfl
@[simp] theorem fieldA62_2 : fieldA Try.prog 62 2 = some (30, 2) := by kernel_rfl
@[simp] theorem pl62 : plA Try.prog 62 = some [(0, 1), (1, 1), (2, 1)] := by kernel_rfl
@[simp] theorem shp63 : shp Try.prog 63 = some (false, 1) := by kernel_rfl
@[simp] theorem zero63 : zeroA Try.prog 63 = some [.nilFunc] := by kernel_rfl
@[simp] theorem zeroV63 : zeroV Try.prog 63 = some (.nilFunc) := by kernel_rfl
@[simp] theorem tk63 : tk Try.prog 63 = .func := by kernel_rfl
@[simp] theorem shp64 : shp Try.prog 64 = some (false, 1) := by kernel_rfl
@[simp] theorem zero64 : zeroA Try.prog 64 = some [.slice none 0 0] := by kernel_rfl
@[simp] theorem zeroV64 : zeroV Try.prog 64 = some (.slice none 0 0) := by kernel_rfl
@[simp] theorem tk64 : tk Try.prog 64 = .slice := by kernel_rfl
@[simp] theorem elemS64 : elemS Try.prog 64 = some (4, 1, 1) := by kernel_rfl
@[simp] theorem shp65 : shp Try.prog 65 = some (false, 1) := by kernel_rfl
@[simp] theorem zero65 : zeroA Try.prog 65 = some [.nilFunc] := by kernel_rfl
@[simp] theorem zeroV65 : zeroV Try.prog 65 = some (.nilFunc) := by kernel_rfl
@[simp] theorem tk65 : tk Try.prog 65 = .func := by kernel_rfl
@[simp] theorem shp66 : shp Try.prog 66 = some (false, 1) := by kernel_rfl
@[simp] theorem zero66 : zeroA Try.prog 66 = some [.nilFunc] := by kernel_rfl
@[simp] theorem zeroV66 : zeroV Try.prog 66 = some (.nilFunc) := by kernel_rfl
@[simp] theorem tk66 : tk Try.prog 66 = .func := by kernel_rfl
@[simp] theorem shp67 : shp Try.prog 67 = some (false, 1) := by kernel_rfl
@[simp] theorem zero67 : zeroA Try.prog 67 = some [.nilFunc] := by kernel_rfl
@[simp] theorem zeroV67 : zeroV Try.prog 67 = some (.nilFunc) := by kernel_rfl
@[simp] theorem tk67 : tk Try.prog 67 = .func := by kernel_rfl
@[simp] theorem shp68 : shp Try.prog 68 = some (false, 1) := by kernel_rfl
@[simp] theorem zero68 : zeroA Try.prog 68 = some [.nilFunc] := by kernel_rfl
@[simp] theorem zeroV68 : zeroV Try.prog 68 = some (.nilFunc) := by kernel_rfl
@[simp] theorem tk68 : tk Try.prog 68 = .func := by kernel_rfl
@[simp] theorem shp69 : shp Try.prog 69 = some (false, 1) := by kernel_rfl
@[simp] theorem zero69 : zeroA Try.prog 69 = some [.nilFunc] := by kernel_rfl
@[simp] theorem zeroV69 : zeroV Try.prog 69 = some (.nilFunc) := by kernel_rfl
@[simp] theorem tk69 : tk Try.prog 69 = .func := by kernel_rfl
@[simp] theorem shp70 : shp Try.prog 70 = some (false, 1) := by kernel_rfl
@[simp] theorem zero70 : zeroA Try.prog 70 = some [.nilFunc] := by kernel_rfl
@[simp] theorem zeroV70 : zeroV Try.prog 70 = some (.nilFunc) := by kernel_rfl
@[simp] theorem tk70 : tk Try.prog 70 = .func := by kernel_rfl
@[simp] theorem shp71 : shp Try.prog 71 = some (false, 1) := by kernel_rfl
@[simp] theorem zero71 : zeroA Try.prog 71 = some [.nilFunc] := by kernel_rfl
@[simp] theorem zeroV71 : zeroV Try.prog 71 = some (.nilFunc) := by kernel_rfl
@[simp] theorem tk71 : tk Try.prog 71 = .func := by kernel_rfl
@[simp] theorem shp72 : shp Try.prog 72 = some (false, 1) := by kernel_rfl
@[simp] theorem zero72 : zeroA Try.prog 72 = some [.nilFunc] := by kernel_rfl
@[simp] theorem zeroV72 : zeroV Try.prog 72 = some (.nilFunc) := by kernel_rfl
@[simp] theorem tk72 : tk Try.prog 72 = .func := by kernel_rfl
@[simp] theorem shp73 : shp Try.prog 73 = some (false, 1) := by kernel_rfl
@[simp] theorem zero73 : zeroA Try.prog 73 = some [.nilFunc] := by kernel_rfl
@[simp] theorem zeroV73 : zeroV Try.prog 73 = some (.nilFunc) := by kernel_rfl
@[simp] theorem tk73 : tk Try.prog 73 = .func := by kernel_rfl
@[simp] theorem shp74 : shp Try.prog 74 = some (false, 1) := by kernel_rfl
@[simp] theorem zero74 : zeroA Try.prog 74 = some [.nilFunc] := by kernel_rfl
@[simp] theorem zeroV74 : zeroV Try.prog 74 = some (.nilFunc) := by kernel_rfl
@[simp] theorem tk74 : tk Try.prog 74 = .func := by kernel_rfl
@[simp] theorem shp75 : shp Try.prog 75 = some (false, 1) := by kernel_rfl
@[simp] theorem zero75 : zeroA Try.prog 75 = some [.nilFunc] := by kernel_rfl
@[simp] theorem zeroV75 : zeroV Try.prog 75 = some (.nilFunc) := by kernel_rfl
@[simp] theorem tk75 : tk Try.prog 75 = .func := by kernel_rfl
@[simp] theorem shp77 : shp Try.prog 77 = some (false, 1) := by kernel_rfl
@[simp] theorem zero77 : zeroA Try.prog 77 = some [.nilFunc] := by kernel_rfl
@[simp] theorem zeroV77 : zeroV Try.prog 77 = some (.nilFunc) := by kernel_rfl
@[simp] theorem tk77 : tk Try.prog 77 = .func := by kernel_rfl
@[simp] theorem shp78 : shp Try.prog 78 = some (false, 1) := by kernel_rfl
@[simp] theorem zero78 : zeroA Try.prog 78 = some [.nilFunc] := by kernel_rfl
@[simp] theorem zeroV78 : zeroV Try.prog 78 = some (.nilFunc) := by kernel_rfl
@[simp] theorem tk78 : tk Try.prog 78 = .func := by kernel_rfl
@[simp] theorem shp79 : shp Try.prog 79 = some (false, 1) := by kernel_rfl
@[simp] theorem zero79 : zeroA Try.prog 79 = some [.nilFunc] := by kernel_rfl
@[simp] theorem zeroV79 : zeroV Try.prog 79 = some (.nilFunc) := by kernel_rfl
@[simp] theorem tk79 : tk Try.prog 79 = .func := by kernel_rfl
@[simp] theorem shp80 : shp Try.prog 80 = some (false, 1) := by kernel_rfl
@[simp] theorem zero80 : zeroA Try.prog 80 = some [.nilFunc] := by kernel_rfl
@[simp] theorem zeroV80 : zeroV Try.prog 80 = some (.nilFunc) := by kernel_rfl
@[simp] theorem tk80 : tk Try.prog 80 = .func := by kernel_rfl
@[simp] theorem shp81 : shp Try.prog 81 = some (false, 1) := by kernel_rfl
@[simp] theorem zero81 : zeroA Try.prog 81 = some [.nilFunc] := by kernel_rfl
@[simp] theorem zeroV81 : zeroV Try.prog 81 = some (.nilFunc) := by kernel_rfl
@[simp] theorem tk81 : tk Try.prog 81 = .func := by kernel_rfl
@[simp] theorem shp82 : shp Try.prog 82 = some (false, 1) := by kernel_rfl
@[simp] theorem zero82 : zeroA Try.prog 82 = some [.int .u64 0] := by kernel_rfl
@[simp] theorem zeroV82 : zeroV Try.prog 82 = some (.int .u64 0) := by kernel_rfl
@[simp] theorem tk82 : tk Try.prog 82 = .int := by kernel_rfl
@[simp] theorem shp83 : shp Try.prog 83 = some (false, 1) := by kernel_rfl
@[simp] theorem zero83 : zeroA Try.prog 83 = some [.nilFunc] := by kernel_rfl
@[simp] theorem zeroV83 : zeroV Try.prog 83 = some (.nilFunc) := by kernel_rfl
@[simp] theorem tk83 : tk Try.prog 83 = .func := by kernel_rfl
@[simp] theorem shp84 : shp Try.prog 84 = some (false, 1) := by kernel_rfl
@[simp] theorem zero84 : zeroA Try.prog 84 = some [.int .i64 0] := by kernel_rfl
@[simp] theorem zeroV84 : zeroV Try.prog 84 = some (.int .i64 0) := by kernel_rfl
@[simp] theorem tk84 : tk Try.prog 84 = .int := by kernel_rfl
@[simp] theorem shp86 : shp Try.prog 86 = some (false, 1) := by kernel_rfl
@[simp] theorem zero86 : zeroA Try.prog 86 = some [.nilFunc] := by kernel_rfl
@[simp] theorem zeroV86 : zeroV Try.prog 86 = some (.nilFunc) := by kernel_rfl
@[simp] theorem tk86 : tk Try.prog 86 = .func := by kernel_rfl
@[simp] theorem shp87 : shp Try.prog 87 = some (false, 1) := by kernel_rfl
@[simp] theorem zero87 : zeroA Try.prog 87 = some [.nilFunc] := by kernel_rfl
@[simp] theorem zeroV87 : zeroV Try.prog 87 = some (.nilFunc) := by kernel_rfl
@[simp] theorem tk87 : tk Try.prog 87 = .func := by kernel_rfl
@[simp] theorem shp88 : shp Try.prog 88 = some (false, 1) := by kernel_rfl
@[simp] theorem zero88 : zeroA Try.prog 88 = some [.nilFunc] := by kernel_rfl
@[simp] theorem zeroV88 : zeroV Try.prog 88 = some (.nilFunc) := by kernel_rfl
@[simp] theorem tk88 : tk Try.prog 88 = .func := by kernel_rfl
@[simp] theorem shp89 : shp Try.prog 89 = some (false, 1) := by kernel_rfl
@[simp] theorem zero89 : zeroA Try.prog 89 = some [.nilFunc] := by kernel_rfl
@[simp] theorem zeroV89 : zeroV Try.prog 89 = some (.nilFunc) := by kernel_rfl
@[simp] theorem tk89 : tk Try.prog 89 = .func := by kernel_rfl
@[simp] theorem shp90 : shp Try.prog 90 = some (false, 1) := by kernel_rfl
@[simp] theorem zero90 : zeroA Try.prog 90 = some [.nilFunc] := by kernel_rfl
@[simp] theorem zeroV90 : zeroV Try.prog 90 = some (.nilFunc) := by kernel_rfl
@[simp] theorem tk90 : tk Try.prog 90 = .func := by kernel_rfl
@[simp] theorem shp91 : shp Try.prog 91 = some (false, 1) := by kernel_rfl
@[simp] theorem zero91 : zeroA Try.prog 91 = some [.nilFunc] := by kernel_rfl
@[simp] theorem zeroV91 : zeroV Try.prog 91 = some (.nilFunc) := by kernel_rfl
@[simp] theorem tk91 : tk Try.prog 91 = .func := by kernel_rfl
@[simp] theorem shp92 : shp Try.prog 92 = some (false, 1) := by kernel_rfl
@[simp] theorem zero92 : zeroA Try.prog 92 = some [.int .u32 0] := by kernel_rfl
@[simp] theorem zeroV92 : zeroV Try.prog 92 = some (.int .u32 0) := by kernel_rfl
@[simp] theorem tk92 : tk Try.prog 92 = .int := by kernel_rfl
@[simp] theorem shp93 : shp Try.prog 93 = some (false, 1) := by kernel_rfl
@[simp] theorem zero93 : zeroA Try.prog 93 = some [.nilFunc] := by kernel_rfl
@[simp] theorem zeroV93 : zeroV Try.prog 93 = some (.nilFunc) := by kernel_rfl
@[simp] theorem tk93 : tk Try.prog 93 = .func := by kernel_rfl
@[simp] theorem shp94 : shp Try.prog 94 = some (false, 1) := by kernel_rfl
@[simp] theorem zero94 : zeroA Try.prog 94 = some [.int .u64 0] := by kernel_rfl
@[simp] theorem zeroV94 : zeroV Try.prog 94 = some (.int .u64 0) := by kernel_rfl
@[simp] theorem tk94 : tk Try.prog 94 = .int := by kernel_rfl
@[simp] theorem shp95 : shp Try.prog 95 = some (false, 1) := by kernel_rfl
@[simp] theorem zero95 : zeroA Try.prog 95 = some [.int .u64 0] := by kernel_rfl
@[simp] theorem zeroV95 : zeroV Try.prog 95 = some (.int .u64 0) := by kernel_rfl
@[simp] theorem tk95 : tk Try.prog 95 = .int := by kernel_rfl
@[simp] theorem shp96 : shp Try.prog 96 = some (false, 1) := by kernel_rfl
@[simp] theorem zero96 : zeroA Try.prog 96 = some [.nilFunc] := by kernel_rfl
@[simp] theorem zeroV96 : zeroV Try.prog 96 = some (.nilFunc) := by kernel_rfl
@[simp] theorem tk96 : tk Try.prog 96 = .func := by kernel_rfl
@[simp] theorem shp97 : shp Try.prog 97 = some (false, 1) := by kernel_rfl
@[simp] theorem zero97 : zeroA Try.prog 97 = some [.nilFunc] := by kernel_rfl
@[simp] theorem zeroV97 : zeroV Try.prog 97 = some (.nilFunc) := by kernel_rfl
@[simp] theorem tk97 : tk Try.prog 97 = .func := by kernel_rfl
@[simp] theorem shp98 : shp Try.prog 98 = some (false, 1) := by kernel_rfl
@[simp] theorem zero98 : zeroA Try.prog 98 = some [.nilFunc] := by kernel_rfl
@[simp] theorem zeroV98 : zeroV Try.prog 98 = some (.nilFunc) := by kernel_rfl
@[simp] theorem tk98 : tk Try.prog 98 = .func := by kernel_rfl
@[simp] theorem shp99 : shp Try.prog 99 = some (false, 1) := by kernel_rfl
@[simp] theorem zero99 : zeroA Try.prog 99 = some [.pointer none] := by kernel_rfl
@[simp] theorem zeroV99 : zeroV Try.prog 99 = some (.pointer none) := by kernel_rfl
@[simp] theorem tk99 : tk Try.prog 99 = .pointer := by kernel_rfl
@[simp] theorem shp100 : shp Try.prog 100 = some (false, 1) := by kernel_rfl
@[simp] theorem zero100 : zeroA Try.prog 100 = some [.nilFunc] := by kernel_rfl
@[simp] theorem zeroV100 : zeroV Try.prog 100 = some (.nilFunc) := by kernel_rfl
@[simp] theorem tk100 : tk Try.prog 100 = .func := by kernel_rfl
@[simp] theorem shp101 : shp Try.prog 101 = some (false, 1) := by kernel_rfl
@[simp] theorem zero101 : zeroA Try.prog 101 = some [.pointer none] := by kernel_rfl
@[simp] theorem zeroV101 : zeroV Try.prog 101 = some (.pointer none) := by kernel_rfl
@[simp] theorem tk101 : tk Try.prog 101 = .pointer := by kernel_rfl
@[simp] theorem shp103 : shp Try.prog 103 = some (false, 1) := by kernel_rfl
@[simp] theorem zero103 : zeroA Try.prog 103 = some [.nilFunc] := by kernel_rfl
@[simp] theorem zeroV103 : zeroV Try.prog 103 = some (.nilFunc) := by kernel_rfl
@[simp] theorem tk103 : tk Try.prog 103 = .func := by kernel_rfl
@[simp] theorem shp104 : shp Try.prog 104 = some (false, 1) := by kernel_rfl
@[simp] theorem zero104 : zeroA Try.prog 104 = some [.nilFunc] := by kernel_rfl
@[simp] theorem zeroV104 : zeroV Try.prog 104 = some (.nilFunc) := by kernel_rfl
@[simp] theorem tk104 : tk Try.prog 104 = .func := by kernel_rfl
@[simp] theorem shp105 : shp Try.prog 105 = some (true, 4) := by kernel_rfl
@[simp] theorem zero105 : zeroA Try.prog 105 = some [.pointer none, .pointer none, .pointer none, .string ⟨#[]⟩] := by kernel_rfl
@[simp] theorem zeroV105 : zeroV Try.prog 105 = some (.agg #[.pointer none, .pointer none, .pointer none, .string ⟨#[]⟩]) := by kernel_rfl
@[simp] theorem tk105 : tk Try.prog 105 = .other := by kernel_rfl
@[simp] theorem fld105_0 : fld Try.prog 105 0 = some 0 := by kernel_rfl
@[simp] theorem fieldA105_0 : fieldA Try.prog 105 0 = some (17, 0) := by kernel_rfl
@[simp] theorem fld105_1 : fld Try.prog 105 1 = some 1 := by kernel_rfl
@[simp] theorem fieldA105_1 : fieldA Try.prog 105 1 = some (17, 1) := by kernel_rfl
@[simp] theorem fld105_2 : fld Try.prog 105 2 = some 2 := by kernel_rfl
@[simp] theorem fieldA105_2 : fieldA Try.prog 105 2 = some (17, 2) := by kernel_rfl
@[simp] theorem fld105_3 : fld Try.prog 105 3 = some 3 := by kernel_rfl
@[simp] theorem fieldA105_3 : fieldA Try.prog 105 3 = some (9, 3) := by kernel_rfl
@[simp] theorem pl105 : plA Try.prog 105 = some [(0, 1), (1, 1), (2, 1), (3, 1)] := by kernel_rfl
@[simp] theorem shp106 : shp Try.prog 106 = some (true, 4) := by kernel_rfl
@[simp] theorem zero106 : zeroA Try.prog 106 = some [.pointer none, .pointer none, .pointer none, .string ⟨#[]⟩] := by kernel_rfl
@[simp] theorem zeroV106 : zeroV Try.prog 106 = some (.agg #[.pointer none, .pointer none, .pointer none, .string ⟨#[]⟩]) := by kernel_rfl
@[simp] theorem tk106 : tk Try.prog 106 = .other := by kernel_rfl
@[simp] theorem fld106_0 : fld Try.prog 106 0 = some 0 := by kernel_rfl
@[simp] theorem fieldA106_0 : fieldA Try.prog 106 0 = some (17, 0) := by kernel_rfl
@[simp] theorem fld106_1 : fld Try.prog 106 1 = some 1 := by kernel_rfl
@[simp] theorem fieldA106_1 : fieldA Try.prog 106 1 = some (17, 1) := by kernel_rfl
@[simp] theorem fld106_2 : fld Try.prog 106 2 = some 2 := by kernel_rfl
@[simp] theorem fieldA106_2 : fieldA Try.prog 106 2 = some (17, 2) := by kernel_rfl
@[simp] theorem fld106_3 : fld Try.prog 106 3 = some 3 := by kernel_rfl
@[simp] theorem fieldA106_3 : fieldA Try.prog 106 3 = some (9, 3) := by kernel_rfl
@[simp] theorem pl106 : plA Try.prog 106 = some [(0, 1), (1, 1), (2, 1), (3, 1)] := by kernel_rfl
@[simp] theorem shp107 : shp Try.prog 107 = some (true, 0) := by kernel_rfl
@[simp] theorem zero107 : zeroA Try.prog 107 = some [] := by kernel_rfl
@[simp] theorem tk107 : tk Try.prog 107 = .array 0 := by kernel_rfl
@[simp] theorem arrT107 : arrT Try.prog 107 = some (16, 0, 1) := by kernel_rfl
@[simp] theorem elemR107 : elemR Try.prog 107 = some (0, 1) := by kernel_rfl
@[simp] theorem pl107 : plA Try.prog 107 = some [] := by kernel_rfl
@[simp] theorem shp108 : shp Try.prog 108 = some (true, 0) := by kernel_rfl
@[simp] theorem zero108 : zeroA Try.prog 108 = some [] := by kernel_rfl
@[simp] theorem tk108 : tk Try.prog 108 = .other := by kernel_rfl
@[simp] theorem fieldA108_0 : fieldA Try.prog 108 0 = some (107, 0) := by kernel_rfl
@[simp] theorem pl108 : plA Try.prog 108 = some [(0, 0)] := by kernel_rfl
@[simp] theorem shp109 : shp Try.prog 109 = some (true, 0) := by kernel_rfl
@[simp] theorem zero109 : zeroA Try.prog 109 = some [] := by kernel_rfl
@[simp] theorem tk109 : tk Try.prog 109 = .other := by kernel_rfl
@[simp] theorem fieldA109_0 : fieldA Try.prog 109 0 = some (107, 0) := by kernel_rfl
@[simp] theorem pl109 : plA Try.prog 109 = some [(0, 0)] := by kernel_rfl
@[simp] theorem shp110 : shp Try.prog 110 = some (false, 1) := by kernel_rfl
@[simp] theorem zero110 : zeroA Try.prog 110 = some [.nilFunc] := by kernel_rfl
@[simp] theorem zeroV110 : zeroV Try.prog 110 = some (.nilFunc) := by kernel_rfl
@[simp] theorem tk110 : tk Try.prog 110 = .func := by kernel_rfl
@[simp] theorem shp111 : shp Try.prog 111 = some (false, 1) := by kernel_rfl
@[simp] theorem zero111 : zeroA Try.prog 111 = some [.int .u8 0] := by kernel_rfl
@[simp] theorem zeroV111 : zeroV Try.prog 111 = some (.int .u8 0) := by kernel_rfl
@[simp] theorem tk111 : tk Try.prog 111 = .int := by kernel_rfl
@[simp] theorem shp112 : shp Try.prog 112 = some (false, 1) := by kernel_rfl
@[simp] theorem zero112 : zeroA Try.prog 112 = some [.int .u8 0] := by kernel_rfl
@[simp] theorem zeroV112 : zeroV Try.prog 112 = some (.int .u8 0) := by kernel_rfl
@[simp] theorem tk112 : tk Try.prog 112 = .int := by kernel_rfl
@[simp] theorem shp113 : shp Try.prog 113 = some (false, 1) := by kernel_rfl
@[simp] theorem zero113 : zeroA Try.prog 113 = some [.nilFunc] := by kernel_rfl
@[simp] theorem zeroV113 : zeroV Try.prog 113 = some (.nilFunc) := by kernel_rfl
@[simp] theorem tk113 : tk Try.prog 113 = .func := by kernel_rfl
@[simp] theorem shp114 : shp Try.prog 114 = some (false, 1) := by kernel_rfl
@[simp] theorem zero114 : zeroA Try.prog 114 = some [.pointer none] := by kernel_rfl
@[simp] theorem zeroV114 : zeroV Try.prog 114 = some (.pointer none) := by kernel_rfl
@[simp] theorem tk114 : tk Try.prog 114 = .pointer := by kernel_rfl
@[simp] theorem shp115 : shp Try.prog 115 = some (false, 1) := by kernel_rfl
@[simp] theorem zero115 : zeroA Try.prog 115 = some [.int .i32 0] := by kernel_rfl
@[simp] theorem zeroV115 : zeroV Try.prog 115 = some (.int .i32 0) := by kernel_rfl
@[simp] theorem tk115 : tk Try.prog 115 = .int := by kernel_rfl
@[simp] theorem shp116 : shp Try.prog 116 = some (false, 1) := by kernel_rfl
@[simp] theorem zero116 : zeroA Try.prog 116 = some [.int .i32 0] := by kernel_rfl
@[simp] theorem zeroV116 : zeroV Try.prog 116 = some (.int .i32 0) := by kernel_rfl
@[simp] theorem tk116 : tk Try.prog 116 = .int := by kernel_rfl
@[simp] theorem shp117 : shp Try.prog 117 = some (true, 11) := by kernel_rfl
@[simp] theorem zero117 : zeroA Try.prog 117 = some [.int .u64 0, .int .u64 0, .int .u32 0, .int .u8 0, .int .u8 0, .int .u8 0, .int .u8 0, .nilFunc, .pointer none, .int .i32 0, .int .i32 0] := by kernel_rfl
@[simp] theorem zeroV117 : zeroV Try.prog 117 = some (.agg #[.int .u64 0, .int .u64 0, .int .u32 0, .int .u8 0, .int .u8 0, .int .u8 0, .int .u8 0, .nilFunc, .pointer none, .int .i32 0, .int .i32 0]) := by kernel_rfl
@[simp] theorem tk117 : tk Try.prog 117 = .other := by kernel_rfl
@[simp] theorem fld117_0 : fld Try.prog 117 0 = some 0 := by kernel_rfl
@[simp] theorem fieldA117_0 : fieldA Try.prog 117 0 = some (12, 0) := by kernel_rfl
@[simp] theorem fld117_1 : fld Try.prog 117 1 = some 1 := by kernel_rfl
@[simp] theorem fieldA117_1 : fieldA Try.prog 117 1 = some (12, 1) := by kernel_rfl
@[simp] theorem fld117_2 : fld Try.prog 117 2 = some 2 := by kernel_rfl
@[simp] theorem fieldA117_2 : fieldA Try.prog 117 2 = some (92, 2) := by kernel_rfl
@[simp] theorem fld117_3 : fld Try.prog 117 3 = some 3 := by kernel_rfl
@[simp] theorem fieldA117_3 : fieldA Try.prog 117 3 = some (111, 3) := by kernel_rfl
@[simp] theorem fld117_4 : fld Try.prog 117 4 = some 4 := by kernel_rfl
@[simp] theorem fieldA117_4 : fieldA Try.prog 117 4 = some (5, 4) := by kernel_rfl
@[simp] theorem fld117_5 : fld Try.prog 117 5 = some 5 := by kernel_rfl
@[simp] theorem fieldA117_5 : fieldA Try.prog 117 5 = some (5, 5) := by kernel_rfl
@[simp] theorem fld117_6 : fld Try.prog 117 6 = some 6 := by kernel_rfl
@[simp] theorem fieldA117_6 : fieldA Try.prog 117 6 = some (112, 6) := by kernel_rfl
@[simp] theorem fld117_7 : fld Try.prog 117 7 = some 7 := by kernel_rfl
@[simp] theorem fieldA117_7 : fieldA Try.prog 117 7 = some (113, 7) := by kernel_rfl
@[simp] theorem fld117_8 : fld Try.prog 117 8 = some 8 := by kernel_rfl
@[simp] theorem fieldA117_8 : fieldA Try.prog 117 8 = some (114, 8) := by kernel_rfl
@[simp] theorem fld117_9 : fld Try.prog 117 9 = some 9 := by kernel_rfl
@[simp] theorem fieldA117_9 : fieldA Try.prog 117 9 = some (115, 9) := by kernel_rfl
@[simp] theorem fld117_10 : fld Try.prog 117 10 = some 10 := by kernel_rfl
@[simp] theorem fieldA117_10 : fieldA Try.prog 117 10 = some (116, 10) := by kernel_rfl
@[simp] theorem pl117 : plA Try.prog 117 = some [(0, 1), (1, 1), (2, 1), (3, 1), (4, 1), (5, 1), (6, 1), (7, 1), (8, 1), (9, 1), (10, 1)] := by kernel_rfl
@[simp] theorem shp118 : shp Try.prog 118 = some (true, 11) := by kernel_rfl
@[simp] theorem zero118 : zeroA Try.prog 118 = some [.int .u64 0, .int .u64 0, .int .u32 0, .int .u8 0, .int .u8 0, .int .u8 0, .int .u8 0, .nilFunc, .pointer none, .int .i32 0, .int .i32 0] := by kernel_rfl
@[simp] theorem zeroV118 : zeroV Try.prog 118 = some (.agg #[.int .u64 0, .int .u64 0, .int .u32 0, .int .u8 0, .int .u8 0, .int .u8 0, .int .u8 0, .nilFunc, .pointer none, .int .i32 0, .int .i32 0]) := by kernel_rfl
@[simp] theorem tk118 : tk Try.prog 118 = .other := by kernel_rfl
@[simp] theorem fld118_0 : fld Try.prog 118 0 = some 0 := by kernel_rfl
@[simp] theorem fieldA118_0 : fieldA Try.prog 118 0 = some (12, 0) := by kernel_rfl
@[simp] theorem fld118_1 : fld Try.prog 118 1 = some 1 := by kernel_rfl
@[simp] theorem fieldA118_1 : fieldA Try.prog 118 1 = some (12, 1) := by kernel_rfl
@[simp] theorem fld118_2 : fld Try.prog 118 2 = some 2 := by kernel_rfl
@[simp] theorem fieldA118_2 : fieldA Try.prog 118 2 = some (92, 2) := by kernel_rfl
@[simp] theorem fld118_3 : fld Try.prog 118 3 = some 3 := by kernel_rfl
@[simp] theorem fieldA118_3 : fieldA Try.prog 118 3 = some (111, 3) := by kernel_rfl
@[simp] theorem fld118_4 : fld Try.prog 118 4 = some 4 := by kernel_rfl
@[simp] theorem fieldA118_4 : fieldA Try.prog 118 4 = some (5, 4) := by kernel_rfl
@[simp] theorem fld118_5 : fld Try.prog 118 5 = some 5 := by kernel_rfl
@[simp] theorem fieldA118_5 : fieldA Try.prog 118 5 = some (5, 5) := by kernel_rfl
@[simp] theorem fld118_6 : fld Try.prog 118 6 = some 6 := by kernel_rfl
@[simp] theorem fieldA118_6 : fieldA Try.prog 118 6 = some (112, 6) := by kernel_rfl
@[simp] theorem fld118_7 : fld Try.prog 118 7 = some 7 := by kernel_rfl
@[simp] theorem fieldA118_7 : fieldA Try.prog 118 7 = some (113, 7) := by kernel_rfl
@[simp] theorem fld118_8 : fld Try.prog 118 8 = some 8 := by kernel_rfl
@[simp] theorem fieldA118_8 : fieldA Try.prog 118 8 = some (114, 8) := by kernel_rfl
@[simp] theorem fld118_9 : fld Try.prog 118 9 = some 9 := by kernel_rfl
@[simp] theorem fieldA118_9 : fieldA Try.prog 118 9 = some (115, 9) := by kernel_rfl
@[simp] theorem fld118_10 : fld Try.prog 118 10 = some 10 := by kernel_rfl
@[simp] theorem fieldA118_10 : fieldA Try.prog 118 10 = some (116, 10) := by kernel_rfl
@[simp] theorem pl118 : plA Try.prog 118 = some [(0, 1), (1, 1), (2, 1), (3, 1), (4, 1), (5, 1), (6, 1), (7, 1), (8, 1), (9, 1), (10, 1)] := by kernel_rfl
@[simp] theorem shp119 : shp Try.prog 119 = some (true, 2) := by kernel_rfl
@[simp] theorem zero119 : zeroA Try.prog 119 = some [.string ⟨#[]⟩, .int .i64 0] := by kernel_rfl
@[simp] theorem zeroV119 : zeroV Try.prog 119 = some (.agg #[.string ⟨#[]⟩, .int .i64 0]) := by kernel_rfl
@[simp] theorem tk119 : tk Try.prog 119 = .other := by kernel_rfl
@[simp] theorem fld119_0 : fld Try.prog 119 0 = some 0 := by kernel_rfl
@[simp] theorem fieldA119_0 : fieldA Try.prog 119 0 = some (9, 0) := by kernel_rfl
@[simp] theorem fld119_1 : fld Try.prog 119 1 = some 1 := by kernel_rfl
@[simp] theorem fieldA119_1 : fieldA Try.prog 119 1 = some (2, 1) := by kernel_rfl
@[simp] theorem pl119 : plA Try.prog 119 = some [(0, 1), (1, 1)] := by kernel_rfl
@[simp] theorem shp120 : shp Try.prog 120 = some (true, 2) := by kernel_rfl
@[simp] theorem zero120 : zeroA Try.prog 120 = some [.string ⟨#[]⟩, .int .i64 0] := by kernel_rfl
@[simp] theorem zeroV120 : zeroV Try.prog 120 = some (.agg #[.string ⟨#[]⟩, .int .i64 0]) := by kernel_rfl
@[simp] theorem tk120 : tk Try.prog 120 = .other := by kernel_rfl
@[simp] theorem fld120_0 : fld Try.prog 120 0 = some 0 := by kernel_rfl
@[simp] theorem fieldA120_0 : fieldA Try.prog 120 0 = some (9, 0) := by kernel_rfl
@[simp] theorem fld120_1 : fld Try.prog 120 1 = some 1 := by kernel_rfl
@[simp] theorem fieldA120_1 : fieldA Try.prog 120 1 = some (2, 1) := by kernel_rfl
@[simp] theorem pl120 : plA Try.prog 120 = some [(0, 1), (1, 1)] := by kernel_rfl
@[simp] theorem shp121 : shp Try.prog 121 = some (false, 1) := by kernel_rfl
@[simp] theorem zero121 : zeroA Try.prog 121 = some [.pointer none] := by kernel_rfl
@[simp] theorem zeroV121 : zeroV Try.prog 121 = some (.pointer none) := by kernel_rfl
@[simp] theorem tk121 : tk Try.prog 121 = .other := by kernel_rfl
theorem prim9 : ∀ x : ByteArray, primK Try.prog 9 (.string x) = true := fun _ => by kernel_rfl
@[simp] theorem ent2 : entB Try.prog 2 = true := by kernel_rfl
@[simp] theorem ent3 : entB Try.prog 3 = true := by kernel_rfl
@[simp] theorem ent4 : entB Try.prog 4 = true := by kernel_rfl
@[simp] theorem ent5 : entB Try.prog 5 = true := by kernel_rfl
@[simp] theorem ent6 : entB Try.prog 6 = true := by kernel_rfl
@[simp] theorem ent7 : entB Try.prog 7 = true := by kernel_rfl
@[simp] theorem ent8 : entB Try.prog 8 = true := by kernel_rfl
@[simp] theorem ent9 : entB Try.prog 9 = true := by kernel_rfl
@[simp] theorem ent10 : entB Try.prog 10 = true := by kernel_rfl
@[simp] theorem ent11 : entB Try.prog 11 = true := by kernel_rfl
@[simp] theorem ent12 : entB Try.prog 12 = true := by kernel_rfl
@[simp] theorem ent13 : entB Try.prog 13 = true := by kernel_rfl
@[simp] theorem ent14 : entB Try.prog 14 = true := by kernel_rfl
@[simp] theorem ent15 : entB Try.prog 15 = true := by kernel_rfl
@[simp] theorem ent16 : entB Try.prog 16 = true := by kernel_rfl
@[simp] theorem ent17 : entB Try.prog 17 = true := by kernel_rfl
@[simp] theorem ent18 : entB Try.prog 18 = true := by kernel_rfl
@[simp] theorem ent19 : entB Try.prog 19 = true := by kernel_rfl
@[simp] theorem ent20 : entB Try.prog 20 = true := by kernel_rfl
@[simp] theorem ent21 : entB Try.prog 21 = true := by kernel_rfl
@[simp] theorem ent22 : entB Try.prog 22 = true := by kernel_rfl
@[simp] theorem ent23 : entB Try.prog 23 = true := by kernel_rfl
@[simp] theorem ent24 : entB Try.prog 24 = true := by kernel_rfl
@[simp] theorem ent25 : entB Try.prog 25 = true := by kernel_rfl
@[simp] theorem ent26 : entB Try.prog 26 = true := by kernel_rfl
@[simp] theorem ent27 : entB Try.prog 27 = true := by kernel_rfl
@[simp] theorem ent28 : entB Try.prog 28 = true := by kernel_rfl
@[simp] theorem ent29 : entB Try.prog 29 = true := by kernel_rfl
@[simp] theorem ent30 : entB Try.prog 30 = true := by kernel_rfl
@[simp] theorem ent31 : entB Try.prog 31 = true := by kernel_rfl
@[simp] theorem ent32 : entB Try.prog 32 = true := by kernel_rfl
@[simp] theorem ent33 : entB Try.prog 33 = true := by kernel_rfl
@[simp] theorem ent34 : entB Try.prog 34 = true := by kernel_rfl
@[simp] theorem ent35 : entB Try.prog 35 = true := by kernel_rfl
@[simp] theorem ent36 : entB Try.prog 36 = true := by kernel_rfl
@[simp] theorem ent37 : entB Try.prog 37 = true := by kernel_rfl
@[simp] theorem ent38 : entB Try.prog 38 = true := by kernel_rfl
@[simp] theorem ent39 : entB Try.prog 39 = true := by kernel_rfl
@[simp] theorem ent40 : entB Try.prog 40 = true := by kernel_rfl
@[simp] theorem ent41 : entB Try.prog 41 = true := by kernel_rfl
@[simp] theorem ent42 : entB Try.prog 42 = true := by kernel_rfl
@[simp] theorem ent43 : entB Try.prog 43 = true := by kernel_rfl
@[simp] theorem ent44 : entB Try.prog 44 = true := by kernel_rfl
@[simp] theorem ent45 : entB Try.prog 45 = true := by kernel_rfl
@[simp] theorem ent46 : entB Try.prog 46 = true := by kernel_rfl
@[simp] theorem ent47 : entB Try.prog 47 = true := by kernel_rfl
@[simp] theorem ent48 : entB Try.prog 48 = true := by kernel_rfl
@[simp] theorem ent49 : entB Try.prog 49 = true := by kernel_rfl
@[simp] theorem ent50 : entB Try.prog 50 = true := by kernel_rfl
@[simp] theorem ent51 : entB Try.prog 51 = true := by kernel_rfl
@[simp] theorem ent52 : entB Try.prog 52 = true := by kernel_rfl
@[simp] theorem ent53 : entB Try.prog 53 = true := by kernel_rfl
@[simp] theorem ent54 : entB Try.prog 54 = true := by kernel_rfl
@[simp] theorem ent55 : entB Try.prog 55 = true := by kernel_rfl
@[simp] theorem ent56 : entB Try.prog 56 = true := by kernel_rfl
@[simp] theorem ent57 : entB Try.prog 57 = true := by kernel_rfl
@[simp] theorem ent58 : entB Try.prog 58 = true := by kernel_rfl
@[simp] theorem ent59 : entB Try.prog 59 = true := by kernel_rfl
@[simp] theorem ent60 : entB Try.prog 60 = true := by kernel_rfl
@[simp] theorem ent61 : entB Try.prog 61 = true := by kernel_rfl
@[simp] theorem ent62 : entB Try.prog 62 = true := by kernel_rfl
@[simp] theorem ent63 : entB Try.prog 63 = true := by kernel_rfl
@[simp] theorem ent64 : entB Try.prog 64 = true := by kernel_rfl
@[simp] theorem ent65 : entB Try.prog 65 = true := by kernel_rfl
@[simp] theorem ent66 : entB Try.prog 66 = true := by kernel_rfl
@[simp] theorem ent67 : entB Try.prog 67 = true := by kernel_rfl
@[simp] theorem ent68 : entB Try.prog 68 = true := by kernel_rfl
@[simp] theorem ent69 : entB Try.prog 69 = true := by kernel_rfl
@[simp] theorem ent70 : entB Try.prog 70 = true := by kernel_rfl
@[simp] theorem ent71 : entB Try.prog 71 = true := by kernel_rfl
@[simp] theorem ent72 : entB Try.prog 72 = true := by kernel_rfl
@[simp] theorem cvt3_82 : cvt Try.prog 3 82 = some (some .u64) := by kernel_rfl
@[simp] theorem conv3_82 {v : Value} : convA Try.prog 3 82 v = convV v (some .u64) := convA_eq cvt3_82
@[simp] theorem cvt3_95 : cvt Try.prog 3 95 = some (some .u64) := by kernel_rfl
@[simp] theorem conv3_95 {v : Value} : convA Try.prog 3 95 v = convV v (some .u64) := convA_eq cvt3_95
@[simp] theorem cvt5_3 : cvt Try.prog 5 3 = some (some .i64) := by kernel_rfl
@[simp] theorem conv5_3 {v : Value} : convA Try.prog 5 3 v = convV v (some .i64) := convA_eq cvt5_3
@[simp] theorem cvt82_3 : cvt Try.prog 82 3 = some (some .i64) := by kernel_rfl
@[simp] theorem conv82_3 {v : Value} : convA Try.prog 82 3 v = convV v (some .i64) := convA_eq cvt82_3
@[simp] theorem cvt82_92 : cvt Try.prog 82 92 = some (some .u32) := by kernel_rfl
@[simp] theorem conv82_92 {v : Value} : convA Try.prog 82 92 v = convV v (some .u32) := convA_eq cvt82_92
@[simp] theorem cvt92_5 : cvt Try.prog 92 5 = some (some .u8) := by kernel_rfl
@[simp] theorem conv92_5 {v : Value} : convA Try.prog 92 5 v = convV v (some .u8) := convA_eq cvt92_5
@[simp] theorem cvt94_5 : cvt Try.prog 94 5 = some (some .u8) := by kernel_rfl
@[simp] theorem conv94_5 {v : Value} : convA Try.prog 94 5 v = convV v (some .u8) := convA_eq cvt94_5
end Go.Aw.Tab
