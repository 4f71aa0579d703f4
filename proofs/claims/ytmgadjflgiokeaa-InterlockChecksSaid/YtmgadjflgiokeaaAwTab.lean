/-
  The types and functions of this seat, as the abstract machine asks for them. Printed by tab.py.
-/
import Derived.Test.YtmgadjflgiokeaaAw12
import Derived.Test.YtmgadjflgiokeaaProg
import Derived.KernelRfl
import Derived.Laws.StructEq
import Derived.ChangeKeysEq
namespace Go.Aw.Tab
open Go.Proofs Go.RowKit

set_option linter.unusedSimpArgs false
set_option maxHeartbeats 1000000
@[simp] theorem shp1 : shp Try.prog 1 = some (false, 1) := by kernel_rfl
@[simp] theorem zero1 : zeroA Try.prog 1 = some [.nilFunc] := by kernel_rfl
@[simp] theorem zeroV1 : zeroV Try.prog 1 = some (.nilFunc) := by kernel_rfl
@[simp] theorem tk1 : tk Try.prog 1 = .func := by kernel_rfl
@[simp] theorem shp2 : shp Try.prog 2 = some (false, 1) := by kernel_rfl
@[simp] theorem zero2 : zeroA Try.prog 2 = some [.int .i64 0] := by kernel_rfl
@[simp] theorem zeroV2 : zeroV Try.prog 2 = some (.int .i64 0) := by kernel_rfl
@[simp] theorem tk2 : tk Try.prog 2 = .int := by kernel_rfl
@[simp] theorem shp3 : shp Try.prog 3 = some (false, 1) := by kernel_rfl
@[simp] theorem zero3 : zeroA Try.prog 3 = some [.int .i64 0] := by kernel_rfl
@[simp] theorem zeroV3 : zeroV Try.prog 3 = some (.int .i64 0) := by kernel_rfl
@[simp] theorem tk3 : tk Try.prog 3 = .int := by kernel_rfl
@[simp] theorem shp4 : shp Try.prog 4 = some (false, 1) := by kernel_rfl
@[simp] theorem zero4 : zeroA Try.prog 4 = some [.bool false] := by kernel_rfl
@[simp] theorem zeroV4 : zeroV Try.prog 4 = some (.bool false) := by kernel_rfl
@[simp] theorem tk4 : tk Try.prog 4 = .bool := by kernel_rfl
@[simp] theorem shp5 : shp Try.prog 5 = some (false, 1) := by kernel_rfl
@[simp] theorem zero5 : zeroA Try.prog 5 = some [.int .u8 0] := by kernel_rfl
@[simp] theorem zeroV5 : zeroV Try.prog 5 = some (.int .u8 0) := by kernel_rfl
@[simp] theorem tk5 : tk Try.prog 5 = .int := by kernel_rfl
@[simp] theorem shp6 : shp Try.prog 6 = some (false, 1) := by kernel_rfl
@[simp] theorem zero6 : zeroA Try.prog 6 = some [.int .u8 0] := by kernel_rfl
@[simp] theorem zeroV6 : zeroV Try.prog 6 = some (.int .u8 0) := by kernel_rfl
@[simp] theorem tk6 : tk Try.prog 6 = .int := by kernel_rfl
@[simp] theorem shp7 : shp Try.prog 7 = some (true, 4) := by kernel_rfl
@[simp] theorem zero7 : zeroA Try.prog 7 = some [.int .i64 0, .int .i64 0, .bool false, .int .u8 0] := by kernel_rfl
@[simp] theorem zeroV7 : zeroV Try.prog 7 = some (.agg #[.int .i64 0, .int .i64 0, .bool false, .int .u8 0]) := by kernel_rfl
@[simp] theorem tk7 : tk Try.prog 7 = .other := by kernel_rfl
@[simp] theorem fld7_0 : fld Try.prog 7 0 = some 0 := by kernel_rfl
@[simp] theorem fieldA7_0 : fieldA Try.prog 7 0 = some (2, 0) := by kernel_rfl
@[simp] theorem fld7_1 : fld Try.prog 7 1 = some 1 := by kernel_rfl
@[simp] theorem fieldA7_1 : fieldA Try.prog 7 1 = some (3, 1) := by kernel_rfl
@[simp] theorem fld7_2 : fld Try.prog 7 2 = some 2 := by kernel_rfl
@[simp] theorem fieldA7_2 : fieldA Try.prog 7 2 = some (4, 2) := by kernel_rfl
@[simp] theorem fld7_3 : fld Try.prog 7 3 = some 3 := by kernel_rfl
@[simp] theorem fieldA7_3 : fieldA Try.prog 7 3 = some (6, 3) := by kernel_rfl
@[simp] theorem pl7 : plA Try.prog 7 = some [(0, 1), (1, 1), (2, 1), (3, 1)] := by kernel_rfl
@[simp] theorem shp8 : shp Try.prog 8 = some (true, 4) := by kernel_rfl
@[simp] theorem zero8 : zeroA Try.prog 8 = some [.int .i64 0, .int .i64 0, .bool false, .int .u8 0] := by kernel_rfl
@[simp] theorem zeroV8 : zeroV Try.prog 8 = some (.agg #[.int .i64 0, .int .i64 0, .bool false, .int .u8 0]) := by kernel_rfl
@[simp] theorem tk8 : tk Try.prog 8 = .other := by kernel_rfl
@[simp] theorem fld8_0 : fld Try.prog 8 0 = some 0 := by kernel_rfl
@[simp] theorem fieldA8_0 : fieldA Try.prog 8 0 = some (2, 0) := by kernel_rfl
@[simp] theorem fld8_1 : fld Try.prog 8 1 = some 1 := by kernel_rfl
@[simp] theorem fieldA8_1 : fieldA Try.prog 8 1 = some (3, 1) := by kernel_rfl
@[simp] theorem fld8_2 : fld Try.prog 8 2 = some 2 := by kernel_rfl
@[simp] theorem fieldA8_2 : fieldA Try.prog 8 2 = some (4, 2) := by kernel_rfl
@[simp] theorem fld8_3 : fld Try.prog 8 3 = some 3 := by kernel_rfl
@[simp] theorem fieldA8_3 : fieldA Try.prog 8 3 = some (6, 3) := by kernel_rfl
@[simp] theorem pl8 : plA Try.prog 8 = some [(0, 1), (1, 1), (2, 1), (3, 1)] := by kernel_rfl
@[simp] theorem shp9 : shp Try.prog 9 = some (false, 1) := by kernel_rfl
@[simp] theorem zero9 : zeroA Try.prog 9 = some [.string ⟨#[]⟩] := by kernel_rfl
@[simp] theorem zeroV9 : zeroV Try.prog 9 = some (.string ⟨#[]⟩) := by kernel_rfl
@[simp] theorem tk9 : tk Try.prog 9 = .string := by kernel_rfl
@[simp] theorem shp10 : shp Try.prog 10 = some (false, 1) := by kernel_rfl
@[simp] theorem zero10 : zeroA Try.prog 10 = some [.string ⟨#[]⟩] := by kernel_rfl
@[simp] theorem zeroV10 : zeroV Try.prog 10 = some (.string ⟨#[]⟩) := by kernel_rfl
@[simp] theorem tk10 : tk Try.prog 10 = .string := by kernel_rfl
@[simp] theorem shp11 : shp Try.prog 11 = some (false, 1) := by kernel_rfl
@[simp] theorem zero11 : zeroA Try.prog 11 = some [.string ⟨#[]⟩] := by kernel_rfl
@[simp] theorem zeroV11 : zeroV Try.prog 11 = some (.string ⟨#[]⟩) := by kernel_rfl
@[simp] theorem tk11 : tk Try.prog 11 = .string := by kernel_rfl
@[simp] theorem shp12 : shp Try.prog 12 = some (false, 1) := by kernel_rfl
@[simp] theorem zero12 : zeroA Try.prog 12 = some [.int .u64 0] := by kernel_rfl
@[simp] theorem zeroV12 : zeroV Try.prog 12 = some (.int .u64 0) := by kernel_rfl
@[simp] theorem tk12 : tk Try.prog 12 = .int := by kernel_rfl
@[simp] theorem shp13 : shp Try.prog 13 = some (true, 2) := by kernel_rfl
@[simp] theorem zero13 : zeroA Try.prog 13 = some [.string ⟨#[]⟩, .int .u64 0] := by kernel_rfl
@[simp] theorem zeroV13 : zeroV Try.prog 13 = some (.agg #[.string ⟨#[]⟩, .int .u64 0]) := by kernel_rfl
@[simp] theorem tk13 : tk Try.prog 13 = .other := by kernel_rfl
@[simp] theorem fld13_0 : fld Try.prog 13 0 = some 0 := by kernel_rfl
@[simp] theorem fieldA13_0 : fieldA Try.prog 13 0 = some (9, 0) := by kernel_rfl
@[simp] theorem fld13_1 : fld Try.prog 13 1 = some 1 := by kernel_rfl
@[simp] theorem fieldA13_1 : fieldA Try.prog 13 1 = some (12, 1) := by kernel_rfl
@[simp] theorem pl13 : plA Try.prog 13 = some [(0, 1), (1, 1)] := by kernel_rfl
@[simp] theorem shp14 : shp Try.prog 14 = some (true, 2) := by kernel_rfl
@[simp] theorem zero14 : zeroA Try.prog 14 = some [.string ⟨#[]⟩, .int .u64 0] := by kernel_rfl
@[simp] theorem zeroV14 : zeroV Try.prog 14 = some (.agg #[.string ⟨#[]⟩, .int .u64 0]) := by kernel_rfl
@[simp] theorem tk14 : tk Try.prog 14 = .other := by kernel_rfl
@[simp] theorem fld14_0 : fld Try.prog 14 0 = some 0 := by kernel_rfl
@[simp] theorem fieldA14_0 : fieldA Try.prog 14 0 = some (9, 0) := by kernel_rfl
@[simp] theorem fld14_1 : fld Try.prog 14 1 = some 1 := by kernel_rfl
@[simp] theorem fieldA14_1 : fieldA Try.prog 14 1 = some (12, 1) := by kernel_rfl
@[simp] theorem pl14 : plA Try.prog 14 = some [(0, 1), (1, 1)] := by kernel_rfl
@[simp] theorem shp15 : shp Try.prog 15 = some (false, 1) := by kernel_rfl
@[simp] theorem zero15 : zeroA Try.prog 15 = some [.pointer none] := by kernel_rfl
@[simp] theorem zeroV15 : zeroV Try.prog 15 = some (.pointer none) := by kernel_rfl
@[simp] theorem tk15 : tk Try.prog 15 = .pointer := by kernel_rfl
@[simp] theorem shp16 : shp Try.prog 16 = some (false, 1) := by kernel_rfl
@[simp] theorem zero16 : zeroA Try.prog 16 = some [.pointer none] := by kernel_rfl
@[simp] theorem zeroV16 : zeroV Try.prog 16 = some (.pointer none) := by kernel_rfl
@[simp] theorem tk16 : tk Try.prog 16 = .pointer := by kernel_rfl
@[simp] theorem shp17 : shp Try.prog 17 = some (false, 1) := by kernel_rfl
@[simp] theorem zero17 : zeroA Try.prog 17 = some [.pointer none] := by kernel_rfl
@[simp] theorem zeroV17 : zeroV Try.prog 17 = some (.pointer none) := by kernel_rfl
@[simp] theorem tk17 : tk Try.prog 17 = .pointer := by kernel_rfl
@[simp] theorem shp18 : shp Try.prog 18 = some (true, 1) := by kernel_rfl
@[simp] theorem zero18 : zeroA Try.prog 18 = some [.pointer none] := by kernel_rfl
@[simp] theorem zeroV18 : zeroV Try.prog 18 = some (.agg #[.pointer none]) := by kernel_rfl
@[simp] theorem tk18 : tk Try.prog 18 = .other := by kernel_rfl
@[simp] theorem fld18_0 : fld Try.prog 18 0 = some 0 := by kernel_rfl
@[simp] theorem fieldA18_0 : fieldA Try.prog 18 0 = some (17, 0) := by kernel_rfl
@[simp] theorem pl18 : plA Try.prog 18 = some [(0, 1)] := by kernel_rfl
@[simp] theorem shp19 : shp Try.prog 19 = some (true, 1) := by kernel_rfl
@[simp] theorem zero19 : zeroA Try.prog 19 = some [.pointer none] := by kernel_rfl
@[simp] theorem zeroV19 : zeroV Try.prog 19 = some (.agg #[.pointer none]) := by kernel_rfl
@[simp] theorem tk19 : tk Try.prog 19 = .other := by kernel_rfl
@[simp] theorem fld19_0 : fld Try.prog 19 0 = some 0 := by kernel_rfl
@[simp] theorem fieldA19_0 : fieldA Try.prog 19 0 = some (17, 0) := by kernel_rfl
@[simp] theorem pl19 : plA Try.prog 19 = some [(0, 1)] := by kernel_rfl
@[simp] theorem shp20 : shp Try.prog 20 = some (false, 1) := by kernel_rfl
@[simp] theorem zero20 : zeroA Try.prog 20 = some [.nilIface] := by kernel_rfl
@[simp] theorem zeroV20 : zeroV Try.prog 20 = some (.nilIface) := by kernel_rfl
@[simp] theorem tk20 : tk Try.prog 20 = .other := by kernel_rfl
@[simp] theorem shp21 : shp Try.prog 21 = some (false, 1) := by kernel_rfl
@[simp] theorem zero21 : zeroA Try.prog 21 = some [.int .i32 0] := by kernel_rfl
@[simp] theorem zeroV21 : zeroV Try.prog 21 = some (.int .i32 0) := by kernel_rfl
@[simp] theorem tk21 : tk Try.prog 21 = .int := by kernel_rfl
@[simp] theorem shp22 : shp Try.prog 22 = some (false, 1) := by kernel_rfl
@[simp] theorem zero22 : zeroA Try.prog 22 = some [.slice none 0 0] := by kernel_rfl
@[simp] theorem zeroV22 : zeroV Try.prog 22 = some (.slice none 0 0) := by kernel_rfl
@[simp] theorem tk22 : tk Try.prog 22 = .slice := by kernel_rfl
@[simp] theorem elemS22 : elemS Try.prog 22 = some (9, 1, 16) := by kernel_rfl
@[simp] theorem shp23 : shp Try.prog 23 = some (true, 3) := by kernel_rfl
@[simp] theorem zero23 : zeroA Try.prog 23 = some [.string ⟨#[]⟩, .slice none 0 0, .int .i64 0] := by kernel_rfl
@[simp] theorem zeroV23 : zeroV Try.prog 23 = some (.agg #[.string ⟨#[]⟩, .slice none 0 0, .int .i64 0]) := by kernel_rfl
@[simp] theorem tk23 : tk Try.prog 23 = .other := by kernel_rfl
@[simp] theorem fld23_0 : fld Try.prog 23 0 = some 0 := by kernel_rfl
@[simp] theorem fieldA23_0 : fieldA Try.prog 23 0 = some (9, 0) := by kernel_rfl
@[simp] theorem fld23_1 : fld Try.prog 23 1 = some 1 := by kernel_rfl
@[simp] theorem fieldA23_1 : fieldA Try.prog 23 1 = some (22, 1) := by kernel_rfl
@[simp] theorem fld23_2 : fld Try.prog 23 2 = some 2 := by kernel_rfl
@[simp] theorem fieldA23_2 : fieldA Try.prog 23 2 = some (3, 2) := by kernel_rfl
@[simp] theorem pl23 : plA Try.prog 23 = some [(0, 1), (1, 1), (2, 1)] := by kernel_rfl
@[simp] theorem shp24 : shp Try.prog 24 = some (true, 3) := by kernel_rfl
@[simp] theorem zero24 : zeroA Try.prog 24 = some [.string ⟨#[]⟩, .slice none 0 0, .int .i64 0] := by kernel_rfl
@[simp] theorem zeroV24 : zeroV Try.prog 24 = some (.agg #[.string ⟨#[]⟩, .slice none 0 0, .int .i64 0]) := by kernel_rfl
@[simp] theorem tk24 : tk Try.prog 24 = .other := by kernel_rfl
@[simp] theorem fld24_0 : fld Try.prog 24 0 = some 0 := by kernel_rfl
@[simp] theorem fieldA24_0 : fieldA Try.prog 24 0 = some (9, 0) := by kernel_rfl
@[simp] theorem fld24_1 : fld Try.prog 24 1 = some 1 := by kernel_rfl
@[simp] theorem fieldA24_1 : fieldA Try.prog 24 1 = some (22, 1) := by kernel_rfl
@[simp] theorem fld24_2 : fld Try.prog 24 2 = some 2 := by kernel_rfl
@[simp] theorem fieldA24_2 : fieldA Try.prog 24 2 = some (3, 2) := by kernel_rfl
@[simp] theorem pl24 : plA Try.prog 24 = some [(0, 1), (1, 1), (2, 1)] := by kernel_rfl
@[simp] theorem shp25 : shp Try.prog 25 = some (false, 1) := by kernel_rfl
@[simp] theorem zero25 : zeroA Try.prog 25 = some [.slice none 0 0] := by kernel_rfl
@[simp] theorem zeroV25 : zeroV Try.prog 25 = some (.slice none 0 0) := by kernel_rfl
@[simp] theorem tk25 : tk Try.prog 25 = .slice := by kernel_rfl
@[simp] theorem elemS25 : elemS Try.prog 25 = some (96, 3, 24) := by kernel_rfl
@[simp] theorem shp26 : shp Try.prog 26 = some (false, 1) := by kernel_rfl
@[simp] theorem zero26 : zeroA Try.prog 26 = some [.nilFunc] := by kernel_rfl
@[simp] theorem zeroV26 : zeroV Try.prog 26 = some (.nilFunc) := by kernel_rfl
@[simp] theorem tk26 : tk Try.prog 26 = .func := by kernel_rfl
@[simp] theorem shp27 : shp Try.prog 27 = some (false, 1) := by kernel_rfl
@[simp] theorem zero27 : zeroA Try.prog 27 = some [.nilFunc] := by kernel_rfl
@[simp] theorem zeroV27 : zeroV Try.prog 27 = some (.nilFunc) := by kernel_rfl
@[simp] theorem tk27 : tk Try.prog 27 = .func := by kernel_rfl
@[simp] theorem shp28 : shp Try.prog 28 = some (true, 2) := by kernel_rfl
@[simp] theorem zero28 : zeroA Try.prog 28 = some [.int .i64 0, .int .i64 0] := by kernel_rfl
@[simp] theorem zeroV28 : zeroV Try.prog 28 = some (.agg #[.int .i64 0, .int .i64 0]) := by kernel_rfl
@[simp] theorem tk28 : tk Try.prog 28 = .other := by kernel_rfl
@[simp] theorem fld28_0 : fld Try.prog 28 0 = some 0 := by kernel_rfl
@[simp] theorem fieldA28_0 : fieldA Try.prog 28 0 = some (3, 0) := by kernel_rfl
@[simp] theorem fld28_1 : fld Try.prog 28 1 = some 1 := by kernel_rfl
@[simp] theorem fieldA28_1 : fieldA Try.prog 28 1 = some (3, 1) := by kernel_rfl
@[simp] theorem pl28 : plA Try.prog 28 = some [(0, 1), (1, 1)] := by kernel_rfl
@[simp] theorem shp29 : shp Try.prog 29 = some (true, 2) := by kernel_rfl
@[simp] theorem zero29 : zeroA Try.prog 29 = some [.int .i64 0, .int .i64 0] := by kernel_rfl
@[simp] theorem zeroV29 : zeroV Try.prog 29 = some (.agg #[.int .i64 0, .int .i64 0]) := by kernel_rfl
@[simp] theorem tk29 : tk Try.prog 29 = .other := by kernel_rfl
@[simp] theorem fld29_0 : fld Try.prog 29 0 = some 0 := by kernel_rfl
@[simp] theorem fieldA29_0 : fieldA Try.prog 29 0 = some (3, 0) := by kernel_rfl
@[simp] theorem fld29_1 : fld Try.prog 29 1 = some 1 := by kernel_rfl
@[simp] theorem fieldA29_1 : fieldA Try.prog 29 1 = some (3, 1) := by kernel_rfl
@[simp] theorem pl29 : plA Try.prog 29 = some [(0, 1), (1, 1)] := by kernel_rfl
@[simp] theorem shp30 : shp Try.prog 30 = some (true, 2) := by kernel_rfl
@[simp] theorem zero30 : zeroA Try.prog 30 = some [.int .i64 0, .int .i64 0] := by kernel_rfl
@[simp] theorem zeroV30 : zeroV Try.prog 30 = some (.agg #[.int .i64 0, .int .i64 0]) := by kernel_rfl
@[simp] theorem tk30 : tk Try.prog 30 = .other := by kernel_rfl
@[simp] theorem fld30_0 : fld Try.prog 30 0 = some 0 := by kernel_rfl
@[simp] theorem fieldA30_0 : fieldA Try.prog 30 0 = some (3, 0) := by kernel_rfl
@[simp] theorem fld30_1 : fld Try.prog 30 1 = some 1 := by kernel_rfl
@[simp] theorem fieldA30_1 : fieldA Try.prog 30 1 = some (3, 1) := by kernel_rfl
@[simp] theorem pl30 : plA Try.prog 30 = some [(0, 1), (1, 1)] := by kernel_rfl
@[simp] theorem shp31 : shp Try.prog 31 = some (false, 1) := by kernel_rfl
@[simp] theorem zero31 : zeroA Try.prog 31 = some [.int .i64 0] := by kernel_rfl
@[simp] theorem zeroV31 : zeroV Try.prog 31 = some (.int .i64 0) := by kernel_rfl
@[simp] theorem tk31 : tk Try.prog 31 = .int := by kernel_rfl
@[simp] theorem shp33 : shp Try.prog 33 = some (false, 1) := by kernel_rfl
@[simp] theorem zero33 : zeroA Try.prog 33 = some [.nilFunc] := by kernel_rfl
@[simp] theorem zeroV33 : zeroV Try.prog 33 = some (.nilFunc) := by kernel_rfl
@[simp] theorem tk33 : tk Try.prog 33 = .func := by kernel_rfl
@[simp] theorem shp34 : shp Try.prog 34 = some (false, 1) := by kernel_rfl
@[simp] theorem zero34 : zeroA Try.prog 34 = some [.nilFunc] := by kernel_rfl
@[simp] theorem zeroV34 : zeroV Try.prog 34 = some (.nilFunc) := by kernel_rfl
@[simp] theorem tk34 : tk Try.prog 34 = .func := by kernel_rfl
@[simp] theorem shp36 : shp Try.prog 36 = some (false, 1) := by kernel_rfl
@[simp] theorem zero36 : zeroA Try.prog 36 = some [.nilFunc] := by kernel_rfl
@[simp] theorem zeroV36 : zeroV Try.prog 36 = some (.nilFunc) := by kernel_rfl
@[simp] theorem tk36 : tk Try.prog 36 = .func := by kernel_rfl
@[simp] theorem shp38 : shp Try.prog 38 = some (false, 1) := by kernel_rfl
@[simp] theorem zero38 : zeroA Try.prog 38 = some [.nilFunc] := by kernel_rfl
@[simp] theorem zeroV38 : zeroV Try.prog 38 = some (.nilFunc) := by kernel_rfl
@[simp] theorem tk38 : tk Try.prog 38 = .func := by kernel_rfl
@[simp] theorem shp40 : shp Try.prog 40 = some (false, 1) := by kernel_rfl
@[simp] theorem zero40 : zeroA Try.prog 40 = some [.nilFunc] := by kernel_rfl
@[simp] theorem zeroV40 : zeroV Try.prog 40 = some (.nilFunc) := by kernel_rfl
@[simp] theorem tk40 : tk Try.prog 40 = .func := by kernel_rfl
@[simp] theorem shp41 : shp Try.prog 41 = some (false, 1) := by kernel_rfl
@[simp] theorem zero41 : zeroA Try.prog 41 = some [.nilFunc] := by kernel_rfl
@[simp] theorem zeroV41 : zeroV Try.prog 41 = some (.nilFunc) := by kernel_rfl
@[simp] theorem tk41 : tk Try.prog 41 = .func := by kernel_rfl
@[simp] theorem shp42 : shp Try.prog 42 = some (false, 1) := by kernel_rfl
@[simp] theorem zero42 : zeroA Try.prog 42 = some [.nilFunc] := by kernel_rfl
@[simp] theorem zeroV42 : zeroV Try.prog 42 = some (.nilFunc) := by kernel_rfl
@[simp] theorem tk42 : tk Try.prog 42 = .func := by kernel_rfl
@[simp] theorem shp43 : shp Try.prog 43 = some (false, 1) := by kernel_rfl
@[simp] theorem zero43 : zeroA Try.prog 43 = some [.nilFunc] := by kernel_rfl
@[simp] theorem zeroV43 : zeroV Try.prog 43 = some (.nilFunc) := by kernel_rfl
@[simp] theorem tk43 : tk Try.prog 43 = .func := by kernel_rfl
@[simp] theorem shp44 : shp Try.prog 44 = some (false, 1) := by kernel_rfl
@[simp] theorem zero44 : zeroA Try.prog 44 = some [.slice none 0 0] := by kernel_rfl
@[simp] theorem zeroV44 : zeroV Try.prog 44 = some (.slice none 0 0) := by kernel_rfl
@[simp] theorem tk44 : tk Try.prog 44 = .slice := by kernel_rfl
@[simp] theorem elemS44 : elemS Try.prog 44 = some (49, 4, 40) := by kernel_rfl
@[simp] theorem shp45 : shp Try.prog 45 = some (false, 1) := by kernel_rfl
@[simp] theorem zero45 : zeroA Try.prog 45 = some [.slice none 0 0] := by kernel_rfl
@[simp] theorem zeroV45 : zeroV Try.prog 45 = some (.slice none 0 0) := by kernel_rfl
@[simp] theorem tk45 : tk Try.prog 45 = .slice := by kernel_rfl
@[simp] theorem elemS45 : elemS Try.prog 45 = some (47, 4, 64) := by kernel_rfl
@[simp] theorem shp46 : shp Try.prog 46 = some (true, 4) := by kernel_rfl
@[simp] theorem zero46 : zeroA Try.prog 46 = some [.slice none 0 0, .bool false, .slice none 0 0, .int .i64 0] := by kernel_rfl
@[simp] theorem zeroV46 : zeroV Try.prog 46 = some (.agg #[.slice none 0 0, .bool false, .slice none 0 0, .int .i64 0]) := by kernel_rfl
@[simp] theorem tk46 : tk Try.prog 46 = .other := by kernel_rfl
@[simp] theorem fld46_0 : fld Try.prog 46 0 = some 0 := by kernel_rfl
@[simp] theorem fieldA46_0 : fieldA Try.prog 46 0 = some (44, 0) := by kernel_rfl
@[simp] theorem fld46_1 : fld Try.prog 46 1 = some 1 := by kernel_rfl
@[simp] theorem fieldA46_1 : fieldA Try.prog 46 1 = some (4, 1) := by kernel_rfl
@[simp] theorem fld46_2 : fld Try.prog 46 2 = some 2 := by kernel_rfl
@[simp] theorem fieldA46_2 : fieldA Try.prog 46 2 = some (45, 2) := by kernel_rfl
@[simp] theorem fld46_3 : fld Try.prog 46 3 = some 3 := by kernel_rfl
@[simp] theorem fieldA46_3 : fieldA Try.prog 46 3 = some (3, 3) := by kernel_rfl
@[simp] theorem pl46 : plA Try.prog 46 = some [(0, 1), (1, 1), (2, 1), (3, 1)] := by kernel_rfl
@[simp] theorem shp47 : shp Try.prog 47 = some (true, 4) := by kernel_rfl
@[simp] theorem zero47 : zeroA Try.prog 47 = some [.slice none 0 0, .bool false, .slice none 0 0, .int .i64 0] := by kernel_rfl
@[simp] theorem zeroV47 : zeroV Try.prog 47 = some (.agg #[.slice none 0 0, .bool false, .slice none 0 0, .int .i64 0]) := by kernel_rfl
@[simp] theorem tk47 : tk Try.prog 47 = .other := by kernel_rfl
@[simp] theorem fld47_0 : fld Try.prog 47 0 = some 0 := by kernel_rfl
@[simp] theorem fieldA47_0 : fieldA Try.prog 47 0 = some (44, 0) := by kernel_rfl
@[simp] theorem fld47_1 : fld Try.prog 47 1 = some 1 := by kernel_rfl
@[simp] theorem fieldA47_1 : fieldA Try.prog 47 1 = some (4, 1) := by kernel_rfl
@[simp] theorem fld47_2 : fld Try.prog 47 2 = some 2 := by kernel_rfl
@[simp] theorem fieldA47_2 : fieldA Try.prog 47 2 = some (45, 2) := by kernel_rfl
@[simp] theorem fld47_3 : fld Try.prog 47 3 = some 3 := by kernel_rfl
@[simp] theorem fieldA47_3 : fieldA Try.prog 47 3 = some (3, 3) := by kernel_rfl
@[simp] theorem pl47 : plA Try.prog 47 = some [(0, 1), (1, 1), (2, 1), (3, 1)] := by kernel_rfl
@[simp] theorem shp48 : shp Try.prog 48 = some (true, 4) := by kernel_rfl
@[simp] theorem zero48 : zeroA Try.prog 48 = some [.int .i64 0, .string ⟨#[]⟩, .int .i64 0, .int .i64 0] := by kernel_rfl
@[simp] theorem zeroV48 : zeroV Try.prog 48 = some (.agg #[.int .i64 0, .string ⟨#[]⟩, .int .i64 0, .int .i64 0]) := by kernel_rfl
@[simp] theorem tk48 : tk Try.prog 48 = .other := by kernel_rfl
@[simp] theorem fld48_0 : fld Try.prog 48 0 = some 0 := by kernel_rfl
@[simp] theorem fieldA48_0 : fieldA Try.prog 48 0 = some (3, 0) := by kernel_rfl
@[simp] theorem fld48_1 : fld Try.prog 48 1 = some 1 := by kernel_rfl
@[simp] theorem fieldA48_1 : fieldA Try.prog 48 1 = some (9, 1) := by kernel_rfl
@[simp] theorem fld48_2 : fld Try.prog 48 2 = some 2 := by kernel_rfl
@[simp] theorem fieldA48_2 : fieldA Try.prog 48 2 = some (2, 2) := by kernel_rfl
@[simp] theorem fld48_3 : fld Try.prog 48 3 = some 3 := by kernel_rfl
@[simp] theorem fieldA48_3 : fieldA Try.prog 48 3 = some (3, 3) := by kernel_rfl
@[simp] theorem pl48 : plA Try.prog 48 = some [(0, 1), (1, 1), (2, 1), (3, 1)] := by kernel_rfl
@[simp] theorem shp49 : shp Try.prog 49 = some (true, 4) := by kernel_rfl
@[simp] theorem zero49 : zeroA Try.prog 49 = some [.int .i64 0, .string ⟨#[]⟩, .int .i64 0, .int .i64 0] := by kernel_rfl
@[simp] theorem zeroV49 : zeroV Try.prog 49 = some (.agg #[.int .i64 0, .string ⟨#[]⟩, .int .i64 0, .int .i64 0]) := by kernel_rfl
@[simp] theorem tk49 : tk Try.prog 49 = .other := by kernel_rfl
@[simp] theorem fld49_0 : fld Try.prog 49 0 = some 0 := by kernel_rfl
@[simp] theorem fieldA49_0 : fieldA Try.prog 49 0 = some (3, 0) := by kernel_rfl
@[simp] theorem fld49_1 : fld Try.prog 49 1 = some 1 := by kernel_rfl
@[simp] theorem fieldA49_1 : fieldA Try.prog 49 1 = some (9, 1) := by kernel_rfl
@[simp] theorem fld49_2 : fld Try.prog 49 2 = some 2 := by kernel_rfl
@[simp] theorem fieldA49_2 : fieldA Try.prog 49 2 = some (2, 2) := by kernel_rfl
@[simp] theorem fld49_3 : fld Try.prog 49 3 = some 3 := by kernel_rfl
@[simp] theorem fieldA49_3 : fieldA Try.prog 49 3 = some (3, 3) := by kernel_rfl
@[simp] theorem pl49 : plA Try.prog 49 = some [(0, 1), (1, 1), (2, 1), (3, 1)] := by kernel_rfl
@[simp] theorem shp50 : shp Try.prog 50 = some (true, 3) := by kernel_rfl
@[simp] theorem zero50 : zeroA Try.prog 50 = some [.int .i64 0, .int .i64 0, .int .i64 0] := by kernel_rfl
@[simp] theorem zeroV50 : zeroV Try.prog 50 = some (.agg #[.int .i64 0, .int .i64 0, .int .i64 0]) := by kernel_rfl
@[simp] theorem tk50 : tk Try.prog 50 = .other := by kernel_rfl
@[simp] theorem fld50_0 : fld Try.prog 50 0 = some 0 := by kernel_rfl
@[simp] theorem fieldA50_0 : fieldA Try.prog 50 0 = some (31, 0) := by kernel_rfl
@[simp] theorem fld50_1 : fld Try.prog 50 1 = some 1 := by kernel_rfl
@[simp] theorem fieldA50_1 : fieldA Try.prog 50 1 = some (3, 1) := by kernel_rfl
@[simp] theorem fld50_2 : fld Try.prog 50 2 = some 2 := by kernel_rfl
@[simp] theorem fieldA50_2 : fieldA Try.prog 50 2 = some (3, 2) := by kernel_rfl
@[simp] theorem pl50 : plA Try.prog 50 = some [(0, 1), (1, 1), (2, 1)] := by kernel_rfl
@[simp] theorem shp51 : shp Try.prog 51 = some (true, 3) := by kernel_rfl
@[simp] theorem zero51 : zeroA Try.prog 51 = some [.int .i64 0, .int .i64 0, .int .i64 0] := by kernel_rfl
@[simp] theorem zeroV51 : zeroV Try.prog 51 = some (.agg #[.int .i64 0, .int .i64 0, .int .i64 0]) := by kernel_rfl
@[simp] theorem tk51 : tk Try.prog 51 = .other := by kernel_rfl
@[simp] theorem fld51_0 : fld Try.prog 51 0 = some 0 := by kernel_rfl
@[simp] theorem fieldA51_0 : fieldA Try.prog 51 0 = some (31, 0) := by kernel_rfl
@[simp] theorem fld51_1 : fld Try.prog 51 1 = some 1 := by kernel_rfl
@[simp] theorem fieldA51_1 : fieldA Try.prog 51 1 = some (3, 1) := by kernel_rfl
@[simp] theorem fld51_2 : fld Try.prog 51 2 = some 2 := by kernel_rfl
@[simp] theorem fieldA51_2 : fieldA Try.prog 51 2 = some (3, 2) := by kernel_rfl
@[simp] theorem pl51 : plA Try.prog 51 = some [(0, 1), (1, 1), (2, 1)] := by kernel_rfl
@[simp] theorem shp53 : shp Try.prog 53 = some (false, 1) := by kernel_rfl
@[simp] theorem zero53 : zeroA Try.prog 53 = some [.nilFunc] := by kernel_rfl
@[simp] theorem zeroV53 : zeroV Try.prog 53 = some (.nilFunc) := by kernel_rfl
@[simp] theorem tk53 : tk Try.prog 53 = .func := by kernel_rfl
@[simp] theorem shp54 : shp Try.prog 54 = some (false, 1) := by kernel_rfl
@[simp] theorem zero54 : zeroA Try.prog 54 = some [.nilFunc] := by kernel_rfl
@[simp] theorem zeroV54 : zeroV Try.prog 54 = some (.nilFunc) := by kernel_rfl
@[simp] theorem tk54 : tk Try.prog 54 = .func := by kernel_rfl
@[simp] theorem shp56 : shp Try.prog 56 = some (false, 1) := by kernel_rfl
@[simp] theorem zero56 : zeroA Try.prog 56 = some [.nilFunc] := by kernel_rfl
@[simp] theorem zeroV56 : zeroV Try.prog 56 = some (.nilFunc) := by kernel_rfl
@[simp] theorem tk56 : tk Try.prog 56 = .func := by kernel_rfl
@[simp] theorem shp57 : shp Try.prog 57 = some (false, 1) := by kernel_rfl
@[simp] theorem zero57 : zeroA Try.prog 57 = some [.nilFunc] := by kernel_rfl
@[simp] theorem zeroV57 : zeroV Try.prog 57 = some (.nilFunc) := by kernel_rfl
@[simp] theorem tk57 : tk Try.prog 57 = .func := by kernel_rfl
@[simp] theorem shp58 : shp Try.prog 58 = some (false, 1) := by kernel_rfl
@[simp] theorem zero58 : zeroA Try.prog 58 = some [.slice none 0 0] := by kernel_rfl
@[simp] theorem zeroV58 : zeroV Try.prog 58 = some (.slice none 0 0) := by kernel_rfl
@[simp] theorem tk58 : tk Try.prog 58 = .slice := by kernel_rfl
@[simp] theorem elemS58 : elemS Try.prog 58 = some (60, 1, 24) := by kernel_rfl
@[simp] theorem shp59 : shp Try.prog 59 = some (false, 1) := by kernel_rfl
@[simp] theorem zero59 : zeroA Try.prog 59 = some [.nilFunc] := by kernel_rfl
@[simp] theorem zeroV59 : zeroV Try.prog 59 = some (.nilFunc) := by kernel_rfl
@[simp] theorem tk59 : tk Try.prog 59 = .func := by kernel_rfl
@[simp] theorem shp60 : shp Try.prog 60 = some (false, 1) := by kernel_rfl
@[simp] theorem zero60 : zeroA Try.prog 60 = some [.slice none 0 0] := by kernel_rfl
@[simp] theorem zeroV60 : zeroV Try.prog 60 = some (.slice none 0 0) := by kernel_rfl
@[simp] theorem tk60 : tk Try.prog 60 = .slice := by kernel_rfl
@[simp] theorem elemS60 : elemS Try.prog 60 = some (3, 1, 8) := by kernel_rfl
@[simp] theorem shp61 : shp Try.prog 61 = some (false, 1) := by kernel_rfl
@[simp] theorem zero61 : zeroA Try.prog 61 = some [.slice none 0 0] := by kernel_rfl
@[simp] theorem zeroV61 : zeroV Try.prog 61 = some (.slice none 0 0) := by kernel_rfl
@[simp] theorem tk61 : tk Try.prog 61 = .slice := by kernel_rfl
@[simp] theorem elemS61 : elemS Try.prog 61 = some (29, 2, 16) := by kernel_rfl
@[simp] theorem shp63 : shp Try.prog 63 = some (false, 1) := by kernel_rfl
@[simp] theorem zero63 : zeroA Try.prog 63 = some [.nilFunc] := by kernel_rfl
@[simp] theorem zeroV63 : zeroV Try.prog 63 = some (.nilFunc) := by kernel_rfl
@[simp] theorem tk63 : tk Try.prog 63 = .func := by kernel_rfl
@[simp] theorem shp64 : shp Try.prog 64 = some (false, 1) := by kernel_rfl
@[simp] theorem zero64 : zeroA Try.prog 64 = some [.nilFunc] := by kernel_rfl
@[simp] theorem zeroV64 : zeroV Try.prog 64 = some (.nilFunc) := by kernel_rfl
@[simp] theorem tk64 : tk Try.prog 64 = .func := by kernel_rfl
@[simp] theorem shp65 : shp Try.prog 65 = some (false, 1) := by kernel_rfl
@[simp] theorem zero65 : zeroA Try.prog 65 = some [.nilFunc] := by kernel_rfl
@[simp] theorem zeroV65 : zeroV Try.prog 65 = some (.nilFunc) := by kernel_rfl
@[simp] theorem tk65 : tk Try.prog 65 = .func := by kernel_rfl
@[simp] theorem shp66 : shp Try.prog 66 = some (false, 1) := by kernel_rfl
@[simp] theorem zero66 : zeroA Try.prog 66 = some [.nilFunc] := by kernel_rfl
@[simp] theorem zeroV66 : zeroV Try.prog 66 = some (.nilFunc) := by kernel_rfl
@[simp] theorem tk66 : tk Try.prog 66 = .func := by kernel_rfl
@[simp] theorem shp67 : shp Try.prog 67 = some (false, 1) := by kernel_rfl
@[simp] theorem zero67 : zeroA Try.prog 67 = some [.slice none 0 0] := by kernel_rfl
@[simp] theorem zeroV67 : zeroV Try.prog 67 = some (.slice none 0 0) := by kernel_rfl
@[simp] theorem tk67 : tk Try.prog 67 = .slice := by kernel_rfl
@[simp] theorem elemS67 : elemS Try.prog 67 = some (30, 2, 16) := by kernel_rfl
@[simp] theorem shp68 : shp Try.prog 68 = some (false, 1) := by kernel_rfl
@[simp] theorem zero68 : zeroA Try.prog 68 = some [.nilFunc] := by kernel_rfl
@[simp] theorem zeroV68 : zeroV Try.prog 68 = some (.nilFunc) := by kernel_rfl
@[simp] theorem tk68 : tk Try.prog 68 = .func := by kernel_rfl
@[simp] theorem shp69 : shp Try.prog 69 = some (false, 1) := by kernel_rfl
@[simp] theorem zero69 : zeroA Try.prog 69 = some [.nilFunc] := by kernel_rfl
@[simp] theorem zeroV69 : zeroV Try.prog 69 = some (.nilFunc) := by kernel_rfl
@[simp] theorem tk69 : tk Try.prog 69 = .func := by kernel_rfl
@[simp] theorem shp70 : shp Try.prog 70 = some (false, 1) := by kernel_rfl
@[simp] theorem zero70 : zeroA Try.prog 70 = some [.nilFunc] := by kernel_rfl
@[simp] theorem zeroV70 : zeroV Try.prog 70 = some (.nilFunc) := by kernel_rfl
@[simp] theorem tk70 : tk Try.prog 70 = .func := by kernel_rfl
@[simp] theorem shp71 : shp Try.prog 71 = some (false, 1) := by kernel_rfl
@[simp] theorem zero71 : zeroA Try.prog 71 = some [.slice none 0 0] := by kernel_rfl
@[simp] theorem zeroV71 : zeroV Try.prog 71 = some (.slice none 0 0) := by kernel_rfl
@[simp] theorem tk71 : tk Try.prog 71 = .slice := by kernel_rfl
@[simp] theorem elemS71 : elemS Try.prog 71 = some (100, 12, 128) := by kernel_rfl
@[simp] theorem shp72 : shp Try.prog 72 = some (false, 1) := by kernel_rfl
@[simp] theorem zero72 : zeroA Try.prog 72 = some [.slice none 0 0] := by kernel_rfl
@[simp] theorem zeroV72 : zeroV Try.prog 72 = some (.slice none 0 0) := by kernel_rfl
@[simp] theorem tk72 : tk Try.prog 72 = .slice := by kernel_rfl
@[simp] theorem elemS72 : elemS Try.prog 72 = some (24, 3, 48) := by kernel_rfl
@[simp] theorem shp73 : shp Try.prog 73 = some (false, 1) := by kernel_rfl
@[simp] theorem zero73 : zeroA Try.prog 73 = some [.nilFunc] := by kernel_rfl
@[simp] theorem zeroV73 : zeroV Try.prog 73 = some (.nilFunc) := by kernel_rfl
@[simp] theorem tk73 : tk Try.prog 73 = .func := by kernel_rfl
@[simp] theorem shp74 : shp Try.prog 74 = some (false, 1) := by kernel_rfl
@[simp] theorem zero74 : zeroA Try.prog 74 = some [.nilFunc] := by kernel_rfl
@[simp] theorem zeroV74 : zeroV Try.prog 74 = some (.nilFunc) := by kernel_rfl
@[simp] theorem tk74 : tk Try.prog 74 = .func := by kernel_rfl
@[simp] theorem shp75 : shp Try.prog 75 = some (false, 1) := by kernel_rfl
@[simp] theorem zero75 : zeroA Try.prog 75 = some [.nilFunc] := by kernel_rfl
@[simp] theorem zeroV75 : zeroV Try.prog 75 = some (.nilFunc) := by kernel_rfl
@[simp] theorem tk75 : tk Try.prog 75 = .func := by kernel_rfl
@[simp] theorem shp76 : shp Try.prog 76 = some (false, 1) := by kernel_rfl
@[simp] theorem zero76 : zeroA Try.prog 76 = some [.nilFunc] := by kernel_rfl
@[simp] theorem zeroV76 : zeroV Try.prog 76 = some (.nilFunc) := by kernel_rfl
@[simp] theorem tk76 : tk Try.prog 76 = .func := by kernel_rfl
@[simp] theorem shp77 : shp Try.prog 77 = some (false, 1) := by kernel_rfl
@[simp] theorem zero77 : zeroA Try.prog 77 = some [.nilFunc] := by kernel_rfl
@[simp] theorem zeroV77 : zeroV Try.prog 77 = some (.nilFunc) := by kernel_rfl
@[simp] theorem tk77 : tk Try.prog 77 = .func := by kernel_rfl
@[simp] theorem shp78 : shp Try.prog 78 = some (false, 1) := by kernel_rfl
@[simp] theorem zero78 : zeroA Try.prog 78 = some [.nilFunc] := by kernel_rfl
@[simp] theorem zeroV78 : zeroV Try.prog 78 = some (.nilFunc) := by kernel_rfl
@[simp] theorem tk78 : tk Try.prog 78 = .func := by kernel_rfl
@[simp] theorem shp79 : shp Try.prog 79 = some (false, 1) := by kernel_rfl
@[simp] theorem zero79 : zeroA Try.prog 79 = some [.nilFunc] := by kernel_rfl
@[simp] theorem zeroV79 : zeroV Try.prog 79 = some (.nilFunc) := by kernel_rfl
@[simp] theorem tk79 : tk Try.prog 79 = .func := by kernel_rfl
@[simp] theorem shp80 : shp Try.prog 80 = some (false, 1) := by kernel_rfl
@[simp] theorem zero80 : zeroA Try.prog 80 = some [.nilFunc] := by kernel_rfl
@[simp] theorem zeroV80 : zeroV Try.prog 80 = some (.nilFunc) := by kernel_rfl
@[simp] theorem tk80 : tk Try.prog 80 = .func := by kernel_rfl
@[simp] theorem shp81 : shp Try.prog 81 = some (false, 1) := by kernel_rfl
@[simp] theorem zero81 : zeroA Try.prog 81 = some [.nilFunc] := by kernel_rfl
@[simp] theorem zeroV81 : zeroV Try.prog 81 = some (.nilFunc) := by kernel_rfl
@[simp] theorem tk81 : tk Try.prog 81 = .func := by kernel_rfl
@[simp] theorem shp82 : shp Try.prog 82 = some (false, 1) := by kernel_rfl
@[simp] theorem zero82 : zeroA Try.prog 82 = some [.nilFunc] := by kernel_rfl
@[simp] theorem zeroV82 : zeroV Try.prog 82 = some (.nilFunc) := by kernel_rfl
@[simp] theorem tk82 : tk Try.prog 82 = .func := by kernel_rfl
@[simp] theorem shp83 : shp Try.prog 83 = some (false, 1) := by kernel_rfl
@[simp] theorem zero83 : zeroA Try.prog 83 = some [.pointer none] := by kernel_rfl
@[simp] theorem zeroV83 : zeroV Try.prog 83 = some (.pointer none) := by kernel_rfl
@[simp] theorem tk83 : tk Try.prog 83 = .pointer := by kernel_rfl
@[simp] theorem shp84 : shp Try.prog 84 = some (true, 8) := by kernel_rfl
@[simp] theorem zero84 : zeroA Try.prog 84 = some [.slice none 0 0, .bool false, .slice none 0 0, .int .i64 0, .int .i64 0, .int .i64 0, .int .i64 0, .int .i64 0] := by kernel_rfl
@[simp] theorem zeroV84 : zeroV Try.prog 84 = some (.agg #[.slice none 0 0, .bool false, .slice none 0 0, .int .i64 0, .int .i64 0, .int .i64 0, .int .i64 0, .int .i64 0]) := by kernel_rfl
@[simp] theorem tk84 : tk Try.prog 84 = .other := by kernel_rfl
@[simp] theorem fld84_0 : fld Try.prog 84 0 = some 0 := by kernel_rfl
@[simp] theorem fieldA84_0 : fieldA Try.prog 84 0 = some (47, 0) := by kernel_rfl
@[simp] theorem fld84_1 : fld Try.prog 84 1 = some 4 := by kernel_rfl
@[simp] theorem fieldA84_1 : fieldA Try.prog 84 1 = some (3, 4) := by kernel_rfl
@[simp] theorem fld84_2 : fld Try.prog 84 2 = some 5 := by kernel_rfl
@[simp] theorem fieldA84_2 : fieldA Try.prog 84 2 = some (51, 5) := by kernel_rfl
@[simp] theorem pl84 : plA Try.prog 84 = some [(0, 4), (4, 1), (5, 3)] := by kernel_rfl
@[simp] theorem shp85 : shp Try.prog 85 = some (true, 8) := by kernel_rfl
@[simp] theorem zero85 : zeroA Try.prog 85 = some [.slice none 0 0, .bool false, .slice none 0 0, .int .i64 0, .int .i64 0, .int .i64 0, .int .i64 0, .int .i64 0] := by kernel_rfl
@[simp] theorem zeroV85 : zeroV Try.prog 85 = some (.agg #[.slice none 0 0, .bool false, .slice none 0 0, .int .i64 0, .int .i64 0, .int .i64 0, .int .i64 0, .int .i64 0]) := by kernel_rfl
@[simp] theorem tk85 : tk Try.prog 85 = .other := by kernel_rfl
@[simp] theorem fld85_0 : fld Try.prog 85 0 = some 0 := by kernel_rfl
@[simp] theorem fieldA85_0 : fieldA Try.prog 85 0 = some (47, 0) := by kernel_rfl
@[simp] theorem fld85_1 : fld Try.prog 85 1 = some 4 := by kernel_rfl
@[simp] theorem fieldA85_1 : fieldA Try.prog 85 1 = some (3, 4) := by kernel_rfl
@[simp] theorem fld85_2 : fld Try.prog 85 2 = some 5 := by kernel_rfl
@[simp] theorem fieldA85_2 : fieldA Try.prog 85 2 = some (51, 5) := by kernel_rfl
@[simp] theorem pl85 : plA Try.prog 85 = some [(0, 4), (4, 1), (5, 3)] := by kernel_rfl
@[simp] theorem shp86 : shp Try.prog 86 = some (false, 1) := by kernel_rfl
@[simp] theorem zero86 : zeroA Try.prog 86 = some [.nilFunc] := by kernel_rfl
@[simp] theorem zeroV86 : zeroV Try.prog 86 = some (.nilFunc) := by kernel_rfl
@[simp] theorem tk86 : tk Try.prog 86 = .func := by kernel_rfl
@[simp] theorem shp87 : shp Try.prog 87 = some (false, 1) := by kernel_rfl
@[simp] theorem zero87 : zeroA Try.prog 87 = some [.nilFunc] := by kernel_rfl
@[simp] theorem zeroV87 : zeroV Try.prog 87 = some (.nilFunc) := by kernel_rfl
@[simp] theorem tk87 : tk Try.prog 87 = .func := by kernel_rfl
@[simp] theorem shp88 : shp Try.prog 88 = some (false, 1) := by kernel_rfl
@[simp] theorem zero88 : zeroA Try.prog 88 = some [.nilFunc] := by kernel_rfl
@[simp] theorem zeroV88 : zeroV Try.prog 88 = some (.nilFunc) := by kernel_rfl
@[simp] theorem tk88 : tk Try.prog 88 = .func := by kernel_rfl
@[simp] theorem shp89 : shp Try.prog 89 = some (false, 1) := by kernel_rfl
@[simp] theorem zero89 : zeroA Try.prog 89 = some [.nilFunc] := by kernel_rfl
@[simp] theorem zeroV89 : zeroV Try.prog 89 = some (.nilFunc) := by kernel_rfl
@[simp] theorem tk89 : tk Try.prog 89 = .func := by kernel_rfl
@[simp] theorem shp90 : shp Try.prog 90 = some (false, 1) := by kernel_rfl
@[simp] theorem zero90 : zeroA Try.prog 90 = some [.nilFunc] := by kernel_rfl
@[simp] theorem zeroV90 : zeroV Try.prog 90 = some (.nilFunc) := by kernel_rfl
@[simp] theorem tk90 : tk Try.prog 90 = .func := by kernel_rfl
@[simp] theorem shp91 : shp Try.prog 91 = some (false, 1) := by kernel_rfl
@[simp] theorem zero91 : zeroA Try.prog 91 = some [.nilFunc] := by kernel_rfl
@[simp] theorem zeroV91 : zeroV Try.prog 91 = some (.nilFunc) := by kernel_rfl
@[simp] theorem tk91 : tk Try.prog 91 = .func := by kernel_rfl
@[simp] theorem shp92 : shp Try.prog 92 = some (false, 1) := by kernel_rfl
@[simp] theorem zero92 : zeroA Try.prog 92 = some [.nilFunc] := by kernel_rfl
@[simp] theorem zeroV92 : zeroV Try.prog 92 = some (.nilFunc) := by kernel_rfl
@[simp] theorem tk92 : tk Try.prog 92 = .func := by kernel_rfl
@[simp] theorem shp93 : shp Try.prog 93 = some (true, 2) := by kernel_rfl
@[simp] theorem zero93 : zeroA Try.prog 93 = some [.int .i64 0, .int .i64 0] := by kernel_rfl
@[simp] theorem zeroV93 : zeroV Try.prog 93 = some (.agg #[.int .i64 0, .int .i64 0]) := by kernel_rfl
@[simp] theorem tk93 : tk Try.prog 93 = .other := by kernel_rfl
@[simp] theorem fld93_0 : fld Try.prog 93 0 = some 0 := by kernel_rfl
@[simp] theorem fieldA93_0 : fieldA Try.prog 93 0 = some (3, 0) := by kernel_rfl
@[simp] theorem fld93_1 : fld Try.prog 93 1 = some 1 := by kernel_rfl
@[simp] theorem fieldA93_1 : fieldA Try.prog 93 1 = some (2, 1) := by kernel_rfl
@[simp] theorem pl93 : plA Try.prog 93 = some [(0, 1), (1, 1)] := by kernel_rfl
@[simp] theorem shp94 : shp Try.prog 94 = some (true, 2) := by kernel_rfl
@[simp] theorem zero94 : zeroA Try.prog 94 = some [.int .i64 0, .int .i64 0] := by kernel_rfl
@[simp] theorem zeroV94 : zeroV Try.prog 94 = some (.agg #[.int .i64 0, .int .i64 0]) := by kernel_rfl
@[simp] theorem tk94 : tk Try.prog 94 = .other := by kernel_rfl
@[simp] theorem fld94_0 : fld Try.prog 94 0 = some 0 := by kernel_rfl
@[simp] theorem fieldA94_0 : fieldA Try.prog 94 0 = some (3, 0) := by kernel_rfl
@[simp] theorem fld94_1 : fld Try.prog 94 1 = some 1 := by kernel_rfl
@[simp] theorem fieldA94_1 : fieldA Try.prog 94 1 = some (2, 1) := by kernel_rfl
@[simp] theorem pl94 : plA Try.prog 94 = some [(0, 1), (1, 1)] := by kernel_rfl
@[simp] theorem shp95 : shp Try.prog 95 = some (true, 3) := by kernel_rfl
@[simp] theorem zero95 : zeroA Try.prog 95 = some [.int .i64 0, .int .i64 0, .int .i64 0] := by kernel_rfl
@[simp] theorem zeroV95 : zeroV Try.prog 95 = some (.agg #[.int .i64 0, .int .i64 0, .int .i64 0]) := by kernel_rfl
@[simp] theorem tk95 : tk Try.prog 95 = .other := by kernel_rfl
@[simp] theorem fld95_0 : fld Try.prog 95 0 = some 0 := by kernel_rfl
@[simp] theorem fieldA95_0 : fieldA Try.prog 95 0 = some (3, 0) := by kernel_rfl
@[simp] theorem fld95_1 : fld Try.prog 95 1 = some 1 := by kernel_rfl
@[simp] theorem fieldA95_1 : fieldA Try.prog 95 1 = some (94, 1) := by kernel_rfl
@[simp] theorem pl95 : plA Try.prog 95 = some [(0, 1), (1, 2)] := by kernel_rfl
@[simp] theorem shp96 : shp Try.prog 96 = some (true, 3) := by kernel_rfl
@[simp] theorem zero96 : zeroA Try.prog 96 = some [.int .i64 0, .int .i64 0, .int .i64 0] := by kernel_rfl
@[simp] theorem zeroV96 : zeroV Try.prog 96 = some (.agg #[.int .i64 0, .int .i64 0, .int .i64 0]) := by kernel_rfl
@[simp] theorem tk96 : tk Try.prog 96 = .other := by kernel_rfl
@[simp] theorem fld96_0 : fld Try.prog 96 0 = some 0 := by kernel_rfl
@[simp] theorem fieldA96_0 : fieldA Try.prog 96 0 = some (3, 0) := by kernel_rfl
@[simp] theorem fld96_1 : fld Try.prog 96 1 = some 1 := by kernel_rfl
@[simp] theorem fieldA96_1 : fieldA Try.prog 96 1 = some (94, 1) := by kernel_rfl
@[simp] theorem pl96 : plA Try.prog 96 = some [(0, 1), (1, 2)] := by kernel_rfl
@[simp] theorem shp97 : shp Try.prog 97 = some (false, 1) := by kernel_rfl
@[simp] theorem zero97 : zeroA Try.prog 97 = some [.nilFunc] := by kernel_rfl
@[simp] theorem zeroV97 : zeroV Try.prog 97 = some (.nilFunc) := by kernel_rfl
@[simp] theorem tk97 : tk Try.prog 97 = .func := by kernel_rfl
@[simp] theorem shp98 : shp Try.prog 98 = some (false, 1) := by kernel_rfl
@[simp] theorem zero98 : zeroA Try.prog 98 = some [.nilFunc] := by kernel_rfl
@[simp] theorem zeroV98 : zeroV Try.prog 98 = some (.nilFunc) := by kernel_rfl
@[simp] theorem tk98 : tk Try.prog 98 = .func := by kernel_rfl
@[simp] theorem shp99 : shp Try.prog 99 = some (true, 12) := by kernel_rfl
@[simp] theorem zero99 : zeroA Try.prog 99 = some [.string ⟨#[]⟩, .int .i64 0, .int .i64 0, .string ⟨#[]⟩, .int .i64 0, .int .i64 0, .int .i64 0, .slice none 0 0, .int .i64 0, .int .i64 0, .int .i64 0, .int .i64 0] := by kernel_rfl
@[simp] theorem zeroV99 : zeroV Try.prog 99 = some (.agg #[.string ⟨#[]⟩, .int .i64 0, .int .i64 0, .string ⟨#[]⟩, .int .i64 0, .int .i64 0, .int .i64 0, .slice none 0 0, .int .i64 0, .int .i64 0, .int .i64 0, .int .i64 0]) := by kernel_rfl
@[simp] theorem tk99 : tk Try.prog 99 = .other := by kernel_rfl
@[simp] theorem fld99_0 : fld Try.prog 99 0 = some 0 := by kernel_rfl
@[simp] theorem fieldA99_0 : fieldA Try.prog 99 0 = some (9, 0) := by kernel_rfl
@[simp] theorem fld99_1 : fld Try.prog 99 1 = some 1 := by kernel_rfl
@[simp] theorem fieldA99_1 : fieldA Try.prog 99 1 = some (3, 1) := by kernel_rfl
@[simp] theorem fld99_2 : fld Try.prog 99 2 = some 2 := by kernel_rfl
@[simp] theorem fieldA99_2 : fieldA Try.prog 99 2 = some (3, 2) := by kernel_rfl
@[simp] theorem fld99_3 : fld Try.prog 99 3 = some 3 := by kernel_rfl
@[simp] theorem fieldA99_3 : fieldA Try.prog 99 3 = some (9, 3) := by kernel_rfl
@[simp] theorem fld99_4 : fld Try.prog 99 4 = some 4 := by kernel_rfl
@[simp] theorem fieldA99_4 : fieldA Try.prog 99 4 = some (2, 4) := by kernel_rfl
@[simp] theorem fld99_5 : fld Try.prog 99 5 = some 5 := by kernel_rfl
@[simp] theorem fieldA99_5 : fieldA Try.prog 99 5 = some (2, 5) := by kernel_rfl
@[simp] theorem fld99_6 : fld Try.prog 99 6 = some 6 := by kernel_rfl
@[simp] theorem fieldA99_6 : fieldA Try.prog 99 6 = some (2, 6) := by kernel_rfl
@[simp] theorem fld99_7 : fld Try.prog 99 7 = some 7 := by kernel_rfl
@[simp] theorem fieldA99_7 : fieldA Try.prog 99 7 = some (22, 7) := by kernel_rfl
@[simp] theorem fld99_8 : fld Try.prog 99 8 = some 8 := by kernel_rfl
@[simp] theorem fieldA99_8 : fieldA Try.prog 99 8 = some (94, 8) := by kernel_rfl
@[simp] theorem fld99_9 : fld Try.prog 99 9 = some 10 := by kernel_rfl
@[simp] theorem fieldA99_9 : fieldA Try.prog 99 9 = some (3, 10) := by kernel_rfl
@[simp] theorem fld99_10 : fld Try.prog 99 10 = some 11 := by kernel_rfl
@[simp] theorem fieldA99_10 : fieldA Try.prog 99 10 = some (3, 11) := by kernel_rfl
@[simp] theorem pl99 : plA Try.prog 99 = some [(0, 1), (1, 1), (2, 1), (3, 1), (4, 1), (5, 1), (6, 1), (7, 1), (8, 2), (10, 1), (11, 1)] := by kernel_rfl
@[simp] theorem shp100 : shp Try.prog 100 = some (true, 12) := by kernel_rfl
@[simp] theorem zero100 : zeroA Try.prog 100 = some [.string ⟨#[]⟩, .int .i64 0, .int .i64 0, .string ⟨#[]⟩, .int .i64 0, .int .i64 0, .int .i64 0, .slice none 0 0, .int .i64 0, .int .i64 0, .int .i64 0, .int .i64 0] := by kernel_rfl
@[simp] theorem zeroV100 : zeroV Try.prog 100 = some (.agg #[.string ⟨#[]⟩, .int .i64 0, .int .i64 0, .string ⟨#[]⟩, .int .i64 0, .int .i64 0, .int .i64 0, .slice none 0 0, .int .i64 0, .int .i64 0, .int .i64 0, .int .i64 0]) := by kernel_rfl
@[simp] theorem tk100 : tk Try.prog 100 = .other := by kernel_rfl
@[simp] theorem fld100_0 : fld Try.prog 100 0 = some 0 := by kernel_rfl
@[simp] theorem fieldA100_0 : fieldA Try.prog 100 0 = some (9, 0) := by kernel_rfl
@[simp] theorem fld100_1 : fld Try.prog 100 1 = some 1 := by kernel_rfl
@[simp] theorem fieldA100_1 : fieldA Try.prog 100 1 = some (3, 1) := by kernel_rfl
@[simp] theorem fld100_2 : fld Try.prog 100 2 = some 2 := by kernel_rfl
@[simp] theorem fieldA100_2 : fieldA Try.prog 100 2 = some (3, 2) := by kernel_rfl
@[simp] theorem fld100_3 : fld Try.prog 100 3 = some 3 := by kernel_rfl
@[simp] theorem fieldA100_3 : fieldA Try.prog 100 3 = some (9, 3) := by kernel_rfl
@[simp] theorem fld100_4 : fld Try.prog 100 4 = some 4 := by kernel_rfl
@[simp] theorem fieldA100_4 : fieldA Try.prog 100 4 = some (2, 4) := by kernel_rfl
@[simp] theorem fld100_5 : fld Try.prog 100 5 = some 5 := by kernel_rfl
@[simp] theorem fieldA100_5 : fieldA Try.prog 100 5 = some (2, 5) := by kernel_rfl
@[simp] theorem fld100_6 : fld Try.prog 100 6 = some 6 := by kernel_rfl
@[simp] theorem fieldA100_6 : fieldA Try.prog 100 6 = some (2, 6) := by kernel_rfl
@[simp] theorem fld100_7 : fld Try.prog 100 7 = some 7 := by kernel_rfl
@[simp] theorem fieldA100_7 : fieldA Try.prog 100 7 = some (22, 7) := by kernel_rfl
@[simp] theorem fld100_8 : fld Try.prog 100 8 = some 8 := by kernel_rfl
@[simp] theorem fieldA100_8 : fieldA Try.prog 100 8 = some (94, 8) := by kernel_rfl
@[simp] theorem fld100_9 : fld Try.prog 100 9 = some 10 := by kernel_rfl
@[simp] theorem fieldA100_9 : fieldA Try.prog 100 9 = some (3, 10) := by kernel_rfl
@[simp] theorem fld100_10 : fld Try.prog 100 10 = some 11 := by kernel_rfl
@[simp] theorem fieldA100_10 : fieldA Try.prog 100 10 = some (3, 11) := by kernel_rfl
@[simp] theorem pl100 : plA Try.prog 100 = some [(0, 1), (1, 1), (2, 1), (3, 1), (4, 1), (5, 1), (6, 1), (7, 1), (8, 2), (10, 1), (11, 1)] := by kernel_rfl
@[simp] theorem shp101 : shp Try.prog 101 = some (false, 1) := by kernel_rfl
@[simp] theorem zero101 : zeroA Try.prog 101 = some [.nilFunc] := by kernel_rfl
@[simp] theorem zeroV101 : zeroV Try.prog 101 = some (.nilFunc) := by kernel_rfl
@[simp] theorem tk101 : tk Try.prog 101 = .func := by kernel_rfl
@[simp] theorem shp102 : shp Try.prog 102 = some (false, 1) := by kernel_rfl
@[simp] theorem zero102 : zeroA Try.prog 102 = some [.nilFunc] := by kernel_rfl
@[simp] theorem zeroV102 : zeroV Try.prog 102 = some (.nilFunc) := by kernel_rfl
@[simp] theorem tk102 : tk Try.prog 102 = .func := by kernel_rfl
@[simp] theorem shp103 : shp Try.prog 103 = some (false, 1) := by kernel_rfl
@[simp] theorem zero103 : zeroA Try.prog 103 = some [.nilFunc] := by kernel_rfl
@[simp] theorem zeroV103 : zeroV Try.prog 103 = some (.nilFunc) := by kernel_rfl
@[simp] theorem tk103 : tk Try.prog 103 = .func := by kernel_rfl
@[simp] theorem shp104 : shp Try.prog 104 = some (false, 1) := by kernel_rfl
@[simp] theorem zero104 : zeroA Try.prog 104 = some [.nilFunc] := by kernel_rfl
@[simp] theorem zeroV104 : zeroV Try.prog 104 = some (.nilFunc) := by kernel_rfl
@[simp] theorem tk104 : tk Try.prog 104 = .func := by kernel_rfl
@[simp] theorem shp105 : shp Try.prog 105 = some (false, 1) := by kernel_rfl
@[simp] theorem zero105 : zeroA Try.prog 105 = some [.nilFunc] := by kernel_rfl
@[simp] theorem zeroV105 : zeroV Try.prog 105 = some (.nilFunc) := by kernel_rfl
@[simp] theorem tk105 : tk Try.prog 105 = .func := by kernel_rfl
@[simp] theorem shp106 : shp Try.prog 106 = some (false, 1) := by kernel_rfl
@[simp] theorem zero106 : zeroA Try.prog 106 = some [.nilFunc] := by kernel_rfl
@[simp] theorem zeroV106 : zeroV Try.prog 106 = some (.nilFunc) := by kernel_rfl
@[simp] theorem tk106 : tk Try.prog 106 = .func := by kernel_rfl
@[simp] theorem shp107 : shp Try.prog 107 = some (false, 1) := by kernel_rfl
@[simp] theorem zero107 : zeroA Try.prog 107 = some [.nilFunc] := by kernel_rfl
@[simp] theorem zeroV107 : zeroV Try.prog 107 = some (.nilFunc) := by kernel_rfl
@[simp] theorem tk107 : tk Try.prog 107 = .func := by kernel_rfl
@[simp] theorem shp108 : shp Try.prog 108 = some (false, 1) := by kernel_rfl
@[simp] theorem zero108 : zeroA Try.prog 108 = some [.nilFunc] := by kernel_rfl
@[simp] theorem zeroV108 : zeroV Try.prog 108 = some (.nilFunc) := by kernel_rfl
@[simp] theorem tk108 : tk Try.prog 108 = .func := by kernel_rfl
@[simp] theorem shp109 : shp Try.prog 109 = some (false, 1) := by kernel_rfl
@[simp] theorem zero109 : zeroA Try.prog 109 = some [.nilFunc] := by kernel_rfl
@[simp] theorem zeroV109 : zeroV Try.prog 109 = some (.nilFunc) := by kernel_rfl
@[simp] theorem tk109 : tk Try.prog 109 = .func := by kernel_rfl
@[simp] theorem shp110 : shp Try.prog 110 = some (false, 1) := by kernel_rfl
@[simp] theorem zero110 : zeroA Try.prog 110 = some [.nilFunc] := by kernel_rfl
@[simp] theorem zeroV110 : zeroV Try.prog 110 = some (.nilFunc) := by kernel_rfl
@[simp] theorem tk110 : tk Try.prog 110 = .func := by kernel_rfl
@[simp] theorem shp111 : shp Try.prog 111 = some (true, 2) := by kernel_rfl
@[simp] theorem zero111 : zeroA Try.prog 111 = some [.int .i64 0, .int .i64 0] := by kernel_rfl
@[simp] theorem zeroV111 : zeroV Try.prog 111 = some (.agg #[.int .i64 0, .int .i64 0]) := by kernel_rfl
@[simp] theorem tk111 : tk Try.prog 111 = .array 2 := by kernel_rfl
@[simp] theorem arrT111 : arrT Try.prog 111 = some (3, 2, 1) := by kernel_rfl
@[simp] theorem elemR111 : elemR Try.prog 111 = some (2, 1) := by kernel_rfl
@[simp] theorem pl111 : plA Try.prog 111 = some [(0, 1), (1, 1)] := by kernel_rfl
@[simp] theorem shp112 : shp Try.prog 112 = some (false, 1) := by kernel_rfl
@[simp] theorem zero112 : zeroA Try.prog 112 = some [.slice none 0 0] := by kernel_rfl
@[simp] theorem zeroV112 : zeroV Try.prog 112 = some (.slice none 0 0) := by kernel_rfl
@[simp] theorem tk112 : tk Try.prog 112 = .slice := by kernel_rfl
@[simp] theorem elemS112 : elemS Try.prog 112 = some (111, 2, 16) := by kernel_rfl
@[simp] theorem shp113 : shp Try.prog 113 = some (false, 1) := by kernel_rfl
@[simp] theorem zero113 : zeroA Try.prog 113 = some [.nilFunc] := by kernel_rfl
@[simp] theorem zeroV113 : zeroV Try.prog 113 = some (.nilFunc) := by kernel_rfl
@[simp] theorem tk113 : tk Try.prog 113 = .func := by kernel_rfl
@[simp] theorem shp114 : shp Try.prog 114 = some (false, 1) := by kernel_rfl
@[simp] theorem zero114 : zeroA Try.prog 114 = some [.nilFunc] := by kernel_rfl
@[simp] theorem zeroV114 : zeroV Try.prog 114 = some (.nilFunc) := by kernel_rfl
@[simp] theorem tk114 : tk Try.prog 114 = .func := by kernel_rfl
@[simp] theorem shp115 : shp Try.prog 115 = some (false, 1) := by kernel_rfl
@[simp] theorem zero115 : zeroA Try.prog 115 = some [.nilFunc] := by kernel_rfl
@[simp] theorem zeroV115 : zeroV Try.prog 115 = some (.nilFunc) := by kernel_rfl
@[simp] theorem tk115 : tk Try.prog 115 = .func := by kernel_rfl
@[simp] theorem shp116 : shp Try.prog 116 = some (false, 1) := by kernel_rfl
@[simp] theorem zero116 : zeroA Try.prog 116 = some [.nilFunc] := by kernel_rfl
@[simp] theorem zeroV116 : zeroV Try.prog 116 = some (.nilFunc) := by kernel_rfl
@[simp] theorem tk116 : tk Try.prog 116 = .func := by kernel_rfl
@[simp] theorem shp117 : shp Try.prog 117 = some (false, 1) := by kernel_rfl
@[simp] theorem zero117 : zeroA Try.prog 117 = some [.nilFunc] := by kernel_rfl
@[simp] theorem zeroV117 : zeroV Try.prog 117 = some (.nilFunc) := by kernel_rfl
@[simp] theorem tk117 : tk Try.prog 117 = .func := by kernel_rfl
@[simp] theorem shp118 : shp Try.prog 118 = some (false, 1) := by kernel_rfl
@[simp] theorem zero118 : zeroA Try.prog 118 = some [.nilFunc] := by kernel_rfl
@[simp] theorem zeroV118 : zeroV Try.prog 118 = some (.nilFunc) := by kernel_rfl
@[simp] theorem tk118 : tk Try.prog 118 = .func := by kernel_rfl
@[simp] theorem shp119 : shp Try.prog 119 = some (false, 1) := by kernel_rfl
@[simp] theorem zero119 : zeroA Try.prog 119 = some [.nilFunc] := by kernel_rfl
@[simp] theorem zeroV119 : zeroV Try.prog 119 = some (.nilFunc) := by kernel_rfl
@[simp] theorem tk119 : tk Try.prog 119 = .func := by kernel_rfl
@[simp] theorem shp120 : shp Try.prog 120 = some (false, 1) := by kernel_rfl
@[simp] theorem zero120 : zeroA Try.prog 120 = some [.nilFunc] := by kernel_rfl
@[simp] theorem zeroV120 : zeroV Try.prog 120 = some (.nilFunc) := by kernel_rfl
@[simp] theorem tk120 : tk Try.prog 120 = .func := by kernel_rfl
@[simp] theorem shp121 : shp Try.prog 121 = some (false, 1) := by kernel_rfl
@[simp] theorem zero121 : zeroA Try.prog 121 = some [.nilFunc] := by kernel_rfl
@[simp] theorem zeroV121 : zeroV Try.prog 121 = some (.nilFunc) := by kernel_rfl
@[simp] theorem tk121 : tk Try.prog 121 = .func := by kernel_rfl
@[simp] theorem shp122 : shp Try.prog 122 = some (false, 1) := by kernel_rfl
@[simp] theorem zero122 : zeroA Try.prog 122 = some [.nilFunc] := by kernel_rfl
@[simp] theorem zeroV122 : zeroV Try.prog 122 = some (.nilFunc) := by kernel_rfl
@[simp] theorem tk122 : tk Try.prog 122 = .func := by kernel_rfl
@[simp] theorem shp123 : shp Try.prog 123 = some (false, 1) := by kernel_rfl
@[simp] theorem zero123 : zeroA Try.prog 123 = some [.int .u64 0] := by kernel_rfl
@[simp] theorem zeroV123 : zeroV Try.prog 123 = some (.int .u64 0) := by kernel_rfl
@[simp] theorem tk123 : tk Try.prog 123 = .int := by kernel_rfl
@[simp] theorem shp124 : shp Try.prog 124 = some (false, 1) := by kernel_rfl
@[simp] theorem zero124 : zeroA Try.prog 124 = some [.nilFunc] := by kernel_rfl
@[simp] theorem zeroV124 : zeroV Try.prog 124 = some (.nilFunc) := by kernel_rfl
@[simp] theorem tk124 : tk Try.prog 124 = .func := by kernel_rfl
@[simp] theorem shp125 : shp Try.prog 125 = some (false, 1) := by kernel_rfl
@[simp] theorem zero125 : zeroA Try.prog 125 = some [.int .i64 0] := by kernel_rfl
@[simp] theorem zeroV125 : zeroV Try.prog 125 = some (.int .i64 0) := by kernel_rfl
@[simp] theorem tk125 : tk Try.prog 125 = .int := by kernel_rfl
@[simp] theorem shp127 : shp Try.prog 127 = some (false, 1) := by kernel_rfl
@[simp] theorem zero127 : zeroA Try.prog 127 = some [.nilFunc] := by kernel_rfl
@[simp] theorem zeroV127 : zeroV Try.prog 127 = some (.nilFunc) := by kernel_rfl
@[simp] theorem tk127 : tk Try.prog 127 = .func := by kernel_rfl
@[simp] theorem shp128 : shp Try.prog 128 = some (false, 1) := by kernel_rfl
@[simp] theorem zero128 : zeroA Try.prog 128 = some [.nilFunc] := by kernel_rfl
@[simp] theorem zeroV128 : zeroV Try.prog 128 = some (.nilFunc) := by kernel_rfl
@[simp] theorem tk128 : tk Try.prog 128 = .func := by kernel_rfl
@[simp] theorem shp129 : shp Try.prog 129 = some (false, 1) := by kernel_rfl
@[simp] theorem zero129 : zeroA Try.prog 129 = some [.nilFunc] := by kernel_rfl
@[simp] theorem zeroV129 : zeroV Try.prog 129 = some (.nilFunc) := by kernel_rfl
@[simp] theorem tk129 : tk Try.prog 129 = .func := by kernel_rfl
@[simp] theorem shp130 : shp Try.prog 130 = some (false, 1) := by kernel_rfl
@[simp] theorem zero130 : zeroA Try.prog 130 = some [.nilFunc] := by kernel_rfl
@[simp] theorem zeroV130 : zeroV Try.prog 130 = some (.nilFunc) := by kernel_rfl
@[simp] theorem tk130 : tk Try.prog 130 = .func := by kernel_rfl
@[simp] theorem shp132 : shp Try.prog 132 = some (false, 1) := by kernel_rfl
@[simp] theorem zero132 : zeroA Try.prog 132 = some [.nilFunc] := by kernel_rfl
@[simp] theorem zeroV132 : zeroV Try.prog 132 = some (.nilFunc) := by kernel_rfl
@[simp] theorem tk132 : tk Try.prog 132 = .func := by kernel_rfl
@[simp] theorem shp133 : shp Try.prog 133 = some (false, 1) := by kernel_rfl
@[simp] theorem zero133 : zeroA Try.prog 133 = some [.nilFunc] := by kernel_rfl
@[simp] theorem zeroV133 : zeroV Try.prog 133 = some (.nilFunc) := by kernel_rfl
@[simp] theorem tk133 : tk Try.prog 133 = .func := by kernel_rfl
@[simp] theorem shp134 : shp Try.prog 134 = some (false, 1) := by kernel_rfl
@[simp] theorem zero134 : zeroA Try.prog 134 = some [.int .u32 0] := by kernel_rfl
@[simp] theorem zeroV134 : zeroV Try.prog 134 = some (.int .u32 0) := by kernel_rfl
@[simp] theorem tk134 : tk Try.prog 134 = .int := by kernel_rfl
@[simp] theorem shp135 : shp Try.prog 135 = some (false, 1) := by kernel_rfl
@[simp] theorem zero135 : zeroA Try.prog 135 = some [.nilFunc] := by kernel_rfl
@[simp] theorem zeroV135 : zeroV Try.prog 135 = some (.nilFunc) := by kernel_rfl
@[simp] theorem tk135 : tk Try.prog 135 = .func := by kernel_rfl
@[simp] theorem shp136 : shp Try.prog 136 = some (false, 1) := by kernel_rfl
@[simp] theorem zero136 : zeroA Try.prog 136 = some [.int .u64 0] := by kernel_rfl
@[simp] theorem zeroV136 : zeroV Try.prog 136 = some (.int .u64 0) := by kernel_rfl
@[simp] theorem tk136 : tk Try.prog 136 = .int := by kernel_rfl
@[simp] theorem shp137 : shp Try.prog 137 = some (false, 1) := by kernel_rfl
@[simp] theorem zero137 : zeroA Try.prog 137 = some [.int .u64 0] := by kernel_rfl
@[simp] theorem zeroV137 : zeroV Try.prog 137 = some (.int .u64 0) := by kernel_rfl
@[simp] theorem tk137 : tk Try.prog 137 = .int := by kernel_rfl
@[simp] theorem shp138 : shp Try.prog 138 = some (false, 1) := by kernel_rfl
@[simp] theorem zero138 : zeroA Try.prog 138 = some [.nilFunc] := by kernel_rfl
@[simp] theorem zeroV138 : zeroV Try.prog 138 = some (.nilFunc) := by kernel_rfl
@[simp] theorem tk138 : tk Try.prog 138 = .func := by kernel_rfl
@[simp] theorem shp139 : shp Try.prog 139 = some (false, 1) := by kernel_rfl
@[simp] theorem zero139 : zeroA Try.prog 139 = some [.nilFunc] := by kernel_rfl
@[simp] theorem zeroV139 : zeroV Try.prog 139 = some (.nilFunc) := by kernel_rfl
@[simp] theorem tk139 : tk Try.prog 139 = .func := by kernel_rfl
@[simp] theorem shp140 : shp Try.prog 140 = some (false, 1) := by kernel_rfl
@[simp] theorem zero140 : zeroA Try.prog 140 = some [.nilFunc] := by kernel_rfl
@[simp] theorem zeroV140 : zeroV Try.prog 140 = some (.nilFunc) := by kernel_rfl
@[simp] theorem tk140 : tk Try.prog 140 = .func := by kernel_rfl
@[simp] theorem shp141 : shp Try.prog 141 = some (false, 1) := by kernel_rfl
@[simp] theorem zero141 : zeroA Try.prog 141 = some [.pointer none] := by kernel_rfl
@[simp] theorem zeroV141 : zeroV Try.prog 141 = some (.pointer none) := by kernel_rfl
@[simp] theorem tk141 : tk Try.prog 141 = .pointer := by kernel_rfl
@[simp] theorem shp142 : shp Try.prog 142 = some (false, 1) := by kernel_rfl
@[simp] theorem zero142 : zeroA Try.prog 142 = some [.nilFunc] := by kernel_rfl
@[simp] theorem zeroV142 : zeroV Try.prog 142 = some (.nilFunc) := by kernel_rfl
@[simp] theorem tk142 : tk Try.prog 142 = .func := by kernel_rfl
@[simp] theorem shp143 : shp Try.prog 143 = some (false, 1) := by kernel_rfl
@[simp] theorem zero143 : zeroA Try.prog 143 = some [.pointer none] := by kernel_rfl
@[simp] theorem zeroV143 : zeroV Try.prog 143 = some (.pointer none) := by kernel_rfl
@[simp] theorem tk143 : tk Try.prog 143 = .pointer := by kernel_rfl
@[simp] theorem shp145 : shp Try.prog 145 = some (false, 1) := by kernel_rfl
@[simp] theorem zero145 : zeroA Try.prog 145 = some [.nilFunc] := by kernel_rfl
@[simp] theorem zeroV145 : zeroV Try.prog 145 = some (.nilFunc) := by kernel_rfl
@[simp] theorem tk145 : tk Try.prog 145 = .func := by kernel_rfl
@[simp] theorem shp146 : shp Try.prog 146 = some (false, 1) := by kernel_rfl
@[simp] theorem zero146 : zeroA Try.prog 146 = some [.nilFunc] := by kernel_rfl
@[simp] theorem zeroV146 : zeroV Try.prog 146 = some (.nilFunc) := by kernel_rfl
@[simp] theorem tk146 : tk Try.prog 146 = .func := by kernel_rfl
@[simp] theorem shp147 : shp Try.prog 147 = some (true, 4) := by kernel_rfl
@[simp] theorem zero147 : zeroA Try.prog 147 = some [.pointer none, .pointer none, .pointer none, .string ⟨#[]⟩] := by kernel_rfl
@[simp] theorem zeroV147 : zeroV Try.prog 147 = some (.agg #[.pointer none, .pointer none, .pointer none, .string ⟨#[]⟩]) := by kernel_rfl
@[simp] theorem tk147 : tk Try.prog 147 = .other := by kernel_rfl
@[simp] theorem fld147_0 : fld Try.prog 147 0 = some 0 := by kernel_rfl
@[simp] theorem fieldA147_0 : fieldA Try.prog 147 0 = some (17, 0) := by kernel_rfl
@[simp] theorem fld147_1 : fld Try.prog 147 1 = some 1 := by kernel_rfl
@[simp] theorem fieldA147_1 : fieldA Try.prog 147 1 = some (17, 1) := by kernel_rfl
@[simp] theorem fld147_2 : fld Try.prog 147 2 = some 2 := by kernel_rfl
@[simp] theorem fieldA147_2 : fieldA Try.prog 147 2 = some (17, 2) := by kernel_rfl
@[simp] theorem fld147_3 : fld Try.prog 147 3 = some 3 := by kernel_rfl
@[simp] theorem fieldA147_3 : fieldA Try.prog 147 3 = some (9, 3) := by kernel_rfl
@[simp] theorem pl147 : plA Try.prog 147 = some [(0, 1), (1, 1), (2, 1), (3, 1)] := by kernel_rfl
@[simp] theorem shp148 : shp Try.prog 148 = some (true, 4) := by kernel_rfl
@[simp] theorem zero148 : zeroA Try.prog 148 = some [.pointer none, .pointer none, .pointer none, .string ⟨#[]⟩] := by kernel_rfl
@[simp] theorem zeroV148 : zeroV Try.prog 148 = some (.agg #[.pointer none, .pointer none, .pointer none, .string ⟨#[]⟩]) := by kernel_rfl
@[simp] theorem tk148 : tk Try.prog 148 = .other := by kernel_rfl
@[simp] theorem fld148_0 : fld Try.prog 148 0 = some 0 := by kernel_rfl
@[simp] theorem fieldA148_0 : fieldA Try.prog 148 0 = some (17, 0) := by kernel_rfl
@[simp] theorem fld148_1 : fld Try.prog 148 1 = some 1 := by kernel_rfl
@[simp] theorem fieldA148_1 : fieldA Try.prog 148 1 = some (17, 1) := by kernel_rfl
@[simp] theorem fld148_2 : fld Try.prog 148 2 = some 2 := by kernel_rfl
@[simp] theorem fieldA148_2 : fieldA Try.prog 148 2 = some (17, 2) := by kernel_rfl
@[simp] theorem fld148_3 : fld Try.prog 148 3 = some 3 := by kernel_rfl
@[simp] theorem fieldA148_3 : fieldA Try.prog 148 3 = some (9, 3) := by kernel_rfl
@[simp] theorem pl148 : plA Try.prog 148 = some [(0, 1), (1, 1), (2, 1), (3, 1)] := by kernel_rfl
@[simp] theorem shp149 : shp Try.prog 149 = some (true, 0) := by kernel_rfl
@[simp] theorem zero149 : zeroA Try.prog 149 = some [] := by kernel_rfl
@[simp] theorem tk149 : tk Try.prog 149 = .array 0 := by kernel_rfl
@[simp] theorem arrT149 : arrT Try.prog 149 = some (16, 0, 1) := by kernel_rfl
@[simp] theorem elemR149 : elemR Try.prog 149 = some (0, 1) := by kernel_rfl
@[simp] theorem pl149 : plA Try.prog 149 = some [] := by kernel_rfl
@[simp] theorem shp150 : shp Try.prog 150 = some (true, 0) := by kernel_rfl
@[simp] theorem zero150 : zeroA Try.prog 150 = some [] := by kernel_rfl
@[simp] theorem tk150 : tk Try.prog 150 = .other := by kernel_rfl
@[simp] theorem fieldA150_0 : fieldA Try.prog 150 0 = some (149, 0) := by kernel_rfl
@[simp] theorem pl150 : plA Try.prog 150 = some [(0, 0)] := by kernel_rfl
@[simp] theorem shp151 : shp Try.prog 151 = some (true, 0) := by kernel_rfl
@[simp] theorem zero151 : zeroA Try.prog 151 = some [] := by kernel_rfl
@[simp] theorem tk151 : tk Try.prog 151 = .other := by kernel_rfl
@[simp] theorem fieldA151_0 : fieldA Try.prog 151 0 = some (149, 0) := by kernel_rfl
@[simp] theorem pl151 : plA Try.prog 151 = some [(0, 0)] := by kernel_rfl
@[simp] theorem shp152 : shp Try.prog 152 = some (false, 1) := by kernel_rfl
@[simp] theorem zero152 : zeroA Try.prog 152 = some [.nilFunc] := by kernel_rfl
@[simp] theorem zeroV152 : zeroV Try.prog 152 = some (.nilFunc) := by kernel_rfl
@[simp] theorem tk152 : tk Try.prog 152 = .func := by kernel_rfl
@[simp] theorem shp153 : shp Try.prog 153 = some (false, 1) := by kernel_rfl
@[simp] theorem zero153 : zeroA Try.prog 153 = some [.int .u8 0] := by kernel_rfl
@[simp] theorem zeroV153 : zeroV Try.prog 153 = some (.int .u8 0) := by kernel_rfl
@[simp] theorem tk153 : tk Try.prog 153 = .int := by kernel_rfl
@[simp] theorem shp154 : shp Try.prog 154 = some (false, 1) := by kernel_rfl
@[simp] theorem zero154 : zeroA Try.prog 154 = some [.int .u8 0] := by kernel_rfl
@[simp] theorem zeroV154 : zeroV Try.prog 154 = some (.int .u8 0) := by kernel_rfl
@[simp] theorem tk154 : tk Try.prog 154 = .int := by kernel_rfl
@[simp] theorem shp155 : shp Try.prog 155 = some (false, 1) := by kernel_rfl
@[simp] theorem zero155 : zeroA Try.prog 155 = some [.nilFunc] := by kernel_rfl
@[simp] theorem zeroV155 : zeroV Try.prog 155 = some (.nilFunc) := by kernel_rfl
@[simp] theorem tk155 : tk Try.prog 155 = .func := by kernel_rfl
@[simp] theorem shp156 : shp Try.prog 156 = some (false, 1) := by kernel_rfl
@[simp] theorem zero156 : zeroA Try.prog 156 = some [.pointer none] := by kernel_rfl
@[simp] theorem zeroV156 : zeroV Try.prog 156 = some (.pointer none) := by kernel_rfl
@[simp] theorem tk156 : tk Try.prog 156 = .pointer := by kernel_rfl
@[simp] theorem shp157 : shp Try.prog 157 = some (false, 1) := by kernel_rfl
@[simp] theorem zero157 : zeroA Try.prog 157 = some [.int .i32 0] := by kernel_rfl
@[simp] theorem zeroV157 : zeroV Try.prog 157 = some (.int .i32 0) := by kernel_rfl
@[simp] theorem tk157 : tk Try.prog 157 = .int := by kernel_rfl
@[simp] theorem shp158 : shp Try.prog 158 = some (false, 1) := by kernel_rfl
@[simp] theorem zero158 : zeroA Try.prog 158 = some [.int .i32 0] := by kernel_rfl
@[simp] theorem zeroV158 : zeroV Try.prog 158 = some (.int .i32 0) := by kernel_rfl
@[simp] theorem tk158 : tk Try.prog 158 = .int := by kernel_rfl
@[simp] theorem shp159 : shp Try.prog 159 = some (true, 11) := by kernel_rfl
@[simp] theorem zero159 : zeroA Try.prog 159 = some [.int .u64 0, .int .u64 0, .int .u32 0, .int .u8 0, .int .u8 0, .int .u8 0, .int .u8 0, .nilFunc, .pointer none, .int .i32 0, .int .i32 0] := by kernel_rfl
@[simp] theorem zeroV159 : zeroV Try.prog 159 = some (.agg #[.int .u64 0, .int .u64 0, .int .u32 0, .int .u8 0, .int .u8 0, .int .u8 0, .int .u8 0, .nilFunc, .pointer none, .int .i32 0, .int .i32 0]) := by kernel_rfl
@[simp] theorem tk159 : tk Try.prog 159 = .other := by kernel_rfl
@[simp] theorem fld159_0 : fld Try.prog 159 0 = some 0 := by kernel_rfl
@[simp] theorem fieldA159_0 : fieldA Try.prog 159 0 = some (12, 0) := by kernel_rfl
@[simp] theorem fld159_1 : fld Try.prog 159 1 = some 1 := by kernel_rfl
@[simp] theorem fieldA159_1 : fieldA Try.prog 159 1 = some (12, 1) := by kernel_rfl
@[simp] theorem fld159_2 : fld Try.prog 159 2 = some 2 := by kernel_rfl
@[simp] theorem fieldA159_2 : fieldA Try.prog 159 2 = some (134, 2) := by kernel_rfl
@[simp] theorem fld159_3 : fld Try.prog 159 3 = some 3 := by kernel_rfl
@[simp] theorem fieldA159_3 : fieldA Try.prog 159 3 = some (153, 3) := by kernel_rfl
@[simp] theorem fld159_4 : fld Try.prog 159 4 = some 4 := by kernel_rfl
@[simp] theorem fieldA159_4 : fieldA Try.prog 159 4 = some (5, 4) := by kernel_rfl
@[simp] theorem fld159_5 : fld Try.prog 159 5 = some 5 := by kernel_rfl
@[simp] theorem fieldA159_5 : fieldA Try.prog 159 5 = some (5, 5) := by kernel_rfl
@[simp] theorem fld159_6 : fld Try.prog 159 6 = some 6 := by kernel_rfl
@[simp] theorem fieldA159_6 : fieldA Try.prog 159 6 = some (154, 6) := by kernel_rfl
@[simp] theorem fld159_7 : fld Try.prog 159 7 = some 7 := by kernel_rfl
@[simp] theorem fieldA159_7 : fieldA Try.prog 159 7 = some (155, 7) := by kernel_rfl
@[simp] theorem fld159_8 : fld Try.prog 159 8 = some 8 := by kernel_rfl
@[simp] theorem fieldA159_8 : fieldA Try.prog 159 8 = some (156, 8) := by kernel_rfl
@[simp] theorem fld159_9 : fld Try.prog 159 9 = some 9 := by kernel_rfl
@[simp] theorem fieldA159_9 : fieldA Try.prog 159 9 = some (157, 9) := by kernel_rfl
@[simp] theorem fld159_10 : fld Try.prog 159 10 = some 10 := by kernel_rfl
@[simp] theorem fieldA159_10 : fieldA Try.prog 159 10 = some (158, 10) := by kernel_rfl
@[simp] theorem pl159 : plA Try.prog 159 = some [(0, 1), (1, 1), (2, 1), (3, 1), (4, 1), (5, 1), (6, 1), (7, 1), (8, 1), (9, 1), (10, 1)] := by kernel_rfl
@[simp] theorem shp160 : shp Try.prog 160 = some (true, 11) := by kernel_rfl
@[simp] theorem zero160 : zeroA Try.prog 160 = some [.int .u64 0, .int .u64 0, .int .u32 0, .int .u8 0, .int .u8 0, .int .u8 0, .int .u8 0, .nilFunc, .pointer none, .int .i32 0, .int .i32 0] := by kernel_rfl
@[simp] theorem zeroV160 : zeroV Try.prog 160 = some (.agg #[.int .u64 0, .int .u64 0, .int .u32 0, .int .u8 0, .int .u8 0, .int .u8 0, .int .u8 0, .nilFunc, .pointer none, .int .i32 0, .int .i32 0]) := by kernel_rfl
@[simp] theorem tk160 : tk Try.prog 160 = .other := by kernel_rfl
@[simp] theorem fld160_0 : fld Try.prog 160 0 = some 0 := by kernel_rfl
@[simp] theorem fieldA160_0 : fieldA Try.prog 160 0 = some (12, 0) := by kernel_rfl
@[simp] theorem fld160_1 : fld Try.prog 160 1 = some 1 := by kernel_rfl
@[simp] theorem fieldA160_1 : fieldA Try.prog 160 1 = some (12, 1) := by kernel_rfl
@[simp] theorem fld160_2 : fld Try.prog 160 2 = some 2 := by kernel_rfl
@[simp] theorem fieldA160_2 : fieldA Try.prog 160 2 = some (134, 2) := by kernel_rfl
@[simp] theorem fld160_3 : fld Try.prog 160 3 = some 3 := by kernel_rfl
@[simp] theorem fieldA160_3 : fieldA Try.prog 160 3 = some (153, 3) := by kernel_rfl
@[simp] theorem fld160_4 : fld Try.prog 160 4 = some 4 := by kernel_rfl
@[simp] theorem fieldA160_4 : fieldA Try.prog 160 4 = some (5, 4) := by kernel_rfl
@[simp] theorem fld160_5 : fld Try.prog 160 5 = some 5 := by kernel_rfl
@[simp] theorem fieldA160_5 : fieldA Try.prog 160 5 = some (5, 5) := by kernel_rfl
@[simp] theorem fld160_6 : fld Try.prog 160 6 = some 6 := by kernel_rfl
@[simp] theorem fieldA160_6 : fieldA Try.prog 160 6 = some (154, 6) := by kernel_rfl
@[simp] theorem fld160_7 : fld Try.prog 160 7 = some 7 := by kernel_rfl
@[simp] theorem fieldA160_7 : fieldA Try.prog 160 7 = some (155, 7) := by kernel_rfl
@[simp] theorem fld160_8 : fld Try.prog 160 8 = some 8 := by kernel_rfl
@[simp] theorem fieldA160_8 : fieldA Try.prog 160 8 = some (156, 8) := by kernel_rfl
@[simp] theorem fld160_9 : fld Try.prog 160 9 = some 9 := by kernel_rfl
@[simp] theorem fieldA160_9 : fieldA Try.prog 160 9 = some (157, 9) := by kernel_rfl
@[simp] theorem fld160_10 : fld Try.prog 160 10 = some 10 := by kernel_rfl
@[simp] theorem fieldA160_10 : fieldA Try.prog 160 10 = some (158, 10) := by kernel_rfl
@[simp] theorem pl160 : plA Try.prog 160 = some [(0, 1), (1, 1), (2, 1), (3, 1), (4, 1), (5, 1), (6, 1), (7, 1), (8, 1), (9, 1), (10, 1)] := by kernel_rfl
@[simp] theorem shp161 : shp Try.prog 161 = some (false, 1) := by kernel_rfl
@[simp] theorem zero161 : zeroA Try.prog 161 = some [.pointer none] := by kernel_rfl
@[simp] theorem zeroV161 : zeroV Try.prog 161 = some (.pointer none) := by kernel_rfl
@[simp] theorem tk161 : tk Try.prog 161 = .other := by kernel_rfl
@[simp] theorem ent2 : entB Try.prog 2 = true := by kernel_rfl
@[simp] theorem ent3 : entB Try.prog 3 = true := by kernel_rfl
@[simp] theorem ent4 : entB Try.prog 4 = true := by kernel_rfl
@[simp] theorem ent5 : entB Try.prog 5 = true := by kernel_rfl
@[simp] theorem ent6 : entB Try.prog 6 = true := by kernel_rfl
@[simp] theorem ent7 : entB Try.prog 7 = true := by kernel_rfl
@[simp] theorem ent8 : entB Try.prog 8 = true := by kernel_rfl
@[simp] theorem ent9 : entB Try.prog 9 = true := by kernel_rfl
@[simp] theorem ent10 : entB Try.prog 10 = true := by kernel_rfl
@[simp] theorem ent11 : entB Try.prog 11 = true := by kernel_rfl
@[simp] theorem ent12 : entB Try.prog 12 = true := by kernel_rfl
@[simp] theorem ent13 : entB Try.prog 13 = true := by kernel_rfl
@[simp] theorem ent14 : entB Try.prog 14 = true := by kernel_rfl
@[simp] theorem ent15 : entB Try.prog 15 = true := by kernel_rfl
@[simp] theorem ent16 : entB Try.prog 16 = true := by kernel_rfl
@[simp] theorem ent17 : entB Try.prog 17 = true := by kernel_rfl
@[simp] theorem ent18 : entB Try.prog 18 = true := by kernel_rfl
@[simp] theorem ent19 : entB Try.prog 19 = true := by kernel_rfl
@[simp] theorem ent20 : entB Try.prog 20 = true := by kernel_rfl
@[simp] theorem ent21 : entB Try.prog 21 = true := by kernel_rfl
@[simp] theorem ent22 : entB Try.prog 22 = true := by kernel_rfl
@[simp] theorem ent23 : entB Try.prog 23 = true := by kernel_rfl
@[simp] theorem ent24 : entB Try.prog 24 = true := by kernel_rfl
@[simp] theorem ent25 : entB Try.prog 25 = true := by kernel_rfl
@[simp] theorem ent26 : entB Try.prog 26 = true := by kernel_rfl
@[simp] theorem ent27 : entB Try.prog 27 = true := by kernel_rfl
@[simp] theorem ent28 : entB Try.prog 28 = true := by kernel_rfl
@[simp] theorem ent29 : entB Try.prog 29 = true := by kernel_rfl
@[simp] theorem ent30 : entB Try.prog 30 = true := by kernel_rfl
@[simp] theorem ent31 : entB Try.prog 31 = true := by kernel_rfl
@[simp] theorem ent32 : entB Try.prog 32 = true := by kernel_rfl
@[simp] theorem ent33 : entB Try.prog 33 = true := by kernel_rfl
@[simp] theorem ent34 : entB Try.prog 34 = true := by kernel_rfl
@[simp] theorem ent35 : entB Try.prog 35 = true := by kernel_rfl
@[simp] theorem ent36 : entB Try.prog 36 = true := by kernel_rfl
@[simp] theorem ent37 : entB Try.prog 37 = true := by kernel_rfl
@[simp] theorem ent38 : entB Try.prog 38 = true := by kernel_rfl
@[simp] theorem ent39 : entB Try.prog 39 = true := by kernel_rfl
@[simp] theorem ent40 : entB Try.prog 40 = true := by kernel_rfl
@[simp] theorem ent41 : entB Try.prog 41 = true := by kernel_rfl
@[simp] theorem ent42 : entB Try.prog 42 = true := by kernel_rfl
@[simp] theorem ent43 : entB Try.prog 43 = true := by kernel_rfl
@[simp] theorem ent44 : entB Try.prog 44 = true := by kernel_rfl
@[simp] theorem ent45 : entB Try.prog 45 = true := by kernel_rfl
@[simp] theorem ent46 : entB Try.prog 46 = true := by kernel_rfl
@[simp] theorem ent47 : entB Try.prog 47 = true := by kernel_rfl
@[simp] theorem ent48 : entB Try.prog 48 = true := by kernel_rfl
@[simp] theorem ent49 : entB Try.prog 49 = true := by kernel_rfl
@[simp] theorem ent50 : entB Try.prog 50 = true := by kernel_rfl
@[simp] theorem ent51 : entB Try.prog 51 = true := by kernel_rfl
@[simp] theorem ent52 : entB Try.prog 52 = true := by kernel_rfl
@[simp] theorem ent53 : entB Try.prog 53 = true := by kernel_rfl
@[simp] theorem ent54 : entB Try.prog 54 = true := by kernel_rfl
@[simp] theorem ent55 : entB Try.prog 55 = true := by kernel_rfl
@[simp] theorem ent56 : entB Try.prog 56 = true := by kernel_rfl
@[simp] theorem ent57 : entB Try.prog 57 = true := by kernel_rfl
@[simp] theorem ent58 : entB Try.prog 58 = true := by kernel_rfl
@[simp] theorem ent59 : entB Try.prog 59 = true := by kernel_rfl
@[simp] theorem ent60 : entB Try.prog 60 = true := by kernel_rfl
@[simp] theorem ent61 : entB Try.prog 61 = true := by kernel_rfl
@[simp] theorem ent62 : entB Try.prog 62 = true := by kernel_rfl
@[simp] theorem ent63 : entB Try.prog 63 = true := by kernel_rfl
@[simp] theorem ent64 : entB Try.prog 64 = true := by kernel_rfl
@[simp] theorem ent65 : entB Try.prog 65 = true := by kernel_rfl
@[simp] theorem ent66 : entB Try.prog 66 = true := by kernel_rfl
@[simp] theorem ent67 : entB Try.prog 67 = true := by kernel_rfl
@[simp] theorem ent68 : entB Try.prog 68 = true := by kernel_rfl
@[simp] theorem ent69 : entB Try.prog 69 = true := by kernel_rfl
@[simp] theorem ent70 : entB Try.prog 70 = true := by kernel_rfl
@[simp] theorem ent71 : entB Try.prog 71 = true := by kernel_rfl
@[simp] theorem ent72 : entB Try.prog 72 = true := by kernel_rfl
@[simp] theorem ent73 : entB Try.prog 73 = true := by kernel_rfl
@[simp] theorem ent74 : entB Try.prog 74 = true := by kernel_rfl
@[simp] theorem ent75 : entB Try.prog 75 = true := by kernel_rfl
@[simp] theorem ent76 : entB Try.prog 76 = true := by kernel_rfl
@[simp] theorem ent77 : entB Try.prog 77 = true := by kernel_rfl
@[simp] theorem ent78 : entB Try.prog 78 = true := by kernel_rfl
@[simp] theorem ent79 : entB Try.prog 79 = true := by kernel_rfl
@[simp] theorem ent80 : entB Try.prog 80 = true := by kernel_rfl
@[simp] theorem ent81 : entB Try.prog 81 = true := by kernel_rfl
@[simp] theorem ent82 : entB Try.prog 82 = true := by kernel_rfl
@[simp] theorem ent83 : entB Try.prog 83 = true := by kernel_rfl
@[simp] theorem ent84 : entB Try.prog 84 = true := by kernel_rfl
@[simp] theorem ent85 : entB Try.prog 85 = true := by kernel_rfl
@[simp] theorem ent86 : entB Try.prog 86 = true := by kernel_rfl
@[simp] theorem ent87 : entB Try.prog 87 = true := by kernel_rfl
@[simp] theorem ent88 : entB Try.prog 88 = true := by kernel_rfl
@[simp] theorem ent89 : entB Try.prog 89 = true := by kernel_rfl
@[simp] theorem ent90 : entB Try.prog 90 = true := by kernel_rfl
@[simp] theorem ent91 : entB Try.prog 91 = true := by kernel_rfl
@[simp] theorem ent92 : entB Try.prog 92 = true := by kernel_rfl
@[simp] theorem ent93 : entB Try.prog 93 = true := by kernel_rfl
@[simp] theorem ent94 : entB Try.prog 94 = true := by kernel_rfl
@[simp] theorem ent95 : entB Try.prog 95 = true := by kernel_rfl
@[simp] theorem ent96 : entB Try.prog 96 = true := by kernel_rfl
@[simp] theorem ent97 : entB Try.prog 97 = true := by kernel_rfl
@[simp] theorem ent98 : entB Try.prog 98 = true := by kernel_rfl
@[simp] theorem ent99 : entB Try.prog 99 = true := by kernel_rfl
@[simp] theorem ent100 : entB Try.prog 100 = true := by kernel_rfl
@[simp] theorem ent101 : entB Try.prog 101 = true := by kernel_rfl
@[simp] theorem ent102 : entB Try.prog 102 = true := by kernel_rfl
@[simp] theorem ent103 : entB Try.prog 103 = true := by kernel_rfl
@[simp] theorem ent104 : entB Try.prog 104 = true := by kernel_rfl
@[simp] theorem ent105 : entB Try.prog 105 = true := by kernel_rfl
@[simp] theorem cvt3_123 : cvt Try.prog 3 123 = some (some .u64) := by kernel_rfl
@[simp] theorem conv3_123 {v : Value} : convA Try.prog 3 123 v = convV v (some .u64) := convA_eq cvt3_123
@[simp] theorem cvt3_137 : cvt Try.prog 3 137 = some (some .u64) := by kernel_rfl
@[simp] theorem conv3_137 {v : Value} : convA Try.prog 3 137 v = convV v (some .u64) := convA_eq cvt3_137
@[simp] theorem cvt5_3 : cvt Try.prog 5 3 = some (some .i64) := by kernel_rfl
@[simp] theorem conv5_3 {v : Value} : convA Try.prog 5 3 v = convV v (some .i64) := convA_eq cvt5_3
@[simp] theorem cvt123_3 : cvt Try.prog 123 3 = some (some .i64) := by kernel_rfl
@[simp] theorem conv123_3 {v : Value} : convA Try.prog 123 3 v = convV v (some .i64) := convA_eq cvt123_3
@[simp] theorem cvt123_134 : cvt Try.prog 123 134 = some (some .u32) := by kernel_rfl
@[simp] theorem conv123_134 {v : Value} : convA Try.prog 123 134 v = convV v (some .u32) := convA_eq cvt123_134
@[simp] theorem cvt134_5 : cvt Try.prog 134 5 = some (some .u8) := by kernel_rfl
@[simp] theorem conv134_5 {v : Value} : convA Try.prog 134 5 v = convV v (some .u8) := convA_eq cvt134_5
@[simp] theorem cvt136_5 : cvt Try.prog 136 5 = some (some .u8) := by kernel_rfl
@[simp] theorem conv136_5 {v : Value} : convA Try.prog 136 5 v = convV v (some .u8) := convA_eq cvt136_5
theorem eqr29 {x0 y0 : Int} {x1 y1 : Int} : EqRun Try.prog 29 [.int .i64 x0, .int .i64 x1] [.int .i64 y0, .int .i64 y1] (decide (x0 = y0 ∧ x1 = y1)) := by
  refine ⟨by simp [flat], by simp [flat], by kernel_rfl, fun w => ?_⟩
  unfold Op.equal Op.maxDepth
  simp [go_sem, str_beq]
  repeat' split
  all_goals simp_all
@[simp ↓] theorem eql29 {x0 y0 : Int} {x1 y1 : Int} {k : Value → Prop} : binK Try.prog .eql 29 (.agg #[.int .i64 x0, .int .i64 x1]) (.agg #[.int .i64 y0, .int .i64 y1]) k = k (.bool (decide (x0 = y0 ∧ x1 = y1))) := EqRun.eql eqr29
attribute [simp] eql29
@[simp ↓] theorem neq29 {x0 y0 : Int} {x1 y1 : Int} {k : Value → Prop} : binK Try.prog .neq 29 (.agg #[.int .i64 x0, .int .i64 x1]) (.agg #[.int .i64 y0, .int .i64 y1]) k = k (.bool !(decide (x0 = y0 ∧ x1 = y1))) := EqRun.neq eqr29
attribute [simp] neq29
theorem eqr49 {x0 y0 : Int} {x1 y1 : ByteArray} {x2 y2 : Int} {x3 y3 : Int} : EqRun Try.prog 49 [.int .i64 x0, .string x1, .int .i64 x2, .int .i64 x3] [.int .i64 y0, .string y1, .int .i64 y2, .int .i64 y3] (decide (x0 = y0 ∧ x1 = y1 ∧ x2 = y2 ∧ x3 = y3)) := by
  refine ⟨by simp [flat], by simp [flat], by kernel_rfl, fun w => ?_⟩
  unfold Op.equal Op.maxDepth
  simp [go_sem, str_beq]
  repeat' split
  all_goals simp_all
@[simp ↓] theorem eql49 {x0 y0 : Int} {x1 y1 : ByteArray} {x2 y2 : Int} {x3 y3 : Int} {k : Value → Prop} : binK Try.prog .eql 49 (.agg #[.int .i64 x0, .string x1, .int .i64 x2, .int .i64 x3]) (.agg #[.int .i64 y0, .string y1, .int .i64 y2, .int .i64 y3]) k = k (.bool (decide (x0 = y0 ∧ x1 = y1 ∧ x2 = y2 ∧ x3 = y3))) := EqRun.eql eqr49
attribute [simp] eql49
@[simp ↓] theorem neq49 {x0 y0 : Int} {x1 y1 : ByteArray} {x2 y2 : Int} {x3 y3 : Int} {k : Value → Prop} : binK Try.prog .neq 49 (.agg #[.int .i64 x0, .string x1, .int .i64 x2, .int .i64 x3]) (.agg #[.int .i64 y0, .string y1, .int .i64 y2, .int .i64 y3]) k = k (.bool !(decide (x0 = y0 ∧ x1 = y1 ∧ x2 = y2 ∧ x3 = y3))) := EqRun.neq eqr49
attribute [simp] neq49
theorem eqr51 {x0 y0 : Int} {x1 y1 : Int} {x2 y2 : Int} : EqRun Try.prog 51 [.int .i64 x0, .int .i64 x1, .int .i64 x2] [.int .i64 y0, .int .i64 y1, .int .i64 y2] (decide (x0 = y0 ∧ x1 = y1 ∧ x2 = y2)) := by
  refine ⟨by simp [flat], by simp [flat], by kernel_rfl, fun w => ?_⟩
  unfold Op.equal Op.maxDepth
  simp [go_sem, str_beq]
  repeat' split
  all_goals simp_all
@[simp ↓] theorem eql51 {x0 y0 : Int} {x1 y1 : Int} {x2 y2 : Int} {k : Value → Prop} : binK Try.prog .eql 51 (.agg #[.int .i64 x0, .int .i64 x1, .int .i64 x2]) (.agg #[.int .i64 y0, .int .i64 y1, .int .i64 y2]) k = k (.bool (decide (x0 = y0 ∧ x1 = y1 ∧ x2 = y2))) := EqRun.eql eqr51
attribute [simp] eql51
@[simp ↓] theorem neq51 {x0 y0 : Int} {x1 y1 : Int} {x2 y2 : Int} {k : Value → Prop} : binK Try.prog .neq 51 (.agg #[.int .i64 x0, .int .i64 x1, .int .i64 x2]) (.agg #[.int .i64 y0, .int .i64 y1, .int .i64 y2]) k = k (.bool !(decide (x0 = y0 ∧ x1 = y1 ∧ x2 = y2))) := EqRun.neq eqr51
attribute [simp] neq51
theorem eqr94 {x0 y0 : Int} {x1 y1 : Int} : EqRun Try.prog 94 [.int .i64 x0, .int .i64 x1] [.int .i64 y0, .int .i64 y1] (decide (x0 = y0 ∧ x1 = y1)) := by
  refine ⟨by simp [flat], by simp [flat], by kernel_rfl, fun w => ?_⟩
  unfold Op.equal Op.maxDepth
  simp [go_sem, str_beq]
  repeat' split
  all_goals simp_all
@[simp ↓] theorem eql94 {x0 y0 : Int} {x1 y1 : Int} {k : Value → Prop} : binK Try.prog .eql 94 (.agg #[.int .i64 x0, .int .i64 x1]) (.agg #[.int .i64 y0, .int .i64 y1]) k = k (.bool (decide (x0 = y0 ∧ x1 = y1))) := EqRun.eql eqr94
attribute [simp] eql94
@[simp ↓] theorem neq94 {x0 y0 : Int} {x1 y1 : Int} {k : Value → Prop} : binK Try.prog .neq 94 (.agg #[.int .i64 x0, .int .i64 x1]) (.agg #[.int .i64 y0, .int .i64 y1]) k = k (.bool !(decide (x0 = y0 ∧ x1 = y1))) := EqRun.neq eqr94
attribute [simp] neq94
end Go.Aw.Tab
