/-
  The types and functions of this seat, as the abstract machine asks for them. Printed by tab.py.
-/
import Derived.Test.YtjjapgagcepmfaaAw12
import Derived.Test.YtjjapgagcepmfaaProg
import Derived.KernelRfl
import Derived.Laws.StructEq
import Derived.ChangeKeysEq
namespace Go.Aw.Tab
open Go.Proofs Go.RowKit

set_option linter.unusedSimpArgs false
set_option maxHeartbeats 1000000
@[simp] theorem shp1 : shp Try.prog 1 = some (false, 1) := by kernel_rfl
@[simp] theorem zero1 : zeroA Try.prog 1 = some [.nilFunc] := by kernel_rfl
@[simp] theorem tk1 : tk Try.prog 1 = .func := by kernel_rfl
@[simp] theorem shp2 : shp Try.prog 2 = some (false, 1) := by kernel_rfl
@[simp] theorem zero2 : zeroA Try.prog 2 = some [.int .i64 0] := by kernel_rfl
@[simp] theorem tk2 : tk Try.prog 2 = .int := by kernel_rfl
@[simp] theorem shp3 : shp Try.prog 3 = some (false, 1) := by kernel_rfl
@[simp] theorem zero3 : zeroA Try.prog 3 = some [.int .i64 0] := by kernel_rfl
@[simp] theorem tk3 : tk Try.prog 3 = .int := by kernel_rfl
@[simp] theorem shp4 : shp Try.prog 4 = some (false, 1) := by kernel_rfl
@[simp] theorem zero4 : zeroA Try.prog 4 = some [.bool false] := by kernel_rfl
@[simp] theorem tk4 : tk Try.prog 4 = .bool := by kernel_rfl
@[simp] theorem shp5 : shp Try.prog 5 = some (false, 1) := by kernel_rfl
@[simp] theorem zero5 : zeroA Try.prog 5 = some [.int .u8 0] := by kernel_rfl
@[simp] theorem tk5 : tk Try.prog 5 = .int := by kernel_rfl
@[simp] theorem shp6 : shp Try.prog 6 = some (false, 1) := by kernel_rfl
@[simp] theorem zero6 : zeroA Try.prog 6 = some [.int .u8 0] := by kernel_rfl
@[simp] theorem tk6 : tk Try.prog 6 = .int := by kernel_rfl
@[simp] theorem shp7 : shp Try.prog 7 = some (true, 4) := by kernel_rfl
@[simp] theorem zero7 : zeroA Try.prog 7 = some [.int .i64 0, .int .i64 0, .bool false, .int .u8 0] := by kernel_rfl
@[simp] theorem tk7 : tk Try.prog 7 = .other := by kernel_rfl
@[simp] theorem fld7_0 : fld Try.prog 7 0 = some 0 := by kernel_rfl
@[simp] theorem fieldA7_0 : fieldA Try.prog 7 0 = some (2, 0) := by kernel_rfl
@[simp] theorem fld7_1 : fld Try.prog 7 1 = some 1 := by kernel_rfl
@[simp] theorem fieldA7_1 : fieldA Try.prog 7 1 = some (3, 1) := by kernel_rfl
@[simp] theorem fld7_2 : fld Try.prog 7 2 = some 2 := by kernel_rfl
@[simp] theorem fieldA7_2 : fieldA Try.prog 7 2 = some (4, 2) := by kernel_rfl
@[simp] theorem fld7_3 : fld Try.prog 7 3 = some 3 := by kernel_rfl
@[simp] theorem fieldA7_3 : fieldA Try.prog 7 3 = some (6, 3) := by kernel_rfl
@[simp] theorem pl7 : plA Try.prog 7 = some [(0, 1), (1, 1), (2, 1), (3, 1)] := by kernel_rfl
@[simp] theorem shp8 : shp Try.prog 8 = some (true, 4) := by kernel_rfl
@[simp] theorem zero8 : zeroA Try.prog 8 = some [.int .i64 0, .int .i64 0, .bool false, .int .u8 0] := by kernel_rfl
@[simp] theorem tk8 : tk Try.prog 8 = .other := by kernel_rfl
@[simp] theorem fld8_0 : fld Try.prog 8 0 = some 0 := by kernel_rfl
@[simp] theorem fieldA8_0 : fieldA Try.prog 8 0 = some (2, 0) := by kernel_rfl
@[simp] theorem fld8_1 : fld Try.prog 8 1 = some 1 := by kernel_rfl
@[simp] theorem fieldA8_1 : fieldA Try.prog 8 1 = some (3, 1) := by kernel_rfl
@[simp] theorem fld8_2 : fld Try.prog 8 2 = some 2 := by kernel_rfl
@[simp] theorem fieldA8_2 : fieldA Try.prog 8 2 = some (4, 2) := by kernel_rfl
@[simp] theorem fld8_3 : fld Try.prog 8 3 = some 3 := by kernel_rfl
@[simp] theorem fieldA8_3 : fieldA Try.prog 8 3 = some (6, 3) := by kernel_rfl
@[simp] theorem pl8 : plA Try.prog 8 = some [(0, 1), (1, 1), (2, 1), (3, 1)] := by kernel_rfl
@[simp] theorem shp9 : shp Try.prog 9 = some (false, 1) := by kernel_rfl
@[simp] theorem zero9 : zeroA Try.prog 9 = some [.string ⟨#[]⟩] := by kernel_rfl
@[simp] theorem tk9 : tk Try.prog 9 = .string := by kernel_rfl
@[simp] theorem shp10 : shp Try.prog 10 = some (false, 1) := by kernel_rfl
@[simp] theorem zero10 : zeroA Try.prog 10 = some [.string ⟨#[]⟩] := by kernel_rfl
@[simp] theorem tk10 : tk Try.prog 10 = .string := by kernel_rfl
@[simp] theorem shp11 : shp Try.prog 11 = some (false, 1) := by kernel_rfl
@[simp] theorem zero11 : zeroA Try.prog 11 = some [.string ⟨#[]⟩] := by kernel_rfl
@[simp] theorem tk11 : tk Try.prog 11 = .string := by kernel_rfl
@[simp] theorem shp12 : shp Try.prog 12 = some (false, 1) := by kernel_rfl
@[simp] theorem zero12 : zeroA Try.prog 12 = some [.int .u64 0] := by kernel_rfl
@[simp] theorem tk12 : tk Try.prog 12 = .int := by kernel_rfl
@[simp] theorem shp13 : shp Try.prog 13 = some (true, 2) := by kernel_rfl
@[simp] theorem zero13 : zeroA Try.prog 13 = some [.string ⟨#[]⟩, .int .u64 0] := by kernel_rfl
@[simp] theorem tk13 : tk Try.prog 13 = .other := by kernel_rfl
@[simp] theorem fld13_0 : fld Try.prog 13 0 = some 0 := by kernel_rfl
@[simp] theorem fieldA13_0 : fieldA Try.prog 13 0 = some (9, 0) := by kernel_rfl
@[simp] theorem fld13_1 : fld Try.prog 13 1 = some 1 := by kernel_rfl
@[simp] theorem fieldA13_1 : fieldA Try.prog 13 1 = some (12, 1) := by kernel_rfl
@[simp] theorem pl13 : plA Try.prog 13 = some [(0, 1), (1, 1)] := by kernel_rfl
@[simp] theorem shp14 : shp Try.prog 14 = some (true, 2) := by kernel_rfl
@[simp] theorem zero14 : zeroA Try.prog 14 = some [.string ⟨#[]⟩, .int .u64 0] := by kernel_rfl
@[simp] theorem tk14 : tk Try.prog 14 = .other := by kernel_rfl
@[simp] theorem fld14_0 : fld Try.prog 14 0 = some 0 := by kernel_rfl
@[simp] theorem fieldA14_0 : fieldA Try.prog 14 0 = some (9, 0) := by kernel_rfl
@[simp] theorem fld14_1 : fld Try.prog 14 1 = some 1 := by kernel_rfl
@[simp] theorem fieldA14_1 : fieldA Try.prog 14 1 = some (12, 1) := by kernel_rfl
@[simp] theorem pl14 : plA Try.prog 14 = some [(0, 1), (1, 1)] := by kernel_rfl
@[simp] theorem shp15 : shp Try.prog 15 = some (false, 1) := by kernel_rfl
@[simp] theorem zero15 : zeroA Try.prog 15 = some [.pointer none] := by kernel_rfl
@[simp] theorem tk15 : tk Try.prog 15 = .pointer := by kernel_rfl
@[simp] theorem shp16 : shp Try.prog 16 = some (false, 1) := by kernel_rfl
@[simp] theorem zero16 : zeroA Try.prog 16 = some [.pointer none] := by kernel_rfl
@[simp] theorem tk16 : tk Try.prog 16 = .pointer := by kernel_rfl
@[simp] theorem shp17 : shp Try.prog 17 = some (false, 1) := by kernel_rfl
@[simp] theorem zero17 : zeroA Try.prog 17 = some [.pointer none] := by kernel_rfl
@[simp] theorem tk17 : tk Try.prog 17 = .pointer := by kernel_rfl
@[simp] theorem shp18 : shp Try.prog 18 = some (true, 1) := by kernel_rfl
@[simp] theorem zero18 : zeroA Try.prog 18 = some [.pointer none] := by kernel_rfl
@[simp] theorem tk18 : tk Try.prog 18 = .other := by kernel_rfl
@[simp] theorem fld18_0 : fld Try.prog 18 0 = some 0 := by kernel_rfl
@[simp] theorem fieldA18_0 : fieldA Try.prog 18 0 = some (17, 0) := by kernel_rfl
@[simp] theorem pl18 : plA Try.prog 18 = some [(0, 1)] := by kernel_rfl
@[simp] theorem shp19 : shp Try.prog 19 = some (true, 1) := by kernel_rfl
@[simp] theorem zero19 : zeroA Try.prog 19 = some [.pointer none] := by kernel_rfl
@[simp] theorem tk19 : tk Try.prog 19 = .other := by kernel_rfl
@[simp] theorem fld19_0 : fld Try.prog 19 0 = some 0 := by kernel_rfl
@[simp] theorem fieldA19_0 : fieldA Try.prog 19 0 = some (17, 0) := by kernel_rfl
@[simp] theorem pl19 : plA Try.prog 19 = some [(0, 1)] := by kernel_rfl
@[simp] theorem shp20 : shp Try.prog 20 = some (false, 1) := by kernel_rfl
@[simp] theorem zero20 : zeroA Try.prog 20 = some [.nilIface] := by kernel_rfl
@[simp] theorem tk20 : tk Try.prog 20 = .other := by kernel_rfl
@[simp] theorem shp21 : shp Try.prog 21 = some (false, 1) := by kernel_rfl
@[simp] theorem zero21 : zeroA Try.prog 21 = some [.int .i32 0] := by kernel_rfl
@[simp] theorem tk21 : tk Try.prog 21 = .int := by kernel_rfl
@[simp] theorem shp22 : shp Try.prog 22 = some (false, 1) := by kernel_rfl
@[simp] theorem zero22 : zeroA Try.prog 22 = some [.slice none 0 0] := by kernel_rfl
@[simp] theorem tk22 : tk Try.prog 22 = .slice := by kernel_rfl
@[simp] theorem elemS22 : elemS Try.prog 22 = some (25, 4, 40) := by kernel_rfl
@[simp] theorem shp23 : shp Try.prog 23 = some (false, 1) := by kernel_rfl
@[simp] theorem zero23 : zeroA Try.prog 23 = some [.nilFunc] := by kernel_rfl
@[simp] theorem tk23 : tk Try.prog 23 = .func := by kernel_rfl
@[simp] theorem shp24 : shp Try.prog 24 = some (true, 4) := by kernel_rfl
@[simp] theorem zero24 : zeroA Try.prog 24 = some [.int .i64 0, .int .i64 0, .int .i64 0, .string ⟨#[]⟩] := by kernel_rfl
@[simp] theorem tk24 : tk Try.prog 24 = .other := by kernel_rfl
@[simp] theorem fld24_0 : fld Try.prog 24 0 = some 0 := by kernel_rfl
@[simp] theorem fieldA24_0 : fieldA Try.prog 24 0 = some (3, 0) := by kernel_rfl
@[simp] theorem fld24_1 : fld Try.prog 24 1 = some 1 := by kernel_rfl
@[simp] theorem fieldA24_1 : fieldA Try.prog 24 1 = some (3, 1) := by kernel_rfl
@[simp] theorem fld24_2 : fld Try.prog 24 2 = some 2 := by kernel_rfl
@[simp] theorem fieldA24_2 : fieldA Try.prog 24 2 = some (3, 2) := by kernel_rfl
@[simp] theorem fld24_3 : fld Try.prog 24 3 = some 3 := by kernel_rfl
@[simp] theorem fieldA24_3 : fieldA Try.prog 24 3 = some (9, 3) := by kernel_rfl
@[simp] theorem pl24 : plA Try.prog 24 = some [(0, 1), (1, 1), (2, 1), (3, 1)] := by kernel_rfl
@[simp] theorem shp25 : shp Try.prog 25 = some (true, 4) := by kernel_rfl
@[simp] theorem zero25 : zeroA Try.prog 25 = some [.int .i64 0, .int .i64 0, .int .i64 0, .string ⟨#[]⟩] := by kernel_rfl
@[simp] theorem tk25 : tk Try.prog 25 = .other := by kernel_rfl
@[simp] theorem fld25_0 : fld Try.prog 25 0 = some 0 := by kernel_rfl
@[simp] theorem fieldA25_0 : fieldA Try.prog 25 0 = some (3, 0) := by kernel_rfl
@[simp] theorem fld25_1 : fld Try.prog 25 1 = some 1 := by kernel_rfl
@[simp] theorem fieldA25_1 : fieldA Try.prog 25 1 = some (3, 1) := by kernel_rfl
@[simp] theorem fld25_2 : fld Try.prog 25 2 = some 2 := by kernel_rfl
@[simp] theorem fieldA25_2 : fieldA Try.prog 25 2 = some (3, 2) := by kernel_rfl
@[simp] theorem fld25_3 : fld Try.prog 25 3 = some 3 := by kernel_rfl
@[simp] theorem fieldA25_3 : fieldA Try.prog 25 3 = some (9, 3) := by kernel_rfl
@[simp] theorem pl25 : plA Try.prog 25 = some [(0, 1), (1, 1), (2, 1), (3, 1)] := by kernel_rfl
@[simp] theorem shp26 : shp Try.prog 26 = some (true, 5) := by kernel_rfl
@[simp] theorem zero26 : zeroA Try.prog 26 = some [.int .i64 0, .int .i64 0, .int .i64 0, .int .i64 0, .string ⟨#[]⟩] := by kernel_rfl
@[simp] theorem tk26 : tk Try.prog 26 = .other := by kernel_rfl
@[simp] theorem fld26_0 : fld Try.prog 26 0 = some 0 := by kernel_rfl
@[simp] theorem fieldA26_0 : fieldA Try.prog 26 0 = some (3, 0) := by kernel_rfl
@[simp] theorem fld26_1 : fld Try.prog 26 1 = some 1 := by kernel_rfl
@[simp] theorem fieldA26_1 : fieldA Try.prog 26 1 = some (25, 1) := by kernel_rfl
@[simp] theorem pl26 : plA Try.prog 26 = some [(0, 1), (1, 4)] := by kernel_rfl
@[simp] theorem shp27 : shp Try.prog 27 = some (true, 5) := by kernel_rfl
@[simp] theorem zero27 : zeroA Try.prog 27 = some [.int .i64 0, .int .i64 0, .int .i64 0, .int .i64 0, .string ⟨#[]⟩] := by kernel_rfl
@[simp] theorem tk27 : tk Try.prog 27 = .other := by kernel_rfl
@[simp] theorem fld27_0 : fld Try.prog 27 0 = some 0 := by kernel_rfl
@[simp] theorem fieldA27_0 : fieldA Try.prog 27 0 = some (3, 0) := by kernel_rfl
@[simp] theorem fld27_1 : fld Try.prog 27 1 = some 1 := by kernel_rfl
@[simp] theorem fieldA27_1 : fieldA Try.prog 27 1 = some (25, 1) := by kernel_rfl
@[simp] theorem pl27 : plA Try.prog 27 = some [(0, 1), (1, 4)] := by kernel_rfl
@[simp] theorem shp28 : shp Try.prog 28 = some (false, 1) := by kernel_rfl
@[simp] theorem zero28 : zeroA Try.prog 28 = some [.nilFunc] := by kernel_rfl
@[simp] theorem tk28 : tk Try.prog 28 = .func := by kernel_rfl
@[simp] theorem shp29 : shp Try.prog 29 = some (false, 1) := by kernel_rfl
@[simp] theorem zero29 : zeroA Try.prog 29 = some [.nilFunc] := by kernel_rfl
@[simp] theorem tk29 : tk Try.prog 29 = .func := by kernel_rfl
@[simp] theorem shp30 : shp Try.prog 30 = some (false, 1) := by kernel_rfl
@[simp] theorem zero30 : zeroA Try.prog 30 = some [.slice none 0 0] := by kernel_rfl
@[simp] theorem tk30 : tk Try.prog 30 = .slice := by kernel_rfl
@[simp] theorem elemS30 : elemS Try.prog 30 = some (37, 2, 32) := by kernel_rfl
@[simp] theorem shp31 : shp Try.prog 31 = some (false, 1) := by kernel_rfl
@[simp] theorem zero31 : zeroA Try.prog 31 = some [.nilFunc] := by kernel_rfl
@[simp] theorem tk31 : tk Try.prog 31 = .func := by kernel_rfl
@[simp] theorem shp32 : shp Try.prog 32 = some (false, 1) := by kernel_rfl
@[simp] theorem zero32 : zeroA Try.prog 32 = some [.pointer none] := by kernel_rfl
@[simp] theorem tk32 : tk Try.prog 32 = .pointer := by kernel_rfl
@[simp] theorem shp33 : shp Try.prog 33 = some (false, 1) := by kernel_rfl
@[simp] theorem zero33 : zeroA Try.prog 33 = some [.slice none 0 0] := by kernel_rfl
@[simp] theorem tk33 : tk Try.prog 33 = .slice := by kernel_rfl
@[simp] theorem elemS33 : elemS Try.prog 33 = some (27, 5, 48) := by kernel_rfl
@[simp] theorem shp35 : shp Try.prog 35 = some (false, 1) := by kernel_rfl
@[simp] theorem zero35 : zeroA Try.prog 35 = some [.nilFunc] := by kernel_rfl
@[simp] theorem tk35 : tk Try.prog 35 = .func := by kernel_rfl
@[simp] theorem shp36 : shp Try.prog 36 = some (true, 2) := by kernel_rfl
@[simp] theorem zero36 : zeroA Try.prog 36 = some [.slice none 0 0, .bool false] := by kernel_rfl
@[simp] theorem tk36 : tk Try.prog 36 = .other := by kernel_rfl
@[simp] theorem fld36_0 : fld Try.prog 36 0 = some 0 := by kernel_rfl
@[simp] theorem fieldA36_0 : fieldA Try.prog 36 0 = some (22, 0) := by kernel_rfl
@[simp] theorem fld36_1 : fld Try.prog 36 1 = some 1 := by kernel_rfl
@[simp] theorem fieldA36_1 : fieldA Try.prog 36 1 = some (4, 1) := by kernel_rfl
@[simp] theorem pl36 : plA Try.prog 36 = some [(0, 1), (1, 1)] := by kernel_rfl
@[simp] theorem shp37 : shp Try.prog 37 = some (true, 2) := by kernel_rfl
@[simp] theorem zero37 : zeroA Try.prog 37 = some [.slice none 0 0, .bool false] := by kernel_rfl
@[simp] theorem tk37 : tk Try.prog 37 = .other := by kernel_rfl
@[simp] theorem fld37_0 : fld Try.prog 37 0 = some 0 := by kernel_rfl
@[simp] theorem fieldA37_0 : fieldA Try.prog 37 0 = some (22, 0) := by kernel_rfl
@[simp] theorem fld37_1 : fld Try.prog 37 1 = some 1 := by kernel_rfl
@[simp] theorem fieldA37_1 : fieldA Try.prog 37 1 = some (4, 1) := by kernel_rfl
@[simp] theorem pl37 : plA Try.prog 37 = some [(0, 1), (1, 1)] := by kernel_rfl
@[simp] theorem shp38 : shp Try.prog 38 = some (false, 1) := by kernel_rfl
@[simp] theorem zero38 : zeroA Try.prog 38 = some [.nilFunc] := by kernel_rfl
@[simp] theorem tk38 : tk Try.prog 38 = .func := by kernel_rfl
@[simp] theorem shp39 : shp Try.prog 39 = some (false, 1) := by kernel_rfl
@[simp] theorem zero39 : zeroA Try.prog 39 = some [.nilFunc] := by kernel_rfl
@[simp] theorem tk39 : tk Try.prog 39 = .func := by kernel_rfl
@[simp] theorem shp40 : shp Try.prog 40 = some (false, 1) := by kernel_rfl
@[simp] theorem zero40 : zeroA Try.prog 40 = some [.int .i64 0] := by kernel_rfl
@[simp] theorem tk40 : tk Try.prog 40 = .int := by kernel_rfl
@[simp] theorem shp42 : shp Try.prog 42 = some (false, 1) := by kernel_rfl
@[simp] theorem zero42 : zeroA Try.prog 42 = some [.nilFunc] := by kernel_rfl
@[simp] theorem tk42 : tk Try.prog 42 = .func := by kernel_rfl
@[simp] theorem shp43 : shp Try.prog 43 = some (true, 3) := by kernel_rfl
@[simp] theorem zero43 : zeroA Try.prog 43 = some [.int .i64 0, .int .i64 0, .int .i64 0] := by kernel_rfl
@[simp] theorem tk43 : tk Try.prog 43 = .array 3 := by kernel_rfl
@[simp] theorem elemR43 : elemR Try.prog 43 = some (3, 1) := by kernel_rfl
@[simp] theorem pl43 : plA Try.prog 43 = some [(0, 1), (1, 1), (2, 1)] := by kernel_rfl
@[simp] theorem shp44 : shp Try.prog 44 = some (false, 1) := by kernel_rfl
@[simp] theorem zero44 : zeroA Try.prog 44 = some [.nilFunc] := by kernel_rfl
@[simp] theorem tk44 : tk Try.prog 44 = .func := by kernel_rfl
@[simp] theorem shp45 : shp Try.prog 45 = some (false, 1) := by kernel_rfl
@[simp] theorem zero45 : zeroA Try.prog 45 = some [.nilFunc] := by kernel_rfl
@[simp] theorem tk45 : tk Try.prog 45 = .func := by kernel_rfl
@[simp] theorem shp46 : shp Try.prog 46 = some (false, 1) := by kernel_rfl
@[simp] theorem zero46 : zeroA Try.prog 46 = some [.nilFunc] := by kernel_rfl
@[simp] theorem tk46 : tk Try.prog 46 = .func := by kernel_rfl
@[simp] theorem shp47 : shp Try.prog 47 = some (false, 1) := by kernel_rfl
@[simp] theorem zero47 : zeroA Try.prog 47 = some [.nilFunc] := by kernel_rfl
@[simp] theorem tk47 : tk Try.prog 47 = .func := by kernel_rfl
@[simp] theorem shp48 : shp Try.prog 48 = some (false, 1) := by kernel_rfl
@[simp] theorem zero48 : zeroA Try.prog 48 = some [.nilFunc] := by kernel_rfl
@[simp] theorem tk48 : tk Try.prog 48 = .func := by kernel_rfl
@[simp] theorem shp50 : shp Try.prog 50 = some (false, 1) := by kernel_rfl
@[simp] theorem zero50 : zeroA Try.prog 50 = some [.nilFunc] := by kernel_rfl
@[simp] theorem tk50 : tk Try.prog 50 = .func := by kernel_rfl
@[simp] theorem shp52 : shp Try.prog 52 = some (false, 1) := by kernel_rfl
@[simp] theorem zero52 : zeroA Try.prog 52 = some [.nilFunc] := by kernel_rfl
@[simp] theorem tk52 : tk Try.prog 52 = .func := by kernel_rfl
@[simp] theorem shp53 : shp Try.prog 53 = some (false, 1) := by kernel_rfl
@[simp] theorem zero53 : zeroA Try.prog 53 = some [.nilFunc] := by kernel_rfl
@[simp] theorem tk53 : tk Try.prog 53 = .func := by kernel_rfl
@[simp] theorem shp54 : shp Try.prog 54 = some (false, 1) := by kernel_rfl
@[simp] theorem zero54 : zeroA Try.prog 54 = some [.nilFunc] := by kernel_rfl
@[simp] theorem tk54 : tk Try.prog 54 = .func := by kernel_rfl
@[simp] theorem shp55 : shp Try.prog 55 = some (false, 1) := by kernel_rfl
@[simp] theorem zero55 : zeroA Try.prog 55 = some [.nilFunc] := by kernel_rfl
@[simp] theorem tk55 : tk Try.prog 55 = .func := by kernel_rfl
@[simp] theorem shp56 : shp Try.prog 56 = some (true, 4) := by kernel_rfl
@[simp] theorem zero56 : zeroA Try.prog 56 = some [.slice none 0 0, .int .i64 0, .int .i64 0, .int .i64 0] := by kernel_rfl
@[simp] theorem tk56 : tk Try.prog 56 = .other := by kernel_rfl
@[simp] theorem fld56_0 : fld Try.prog 56 0 = some 0 := by kernel_rfl
@[simp] theorem fieldA56_0 : fieldA Try.prog 56 0 = some (33, 0) := by kernel_rfl
@[simp] theorem fld56_1 : fld Try.prog 56 1 = some 1 := by kernel_rfl
@[simp] theorem fieldA56_1 : fieldA Try.prog 56 1 = some (43, 1) := by kernel_rfl
@[simp] theorem pl56 : plA Try.prog 56 = some [(0, 1), (1, 3)] := by kernel_rfl
@[simp] theorem shp57 : shp Try.prog 57 = some (true, 4) := by kernel_rfl
@[simp] theorem zero57 : zeroA Try.prog 57 = some [.slice none 0 0, .int .i64 0, .int .i64 0, .int .i64 0] := by kernel_rfl
@[simp] theorem tk57 : tk Try.prog 57 = .other := by kernel_rfl
@[simp] theorem fld57_0 : fld Try.prog 57 0 = some 0 := by kernel_rfl
@[simp] theorem fieldA57_0 : fieldA Try.prog 57 0 = some (33, 0) := by kernel_rfl
@[simp] theorem fld57_1 : fld Try.prog 57 1 = some 1 := by kernel_rfl
@[simp] theorem fieldA57_1 : fieldA Try.prog 57 1 = some (43, 1) := by kernel_rfl
@[simp] theorem pl57 : plA Try.prog 57 = some [(0, 1), (1, 3)] := by kernel_rfl
@[simp] theorem shp58 : shp Try.prog 58 = some (false, 1) := by kernel_rfl
@[simp] theorem zero58 : zeroA Try.prog 58 = some [.nilFunc] := by kernel_rfl
@[simp] theorem tk58 : tk Try.prog 58 = .func := by kernel_rfl
@[simp] theorem shp59 : shp Try.prog 59 = some (true, 4) := by kernel_rfl
@[simp] theorem zero59 : zeroA Try.prog 59 = some [.pointer none, .pointer none, .pointer none, .string ⟨#[]⟩] := by kernel_rfl
@[simp] theorem tk59 : tk Try.prog 59 = .other := by kernel_rfl
@[simp] theorem fld59_0 : fld Try.prog 59 0 = some 0 := by kernel_rfl
@[simp] theorem fieldA59_0 : fieldA Try.prog 59 0 = some (17, 0) := by kernel_rfl
@[simp] theorem fld59_1 : fld Try.prog 59 1 = some 1 := by kernel_rfl
@[simp] theorem fieldA59_1 : fieldA Try.prog 59 1 = some (17, 1) := by kernel_rfl
@[simp] theorem fld59_2 : fld Try.prog 59 2 = some 2 := by kernel_rfl
@[simp] theorem fieldA59_2 : fieldA Try.prog 59 2 = some (17, 2) := by kernel_rfl
@[simp] theorem fld59_3 : fld Try.prog 59 3 = some 3 := by kernel_rfl
@[simp] theorem fieldA59_3 : fieldA Try.prog 59 3 = some (9, 3) := by kernel_rfl
@[simp] theorem pl59 : plA Try.prog 59 = some [(0, 1), (1, 1), (2, 1), (3, 1)] := by kernel_rfl
@[simp] theorem shp60 : shp Try.prog 60 = some (true, 4) := by kernel_rfl
@[simp] theorem zero60 : zeroA Try.prog 60 = some [.pointer none, .pointer none, .pointer none, .string ⟨#[]⟩] := by kernel_rfl
@[simp] theorem tk60 : tk Try.prog 60 = .other := by kernel_rfl
@[simp] theorem fld60_0 : fld Try.prog 60 0 = some 0 := by kernel_rfl
@[simp] theorem fieldA60_0 : fieldA Try.prog 60 0 = some (17, 0) := by kernel_rfl
@[simp] theorem fld60_1 : fld Try.prog 60 1 = some 1 := by kernel_rfl
@[simp] theorem fieldA60_1 : fieldA Try.prog 60 1 = some (17, 1) := by kernel_rfl
@[simp] theorem fld60_2 : fld Try.prog 60 2 = some 2 := by kernel_rfl
@[simp] theorem fieldA60_2 : fieldA Try.prog 60 2 = some (17, 2) := by kernel_rfl
@[simp] theorem fld60_3 : fld Try.prog 60 3 = some 3 := by kernel_rfl
@[simp] theorem fieldA60_3 : fieldA Try.prog 60 3 = some (9, 3) := by kernel_rfl
@[simp] theorem pl60 : plA Try.prog 60 = some [(0, 1), (1, 1), (2, 1), (3, 1)] := by kernel_rfl
@[simp] theorem shp61 : shp Try.prog 61 = some (true, 0) := by kernel_rfl
@[simp] theorem zero61 : zeroA Try.prog 61 = some [] := by kernel_rfl
@[simp] theorem tk61 : tk Try.prog 61 = .array 0 := by kernel_rfl
@[simp] theorem elemR61 : elemR Try.prog 61 = some (0, 1) := by kernel_rfl
@[simp] theorem pl61 : plA Try.prog 61 = some [] := by kernel_rfl
@[simp] theorem shp62 : shp Try.prog 62 = some (true, 0) := by kernel_rfl
@[simp] theorem zero62 : zeroA Try.prog 62 = some [] := by kernel_rfl
@[simp] theorem tk62 : tk Try.prog 62 = .other := by kernel_rfl
@[simp] theorem fieldA62_0 : fieldA Try.prog 62 0 = some (61, 0) := by kernel_rfl
@[simp] theorem pl62 : plA Try.prog 62 = some [(0, 0)] := by kernel_rfl
@[simp] theorem shp63 : shp Try.prog 63 = some (true, 0) := by kernel_rfl
@[simp] theorem zero63 : zeroA Try.prog 63 = some [] := by kernel_rfl
@[simp] theorem tk63 : tk Try.prog 63 = .other := by kernel_rfl
@[simp] theorem fieldA63_0 : fieldA Try.prog 63 0 = some (61, 0) := by kernel_rfl
@[simp] theorem pl63 : plA Try.prog 63 = some [(0, 0)] := by kernel_rfl
@[simp] theorem shp64 : shp Try.prog 64 = some (false, 1) := by kernel_rfl
@[simp] theorem zero64 : zeroA Try.prog 64 = some [.int .u32 0] := by kernel_rfl
@[simp] theorem tk64 : tk Try.prog 64 = .int := by kernel_rfl
@[simp] theorem shp65 : shp Try.prog 65 = some (false, 1) := by kernel_rfl
@[simp] theorem zero65 : zeroA Try.prog 65 = some [.int .u8 0] := by kernel_rfl
@[simp] theorem tk65 : tk Try.prog 65 = .int := by kernel_rfl
@[simp] theorem shp66 : shp Try.prog 66 = some (false, 1) := by kernel_rfl
@[simp] theorem zero66 : zeroA Try.prog 66 = some [.int .u8 0] := by kernel_rfl
@[simp] theorem tk66 : tk Try.prog 66 = .int := by kernel_rfl
@[simp] theorem shp67 : shp Try.prog 67 = some (false, 1) := by kernel_rfl
@[simp] theorem zero67 : zeroA Try.prog 67 = some [.nilFunc] := by kernel_rfl
@[simp] theorem tk67 : tk Try.prog 67 = .func := by kernel_rfl
@[simp] theorem shp68 : shp Try.prog 68 = some (false, 1) := by kernel_rfl
@[simp] theorem zero68 : zeroA Try.prog 68 = some [.pointer none] := by kernel_rfl
@[simp] theorem tk68 : tk Try.prog 68 = .pointer := by kernel_rfl
@[simp] theorem shp69 : shp Try.prog 69 = some (false, 1) := by kernel_rfl
@[simp] theorem zero69 : zeroA Try.prog 69 = some [.int .i32 0] := by kernel_rfl
@[simp] theorem tk69 : tk Try.prog 69 = .int := by kernel_rfl
@[simp] theorem shp70 : shp Try.prog 70 = some (false, 1) := by kernel_rfl
@[simp] theorem zero70 : zeroA Try.prog 70 = some [.int .i32 0] := by kernel_rfl
@[simp] theorem tk70 : tk Try.prog 70 = .int := by kernel_rfl
@[simp] theorem shp71 : shp Try.prog 71 = some (true, 11) := by kernel_rfl
@[simp] theorem zero71 : zeroA Try.prog 71 = some [.int .u64 0, .int .u64 0, .int .u32 0, .int .u8 0, .int .u8 0, .int .u8 0, .int .u8 0, .nilFunc, .pointer none, .int .i32 0, .int .i32 0] := by kernel_rfl
@[simp] theorem tk71 : tk Try.prog 71 = .other := by kernel_rfl
@[simp] theorem fld71_0 : fld Try.prog 71 0 = some 0 := by kernel_rfl
@[simp] theorem fieldA71_0 : fieldA Try.prog 71 0 = some (12, 0) := by kernel_rfl
@[simp] theorem fld71_1 : fld Try.prog 71 1 = some 1 := by kernel_rfl
@[simp] theorem fieldA71_1 : fieldA Try.prog 71 1 = some (12, 1) := by kernel_rfl
@[simp] theorem fld71_2 : fld Try.prog 71 2 = some 2 := by kernel_rfl
@[simp] theorem fieldA71_2 : fieldA Try.prog 71 2 = some (64, 2) := by kernel_rfl
@[simp] theorem fld71_3 : fld Try.prog 71 3 = some 3 := by kernel_rfl
@[simp] theorem fieldA71_3 : fieldA Try.prog 71 3 = some (65, 3) := by kernel_rfl
@[simp] theorem fld71_4 : fld Try.prog 71 4 = some 4 := by kernel_rfl
@[simp] theorem fieldA71_4 : fieldA Try.prog 71 4 = some (5, 4) := by kernel_rfl
@[simp] theorem fld71_5 : fld Try.prog 71 5 = some 5 := by kernel_rfl
@[simp] theorem fieldA71_5 : fieldA Try.prog 71 5 = some (5, 5) := by kernel_rfl
@[simp] theorem fld71_6 : fld Try.prog 71 6 = some 6 := by kernel_rfl
@[simp] theorem fieldA71_6 : fieldA Try.prog 71 6 = some (66, 6) := by kernel_rfl
@[simp] theorem fld71_7 : fld Try.prog 71 7 = some 7 := by kernel_rfl
@[simp] theorem fieldA71_7 : fieldA Try.prog 71 7 = some (67, 7) := by kernel_rfl
@[simp] theorem fld71_8 : fld Try.prog 71 8 = some 8 := by kernel_rfl
@[simp] theorem fieldA71_8 : fieldA Try.prog 71 8 = some (68, 8) := by kernel_rfl
@[simp] theorem fld71_9 : fld Try.prog 71 9 = some 9 := by kernel_rfl
@[simp] theorem fieldA71_9 : fieldA Try.prog 71 9 = some (69, 9) := by kernel_rfl
@[simp] theorem fld71_10 : fld Try.prog 71 10 = some 10 := by kernel_rfl
@[simp] theorem fieldA71_10 : fieldA Try.prog 71 10 = some (70, 10) := by kernel_rfl
@[simp] theorem pl71 : plA Try.prog 71 = some [(0, 1), (1, 1), (2, 1), (3, 1), (4, 1), (5, 1), (6, 1), (7, 1), (8, 1), (9, 1), (10, 1)] := by kernel_rfl
@[simp] theorem shp72 : shp Try.prog 72 = some (true, 11) := by kernel_rfl
@[simp] theorem zero72 : zeroA Try.prog 72 = some [.int .u64 0, .int .u64 0, .int .u32 0, .int .u8 0, .int .u8 0, .int .u8 0, .int .u8 0, .nilFunc, .pointer none, .int .i32 0, .int .i32 0] := by kernel_rfl
@[simp] theorem tk72 : tk Try.prog 72 = .other := by kernel_rfl
@[simp] theorem fld72_0 : fld Try.prog 72 0 = some 0 := by kernel_rfl
@[simp] theorem fieldA72_0 : fieldA Try.prog 72 0 = some (12, 0) := by kernel_rfl
@[simp] theorem fld72_1 : fld Try.prog 72 1 = some 1 := by kernel_rfl
@[simp] theorem fieldA72_1 : fieldA Try.prog 72 1 = some (12, 1) := by kernel_rfl
@[simp] theorem fld72_2 : fld Try.prog 72 2 = some 2 := by kernel_rfl
@[simp] theorem fieldA72_2 : fieldA Try.prog 72 2 = some (64, 2) := by kernel_rfl
@[simp] theorem fld72_3 : fld Try.prog 72 3 = some 3 := by kernel_rfl
@[simp] theorem fieldA72_3 : fieldA Try.prog 72 3 = some (65, 3) := by kernel_rfl
@[simp] theorem fld72_4 : fld Try.prog 72 4 = some 4 := by kernel_rfl
@[simp] theorem fieldA72_4 : fieldA Try.prog 72 4 = some (5, 4) := by kernel_rfl
@[simp] theorem fld72_5 : fld Try.prog 72 5 = some 5 := by kernel_rfl
@[simp] theorem fieldA72_5 : fieldA Try.prog 72 5 = some (5, 5) := by kernel_rfl
@[simp] theorem fld72_6 : fld Try.prog 72 6 = some 6 := by kernel_rfl
@[simp] theorem fieldA72_6 : fieldA Try.prog 72 6 = some (66, 6) := by kernel_rfl
@[simp] theorem fld72_7 : fld Try.prog 72 7 = some 7 := by kernel_rfl
@[simp] theorem fieldA72_7 : fieldA Try.prog 72 7 = some (67, 7) := by kernel_rfl
@[simp] theorem fld72_8 : fld Try.prog 72 8 = some 8 := by kernel_rfl
@[simp] theorem fieldA72_8 : fieldA Try.prog 72 8 = some (68, 8) := by kernel_rfl
@[simp] theorem fld72_9 : fld Try.prog 72 9 = some 9 := by kernel_rfl
@[simp] theorem fieldA72_9 : fieldA Try.prog 72 9 = some (69, 9) := by kernel_rfl
@[simp] theorem fld72_10 : fld Try.prog 72 10 = some 10 := by kernel_rfl
@[simp] theorem fieldA72_10 : fieldA Try.prog 72 10 = some (70, 10) := by kernel_rfl
@[simp] theorem pl72 : plA Try.prog 72 = some [(0, 1), (1, 1), (2, 1), (3, 1), (4, 1), (5, 1), (6, 1), (7, 1), (8, 1), (9, 1), (10, 1)] := by kernel_rfl
@[simp] theorem shp73 : shp Try.prog 73 = some (false, 1) := by kernel_rfl
@[simp] theorem zero73 : zeroA Try.prog 73 = some [.pointer none] := by kernel_rfl
@[simp] theorem tk73 : tk Try.prog 73 = .other := by kernel_rfl
@[simp] theorem ent2 : entB Try.prog 2 = true := by kernel_rfl
@[simp] theorem ent3 : entB Try.prog 3 = true := by kernel_rfl
@[simp] theorem ent4 : entB Try.prog 4 = true := by kernel_rfl
@[simp] theorem ent5 : entB Try.prog 5 = true := by kernel_rfl
@[simp] theorem ent6 : entB Try.prog 6 = true := by kernel_rfl
@[simp] theorem ent7 : entB Try.prog 7 = true := by kernel_rfl
@[simp] theorem ent8 : entB Try.prog 8 = true := by kernel_rfl
@[simp] theorem ent9 : entB Try.prog 9 = true := by kernel_rfl
@[simp] theorem ent10 : entB Try.prog 10 = true := by kernel_rfl
@[simp] theorem ent11 : entB Try.prog 11 = true := by kernel_rfl
@[simp] theorem ent12 : entB Try.prog 12 = true := by kernel_rfl
@[simp] theorem ent13 : entB Try.prog 13 = true := by kernel_rfl
@[simp] theorem ent14 : entB Try.prog 14 = true := by kernel_rfl
@[simp] theorem ent15 : entB Try.prog 15 = true := by kernel_rfl
@[simp] theorem ent16 : entB Try.prog 16 = true := by kernel_rfl
@[simp] theorem ent17 : entB Try.prog 17 = true := by kernel_rfl
@[simp] theorem ent18 : entB Try.prog 18 = true := by kernel_rfl
@[simp] theorem ent19 : entB Try.prog 19 = true := by kernel_rfl
@[simp] theorem ent20 : entB Try.prog 20 = true := by kernel_rfl
@[simp] theorem ent21 : entB Try.prog 21 = true := by kernel_rfl
@[simp] theorem ent22 : entB Try.prog 22 = true := by kernel_rfl
@[simp] theorem ent23 : entB Try.prog 23 = true := by kernel_rfl
@[simp] theorem ent24 : entB Try.prog 24 = true := by kernel_rfl
@[simp] theorem ent25 : entB Try.prog 25 = true := by kernel_rfl
@[simp] theorem ent26 : entB Try.prog 26 = true := by kernel_rfl
theorem eqr25 {x0 y0 : Int} {x1 y1 : Int} {x2 y2 : Int} {x3 y3 : ByteArray} : EqRun Try.prog 25 [.int .i64 x0, .int .i64 x1, .int .i64 x2, .string x3] [.int .i64 y0, .int .i64 y1, .int .i64 y2, .string y3] (decide (x0 = y0 ∧ x1 = y1 ∧ x2 = y2 ∧ x3 = y3)) := by
  refine ⟨by simp [flat], by simp [flat], by kernel_rfl, fun w => ?_⟩
  unfold Op.equal Op.maxDepth
  simp [go_sem, str_beq]
  repeat' split
  all_goals simp_all
@[simp ↓] theorem eql25 {x0 y0 : Int} {x1 y1 : Int} {x2 y2 : Int} {x3 y3 : ByteArray} {k : Value → Prop} : binK Try.prog .eql 25 (.agg #[.int .i64 x0, .int .i64 x1, .int .i64 x2, .string x3]) (.agg #[.int .i64 y0, .int .i64 y1, .int .i64 y2, .string y3]) k = k (.bool (decide (x0 = y0 ∧ x1 = y1 ∧ x2 = y2 ∧ x3 = y3))) := EqRun.eql eqr25
attribute [simp] eql25
@[simp ↓] theorem neq25 {x0 y0 : Int} {x1 y1 : Int} {x2 y2 : Int} {x3 y3 : ByteArray} {k : Value → Prop} : binK Try.prog .neq 25 (.agg #[.int .i64 x0, .int .i64 x1, .int .i64 x2, .string x3]) (.agg #[.int .i64 y0, .int .i64 y1, .int .i64 y2, .string y3]) k = k (.bool !(decide (x0 = y0 ∧ x1 = y1 ∧ x2 = y2 ∧ x3 = y3))) := EqRun.neq eqr25
attribute [simp] neq25
theorem eqr27 {x0 y0 : Int} {x1 y1 : Int} {x2 y2 : Int} {x3 y3 : Int} {x4 y4 : ByteArray} : EqRun Try.prog 27 [.int .i64 x0, .int .i64 x1, .int .i64 x2, .int .i64 x3, .string x4] [.int .i64 y0, .int .i64 y1, .int .i64 y2, .int .i64 y3, .string y4] (decide (x0 = y0 ∧ x1 = y1 ∧ x2 = y2 ∧ x3 = y3 ∧ x4 = y4)) := by
  refine ⟨by simp [flat], by simp [flat], by kernel_rfl, fun w => ?_⟩
  unfold Op.equal Op.maxDepth
  simp [go_sem, str_beq]
  repeat' split
  all_goals simp_all
@[simp ↓] theorem eql27 {x0 y0 : Int} {x1 y1 : Int} {x2 y2 : Int} {x3 y3 : Int} {x4 y4 : ByteArray} {k : Value → Prop} : binK Try.prog .eql 27 (.agg #[.int .i64 x0, .int .i64 x1, .int .i64 x2, .int .i64 x3, .string x4]) (.agg #[.int .i64 y0, .int .i64 y1, .int .i64 y2, .int .i64 y3, .string y4]) k = k (.bool (decide (x0 = y0 ∧ x1 = y1 ∧ x2 = y2 ∧ x3 = y3 ∧ x4 = y4))) := EqRun.eql eqr27
attribute [simp] eql27
@[simp ↓] theorem neq27 {x0 y0 : Int} {x1 y1 : Int} {x2 y2 : Int} {x3 y3 : Int} {x4 y4 : ByteArray} {k : Value → Prop} : binK Try.prog .neq 27 (.agg #[.int .i64 x0, .int .i64 x1, .int .i64 x2, .int .i64 x3, .string x4]) (.agg #[.int .i64 y0, .int .i64 y1, .int .i64 y2, .int .i64 y3, .string y4]) k = k (.bool !(decide (x0 = y0 ∧ x1 = y1 ∧ x2 = y2 ∧ x3 = y3 ∧ x4 = y4))) := EqRun.neq eqr27
attribute [simp] neq27
theorem eqr43 {x0 y0 : Int} {x1 y1 : Int} {x2 y2 : Int} : EqRun Try.prog 43 [.int .i64 x0, .int .i64 x1, .int .i64 x2] [.int .i64 y0, .int .i64 y1, .int .i64 y2] (decide (x0 = y0 ∧ x1 = y1 ∧ x2 = y2)) := by
  refine ⟨by simp [flat], by simp [flat], by kernel_rfl, fun w => ?_⟩
  unfold Op.equal Op.maxDepth
  obtain ⟨i, hi⟩ : ∃ i, Try.prog.info? 3 = some i := ⟨_, rfl⟩
  rw [run_equalIn_array (d := 9999) (n := 3) (e := 3) (hu := by kernel_rfl) (hi := hi)]
  have h1 : Try.prog.cellsOf 3 = 1 := by kernel_rfl
  simp [go_sem, h1, Op.eqItems, List.range, List.range.loop, str_beq]
  repeat' split
  all_goals simp_all
@[simp ↓] theorem eql43 {x0 y0 : Int} {x1 y1 : Int} {x2 y2 : Int} {k : Value → Prop} : binK Try.prog .eql 43 (.agg #[.int .i64 x0, .int .i64 x1, .int .i64 x2]) (.agg #[.int .i64 y0, .int .i64 y1, .int .i64 y2]) k = k (.bool (decide (x0 = y0 ∧ x1 = y1 ∧ x2 = y2))) := EqRun.eql eqr43
attribute [simp] eql43
@[simp ↓] theorem neq43 {x0 y0 : Int} {x1 y1 : Int} {x2 y2 : Int} {k : Value → Prop} : binK Try.prog .neq 43 (.agg #[.int .i64 x0, .int .i64 x1, .int .i64 x2]) (.agg #[.int .i64 y0, .int .i64 y1, .int .i64 y2]) k = k (.bool !(decide (x0 = y0 ∧ x1 = y1 ∧ x2 = y2))) := EqRun.neq eqr43
attribute [simp] neq43
end Go.Aw.Tab
